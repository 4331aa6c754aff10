/- What frame.Wrap comes to. -/
import Derived.Test.YtiffmklefiehkaaDoorGood
import Derived.Deep.DeepMust
import Derived.Test.YtiffmklefiehkaaDoorWMore
namespace Go.Proofs.YtiffmklefiehkaaDoor
open Go.RowKit Go.Proofs.YtiffmklefiehkaaDoorW.PrintWords

theorem info5 : (Tryd.prog.info? 5).map (fun i => (i.zero, i.size, i.bytes)) = some (some (.int .u8 0), 1, 1) := by kernel_rfl
/-- A slice of bytes of the call's own, from block base on. -/
abbrev Own (w : World) (base : Nat) (v : Value) (xs : List Int) : Prop := Kd.R (Kd.int .u8) 5 w base (fun _ => True) v xs

theorem own_of_row {w : World} {base : Nat} {v : Value} {n : Nat} {xs : List Int} (h : w.ownsRow base 5 1 v n (nums .u8 xs)) : Own w base v xs := by
  have hn : xs.length = n := by have := h.1; simp [nums_length] at this; exact this
  subst hn
  refine ⟨fun _ _ => trivial, nums .u8 xs, h, ?_⟩
  refine ⟨by simp [nums_length, Kd.int, Kd.scalar], fun j p hj => ?_⟩
  show List.take 1 (List.drop (j * 1) (nums .u8 xs)) = [.int .u8 p]
  have hjl := (List.getElem?_eq_some_iff.1 hj).1
  have hjv := (List.getElem?_eq_some_iff.1 hj).2
  rw [Nat.mul_one, List.drop_eq_getElem_cons (by simpa [nums_length] using hjl)]
  simp [nums, hjv]

theorem wpList_app {ops : Array Oper} {rest : List Oper} {o : Oper} {a : Act} {Q : Exit → Act → World → Prop} (w0 W : World) (hgd : o.guard = none) (s x : Operand)
    (ho : o.op = .call { callee := .builtin .append, args := #[s, x], argTypes := #[22, 22] }) (v : Value) (xs : List Int) (A : Option Addr) (m c : Nat) (ys : List Int) (hs : a.eval s = v) (hx : a.eval x = .slice A m c)
    (HO : Own W w0.heap.size v xs) (HR : Kd.C (Kd.int .u8) W A m ys) (HB : Below w0.heap.size w0 W) (hl : xs.length + m ≤ 140737488355328)
    (h : ∀ v1 w1, Own w1 w0.heap.size v1 (xs ++ ys) → Below w0.heap.size w0 w1 → wpList Tryd.prog ops Q rest (a.put o.dst v1) w1) : wpList Tryd.prog ops Q (o :: rest) a W :=
  Kd.R_append_rows (Kd.int .u8) (w0 := w0) w0.heap.size hgd s x 22 5 (.int .u8 0) 1 ho Tryd.underlying22 info5 rfl (by decide) (by omega) v xs ys A m c (fun _ => True) (fun _ => False) hs hx
    HO HR (fun _ _ h => h) (fun _ h => h.elim) (fun _ _ => trivial) HB HB.size (by omega) fun v1 w1 h1 h2 _ _ => h v1 w1 h1 h2

theorem C_lit1 (w : World) (x : Int) (t : Nat) : Kd.C (Kd.int .u8) (w.alloc (.cells #[.int .u8 x] t)) (some ⟨w.heap.size, 0, none⟩) 1 [x] := by
  refine ⟨rfl, by omega, fun _ => ⟨_, rfl, fun j p hj => ⟨[.int .u8 p], rfl, rfl, fun i u hu => ?_⟩⟩⟩
  rcases j with _ | j
  · rcases i with _ | i
    · simp at hj hu
      subst hj hu
      rw [add_plain, blk_cell (blk_new _ _)]; rfl
    · simp at hu
  · simp at hj
theorem C_lit2 (w : World) (x y : Int) (t : Nat) : Kd.C (Kd.int .u8) (w.alloc (.cells #[.int .u8 x, .int .u8 y] t)) (some ⟨w.heap.size, 0, none⟩) 2 [x, y] := by
  refine ⟨rfl, by omega, fun _ => ⟨_, rfl, fun j p hj => ⟨[.int .u8 p], rfl, rfl, fun i u hu => ?_⟩⟩⟩
  rcases i with _ | i
  · rcases j with _ | _ | j
    · simp at hj hu
      subst hj hu
      rw [add_plain, blk_cell (blk_new _ _)]; rfl
    · simp at hj hu
      subst hj hu
      rw [add_plain, blk_cell (blk_new _ _)]; rfl
    · simp at hj
  · simp at hu

theorem count_any (n : Int) (w : World) (h0 : 0 ≤ n) (h1 : n < 4611686018427387904) : Calls Tryd.prog 14 #[.int .i64 n] w fun e w' => e = .returned (.int .i64 (n + 3)) ∧ w' = w := by
  go_enter Tryd.func14, Tryd.ntmps14
  go_wp2
  go_ret
  exact ⟨rfl, rfl⟩

set_option maxHeartbeats 400000 in
set_option maxRecDepth 100000 in
theorem frame_Wrap.no (A0 : Option Addr) (c0 : Nat) (l0 : List Int) (w : World) (hG : Glob w) (hr0 : Kd.C (Kd.int .u8) w A0 l0.length l0) (hc0 : l0.length ≤ c0) (h : frame_Good.f l0 = some false) :
    Calls Tryd.prog 12 #[.slice A0 l0.length c0] w fun e w' => e = .returned (.tuple #[.slice none 0 0, .int .i64 10]) ∧ Below w.heap.size w w' := by
  have HR := Aside0.mk hr0; have HG := Aside0.mk hG; have HC := Aside0.mk hc0; have H := Aside0.mk h
  clear hr0 hG hc0 h
  go_enter Tryd.func12, Tryd.ntmps12
  go_wp2_with (go_at_call 15; refine (frame_Good.calls _ _ _ _ _ HG.out HR.out HC.out H.out).mono ?_; rintro e w' ⟨rfl, hb⟩)
  go_ret2
  exact ⟨rfl, by assumption⟩

set_option maxHeartbeats 400000 in
set_option maxRecDepth 100000 in
theorem frame_Wrap.yes (A0 : Option Addr) (c0 : Nat) (l0 : List Int) (w : World) (hG : Glob w) (hr0 : Kd.C (Kd.int .u8) w A0 l0.length l0) (hc0 : l0.length ≤ c0) (h : frame_Good.f l0 = some true) :
    Calls Tryd.prog 12 #[.slice A0 l0.length c0] w fun e w' => ∃ v, e = .returned (.tuple #[v, .int .i64 0]) ∧ Own w' w.heap.size v (11 :: l0 ++ [28, 13]) ∧ Below w.heap.size w w' := by
  have HR := Aside0.mk hr0; have HG := Aside0.mk hG; have HC := Aside0.mk hc0; have H := Aside0.mk h
  have hl : (l0.length : Int) < 4294967281 := by unfold frame_Good.f at h; split at h; (· rename_i hh; have := hh.2; omega); (· cases h)
  clear hr0 hG hc0 h
  obtain ⟨i0, hi, hz0, hz1, hz2⟩ := info_parts info5
  have Hi := Aside0.mk hi; have Hz0 := Aside0.mk hz0; have Hz1 := Aside0.mk hz1; have Hz2 := Aside0.mk hz2; clear hi hz0 hz1 hz2
  have HB := Aside0.mk (Below.refl w.heap.size w)
  go_enter Tryd.func12, Tryd.ntmps12
  go_wp2_with (first
    | (go_at_call 15; refine (frame_Good.calls _ _ _ _ _ HG.out HR.out HC.out H.out).mono ?_; rintro e w1 ⟨rfl, hb⟩; clear HB; have HB := Aside0.mk hb; clear hb)
    | (go_at_call 14; refine (count_any _ _ (by omega) (by omega)).mono ?_; rintro e w' ⟨rfl, hw⟩; have hw' := hw.symm; subst hw'; clear hw)
    | (at_make; refine wpList_make_own _ rfl _ _ 22 rfl w.heap.size 5 i0 (.int .u8 0) 1 Tryd.underlying22 Hi.out Hz0.out Hz1.out .i64 .i64 (l0.length + 3) (l0.length + 3) rfl rfl (by simp) ?c1 ?c2 ?c3 ?_; (case c1 => rw [Hz2.out]; omega); (case c2 => unfold maxLen; omega); (case c3 => exact HB.out.size); intro w2 hown hgrow; have HO := Aside0.mk (own_of_row (xs := []) hown); have HBn := Aside0.mk (HB.out.grown hgrow HB.out.size (by intro k hk; cases hk)); clear HB; have HB := HBn; clear HBn hown hgrow)
    | ((with_reducible refine gate_builtin (b := .append) (xs := #[.tmp 13, .tmp 14]) rfl ?_); at_builtin; go_must (refine wpList_app w _ rfl (.tmp 13) (.tmp 14) rfl _ [] _ _ _ [11] rfl rfl ?aO ?aR ?aB ?aL ?_); (case aO => exact Kd.R_alloc HO.out _); (case aR => exact C_lit1 _ _ _); (case aB => exact below_alloc HB.out _); (case aL => simp; done); intro v3 w3 ho hb; clear HO HB; have HO := Aside0.mk ho; have HB := Aside0.mk hb; clear ho hb)
    | ((with_reducible refine gate_builtin (b := .append) (xs := #[.tmp 16, .tmp 17]) rfl ?_); at_builtin; go_must (refine wpList_app w _ rfl (.tmp 16) (.tmp 17) rfl _ ([] ++ [11]) _ _ _ l0 rfl rfl ?aO ?aR ?aB ?aL ?_); (case aO => exact HO.out); (case aB => exact HB.out); (case aR => exact Kd.C_below HR.out HB.out); (case aL => simp; omega); intro v4 w4 ho hb; clear HO HB; have HO := Aside0.mk ho; have HB := Aside0.mk hb; clear ho hb; have e0 := (HG.out.below HB.out).e0; have e1 := (HG.out.below HB.out).e1)
    | ((with_reducible refine gate_builtin (b := .append) (xs := #[.tmp 20, .tmp 21]) rfl ?_); at_builtin; go_must (refine wpList_app w _ rfl (.tmp 20) (.tmp 21) rfl _ ([] ++ [11] ++ l0) _ _ _ [28, 13] rfl rfl ?aO ?aR ?aB ?aL ?_); (case aO => exact Kd.R_alloc HO.out _); (case aR => exact C_lit2 _ _ _ _); (case aB => exact below_alloc HB.out _); (case aL => simp; omega); intro v5 w5 ho hb; clear HO HB; have HO := Aside0.mk ho; have HB := Aside0.mk hb; clear ho hb))
  go_ret2
  exact ⟨_, rfl, by simpa using HO.out, HB.out⟩

def frame_Wrap.f (l0 : List Int) : Option (List Int × Int) := (frame_Good.f l0).map fun g => if g then (11 :: l0 ++ [28, 13], 0) else ([], 10)
theorem frame_Wrap.calls (A0 : Option Addr) (c0 : Nat) (l0 : List Int) (r1 : List Int) (r2 : Int) (w : World) (hG : Glob w) (hr0 : Kd.C (Kd.int .u8) w A0 l0.length l0) (hc0 : l0.length ≤ c0) (h : frame_Wrap.f l0 = some (r1, r2)) :
    Calls Tryd.prog 12 #[.slice A0 l0.length c0] w fun e w' => ∃ v0_ : Value, e = .returned (.tuple #[v0_, .int .i64 r2]) ∧ Kd.R (Kd.int .u8) 5 w' w.heap.size (fun _ => True) v0_ r1 ∧ Below w.heap.size w w' := by
  unfold frame_Wrap.f at h
  obtain ⟨g, hg, e⟩ := Option.map_eq_some_iff.1 h
  cases g with
  | true =>
    cases e
    exact (frame_Wrap.yes A0 c0 l0 w hG hr0 hc0 hg).mono fun e w' ⟨v, h1, h2, h3⟩ => ⟨v, h1, h2, h3⟩
  | false =>
    cases e
    exact (frame_Wrap.no A0 c0 l0 w hG hr0 hc0 hg).mono fun e w' ⟨h1, h2⟩ => ⟨_, h1, Kd.R_nil _ _ _ _ _, h2⟩
end Go.Proofs.YtiffmklefiehkaaDoor
