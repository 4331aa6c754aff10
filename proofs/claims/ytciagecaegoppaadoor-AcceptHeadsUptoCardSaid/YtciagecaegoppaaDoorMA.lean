/- The words of this seat: what the package-level variables hold, bytes, and what the shelf's contracts ask of a slice that reads as a list. What frame.Good comes to, as a function of the list of bytes. What frame.Wrap comes to. What frame.Unwrap comes to. Plain facts on lists of bytes: what frame.Good says, byte by byte. -/
import Derived.Test.YtciagecaegoppaaDoorProg
import Derived.Test.YtciagecaegoppaaDoorWWords
import Derived.Test.YtciagecaegoppaaDoorShelf
import Derived.Test.YtciagecaegoppaaDoorWMore
import Derived.WalkKit
import Derived.WalkSpells
import Derived.WalkLawsBesides
import Derived.BigQuiet
import Derived.Laws.Rows
import Derived.Deep.DeepMust
import Derived.OpenShut
namespace Go.Proofs.YtciagecaegoppaaDoor
set_option maxRecDepth 100000
open Go.RowKit Go.Proofs.YtciagecaegoppaaDoorW.PrintWords

/-- Each number is a byte's. -/
def Bytes (xs : List Int) : Prop := ∀ x ∈ xs, 0 ≤ x ∧ x < 256
instance (xs : List Int) : Decidable (Bytes xs) := inferInstanceAs (Decidable (∀ x ∈ xs, 0 ≤ x ∧ x < 256))

theorem Bytes.append {xs ys : List Int} (h : Bytes xs) (k : Bytes ys) : Bytes (xs ++ ys) := fun x hx => (List.mem_append.1 hx).elim (h x) (k x)
theorem Bytes.left {xs ys : List Int} (h : Bytes (xs ++ ys)) : Bytes xs := fun x hx => h x (List.mem_append_left _ hx)
theorem Bytes.right {xs ys : List Int} (h : Bytes (xs ++ ys)) : Bytes ys := fun x hx => h x (List.mem_append_right _ hx)
theorem Bytes.take {xs : List Int} (h : Bytes xs) (n : Nat) : Bytes (xs.take n) := fun x hx => h x (List.mem_of_mem_take hx)
theorem Bytes.drop {xs : List Int} (h : Bytes xs) (n : Nat) : Bytes (xs.drop n) := fun x hx => h x (List.mem_of_mem_drop hx)

/-- What the package-level variables hold: the frame's two last signs; some number. -/
structure Glob (w : World) : Prop where
  e0 : w.cell? ⟨1, 0, none⟩ = some (.int .u8 28)
  e1 : w.cell? ⟨1, 1, none⟩ = some (.int .u8 13)
  max : ∃ m : Int, w.cell? ⟨3, 0, none⟩ = some (.int .i64 m)

theorem Glob.below {w w' : World} (h : Glob w) (hb : Below w.heap.size w w') : Glob w' :=
  ⟨pw_cell_below hb h.e0, pw_cell_below hb h.e1, h.max.imp fun _ hm => pw_cell_below hb hm⟩
theorem Glob.alloc {w : World} (h : Glob w) (o : Obj) : Glob (w.alloc o) := h.below ((Below.refl _ w).alloc (Nat.le_refl _) o)
theorem Glob.drewN {w : World} (h : Glob w) (n : Nat) : Glob (w.drewN n) := h.below (pw_below_drewN (Below.refl _ w) n)

/-- The cells of a slice of bytes. -/
theorem cells_of_C {w : World} {a : Addr} {n : Nat} {xs : List Int} (h : Kd.C (Kd.int .u8) w (some a) n xs) : xs.length = n ∧ ∀ i, i < n → w.cell? (a.add i) = some (.int .u8 (xs.getD i 0)) := by
  refine ⟨h.1, fun i hi => ?_⟩
  obtain ⟨ad, e, hc⟩ := Kd.at_int h (i : Int) (by omega) (by omega)
  cases e
  simpa [rd] using hc

theorem in_of_C {w : World} {A : Option Addr} {n : Nat} {xs : List Int} (h : Kd.C (Kd.int .u8) w A n xs) : Lib.BytesIn w A n xs := by
  cases A with
  | none =>
    rcases Nat.eq_zero_or_pos n with rfl | hn
    · exact Lib.BytesIn.nil _ _ _
    · obtain ⟨ad, e, _⟩ := h.2.2 hn
      cases e
  | some a => exact Lib.BytesIn.of_cells (cells_of_C h).2

end Go.Proofs.YtciagecaegoppaaDoor
namespace Go.Proofs.YtciagecaegoppaaDoor
set_option maxRecDepth 100000
open Go.RowKit Go.Proofs.YtciagecaegoppaaDoorW.PrintWords

theorem ret_bool {a b : Bool} (h : a = b) : Ending.returned (.bool a) = .returned (.bool b) := by rw [h]

def goodS (xs : List Int) : Bool := decide (Lib.indexByte (Lib.bytesOf xs) 11 < 0) && !Lib.contains (Lib.bytesOf xs) [28, 13] && !Lib.hasSuffix (Lib.bytesOf xs) [28]
def frame_Good.f (l0 : List Int) : Option Bool := if Bytes l0 ∧ l0.length < 4294967281 then some (goodS l0) else none

set_option maxHeartbeats 400000 in
theorem indexByte_none (c : Nat) (cv : Int) (w : World) :
    Calls Tryd.prog 25 #[.slice none 0 c, .int .u8 cv] w fun e w' => e = .returned (.int .i64 (-1)) ∧ w' = w := by
  go_enter Tryd.func25, Tryd.ntmps25
  go_wp2
  rw [run_callFunc_extern Tryd.func56 (by kernel_rfl) (by kernel_rfl) (by kernel_rfl) (e := Extern.BytealgIndexByte.indexByte) (by kernel_rfl), Lib.run_indexByteNil w 0 c cv]
  simp only [Result.andThen]
  rw [Oper.upon_value]
  go_wp2
  go_ret
  exact ⟨rfl, rfl⟩

theorem indexByte_any (A : Option Addr) (c : Nat) (l : List Int) (w : World) (hr : Kd.C (Kd.int .u8) w A l.length l) (cv : Int) :
    Calls Tryd.prog 25 #[.slice A l.length c, .int .u8 cv] w fun e w' => e = .returned (.int .i64 (Lib.indexByte (Lib.bytesOf l) cv.toNat.toUInt8)) ∧ w' = w := by
  cases A with
  | some a => exact Tryd.bytes_IndexByte_at a _ c l cv w rfl (cells_of_C hr).2
  | none =>
    have e : l = [] := by
      rcases l with _ | ⟨x, l⟩
      · rfl
      · obtain ⟨ad, e, _⟩ := hr.2.2 (by simp)
        cases e
    subst e
    exact indexByte_none c cv w

theorem contains_any (A : Option Addr) (c : Nat) (l : List Int) (w : World) (hr : Kd.C (Kd.int .u8) w A l.length l) (hc : l.length ≤ c) (hb : Bytes l) (hs : l.length < 4294967281) (hG : ∃ m : Int, w.cell? ⟨3, 0, none⟩ = some (.int .i64 m))
    (g c2 : Nat) (h0 : w.cell? ⟨g, 0, none⟩ = some (.int .u8 28)) (h1 : w.cell? ⟨g, 1, none⟩ = some (.int .u8 13)) :
    Calls Tryd.prog 59 #[.slice A l.length c, .slice (some ⟨g, 0, none⟩) 2 c2] w fun e w' => e = .returned (.bool (Lib.contains (Lib.bytesOf l) [28, 13])) ∧ ∃ q, w' = w.drewN q := by
  cases A with
  | some a =>
    obtain ⟨m, hm⟩ := hG
    refine (Tryd.bytes_Contains_at a ⟨g, 0, none⟩ _ c 2 c2 l [28, 13] m w rfl rfl hb (by simp) (cells_of_C hr).2 ?_ hc hs (by omega) hm).mono fun e w' ⟨h, h'⟩ => ⟨h, h'⟩
    intro i hi
    rw [add_plain]
    rcases i with _ | _ | i
    · exact h0
    · exact h1
    · omega
  | none =>
    have e : l = [] := by
      rcases l with _ | ⟨x, l⟩
      · rfl
      · obtain ⟨ad, e, _⟩ := hr.2.2 (by simp)
        cases e
    subst e
    refine (Tryd.bytes_Contains_longer none (some ⟨g, 0, none⟩) 0 c 2 c2 w (by omega) (by omega) (by omega)).mono fun e w' ⟨h, h'⟩ => ⟨h, 0, h'⟩

theorem hasSuffix_one (A : Option Addr) (c : Nat) (l : List Int) (w : World) (hr : Kd.C (Kd.int .u8) w A l.length l) (hc : l.length ≤ c) (g c2 : Nat) (cv : Int) (h0 : w.cell? ⟨g, 0, none⟩ = some (.int .u8 cv)) :
    Calls Tryd.prog 60 #[.slice A l.length c, .slice (some ⟨g, 0, none⟩) 1 c2] w fun e w' => e = .returned (.bool (Lib.hasSuffix (Lib.bytesOf l) (Lib.bytesOf [cv]))) ∧ w' = w :=
  Tryd.bytes_HasSuffix_all A (some ⟨g, 0, none⟩) _ c 1 c2 l [cv] w rfl rfl hc hr.2.1 (in_of_C hr) (Lib.BytesIn.of_cells fun i hi => by
    obtain rfl : i = 0 := by omega
    rw [add_plain]
    exact h0)

set_option maxHeartbeats 400000 in
theorem frame_Good.calls (A0 : Option Addr) (c0 : Nat) (l0 : List Int) (r : Bool) (w : World) (hG : Glob w) (hr0 : Kd.C (Kd.int .u8) w A0 l0.length l0) (hc0 : l0.length ≤ c0) (h : frame_Good.f l0 = some r) :
    Calls Tryd.prog 29 #[.slice A0 l0.length c0] w fun e w' => e = .returned (.bool r) ∧ Below w.heap.size w w' := by
  unfold frame_Good.f at h
  split at h
  case isFalse => cases h
  rename_i hb
  obtain ⟨hb, hs⟩ := hb
  obtain rfl := Option.some.inj h
  have e0 := hG.e0
  have e1 := hG.e1
  clear h
  have HR := Aside0.mk hr0; have HG := Aside0.mk hG; have HB := Aside0.mk hb; have HS := Aside0.mk hs; have HC := Aside0.mk hc0
  clear hr0 hG hb hs hc0
  have hz : ∀ o, (w.alloc o).heap.size = w.heap.size + 1 := fun o => by simp
  have BL : ∀ o q, Below w.heap.size w ((w.alloc o).drewN q) := fun o q => pw_below_drewN ((Below.refl _ w).alloc (Nat.le_refl _) o) q
  have BA : ∀ o, Below w.heap.size w (w.alloc o) := fun o => (Below.refl _ w).alloc (Nat.le_refl _) o
  have HBL := Aside0.mk BL; have HBA := Aside0.mk BA
  clear BL BA hz
  go_enter Tryd.func29, Tryd.ntmps29
  go_wp2_with (first
    | (go_at_call 25; refine (indexByte_any _ _ _ _ ?ha _).mono ?_; (case ha => exact Kd.C_below HR.out (HBA.out _)); rintro e w' ⟨rfl, hw⟩; have hw' := hw.symm; subst hw'; clear hw)
    | (go_at_call 59; refine (contains_any _ _ _ _ ?ha HC.out HB.out HS.out ?hb _ _ ?hd ?he).mono ?_; (case ha => exact Kd.C_below HR.out (HBA.out _)); (case hb => exact (HG.out.alloc _).max); (case hd => go_simp); (case he => go_simp); rintro e w' ⟨rfl, q, rfl⟩)
    | (go_at_call 60; refine (hasSuffix_one _ _ _ _ ?ha HC.out _ _ 28 ?hb).mono ?_; (case ha => exact Kd.C_below HR.out (HBL.out _ _)); (case hb => go_simp); rintro e w' ⟨rfl, hw⟩; have hw' := hw.symm; subst hw'; clear hw))
  all_goals go_ret
  · rename_i h1 h2
    exact ⟨ret_bool (by unfold goodS; rw [h2]; simp), HBL.out _ _⟩
  · rename_i h1 h2
    exact ⟨ret_bool (by unfold goodS; rw [decide_eq_true h1, Bool.eq_false_iff.2 h2]; rfl), HBL.out _ _⟩
  · rename_i h1
    exact ⟨ret_bool (by unfold goodS; rw [decide_eq_false (by omega)]; rfl), HBA.out _⟩
end Go.Proofs.YtciagecaegoppaaDoor
namespace Go.Proofs.YtciagecaegoppaaDoor
set_option maxRecDepth 100000
open Go.RowKit Go.Proofs.YtciagecaegoppaaDoorW.PrintWords

theorem info5 : (Tryd.prog.info? 5).map (fun i => (i.zero, i.size, i.bytes)) = some (some (.int .u8 0), 1, 1) := by kernel_rfl
/-- A slice of bytes of the call's own, from block base on. -/
abbrev Own (w : World) (base : Nat) (v : Value) (xs : List Int) : Prop := Kd.R (Kd.int .u8) 5 w base (fun _ => True) v xs

theorem own_of_row {w : World} {base : Nat} {v : Value} {n : Nat} {xs : List Int} (h : w.ownsRow base 5 1 v n (nums .u8 xs)) : Own w base v xs := by
  have hn : xs.length = n := by have := h.1; simp [nums_length] at this; exact this
  subst hn
  refine ⟨fun _ _ => trivial, nums .u8 xs, h, ?_⟩
  refine ⟨by simp [nums_length, Kd.int, Kd.scalar], fun j p hj => ?_⟩
  show List.take 1 (List.drop (j * 1) (nums .u8 xs)) = [.int .u8 p]
  have hjl := (List.getElem?_eq_some_iff.1 hj).1
  have hjv := (List.getElem?_eq_some_iff.1 hj).2
  rw [Nat.mul_one, List.drop_eq_getElem_cons (by simpa [nums_length] using hjl)]
  simp [nums, hjv]

theorem wpList_app {ops : Array Oper} {rest : List Oper} {o : Oper} {a : Act} {Q : Exit → Act → World → Prop} (w0 W : World) (hgd : o.guard = none) (s x : Operand)
    (ho : o.op = .call { callee := .builtin .append, args := #[s, x], argTypes := #[26, 26] }) (v : Value) (xs : List Int) (A : Option Addr) (m c : Nat) (ys : List Int) (hs : a.eval s = v) (hx : a.eval x = .slice A m c)
    (HO : Own W w0.heap.size v xs) (HR : Kd.C (Kd.int .u8) W A m ys) (HB : Below w0.heap.size w0 W) (hl : xs.length + m ≤ 140737488355328)
    (h : ∀ v1 w1, Own w1 w0.heap.size v1 (xs ++ ys) → Below w0.heap.size w0 w1 → wpList Tryd.prog ops Q rest (a.put o.dst v1) w1) : wpList Tryd.prog ops Q (o :: rest) a W :=
  Kd.R_append_rows (Kd.int .u8) (w0 := w0) w0.heap.size hgd s x 26 5 (.int .u8 0) 1 ho Tryd.underlying26 info5 rfl (by decide) (by omega) v xs ys A m c (fun _ => True) (fun _ => False) hs hx
    HO HR (fun _ _ h => h) (fun _ h => h.elim) (fun _ _ => trivial) HB HB.size (by omega) fun v1 w1 h1 h2 _ _ => h v1 w1 h1 h2

theorem C_lit1 (w : World) (x : Int) (t : Nat) : Kd.C (Kd.int .u8) (w.alloc (.cells #[.int .u8 x] t)) (some ⟨w.heap.size, 0, none⟩) 1 [x] := by
  refine ⟨rfl, by omega, fun _ => ⟨_, rfl, fun j p hj => ⟨[.int .u8 p], rfl, rfl, fun i u hu => ?_⟩⟩⟩
  rcases j with _ | j
  · rcases i with _ | i
    · simp at hj hu
      subst hj hu
      rw [add_plain, blk_cell (blk_new _ _)]; rfl
    · simp at hu
  · simp at hj
theorem C_lit2 (w : World) (x y : Int) (t : Nat) : Kd.C (Kd.int .u8) (w.alloc (.cells #[.int .u8 x, .int .u8 y] t)) (some ⟨w.heap.size, 0, none⟩) 2 [x, y] := by
  refine ⟨rfl, by omega, fun _ => ⟨_, rfl, fun j p hj => ⟨[.int .u8 p], rfl, rfl, fun i u hu => ?_⟩⟩⟩
  rcases i with _ | i
  · rcases j with _ | _ | j
    · simp at hj hu
      subst hj hu
      rw [add_plain, blk_cell (blk_new _ _)]; rfl
    · simp at hj hu
      subst hj hu
      rw [add_plain, blk_cell (blk_new _ _)]; rfl
    · simp at hj
  · simp at hu

theorem count_any (n : Int) (w : World) (h0 : 0 ≤ n) (h1 : n < 4611686018427387904) : Calls Tryd.prog 62 #[.int .i64 n] w fun e w' => e = .returned (.int .i64 (n + 3)) ∧ w' = w := by
  go_enter Tryd.func62, Tryd.ntmps62
  go_wp2
  go_ret
  exact ⟨rfl, rfl⟩

set_option maxHeartbeats 400000 in
set_option maxRecDepth 100000 in
theorem frame_Wrap.no (A0 : Option Addr) (c0 : Nat) (l0 : List Int) (w : World) (hG : Glob w) (hr0 : Kd.C (Kd.int .u8) w A0 l0.length l0) (hc0 : l0.length ≤ c0) (h : frame_Good.f l0 = some false) :
    Calls Tryd.prog 31 #[.slice A0 l0.length c0] w fun e w' => e = .returned (.tuple #[.slice none 0 0, .int .i64 10]) ∧ Below w.heap.size w w' := by
  have HR := Aside0.mk hr0; have HG := Aside0.mk hG; have HC := Aside0.mk hc0; have H := Aside0.mk h
  clear hr0 hG hc0 h
  go_enter Tryd.func31, Tryd.ntmps31
  go_wp2_with (go_at_call 29; refine (frame_Good.calls _ _ _ _ _ HG.out HR.out HC.out H.out).mono ?_; rintro e w' ⟨rfl, hb⟩)
  go_ret2
  exact ⟨rfl, by assumption⟩

set_option maxHeartbeats 400000 in
set_option maxRecDepth 100000 in
theorem frame_Wrap.yes (A0 : Option Addr) (c0 : Nat) (l0 : List Int) (w : World) (hG : Glob w) (hr0 : Kd.C (Kd.int .u8) w A0 l0.length l0) (hc0 : l0.length ≤ c0) (h : frame_Good.f l0 = some true) :
    Calls Tryd.prog 31 #[.slice A0 l0.length c0] w fun e w' => ∃ v, e = .returned (.tuple #[v, .int .i64 0]) ∧ Own w' w.heap.size v (11 :: l0 ++ [28, 13]) ∧ Below w.heap.size w w' := by
  have HR := Aside0.mk hr0; have HG := Aside0.mk hG; have HC := Aside0.mk hc0; have H := Aside0.mk h
  have hl : (l0.length : Int) < 4294967281 := by unfold frame_Good.f at h; split at h; (· rename_i hh; have := hh.2; omega); (· cases h)
  clear hr0 hG hc0 h
  obtain ⟨i0, hi, hz0, hz1, hz2⟩ := info_parts info5
  have Hi := Aside0.mk hi; have Hz0 := Aside0.mk hz0; have Hz1 := Aside0.mk hz1; have Hz2 := Aside0.mk hz2; clear hi hz0 hz1 hz2
  have HB := Aside0.mk (Below.refl w.heap.size w)
  go_enter Tryd.func31, Tryd.ntmps31
  go_wp2_with (first
    | (go_at_call 29; refine (frame_Good.calls _ _ _ _ _ HG.out HR.out HC.out H.out).mono ?_; rintro e w1 ⟨rfl, hb⟩; clear HB; have HB := Aside0.mk hb; clear hb)
    | (go_at_call 62; refine (count_any _ _ (by omega) (by omega)).mono ?_; rintro e w' ⟨rfl, hw⟩; have hw' := hw.symm; subst hw'; clear hw)
    | (at_make; refine wpList_make_own _ rfl _ _ 26 rfl w.heap.size 5 i0 (.int .u8 0) 1 Tryd.underlying26 Hi.out Hz0.out Hz1.out .i64 .i64 (l0.length + 3) (l0.length + 3) rfl rfl (by simp) ?c1 ?c2 ?c3 ?_; (case c1 => rw [Hz2.out]; omega); (case c2 => unfold maxLen; omega); (case c3 => exact HB.out.size); intro w2 hown hgrow; have HO := Aside0.mk (own_of_row (xs := []) hown); have HBn := Aside0.mk (HB.out.grown hgrow HB.out.size (by intro k hk; cases hk)); clear HB; have HB := HBn; clear HBn hown hgrow)
    | ((with_reducible refine gate_builtin (b := .append) (xs := #[.tmp 13, .tmp 14]) rfl ?_); at_builtin; go_must (refine wpList_app w _ rfl (.tmp 13) (.tmp 14) rfl _ [] _ _ _ [11] rfl rfl ?aO ?aR ?aB ?aL ?_); (case aO => exact Kd.R_alloc HO.out _); (case aR => exact C_lit1 _ _ _); (case aB => exact below_alloc HB.out _); (case aL => simp; done); intro v3 w3 ho hb; clear HO HB; have HO := Aside0.mk ho; have HB := Aside0.mk hb; clear ho hb)
    | ((with_reducible refine gate_builtin (b := .append) (xs := #[.tmp 16, .tmp 17]) rfl ?_); at_builtin; go_must (refine wpList_app w _ rfl (.tmp 16) (.tmp 17) rfl _ ([] ++ [11]) _ _ _ l0 rfl rfl ?aO ?aR ?aB ?aL ?_); (case aO => exact HO.out); (case aB => exact HB.out); (case aR => exact Kd.C_below HR.out HB.out); (case aL => simp; omega); intro v4 w4 ho hb; clear HO HB; have HO := Aside0.mk ho; have HB := Aside0.mk hb; clear ho hb; have e0 := (HG.out.below HB.out).e0; have e1 := (HG.out.below HB.out).e1)
    | ((with_reducible refine gate_builtin (b := .append) (xs := #[.tmp 20, .tmp 21]) rfl ?_); at_builtin; go_must (refine wpList_app w _ rfl (.tmp 20) (.tmp 21) rfl _ ([] ++ [11] ++ l0) _ _ _ [28, 13] rfl rfl ?aO ?aR ?aB ?aL ?_); (case aO => exact Kd.R_alloc HO.out _); (case aR => exact C_lit2 _ _ _ _); (case aB => exact below_alloc HB.out _); (case aL => simp; omega); intro v5 w5 ho hb; clear HO HB; have HO := Aside0.mk ho; have HB := Aside0.mk hb; clear ho hb))
  go_ret2
  exact ⟨_, rfl, by simpa using HO.out, HB.out⟩

def frame_Wrap.f (l0 : List Int) : Option (List Int × Int) := (frame_Good.f l0).map fun g => if g then (11 :: l0 ++ [28, 13], 0) else ([], 10)
theorem frame_Wrap.calls (A0 : Option Addr) (c0 : Nat) (l0 : List Int) (r1 : List Int) (r2 : Int) (w : World) (hG : Glob w) (hr0 : Kd.C (Kd.int .u8) w A0 l0.length l0) (hc0 : l0.length ≤ c0) (h : frame_Wrap.f l0 = some (r1, r2)) :
    Calls Tryd.prog 31 #[.slice A0 l0.length c0] w fun e w' => ∃ v0_ : Value, e = .returned (.tuple #[v0_, .int .i64 r2]) ∧ Kd.R (Kd.int .u8) 5 w' w.heap.size (fun _ => True) v0_ r1 ∧ Below w.heap.size w w' := by
  unfold frame_Wrap.f at h
  obtain ⟨g, hg, e⟩ := Option.map_eq_some_iff.1 h
  cases g with
  | true =>
    cases e
    exact (frame_Wrap.yes A0 c0 l0 w hG hr0 hc0 hg).mono fun e w' ⟨v, h1, h2, h3⟩ => ⟨v, h1, h2, h3⟩
  | false =>
    cases e
    exact (frame_Wrap.no A0 c0 l0 w hG hr0 hc0 hg).mono fun e w' ⟨h1, h2⟩ => ⟨_, h1, Kd.R_nil _ _ _ _ _, h2⟩
end Go.Proofs.YtciagecaegoppaaDoor
namespace Go.Proofs.YtciagecaegoppaaDoor
set_option maxRecDepth 100000
open Go.RowKit Go.Proofs.YtciagecaegoppaaDoorW.PrintWords

theorem ret_tuple2 {a b c d : Value} (h1 : a = c) (h2 : b = d) : Ending.returned (.tuple #[a, b]) = .returned (.tuple #[c, d]) := by rw [h1, h2]

/-- A piece of a slice of bytes. -/
theorem C_piece {w : World} {b o : Nat} {xs ys zs : List Int} (h : Kd.C (Kd.int .u8) w (some ⟨b, o, none⟩) (xs ++ ys ++ zs).length (xs ++ ys ++ zs)) : Kd.C (Kd.int .u8) w (some ⟨b, o + xs.length, none⟩) ys.length ys := by
  refine ⟨rfl, by have := h.2.1; simp at this; omega, fun hn => ⟨_, rfl, fun j p hj => ⟨[.int .u8 p], rfl, rfl, fun i u hu => ?_⟩⟩⟩
  have hjl := (List.getElem?_eq_some_iff.1 hj).1
  rcases i with _ | i
  · obtain ⟨ad, e, hc⟩ := h.2.2 (by simp; omega)
    cases e
    obtain ⟨c, hc1, hc2, hc3⟩ := hc (xs.length + j) p (by rw [List.append_assoc, List.getElem?_append_right (by omega), List.getElem?_append_left (by omega), ← hj]; congr 1; omega)
    have hc4 := hc3 0 u (by rw [show c = [Value.int .u8 p] from hc2]; simpa using hu)
    rw [← hc4]
    simp only [Kd.int, Kd.scalar, Nat.mul_one, Nat.add_zero]
    rw [Go.WideShapes.add_plain, Go.WideShapes.add_plain, Nat.add_assoc]
  · simp at hu

theorem cutSuffix_no (b o c : Nat) (l : List Int) (w : World) (hr : Kd.C (Kd.int .u8) w (some ⟨b, o, none⟩) l.length l) (hc : l.length ≤ c) (g c2 : Nat) (h2 : Kd.C (Kd.int .u8) w (some ⟨g, 0, none⟩) 2 [28, 13])
    (hs : Lib.hasSuffix (Lib.bytesOf l) (Lib.bytesOf [28, 13]) = false) :
    Calls Tryd.prog 33 #[.slice (some ⟨b, o, none⟩) l.length c, .slice (some ⟨g, 0, none⟩) 2 c2] w fun e w' => e = .returned (.tuple #[.slice (some ⟨b, o, none⟩) l.length c, .bool false]) ∧ w' = w := by
  refine (Tryd.bytes_CutSuffix_all (some ⟨b, o, none⟩) (some ⟨g, 0, none⟩) _ c 2 c2 l [28, 13] w rfl rfl hc hr.2.1 (in_of_C hr) (in_of_C h2)).mono fun _ _ ⟨he, hw⟩ => ⟨he.trans (ret_tuple2 ?_ (by rw [hs])), hw⟩
  simp [Lib.trimSuffixV, Lib.bytesTrimSuffix, hs]
theorem cutSuffix_yes (b o c : Nat) (l : List Int) (w : World) (hr : Kd.C (Kd.int .u8) w (some ⟨b, o, none⟩) (l ++ [28, 13]).length (l ++ [28, 13])) (hc : (l ++ [28, 13]).length ≤ c) (g c2 : Nat) (h2 : Kd.C (Kd.int .u8) w (some ⟨g, 0, none⟩) 2 [28, 13]) :
    Calls Tryd.prog 33 #[.slice (some ⟨b, o, none⟩) (l ++ [28, 13]).length c, .slice (some ⟨g, 0, none⟩) 2 c2] w fun e w' => e = .returned (.tuple #[.slice (some ⟨b, o, none⟩) l.length c, .bool true]) ∧ w' = w := by
  have hs : Lib.hasSuffix (Lib.bytesOf (l ++ [28, 13])) (Lib.bytesOf [28, 13]) = true := by
    unfold Lib.hasSuffix Lib.bytesOf
    rw [List.map_append, List.isSuffixOf_iff_suffix]
    exact List.suffix_append _ _
  refine (Tryd.bytes_CutSuffix_all (some ⟨b, o, none⟩) (some ⟨g, 0, none⟩) _ c 2 c2 (l ++ [28, 13]) [28, 13] w rfl rfl hc hr.2.1 (in_of_C hr) (in_of_C h2)).mono fun _ _ ⟨he, hw⟩ => ⟨he.trans (ret_tuple2 ?_ (by rw [hs])), hw⟩
  simp [Lib.trimSuffixV, Lib.bytesTrimSuffix, hs, Lib.sliceTo]

theorem clone_any (b o n c : Nat) (xs : List Int) (w : World) (hr : Kd.C (Kd.int .u8) w (some ⟨b, o, none⟩) n xs) (hl : n ≤ 140737488355328) :
    Calls Tryd.prog 34 #[.slice (some ⟨b, o, none⟩) n c] w fun e w' => ∃ v, e = .returned v ∧ Own w' w.heap.size v xs ∧ Below w.heap.size w w' :=
  (Tryd.bytes_Clone_at ⟨b, o, none⟩ n c xs w hr.1 hl (cells_of_C hr).2).mono fun _ _ ⟨v, h1, h2, _, h3⟩ => ⟨v, h1, own_of_row h2, h3⟩

set_option maxHeartbeats 400000 in
set_option maxRecDepth 100000 in
theorem frame_Unwrap.short (A0 : Option Addr) (c0 : Nat) (l0 : List Int) (w : World) (h : l0.length < 3) :
    Calls Tryd.prog 16 #[.slice A0 l0.length c0] w fun e w' => e = .returned (.tuple #[.slice none 0 0, .int .i64 7]) ∧ Below w.heap.size w w' := by
  go_enter Tryd.func16, Tryd.ntmps16
  go_wp2
  go_ret2
  exact ⟨rfl, Below.refl _ _⟩

set_option maxHeartbeats 400000 in
set_option maxRecDepth 100000 in
theorem frame_Unwrap.no (b o c0 : Nat) (l0 : List Int) (w : World) (hG : Glob w) (hr0 : Kd.C (Kd.int .u8) w (some ⟨b, o, none⟩) l0.length l0) (hc0 : l0.length ≤ c0) (h3 : ¬ l0.length < 3)
    (hs : Lib.hasSuffix (Lib.bytesOf l0) (Lib.bytesOf [28, 13]) = false) :
    Calls Tryd.prog 16 #[.slice (some ⟨b, o, none⟩) l0.length c0] w fun e w' => e = .returned (.tuple #[.slice none 0 0, .int .i64 10]) ∧ Below w.heap.size w w' := by
  have HR := Aside0.mk hr0; have HC := Aside0.mk hc0; have HS := Aside0.mk hs
  have e0 := hG.e0
  have e1 := hG.e1
  have h3' : decide ((l0.length : Int) < 3) = false := by simp; omega
  clear hr0 hG hc0 hs h3
  go_enter Tryd.func16, Tryd.ntmps16
  go_wp2_with (go_at_call 33; refine (cutSuffix_no _ _ _ _ _ ?ha HC.out _ _ ?hb HS.out).mono ?_; (case ha => exact Kd.C_alloc HR.out _); (case hb => exact C_lit2 _ _ _ _); rintro e w' ⟨rfl, hw⟩; have hw' := hw.symm; subst hw'; clear hw)
  go_ret2
  exact ⟨rfl, below_alloc (Below.refl _ _) _⟩

set_option maxHeartbeats 400000 in
set_option maxRecDepth 100000 in
theorem frame_Unwrap.start (b o c0 : Nat) (x : Int) (l : List Int) (w : World) (hG : Glob w) (hr0 : Kd.C (Kd.int .u8) w (some ⟨b, o, none⟩) (x :: l ++ [28, 13]).length (x :: l ++ [28, 13])) (hc0 : (x :: l ++ [28, 13]).length ≤ c0) (hx : (x != 11) = true) :
    Calls Tryd.prog 16 #[.slice (some ⟨b, o, none⟩) (x :: l ++ [28, 13]).length c0] w fun e w' => e = .returned (.tuple #[.slice none 0 0, .int .i64 10]) ∧ Below w.heap.size w w' := by
  have hl := hr0.2.1
  have hc := (cells_of_C hr0).2 0 (by simp)
  rw [show (⟨b, o, none⟩ : Addr).add 0 = ⟨b, o, none⟩ from Go.WideShapes.add_plain b o 0] at hc
  simp only [List.cons_append, List.getD_cons_zero] at hc
  have hca : ∀ o', (w.alloc o').cell? ⟨b, o, none⟩ = some (.int .u8 x) := fun o' => pw_cell_below (below_alloc (Below.refl _ _) o') hc
  have HM := Aside0.mk (C_piece (xs := [x]) (ys := l) (zs := [28, 13]) hr0)
  have HR := Aside0.mk hr0; have HC := Aside0.mk hc0; have HG := Aside0.mk hG; have HL := Aside0.mk hl
  have e0 := hG.e0
  have e1 := hG.e1
  have h3' : decide (((x :: l ++ [28, 13]).length : Int) < 3) = false := by simp; omega
  have hcc : l.length + 1 ≤ c0 := by simp at hc0; omega
  have hcd : ¬ c0 = 1 := by simp at hc0; omega
  clear hr0 hG hc0 hc hl
  generalize hn : (x :: l ++ [28, 13]).length = n at *
  have hN := Aside0.mk hn
  clear hn
  go_enter Tryd.func16, Tryd.ntmps16
  go_wp2_with (go_at_call 33; rw [← hN.out]; refine (cutSuffix_yes _ _ _ (x :: l) _ ?ha ?hd _ _ ?hb).mono ?_; (case ha => rw [hN.out]; exact Kd.C_alloc HR.out _); (case hd => rw [hN.out]; exact HC.out); (case hb => exact C_lit2 _ _ _ _); rintro e w' ⟨rfl, hw⟩; have hw' := hw.symm; subst hw'; clear hw)
  go_ret2
  exact ⟨rfl, below_alloc (Below.refl _ _) _⟩

set_option maxHeartbeats 400000 in
set_option maxRecDepth 100000 in
theorem frame_Unwrap.bad (b o c0 : Nat) (x : Int) (l : List Int) (w : World) (hG : Glob w) (hr0 : Kd.C (Kd.int .u8) w (some ⟨b, o, none⟩) (x :: l ++ [28, 13]).length (x :: l ++ [28, 13])) (hc0 : (x :: l ++ [28, 13]).length ≤ c0) (hx : (x != 11) = false) (hf : frame_Good.f l = some false) :
    Calls Tryd.prog 16 #[.slice (some ⟨b, o, none⟩) (x :: l ++ [28, 13]).length c0] w fun e w' => e = .returned (.tuple #[.slice none 0 0, .int .i64 10]) ∧ Below w.heap.size w w' := by
  have hl := hr0.2.1
  have hc := (cells_of_C hr0).2 0 (by simp)
  rw [show (⟨b, o, none⟩ : Addr).add 0 = ⟨b, o, none⟩ from Go.WideShapes.add_plain b o 0] at hc
  simp only [List.cons_append, List.getD_cons_zero] at hc
  have hca : ∀ o', (w.alloc o').cell? ⟨b, o, none⟩ = some (.int .u8 x) := fun o' => pw_cell_below (below_alloc (Below.refl _ _) o') hc
  have HM := Aside0.mk (C_piece (xs := [x]) (ys := l) (zs := [28, 13]) hr0)
  have HR := Aside0.mk hr0; have HC := Aside0.mk hc0; have HG := Aside0.mk hG; have HL := Aside0.mk hl
  have e0 := hG.e0
  have e1 := hG.e1
  have h3' : decide (((x :: l ++ [28, 13]).length : Int) < 3) = false := by simp; omega
  have hcc : l.length + 1 ≤ c0 := by simp at hc0; omega
  have hcd : ¬ c0 = 1 := by simp at hc0; omega
  clear hr0 hG hc0 hc hl
  generalize hn : (x :: l ++ [28, 13]).length = n at *
  have hN := Aside0.mk hn
  clear hn
  have HF := Aside0.mk hf
  clear hf
  go_enter Tryd.func16, Tryd.ntmps16
  go_wp2_with (first | (go_at_call 33; rw [← hN.out]; refine (cutSuffix_yes _ _ _ (x :: l) _ ?ha ?hd _ _ ?hb).mono ?_; (case ha => rw [hN.out]; exact Kd.C_alloc HR.out _); (case hd => rw [hN.out]; exact HC.out); (case hb => exact C_lit2 _ _ _ _); rintro e w' ⟨rfl, hw⟩; have hw' := hw.symm; subst hw'; clear hw) | (go_at_call 29; refine (frame_Good.calls _ _ l _ _ (HG.out.alloc _) ?ga ?gb HF.out).mono ?_; (case ga => exact Kd.C_alloc HM.out _); (case gb => omega); rintro e w1 ⟨rfl, hb⟩; have HB := Aside0.mk (below_then (below_alloc (Below.refl _ _) _) (by simp) hb); clear hb))
  go_ret2
  exact ⟨rfl, HB.out⟩

set_option maxHeartbeats 400000 in
set_option maxRecDepth 100000 in
theorem frame_Unwrap.yes (b o c0 : Nat) (x : Int) (l : List Int) (w : World) (hG : Glob w) (hr0 : Kd.C (Kd.int .u8) w (some ⟨b, o, none⟩) (x :: l ++ [28, 13]).length (x :: l ++ [28, 13])) (hc0 : (x :: l ++ [28, 13]).length ≤ c0) (hx : (x != 11) = false) (hf : frame_Good.f l = some true) :
    Calls Tryd.prog 16 #[.slice (some ⟨b, o, none⟩) (x :: l ++ [28, 13]).length c0] w fun e w' => ∃ v, e = .returned (.tuple #[v, .int .i64 0]) ∧ Own w' w.heap.size v l ∧ Below w.heap.size w w' := by
  have hl := hr0.2.1
  have hc := (cells_of_C hr0).2 0 (by simp)
  rw [show (⟨b, o, none⟩ : Addr).add 0 = ⟨b, o, none⟩ from Go.WideShapes.add_plain b o 0] at hc
  simp only [List.cons_append, List.getD_cons_zero] at hc
  have hca : ∀ o', (w.alloc o').cell? ⟨b, o, none⟩ = some (.int .u8 x) := fun o' => pw_cell_below (below_alloc (Below.refl _ _) o') hc
  have HM := Aside0.mk (C_piece (xs := [x]) (ys := l) (zs := [28, 13]) hr0)
  have HR := Aside0.mk hr0; have HC := Aside0.mk hc0; have HG := Aside0.mk hG; have HL := Aside0.mk hl
  have e0 := hG.e0
  have e1 := hG.e1
  have h3' : decide (((x :: l ++ [28, 13]).length : Int) < 3) = false := by simp; omega
  have hcc : l.length + 1 ≤ c0 := by simp at hc0; omega
  have hcd : ¬ c0 = 1 := by simp at hc0; omega
  clear hr0 hG hc0 hc hl
  generalize hn : (x :: l ++ [28, 13]).length = n at *
  have hN := Aside0.mk hn
  clear hn
  have HF := Aside0.mk hf
  have HS := Aside0.mk (show l.length < 4294967281 by unfold frame_Good.f at hf; split at hf; (· rename_i hh; exact hh.2); (· cases hf))
  clear hf
  go_enter Tryd.func16, Tryd.ntmps16
  go_wp2_with (first | (go_at_call 33; rw [← hN.out]; refine (cutSuffix_yes _ _ _ (x :: l) _ ?ha ?hd _ _ ?hb).mono ?_; (case ha => rw [hN.out]; exact Kd.C_alloc HR.out _); (case hd => rw [hN.out]; exact HC.out); (case hb => exact C_lit2 _ _ _ _); rintro e w' ⟨rfl, hw⟩; have hw' := hw.symm; subst hw'; clear hw) | (go_at_call 29; refine (frame_Good.calls _ _ l _ _ (HG.out.alloc _) ?ga ?gb HF.out).mono ?_; (case ga => exact Kd.C_alloc HM.out _); (case gb => omega); rintro e w1 ⟨rfl, hb⟩; have HB := Aside0.mk (below_then (below_alloc (Below.refl _ _) _) (by simp) hb); clear hb) | (go_at_call 34; refine (clone_any _ _ _ _ l _ ?ka ?kb).mono ?_; (case ka => exact Kd.C_below HM.out HB.out); (case kb => have := HS.out; omega); rintro e w2 ⟨v, rfl, ho, hb⟩; have HO := Aside0.mk (Kd.R_lower ho HB.out.size); have HB2 := Aside0.mk (below_then HB.out HB.out.size hb); clear ho hb))
  go_ret2
  exact ⟨_, rfl, HO.out, HB2.out⟩

theorem bytesOf_inj {xs ys : List Int} (hx : Bytes xs) (hy : Bytes ys) (h : Lib.bytesOf xs = Lib.bytesOf ys) : xs = ys := by
  induction xs generalizing ys with
  | nil =>
    cases ys with
    | nil => rfl
    | cons y ys => simp [Lib.bytesOf] at h
  | cons x xs ih =>
    cases ys with
    | nil => simp [Lib.bytesOf] at h
    | cons y ys =>
      simp only [Lib.bytesOf, List.map_cons, List.cons.injEq] at h
      have h1 := hx x List.mem_cons_self
      have h2 := hy y List.mem_cons_self
      have h3 := congrArg UInt8.toNat h.1
      simp at h3
      rw [ih (fun z hz => hx z (List.mem_cons_of_mem _ hz)) (fun z hz => hy z (List.mem_cons_of_mem _ hz)) h.2]
      congr 1
      omega

theorem hasSuffix_iff {xs ys : List Int} (hx : Bytes xs) (hy : Bytes ys) : Lib.hasSuffix (Lib.bytesOf xs) (Lib.bytesOf ys) = true ↔ ys <:+ xs := by
  unfold Lib.hasSuffix
  rw [List.isSuffixOf_iff_suffix]
  constructor
  · rintro ⟨t, ht⟩
    have e : Lib.bytesOf (xs.drop t.length) = Lib.bytesOf ys := by
      unfold Lib.bytesOf at ht ⊢
      rw [List.map_drop, ← ht, List.drop_left]
    have := bytesOf_inj (hx.drop _) hy e
    exact ⟨xs.take t.length, by rw [← this, List.take_append_drop]⟩
  · rintro ⟨t, rfl⟩
    unfold Lib.bytesOf
    rw [List.map_append]
    exact List.suffix_append _ _

/-- What is between a frame's first sign and its two last ones. -/
def mid (l0 : List Int) : List Int := (l0.drop 1).dropLast.dropLast
theorem mid_of (x : Int) (l : List Int) (y z : Int) : mid (x :: l ++ [y, z]) = l := by
  have e : x :: l ++ [y, z] = x :: ((l ++ [y]) ++ [z]) := by simp
  rw [e, mid, List.drop_one, List.tail_cons, List.dropLast_concat, List.dropLast_concat]
def framed (l0 : List Int) : Bool := decide (l0.getD 0 0 = 11) && [28, 13].isSuffixOf l0

def frame_Unwrap.f (l0 : List Int) : Option (List Int × Int) :=
  if Bytes l0 then
    if l0.length < 3 then some ([], 7)
    else if framed l0 then (frame_Good.f (mid l0)).map fun g => if g then (mid l0, 0) else ([], 10)
    else some ([], 10)
  else none

theorem frame_Unwrap.calls (A0 : Option Addr) (c0 : Nat) (l0 : List Int) (r1 : List Int) (r2 : Int) (w : World) (hG : Glob w) (hr0 : Kd.C (Kd.int .u8) w A0 l0.length l0) (hc0 : l0.length ≤ c0) (h : frame_Unwrap.f l0 = some (r1, r2)) :
    Calls Tryd.prog 16 #[.slice A0 l0.length c0] w fun e w' => ∃ v0_ : Value, e = .returned (.tuple #[v0_, .int .i64 r2]) ∧ Kd.R (Kd.int .u8) 5 w' w.heap.size (fun _ => True) v0_ r1 ∧ Below w.heap.size w w' := by
  unfold frame_Unwrap.f at h
  by_cases hb : Bytes l0
  case neg => rw [if_neg hb] at h; cases h
  rw [if_pos hb] at h
  by_cases h3 : l0.length < 3
  · rw [if_pos h3] at h
    cases h
    exact (frame_Unwrap.short A0 c0 l0 w h3).mono fun e w' ⟨h1, h2⟩ => ⟨_, h1, Kd.R_nil _ _ _ _ _, h2⟩
  rw [if_neg h3] at h
  obtain ⟨b, o, rfl, _⟩ := (in_of_C hr0).at (by omega)
  have hy : Bytes [28, 13] := by decide
  by_cases hs : [28, 13] <:+ l0
  case neg =>
    have hf : framed l0 = false := by
      unfold framed
      rw [Bool.and_eq_false_iff]
      exact .inr (Bool.eq_false_iff.2 fun hh => hs (List.isSuffixOf_iff_suffix.1 hh))
    rw [hf] at h
    cases h
    exact (frame_Unwrap.no b o c0 l0 w hG hr0 hc0 h3 (Bool.eq_false_iff.2 fun hh => hs ((hasSuffix_iff hb hy).1 hh))).mono fun e w' ⟨h1, h2⟩ => ⟨_, h1, Kd.R_nil _ _ _ _ _, h2⟩
  obtain ⟨m, rfl⟩ := hs
  obtain _ | ⟨x, l⟩ := m
  · simp at h3
  rw [mid_of] at h
  by_cases hx : x = 11
  · have hf : framed (x :: l ++ [28, 13]) = true := by
      unfold framed
      rw [Bool.and_eq_true]
      exact ⟨by simp [hx], List.isSuffixOf_iff_suffix.2 (List.suffix_append _ _)⟩
    rw [if_pos hf] at h
    obtain ⟨g, hg, e⟩ := Option.map_eq_some_iff.1 h
    cases g with
    | true =>
      simp only [if_true, Prod.mk.injEq] at e
      rw [← e.1, ← e.2]
      exact frame_Unwrap.yes b o c0 x l w hG hr0 hc0 (by simp [hx]) hg
    | false =>
      cases e
      exact (frame_Unwrap.bad b o c0 x l w hG hr0 hc0 (by simp [hx]) hg).mono fun e w' ⟨h1, h2⟩ => ⟨_, h1, Kd.R_nil _ _ _ _ _, h2⟩
  · have hf : framed (x :: l ++ [28, 13]) = false := by
      unfold framed
      simp [hx]
    rw [hf] at h
    cases h
    exact (frame_Unwrap.start b o c0 x l w hG hr0 hc0 (by simp [hx])).mono fun e w' ⟨h1, h2⟩ => ⟨_, h1, Kd.R_nil _ _ _ _ _, h2⟩
end Go.Proofs.YtciagecaegoppaaDoor
namespace Go.Proofs.YtciagecaegoppaaDoor
set_option maxRecDepth 100000
open Go.RowKit Go.Proofs.YtciagecaegoppaaDoorW.PrintWords

/-- May these bytes be in a frame? -/
def goodL : List Int → Bool
  | [] => true
  | x :: r => decide (x ≠ 11) && !(decide (x = 28) && (r.isEmpty || decide (r.head? = some 13))) && goodL r

theorem u8_eq {x : Int} (h : 0 ≤ x ∧ x < 256) (c : Nat) (hc : c < 256) : x.toNat.toUInt8 = c.toUInt8 ↔ x = c := by
  constructor
  · intro e
    have := congrArg UInt8.toNat e
    simp at this
    omega
  · rintro rfl
    simp

theorem bytesOf_cons (x : Int) (xs : List Int) : Lib.bytesOf (x :: xs) = x.toNat.toUInt8 :: Lib.bytesOf xs := rfl
theorem indexByte_cons (b c : UInt8) (l : List UInt8) : decide (Lib.indexByte (b :: l) c < 0) = (!(b == c) && decide (Lib.indexByte l c < 0)) := by
  rw [Lib.indexByte]
  by_cases h : (b == c) = true
  · simp [h]
  · rw [if_neg h]
    simp only [h, Bool.not_false, Bool.true_and]
    have hge := Lib.indexByte_ge l c
    by_cases hm : Lib.indexByte l c = -1
    · simp [hm]
    · rw [if_neg (by simpa using hm)]
      have h1 : ¬ (Lib.indexByte l c + 1 < 0) := by omega
      have h2 : ¬ (Lib.indexByte l c < 0) := by omega
      simp [h1, h2]
theorem contains_cons (b : UInt8) (l sub : List UInt8) : Lib.contains (b :: l) sub = (sub.isPrefixOf (b :: l) || Lib.contains l sub) := by
  unfold Lib.contains
  rw [Lib.index]
  by_cases h : sub.isPrefixOf (b :: l) = true
  · simp [h]
  · rw [if_neg h]
    simp only [h, Bool.false_or]
    have hge := Lib.index_ge l sub
    by_cases hm : Lib.index l sub = -1
    · simp [hm]
    · rw [if_neg (by simpa using hm)]
      have h1 : 0 ≤ Lib.index l sub + 1 := by omega
      have h2 : 0 ≤ Lib.index l sub := by omega
      simp [h1, h2]
theorem hasSuffix_cons (b : UInt8) (l p : List UInt8) (hp : p.length = 1) : Lib.hasSuffix (b :: l) p = (if l.isEmpty then p == [b] else Lib.hasSuffix l p) := by
  obtain ⟨c, rfl⟩ := List.length_eq_one_iff.1 hp
  unfold Lib.hasSuffix
  cases l with
  | nil => simp [List.isSuffixOf, List.isPrefixOf]
  | cons d l =>
    simp only [List.isEmpty_cons]
    rw [Bool.eq_iff_iff, if_neg (by simp), List.isSuffixOf_iff_suffix, List.isSuffixOf_iff_suffix, List.suffix_cons_iff]
    simp

theorem goodS_eq (xs : List Int) (h : Bytes xs) : goodS xs = goodL xs := by
  induction xs with
  | nil => decide
  | cons x r ih =>
    have hx := h x List.mem_cons_self
    have hr : Bytes r := fun y hy => h y (List.mem_cons_of_mem _ hy)
    have e11 := u8_eq hx 11 (by decide)
    have e28 := u8_eq hx 28 (by decide)
    unfold goodL
    rw [← ih hr]
    unfold goodS
    rw [bytesOf_cons, indexByte_cons, contains_cons, hasSuffix_cons _ _ _ rfl]
    have a11 : (x.toNat.toUInt8 == (11 : UInt8)) = decide (x = 11) := by rw [Bool.eq_iff_iff]; simpa using e11
    have a28 : ((28 : UInt8) == x.toNat.toUInt8) = decide (x = 28) := by rw [Bool.eq_iff_iff, beq_iff_eq, eq_comm]; simpa using e28
    rw [a11]
    cases r with
    | nil =>
      simp [Lib.bytesOf, Lib.contains, Lib.index, Lib.indexByte, List.isPrefixOf, a28, show Lib.hasSuffix [] [28] = false from by decide]
    | cons y r =>
      have hy := hr y List.mem_cons_self
      have a13 : ((13 : UInt8) == y.toNat.toUInt8) = decide (y = 13) := by
        rw [Bool.eq_iff_iff, beq_iff_eq, eq_comm]
        simpa using u8_eq hy 13 (by decide)
      have hp : List.isPrefixOf [(28 : UInt8), 13] (x.toNat.toUInt8 :: Lib.bytesOf (y :: r)) = (decide (x = 28) && decide (y = 13)) := by
        rw [bytesOf_cons, List.isPrefixOf, List.isPrefixOf, List.isPrefixOf, a28, a13, Bool.and_true]
      rw [hp]
      simp only [List.isEmpty_cons, List.head?_cons, Bool.false_or, bytesOf_cons, Bool.false_eq_true, if_false]
      generalize decide (Lib.indexByte (y.toNat.toUInt8 :: Lib.bytesOf r) 11 < 0) = p
      generalize Lib.contains (y.toNat.toUInt8 :: Lib.bytesOf r) [28, 13] = q
      generalize Lib.hasSuffix (y.toNat.toUInt8 :: Lib.bytesOf r) [28] = s
      by_cases h1 : x = 11
      · simp [h1]
      · by_cases h2 : x = 28
        · by_cases h3 : y = 13 <;> simp [h2, h3]
        · simp [h1, h2]

theorem good_f (xs : List Int) (h : Bytes xs) (hl : xs.length < 4294967281) : frame_Good.f xs = some (goodL xs) := by
  unfold frame_Good.f
  rw [if_pos ⟨h, hl⟩, goodS_eq xs h]

theorem byte_of_wf' {x : Int} (h : (Lit.int .u8 x).wf = true) : 0 ≤ x ∧ x < 256 := by
  have := bounds_u8 h
  omega
theorem bytes_of_wf {xs : List Int} (h : ∀ x ∈ xs, (Lit.int .u8 x).wf = true) : Bytes xs := fun x hx => byte_of_wf' (h x hx)

theorem goodL_set_bad (xs : List Int) (i : Nat) (hi : i < xs.length) : goodL (xs.set i 11) = false := by
  induction xs generalizing i with
  | nil => simp at hi
  | cons x r ih =>
    cases i with
    | zero => simp [goodL]
    | succ i =>
      rw [List.set_cons_succ, goodL, ih i (by simpa using hi), Bool.and_false]

theorem goodL_set_ok (xs : List Int) (i : Nat) (c : Int) (h : goodL xs = true) (h1 : c ≠ 11) (h2 : c ≠ 28) (h3 : c ≠ 13) : goodL (xs.set i c) = true := by
  induction xs generalizing i with
  | nil => rfl
  | cons x r ih =>
    rw [goodL, Bool.and_eq_true, Bool.and_eq_true] at h
    obtain ⟨⟨ha, hb⟩, hc⟩ := h
    cases i with
    | zero => rw [List.set_cons_zero, goodL, hc]; simp [h1, h2]
    | succ i =>
      rw [List.set_cons_succ, goodL, ih i hc, ha, Bool.true_and, Bool.and_true]
      cases r with
      | nil => exact hb
      | cons y r =>
        cases i with
        | zero => simp [h3]
        | succ i => simpa using hb

theorem Bytes.set {xs : List Int} (h : Bytes xs) (i : Nat) {c : Int} (hc : 0 ≤ c ∧ c < 256) : Bytes (xs.set i c) := fun x hx => by
  rcases List.mem_or_eq_of_mem_set hx with hx | rfl
  · exact h x hx
  · exact hc
theorem Bytes.nil : Bytes [] := fun _ h => by cases h

/-- An index out of any number. -/
theorem turn_index (a : Int) (n : Nat) (h0 : 0 < n) (h1 : n ≤ 4611686018427387904) : ∃ j : Nat, j < n ∧ wrap64 (Int.tmod (IntKind.u64.wrap a) (IntKind.u64.wrap (n : Int))) = (j : Int) := by
  have e1 : IntKind.u64.wrap (n : Int) = n := by rw [IntKind.wrap_u64]; omega
  have e2 : 0 ≤ IntKind.u64.wrap a := by rw [IntKind.wrap_u64]; omega
  rw [e1]
  generalize IntKind.u64.wrap a = b at e2
  obtain ⟨b, rfl⟩ := Int.eq_ofNat_of_zero_le e2
  refine ⟨b % n, Nat.mod_lt _ h0, ?_⟩
  have e3 : Int.tmod (b : Int) (n : Int) = ((b % n : Nat) : Int) := by rw [Int.ofNat_tmod]
  rw [e3]
  have := Nat.mod_lt b h0
  unfold wrap64
  omega

theorem wrap_f (xs : List Int) (h : Bytes xs) (hl : xs.length < 4294967281) : frame_Wrap.f xs = some (if goodL xs then (11 :: xs ++ [28, 13], 0) else ([], 10)) := by
  rw [frame_Wrap.f, good_f xs h hl]
  rfl

/-- Bytes that have a frame's three signs have something between them. -/
theorem of_framed {xs : List Int} (h3 : ¬ xs.length < 3) (h : framed xs = true) : xs = 11 :: mid xs ++ [28, 13] := by
  unfold framed at h
  rw [Bool.and_eq_true, List.isSuffixOf_iff_suffix] at h
  obtain ⟨h1, m, rfl⟩ := h
  rcases m with _ | ⟨x, m⟩
  · simp at h3
  · rw [mid_of]
    simp at h1
    rw [h1]
theorem framed_of (xs : List Int) : framed (11 :: xs ++ [28, 13]) = true := by
  unfold framed
  rw [Bool.and_eq_true, List.isSuffixOf_iff_suffix]
  exact ⟨by simp, List.suffix_append _ _⟩
theorem mid_mem {xs : List Int} {x : Int} (h : x ∈ mid xs) : x ∈ xs := by
  unfold mid at h
  exact List.mem_of_mem_drop (List.dropLast_subset _ (List.dropLast_subset _ h))
theorem mid_len (xs : List Int) : (mid xs).length ≤ xs.length := by
  unfold mid
  simp
  omega
theorem Bytes.mid {xs : List Int} (h : Bytes xs) : Bytes (mid xs) := fun x hx => h x (mid_mem hx)
theorem unwrap_f (xs : List Int) (h : Bytes xs) (hl : xs.length < 4294967281) : frame_Unwrap.f xs = some (if xs.length < 3 then ([], 7) else if framed xs && goodL (mid xs) then (mid xs, 0) else ([], 10)) := by
  unfold frame_Unwrap.f
  rw [if_pos h]
  by_cases h3 : xs.length < 3
  · rw [if_pos h3, if_pos h3]
  · rw [if_neg h3, if_neg h3]
    cases hf : framed xs with
    | false => rfl
    | true =>
      have hm := mid_len xs
      rw [if_pos rfl, good_f _ h.mid (by omega), Option.map_some]
      cases hg : goodL (mid xs) <;> simp
theorem unwrap_wrap (xs : List Int) (h : Bytes xs) (hl : xs.length < 4294967000) (hg : goodL xs = true) : frame_Unwrap.f (11 :: xs ++ [28, 13]) = some (xs, 0) := by
  have hb : Bytes (11 :: xs ++ [28, 13]) := by
    intro x hx
    simp only [List.cons_append, List.mem_cons, List.mem_append, List.not_mem_nil, or_false] at hx
    rcases hx with rfl | hx | rfl | rfl
    · omega
    · exact h x hx
    · omega
    · omega
  rw [unwrap_f _ hb (by simp; try omega), if_neg (by simp), framed_of, mid_of, hg]
  rfl
theorem goodL_start (xs : List Int) : goodL (11 :: xs) = false := by simp [goodL]
theorem bytes_wrap {xs : List Int} (h : Bytes xs) : Bytes (11 :: xs ++ [28, 13]) := by
  intro x hx
  simp only [List.cons_append, List.mem_cons, List.mem_append, List.not_mem_nil, or_false] at hx
  rcases hx with rfl | hx | rfl | rfl
  · omega
  · exact h x hx
  · omega
  · omega

theorem goodL_append (a b : List Int) (h : goodL a = true) : goodL (a ++ b) = goodL b := by
  induction a with
  | nil => rfl
  | cons x r ih =>
    rw [goodL, Bool.and_eq_true, Bool.and_eq_true] at h
    obtain ⟨⟨ha, hb⟩, hc⟩ := h
    rw [List.cons_append, goodL, ih hc, ha, Bool.true_and]
    have e : (!(decide (x = 28) && ((r ++ b).isEmpty || decide ((r ++ b).head? = some 13)))) = true := by
      cases r with
      | nil =>
        simp at hb
        simp [hb]
      | cons y r => simpa using hb
    rw [e, Bool.true_and]
theorem goodL_drop (a : List Int) (i : Nat) (h : goodL a = true) : goodL (a.drop i) = true := by
  induction a generalizing i with
  | nil => simpa using h
  | cons x r ih =>
    cases i with
    | zero => exact h
    | succ i =>
      rw [goodL, Bool.and_eq_true] at h
      exact ih i h.2
theorem goodL_take (a : List Int) (i : Nat) (h : goodL a = true) (hi : i < a.length) : goodL (a.take (i + 1)) = decide (a.getD i 0 ≠ 28) := by
  induction a generalizing i with
  | nil => simp at hi
  | cons x r ih =>
    rw [goodL, Bool.and_eq_true, Bool.and_eq_true] at h
    obtain ⟨⟨ha, hb⟩, hc⟩ := h
    cases i with
    | zero =>
      simp only [List.take_succ_cons, List.take_zero, goodL, ha, List.isEmpty_nil, Bool.true_or, Bool.and_true, Bool.true_and, List.getD_cons_zero]
      by_cases hx : x = 28 <;> simp [hx]
    | succ i =>
      have hi' : i < r.length := by simpa using hi
      rw [List.take_succ_cons, goodL, ha, Bool.true_and, ih i hc hi', List.getD_cons_succ]
      have e : (!(decide (x = 28) && ((r.take (i + 1)).isEmpty || decide ((r.take (i + 1)).head? = some 13)))) = true := by
        cases r with
        | nil => simp at hi'
        | cons y r => simpa using hb
      rw [e, Bool.true_and]
end Go.Proofs.YtciagecaegoppaaDoor
