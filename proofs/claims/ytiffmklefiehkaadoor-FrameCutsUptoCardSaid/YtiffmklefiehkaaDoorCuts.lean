/- A frame without its first or last byte, or with one more at either end, isn't one: the walk. Its fourth region lets many orders be: one relation over what is listed so far (the kit's words inv_at, StepAt) shows each operation once. -/
import Derived.Test.YtiffmklefiehkaaDoorQFrameCutsx1
import Derived.Test.YtiffmklefiehkaaDoorPlain
import Derived.Below
import Derived.Deep.Draws
import Derived.Deep.AppendLies
import Derived.Maps.AppendAt
import Derived.OwnWalk
import Derived.Laws.BytesArg
import Derived.Laws.MakeOwn
import Derived.Laws.OwnMore
import Derived.Deep.OwnRows
import Derived.Tactics
import Derived.Lib.ConvBytes
import Derived.Laws.Slices
import Derived.WalkKit
import Derived.KernelRfl
import Derived.RowKit3
import Derived.Deep.LoopGhost
import Derived.Deep.QuietTactic
import Derived.BigQuiet
import Derived.WideLaws
import Derived.Deep.DeepCutAuto
import Derived.Deep.CutBlock
import Derived.Deep.RegionHeld3
import Derived.Laws.Rows
import Derived.Lib.AppendStr
import Derived.ArgAppend
import Derived.Laws.IdiomCopy
import Derived.OrdersHeld
import Derived.Laws.BitsLemmas
import Derived.RowKit
namespace Go.Proofs.YtiffmklefiehkaaDoor
set_option linter.unusedVariables false
set_option linter.unusedSimpArgs false
open Go.RowKit Go.Proofs.YtiffmklefiehkaaDoorW.PrintWords Go.Proofs.YtiffmklefiehkaaDoorW.PrintLast Go.Proofs.YtiffmklefiehkaaDoorW.PrintMore Go.Proofs.YtiffmklefiehkaaDoor.QFrameCuts

/-- A row that another world's memory holds: what its header says. -/
def hdr (w0 : World) : Kd (List Int) where
  sz := 1
  E := []
  K := fun _ x cs => ∃ A c, cs = [.slice A x.length c] ∧ x.length ≤ c ∧ (Kd.int .u8).C w0 A x.length x
  M := fun _ _ _ x cs => ∃ A c, cs = [.slice A x.length c] ∧ x.length ≤ c ∧ (Kd.int .u8).C w0 A x.length x
  K_len := by
    rintro w x cs ⟨A, c, rfl, _⟩
    rfl
  K_one := by
    rintro w x cs ⟨A, c, rfl, _⟩ u hu
    rw [List.mem_singleton.1 hu]
    rfl
  K_below := fun _ h => h
  K_of_M := fun h => h
  M_mono := fun _ h => h
  M_bound := fun h => h
  M_move := fun _ h => h
  M_lower := fun _ h => h
theorem hdr_C {w0 w : World} {A : Option Addr} {n : Nat} {xs : List (List Int)} (h : (hdr w0).C w A n xs) (hb : Below w0.heap.size w0 w) : (Kd.slice 5 (Kd.int .u8)).C w A n xs :=
  h.imp_ (Below.refl _ _) (fun _ _ ⟨A, c, e, l, r⟩ => ⟨A, c, e, l, Kd.C_below r hb⟩)
theorem own_keep {α : Type} {d : Kd α} {e base : Nat} {W w1 : World} {u v v1 : Value} {xs : List α} (hd : d.R e W base (fun k => u.ownBlock = some k) u xs) (hap : ∀ k, v.ownBlock = some k → u.ownBlock ≠ some k) (hg : W.grownBy w1 v.ownBlock) (hat : v1.ownBlock = v.ownBlock ∨ ∃ b, v1.ownBlock = some b ∧ W.heap.size ≤ b) :
    d.R e w1 base (fun k => u.ownBlock = some k) u xs ∧ ∀ k, v1.ownBlock = some k → u.ownBlock ≠ some k :=
  ⟨Kd.R_step hd (fun k hk hlt => hg.block k hlt (fun e => hap k e.symm hk)), fun k hk e => by
    rcases hat with h | ⟨b, hb, hge⟩
    · exact hap k (h ▸ hk) e
    · have := Kd.R_lt hd k e
      rw [hk] at hb
      injection hb with hb
      omega⟩
theorem int_own {e base : Nat} {W : World} {ok : Nat → Prop} {v : Value} {k : IntKind} {xs : List Int} (h : (Kd.int k).R e W base ok v xs) : (Kd.int k).R e W base (fun k => v.ownBlock = some k) v xs := ⟨fun _ h => h, h.2⟩

/-- Which of the region's rows are still one's own: made, and not yet appended to. -/
def live (b : Nat → Bool) : Nat → Bool
  | 8 => b 8 && !b 10
  | 10 => b 10
  | 11 => b 11 && !b 13
  | 13 => b 13 && !b 16
  | 15 => b 15 && !b 16
  | 16 => b 16
  | 17 => b 17 && !b 19
  | 19 => b 19 && !b 21
  | 21 => b 21
  | _ => false
theorem live_cases {b : Nat → Bool} {i : Nat} (h : live b i = true) : i = 8 ∨ i = 10 ∨ i = 11 ∨ i = 13 ∨ i = 15 ∨ i = 16 ∨ i = 17 ∨ i = 19 ∨ i = 21 := by
  unfold live at h
  split at h <;> simp_all
def cont (c : Int) (fr : List Int) : Nat → List Int
  | 8 => [c]
  | 10 => [c] ++ fr
  | 11 => []
  | 13 => [] ++ fr
  | 15 => [c]
  | 16 => ([] ++ fr) ++ [c]
  | 17 => []
  | 19 => [] ++ fr
  | 21 => ([] ++ fr) ++ fr
  | _ => []
def upd (v : Nat → Value) (i : Nat) (x : Value) : Nat → Value := fun j => if j = i then x else v j
theorem upd_self (v : Nat → Value) (i : Nat) (x : Value) : upd v i x i = x := by simp [upd]
theorem upd_ne (v : Nat → Value) {i j : Nat} (x : Value) (h : j ≠ i) : upd v i x j = v j := by simp [upd, h]

structure Cuts (base : Nat) (w0 : World) (c : Int) (fr : List Int) (b : Nat → Bool) (v : Nat → Value) (W : World) : Prop where
  below : Below base w0 W
  size : base ≤ W.heap.size
  own : ∀ i, live b i = true → (Kd.int .u8).R 5 W base (fun k => (v i).ownBlock = some k) (v i) (cont c fr i)
  ap : ∀ i j, i ≠ j → live b i = true → live b j = true → ∀ k, (v i).ownBlock = some k → (v j).ownBlock ≠ some k

theorem Cuts.app {base : Nat} {w0 : World} {c : Int} {fr : List Int} {b : Nat → Bool} {v : Nat → Value} {W W1 : World} (h : Cuts base w0 c fr b v W) {i : Nat} {u x : Value} {ok : Nat → Prop}
    (hl : ∀ j, live (up b i) j = true → j = i ∨ (live b j = true ∧ j ≠ i ∧ ∀ k, u.ownBlock = some k → (v j).ownBlock ≠ some k))
    (hx : (Kd.int .u8).R 5 W1 base ok x (cont c fr i)) (hb : Below base w0 W1) (hg : W.grownBy W1 u.ownBlock) (hat : x.ownBlock = u.ownBlock ∨ ∃ k, x.ownBlock = some k ∧ W.heap.size ≤ k) :
    Cuts base w0 c fr (up b i) (upd v i x) W1 := by
  refine ⟨hb, Nat.le_trans h.size hg.size, fun j hj => ?_, fun j j' hne hj hj' k => ?_⟩
  · rcases hl j hj with rfl | ⟨h1, h2, h3⟩
    · rw [upd_self]; exact int_own hx
    · rw [upd_ne v x h2]; exact (own_keep (h.own j h1) h3 hg hat).1
  · rcases hl j hj with rfl | ⟨h1, h2, h3⟩
    · rcases hl j' hj' with rfl | ⟨h1', h2', h3'⟩
      · exact absurd rfl hne
      · rw [upd_self, upd_ne v x h2']; exact (own_keep (h.own j' h1') h3' hg hat).2 k
    · rw [upd_ne v x h2]
      rcases hl j' hj' with rfl | ⟨h1', h2', h3'⟩
      · rw [upd_self]; exact fun e1 e2 => (own_keep (h.own j h1) h3 hg hat).2 k e2 e1
      · rw [upd_ne v x h2']; exact h.ap j j' hne h1 h1' k
theorem Cuts.lit {base : Nat} {w0 : World} {c : Int} {fr : List Int} {b : Nat → Bool} {v : Nat → Value} {W W1 : World} (h : Cuts base w0 c fr b v W) {i : Nat} {x : Value} {ok : Nat → Prop}
    (hl : ∀ j, live (up b i) j = true → j = i ∨ (live b j = true ∧ j ≠ i))
    (hx : (Kd.int .u8).R 5 W1 base ok x (cont c fr i)) (hb : Below base w0 W1) (hg : W.grownBy W1 none) (hat : ∃ k, x.ownBlock = some k ∧ W.heap.size ≤ k) :
    Cuts base w0 c fr (up b i) (upd v i x) W1 :=
  h.app (u := .slice none 0 0) (fun j hj => (hl j hj).imp id (fun h => ⟨h.1, h.2, fun k e => by simp [Value.ownBlock] at e⟩)) hx hb hg (.inr hat)

theorem cuts_alive : lamplighterlaw04_alive.f = some true := by decide +kernel

def cutsT4 : Bool × List (List Nat × List Nat) := (true, [([], []), ([0], [0]), ([], []), ([], []), ([3], [3]), ([4], [4]), ([2, 5], [2, 5]), ([], []), ([7], [7]), ([], []), ([8, 9], [8, 9]), ([], []), ([], []), ([11, 12, 10], [11, 12]), ([], []), ([14], [14]), ([13, 15, 13], [13, 15]), ([], []), ([], []), ([17, 18, 16], [17, 18]), ([], []), ([19, 20, 19], [19, 20]), ([1, 6, 10, 16, 21], [1, 6, 10, 16, 21]), ([22], [22]), ([], [])])
def cutsB4 : List Nat := [0, 1, 0, 0, 8, 24, 60, 0, 128, 0, 896, 0, 0, 8064, 0, 16384, 65408, 0, 0, 524160, 0, 2097024, 4194303, 8388607, 0]
theorem cutstab4 : rtab .any (opsOf Tryd.f8 4) = cutsT4 := by kernel_rfl
theorem cutsbits4 : waitsOk cutsT4.2 cutsB4 = true := by kernel_rfl

set_option maxHeartbeats 4000000 in
set_option maxRecDepth 100000 in
theorem cuts_main (A : Option Addr) (c0 : Nat) (l0 : List Int) (c : Int) (w : World) (hG : Glob w) (hr0 : Kd.C (Kd.int .u8) w A l0.length l0) (hc0 : l0.length ≤ c0) (hl : l0.length ≤ 1000) (fr : List Int) (hw : frame_Wrap.f l0 = some (fr, 0)) (hfl : fr.length = l0.length + 3)
    (y1 y2 : List Int) (h1 : y1 = fr.drop 1) (h2 : y2 = fr.take (fr.length - 1)) (hun : ∀ x ∈ [y1, y2, [c] ++ fr, ([] ++ fr) ++ [c], ([] ++ fr) ++ fr], ∃ code : Int, code ≠ 0 ∧ frame_Unwrap.f x = some ([], code)) :
    Calls Tryd.prog 8 #[.slice A l0.length c0, .int .u8 c] w fun e w' => e = .returned (.bool true) ∧ Below w.heap.size w w' := by
  have HG := Aside0.mk hG; have HR := Aside0.mk hr0; have HC := Aside0.mk hc0; have HW := Aside0.mk hw
  have HU := Aside0.mk hun; have H1 := Aside0.mk h1; have H2 := Aside0.mk h2; have HFL := Aside0.mk hfl
  have hle : ¬ (1000 < (l0.length : Int)) := by omega
  have hlb : decide (1000 < (l0.length : Int)) = false := decide_eq_false hle
  have hlb2 : decide (1000 < l0.length) = false := decide_eq_false (by omega)
  have hf1 : ((fr.length : Int) == 0) = false := beq_eq_false_iff_ne.mpr (by omega)
  have hf2 : (fr.length == 0) = false := beq_eq_false_iff_ne.mpr (by omega)
  clear hG hr0 hc0 hw hun h1 h2 hle hfl
  go_enter Tryd.func8, Tryd.ntmps8
  go_upto_region 4 with (go_at_call 12; refine (frame_Wrap.calls _ _ _ _ _ _ HG.out HR.out HC.out HW.out).mono ?_; rintro e w1 ⟨v, rfl, ho, hb⟩; obtain ⟨Av, cv, ev⟩ := Kd.R_slice ho; subst ev; have HB := Aside0.mk hb; have HO := Aside0.mk ho; clear hb ho)
  have hOd := Kd.R_drew HO.out
  have hBd := below_drew1 HB.out
  clear HO HB
  have HO := Aside0.mk hOd
  have HB := Aside0.mk hBd
  clear hOd hBd
  have hL3 : 3 ≤ fr.length ∧ fr.length ≤ 1003 := by have := HFL.out; omega
  obtain ⟨i0, hi0, _, hsz, _⟩ := info_parts Go.Proofs.YtiffmklefiehkaaDoor.info5
  have hroom : fr.length ≤ cv := (Kd.R_reads' HO.out).2.1
  have hF : Kd.F (Kd.int .u8) w1.drew (fun _ => True) Av fr.length fr := (Kd.V_at (base := w.heap.size) (Kd.R_V HO.out)).2.2
  have hcut1 := cut_from (P := Tryd.prog) 22 5 .i64 Tryd.underlying22 hi0 1 hsz Av fr.length cv 1 (by omega) (by omega)
  have hr1 := Kd.F_cut (m := (1 : Int).toNat) (c := cv) hF (by have : (1 : Int).toNat = 1 := rfl; omega) hroom
  obtain ⟨A1, hA1⟩ : ∃ x, x = (if cv = (1 : Int).toNat then Av else (Av : Option Addr).map (·.add ((1 : Int).toNat * 1))) := ⟨_, rfl⟩
  obtain ⟨cc1, hcc1⟩ : ∃ x, x = cv - (1 : Int).toNat := ⟨_, rfl⟩
  have hy1 : y1.length = fr.length - (1 : Int).toNat := by rw [H1.out, List.length_drop]; rfl
  rw [show (fr).drop (1 : Int).toNat = y1 from H1.out.symm] at hr1
  replace hr1 : Kd.F (Kd.int .u8) w1.drew (fun _ => True) A1 y1.length y1 := by rw [hA1]; exact hr1
  rw [← hy1, ← hA1, ← hcc1] at hcut1
  have hlc1 : y1.length ≤ cc1 := by rw [hy1, hcc1]; exact Nat.sub_le_sub_right hroom _
  have hw64 : IntKind.i64.wrap ((fr.length : Int) - 1) = ((fr.length - 1 : Nat) : Int) := by rw [IntWalk.i64_in _ (by omega)]; omega
  have hcut2 := cut_to (P := Tryd.prog) 22 5 .i64 Tryd.underlying22 hi0 Av fr.length cv ((fr.length - 1 : Nat) : Int) (by omega) (by omega) hroom
  have hr2 := Kd.F_take (m := fr.length - 1) hF (by omega)
  have hy2 : y2.length = (((fr.length - 1 : Nat) : Int)).toNat := by rw [H2.out, List.length_take]; omega
  rw [← H2.out] at hr2
  rw [← hy2] at hcut2
  have hlc2 : y2.length ≤ cv := by rw [hy2]; omega
  have HLC1 := Aside0.mk hlc1; have HLC2 := Aside0.mk hlc2; have HRM := Aside0.mk hroom; have HL3 := Aside0.mk hL3
  have HCF := Aside0.mk (Kd.F_now hF); have HC1 := Aside0.mk (Kd.F_now hr1); have HC2 := Aside0.mk (Kd.F_now hr2)
  clear hF hr1 hr2 hi0 hsz hcc1 hA1 hlc1 hlc2 hroom
  have KY1 := Aside0.mk hy1; have KY2 := Aside0.mk hy2
  clear hy1 hy2 hL3
  refine start_ (n := 25) (S := fun w' => True) (ds := []) #[false, false, false, false, false, false, false, false, false, false, false, false, false, false, false, false, false, false, false, false, false, false, false, false, false] (by kernel_rfl) rfl rfl trivial (fun hHeld => ?_); refine with_tabW cutstab4 cutsbits4 (fun HT_ HW_ => ?_)
  generalize w1.drew = w2 at HO HB HCF HC1 HC2 hHeld ⊢
  refine pure_ (i := 0) (N := some 38) (v := ?_) (a' := ?_) #[true, false, false, false, false, false, false, false, false, false, false, false, false, false, false, false, false, false, false, false, false, false, false, false, false] rfl rfl (any_of HT_.out (by kernel_rfl)) (fun _ _ _ h => h) (Or.inl ⟨by rfl, ?_⟩) ?_ ?_
  rotate_left
  · intro w'
    go_simp
    with_reducible rfl
  rotate_left
  · simp only [Act.put, List.setIfInBounds_toArray, List.set_cons_zero, List.set_cons_succ, i64_w, i32_w]
    rfl
  refine pure_ (i := 1) (N := some 39) (v := ?_) (a' := ?_) #[true, true, false, false, false, false, false, false, false, false, false, false, false, false, false, false, false, false, false, false, false, false, false, false, false] rfl rfl (any_of HT_.out (by kernel_rfl)) (fun _ _ _ h => h) (Or.inl ⟨by rfl, ?_⟩) ?_ ?_
  rotate_left
  · intro w'
    go_simp
    with_reducible rfl
  rotate_left
  · simp only [Act.put, List.setIfInBounds_toArray, List.set_cons_zero, List.set_cons_succ, i64_w, i32_w]
    rfl
  refine pure_ (i := 2) (N := some 40) (v := ?_) (a' := ?_) #[true, true, true, false, false, false, false, false, false, false, false, false, false, false, false, false, false, false, false, false, false, false, false, false, false] rfl rfl (any_of HT_.out (by kernel_rfl)) (fun _ _ _ h => h) (Or.inl ⟨by rfl, ?_⟩) ?_ ?_
  rotate_left
  · intro w'
    go_simp
    with_reducible rfl
  rotate_left
  · simp only [Act.put, List.setIfInBounds_toArray, List.set_cons_zero, List.set_cons_succ, i64_w, i32_w]
    rfl
  refine pure_ (i := 3) (N := some 41) (v := ?_) (a' := ?_) #[true, true, true, true, false, false, false, false, false, false, false, false, false, false, false, false, false, false, false, false, false, false, false, false, false] rfl rfl (any_of HT_.out (by kernel_rfl)) (fun _ _ _ h => h) (Or.inl ⟨by rfl, ?_⟩) ?_ ?_
  rotate_left
  · intro w'
    go_simp
    with_reducible rfl
  rotate_left
  · simp only [Act.put, List.setIfInBounds_toArray, List.set_cons_zero, List.set_cons_succ, i64_w, i32_w]
    rfl
  refine pure_ (i := 4) (N := some 42) (v := ?_) (a' := ?_) #[true, true, true, true, true, false, false, false, false, false, false, false, false, false, false, false, false, false, false, false, false, false, false, false, false] rfl rfl (any_of HT_.out (by kernel_rfl)) (fun _ _ _ h => h) (Or.inl ⟨by rfl, ?_⟩) ?_ ?_
  rotate_left
  · intro w'
    go_simp
    with_reducible rfl
  rotate_left
  · simp only [Act.put, List.setIfInBounds_toArray, List.set_cons_zero, List.set_cons_succ, i64_w, i32_w]
    rfl
  refine pure_ (i := 5) (N := some 43) (v := ?_) (a' := ?_) #[true, true, true, true, true, true, false, false, false, false, false, false, false, false, false, false, false, false, false, false, false, false, false, false, false] rfl rfl (any_of HT_.out (by kernel_rfl)) (fun _ _ _ h => h) (Or.inl ⟨by rfl, ?_⟩) ?_ ?_
  rotate_left
  · intro w'
    go_simp
    with_reducible rfl
  rotate_left
  · simp only [Act.put, List.setIfInBounds_toArray, List.set_cons_zero, List.set_cons_succ, i64_w, i32_w]
    rfl
  refine pure_ (i := 6) (N := some 44) (v := ?_) (a' := ?_) #[true, true, true, true, true, true, true, false, false, false, false, false, false, false, false, false, false, false, false, false, false, false, false, false, false] rfl rfl (any_of HT_.out (by kernel_rfl)) (fun _ _ _ h => h) (Or.inl ⟨by rfl, ?_⟩) ?_ ?_
  rotate_left
  · intro w'
    go_simp
    with_reducible rfl
  rotate_left
  · simp only [Act.put, List.setIfInBounds_toArray, List.set_cons_zero, List.set_cons_succ, i64_w, i32_w]
    rfl
  refine pure_ (i := 7) (N := some 45) (v := ?_) (a' := ?_) #[true, true, true, true, true, true, true, true, false, false, false, false, false, false, false, false, false, false, false, false, false, false, false, false, false] rfl rfl (any_of HT_.out (by kernel_rfl)) (fun _ _ _ h => h) (Or.inl ⟨by rfl, ?_⟩) ?_ ?_
  rotate_left
  · intro w'
    go_simp
    with_reducible rfl
  rotate_left
  · simp only [Act.put, List.setIfInBounds_toArray, List.set_cons_zero, List.set_cons_succ, i64_w, i32_w]
    rfl
  refine pure_ (i := 9) (N := some 47) (v := ?_) (a' := ?_) #[true, true, true, true, true, true, true, true, false, true, false, false, false, false, false, false, false, false, false, false, false, false, false, false, false] rfl rfl (any_of HT_.out (by kernel_rfl)) (fun _ _ _ h => h) (Or.inl ⟨by rfl, ?_⟩) ?_ ?_
  rotate_left
  · intro w'
    go_simp
    with_reducible rfl
  rotate_left
  · simp only [Act.put, List.setIfInBounds_toArray, List.set_cons_zero, List.set_cons_succ, i64_w, i32_w]
    rfl
  refine pure_ (i := 12) (N := some 50) (v := ?_) (a' := ?_) #[true, true, true, true, true, true, true, true, false, true, false, false, true, false, false, false, false, false, false, false, false, false, false, false, false] rfl rfl (any_of HT_.out (by kernel_rfl)) (fun _ _ _ h => h) (Or.inl ⟨by rfl, ?_⟩) ?_ ?_
  rotate_left
  · intro w'
    go_simp
    with_reducible rfl
  rotate_left
  · simp only [Act.put, List.setIfInBounds_toArray, List.set_cons_zero, List.set_cons_succ, i64_w, i32_w]
    rfl
  refine pure_ (i := 14) (N := some 52) (v := ?_) (a' := ?_) #[true, true, true, true, true, true, true, true, false, true, false, false, true, false, true, false, false, false, false, false, false, false, false, false, false] rfl rfl (any_of HT_.out (by kernel_rfl)) (fun _ _ _ h => h) (Or.inl ⟨by rfl, ?_⟩) ?_ ?_
  rotate_left
  · intro w'
    go_simp
    with_reducible rfl
  rotate_left
  · simp only [Act.put, List.setIfInBounds_toArray, List.set_cons_zero, List.set_cons_succ, i64_w, i32_w]
    rfl
  refine pure_ (i := 18) (N := some 56) (v := ?_) (a' := ?_) #[true, true, true, true, true, true, true, true, false, true, false, false, true, false, true, false, false, false, true, false, false, false, false, false, false] rfl rfl (any_of HT_.out (by kernel_rfl)) (fun _ _ _ h => h) (Or.inl ⟨by rfl, ?_⟩) ?_ ?_
  rotate_left
  · intro w'
    go_simp
    with_reducible rfl
  rotate_left
  · simp only [Act.put, List.setIfInBounds_toArray, List.set_cons_zero, List.set_cons_succ, i64_w, i32_w]
    rfl
  refine pure_ (i := 20) (N := some 58) (v := ?_) (a' := ?_) #[true, true, true, true, true, true, true, true, false, true, false, false, true, false, true, false, false, false, true, false, true, false, false, false, false] rfl rfl (any_of HT_.out (by kernel_rfl)) (fun _ _ _ h => h) (Or.inl ⟨by rfl, ?_⟩) ?_ ?_
  rotate_left
  · intro w'
    go_simp
    with_reducible rfl
  rotate_left
  · simp only [Act.put, List.setIfInBounds_toArray, List.set_cons_zero, List.set_cons_succ, i64_w, i32_w]
    rfl
  refine pure_ (i := 24) (N := some 62) (v := ?_) (a' := ?_) #[true, true, true, true, true, true, true, true, false, true, false, false, true, false, true, false, false, false, true, false, true, false, false, false, true] rfl rfl (any_of HT_.out (by kernel_rfl)) (fun _ _ _ h => h) (Or.inl ⟨by rfl, ?_⟩) ?_ ?_
  rotate_left
  · intro w'
    go_simp
    with_reducible rfl
  rotate_left
  · simp only [Act.put, List.setIfInBounds_toArray, List.set_cons_zero, List.set_cons_succ, i64_w, i32_w]
    rfl
  refine inv_at [8, 10, 11, 13, 15, 16, 17, 19, 21, 22, 23] (fun a0_ b a w' => ∃ v : Nat → Value, a = putSel a0_ b [(8, 46, v 8), (10, 48, v 10), (11, 49, v 11), (13, 51, v 13), (15, 53, v 15), (16, 54, v 16), (17, 55, v 17), (19, 57, v 19), (21, 59, v 21), (22, 60, v 22), (23, 61, .int .i64 5)] ∧ Cuts w2.heap.size w2 c fr b v w' ∧ (b 22 = true → ∃ A5 c5, v 22 = .slice A5 5 c5 ∧ 5 ≤ c5 ∧ Kd.C (Kd.slice 5 (Kd.int .u8)) w' A5 5 [y1, y2, [c] ++ fr, ([] ++ fr) ++ [c], ([] ++ fr) ++ fr])) HT_.out HW_.out (by kernel_rfl) (by kernel_rfl) ?_ ?_ ?_
  · exact ⟨fun _ => .bool false, by simp only [putSel, Bool.false_eq_true, if_false], ⟨Below.refl _ _, Nat.le_refl _, fun i h => by rcases live_cases h with rfl | rfl | rfl | rfl | rfl | rfl | rfl | rfl | rfl <;> simp [live] at h, fun i j _ h => by rcases live_cases h with rfl | rfl | rfl | rfl | rfl | rfl | rfl | rfl | rfl <;> simp [live] at h⟩, fun h => absurd h (by decide)⟩
  · skip
    refine steps_cons ?_ ?_
    · rintro b a w' ⟨v, ha, hC, h22⟩ hb_ hon hoff
      refine ⟨_, rfl, fun K hK => ?_⟩
      have e1 : a.tmps[45]? = some (.int .u8 c) := by rw [ha]; exact (putSel_off rfl).trans rfl
      replace ha := Aside0.mk ha
      refine Kd.R_lit_step (Kd.int .u8) (w0 := w2) w2.heap.size 5 ?hg (N := 46) ?hd (xs := ([c] : List Int)) (inner := [.int .u8 c]) (ok := fun _ => True) (okp := fun _ => True) ?hr ?hp (fun _ hk => hk) trivial hC.below hC.size (by simp) ?_
      case hd => rfl
      case hg => rfl
      case hr => first | (go_simp; done) | (go_simp; rfl)
      case hp => exact (Reps.one (show Kd.M (Kd.int .u8) _ _ _ c [.int .u8 c] from rfl) (Reps.none _ _))
      intro v1 w3 ho hb hg hnew
      have hn := hoff 10 (by kernel_rfl)
      have hlv : ∀ j, live (up b 8) j = true → j = 8 ∨ (live b j = true ∧ j ≠ 8) := fun j hj => by rcases live_cases hj with rfl | rfl | rfl | rfl | rfl | rfl | rfl | rfl | rfl <;> simp_all [live, up]
      refine hK.out _ _ ⟨upd v 8 v1, (by rw [ha.out]; exact putSel_upk 0 hb_ rfl rfl rfl), hC.lit hlv ho hb hg hnew, fun h => absurd (show b 22 = true by simpa [up] using h) (by rw [hoff 22 (by kernel_rfl)]; decide)⟩
    refine steps_cons ?_ ?_
    · rintro b a w' ⟨v, ha, hC, h22⟩ hb_ hon hoff
      refine ⟨_, rfl, fun K hK => ?_⟩
      have hp := hon 8 (by kernel_rfl)
      have hlp : live b 8 = true := by simp [live, hp, hb_]
      have e1 : a.tmps[46]? = some (v 8) := by rw [ha]; exact putSel_on (e := (8, 46, v 8)) 0 rfl rfl hp rfl
      have e2 : a.tmps[47]? = some (.slice Av fr.length cv) := by rw [ha]; exact (putSel_off rfl).trans rfl
      replace ha := Aside0.mk ha
      have hap : ∀ j, live (up b 10) j = true → j = 10 ∨ (live b j = true ∧ j ≠ 10 ∧ ∀ k, (v 8).ownBlock = some k → (v j).ownBlock ≠ some k) := fun j hj => by
        by_cases hji : j = 10
        · exact .inl hji
        · have h1 : live b j = true ∧ j ≠ 8 := by rcases live_cases hj with rfl | rfl | rfl | rfl | rfl | rfl | rfl | rfl | rfl <;> simp_all [live, up]
          exact .inr ⟨h1.1, hji, hC.ap 8 j (Ne.symm h1.2) hlp h1.1⟩
      refine Kd.R_append_rows_step (Kd.int .u8) (Rr := (Kd.int .u8).K w') (w0 := w2) w2.heap.size (by rfl) (.tmp 46) (.tmp 47) 22 5 (.int .u8 0) 1 rfl Tryd.underlying22 Go.Proofs.YtiffmklefiehkaaDoor.info5 rfl (by decide) (by omega) (v 8) ([c]) (fr) Av (fr.length) cv (fun _ => True) (fun _ => False) ?hs ?hx (Kd.R_mono (hC.own 8 hlp) (fun _ _ => trivial)) (Kd.C_below HCF.out hC.below) (fun _ _ h => h) (fun _ h => h.elim) (fun _ _ => trivial) hC.below hC.size ?hl ?_
      case hs => simp only [Act.eval, Array.getD_eq_getD_getElem?, e1, Option.getD_some]
      case hx => simp only [Act.eval, Array.getD_eq_getD_getElem?, e2, Option.getD_some]
      case hl => have := HL3.out; simp only [List.length_append, List.length_cons, List.length_nil]; omega
      intro v1 w3 ho hb hg hat
      refine hK.out _ _ ⟨upd v 10 v1, (by rw [ha.out]; exact putSel_upk 1 hb_ rfl rfl rfl), hC.app hap ho hb hg hat, fun h => absurd (show b 22 = true by simpa [up] using h) (by rw [hoff 22 (by kernel_rfl)]; decide)⟩
    refine steps_cons ?_ ?_
    · rintro b a w' ⟨v, ha, hC, h22⟩ hb_ hon hoff
      refine ⟨_, rfl, fun K hK => ?_⟩
      replace ha := Aside0.mk ha
      refine Kd.R_lit_step (Kd.int .u8) (w0 := w2) w2.heap.size 5 ?hg (N := 49) ?hd (xs := ([] : List Int)) (inner := []) (ok := fun _ => True) (okp := fun _ => True) ?hr ?hp (fun _ hk => hk) trivial hC.below hC.size (by simp) ?_
      case hd => rfl
      case hg => rfl
      case hr => first | (go_simp; done) | (go_simp; rfl)
      case hp => exact (Reps.none _ _)
      intro v1 w3 ho hb hg hnew
      have hn := hoff 13 (by kernel_rfl)
      have hlv : ∀ j, live (up b 11) j = true → j = 11 ∨ (live b j = true ∧ j ≠ 11) := fun j hj => by rcases live_cases hj with rfl | rfl | rfl | rfl | rfl | rfl | rfl | rfl | rfl <;> simp_all [live, up]
      refine hK.out _ _ ⟨upd v 11 v1, (by rw [ha.out]; exact putSel_upk 2 hb_ rfl rfl rfl), hC.lit hlv ho hb hg hnew, fun h => absurd (show b 22 = true by simpa [up] using h) (by rw [hoff 22 (by kernel_rfl)]; decide)⟩
    refine steps_cons ?_ ?_
    · rintro b a w' ⟨v, ha, hC, h22⟩ hb_ hon hoff
      refine ⟨_, rfl, fun K hK => ?_⟩
      have hp := hon 11 (by kernel_rfl)
      have hlp : live b 11 = true := by simp [live, hp, hb_]
      have e1 : a.tmps[49]? = some (v 11) := by rw [ha]; exact putSel_on (e := (11, 49, v 11)) 2 rfl rfl hp rfl
      have e2 : a.tmps[50]? = some (.slice Av fr.length cv) := by rw [ha]; exact (putSel_off rfl).trans rfl
      replace ha := Aside0.mk ha
      have hap : ∀ j, live (up b 13) j = true → j = 13 ∨ (live b j = true ∧ j ≠ 13 ∧ ∀ k, (v 11).ownBlock = some k → (v j).ownBlock ≠ some k) := fun j hj => by
        by_cases hji : j = 13
        · exact .inl hji
        · have h1 : live b j = true ∧ j ≠ 11 := by rcases live_cases hj with rfl | rfl | rfl | rfl | rfl | rfl | rfl | rfl | rfl <;> simp_all [live, up]
          exact .inr ⟨h1.1, hji, hC.ap 11 j (Ne.symm h1.2) hlp h1.1⟩
      refine Kd.R_append_rows_step (Kd.int .u8) (Rr := (Kd.int .u8).K w') (w0 := w2) w2.heap.size (by rfl) (.tmp 49) (.tmp 50) 22 5 (.int .u8 0) 1 rfl Tryd.underlying22 Go.Proofs.YtiffmklefiehkaaDoor.info5 rfl (by decide) (by omega) (v 11) ([]) (fr) Av (fr.length) cv (fun _ => True) (fun _ => False) ?hs ?hx (Kd.R_mono (hC.own 11 hlp) (fun _ _ => trivial)) (Kd.C_below HCF.out hC.below) (fun _ _ h => h) (fun _ h => h.elim) (fun _ _ => trivial) hC.below hC.size ?hl ?_
      case hs => simp only [Act.eval, Array.getD_eq_getD_getElem?, e1, Option.getD_some]
      case hx => simp only [Act.eval, Array.getD_eq_getD_getElem?, e2, Option.getD_some]
      case hl => have := HL3.out; simp only [List.length_append, List.length_cons, List.length_nil]; omega
      intro v1 w3 ho hb hg hat
      refine hK.out _ _ ⟨upd v 13 v1, (by rw [ha.out]; exact putSel_upk 3 hb_ rfl rfl rfl), hC.app hap ho hb hg hat, fun h => absurd (show b 22 = true by simpa [up] using h) (by rw [hoff 22 (by kernel_rfl)]; decide)⟩
    refine steps_cons ?_ ?_
    · rintro b a w' ⟨v, ha, hC, h22⟩ hb_ hon hoff
      refine ⟨_, rfl, fun K hK => ?_⟩
      have e1 : a.tmps[52]? = some (.int .u8 c) := by rw [ha]; exact (putSel_off rfl).trans rfl
      replace ha := Aside0.mk ha
      refine Kd.R_lit_step (Kd.int .u8) (w0 := w2) w2.heap.size 5 ?hg (N := 53) ?hd (xs := ([c] : List Int)) (inner := [.int .u8 c]) (ok := fun _ => True) (okp := fun _ => True) ?hr ?hp (fun _ hk => hk) trivial hC.below hC.size (by simp) ?_
      case hd => rfl
      case hg => rfl
      case hr => first | (go_simp; done) | (go_simp; rfl)
      case hp => exact (Reps.one (show Kd.M (Kd.int .u8) _ _ _ c [.int .u8 c] from rfl) (Reps.none _ _))
      intro v1 w3 ho hb hg hnew
      have hn := hoff 16 (by kernel_rfl)
      have hlv : ∀ j, live (up b 15) j = true → j = 15 ∨ (live b j = true ∧ j ≠ 15) := fun j hj => by rcases live_cases hj with rfl | rfl | rfl | rfl | rfl | rfl | rfl | rfl | rfl <;> simp_all [live, up]
      refine hK.out _ _ ⟨upd v 15 v1, (by rw [ha.out]; exact putSel_upk 4 hb_ rfl rfl rfl), hC.lit hlv ho hb hg hnew, fun h => absurd (show b 22 = true by simpa [up] using h) (by rw [hoff 22 (by kernel_rfl)]; decide)⟩
    refine steps_cons ?_ ?_
    · rintro b a w' ⟨v, ha, hC, h22⟩ hb_ hon hoff
      refine ⟨_, rfl, fun K hK => ?_⟩
      have hp := hon 13 (by kernel_rfl)
      have hlp : live b 13 = true := by simp [live, hp, hb_]
      have e1 : a.tmps[51]? = some (v 13) := by rw [ha]; exact putSel_on (e := (13, 51, v 13)) 3 rfl rfl hp rfl
      have hq := hon 15 (by kernel_rfl)
      have hlq : live b 15 = true := by simp [live, hq, hb_]
      have e2 : a.tmps[53]? = some (v 15) := by rw [ha]; exact putSel_on (e := (15, 53, v 15)) 4 rfl rfl hq rfl
      obtain ⟨Ax, cx, ex, hlx, hCx⟩ := Kd.R_reads (hC.own 15 hlq)
      rw [ex] at e2
      replace ha := Aside0.mk ha
      have hap : ∀ j, live (up b 16) j = true → j = 16 ∨ (live b j = true ∧ j ≠ 16 ∧ ∀ k, (v 13).ownBlock = some k → (v j).ownBlock ≠ some k) := fun j hj => by
        by_cases hji : j = 16
        · exact .inl hji
        · have h1 : live b j = true ∧ j ≠ 13 := by rcases live_cases hj with rfl | rfl | rfl | rfl | rfl | rfl | rfl | rfl | rfl <;> simp_all [live, up]
          exact .inr ⟨h1.1, hji, hC.ap 13 j (Ne.symm h1.2) hlp h1.1⟩
      refine Kd.R_append_rows_step (Kd.int .u8) (Rr := (Kd.int .u8).K w') (w0 := w2) w2.heap.size (by rfl) (.tmp 51) (.tmp 53) 22 5 (.int .u8 0) 1 rfl Tryd.underlying22 Go.Proofs.YtiffmklefiehkaaDoor.info5 rfl (by decide) (by omega) (v 13) ([] ++ fr) ([c]) Ax (([c] : List Int).length) cx (fun _ => True) (fun _ => False) ?hs ?hx (Kd.R_mono (hC.own 13 hlp) (fun _ _ => trivial)) (hCx) (fun _ _ h => h) (fun _ h => h.elim) (fun _ _ => trivial) hC.below hC.size ?hl ?_
      case hs => simp only [Act.eval, Array.getD_eq_getD_getElem?, e1, Option.getD_some]
      case hx => simp only [Act.eval, Array.getD_eq_getD_getElem?, e2, Option.getD_some]; rfl
      case hl => have := HL3.out; simp only [List.length_append, List.length_cons, List.length_nil]; omega
      intro v1 w3 ho hb hg hat
      refine hK.out _ _ ⟨upd v 16 v1, (by rw [ha.out]; exact putSel_upk 5 hb_ rfl rfl rfl), hC.app hap ho hb hg hat, fun h => absurd (show b 22 = true by simpa [up] using h) (by rw [hoff 22 (by kernel_rfl)]; decide)⟩
    refine steps_cons ?_ ?_
    · rintro b a w' ⟨v, ha, hC, h22⟩ hb_ hon hoff
      refine ⟨_, rfl, fun K hK => ?_⟩
      replace ha := Aside0.mk ha
      refine Kd.R_lit_step (Kd.int .u8) (w0 := w2) w2.heap.size 5 ?hg (N := 55) ?hd (xs := ([] : List Int)) (inner := []) (ok := fun _ => True) (okp := fun _ => True) ?hr ?hp (fun _ hk => hk) trivial hC.below hC.size (by simp) ?_
      case hd => rfl
      case hg => rfl
      case hr => first | (go_simp; done) | (go_simp; rfl)
      case hp => exact (Reps.none _ _)
      intro v1 w3 ho hb hg hnew
      have hn := hoff 19 (by kernel_rfl)
      have hlv : ∀ j, live (up b 17) j = true → j = 17 ∨ (live b j = true ∧ j ≠ 17) := fun j hj => by rcases live_cases hj with rfl | rfl | rfl | rfl | rfl | rfl | rfl | rfl | rfl <;> simp_all [live, up]
      refine hK.out _ _ ⟨upd v 17 v1, (by rw [ha.out]; exact putSel_upk 6 hb_ rfl rfl rfl), hC.lit hlv ho hb hg hnew, fun h => absurd (show b 22 = true by simpa [up] using h) (by rw [hoff 22 (by kernel_rfl)]; decide)⟩
    refine steps_cons ?_ ?_
    · rintro b a w' ⟨v, ha, hC, h22⟩ hb_ hon hoff
      refine ⟨_, rfl, fun K hK => ?_⟩
      have hp := hon 17 (by kernel_rfl)
      have hlp : live b 17 = true := by simp [live, hp, hb_]
      have e1 : a.tmps[55]? = some (v 17) := by rw [ha]; exact putSel_on (e := (17, 55, v 17)) 6 rfl rfl hp rfl
      have e2 : a.tmps[56]? = some (.slice Av fr.length cv) := by rw [ha]; exact (putSel_off rfl).trans rfl
      replace ha := Aside0.mk ha
      have hap : ∀ j, live (up b 19) j = true → j = 19 ∨ (live b j = true ∧ j ≠ 19 ∧ ∀ k, (v 17).ownBlock = some k → (v j).ownBlock ≠ some k) := fun j hj => by
        by_cases hji : j = 19
        · exact .inl hji
        · have h1 : live b j = true ∧ j ≠ 17 := by rcases live_cases hj with rfl | rfl | rfl | rfl | rfl | rfl | rfl | rfl | rfl <;> simp_all [live, up]
          exact .inr ⟨h1.1, hji, hC.ap 17 j (Ne.symm h1.2) hlp h1.1⟩
      refine Kd.R_append_rows_step (Kd.int .u8) (Rr := (Kd.int .u8).K w') (w0 := w2) w2.heap.size (by rfl) (.tmp 55) (.tmp 56) 22 5 (.int .u8 0) 1 rfl Tryd.underlying22 Go.Proofs.YtiffmklefiehkaaDoor.info5 rfl (by decide) (by omega) (v 17) ([]) (fr) Av (fr.length) cv (fun _ => True) (fun _ => False) ?hs ?hx (Kd.R_mono (hC.own 17 hlp) (fun _ _ => trivial)) (Kd.C_below HCF.out hC.below) (fun _ _ h => h) (fun _ h => h.elim) (fun _ _ => trivial) hC.below hC.size ?hl ?_
      case hs => simp only [Act.eval, Array.getD_eq_getD_getElem?, e1, Option.getD_some]
      case hx => simp only [Act.eval, Array.getD_eq_getD_getElem?, e2, Option.getD_some]
      case hl => have := HL3.out; simp only [List.length_append, List.length_cons, List.length_nil]; omega
      intro v1 w3 ho hb hg hat
      refine hK.out _ _ ⟨upd v 19 v1, (by rw [ha.out]; exact putSel_upk 7 hb_ rfl rfl rfl), hC.app hap ho hb hg hat, fun h => absurd (show b 22 = true by simpa [up] using h) (by rw [hoff 22 (by kernel_rfl)]; decide)⟩
    refine steps_cons ?_ ?_
    · rintro b a w' ⟨v, ha, hC, h22⟩ hb_ hon hoff
      refine ⟨_, rfl, fun K hK => ?_⟩
      have hp := hon 19 (by kernel_rfl)
      have hlp : live b 19 = true := by simp [live, hp, hb_]
      have e1 : a.tmps[57]? = some (v 19) := by rw [ha]; exact putSel_on (e := (19, 57, v 19)) 7 rfl rfl hp rfl
      have e2 : a.tmps[58]? = some (.slice Av fr.length cv) := by rw [ha]; exact (putSel_off rfl).trans rfl
      replace ha := Aside0.mk ha
      have hap : ∀ j, live (up b 21) j = true → j = 21 ∨ (live b j = true ∧ j ≠ 21 ∧ ∀ k, (v 19).ownBlock = some k → (v j).ownBlock ≠ some k) := fun j hj => by
        by_cases hji : j = 21
        · exact .inl hji
        · have h1 : live b j = true ∧ j ≠ 19 := by rcases live_cases hj with rfl | rfl | rfl | rfl | rfl | rfl | rfl | rfl | rfl <;> simp_all [live, up]
          exact .inr ⟨h1.1, hji, hC.ap 19 j (Ne.symm h1.2) hlp h1.1⟩
      refine Kd.R_append_rows_step (Kd.int .u8) (Rr := (Kd.int .u8).K w') (w0 := w2) w2.heap.size (by rfl) (.tmp 57) (.tmp 58) 22 5 (.int .u8 0) 1 rfl Tryd.underlying22 Go.Proofs.YtiffmklefiehkaaDoor.info5 rfl (by decide) (by omega) (v 19) ([] ++ fr) (fr) Av (fr.length) cv (fun _ => True) (fun _ => False) ?hs ?hx (Kd.R_mono (hC.own 19 hlp) (fun _ _ => trivial)) (Kd.C_below HCF.out hC.below) (fun _ _ h => h) (fun _ h => h.elim) (fun _ _ => trivial) hC.below hC.size ?hl ?_
      case hs => simp only [Act.eval, Array.getD_eq_getD_getElem?, e1, Option.getD_some]
      case hx => simp only [Act.eval, Array.getD_eq_getD_getElem?, e2, Option.getD_some]
      case hl => have := HL3.out; simp only [List.length_append, List.length_cons, List.length_nil]; omega
      intro v1 w3 ho hb hg hat
      refine hK.out _ _ ⟨upd v 21 v1, (by rw [ha.out]; exact putSel_upk 8 hb_ rfl rfl rfl), hC.app hap ho hb hg hat, fun h => absurd (show b 22 = true by simpa [up] using h) (by rw [hoff 22 (by kernel_rfl)]; decide)⟩
    refine steps_cons ?_ ?_
    · rintro b a w' ⟨v, ha, hC, h22⟩ hb_ hon hoff
      refine ⟨_, rfl, fun K hK => ?_⟩
      have hn10 := hon 10 (by kernel_rfl)
      have hl10 : live b 10 = true := by simp [live, hn10]
      have e10 : a.tmps[48]? = some (v 10) := by rw [ha]; exact putSel_on (e := (10, 48, v 10)) 1 rfl rfl hn10 rfl
      obtain ⟨A10, c10, ex10, hlx10, hCx10⟩ := Kd.R_reads (hC.own 10 hl10)
      rw [ex10] at e10
      have hn16 := hon 16 (by kernel_rfl)
      have hl16 : live b 16 = true := by simp [live, hn16]
      have e16 : a.tmps[54]? = some (v 16) := by rw [ha]; exact putSel_on (e := (16, 54, v 16)) 5 rfl rfl hn16 rfl
      obtain ⟨A16, c16, ex16, hlx16, hCx16⟩ := Kd.R_reads (hC.own 16 hl16)
      rw [ex16] at e16
      have hn21 := hon 21 (by kernel_rfl)
      have hl21 : live b 21 = true := by simp [live, hn21]
      have e21 : a.tmps[59]? = some (v 21) := by rw [ha]; exact putSel_on (e := (21, 59, v 21)) 8 rfl rfl hn21 rfl
      obtain ⟨A21, c21, ex21, hlx21, hCx21⟩ := Kd.R_reads (hC.own 21 hl21)
      rw [ex21] at e21
      have f1 : a.tmps[39]? = some (.slice A1 y1.length cc1) := by rw [ha]; exact (putSel_off rfl).trans rfl
      have f2 : a.tmps[44]? = some (.slice Av y2.length cv) := by rw [ha]; exact (putSel_off rfl).trans rfl
      replace ha := Aside0.mk ha
      refine Kd.R_lit_step (hdr w') (w0 := w') w'.heap.size 22 ?hg (N := 60) ?hd (xs := ([y1, y2, [c] ++ fr, ([] ++ fr) ++ [c], ([] ++ fr) ++ fr] : List (List Int))) (inner := [.slice A1 y1.length cc1, .slice Av y2.length cv, .slice A10 (cont c fr 10).length c10, .slice A16 (cont c fr 16).length c16, .slice A21 (cont c fr 21).length c21]) (ok := fun _ => True) (okp := fun _ => True) ?hr ?hp (fun _ hk => hk) trivial (Below.refl _ _) (Nat.le_refl _) (by simp) ?_
      case hd => rfl
      case hg => rfl
      case hr => first | (go_simp; done) | (go_simp; rfl)
      case hp => exact Reps.one (show (hdr w').M _ _ _ y1 [.slice A1 y1.length cc1] from ⟨_, _, rfl, HLC1.out, Kd.C_below HC1.out hC.below⟩) (Reps.one (show (hdr w').M _ _ _ y2 [.slice Av y2.length cv] from ⟨_, _, rfl, HLC2.out, Kd.C_below HC2.out hC.below⟩) (Reps.one (show (hdr w').M _ _ _ _ [.slice A10 (cont c fr 10).length c10] from ⟨_, _, rfl, hlx10, hCx10⟩) (Reps.one (show (hdr w').M _ _ _ _ [.slice A16 (cont c fr 16).length c16] from ⟨_, _, rfl, hlx16, hCx16⟩) (Reps.one (show (hdr w').M _ _ _ _ [.slice A21 (cont c fr 21).length c21] from ⟨_, _, rfl, hlx21, hCx21⟩) (Reps.none _ _)))))
      intro v1 w3 ho hb hg hnew
      obtain ⟨A5, c5, e5, hl5, hC5⟩ := Kd.R_reads ho
      have hb3 : Below w2.heap.size w2 w3 := hC.below.trans (hb.mono hC.size)
      have hlv : ∀ j, live (up b 22) j = true → live b j = true ∧ j ≠ 22 := fun j hj => by rcases live_cases hj with rfl | rfl | rfl | rfl | rfl | rfl | rfl | rfl | rfl <;> simp_all [live, up]
      refine hK.out _ _ ⟨upd v 22 v1, (by rw [ha.out]; exact putSel_upk 9 hb_ rfl rfl rfl), ⟨hb3, Nat.le_trans hC.size hb.size, fun j hj => ?_, fun j j' hne hj hj' k => ?_⟩, fun _ => ⟨A5, c5, by rw [upd_self]; exact e5, hl5, hdr_C hC5 hb⟩⟩
      · rw [upd_ne v v1 (hlv j hj).2]; exact Kd.R_below (hC.own j (hlv j hj).1) hb
      · rw [upd_ne v v1 (hlv j hj).2, upd_ne v v1 (hlv j' hj').2]; exact hC.ap j j' hne (hlv j hj).1 (hlv j' hj').1 k
    refine steps_cons ?_ ?_
    · rintro b a w' ⟨v, ha, hC, h22⟩ hb_ hon hoff
      refine ⟨_, rfl, fun K hK => ?_⟩
      have hn22 := hon 22 (by kernel_rfl)
      obtain ⟨A5, c5, e5, hl5, hC5⟩ := h22 hn22
      have e1 : a.tmps[60]? = some (v 22) := by rw [ha]; exact putSel_on (e := (22, 60, v 22)) 9 rfl rfl hn22 rfl
      rw [e5] at e1
      replace ha := Aside0.mk ha
      refine value_ (w1 := w') (v := .int .i64 5) (by rfl) rfl ?_ ?_
      · go_simp
        try rfl
      have hlv : ∀ j, live (up b 23) j = true → live b j = true := fun j hj => by rcases live_cases hj with rfl | rfl | rfl | rfl | rfl | rfl | rfl | rfl | rfl <;> simp_all [live, up]
      refine hK.out _ _ ⟨v, (by rw [ha.out]; exact putSel_upk 10 hb_ rfl rfl rfl), ⟨hC.below, hC.size, fun j hj => hC.own j (hlv j hj), fun j j' hne hj hj' => hC.ap j j' hne (hlv j hj) (hlv j' hj')⟩, fun _ => ⟨A5, c5, e5, hl5, hC5⟩⟩
    exact steps_nil
  · rintro b a w' hall ⟨v, ha, hC, h22⟩
    have hb8_ := hall 8 (by kernel_rfl)
    have hb10_ := hall 10 (by kernel_rfl)
    have hb11_ := hall 11 (by kernel_rfl)
    have hb13_ := hall 13 (by kernel_rfl)
    have hb15_ := hall 15 (by kernel_rfl)
    have hb16_ := hall 16 (by kernel_rfl)
    have hb17_ := hall 17 (by kernel_rfl)
    have hb19_ := hall 19 (by kernel_rfl)
    have hb21_ := hall 21 (by kernel_rfl)
    have hb22_ := hall 22 (by kernel_rfl)
    have hb23_ := hall 23 (by kernel_rfl)
    obtain ⟨A5, c5, e5, hl5, hC5⟩ := h22 hb22_
    rw [e5] at ha
    have HBW := Aside0.mk hC.below; have HC5 := Aside0.mk hC5; have HL5 := Aside0.mk hl5
    subst ha
    simp only [putSel, hb8_, hb10_, hb11_, hb13_, hb15_, hb16_, hb17_, hb19_, hb21_, hb22_, hb23_, if_true, Act.put, List.setIfInBounds_toArray, List.set_cons_zero, List.set_cons_succ]
    clear hall h22 hC hC5 hl5 e5 hb8_ hb10_ hb11_ hb13_ hb15_ hb16_ hb17_ hb19_ hb21_ hb22_ hb23_
    have HBS := Aside0.mk (HB.out.trans (HBW.out.mono HB.out.size))
    go_wp2
    go_loopw [62] (fun v62 W => ∃ i : Nat, i ≤ 5 ∧ v62 = .int .i64 (i : Int) ∧ Aside0 (Below w'.heap.size w' W)) (fun v62 _ => 5 - (intOf v62).toNat)
    case atStart => exact ⟨0, by omega, rfl, ⟨Below.refl _ _⟩⟩
    case round =>
      obtain ⟨i, hi, rfl, HBl⟩ := hrel
      by_cases hlt : i < 5
      · have hC := Kd.C_below HC5.out HBl.out
        obtain ⟨ad, Ax, cx, ea, hcell, hlx, hCx⟩ := at_L1 hC (i : Int) (by omega) (by omega)
        subst ea
        obtain ⟨x, hx⟩ : ∃ x, x = rd_L1 ([y1, y2, [c] ++ fr, ([] ++ fr) ++ [c], ([] ++ fr) ++ fr]) (i : Int) := ⟨_, rfl⟩
        rw [← hx] at hcell hlx hCx
        rw [Int.toNat_natCast] at hcell
        have hmem : x ∈ [y1, y2, [c] ++ fr, ([] ++ fr) ++ [c], ([] ++ fr) ++ fr] := by
          have hi' : i < ([y1, y2, [c] ++ fr, ([] ++ fr) ++ [c], ([] ++ fr) ++ fr] : List (List Int)).length := hlt
          rw [hx, rd_L1, Int.toNat_natCast, List.getD_eq_getElem?_getD, List.getElem?_eq_getElem hi', Option.getD_some]
          exact List.getElem_mem hi'
        obtain ⟨code, hcode, hun⟩ := HU.out x hmem
        have hcb : (code == (0 : Int)) = false := beq_eq_false_iff_ne.mpr hcode
        have HUN := Aside0.mk hun; have HLX := Aside0.mk hlx; have HCX := Aside0.mk hCx
        clear hx hmem hC hun hlx hCx
        go_wp2_with (go_at_call 17; refine (frame_Unwrap.calls _ _ _ _ _ _ (Glob.below HG.out (HBS.out.trans (HBl.out.mono HBS.out.size))) HCX.out HLX.out HUN.out).mono ?_; rintro e w4 ⟨v0, rfl, ho, hb⟩; obtain ⟨Av4, cv4, ev4⟩ := Kd.R_slice ho; subst ev4; have HB4 := Aside0.mk hb; clear hb ho)
        go_roundw
        case rel => exact ⟨i + 1, by omega, by go_num, ⟨HBl.out.trans (HB4.out.mono HBl.out.size)⟩⟩
        case measure => simp [intOf]; omega
      · go_wp2_with (go_at_call 11; refine (lamplighterlaw04_alive.calls true _ (Glob.below HG.out (HBS.out.trans (HBl.out.mono HBS.out.size))) cuts_alive).mono ?_; rintro e w4 ⟨rfl, hb⟩; have HB4 := Aside0.mk hb; clear hb)
        go_ret
        exact ⟨rfl, (HBS.out.trans (HBl.out.mono HBS.out.size)).trans (HB4.out.mono (Nat.le_trans HBS.out.size HBl.out.size))⟩
end Go.Proofs.YtiffmklefiehkaaDoor
