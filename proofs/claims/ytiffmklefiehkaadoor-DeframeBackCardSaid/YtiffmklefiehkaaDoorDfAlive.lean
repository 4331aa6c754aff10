/- The document's example of the deframer: the call comes to true. -/
import Derived.Test.YtiffmklefiehkaaDoorDfNew
namespace Go.Proofs.YtiffmklefiehkaaDoor
set_option linter.unusedVariables false
open Go.RowKit Go.Proofs.YtiffmklefiehkaaDoorW.PrintWords Go.Proofs.YtiffmklefiehkaaDoorW.PrintLast

theorem C_keep {S : Nat → Prop} {w W : World} {A : Option Addr} {n : Nat} {xs : List Int} (h : Kd.C (Kd.int .u8) w A n xs) (hk : Keep S w W) (hS : ∀ ad, A = some ad → ¬ S ad.block) : Kd.C (Kd.int .u8) W A n xs := by
  refine ⟨h.1, h.2.1, fun hn => ?_⟩
  obtain ⟨ad, e, hc⟩ := h.2.2 hn
  refine ⟨ad, e, fun j p hj => ?_⟩
  obtain ⟨c, h1, h2, h3⟩ := hc j p hj
  refine ⟨c, h1, h2, fun i u hu => ?_⟩
  have hcell := h3 i u hu
  have hlt := World.block_lt_of_cell? _ _ hcell
  rw [← hcell]
  refine World.cell?_of_block (w := w) (hk.block _ hlt ?_)
  have : (ad.add (j * (Kd.int .u8).sz + i)).block = ad.block := by unfold Addr.add; split <;> rfl
  rw [this]
  exact hS ad e

/-- A literal of bytes. -/
theorem C_lits (w : World) (xs : List Int) (t : Nat) (hl : xs.length ≤ 9223372036854775807) : Kd.C (Kd.int .u8) (w.alloc (.cells (nums .u8 xs).toArray t)) (some ⟨w.heap.size, 0, none⟩) xs.length xs := by
  refine ⟨rfl, hl, fun _ => ⟨_, rfl, fun j p hj => ⟨[.int .u8 p], rfl, rfl, fun i u hu => ?_⟩⟩⟩
  rcases i with _ | i
  · simp at hu
    subst hu
    rw [add_plain, blk_cell (blk_new _ _)]
    simp [nums, Kd.int, Kd.scalar, hj]
  · simp at hu

/-- The first of some slices of bytes: where it lies, and its bytes as a string. -/
theorem own_row_at {w : World} {base : Nat} {ok : Nat → Prop} {v : Value} {xs : List (List Int)} (h : Owns w base ok v xs) (i : Nat) (x : List Int) (hx : xs[i]? = some x) :
    ∃ ad c A0 c0, v = .slice (some ad) xs.length c ∧ w.cell? (ad.add i) = some (.slice A0 x.length c0) ∧ x.length ≤ c0 ∧ Kd.C (Kd.int .u8) w A0 x.length x := by
  obtain ⟨A, c, e, _, hr⟩ := Kd.R_reads h
  have hil := (List.getElem?_eq_some_iff.1 hx).1
  obtain ⟨ad, ea, hc⟩ := hr.2.2 (by omega)
  obtain ⟨cs, h1, ⟨A0, c0, e0, hl0, hr0⟩, h3⟩ := hc i x hx
  subst e0
  refine ⟨ad, c, A0, c0, by rw [e, ea], ?_, hl0, hr0⟩
  have := h3 0 _ rfl
  simpa [Kd.slice] using this

set_option maxHeartbeats 400000 in
set_option maxRecDepth 100000 in
theorem df_alive (w : World) : Calls Tryd.prog 19 #[] w fun e w' => e = .returned (.bool true) ∧ Below w.heap.size w w' := by
  have hrun : Df.run (Df.new 3) [65, 11, 66, 28, 13, 11, 67, 11, 68] = ⟨3, true, false, [68], [[66]], 1, 0, 1⟩ := by rfl
  have hb9 : Bytes [65, 11, 66, 28, 13, 11, 67, 11, 68] := by decide
  have hfine : (Df.new 3).Fine 0 := ⟨by decide, by decide, by decide, by decide, by decide, by decide, by decide, by decide, by decide, by decide, by decide, fun _ h => by cases h⟩
  have hs66 : (strOfNums [66]).toList = [66] := by decide +kernel
  have HRUN := Aside0.mk hrun; have H9 := Aside0.mk hb9; have HFN := Aside0.mk hfine
  clear hrun hb9 hfine
  go_enter Tryd.func19, Tryd.ntmps19
  go_wp2_with (go_at_call 21; refine (df_new 3 w w.heap.size (Nat.le_refl _) (by omega) (by omega)).mono ?_; rintro e w1 ⟨rfl, hI, hb⟩; have HI1 := Aside0.mk hI; have HB1 := Aside0.mk hb; clear hI hb)
  have HLT := Aside0.mk (blk_lt HI1.out.blk)
  go_wp2_with (first
    | (go_at_call 23; refine (df_feed (HI1.out.below (below_alloc (Below.refl _ _) _)) ?hb 0 HFN.out (l := [65, 11, 66, 28, 13, 11, 67, 11, 68]) H9.out ?hn ?hr).mono ?_; (case hb => exact (below_alloc HB1.out _).size); (case hn => decide); (case hr => exact fun W hk => C_keep (C_lits w1 [65, 11, 66, 28, 13, 11, 67, 11, 68] 5 (by decide)) hk (fun ad e => by cases e; have := HLT.out; simp; omega)); rintro e w2 ⟨vn', vf', rfl, hI, hK, ho⟩; rw [HRUN.out] at hI ho; have HI2 := Aside0.mk hI; have HB2 := Aside0.mk ((below_alloc HB1.out _).trans (hK.below (by have := (below_alloc HB1.out (.cells (nums .u8 [65, 11, 66, 28, 13, 11, 67, 11, 68]).toArray 5)).size; exact this) (fun k hk => by have := HB1.out.size; simp at hk; omega))); obtain ⟨ad, c, A0, c0, ev, hcell, hlc, hC⟩ := own_row_at ho 0 [66] rfl; subst ev; have hstr := Kd.C_string (P := Tryd.prog) (A := A0) (c := c0) Tryd.underlying22 Tryd.underlying5 Tryd.underlying9 hC; rw [Addr.add_zero'] at hcell; simp only [List.length_cons, List.length_nil, Nat.zero_add] at hcell hstr; clear hI hK ho hC)
    | (go_at_call 28; refine (df_junk HI2.out).mono ?_; rintro e w3 ⟨rfl, hb⟩; have HIn := Aside0.mk (HI2.out.below hb); have HBn := Aside0.mk (HB2.out.trans (hb.mono HB2.out.size)); clear HI2 HB2 hb; have HI2 := HIn; have HB2 := HBn; clear HIn HBn)
    | (go_at_call 26; refine (df_broken HI2.out).mono ?_; rintro e w3 ⟨rfl, hb⟩; have HIn := Aside0.mk (HI2.out.below hb); have HBn := Aside0.mk (HB2.out.trans (hb.mono HB2.out.size)); clear HI2 HB2 hb; have HI2 := HIn; have HB2 := HBn; clear HIn HBn)
    | (go_at_call 27; refine (df_held HI2.out (by decide)).mono ?_; rintro e w3 ⟨rfl, hb⟩; have HIn := Aside0.mk (HI2.out.below hb); have HBn := Aside0.mk (HB2.out.trans (hb.mono HB2.out.size)); clear HI2 HB2 hb; have HI2 := HIn; have HB2 := HBn; clear HIn HBn)
    | (go_at_call 25; refine (df_over HI2.out).mono ?_; rintro e w3 ⟨rfl, hb⟩; have HIn := Aside0.mk (HI2.out.below hb); have HBn := Aside0.mk (HB2.out.trans (hb.mono HB2.out.size)); clear HI2 HB2 hb; have HI2 := HIn; have HB2 := HBn; clear HIn HBn))
  go_ret
  exact ⟨rfl, HB2.out⟩
end Go.Proofs.YtiffmklefiehkaaDoor
