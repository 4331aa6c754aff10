/- A frame that is begun and broken off by a new one is counted as broken; the new one is found: the walk, and the plain law. -/
import Derived.Test.YtiffmklefiehkaaDoorDfAlive
namespace Go.Proofs.YtiffmklefiehkaaDoor
set_option linter.unusedVariables false
open Go.RowKit Go.Proofs.YtiffmklefiehkaaDoorW.PrintWords Go.Proofs.YtiffmklefiehkaaDoorW.PrintLast

/-- How many bytes a frame may have, of any number. -/
def mostL (n : Int) : Int := 1 + IntKind.u64.wrap n % 200
theorem mostL_range (n : Int) : 1 ≤ mostL n ∧ mostL n ≤ 200 := by unfold mostL; omega

set_option maxHeartbeats 400000 in
theorem most_any (n : Int) (w : World) : Calls Tryd.prog 22 #[.int .i64 n] w fun e w' => e = .returned (.int .i64 (mostL n)) ∧ w' = w := by
  have hw : 0 ≤ IntKind.u64.wrap n := by rw [IntKind.wrap_u64]; omega
  go_enter Tryd.func22, Tryd.ntmps22
  go_wp2
  go_ret
  exact ⟨rfl, rfl⟩

/-- The piece of a slice up to k. -/
theorem C_upto {w : World} {A : Option Addr} {xs : List Int} (h : Kd.C (Kd.int .u8) w A xs.length xs) (k : Nat) (hk : k ≤ xs.length) : Kd.C (Kd.int .u8) w A (xs.take k).length (xs.take k) := Kd.C_take h hk

set_option maxHeartbeats 400000 in
set_option maxRecDepth 100000 in
theorem breaks_bad (n at_ : Int) (A : Option Addr) (c0 : Nat) (l0 : List Int) (w : World) (hG : Glob w) (hr0 : Kd.C (Kd.int .u8) w A l0.length l0) (hc0 : l0.length ≤ c0) (hw : frame_Wrap.f l0 = some ([], 10)) :
    Calls Tryd.prog 10 #[.int .i64 n, .slice A l0.length c0, .int .i64 at_] w fun e w' => e = .returned (.bool true) ∧ Below w.heap.size w w' := by
  have HG := Aside0.mk hG; have HR := Aside0.mk hr0; have HC := Aside0.mk hc0; have HW := Aside0.mk hw
  have HM := Aside0.mk (mostL_range n)
  clear hG hr0 hc0 hw
  go_enter Tryd.func10, Tryd.ntmps10
  go_wp2_with (first
    | (go_at_call 12; refine (frame_Wrap.calls _ _ _ _ _ _ HG.out HR.out HC.out HW.out).mono ?_; rintro e w1 ⟨v, rfl, ho, hb⟩; obtain ⟨Av, cv, ev⟩ := Kd.R_slice ho; subst ev; have HB := Aside0.mk hb; clear hb ho)
    | (go_at_call 22; refine (most_any _ _).mono ?_; rintro e w' ⟨rfl, hw⟩; have hw' := hw.symm; subst hw'; clear hw)
    | (go_at_call 21; refine (df_new _ _ _ (Nat.le_refl _) (by have := HM.out; omega) (by have := HM.out; omega)).mono ?_; rintro e w2 ⟨rfl, hI, hb⟩; have HBn := Aside0.mk (HB.out.trans (hb.mono HB.out.size)); clear HB hI hb; have HB := HBn; clear HBn)
    | (go_at_call 19; refine (df_alive _).mono ?_; rintro e w2 ⟨rfl, hb⟩; have HBn := Aside0.mk (HB.out.trans (hb.mono HB.out.size)); clear HB hb; have HB := HBn; clear HBn))
  go_ret
  exact ⟨rfl, HB.out⟩

set_option maxHeartbeats 400000 in
set_option maxRecDepth 100000 in
theorem breaks_great (n at_ : Int) (A : Option Addr) (c0 : Nat) (l0 : List Int) (w : World) (hG : Glob w) (hr0 : Kd.C (Kd.int .u8) w A l0.length l0) (hc0 : l0.length ≤ c0) (r : List Int) (hw : frame_Wrap.f l0 = some (r, 0)) (hl : mostL n < (l0.length : Int)) :
    Calls Tryd.prog 10 #[.int .i64 n, .slice A l0.length c0, .int .i64 at_] w fun e w' => e = .returned (.bool true) ∧ Below w.heap.size w w' := by
  have HG := Aside0.mk hG; have HR := Aside0.mk hr0; have HC := Aside0.mk hc0; have HW := Aside0.mk hw
  have HM := Aside0.mk (mostL_range n)
  clear hG hr0 hc0 hw
  go_enter Tryd.func10, Tryd.ntmps10
  go_wp2_with (first
    | (go_at_call 12; refine (frame_Wrap.calls _ _ _ _ _ _ HG.out HR.out HC.out HW.out).mono ?_; rintro e w1 ⟨v, rfl, ho, hb⟩; obtain ⟨Av, cv, ev⟩ := Kd.R_slice ho; subst ev; have HB := Aside0.mk hb; clear hb ho)
    | (go_at_call 22; refine (most_any _ _).mono ?_; rintro e w' ⟨rfl, hw⟩; have hw' := hw.symm; subst hw'; clear hw)
    | (go_at_call 21; refine (df_new _ _ _ (Nat.le_refl _) (by have := HM.out; omega) (by have := HM.out; omega)).mono ?_; rintro e w2 ⟨rfl, hI, hb⟩; have HBn := Aside0.mk (HB.out.trans (hb.mono HB.out.size)); clear HB hI hb; have HB := HBn; clear HBn)
    | (go_at_call 19; refine (df_alive _).mono ?_; rintro e w2 ⟨rfl, hb⟩; have HBn := Aside0.mk (HB.out.trans (hb.mono HB.out.size)); clear HB hb; have HB := HBn; clear HBn))
  go_ret
  exact ⟨rfl, HB.out⟩

set_option maxHeartbeats 400000 in
set_option maxRecDepth 100000 in
theorem breaks_main (n at_ : Int) (A : Option Addr) (c0 : Nat) (l0 : List Int) (w : World) (hG : Glob w) (hr0 : Kd.C (Kd.int .u8) w A l0.length l0) (hc0 : l0.length ≤ c0) (r : List Int) (hw : frame_Wrap.f l0 = some (r, 0)) (hl : ¬ mostL n < (l0.length : Int)) (hr2 : 2 ≤ r.length) (hr3 : r.length ≤ 1000) (hrb : Bytes r) (j : Nat) (hj : j + 2 ≤ r.length) (hidx : wrap64 (Int.tmod (IntKind.u64.wrap at_) ((r.length : Int) - 1)) = (j : Int))
    (hS : Df.run { Df.run (Df.new (mostL n)) (r.take (1 + j)) with found := [] } r = ⟨mostL n, false, false, [], [l0], 0, 0, 1⟩) :
    Calls Tryd.prog 10 #[.int .i64 n, .slice A l0.length c0, .int .i64 at_] w fun e w' => e = .returned (.bool true) ∧ Below w.heap.size w w' := by
  have HG := Aside0.mk hG; have HR := Aside0.mk hr0; have HS := Aside0.mk hS; clear hS; have HC := Aside0.mk hc0; have HW := Aside0.mk hw
  have HM := Aside0.mk (mostL_range n)
  clear hG hr0 hc0 hw
  go_enter Tryd.func10, Tryd.ntmps10
  go_wp2_with (first
    | (go_at_call 12; refine (frame_Wrap.calls _ _ _ _ _ _ HG.out HR.out HC.out HW.out).mono ?_; rintro e w1 ⟨v, rfl, ho, hb⟩; obtain ⟨Av, cv, ev, hcv, _⟩ := Kd.R_reads ho; subst ev; have HW1 := Aside0.mk hb.size; have HB := Aside0.mk hb; have HO := Aside0.mk ho; clear hb ho)
    | (go_at_call 22; refine (most_any _ _).mono ?_; rintro e w' ⟨rfl, hw⟩; have hw' := hw.symm; subst hw'; clear hw)
    | (go_at_call 21; refine (df_new _ _ _ (Nat.le_refl _) (by have := HM.out; omega) (by have := HM.out; omega)).mono ?_; rintro e w2 ⟨rfl, hI, hb⟩; have HBn := Aside0.mk (HB.out.trans (hb.mono HB.out.size)); have HI := Aside0.mk hI; have HOn := Aside0.mk (Kd.R_below HO.out hb); have HLT := Aside0.mk (Kd.R_lt HO.out); clear HO HB hI hb; have HB := HBn; have HO := HOn; clear HBn HOn)
    | (go_at_call 19; refine (df_alive _).mono ?_; rintro e w3 ⟨rfl, hb⟩; have HBn := Aside0.mk (HB.out.trans (hb.mono HB.out.size)); have HIn := Aside0.mk (HI.out.below hb); have HOn := Aside0.mk (Kd.R_below HO.out hb); clear HB HI HO hb; have HB := HBn; have HI := HIn; have HO := HOn; clear HBn HIn HOn))
  have hpl : (r.take (1 + j)).length = 1 + j := by rw [List.length_take]; omega
  have hfine : (Df.new (mostL n)).Fine 0 := ⟨HM.out.1, by have := HM.out; simp [Df.new]; omega, by have := HM.out; simp [Df.new]; omega, Nat.zero_le _, Int.le_refl _, Int.le_refl _, Int.le_refl _, Int.le_refl _, Int.le_refl _, Int.le_refl _, Bytes.nil, fun _ h => by cases h⟩
  have hC3 : Kd.C (Kd.int .u8) w3 Av r.length r := (Kd.R_reads' HO.out).2.2
  have hfar : ∀ ad, Av = some ad → ad.block < w1.heap.size := fun ad e => HLT.out ad.block (by rw [e]; rfl)
  have hlt1 := blk_lt HI.out.blk
  refine calls_of_args (args' := #[.pointer (some ⟨w1.heap.size, 0, none⟩), .slice Av (r.take (1 + j)).length cv]) (by rw [hpl]) ?_
  refine (df_feed HI.out (by omega) 0 hfine (hrb.take _) (by rw [hpl]; omega) (fun W hk => C_keep (Kd.C_take hC3 (by omega)) hk (fun ad e h => by have := hfar ad e; omega))).mono ?_
  rintro e w4 ⟨vn1, vf1, rfl, hI4, hK4, _⟩
  have hC4 : Kd.C (Kd.int .u8) w4 Av r.length r := C_keep hC3 hK4 (fun ad e h => by have := hfar ad e; omega)
  have hfine1 := hfine.run (hrb.take (1 + j))
  have hfine2 : Df.Fine { Df.run (Df.new (mostL n)) (r.take (1 + j)) with found := [] } 1000 :=
    have h := hfine1.mono (m := 1000) (by rw [hpl]; omega)
    ⟨h.most0, h.most1, h.now, Nat.zero_le _, h.junk0, h.junk1, h.over0, h.over1, h.broken0, h.broken1, h.bytes, fun _ h => by cases h⟩
  have hB4 : Below w.heap.size w w4 := HB.out.trans (hK4.below HB.out.size (fun k hk => by have := HB.out.size; have := HI.out.ge; rcases hk with rfl | hk; (· have := HW1.out; omega); (· omega)))
  have H4 := Aside0.mk hC4; have HF2 := Aside0.mk hfine2; have HI4 := Aside0.mk hI4; have HB4 := Aside0.mk hB4; have HK4 := Aside0.mk hK4; have HFAR := Aside0.mk hfar; have HRB := Aside0.mk hrb; have HLT1 := Aside0.mk hlt1; have HSZ := Aside0.mk HB.out.size
  clear hC4 hC3 hfine hfine1 hfine2 hI4 hB4 hK4 hfar hpl hlt1 HB HI HO hrb
  go_wp2_with (go_at_call 23; refine (df_feed HI4.out ?hb 1000 HF2.out HRB.out ?hn ?hr).mono ?_; (case hb => have := HK4.out.size; have := HLT1.out; omega); (case hn => omega); (case hr => exact fun W hk => C_keep H4.out hk (fun ad e h => by have := HFAR.out ad e; have := HK4.out.size; have := HLT1.out; omega)); rintro e w5 ⟨vn5, vf5, rfl, hI5, hK5, ho5⟩; rw [HS.out] at hI5 ho5; have HI5 := Aside0.mk hI5; have HK5 := Aside0.mk hK5; have HO5 := Aside0.mk ho5; clear hI5 hK5 ho5)
  have hB5 : Below w.heap.size w w5 := HB4.out.trans (HK5.out.below HB4.out.size (fun k hk => by have := HB4.out.size; have := HSZ.out; have := HW1.out; have := HK4.out.size; have := HLT1.out; rcases hk with (rfl | hk) | hk <;> omega))
  obtain ⟨ad, c, A0, c5, ev, hcell, hlc, hC5⟩ := own_row_at HO5.out 0 l0 rfl
  subst ev
  rw [Addr.add_zero'] at hcell
  simp only [List.length_cons, List.length_nil, Nat.zero_add]
  have hs1 : ∀ q, (convert 22 9 (.slice A0 l0.length c5)).run Tryd.prog (w5.drewN q) = .ok (.string (strOfNums l0)) (w5.drewN q) := fun q => Kd.C_string Tryd.underlying22 Tryd.underlying5 Tryd.underlying9 (Kd.C_drewN hC5 q)
  have hs2 : ∀ q, (convert 22 9 (.slice A l0.length c0)).run Tryd.prog (w5.drewN q) = .ok (.string (strOfNums l0)) (w5.drewN q) := fun q => Kd.C_string Tryd.underlying22 Tryd.underlying5 Tryd.underlying9 (Kd.C_drewN (Kd.C_below HR.out hB5) q)
  have hheld : ∀ q, Calls Tryd.prog 27 #[.pointer (some ⟨w1.heap.size, 0, none⟩)] (w5.drewN q) fun e w' => e = .returned (.int .i64 0) ∧ w' = w5.drewN q := fun q => by
    have h := df_held_same (HI5.out.below (pw_below_drewN (Below.refl _ _) q)) (Nat.zero_le _)
    exact h
  have HB5 := Aside0.mk hB5
  clear hC5 hlc hB5
  go_quiet ((first | (go_at_call 26; exact Calls.quiet_of_same (df_broken_same (HI5.out.below (pw_below_drewN (Below.refl _ _) _)))) | (go_at_call 28; exact Calls.quiet_of_same (df_junk_same (HI5.out.below (pw_below_drewN (Below.refl _ _) _)))) | (go_at_call 25; exact Calls.quiet_of_same (df_over_same (HI5.out.below (pw_below_drewN (Below.refl _ _) _)))) | (go_at_call 27; exact Calls.quiet_of_same (hheld _))))
  go_wp2
  go_ret
  exact ⟨rfl, HB5.out.trans (pw_below_drewN (Below.refl _ _) _)⟩
end Go.Proofs.YtiffmklefiehkaaDoor
