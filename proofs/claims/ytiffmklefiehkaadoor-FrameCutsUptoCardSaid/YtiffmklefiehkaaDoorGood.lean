/- What frame.Good comes to, as a function of the list of bytes. -/
import Derived.Test.YtiffmklefiehkaaDoorBase
namespace Go.Proofs.YtiffmklefiehkaaDoor
open Go.RowKit Go.Proofs.YtiffmklefiehkaaDoorW.PrintWords

theorem ret_bool {a b : Bool} (h : a = b) : Ending.returned (.bool a) = .returned (.bool b) := by rw [h]

def goodS (xs : List Int) : Bool := decide (Lib.indexByte (Lib.bytesOf xs) 11 < 0) && !Lib.contains (Lib.bytesOf xs) [28, 13] && !Lib.hasSuffix (Lib.bytesOf xs) [28]
def frame_Good.f (l0 : List Int) : Option Bool := if Bytes l0 ∧ l0.length < 4294967281 then some (goodS l0) else none

set_option maxHeartbeats 400000 in
theorem indexByte_none (c : Nat) (cv : Int) (w : World) :
    Calls Tryd.prog 29 #[.slice none 0 c, .int .u8 cv] w fun e w' => e = .returned (.int .i64 (-1)) ∧ w' = w := by
  go_enter Tryd.func29, Tryd.ntmps29
  go_wp2
  rw [run_callFunc_extern Tryd.func35 (by kernel_rfl) (by kernel_rfl) (by kernel_rfl) (e := Extern.BytealgIndexByte.indexByte) (by kernel_rfl), Lib.run_indexByteNil w 0 c cv]
  simp only [Result.andThen]
  rw [Oper.upon_value]
  go_wp2
  go_ret
  exact ⟨rfl, rfl⟩

theorem indexByte_any (A : Option Addr) (c : Nat) (l : List Int) (w : World) (hr : Kd.C (Kd.int .u8) w A l.length l) (cv : Int) :
    Calls Tryd.prog 29 #[.slice A l.length c, .int .u8 cv] w fun e w' => e = .returned (.int .i64 (Lib.indexByte (Lib.bytesOf l) cv.toNat.toUInt8)) ∧ w' = w := by
  cases A with
  | some a => exact Tryd.bytes_IndexByte_at a _ c l cv w rfl (cells_of_C hr).2
  | none =>
    have e : l = [] := by
      rcases l with _ | ⟨x, l⟩
      · rfl
      · obtain ⟨ad, e, _⟩ := hr.2.2 (by simp)
        cases e
    subst e
    exact indexByte_none c cv w

theorem contains_any (A : Option Addr) (c : Nat) (l : List Int) (w : World) (hr : Kd.C (Kd.int .u8) w A l.length l) (hc : l.length ≤ c) (hb : Bytes l) (hs : l.length < 4294967281) (hG : ∃ m : Int, w.cell? ⟨1, 0, none⟩ = some (.int .i64 m))
    (g c2 : Nat) (h0 : w.cell? ⟨g, 0, none⟩ = some (.int .u8 28)) (h1 : w.cell? ⟨g, 1, none⟩ = some (.int .u8 13)) :
    Calls Tryd.prog 30 #[.slice A l.length c, .slice (some ⟨g, 0, none⟩) 2 c2] w fun e w' => e = .returned (.bool (Lib.contains (Lib.bytesOf l) [28, 13])) ∧ ∃ q, w' = w.drewN q := by
  cases A with
  | some a =>
    obtain ⟨m, hm⟩ := hG
    refine (Tryd.bytes_Contains_at a ⟨g, 0, none⟩ _ c 2 c2 l [28, 13] m w rfl rfl hb (by simp) (cells_of_C hr).2 ?_ hc hs (by omega) hm).mono fun e w' ⟨h, h'⟩ => ⟨h, h'⟩
    intro i hi
    rw [add_plain]
    rcases i with _ | _ | i
    · exact h0
    · exact h1
    · omega
  | none =>
    have e : l = [] := by
      rcases l with _ | ⟨x, l⟩
      · rfl
      · obtain ⟨ad, e, _⟩ := hr.2.2 (by simp)
        cases e
    subst e
    refine (Tryd.bytes_Contains_longer none (some ⟨g, 0, none⟩) 0 c 2 c2 w (by omega) (by omega) (by omega)).mono fun e w' ⟨h, h'⟩ => ⟨h, 0, h'⟩

theorem hasSuffix_one (A : Option Addr) (c : Nat) (l : List Int) (w : World) (hr : Kd.C (Kd.int .u8) w A l.length l) (hc : l.length ≤ c) (g c2 : Nat) (cv : Int) (h0 : w.cell? ⟨g, 0, none⟩ = some (.int .u8 cv)) :
    Calls Tryd.prog 31 #[.slice A l.length c, .slice (some ⟨g, 0, none⟩) 1 c2] w fun e w' => e = .returned (.bool (Lib.hasSuffix (Lib.bytesOf l) (Lib.bytesOf [cv]))) ∧ w' = w :=
  Tryd.bytes_HasSuffix_all A (some ⟨g, 0, none⟩) _ c 1 c2 l [cv] w rfl rfl hc hr.2.1 (in_of_C hr) (Lib.BytesIn.of_cells fun i hi => by
    obtain rfl : i = 0 := by omega
    rw [add_plain]
    exact h0)

set_option maxHeartbeats 400000 in
theorem frame_Good.calls (A0 : Option Addr) (c0 : Nat) (l0 : List Int) (r : Bool) (w : World) (hG : Glob w) (hr0 : Kd.C (Kd.int .u8) w A0 l0.length l0) (hc0 : l0.length ≤ c0) (h : frame_Good.f l0 = some r) :
    Calls Tryd.prog 15 #[.slice A0 l0.length c0] w fun e w' => e = .returned (.bool r) ∧ Below w.heap.size w w' := by
  unfold frame_Good.f at h
  split at h
  case isFalse => cases h
  rename_i hb
  obtain ⟨hb, hs⟩ := hb
  obtain rfl := Option.some.inj h
  have e0 := hG.e0
  have e1 := hG.e1
  clear h
  have HR := Aside0.mk hr0; have HG := Aside0.mk hG; have HB := Aside0.mk hb; have HS := Aside0.mk hs; have HC := Aside0.mk hc0
  clear hr0 hG hb hs hc0
  have hz : ∀ o, (w.alloc o).heap.size = w.heap.size + 1 := fun o => by simp
  have BL : ∀ o q, Below w.heap.size w ((w.alloc o).drewN q) := fun o q => pw_below_drewN ((Below.refl _ w).alloc (Nat.le_refl _) o) q
  have BA : ∀ o, Below w.heap.size w (w.alloc o) := fun o => (Below.refl _ w).alloc (Nat.le_refl _) o
  have HBL := Aside0.mk BL; have HBA := Aside0.mk BA
  clear BL BA hz
  go_enter Tryd.func15, Tryd.ntmps15
  go_wp2_with (first
    | (go_at_call 29; refine (indexByte_any _ _ _ _ ?ha _).mono ?_; (case ha => exact Kd.C_below HR.out (HBA.out _)); rintro e w' ⟨rfl, hw⟩; have hw' := hw.symm; subst hw'; clear hw)
    | (go_at_call 30; refine (contains_any _ _ _ _ ?ha HC.out HB.out HS.out ?hb _ _ ?hd ?he).mono ?_; (case ha => exact Kd.C_below HR.out (HBA.out _)); (case hb => exact (HG.out.alloc _).max); (case hd => go_simp); (case he => go_simp); rintro e w' ⟨rfl, q, rfl⟩)
    | (go_at_call 31; refine (hasSuffix_one _ _ _ _ ?ha HC.out _ _ 28 ?hb).mono ?_; (case ha => exact Kd.C_below HR.out (HBL.out _ _)); (case hb => go_simp); rintro e w' ⟨rfl, hw⟩; have hw' := hw.symm; subst hw'; clear hw))
  all_goals go_ret
  · rename_i h1 h2
    exact ⟨ret_bool (by unfold goodS; rw [h2]; simp), HBL.out _ _⟩
  · rename_i h1 h2
    exact ⟨ret_bool (by unfold goodS; rw [decide_eq_true h1, Bool.eq_false_iff.2 h2]; rfl), HBL.out _ _⟩
  · rename_i h1
    exact ⟨ret_bool (by unfold goodS; rw [decide_eq_false (by omega)]; rfl), HBA.out _⟩
end Go.Proofs.YtiffmklefiehkaaDoor
