/- A part of what the law AcceptCodes rests on: Verdict, VerdictF, Join, QMakex0, QMakex1, Write, WriteF, Known, QJoinx0, QJoinx1, QReplyx0, QReplyx1. Conditions: each theorem's own. -/
import Derived.Test.YtciagecaegoppaaDoorKAcceptCodes2
import Derived.Test.YtciagecaegoppaaDoorKAcceptCodes1
import Derived.Test.YtciagecaegoppaaDoorProg
import Derived.Below
import Derived.Deep.Draws
import Derived.Deep.AppendLies
import Derived.Maps.AppendAt
import Derived.OwnWalk
import Derived.Laws.BytesArg
import Derived.Laws.MakeOwn
import Derived.Laws.OwnMore
import Derived.Deep.OwnRows
import Derived.Tactics
import Derived.Lib.ConvBytes
import Derived.Laws.Slices
import Derived.WalkKit
import Derived.KernelRfl
import Derived.RowKit3
import Derived.Deep.LoopGhost
import Derived.Deep.QuietTactic
import Derived.BigQuiet
import Derived.WideLaws
import Derived.Deep.DeepCutAuto
import Derived.Deep.CutBlock
import Derived.Deep.RegionHeld3
import Derived.Laws.Rows
import Derived.Lib.AppendStr
import Derived.ArgAppend
import Derived.Laws.IdiomCopy
import Derived.OrdersHeld
import Derived.Laws.BitsLemmas
import Derived.RowKit
section
namespace Go.Proofs.YtciagecaegoppaaDoor
set_option linter.unusedVariables false
set_option linter.unusedSimpArgs false
set_option maxRecDepth 100000
open Go.RowKit Go.Proofs.YtciagecaegoppaaDoorW.PrintWords Go.Proofs.YtciagecaegoppaaDoorW.PrintLast Go.Proofs.YtciagecaegoppaaDoorW.PrintMore

theorem check_range {d0 d1 d2 d3 d4 : Int} {s5 s6 s7 s8 s9 s10 s11 s12 s13 s14 : ByteArray} {r : Int} (h : msh_Check.f d0 d1 d2 d3 d4 s5 s6 s7 s8 s9 s10 s11 s12 s13 s14 = some r) : r = 0 ∨ r = 12 ∨ r = 13 ∨ r = 14 := by
  unfold msh_Check.f at h
  split at h
  · obtain rfl := Option.some.inj h
    exact .inr (.inr (.inr rfl))
  · obtain ⟨v, _, h⟩ := Option.bind_eq_some_iff.1 h
    split at h
    · obtain rfl := Option.some.inj h
      exact .inr (.inl rfl)
    · obtain ⟨p, _, h⟩ := Option.bind_eq_some_iff.1 h
      split at h
      · obtain rfl := Option.some.inj h
        exact .inr (.inr (.inl rfl))
      · obtain rfl := Option.some.inj h
        exact .inl rfl

/-- The bytes ahead of the first Tail. -/
def firstSeg (l0 : List Int) : List Int := if 0 ≤ Lib.index (Lib.bytesOf l0) (Lib.bytesOf [13]) then l0.take (Lib.index (Lib.bytesOf l0) (Lib.bytesOf [13])).toNat else l0
theorem cut_shape (A : Option Addr) (l0 : List Int) (c : Nat) : ∃ x2 x3, Lib.cutV A l0.length c 1 (Lib.index (Lib.bytesOf l0) (Lib.bytesOf [13])) = .tuple #[.slice A (firstSeg l0).length c, x2, x3] ∧ (firstSeg l0).length ≤ l0.length := by
  unfold Lib.cutV firstSeg
  by_cases hi : 0 ≤ Lib.index (Lib.bytesOf l0) (Lib.bytesOf [13])
  · rw [if_pos hi, if_pos hi]
    have hle := Lib.index_le (Lib.bytesOf l0) (Lib.bytesOf [13])
    have hl : (l0.take (Lib.index (Lib.bytesOf l0) (Lib.bytesOf [13])).toNat).length = (Lib.index (Lib.bytesOf l0) (Lib.bytesOf [13])).toNat := by
      rw [List.length_take]
      have : (Lib.bytesOf l0).length = l0.length := by simp [Lib.bytesOf]
      omega
    exact ⟨_, _, by rw [hl], by rw [hl]; rw [List.length_take] at hl; omega⟩
  · rw [if_neg hi, if_neg hi]
    exact ⟨_, _, rfl, Nat.le_refl _⟩
theorem firstSeg_take (l0 : List Int) : ∃ m, m ≤ l0.length ∧ firstSeg l0 = l0.take m := by
  obtain ⟨_, _, _, h⟩ := cut_shape none l0 0
  by_cases hi : 0 ≤ Lib.index (Lib.bytesOf l0) (Lib.bytesOf [13])
  · have e : firstSeg l0 = l0.take (Lib.index (Lib.bytesOf l0) (Lib.bytesOf [13])).toNat := by unfold firstSeg; rw [if_pos hi]
    refine ⟨(firstSeg l0).length, h, ?_⟩
    rw [e, List.length_take, ← List.take_take, List.take_length]
  · have e : firstSeg l0 = l0 := by unfold firstSeg; rw [if_neg hi]
    exact ⟨l0.length, Nat.le_refl _, by rw [e, List.take_length]⟩

set_option maxHeartbeats 4000000 in
theorem verdict_bad (A0 : Option Addr) (c0 : Nat) (l0 : List Int) (w : World) (hG : GlobA w) (hr0 : Kd.C (Kd.int .u8) w A0 l0.length l0) (hc0 : l0.length ≤ c0) (d0 d1 d2 d3 d4 : Int) (s5 s6 s7 s8 s9 s10 s11 s12 s13 s14 : ByteArray) (e0 : Int) (hrd : msh_Read.f l0 = some (d0, d1, d2, d3, d4, s5, s6, s7, s8, s9, s10, s11, s12, s13, s14, e0)) (he : e0 ≠ 0) :
    Calls Tryd.prog 10 #[.slice A0 l0.length c0] w fun e w' => e = .returned (.tuple #[.agg #[.int .u8 0, .int .u8 0, .int .u8 0, .int .u8 0, .int .u8 0, .string ⟨#[]⟩, .string ⟨#[]⟩, .string ⟨#[]⟩, .string ⟨#[]⟩, .string ⟨#[]⟩, .string ⟨#[]⟩, .string ⟨#[]⟩, .string ⟨#[]⟩, .string ⟨#[]⟩, .string ⟨#[]⟩], .string ⟨#[]⟩, .int .i64 e0]) ∧ Below w.heap.size w w' := by
  have HG := Aside0.mk hG; have HR := Aside0.mk hr0; have HC := Aside0.mk hc0; have HRD := Aside0.mk hrd
  clear hG hr0 hc0 hrd
  have he' : (e0 != 0) = true := bne_iff_ne.2 he
  clear he
  go_enter Tryd.func10, Tryd.ntmps10
  go_wp2_with (go_at_call 23; refine (msh_Read.calls A0 c0 l0 d0 d1 d2 d3 d4 s5 s6 s7 s8 s9 s10 s11 s12 s13 s14 e0 _ ?hg ?hr HC.out HRD.out).mono ?_; (case hg => exact HG.out.below (below_alloc (Below.refl _ _) _)); (case hr => exact Kd.C_below HR.out (below_alloc (Below.refl _ _) _)); rintro e w2 ⟨rfl, hb2⟩; have HB2 := Aside0.mk (below_step (below_alloc (Below.refl _ _) _) hb2); have hblk2 := blk_below (blk_new w (.cells #[.int .u8 0, .int .u8 0, .int .u8 0, .int .u8 0, .int .u8 0, .string ⟨#[]⟩, .string ⟨#[]⟩, .string ⟨#[]⟩, .string ⟨#[]⟩, .string ⟨#[]⟩, .string ⟨#[]⟩, .string ⟨#[]⟩, .string ⟨#[]⟩, .string ⟨#[]⟩, .string ⟨#[]⟩] 25)) hb2; have BK2 := Aside0.mk hblk2; have hlt2 : w.heap.size < w2.heap.size := blk_lt hblk2; have HL2 := Aside0.mk hlt2; have p0 : w2.cell? ⟨w.heap.size, 0, none⟩ = some (.int .u8 0) := blk_cell hblk2 0; have p1 : w2.cell? ⟨w.heap.size, 1, none⟩ = some (.int .u8 0) := blk_cell hblk2 1; have p2 : w2.cell? ⟨w.heap.size, 2, none⟩ = some (.int .u8 0) := blk_cell hblk2 2; have p3 : w2.cell? ⟨w.heap.size, 3, none⟩ = some (.int .u8 0) := blk_cell hblk2 3; have p4 : w2.cell? ⟨w.heap.size, 4, none⟩ = some (.int .u8 0) := blk_cell hblk2 4; have p5 : w2.cell? ⟨w.heap.size, 5, none⟩ = some (.string ⟨#[]⟩) := blk_cell hblk2 5; have p6 : w2.cell? ⟨w.heap.size, 6, none⟩ = some (.string ⟨#[]⟩) := blk_cell hblk2 6; have p7 : w2.cell? ⟨w.heap.size, 7, none⟩ = some (.string ⟨#[]⟩) := blk_cell hblk2 7; have p8 : w2.cell? ⟨w.heap.size, 8, none⟩ = some (.string ⟨#[]⟩) := blk_cell hblk2 8; have p9 : w2.cell? ⟨w.heap.size, 9, none⟩ = some (.string ⟨#[]⟩) := blk_cell hblk2 9; have p10 : w2.cell? ⟨w.heap.size, 10, none⟩ = some (.string ⟨#[]⟩) := blk_cell hblk2 10; have p11 : w2.cell? ⟨w.heap.size, 11, none⟩ = some (.string ⟨#[]⟩) := blk_cell hblk2 11; have p12 : w2.cell? ⟨w.heap.size, 12, none⟩ = some (.string ⟨#[]⟩) := blk_cell hblk2 12; have p13 : w2.cell? ⟨w.heap.size, 13, none⟩ = some (.string ⟨#[]⟩) := blk_cell hblk2 13; have p14 : w2.cell? ⟨w.heap.size, 14, none⟩ = some (.string ⟨#[]⟩) := blk_cell hblk2 14; have pf0 := blk_frozen hblk2 0; have pf1 := blk_frozen hblk2 1; have pf2 := blk_frozen hblk2 2; have pf3 := blk_frozen hblk2 3; have pf4 := blk_frozen hblk2 4; have pf5 := blk_frozen hblk2 5; have pf6 := blk_frozen hblk2 6; have pf7 := blk_frozen hblk2 7; have pf8 := blk_frozen hblk2 8; have pf9 := blk_frozen hblk2 9; have pf10 := blk_frozen hblk2 10; have pf11 := blk_frozen hblk2 11; have pf12 := blk_frozen hblk2 12; have pf13 := blk_frozen hblk2 13; have pf14 := blk_frozen hblk2 14; clear hb2 hblk2)
  refine bodyPost_ret (results_ctt rfl _ _ w.heap.size 25 #[.int .u8 0, .int .u8 0, .int .u8 0, .int .u8 0, .int .u8 0, .string ⟨#[]⟩, .string ⟨#[]⟩, .string ⟨#[]⟩, .string ⟨#[]⟩, .string ⟨#[]⟩, .string ⟨#[]⟩, .string ⟨#[]⟩, .string ⟨#[]⟩, .string ⟨#[]⟩, .string ⟨#[]⟩] (0, 0) _ rfl (blk_alloc (blk_row15 BK2.out) _) Tryd.underlying25 rfl (by kernel_rfl)) rfl ?_
  exact ⟨rfl, below_alloc (below_set (below_set (below_set (below_set (below_set (below_set (below_set (below_set (below_set (below_set (below_set (below_set (below_set (below_set (below_set HB2.out (Nat.le_refl _)) (Nat.le_refl _)) (Nat.le_refl _)) (Nat.le_refl _)) (Nat.le_refl _)) (Nat.le_refl _)) (Nat.le_refl _)) (Nat.le_refl _)) (Nat.le_refl _)) (Nat.le_refl _)) (Nat.le_refl _)) (Nat.le_refl _)) (Nat.le_refl _)) (Nat.le_refl _)) (Nat.le_refl _)) _⟩

theorem cell_row15 {w : World} {g : Nat} {b0 b1 b2 b3 b4 b5 b6 b7 b8 b9 b10 b11 b12 b13 b14 v : Value} {a : Addr} (h : w.cell? a = some v) (hn : a.block ≠ g) : (((((((((((((((w.setCell ⟨g, 0, none⟩ b0).setCell ⟨g, 1, none⟩ b1).setCell ⟨g, 2, none⟩ b2).setCell ⟨g, 3, none⟩ b3).setCell ⟨g, 4, none⟩ b4).setCell ⟨g, 5, none⟩ b5).setCell ⟨g, 6, none⟩ b6).setCell ⟨g, 7, none⟩ b7).setCell ⟨g, 8, none⟩ b8).setCell ⟨g, 9, none⟩ b9).setCell ⟨g, 10, none⟩ b10).setCell ⟨g, 11, none⟩ b11).setCell ⟨g, 12, none⟩ b12).setCell ⟨g, 13, none⟩ b13).setCell ⟨g, 14, none⟩ b14).cell? a = some v := ((cell_far (p := ⟨g, 14, none⟩) hn _).trans ((cell_far (p := ⟨g, 13, none⟩) hn _).trans ((cell_far (p := ⟨g, 12, none⟩) hn _).trans ((cell_far (p := ⟨g, 11, none⟩) hn _).trans ((cell_far (p := ⟨g, 10, none⟩) hn _).trans ((cell_far (p := ⟨g, 9, none⟩) hn _).trans ((cell_far (p := ⟨g, 8, none⟩) hn _).trans ((cell_far (p := ⟨g, 7, none⟩) hn _).trans ((cell_far (p := ⟨g, 6, none⟩) hn _).trans ((cell_far (p := ⟨g, 5, none⟩) hn _).trans ((cell_far (p := ⟨g, 4, none⟩) hn _).trans ((cell_far (p := ⟨g, 3, none⟩) hn _).trans ((cell_far (p := ⟨g, 2, none⟩) hn _).trans ((cell_far (p := ⟨g, 1, none⟩) hn _).trans ((cell_far (p := ⟨g, 0, none⟩) hn _).trans h)))))))))))))))
theorem heap_row15 {w : World} {g k : Nat} {b0 b1 b2 b3 b4 b5 b6 b7 b8 b9 b10 b11 b12 b13 b14 : Value} (hn : k ≠ g) : (((((((((((((((w.setCell ⟨g, 0, none⟩ b0).setCell ⟨g, 1, none⟩ b1).setCell ⟨g, 2, none⟩ b2).setCell ⟨g, 3, none⟩ b3).setCell ⟨g, 4, none⟩ b4).setCell ⟨g, 5, none⟩ b5).setCell ⟨g, 6, none⟩ b6).setCell ⟨g, 7, none⟩ b7).setCell ⟨g, 8, none⟩ b8).setCell ⟨g, 9, none⟩ b9).setCell ⟨g, 10, none⟩ b10).setCell ⟨g, 11, none⟩ b11).setCell ⟨g, 12, none⟩ b12).setCell ⟨g, 13, none⟩ b13).setCell ⟨g, 14, none⟩ b14).heap[k]? = w.heap[k]? := ((Below.heap_setCell _ ⟨g, 14, none⟩ _ _ hn).trans ((Below.heap_setCell _ ⟨g, 13, none⟩ _ _ hn).trans ((Below.heap_setCell _ ⟨g, 12, none⟩ _ _ hn).trans ((Below.heap_setCell _ ⟨g, 11, none⟩ _ _ hn).trans ((Below.heap_setCell _ ⟨g, 10, none⟩ _ _ hn).trans ((Below.heap_setCell _ ⟨g, 9, none⟩ _ _ hn).trans ((Below.heap_setCell _ ⟨g, 8, none⟩ _ _ hn).trans ((Below.heap_setCell _ ⟨g, 7, none⟩ _ _ hn).trans ((Below.heap_setCell _ ⟨g, 6, none⟩ _ _ hn).trans ((Below.heap_setCell _ ⟨g, 5, none⟩ _ _ hn).trans ((Below.heap_setCell _ ⟨g, 4, none⟩ _ _ hn).trans ((Below.heap_setCell _ ⟨g, 3, none⟩ _ _ hn).trans ((Below.heap_setCell _ ⟨g, 2, none⟩ _ _ hn).trans ((Below.heap_setCell _ ⟨g, 1, none⟩ _ _ hn).trans ((Below.heap_setCell _ ⟨g, 0, none⟩ _ _ hn).trans rfl)))))))))))))))
theorem map_row15 {w : World} {g k : Nat} {b0 b1 b2 b3 b4 b5 b6 b7 b8 b9 b10 b11 b12 b13 b14 : Value} {es : Array MapEntry} {n : Nat} (h : w.heap[k]? = some (.map es n)) (hn : k ≠ g) : (((((((((((((((w.setCell ⟨g, 0, none⟩ b0).setCell ⟨g, 1, none⟩ b1).setCell ⟨g, 2, none⟩ b2).setCell ⟨g, 3, none⟩ b3).setCell ⟨g, 4, none⟩ b4).setCell ⟨g, 5, none⟩ b5).setCell ⟨g, 6, none⟩ b6).setCell ⟨g, 7, none⟩ b7).setCell ⟨g, 8, none⟩ b8).setCell ⟨g, 9, none⟩ b9).setCell ⟨g, 10, none⟩ b10).setCell ⟨g, 11, none⟩ b11).setCell ⟨g, 12, none⟩ b12).setCell ⟨g, 13, none⟩ b13).setCell ⟨g, 14, none⟩ b14).heap[k]? = some (.map es n) := (heap_row15 hn).trans h
theorem lit1 (w : World) (a : Int) : Lib.BytesIn (w.alloc (.cells #[.int .u8 a] 5)) (some ⟨w.heap.size, 0, none⟩) 1 [a] :=
  Lib.BytesIn.of_cells fun i hi => by
    obtain rfl : i = 0 := by omega
    rw [add_plain]
    simp
theorem read_len {l0 : List Int} {r : HeadT} (h : msh_Read.f l0 = some r) (he : r.2.2.2.2.2.2.2.2.2.2.2.2.2.2.2 = 0 := by rfl) : 9 ≤ l0.length := by
  rcases Nat.lt_or_ge l0.length 9 with hl | hl
  · exfalso
    unfold msh_Read.f delim_Read.f at h
    rw [if_pos hl] at h
    simp [headZ] at h
    subst h
    simp at he
  · exact hl

set_option maxHeartbeats 4000000 in
theorem verdict_form (A0 : Option Addr) (c0 : Nat) (l0 : List Int) (w : World) (hG : GlobA w) (hr0 : Kd.C (Kd.int .u8) w A0 l0.length l0) (hc0 : l0.length ≤ c0) (d0 d1 d2 d3 d4 : Int) (s5 s6 s7 s8 s9 s10 s11 s12 s13 s14 : ByteArray) (hrd : msh_Read.f l0 = some (d0, d1, d2, d3, d4, s5, s6, s7, s8, s9, s10, s11, s12, s13, s14, 0)) (hby : Bytes l0) (hsz : l0.length < 4294967281) (ix : Int) (hix : Lib.indexByte (Lib.bytesOf (firstSeg l0)) 28 = ix) (h28 : 0 ≤ ix) :
    Calls Tryd.prog 10 #[.slice A0 l0.length c0] w fun e w' => e = .returned (.tuple #[.agg #[.int .u8 0, .int .u8 0, .int .u8 0, .int .u8 0, .int .u8 0, .string ⟨#[]⟩, .string ⟨#[]⟩, .string ⟨#[]⟩, .string ⟨#[]⟩, .string ⟨#[]⟩, .string ⟨#[]⟩, .string ⟨#[]⟩, .string ⟨#[]⟩, .string ⟨#[]⟩, .string ⟨#[]⟩], .string ⟨#[]⟩, .int .i64 10]) ∧ Below w.heap.size w w' := by
  have HG := Aside0.mk hG; have HR := Aside0.mk hr0; have HC := Aside0.mk hc0; have HRD := Aside0.mk hrd
  clear hG hr0 hc0 hrd
  have HBY := Aside0.mk hby; have HSZ := Aside0.mk hsz
  obtain ⟨m, hm⟩ := HG.out.frame.max
  have HM := Aside0.mk hm
  obtain ⟨x2, x3, hcut, hsegle⟩ := cut_shape A0 l0 c0
  have HCUT := Aside0.mk hcut
  have hix' : Lib.indexByte (Lib.bytesOf (firstSeg l0)) (28 : Int).toNat.toUInt8 = ix := hix
  have HIDX := Aside0.mk hix'
  have hseg : ∀ W, Below w.heap.size w W → Kd.C (Kd.int .u8) W A0 (firstSeg l0).length (firstSeg l0) := fun W hW => by
    obtain ⟨n, hn, e⟩ := firstSeg_take l0
    rw [e]
    exact Kd.C_take (Kd.C_below HR.out hW) hn
  have HSEG := Aside0.mk hseg
  have hnn : A0 = none → c0 = 0 := fun e => by
    exfalso
    subst e
    have hl := read_len HRD.out
    obtain ⟨ad, e, _⟩ := Kd.at_int HR.out 0 (by omega) (by omega)
    cases e
  have HNN := Aside0.mk hnn
  clear hby hsz hm hcut hix hix' hseg hnn hsegle
  have hge : decide (0 ≤ ix) = true := decide_eq_true h28
  clear h28
  go_enter Tryd.func10, Tryd.ntmps10
  go_wp2_with (first
    | (go_at_call 23; refine (msh_Read.calls A0 c0 l0 d0 d1 d2 d3 d4 s5 s6 s7 s8 s9 s10 s11 s12 s13 s14 0 _ ?hg ?hr HC.out HRD.out).mono ?_; (case hg => exact HG.out.below (below_alloc (Below.refl _ _) _)); (case hr => exact Kd.C_below HR.out (below_alloc (Below.refl _ _) _)); rintro e w2 ⟨rfl, hb2⟩; have HB2 := Aside0.mk (below_step (below_alloc (Below.refl _ _) _) hb2); have hblk2 := blk_below (blk_new w (.cells #[.int .u8 0, .int .u8 0, .int .u8 0, .int .u8 0, .int .u8 0, .string ⟨#[]⟩, .string ⟨#[]⟩, .string ⟨#[]⟩, .string ⟨#[]⟩, .string ⟨#[]⟩, .string ⟨#[]⟩, .string ⟨#[]⟩, .string ⟨#[]⟩, .string ⟨#[]⟩, .string ⟨#[]⟩] 25)) hb2; have BK2 := Aside0.mk hblk2; have hlt2 : w.heap.size < w2.heap.size := blk_lt hblk2; have HL2 := Aside0.mk hlt2; have p0 : w2.cell? ⟨w.heap.size, 0, none⟩ = some (.int .u8 0) := blk_cell hblk2 0; have p1 : w2.cell? ⟨w.heap.size, 1, none⟩ = some (.int .u8 0) := blk_cell hblk2 1; have p2 : w2.cell? ⟨w.heap.size, 2, none⟩ = some (.int .u8 0) := blk_cell hblk2 2; have p3 : w2.cell? ⟨w.heap.size, 3, none⟩ = some (.int .u8 0) := blk_cell hblk2 3; have p4 : w2.cell? ⟨w.heap.size, 4, none⟩ = some (.int .u8 0) := blk_cell hblk2 4; have p5 : w2.cell? ⟨w.heap.size, 5, none⟩ = some (.string ⟨#[]⟩) := blk_cell hblk2 5; have p6 : w2.cell? ⟨w.heap.size, 6, none⟩ = some (.string ⟨#[]⟩) := blk_cell hblk2 6; have p7 : w2.cell? ⟨w.heap.size, 7, none⟩ = some (.string ⟨#[]⟩) := blk_cell hblk2 7; have p8 : w2.cell? ⟨w.heap.size, 8, none⟩ = some (.string ⟨#[]⟩) := blk_cell hblk2 8; have p9 : w2.cell? ⟨w.heap.size, 9, none⟩ = some (.string ⟨#[]⟩) := blk_cell hblk2 9; have p10 : w2.cell? ⟨w.heap.size, 10, none⟩ = some (.string ⟨#[]⟩) := blk_cell hblk2 10; have p11 : w2.cell? ⟨w.heap.size, 11, none⟩ = some (.string ⟨#[]⟩) := blk_cell hblk2 11; have p12 : w2.cell? ⟨w.heap.size, 12, none⟩ = some (.string ⟨#[]⟩) := blk_cell hblk2 12; have p13 : w2.cell? ⟨w.heap.size, 13, none⟩ = some (.string ⟨#[]⟩) := blk_cell hblk2 13; have p14 : w2.cell? ⟨w.heap.size, 14, none⟩ = some (.string ⟨#[]⟩) := blk_cell hblk2 14; have pf0 := blk_frozen hblk2 0; have pf1 := blk_frozen hblk2 1; have pf2 := blk_frozen hblk2 2; have pf3 := blk_frozen hblk2 3; have pf4 := blk_frozen hblk2 4; have pf5 := blk_frozen hblk2 5; have pf6 := blk_frozen hblk2 6; have pf7 := blk_frozen hblk2 7; have pf8 := blk_frozen hblk2 8; have pf9 := blk_frozen hblk2 9; have pf10 := blk_frozen hblk2 10; have pf11 := blk_frozen hblk2 11; have pf12 := blk_frozen hblk2 12; have pf13 := blk_frozen hblk2 13; have pf14 := blk_frozen hblk2 14; clear hb2 hblk2)
    | (go_at_call 24; refine (Tryd.bytes_Cut_all A0 (some ⟨w2.heap.size + 1, 0, none⟩) l0.length c0 1 1 l0 [13] m _ rfl rfl HBY.out (by decide) ?h1 ?h2 ?hp HC.out HSZ.out (by decide) ?hm).mono ?_; (case h1 => exact in_of_C (Kd.C_below HR.out (below_alloc (below_alloc HB2.out _) _))); (case h2 => (have h := lit1 (w2.alloc (.cells #[.int .u8 d0, .int .u8 d1, .int .u8 d2, .int .u8 d3, .int .u8 d4, .string s5, .string s6, .string s7, .string s8, .string s9, .string s10, .string s11, .string s12, .string s13, .string s14] 25)) 13; rw [World.size_alloc] at h; exact h)); (case hp => exact HNN.out); (case hm => exact pw_cell_below (below_alloc (below_alloc HB2.out _) _) HM.out); rw [HCUT.out]; rintro e w3 ⟨rfl, q, rfl⟩)
    | (go_at_call 25; refine (indexByte_any A0 c0 (firstSeg l0) _ ?hi 28).mono ?_; (case hi => exact HSEG.out _ (pw_below_drewN (below_alloc (below_alloc HB2.out _) _) _)); rw [HIDX.out]; rintro e w4 ⟨rfl, hw4⟩; have hw4' := hw4.symm; subst hw4'; clear hw4))
  refine bodyPost_ret (results_ctt rfl _ _ w.heap.size 25 #[.int .u8 0, .int .u8 0, .int .u8 0, .int .u8 0, .int .u8 0, .string ⟨#[]⟩, .string ⟨#[]⟩, .string ⟨#[]⟩, .string ⟨#[]⟩, .string ⟨#[]⟩, .string ⟨#[]⟩, .string ⟨#[]⟩, .string ⟨#[]⟩, .string ⟨#[]⟩, .string ⟨#[]⟩] (0, 0) _ rfl (blk_row15 (blk_drewN (blk_alloc (blk_alloc BK2.out _) _) _)) Tryd.underlying25 rfl (by kernel_rfl)) rfl ?_
  exact ⟨rfl, (below_set (below_set (below_set (below_set (below_set (below_set (below_set (below_set (below_set (below_set (below_set (below_set (below_set (below_set (below_set (pw_below_drewN (below_alloc (below_alloc HB2.out _) _) _) (Nat.le_refl _)) (Nat.le_refl _)) (Nat.le_refl _)) (Nat.le_refl _)) (Nat.le_refl _)) (Nat.le_refl _)) (Nat.le_refl _)) (Nat.le_refl _)) (Nat.le_refl _)) (Nat.le_refl _)) (Nat.le_refl _)) (Nat.le_refl _)) (Nat.le_refl _)) (Nat.le_refl _)) (Nat.le_refl _))⟩

set_option maxHeartbeats 4000000 in
theorem verdict_on (A0 : Option Addr) (c0 : Nat) (l0 : List Int) (w : World) (hG : GlobA w) (hr0 : Kd.C (Kd.int .u8) w A0 l0.length l0) (hc0 : l0.length ≤ c0) (d0 d1 d2 d3 d4 : Int) (s5 s6 s7 s8 s9 s10 s11 s12 s13 s14 : ByteArray) (hrd : msh_Read.f l0 = some (d0, d1, d2, d3, d4, s5, s6, s7, s8, s9, s10, s11, s12, s13, s14, 0)) (hby : Bytes l0) (hsz : l0.length < 4294967281) (ix : Int) (hix : Lib.indexByte (Lib.bytesOf (firstSeg l0)) 28 = ix) (h28 : ¬ 0 ≤ ix) (c : Int) (hc : msh_Check.f d0 d1 d2 d3 d4 s5 s6 s7 s8 s9 s10 s11 s12 s13 s14 = some c) :
    Calls Tryd.prog 10 #[.slice A0 l0.length c0] w fun e w' => e = .returned (.tuple #[.agg #[.int .u8 d0, .int .u8 d1, .int .u8 d2, .int .u8 d3, .int .u8 d4, .string s5, .string s6, .string s7, .string s8, .string s9, .string s10, .string s11, .string s12, .string s13, .string s14], .string (codeOf c), .int .i64 c]) ∧ Below w.heap.size w w' := by
  have HG := Aside0.mk hG; have HR := Aside0.mk hr0; have HC := Aside0.mk hc0; have HRD := Aside0.mk hrd
  clear hG hr0 hc0 hrd
  have HBY := Aside0.mk hby; have HSZ := Aside0.mk hsz
  obtain ⟨m, hm⟩ := HG.out.frame.max
  have HM := Aside0.mk hm
  obtain ⟨x2, x3, hcut, hsegle⟩ := cut_shape A0 l0 c0
  have HCUT := Aside0.mk hcut
  have hix' : Lib.indexByte (Lib.bytesOf (firstSeg l0)) (28 : Int).toNat.toUInt8 = ix := hix
  have HIDX := Aside0.mk hix'
  have hseg : ∀ W, Below w.heap.size w W → Kd.C (Kd.int .u8) W A0 (firstSeg l0).length (firstSeg l0) := fun W hW => by
    obtain ⟨n, hn, e⟩ := firstSeg_take l0
    rw [e]
    exact Kd.C_take (Kd.C_below HR.out hW) hn
  have HSEG := Aside0.mk hseg
  have hnn : A0 = none → c0 = 0 := fun e => by
    exfalso
    subst e
    have hl := read_len HRD.out
    obtain ⟨ad, e, _⟩ := Kd.at_int HR.out 0 (by omega) (by omega)
    cases e
  have HNN := Aside0.mk hnn
  clear hby hsz hm hcut hix hix' hseg hnn hsegle
  have HCK := Aside0.mk hc; have HCR := Aside0.mk (check_range hc)
  have hge : decide (0 ≤ ix) = false := decide_eq_false h28
  clear h28 hc
  go_enter Tryd.func10, Tryd.ntmps10
  go_wp2_with (first
    | (go_at_call 23; refine (msh_Read.calls A0 c0 l0 d0 d1 d2 d3 d4 s5 s6 s7 s8 s9 s10 s11 s12 s13 s14 0 _ ?hg ?hr HC.out HRD.out).mono ?_; (case hg => exact HG.out.below (below_alloc (Below.refl _ _) _)); (case hr => exact Kd.C_below HR.out (below_alloc (Below.refl _ _) _)); rintro e w2 ⟨rfl, hb2⟩; have HB2 := Aside0.mk (below_step (below_alloc (Below.refl _ _) _) hb2); have hblk2 := blk_below (blk_new w (.cells #[.int .u8 0, .int .u8 0, .int .u8 0, .int .u8 0, .int .u8 0, .string ⟨#[]⟩, .string ⟨#[]⟩, .string ⟨#[]⟩, .string ⟨#[]⟩, .string ⟨#[]⟩, .string ⟨#[]⟩, .string ⟨#[]⟩, .string ⟨#[]⟩, .string ⟨#[]⟩, .string ⟨#[]⟩] 25)) hb2; have BK2 := Aside0.mk hblk2; have hlt2 : w.heap.size < w2.heap.size := blk_lt hblk2; have HL2 := Aside0.mk hlt2; clear hb2 hblk2)
    | (go_at_call 24; refine (Tryd.bytes_Cut_all A0 (some ⟨w2.heap.size + 1, 0, none⟩) l0.length c0 1 1 l0 [13] m _ rfl rfl HBY.out (by decide) ?h1 ?h2 ?hp HC.out HSZ.out (by decide) ?hm).mono ?_; (case h1 => exact in_of_C (Kd.C_below HR.out (below_alloc (below_alloc HB2.out _) _))); (case h2 => (have h := lit1 (w2.alloc (.cells #[.int .u8 d0, .int .u8 d1, .int .u8 d2, .int .u8 d3, .int .u8 d4, .string s5, .string s6, .string s7, .string s8, .string s9, .string s10, .string s11, .string s12, .string s13, .string s14] 25)) 13; rw [World.size_alloc] at h; exact h)); (case hp => exact HNN.out); (case hm => exact pw_cell_below (below_alloc (below_alloc HB2.out _) _) HM.out); rw [HCUT.out]; rintro e w3 ⟨rfl, q, rfl⟩)
    | (go_at_call 25; refine (indexByte_any A0 c0 (firstSeg l0) _ ?hi 28).mono ?_; (case hi => exact HSEG.out _ (pw_below_drewN (below_alloc (below_alloc HB2.out _) _) _)); rw [HIDX.out]; rintro e w4 ⟨rfl, hw4⟩; have hw4' := hw4.symm; subst hw4'; clear hw4)
    | (go_at_call 11; refine (msh_Check.calls d0 d1 d2 d3 d4 s5 s6 s7 s8 s9 s10 s11 s12 s13 s14 c _ ?hk HCK.out).mono ?_; (case hk => exact HG.out.below (pw_below_drewN (below_alloc (below_alloc HB2.out _) _) _)); rintro e w5 ⟨rfl, hb5⟩; have HB5 := Aside0.mk (below_step (pw_below_drewN (below_alloc (below_alloc HB2.out _) _) _) hb5); have B5 := Aside0.mk (blk_below (blk_drewN (blk_alloc (blk_new w2 (.cells #[.int .u8 d0, .int .u8 d1, .int .u8 d2, .int .u8 d3, .int .u8 d4, .string s5, .string s6, .string s7, .string s8, .string s9, .string s10, .string s11, .string s12, .string s13, .string s14] 25)) _) q) hb5); have BK2' := Aside0.mk (blk_below (blk_drewN (blk_alloc (blk_alloc BK2.out _) _) q) hb5); clear hb5))
  clear BK2 HB2 HCUT HIDX HSEG HNN hge hlt2
  have BK2 := BK2'
  clear BK2'
  have hd5 := blk_drew B5.out
  have NB : Aside0 (w2.heap.size ≠ w.heap.size) := ⟨Nat.ne_of_gt HL2.out⟩
  clear HL2
  generalize w2.heap.size = b5 at *
  have u0 : w5.drew.cell? ⟨b5, 0, none⟩ = some (.int .u8 d0) := blk_cell hd5 0; have u1 : w5.drew.cell? ⟨b5, 1, none⟩ = some (.int .u8 d1) := blk_cell hd5 1; have u2 : w5.drew.cell? ⟨b5, 2, none⟩ = some (.int .u8 d2) := blk_cell hd5 2; have u3 : w5.drew.cell? ⟨b5, 3, none⟩ = some (.int .u8 d3) := blk_cell hd5 3; have u4 : w5.drew.cell? ⟨b5, 4, none⟩ = some (.int .u8 d4) := blk_cell hd5 4; have u5 : w5.drew.cell? ⟨b5, 5, none⟩ = some (.string s5) := blk_cell hd5 5; have u6 : w5.drew.cell? ⟨b5, 6, none⟩ = some (.string s6) := blk_cell hd5 6; have u7 : w5.drew.cell? ⟨b5, 7, none⟩ = some (.string s7) := blk_cell hd5 7; have u8 : w5.drew.cell? ⟨b5, 8, none⟩ = some (.string s8) := blk_cell hd5 8; have u9 : w5.drew.cell? ⟨b5, 9, none⟩ = some (.string s9) := blk_cell hd5 9; have u10 : w5.drew.cell? ⟨b5, 10, none⟩ = some (.string s10) := blk_cell hd5 10; have u11 : w5.drew.cell? ⟨b5, 11, none⟩ = some (.string s11) := blk_cell hd5 11; have u12 : w5.drew.cell? ⟨b5, 12, none⟩ = some (.string s12) := blk_cell hd5 12; have u13 : w5.drew.cell? ⟨b5, 13, none⟩ = some (.string s13) := blk_cell hd5 13; have u14 : w5.drew.cell? ⟨b5, 14, none⟩ = some (.string s14) := blk_cell hd5 14
  clear hd5
  refine start_ (n := 8) (S := fun w' => w'.cell? ⟨b5, 0, none⟩ = some (.int .u8 d0) ∧ w'.cell? ⟨b5, 1, none⟩ = some (.int .u8 d1) ∧ w'.cell? ⟨b5, 2, none⟩ = some (.int .u8 d2) ∧ w'.cell? ⟨b5, 3, none⟩ = some (.int .u8 d3) ∧ w'.cell? ⟨b5, 4, none⟩ = some (.int .u8 d4) ∧ w'.cell? ⟨b5, 5, none⟩ = some (.string s5) ∧ w'.cell? ⟨b5, 6, none⟩ = some (.string s6) ∧ w'.cell? ⟨b5, 7, none⟩ = some (.string s7) ∧ w'.cell? ⟨b5, 8, none⟩ = some (.string s8) ∧ w'.cell? ⟨b5, 9, none⟩ = some (.string s9) ∧ w'.cell? ⟨b5, 10, none⟩ = some (.string s10) ∧ w'.cell? ⟨b5, 11, none⟩ = some (.string s11) ∧ w'.cell? ⟨b5, 12, none⟩ = some (.string s12) ∧ w'.cell? ⟨b5, 13, none⟩ = some (.string s13) ∧ w'.cell? ⟨b5, 14, none⟩ = some (.string s14)) (ds := []) #[false, false, false, false, false, false, false, false] (by kernel_rfl) rfl rfl ⟨u0, u1, u2, u3, u4, u5, u6, u7, u8, u9, u10, u11, u12, u13, u14⟩ (fun hHeld => ?_)
  refine take_ (i := 0) (N := (some 32)) (v := ?_) (a' := ?_) #[true, false, false, false, false, false, false, false] rfl rfl (by kernel_rfl) (fun _ _ _ h => h) (Or.inl ⟨by rfl, ?_⟩) hHeld ?_ ?_
  rotate_left
  · rintro w' ⟨s0_, s1_, s2_, s3_, s4_, s5_, s6_, s7_, s8_, s9_, s10_, s11_, s12_, s13_, s14_⟩
    go_simp
    with_reducible rfl
  rotate_left
  · simp only [Act.put, List.setIfInBounds_toArray, List.set_cons_zero, List.set_cons_succ, i64_w, i32_w]
    rfl
  refine pure_ (i := 2) (N := (some 34)) (v := ?_) (a' := ?_) #[true, false, true, false, false, false, false, false] rfl rfl (by kernel_rfl) (fun _ _ _ h => h) (Or.inl ⟨by rfl, ?_⟩) ?_ ?_
  rotate_left
  · intro w'
    go_simp
    with_reducible rfl
  rotate_left
  · simp only [Act.put, List.setIfInBounds_toArray, List.set_cons_zero, List.set_cons_succ, i64_w, i32_w]
    rfl
  refine pure_ (i := 4) (N := (some 36)) (v := ?_) (a' := ?_) #[true, false, true, false, true, false, false, false] rfl rfl (by kernel_rfl) (fun _ _ _ h => h) (Or.inl ⟨by rfl, ?_⟩) ?_ ?_
  rotate_left
  · intro w'
    go_simp
    with_reducible rfl
  rotate_left
  · simp only [Act.put, List.setIfInBounds_toArray, List.set_cons_zero, List.set_cons_succ, i64_w, i32_w]
    rfl
  refine one_ (i := 1) (N := (some 33)) #[true, true, true, false, true, false, false, false] rfl rfl (by kernel_rfl) (by decide) (fun K hK => ?_)
  refine goes_ Tryd.func26 (by kernel_rfl) rfl #[] (by rfl) rfl rfl (by simp) ?_
  refine (answers_calls _).mono ?_
  rintro e w7 ⟨r, rfl, hr7, hb7⟩
  have HB7 := Aside0.mk hb7
  have HR7 := Aside0.mk hr7
  clear hb7 hr7
  refine ⟨_, rfl, ?_⟩
  refine hK.out _ _ ⟨pw_cell_below HB7.out (hHeld.1), pw_cell_below HB7.out (hHeld.2.1), pw_cell_below HB7.out (hHeld.2.2.1), pw_cell_below HB7.out (hHeld.2.2.2.1), pw_cell_below HB7.out (hHeld.2.2.2.2.1), pw_cell_below HB7.out (hHeld.2.2.2.2.2.1), pw_cell_below HB7.out (hHeld.2.2.2.2.2.2.1), pw_cell_below HB7.out (hHeld.2.2.2.2.2.2.2.1), pw_cell_below HB7.out (hHeld.2.2.2.2.2.2.2.2.1), pw_cell_below HB7.out (hHeld.2.2.2.2.2.2.2.2.2.1), pw_cell_below HB7.out (hHeld.2.2.2.2.2.2.2.2.2.2.1), pw_cell_below HB7.out (hHeld.2.2.2.2.2.2.2.2.2.2.2.1), pw_cell_below HB7.out (hHeld.2.2.2.2.2.2.2.2.2.2.2.2.1), pw_cell_below HB7.out (hHeld.2.2.2.2.2.2.2.2.2.2.2.2.2.1), pw_cell_below HB7.out (hHeld.2.2.2.2.2.2.2.2.2.2.2.2.2.2)⟩ (fun hHeld => ?_)
  clear hK K
  refine norm_ (a' := ?_) ?_ ?_
  rotate_left
  · show Act.put _ (some 33) _ = _
    simp only [Act.put, List.setIfInBounds_toArray, List.set_cons_zero, List.set_cons_succ, i64_w, i32_w]
    rfl
  have NR : r ≠ w.heap.size := fun e => by have h := HR7.out; rw [e, blk_below (blk_drew BK2.out) HB7.out] at h; cases h
  refine two_ (i := 3) (j := 5) (Ni := (some 35)) (Nj := none) #[true, true, true, true, true, false, false, false] #[true, true, true, false, true, true, false, false] rfl rfl rfl rfl (by kernel_rfl) (by decide) (by decide) (fun K hK => ?_) (fun K hK => ?_)
  · refine value_ (v := .string (codeOf c)) (w1 := w7) (by rfl) rfl ?_ ?_
    · have hl := answers_look c HCR.out r w7 HR7.out
      first | (go_simp; done) | (go_simp; rfl)
    refine hK.out _ _ hHeld (fun hHeld => ?_)
    clear hK K
    refine norm_ (a' := ?_) ?_ ?_
    rotate_left
    · show Act.put _ (some 35) _ = _
      simp only [Act.put, List.setIfInBounds_toArray, List.set_cons_zero, List.set_cons_succ, i64_w, i32_w]
      rfl
    refine one_ (i := 5) (N := none) #[true, true, true, true, true, true, false, false] rfl rfl (by kernel_rfl) (by decide) (fun K hK => ?_)
    have hblk7 := blk_below (blk_drew BK2.out) HB7.out
    have p0 : w7.cell? ⟨w.heap.size, 0, none⟩ = some (.int .u8 0) := blk_cell hblk7 0; have p1 : w7.cell? ⟨w.heap.size, 1, none⟩ = some (.int .u8 0) := blk_cell hblk7 1; have p2 : w7.cell? ⟨w.heap.size, 2, none⟩ = some (.int .u8 0) := blk_cell hblk7 2; have p3 : w7.cell? ⟨w.heap.size, 3, none⟩ = some (.int .u8 0) := blk_cell hblk7 3; have p4 : w7.cell? ⟨w.heap.size, 4, none⟩ = some (.int .u8 0) := blk_cell hblk7 4; have p5 : w7.cell? ⟨w.heap.size, 5, none⟩ = some (.string ⟨#[]⟩) := blk_cell hblk7 5; have p6 : w7.cell? ⟨w.heap.size, 6, none⟩ = some (.string ⟨#[]⟩) := blk_cell hblk7 6; have p7 : w7.cell? ⟨w.heap.size, 7, none⟩ = some (.string ⟨#[]⟩) := blk_cell hblk7 7; have p8 : w7.cell? ⟨w.heap.size, 8, none⟩ = some (.string ⟨#[]⟩) := blk_cell hblk7 8; have p9 : w7.cell? ⟨w.heap.size, 9, none⟩ = some (.string ⟨#[]⟩) := blk_cell hblk7 9; have p10 : w7.cell? ⟨w.heap.size, 10, none⟩ = some (.string ⟨#[]⟩) := blk_cell hblk7 10; have p11 : w7.cell? ⟨w.heap.size, 11, none⟩ = some (.string ⟨#[]⟩) := blk_cell hblk7 11; have p12 : w7.cell? ⟨w.heap.size, 12, none⟩ = some (.string ⟨#[]⟩) := blk_cell hblk7 12; have p13 : w7.cell? ⟨w.heap.size, 13, none⟩ = some (.string ⟨#[]⟩) := blk_cell hblk7 13; have p14 : w7.cell? ⟨w.heap.size, 14, none⟩ = some (.string ⟨#[]⟩) := blk_cell hblk7 14; have pf0 := blk_frozen hblk7 0; have pf1 := blk_frozen hblk7 1; have pf2 := blk_frozen hblk7 2; have pf3 := blk_frozen hblk7 3; have pf4 := blk_frozen hblk7 4; have pf5 := blk_frozen hblk7 5; have pf6 := blk_frozen hblk7 6; have pf7 := blk_frozen hblk7 7; have pf8 := blk_frozen hblk7 8; have pf9 := blk_frozen hblk7 9; have pf10 := blk_frozen hblk7 10; have pf11 := blk_frozen hblk7 11; have pf12 := blk_frozen hblk7 12; have pf13 := blk_frozen hblk7 13; have pf14 := blk_frozen hblk7 14
    refine skip_ (w1 := (((((((((((((((w7.setCell ⟨w.heap.size, 0, none⟩ (.int .u8 d0)).setCell ⟨w.heap.size, 1, none⟩ (.int .u8 d1)).setCell ⟨w.heap.size, 2, none⟩ (.int .u8 d2)).setCell ⟨w.heap.size, 3, none⟩ (.int .u8 d3)).setCell ⟨w.heap.size, 4, none⟩ (.int .u8 d4)).setCell ⟨w.heap.size, 5, none⟩ (.string s5)).setCell ⟨w.heap.size, 6, none⟩ (.string s6)).setCell ⟨w.heap.size, 7, none⟩ (.string s7)).setCell ⟨w.heap.size, 8, none⟩ (.string s8)).setCell ⟨w.heap.size, 9, none⟩ (.string s9)).setCell ⟨w.heap.size, 10, none⟩ (.string s10)).setCell ⟨w.heap.size, 11, none⟩ (.string s11)).setCell ⟨w.heap.size, 12, none⟩ (.string s12)).setCell ⟨w.heap.size, 13, none⟩ (.string s13)).setCell ⟨w.heap.size, 14, none⟩ (.string s14))) (by rfl) rfl ?_ ?_
    · first | (go_simp; done) | (go_simp; rfl)
    refine hK.out _ _ ⟨cell_row15 (hHeld.1) NB.out, cell_row15 (hHeld.2.1) NB.out, cell_row15 (hHeld.2.2.1) NB.out, cell_row15 (hHeld.2.2.2.1) NB.out, cell_row15 (hHeld.2.2.2.2.1) NB.out, cell_row15 (hHeld.2.2.2.2.2.1) NB.out, cell_row15 (hHeld.2.2.2.2.2.2.1) NB.out, cell_row15 (hHeld.2.2.2.2.2.2.2.1) NB.out, cell_row15 (hHeld.2.2.2.2.2.2.2.2.1) NB.out, cell_row15 (hHeld.2.2.2.2.2.2.2.2.2.1) NB.out, cell_row15 (hHeld.2.2.2.2.2.2.2.2.2.2.1) NB.out, cell_row15 (hHeld.2.2.2.2.2.2.2.2.2.2.2.1) NB.out, cell_row15 (hHeld.2.2.2.2.2.2.2.2.2.2.2.2.1) NB.out, cell_row15 (hHeld.2.2.2.2.2.2.2.2.2.2.2.2.2.1) NB.out, cell_row15 (hHeld.2.2.2.2.2.2.2.2.2.2.2.2.2.2) NB.out⟩ (fun hHeld => ?_)
    clear hK K
    refine pure_ (i := 6) (N := (some 3)) (v := ?_) (a' := ?_) #[true, true, true, true, true, true, true, false] rfl rfl (by kernel_rfl) (fun _ _ _ h => h) (Or.inl ⟨by rfl, ?_⟩) ?_ ?_
    rotate_left
    · intro w'
      go_simp
      with_reducible rfl
    rotate_left
    · simp only [Act.put, List.setIfInBounds_toArray, List.set_cons_zero, List.set_cons_succ, i64_w, i32_w]
      rfl
    refine pure_ (i := 7) (N := (some 4)) (v := ?_) (a' := ?_) #[true, true, true, true, true, true, true, true] rfl rfl (by kernel_rfl) (fun _ _ _ h => h) (Or.inl ⟨by rfl, ?_⟩) ?_ ?_
    rotate_left
    · intro w'
      go_simp
      with_reducible rfl
    rotate_left
    · simp only [Act.put, List.setIfInBounds_toArray, List.set_cons_zero, List.set_cons_succ, i64_w, i32_w]
      rfl
    refine done_ (by kernel_rfl) ?_
    go_wp2
    refine bodyPost_ret (results_ctt rfl _ _ w.heap.size 25 #[.int .u8 d0, .int .u8 d1, .int .u8 d2, .int .u8 d3, .int .u8 d4, .string s5, .string s6, .string s7, .string s8, .string s9, .string s10, .string s11, .string s12, .string s13, .string s14] (0, 0) _ rfl (blk_row15 hblk7) Tryd.underlying25 rfl (by kernel_rfl)) rfl ?_
    exact ⟨rfl, (below_set (below_set (below_set (below_set (below_set (below_set (below_set (below_set (below_set (below_set (below_set (below_set (below_set (below_set (below_set (below_step (below_drew1 HB5.out) HB7.out) (Nat.le_refl _)) (Nat.le_refl _)) (Nat.le_refl _)) (Nat.le_refl _)) (Nat.le_refl _)) (Nat.le_refl _)) (Nat.le_refl _)) (Nat.le_refl _)) (Nat.le_refl _)) (Nat.le_refl _)) (Nat.le_refl _)) (Nat.le_refl _)) (Nat.le_refl _)) (Nat.le_refl _)) (Nat.le_refl _))⟩
  · have hblk7 := blk_below (blk_drew BK2.out) HB7.out
    have p0 : w7.cell? ⟨w.heap.size, 0, none⟩ = some (.int .u8 0) := blk_cell hblk7 0; have p1 : w7.cell? ⟨w.heap.size, 1, none⟩ = some (.int .u8 0) := blk_cell hblk7 1; have p2 : w7.cell? ⟨w.heap.size, 2, none⟩ = some (.int .u8 0) := blk_cell hblk7 2; have p3 : w7.cell? ⟨w.heap.size, 3, none⟩ = some (.int .u8 0) := blk_cell hblk7 3; have p4 : w7.cell? ⟨w.heap.size, 4, none⟩ = some (.int .u8 0) := blk_cell hblk7 4; have p5 : w7.cell? ⟨w.heap.size, 5, none⟩ = some (.string ⟨#[]⟩) := blk_cell hblk7 5; have p6 : w7.cell? ⟨w.heap.size, 6, none⟩ = some (.string ⟨#[]⟩) := blk_cell hblk7 6; have p7 : w7.cell? ⟨w.heap.size, 7, none⟩ = some (.string ⟨#[]⟩) := blk_cell hblk7 7; have p8 : w7.cell? ⟨w.heap.size, 8, none⟩ = some (.string ⟨#[]⟩) := blk_cell hblk7 8; have p9 : w7.cell? ⟨w.heap.size, 9, none⟩ = some (.string ⟨#[]⟩) := blk_cell hblk7 9; have p10 : w7.cell? ⟨w.heap.size, 10, none⟩ = some (.string ⟨#[]⟩) := blk_cell hblk7 10; have p11 : w7.cell? ⟨w.heap.size, 11, none⟩ = some (.string ⟨#[]⟩) := blk_cell hblk7 11; have p12 : w7.cell? ⟨w.heap.size, 12, none⟩ = some (.string ⟨#[]⟩) := blk_cell hblk7 12; have p13 : w7.cell? ⟨w.heap.size, 13, none⟩ = some (.string ⟨#[]⟩) := blk_cell hblk7 13; have p14 : w7.cell? ⟨w.heap.size, 14, none⟩ = some (.string ⟨#[]⟩) := blk_cell hblk7 14; have pf0 := blk_frozen hblk7 0; have pf1 := blk_frozen hblk7 1; have pf2 := blk_frozen hblk7 2; have pf3 := blk_frozen hblk7 3; have pf4 := blk_frozen hblk7 4; have pf5 := blk_frozen hblk7 5; have pf6 := blk_frozen hblk7 6; have pf7 := blk_frozen hblk7 7; have pf8 := blk_frozen hblk7 8; have pf9 := blk_frozen hblk7 9; have pf10 := blk_frozen hblk7 10; have pf11 := blk_frozen hblk7 11; have pf12 := blk_frozen hblk7 12; have pf13 := blk_frozen hblk7 13; have pf14 := blk_frozen hblk7 14
    refine skip_ (w1 := (((((((((((((((w7.setCell ⟨w.heap.size, 0, none⟩ (.int .u8 d0)).setCell ⟨w.heap.size, 1, none⟩ (.int .u8 d1)).setCell ⟨w.heap.size, 2, none⟩ (.int .u8 d2)).setCell ⟨w.heap.size, 3, none⟩ (.int .u8 d3)).setCell ⟨w.heap.size, 4, none⟩ (.int .u8 d4)).setCell ⟨w.heap.size, 5, none⟩ (.string s5)).setCell ⟨w.heap.size, 6, none⟩ (.string s6)).setCell ⟨w.heap.size, 7, none⟩ (.string s7)).setCell ⟨w.heap.size, 8, none⟩ (.string s8)).setCell ⟨w.heap.size, 9, none⟩ (.string s9)).setCell ⟨w.heap.size, 10, none⟩ (.string s10)).setCell ⟨w.heap.size, 11, none⟩ (.string s11)).setCell ⟨w.heap.size, 12, none⟩ (.string s12)).setCell ⟨w.heap.size, 13, none⟩ (.string s13)).setCell ⟨w.heap.size, 14, none⟩ (.string s14))) (by rfl) rfl ?_ ?_
    · first | (go_simp; done) | (go_simp; rfl)
    refine hK.out _ _ ⟨cell_row15 (hHeld.1) NB.out, cell_row15 (hHeld.2.1) NB.out, cell_row15 (hHeld.2.2.1) NB.out, cell_row15 (hHeld.2.2.2.1) NB.out, cell_row15 (hHeld.2.2.2.2.1) NB.out, cell_row15 (hHeld.2.2.2.2.2.1) NB.out, cell_row15 (hHeld.2.2.2.2.2.2.1) NB.out, cell_row15 (hHeld.2.2.2.2.2.2.2.1) NB.out, cell_row15 (hHeld.2.2.2.2.2.2.2.2.1) NB.out, cell_row15 (hHeld.2.2.2.2.2.2.2.2.2.1) NB.out, cell_row15 (hHeld.2.2.2.2.2.2.2.2.2.2.1) NB.out, cell_row15 (hHeld.2.2.2.2.2.2.2.2.2.2.2.1) NB.out, cell_row15 (hHeld.2.2.2.2.2.2.2.2.2.2.2.2.1) NB.out, cell_row15 (hHeld.2.2.2.2.2.2.2.2.2.2.2.2.2.1) NB.out, cell_row15 (hHeld.2.2.2.2.2.2.2.2.2.2.2.2.2.2) NB.out⟩ (fun hHeld => ?_)
    clear hK K
    have hm8 : ((((((((((((((((w7.setCell ⟨w.heap.size, 0, none⟩ (.int .u8 d0)).setCell ⟨w.heap.size, 1, none⟩ (.int .u8 d1)).setCell ⟨w.heap.size, 2, none⟩ (.int .u8 d2)).setCell ⟨w.heap.size, 3, none⟩ (.int .u8 d3)).setCell ⟨w.heap.size, 4, none⟩ (.int .u8 d4)).setCell ⟨w.heap.size, 5, none⟩ (.string s5)).setCell ⟨w.heap.size, 6, none⟩ (.string s6)).setCell ⟨w.heap.size, 7, none⟩ (.string s7)).setCell ⟨w.heap.size, 8, none⟩ (.string s8)).setCell ⟨w.heap.size, 9, none⟩ (.string s9)).setCell ⟨w.heap.size, 10, none⟩ (.string s10)).setCell ⟨w.heap.size, 11, none⟩ (.string s11)).setCell ⟨w.heap.size, 12, none⟩ (.string s12)).setCell ⟨w.heap.size, 13, none⟩ (.string s13)).setCell ⟨w.heap.size, 14, none⟩ (.string s14))).heap[r]? = some (.map ansEs 4) := map_row15 HR7.out NR
    have HM8 := Aside0.mk hm8
    have hb8 : Below w.heap.size w ((((((((((((((((w7.setCell ⟨w.heap.size, 0, none⟩ (.int .u8 d0)).setCell ⟨w.heap.size, 1, none⟩ (.int .u8 d1)).setCell ⟨w.heap.size, 2, none⟩ (.int .u8 d2)).setCell ⟨w.heap.size, 3, none⟩ (.int .u8 d3)).setCell ⟨w.heap.size, 4, none⟩ (.int .u8 d4)).setCell ⟨w.heap.size, 5, none⟩ (.string s5)).setCell ⟨w.heap.size, 6, none⟩ (.string s6)).setCell ⟨w.heap.size, 7, none⟩ (.string s7)).setCell ⟨w.heap.size, 8, none⟩ (.string s8)).setCell ⟨w.heap.size, 9, none⟩ (.string s9)).setCell ⟨w.heap.size, 10, none⟩ (.string s10)).setCell ⟨w.heap.size, 11, none⟩ (.string s11)).setCell ⟨w.heap.size, 12, none⟩ (.string s12)).setCell ⟨w.heap.size, 13, none⟩ (.string s13)).setCell ⟨w.heap.size, 14, none⟩ (.string s14))) := (below_set (below_set (below_set (below_set (below_set (below_set (below_set (below_set (below_set (below_set (below_set (below_set (below_set (below_set (below_set (below_step (below_drew1 HB5.out) HB7.out) (Nat.le_refl _)) (Nat.le_refl _)) (Nat.le_refl _)) (Nat.le_refl _)) (Nat.le_refl _)) (Nat.le_refl _)) (Nat.le_refl _)) (Nat.le_refl _)) (Nat.le_refl _)) (Nat.le_refl _)) (Nat.le_refl _)) (Nat.le_refl _)) (Nat.le_refl _)) (Nat.le_refl _)) (Nat.le_refl _))
    have HB8 := Aside0.mk hb8
    have hk8 : ((((((((((((((((w7.setCell ⟨w.heap.size, 0, none⟩ (.int .u8 d0)).setCell ⟨w.heap.size, 1, none⟩ (.int .u8 d1)).setCell ⟨w.heap.size, 2, none⟩ (.int .u8 d2)).setCell ⟨w.heap.size, 3, none⟩ (.int .u8 d3)).setCell ⟨w.heap.size, 4, none⟩ (.int .u8 d4)).setCell ⟨w.heap.size, 5, none⟩ (.string s5)).setCell ⟨w.heap.size, 6, none⟩ (.string s6)).setCell ⟨w.heap.size, 7, none⟩ (.string s7)).setCell ⟨w.heap.size, 8, none⟩ (.string s8)).setCell ⟨w.heap.size, 9, none⟩ (.string s9)).setCell ⟨w.heap.size, 10, none⟩ (.string s10)).setCell ⟨w.heap.size, 11, none⟩ (.string s11)).setCell ⟨w.heap.size, 12, none⟩ (.string s12)).setCell ⟨w.heap.size, 13, none⟩ (.string s13)).setCell ⟨w.heap.size, 14, none⟩ (.string s14))).heap[w.heap.size]? = some (.cells #[.int .u8 d0, .int .u8 d1, .int .u8 d2, .int .u8 d3, .int .u8 d4, .string s5, .string s6, .string s7, .string s8, .string s9, .string s10, .string s11, .string s12, .string s13, .string s14] 25 (0, 0)) := blk_row15 hblk7
    have HK8 := Aside0.mk hk8
    clear hm8 hb8 hk8 hblk7 p0 pf0 p1 pf1 p2 pf2 p3 pf3 p4 pf4 p5 pf5 p6 pf6 p7 pf7 p8 pf8 p9 pf9 p10 pf10 p11 pf11 p12 pf12 p13 pf13 p14 pf14
    generalize (((((((((((((((w7.setCell ⟨w.heap.size, 0, none⟩ (.int .u8 d0)).setCell ⟨w.heap.size, 1, none⟩ (.int .u8 d1)).setCell ⟨w.heap.size, 2, none⟩ (.int .u8 d2)).setCell ⟨w.heap.size, 3, none⟩ (.int .u8 d3)).setCell ⟨w.heap.size, 4, none⟩ (.int .u8 d4)).setCell ⟨w.heap.size, 5, none⟩ (.string s5)).setCell ⟨w.heap.size, 6, none⟩ (.string s6)).setCell ⟨w.heap.size, 7, none⟩ (.string s7)).setCell ⟨w.heap.size, 8, none⟩ (.string s8)).setCell ⟨w.heap.size, 9, none⟩ (.string s9)).setCell ⟨w.heap.size, 10, none⟩ (.string s10)).setCell ⟨w.heap.size, 11, none⟩ (.string s11)).setCell ⟨w.heap.size, 12, none⟩ (.string s12)).setCell ⟨w.heap.size, 13, none⟩ (.string s13)).setCell ⟨w.heap.size, 14, none⟩ (.string s14)) = W8 at HM8 HB8 HK8 hHeld ⊢
    refine one_ (i := 3) (N := (some 35)) #[true, true, true, true, true, true, false, false] rfl rfl (by kernel_rfl) (by decide) (fun K hK => ?_)
    refine value_ (v := .string (codeOf c)) (w1 := W8) (by rfl) rfl ?_ ?_
    · have hl := answers_look c HCR.out r W8 HM8.out
      first | (go_simp; done) | (go_simp; rfl)
    refine hK.out _ _ hHeld (fun hHeld => ?_)
    clear hK K
    refine norm_ (a' := ?_) ?_ ?_
    rotate_left
    · show Act.put _ (some 35) _ = _
      simp only [Act.put, List.setIfInBounds_toArray, List.set_cons_zero, List.set_cons_succ, i64_w, i32_w]
      rfl
    refine pure_ (i := 6) (N := (some 3)) (v := ?_) (a' := ?_) #[true, true, true, true, true, true, true, false] rfl rfl (by kernel_rfl) (fun _ _ _ h => h) (Or.inl ⟨by rfl, ?_⟩) ?_ ?_
    rotate_left
    · intro w'
      go_simp
      with_reducible rfl
    rotate_left
    · simp only [Act.put, List.setIfInBounds_toArray, List.set_cons_zero, List.set_cons_succ, i64_w, i32_w]
      rfl
    refine pure_ (i := 7) (N := (some 4)) (v := ?_) (a' := ?_) #[true, true, true, true, true, true, true, true] rfl rfl (by kernel_rfl) (fun _ _ _ h => h) (Or.inl ⟨by rfl, ?_⟩) ?_ ?_
    rotate_left
    · intro w'
      go_simp
      with_reducible rfl
    rotate_left
    · simp only [Act.put, List.setIfInBounds_toArray, List.set_cons_zero, List.set_cons_succ, i64_w, i32_w]
      rfl
    refine done_ (by kernel_rfl) ?_
    go_wp2
    refine bodyPost_ret (results_ctt rfl _ _ w.heap.size 25 #[.int .u8 d0, .int .u8 d1, .int .u8 d2, .int .u8 d3, .int .u8 d4, .string s5, .string s6, .string s7, .string s8, .string s9, .string s10, .string s11, .string s12, .string s13, .string s14] (0, 0) _ rfl HK8.out Tryd.underlying25 rfl (by kernel_rfl)) rfl ?_
    exact ⟨rfl, HB8.out⟩

end Go.Proofs.YtciagecaegoppaaDoor
end
section
namespace Go.Proofs.YtciagecaegoppaaDoor
set_option linter.unusedVariables false
set_option maxRecDepth 100000
open Go.RowKit Go.Proofs.YtciagecaegoppaaDoorW.PrintWords Go.Proofs.YtciagecaegoppaaDoorW.PrintLast Go.Proofs.YtciagecaegoppaaDoorW.PrintMore

abbrev VerdictT := Int × Int × Int × Int × Int × ByteArray × ByteArray × ByteArray × ByteArray × ByteArray × ByteArray × ByteArray × ByteArray × ByteArray × ByteArray × ByteArray × Int
def verdictZ (e : Int) : VerdictT := (0, 0, 0, 0, 0, ⟨#[]⟩, ⟨#[]⟩, ⟨#[]⟩, ⟨#[]⟩, ⟨#[]⟩, ⟨#[]⟩, ⟨#[]⟩, ⟨#[]⟩, ⟨#[]⟩, ⟨#[]⟩, ⟨#[]⟩, e)
def accept_Verdict.f (l0 : List Int) : Option VerdictT :=
  if Bytes l0 ∧ l0.length < 4294967281 then
    (msh_Read.f l0).bind fun h =>
      if h.2.2.2.2.2.2.2.2.2.2.2.2.2.2.2 ≠ 0 then some (verdictZ h.2.2.2.2.2.2.2.2.2.2.2.2.2.2.2)
      else if 0 ≤ Lib.indexByte (Lib.bytesOf (firstSeg l0)) 28 then some (verdictZ 10)
      else (msh_Check.f h.1 h.2.1 h.2.2.1 h.2.2.2.1 h.2.2.2.2.1 h.2.2.2.2.2.1 h.2.2.2.2.2.2.1 h.2.2.2.2.2.2.2.1 h.2.2.2.2.2.2.2.2.1 h.2.2.2.2.2.2.2.2.2.1 h.2.2.2.2.2.2.2.2.2.2.1 h.2.2.2.2.2.2.2.2.2.2.2.1 h.2.2.2.2.2.2.2.2.2.2.2.2.1 h.2.2.2.2.2.2.2.2.2.2.2.2.2.1 h.2.2.2.2.2.2.2.2.2.2.2.2.2.2.1).map fun c => (h.1, h.2.1, h.2.2.1, h.2.2.2.1, h.2.2.2.2.1, h.2.2.2.2.2.1, h.2.2.2.2.2.2.1, h.2.2.2.2.2.2.2.1, h.2.2.2.2.2.2.2.2.1, h.2.2.2.2.2.2.2.2.2.1, h.2.2.2.2.2.2.2.2.2.2.1, h.2.2.2.2.2.2.2.2.2.2.2.1, h.2.2.2.2.2.2.2.2.2.2.2.2.1, h.2.2.2.2.2.2.2.2.2.2.2.2.2.1, h.2.2.2.2.2.2.2.2.2.2.2.2.2.2.1, codeOf c, c)
  else none
theorem accept_Verdict.calls (A0 : Option Addr) (c0 : Nat) (l0 : List Int) (r1 r2 r3 r4 r5 : Int) (r6 r7 r8 r9 r10 r11 r12 r13 r14 r15 r16 : ByteArray) (r17 : Int) (w : World) (hG : GlobA w) (hr0 : Kd.C (Kd.int .u8) w A0 l0.length l0) (hc0 : l0.length ≤ c0) (h : accept_Verdict.f l0 = some (r1, r2, r3, r4, r5, r6, r7, r8, r9, r10, r11, r12, r13, r14, r15, r16, r17)) :
    Calls Tryd.prog 10 #[.slice A0 l0.length c0] w fun e w' => e = .returned (.tuple #[.agg #[.int .u8 r1, .int .u8 r2, .int .u8 r3, .int .u8 r4, .int .u8 r5, .string r6, .string r7, .string r8, .string r9, .string r10, .string r11, .string r12, .string r13, .string r14, .string r15], .string r16, .int .i64 r17]) ∧ Below w.heap.size w w' := by
  unfold accept_Verdict.f at h
  split at h
  case isFalse => cases h
  rename_i hb
  obtain ⟨⟨d0, d1, d2, d3, d4, s5, s6, s7, s8, s9, s10, s11, s12, s13, s14, e0⟩, hrd, h⟩ := Option.bind_eq_some_iff.1 h
  dsimp only at h
  by_cases he : e0 ≠ 0
  · rw [if_pos he] at h
    simp only [verdictZ, Option.some.injEq, Prod.mk.injEq] at h
    obtain ⟨rfl, rfl, rfl, rfl, rfl, rfl, rfl, rfl, rfl, rfl, rfl, rfl, rfl, rfl, rfl, rfl, rfl⟩ := h
    exact verdict_bad A0 c0 l0 w hG hr0 hc0 d0 d1 d2 d3 d4 s5 s6 s7 s8 s9 s10 s11 s12 s13 s14 _ hrd he
  · rw [if_neg he] at h
    obtain rfl : e0 = 0 := by simpa using he
    by_cases h28 : 0 ≤ Lib.indexByte (Lib.bytesOf (firstSeg l0)) 28
    · rw [if_pos h28] at h
      simp only [verdictZ, Option.some.injEq, Prod.mk.injEq] at h
      obtain ⟨rfl, rfl, rfl, rfl, rfl, rfl, rfl, rfl, rfl, rfl, rfl, rfl, rfl, rfl, rfl, rfl, rfl⟩ := h
      exact verdict_form A0 c0 l0 w hG hr0 hc0 d0 d1 d2 d3 d4 s5 s6 s7 s8 s9 s10 s11 s12 s13 s14 hrd hb.1 hb.2 _ rfl h28
    · rw [if_neg h28] at h
      obtain ⟨c, hc, h⟩ := Option.map_eq_some_iff.1 h
      simp only [Prod.mk.injEq] at h
      obtain ⟨rfl, rfl, rfl, rfl, rfl, rfl, rfl, rfl, rfl, rfl, rfl, rfl, rfl, rfl, rfl, rfl, rfl⟩ := h
      exact verdict_on A0 c0 l0 w hG hr0 hc0 d0 d1 d2 d3 d4 s5 s6 s7 s8 s9 s10 s11 s12 s13 s14 hrd hb.1 hb.2 _ rfl h28 c hc
end Go.Proofs.YtciagecaegoppaaDoor
end
section
namespace Go.Proofs.YtciagecaegoppaaDoor
set_option linter.unusedVariables false
open Go.RowKit Go.Proofs.YtciagecaegoppaaDoorW.PrintWords Go.Proofs.YtciagecaegoppaaDoorW.PrintLast

def joinS (l : List ByteArray) (sep : ByteArray) : List UInt8 := Lib.join (l.map (·.data.toList)) sep.data.toList
def strings_Join.f (l0 : List ByteArray) (a1 : ByteArray) : Option ByteArray :=
  if l0.length ≤ 140737488355328 ∧ (joinS l0 a1).length ≤ 140737488355328 then some ⟨(joinS l0 a1).toArray⟩ else none
theorem strings_Join.calls (A0 : Option Addr) (c0 : Nat) (l0 : List ByteArray) (a1 : ByteArray) (r : ByteArray) (w : World) (hr0 : Kd.C Kd.string w A0 l0.length l0) (hc0 : l0.length ≤ c0) (h : strings_Join.f l0 a1 = some r) :
    Calls Tryd.prog 52 #[.slice A0 l0.length c0, .string a1] w fun e w' => e = .returned (.string r) ∧ Below w.heap.size w w' := by
  unfold strings_Join.f at h
  split at h
  case isFalse => cases h
  rename_i hb
  obtain rfl := Option.some.inj h
  rcases Nat.eq_zero_or_pos l0.length with hz | hp
  · obtain rfl : l0 = [] := List.length_eq_zero_iff.1 hz
    exact (Tryd.strings_Join_none A0 c0 a1 w).mono fun e w' ⟨he, hw⟩ => ⟨he, hw ▸ Below.refl _ _⟩
  · obtain ⟨ad, rfl, hc⟩ := Kd.at_string hr0 0 (by omega) (by omega)
    obtain ⟨b, o, sp⟩ := ad
    have hsp : sp = none := by
      cases sp with
      | none => rfl
      | some s =>
        simp [World.cell?, Addr.add] at hc
        split at hc <;> simp at hc
    subst hsp
    refine Tryd.strings_Join b o c0 l0 a1 w (fun j x hj => ?_) (World.block_lt_of_cell? _ _ hc) hb.1 hc0 hb.2
    obtain ⟨hl, hx⟩ := List.getElem?_eq_some_iff.1 hj
    obtain ⟨ad, e, hc⟩ := Kd.at_string hr0 (j : Int) (by omega) (by omega)
    cases e
    rw [Int.toNat_natCast, show (⟨b, o, none⟩ : Addr).add j = ⟨b, o + j, none⟩ from by unfold Addr.add; split <;> simp_all] at hc
    simpa [rdOf, List.getD_eq_getElem?_getD, hj] using hc
end Go.Proofs.YtciagecaegoppaaDoor
end
section
namespace Go.Proofs.YtciagecaegoppaaDoor.QMake
open Go.RowKit Go.Proofs.YtciagecaegoppaaDoorW.PrintWords Go.Proofs.YtciagecaegoppaaDoorW.PrintLast Go.Proofs.YtciagecaegoppaaDoorW.PrintMore
attribute [local go_sem] max2_int min2_int max_two min_two max_three min_three max_four min_four   -- for this text's walks alone
set_option linter.unusedVariables false
set_option linter.unusedSimpArgs false

def errW : Option Int → Value
  | none => .nilIface
  | some c => .iface 0 (.int .i64 c)
theorem errW_none : errW none = .nilIface := rfl
theorem errW_some (c : Int) : errW (some c) = .iface 0 (.int .i64 c) := rfl

theorem info5 : (Tryd.prog.info? 5).map (fun i => (i.zero, i.size, i.bytes)) = some (some (.int .u8 0), 1, 1) := by kernel_rfl
theorem info9 : (Tryd.prog.info? 9).map (fun i => (i.zero, i.size, i.bytes)) = some (some (.string ⟨#[]⟩), 1, 16) := by kernel_rfl
-- the values' own types
end Go.Proofs.YtciagecaegoppaaDoor.QMake
end
section
namespace Go.Proofs.YtciagecaegoppaaDoor.QMake
open Go.RowKit Go.Proofs.YtciagecaegoppaaDoorW.PrintWords Go.Proofs.YtciagecaegoppaaDoorW.PrintLast Go.Proofs.YtciagecaegoppaaDoorW.PrintMore
attribute [local go_sem] max2_int min2_int max_two min_two max_three min_three max_four min_four   -- for this text's walks alone
set_option linter.unusedVariables false
set_option linter.unusedSimpArgs false

def delim_Join.f (a0 : Int) (l1 : List ByteArray) : Option (ByteArray) := (strings_Join.f l1 (strOfNums (([a0] : List Int)))).bind fun t104 => (some t104)
set_option maxHeartbeats 8000000 in
set_option maxRecDepth 100000 in
theorem delim_Join.calls (a0 : Int) (A1 : Option Addr) (c1 : Nat) (l1 : List ByteArray) (r : ByteArray) (w : World) (hr1 : Kd.C Kd.string w A1 l1.length l1) (hc1 : l1.length ≤ c1) (h : delim_Join.f a0 l1 = some r) :
    Calls Tryd.prog 53 #[.int .u8 a0, .slice A1 l1.length c1] w fun e w' => e = .returned (.string r) ∧ Below w.heap.size w w' := by
  have HR1 := Aside0.mk hr1
  have HC1 := Aside0.mk hc1
  clear hr1 hc1
  have HB := Aside0.mk (Below.refl w.heap.size w)
  have H : ((strings_Join.f l1 (strOfNums (([a0] : List Int)))).bind fun t104 => (some t104)) = some r := h
  clear h
  obtain ⟨y101, hy101⟩ : ∃ y_ : List Int, y_ = (([a0] : List Int)) := ⟨_, rfl⟩
  replace H : ((strings_Join.f l1 (strOfNums y101)).bind fun t104 => (some t104)) = some r := by first | (rw [hy101]; with_reducible exact H) | (have H2_ := (Option.bind_some _ _).symm.trans H; rw [hy101]; with_reducible exact H2_) | (have H2_ := (Option.bind_some _ _).symm.trans H; with_reducible exact H2_) | with_reducible exact H | (rw [hy101]; exact H) | exact H
  have Ny101 := Aside0.mk hy101
  clear hy101
  replace H := Option.bind_eq_some_iff.mp H
  obtain ⟨t104, A30, H⟩ := H
  replace H : (some t104) = some r := H
  have A3 := Aside0.mk A30
  clear A30
  obtain rfl := Option.some.inj H
  go_enter Tryd.func53, Tryd.ntmps53
  go_wp2_with (first | ((with_reducible refine gate_dst (N := 7) rfl ?_); refine Kd.R_lit (Kd.int .u8) _ 5 ?hg (N := 7) ?hd (xs := ([a0] : List Int)) (inner := [.int .u8 a0]) (ok := fun _ => True) (okp := fun _ => True) ?hr ?hp (fun _ hk => hk) trivial (Below.refl _ _) (Nat.le_refl _) (by simp) ?_; (case hd => rfl); (case hg => rfl); (case hr => first | (go_simp; done) | (go_simp; rfl)); (case hp => exact (Reps.one (show Kd.M (Kd.int .u8) _ _ _ a0 [.int .u8 a0] from rfl) (Reps.none _ _))); intro v102 w4 ho5 hb hg_ hnew_; clear hg_ hnew_; (first | rw [← Ny101.out] at ho5 | (simp only [Int.reduceToNat] at ho5; rw [← Ny101.out] at ho5)); have n0_ := Aside0.mk (Kd.R_lower ho5 (below_size (by repeat (first | (with_reducible first | exact HB.out | apply below_alloc | apply pw_below_drewN | apply below_drew1) | exact HB.out)))); have n1_ := Aside0.mk (below_step (by repeat (first | (with_reducible first | exact HB.out | apply below_alloc | apply pw_below_drewN | apply below_drew1) | exact HB.out)) hb); clear HB; have HO103 := n0_; have HB := n1_; clear n0_ n1_; clear hb ho5; have hcv6 := own_string (P := Tryd.prog) Tryd.underlying26 Tryd.underlying5 Tryd.underlying9 (Kd.own_of_R HO103.out)) | ((with_reducible refine gate_callee (f := 52) rfl ?_); refine goesL_ (some 9) rfl rfl Tryd.func52 (by kernel_rfl) rfl #[.slice A1 l1.length c1, .string (strOfNums y101)] rfl (by (try simp only [List.map_toArray, List.map_cons, List.map_nil]); first | done | rfl | (simp only [List.length_drop, List.length_take]; rfl)) ?_; (with_reducible refine (strings_Join.calls _ _ l1 (strOfNums y101) t104 _ ?side1 ?side2 A3.out).mono ?_); (case side1 => repeat (first | exact (Kd.C_below HR1.out HB.out) | (with_reducible refine Kd.C_alloc ?_ _) | (with_reducible refine Kd.C_drewN ?_ _) | (with_reducible refine Kd.C_drew ?_))); (case side2 => exact HC1.out); rintro e w7 ⟨rfl, hb⟩; refine ⟨_, rfl, ?_⟩; have n0_ := Aside0.mk (Kd.R_below (by (with_reducible repeat (first | apply Kd.R_alloc | apply Kd.R_drewN | apply Kd.R_drew)); exact HO103.out) hb); have n1_ := Aside0.mk (below_step (by repeat (first | (with_reducible first | exact HB.out | apply below_alloc | apply pw_below_drewN | apply below_drew1) | exact HB.out)) hb); clear HO103; clear HB; have HO103 := n0_; have HB := n1_; clear n0_ n1_; (try clear hb); (try clear hb2); (try clear hk); (try clear hi)))
  go_ret
  exact ⟨by first | rfl | (simp [errW_none, errW_some] <;> rfl) | (simp [*, errW_none, errW_some] <;> rfl), by repeat (first | (with_reducible first | exact HB.out | apply below_alloc | apply pw_below_drewN | apply below_drew1) | exact HB.out)⟩

def segment_Make.f (a0_0 : Int) (a0_1 : Int) (a0_2 : Int) (a0_3 : Int) (a0_4 : Int) (a1 : ByteArray) (l2 : List ByteArray) : Option (ByteArray) := if a1.toList = ([77, 83, 72] : List UInt8) then (if 0 ≤ (mn (l2.length : Int) 2) then (if (mn (l2.length : Int) 2) ≤ (l2.length : Int) then ((strings_Join.f (l2.take ((mn (l2.length : Int) 2) : Int).toNat) (⟨#[]⟩ : ByteArray)).bind fun t107 => (if a1.size + t107.size ≤ 9223372036854775807 then ((some (([a1 ++ t107] : List ByteArray) : List ByteArray)).bind fun y109 => (if y109.length + (l2.drop ((mn (l2.length : Int) 2) : Int).toNat).length < 8796093022208 then ((delim_Join.f a0_0 (y109 ++ (l2.drop ((mn (l2.length : Int) 2) : Int).toNat))).bind fun t115 => (some t115)) else (none))) else (none))) else (none)) else (none)) else ((some (([a1] : List ByteArray) : List ByteArray)).bind fun y116 => (if y116.length + l2.length < 8796093022208 then ((delim_Join.f a0_0 (y116 ++ l2)).bind fun t122 => (some t122)) else (none)))
def segment_Make.T5 : Bool × List (List Nat × List Nat) := (true, [([], []), ([0], [0]), ([], []), ([2], [2]), ([], []), ([3, 4], [3, 4]), ([1, 5, 5], [1, 5]), ([6, 6, 0, 1, 2, 3, 4, 5, 6], [6])])
def segment_Make.B5 : List Nat := [0, 1, 0, 4, 0, 28, 63, 127]
theorem segment_Make.tab5 : rtab .any (opsOf Tryd.f22 5) = segment_Make.T5 := by kernel_rfl
theorem segment_Make.bits5 : waitsOk segment_Make.T5.2 segment_Make.B5 = true := by kernel_rfl
set_option maxHeartbeats 8000000 in
set_option maxRecDepth 100000 in
theorem segment_Make.calls (a0_0 : Int) (a0_1 : Int) (a0_2 : Int) (a0_3 : Int) (a0_4 : Int) (a1 : ByteArray) (A2 : Option Addr) (c2 : Nat) (l2 : List ByteArray) (r : ByteArray) (w : World) (hr2 : Kd.C Kd.string w A2 l2.length l2) (hc2 : l2.length ≤ c2) (h : segment_Make.f a0_0 a0_1 a0_2 a0_3 a0_4 a1 l2 = some r) :
    Calls Tryd.prog 22 #[.agg #[.int .u8 a0_0, .int .u8 a0_1, .int .u8 a0_2, .int .u8 a0_3, .int .u8 a0_4], .string a1, .slice A2 l2.length c2] w fun e w' => e = .returned (.string r) ∧ Below w.heap.size w w' := by
  have hu23 := Tryd.underlying23
  have HR2 := Aside0.mk hr2
  have HC2 := Aside0.mk hc2
  clear hr2 hc2
  have HB := Aside0.mk (Below.refl w.heap.size w)
  have H : (if a1.toList = ([77, 83, 72] : List UInt8) then (if 0 ≤ (mn (l2.length : Int) 2) then (if (mn (l2.length : Int) 2) ≤ (l2.length : Int) then ((strings_Join.f (l2.take ((mn (l2.length : Int) 2) : Int).toNat) (⟨#[]⟩ : ByteArray)).bind fun t107 => (if a1.size + t107.size ≤ 9223372036854775807 then ((some (([a1 ++ t107] : List ByteArray) : List ByteArray)).bind fun y109 => (if y109.length + (l2.drop ((mn (l2.length : Int) 2) : Int).toNat).length < 8796093022208 then ((delim_Join.f a0_0 (y109 ++ (l2.drop ((mn (l2.length : Int) 2) : Int).toNat))).bind fun t115 => (some t115)) else (none))) else (none))) else (none)) else (none)) else ((some (([a1] : List ByteArray) : List ByteArray)).bind fun y116 => (if y116.length + l2.length < 8796093022208 then ((delim_Join.f a0_0 (y116 ++ l2)).bind fun t122 => (some t122)) else (none)))) = some r := h
  clear h
  by_cases c4 : a1.toList = ([77, 83, 72] : List UInt8)
  · rw [if_pos c4] at H
    have c4b0 : (a1.toList == ([77, 83, 72] : List UInt8)) = true := beq_iff_eq.mpr c4
    have c4b1 : (a1.toList != ([77, 83, 72] : List UInt8)) = false := bne_eq_false_iff_eq.mpr c4
    clear c4
    obtain ⟨ji5, hji5⟩ : ∃ j_ : Int, (mn (l2.length : Int) 2) = j_ := ⟨_, rfl⟩
    replace H : (if 0 ≤ (ji5) then (if (ji5) ≤ (l2.length : Int) then ((strings_Join.f (l2.take ((ji5) : Int).toNat) (⟨#[]⟩ : ByteArray)).bind fun t107 => (if a1.size + t107.size ≤ 9223372036854775807 then ((some (([a1 ++ t107] : List ByteArray) : List ByteArray)).bind fun y109 => (if y109.length + (l2.drop ((ji5) : Int).toNat).length < 8796093022208 then ((delim_Join.f a0_0 (y109 ++ (l2.drop ((ji5) : Int).toNat))).bind fun t115 => (some t115)) else (none))) else (none))) else (none)) else (none)) = some r := by first | (rw [hji5] at H; exact H) | (simp only [hji5] at H ⊢; exact H)
    (try (have hji5h : ji5 ≤ 2 := by (rw [← hji5]; unfold mn; (repeat' split) <;> omega)))
    (try (have hji5g : ji5 ≤ 64 := by omega))
    (try (have hji5l : 0 ≤ ji5 := by (rw [← hji5]; unfold mn; (repeat' split) <;> omega)))
    (try (have hji5m : 0 ≤ ji5 := by omega))
    have hji5_ : (if 2 < (l2.length : Int) then 2 else (l2.length : Int)) = ji5 := hji5
    by_cases c6 : 0 ≤ (ji5)
    · rw [if_pos c6] at H
      have c6b0 := eq_true c6
      have c6b1 : decide (0 ≤ (ji5)) = true := decide_eq_true c6
      clear c6
      by_cases c7 : (ji5) ≤ (l2.length : Int)
      · rw [if_pos c7] at H
        have c7b0 := eq_true c7
        have c7b1 : decide ((ji5) ≤ (l2.length : Int)) = true := decide_eq_true c7
        clear c7
        replace H := Option.bind_eq_some_iff.mp H
        obtain ⟨t107, A80, H⟩ := H
        replace H : (if a1.size + t107.size ≤ 9223372036854775807 then ((some (([a1 ++ t107] : List ByteArray) : List ByteArray)).bind fun y109 => (if y109.length + (l2.drop ((ji5) : Int).toNat).length < 8796093022208 then ((delim_Join.f a0_0 (y109 ++ (l2.drop ((ji5) : Int).toNat))).bind fun t115 => (some t115)) else (none))) else (none)) = some r := H
        have A8 := Aside0.mk A80
        clear A80
        by_cases c9 : a1.size + t107.size ≤ 9223372036854775807
        · rw [if_pos c9] at H
          have c9b0 := eq_true c9
          have c9b1 : decide (a1.size + t107.size ≤ 9223372036854775807) = true := decide_eq_true c9
          try have c9b2 : (9223372036854775807 < a1.size + t107.size) = False := eq_false (Nat.not_lt.2 c9)
          have c10b0 := eq_true (of_decide_eq_true (by first | (with_reducible assumption) | assumption) : 0 ≤ (ji5))
          have c11b0 := eq_true (of_decide_eq_true (by first | (with_reducible assumption) | assumption) : (ji5) ≤ (l2.length : Int))
          obtain ⟨y109, hy109⟩ : ∃ y_ : List ByteArray, y_ = (([a1 ++ t107] : List ByteArray)) := ⟨_, rfl⟩
          replace H : (if y109.length + (l2.drop ((ji5) : Int).toNat).length < 8796093022208 then ((delim_Join.f a0_0 (y109 ++ (l2.drop ((ji5) : Int).toNat))).bind fun t115 => (some t115)) else (none)) = some r := by first | (rw [hy109]; with_reducible exact H) | (have H2_ := (Option.bind_some _ _).symm.trans H; rw [hy109]; with_reducible exact H2_) | (have H2_ := (Option.bind_some _ _).symm.trans H; with_reducible exact H2_) | with_reducible exact H | (rw [hy109]; exact H) | exact H
          have Ny109 := Aside0.mk hy109
          clear hy109
          by_cases c12 : y109.length + (l2.drop ((ji5) : Int).toNat).length < 8796093022208
          · rw [if_pos c12] at H
            have LMc12 := Aside0.mk c12
            clear c12
            obtain ⟨y112, hy112⟩ : ∃ y_ : List ByteArray, y_ = (y109 ++ (l2.drop ((ji5) : Int).toNat)) := ⟨_, rfl⟩
            replace H : ((delim_Join.f a0_0 y112).bind fun t115 => (some t115)) = some r := by first | (rw [hy112]; with_reducible exact H) | (have H2_ := (Option.bind_some _ _).symm.trans H; rw [hy112]; with_reducible exact H2_) | (have H2_ := (Option.bind_some _ _).symm.trans H; with_reducible exact H2_) | with_reducible exact H | (rw [hy112]; exact H) | exact H
            have Ny112 := Aside0.mk hy112
            clear hy112
            replace H := Option.bind_eq_some_iff.mp H
            obtain ⟨t115, A130, H⟩ := H
            replace H : (some t115) = some r := H
            have A13 := Aside0.mk A130
            clear A130
            obtain rfl := Option.some.inj H
            go_enter Tryd.func22, Tryd.ntmps22
            try go_wp2_with (first | ((with_reducible refine gate_dst (N := 3) rfl ?_); refine box_event ?hg (N := 3) ?hd (cs := #[.int .u8 a0_0, .int .u8 a0_1, .int .u8 a0_2, .int .u8 a0_3, .int .u8 a0_4]) (t := 23) ?hr ?_; (case hd => rfl); (case hg => rfl); (case hr => first | (go_simp; done) | (go_simp; rfl)); intro gb105 hg w14 hbox hb; have n0_ := Aside0.mk (below_step (by repeat (first | (with_reducible first | exact HB.out | apply below_alloc | apply pw_below_drewN | apply below_drew1) | exact HB.out)) hb); have n1_ := Aside0.mk (hbox); have n2_ := Aside0.mk ((by rw [hg]; exact (below_size (by repeat (first | (with_reducible first | exact HB.out | apply below_alloc | apply pw_below_drewN | apply below_drew1) | exact HB.out))) : w.heap.size ≤ gb105)); have n3_ := Aside0.mk ((by rw [hg]; exact (below_size (by repeat (first | (with_reducible first | exact HB.out | apply below_alloc | apply pw_below_drewN | apply below_drew1) | exact HB.out))) : w.heap.size ≤ gb105)); clear HB; have HB := n0_; have BK105 := n1_; have GW105 := n2_; have GE105 := n3_; clear n0_ n1_ n2_ n3_; clear hb hbox hg; obtain ⟨i015, hi015, _, hsz15, _⟩ := info_parts info9; obtain ⟨hcut15, hA15, hC15⟩ := print_take_of (P := Tryd.prog) Value.string (⟨#[]⟩ : ByteArray) 41 9 .i64 Tryd.underlying41 hi015 hsz15 A2 c2 l2 (ji5) (of_decide_eq_true (by first | (with_reducible assumption) | assumption)) (of_decide_eq_true (by first | (with_reducible assumption) | assumption)) HC2.out; have HR106 := Aside0.mk (Kd.C_of_reads (h1 := fun _ => rfl) (hA15 _ (Kd.reads_of_C HR2.out))); have HC106 := Aside0.mk hC15; clear hA15 hC15 hi015 hsz15) | ((with_reducible refine gate_callee (f := 52) rfl ?_); refine goesL_ (some 17) rfl rfl Tryd.func52 (by kernel_rfl) rfl #[.slice A2 (l2.take ((ji5) : Int).toNat).length c2, .string (⟨#[]⟩ : ByteArray)] rfl (by (try simp only [List.map_toArray, List.map_cons, List.map_nil]); first | done | (rw [show (l2.take ((ji5) : Int).toNat).length = (ji5).toNat from (by rw [List.length_take]; have h_ : ((ji5) : Int) ≤ (l2.length : Int) := of_decide_eq_true (by first | (with_reducible assumption) | assumption); omega)] <;> rfl) | (simp only [hji5]; rfl) | rfl | (simp only [List.length_drop, List.length_take]; rfl)) ?_; (with_reducible refine (strings_Join.calls _ _ (l2.take ((ji5) : Int).toNat) (⟨#[]⟩ : ByteArray) t107 _ ?side1 ?side2 A8.out).mono ?_); (case side1 => repeat (first | exact (Kd.C_below HR106.out HB.out) | (with_reducible refine Kd.C_alloc ?_ _) | (with_reducible refine Kd.C_drewN ?_ _) | (with_reducible refine Kd.C_drew ?_))); (case side2 => exact HC106.out); rintro e w16 ⟨rfl, hb⟩; refine ⟨_, rfl, ?_⟩; have n0_ := Aside0.mk (blk_below (g := gb105) (o := .cells #[.int .u8 a0_0, .int .u8 a0_1, .int .u8 a0_2, .int .u8 a0_3, .int .u8 a0_4] 23 (0, 0)) (by (with_reducible repeat (first | refine blk_drewN ?_ _ | refine blk_drew ?_ | refine blk_alloc ?_ _)); exact BK105.out) hb); have n1_ := Aside0.mk (below_step (by repeat (first | (with_reducible first | exact HB.out | apply below_alloc | apply pw_below_drewN | apply below_drew1 | refine below_set ?_ GE105.out) | exact HB.out)) hb); clear BK105; clear HB; have BK105 := n0_; have HB := n1_; clear n0_ n1_; (try clear hb); (try clear hb2); (try clear hk); (try clear hi); obtain ⟨i017, hi017, _, hsz17, _⟩ := info_parts info9; obtain ⟨A17, hcut17, hA17, hC17⟩ := print_drop_of (P := Tryd.prog) Value.string (⟨#[]⟩ : ByteArray) 41 9 .i64 Tryd.underlying41 hi017 hsz17 A2 c2 l2 (ji5) (of_decide_eq_true (by first | (with_reducible assumption) | assumption)) (of_decide_eq_true (by first | (with_reducible assumption) | assumption)) HC2.out; have HR108 := Aside0.mk (Kd.C_of_reads (h1 := fun _ => rfl) (hA17 _ (Kd.reads_of_C HR2.out))); have HC108 := Aside0.mk hC17; clear hA17 hC17 hi017 hsz17))
            have n0_ := Aside0.mk (blk_drew BK105.out)
            have n1_ := Aside0.mk (below_drew1 HB.out)
            clear BK105
            clear HB
            have BK105 := n0_
            have HB := n1_
            clear n0_ n1_
            refine start_ (n := 8) (S := fun w' => w'.cell? ⟨gb105, 0, none⟩ = some (.int .u8 a0_0) ∧ w'.cell? ⟨gb105, 1, none⟩ = some (.int .u8 a0_1) ∧ w'.cell? ⟨gb105, 2, none⟩ = some (.int .u8 a0_2) ∧ w'.cell? ⟨gb105, 3, none⟩ = some (.int .u8 a0_3) ∧ w'.cell? ⟨gb105, 4, none⟩ = some (.int .u8 a0_4)) (ds := []) #[false, false, false, false, false, false, false, false] (by kernel_rfl) rfl rfl ⟨(blk_cell BK105.out 0).trans rfl, (blk_cell BK105.out 1).trans rfl, (blk_cell BK105.out 2).trans rfl, (blk_cell BK105.out 3).trans rfl, (blk_cell BK105.out 4).trans rfl⟩ (fun hHeld => ?_); refine with_tabW segment_Make.tab5 segment_Make.bits5 (fun HT_ HW_ => ?_)
            generalize w16.drew = w18 at BK105 HB hHeld ⊢
            refine pure_ (i := 0) (N := some 22) (v := ?_) (a' := ?_) #[true, false, false, false, false, false, false, false] rfl rfl (any_of HT_.out (by kernel_rfl)) (fun _ _ _ h => h) (Or.inl ⟨by rfl, ?_⟩) ?_ ?_
            rotate_left
            · intro w'
              go_simp
              with_reducible rfl
            rotate_left
            · simp only [Act.put, List.setIfInBounds_toArray, List.set_cons_zero, List.set_cons_succ, i64_w, i32_w]
              rfl
            refine pure_ (i := 2) (N := some 24) (v := ?_) (a' := ?_) #[true, false, true, false, false, false, false, false] rfl rfl (any_of HT_.out (by kernel_rfl)) (fun _ _ _ h => h) (Or.inl ⟨by rfl, ?_⟩) ?_ ?_
            rotate_left
            · intro w'
              go_simp
              with_reducible rfl
            rotate_left
            · simp only [Act.put, List.setIfInBounds_toArray, List.set_cons_zero, List.set_cons_succ, i64_w, i32_w]
              rfl
            refine pure_ (i := 4) (N := some 26) (v := ?_) (a' := ?_) #[true, false, true, false, true, false, false, false] rfl rfl (any_of HT_.out (by kernel_rfl)) (fun _ _ _ h => h) (Or.inl ⟨by rfl, ?_⟩) ?_ ?_
            rotate_left
            · intro w'
              go_simp
              with_reducible rfl
            rotate_left
            · simp only [Act.put, List.setIfInBounds_toArray, List.set_cons_zero, List.set_cons_succ, i64_w, i32_w]
              rfl
            refine take_ (i := 1) (N := some 23) (v := ?_) (a' := ?_) #[true, true, true, false, true, false, false, false] rfl rfl (take_ofW HT_.out HW_.out (by kernel_rfl)) (fun _ _ _ h => h) (Or.inl ⟨by rfl, ?_⟩) hHeld ?_ ?_
            rotate_left
            · rintro w' ⟨s0, s1, s2, s3, s4⟩
              go_simp
              with_reducible rfl
            rotate_left
            · simp only [Act.put, List.setIfInBounds_toArray, List.set_cons_zero, List.set_cons_succ, i64_w, i32_w]
              rfl
            refine one_ (i := 3) (N := some 25) #[true, true, true, true, true, false, false, false] rfl rfl (one_of HT_.out (by kernel_rfl)) (by decide) (fun K hK => ?_)
            refine Kd.R_lit_step Kd.string _ 9 ?hg (N := 25) ?hd (xs := ([a1 ++ t107] : List ByteArray)) (inner := [.string (a1 ++ t107)]) (ok := fun _ => True) (okp := fun _ => True) ?hr ?hp (fun _ hk => hk) trivial (Below.refl _ _) (Nat.le_refl _) (by simp) ?_; (case hd => rfl); (case hg => rfl); (case hr => first | (go_simp; done) | (go_simp; rfl)); (case hp => exact (Reps.one (show Kd.M Kd.string _ _ _ (a1 ++ t107) [.string (a1 ++ t107)] from rfl) (Reps.none _ _)))
            intro v110 w19 ho20 hb hg_ hnew_
            clear hg_ hnew_
            (first | rw [← Ny109.out] at ho20 | (simp only [Int.reduceToNat] at ho20; rw [← Ny109.out] at ho20))
            have n0_ := Aside0.mk (Kd.R_lower ho20 (below_size (by repeat (first | (with_reducible first | exact HB.out | apply below_alloc | apply pw_below_drewN | apply below_drew1 | refine below_set ?_ GE105.out) | exact HB.out))))
            have n1_ := Aside0.mk (blk_below (g := gb105) (o := .cells #[.int .u8 a0_0, .int .u8 a0_1, .int .u8 a0_2, .int .u8 a0_3, .int .u8 a0_4] 23 (0, 0)) (by (with_reducible repeat (first | refine blk_drewN ?_ _ | refine blk_drew ?_ | refine blk_alloc ?_ _)); exact BK105.out) hb)
            have n2_ := Aside0.mk (below_step (by repeat (first | (with_reducible first | exact HB.out | apply below_alloc | apply pw_below_drewN | apply below_drew1 | refine below_set ?_ GE105.out) | exact HB.out)) hb)
            clear BK105
            clear HB
            have HO111 := n0_
            have BK105 := n1_
            have HB := n2_
            clear n0_ n1_ n2_
            clear hb ho20
            refine hK.out _ _ ⟨(blk_cell BK105.out 0).trans rfl, (blk_cell BK105.out 1).trans rfl, (blk_cell BK105.out 2).trans rfl, (blk_cell BK105.out 3).trans rfl, (blk_cell BK105.out 4).trans rfl⟩ (fun hHeld => ?_)
            clear hK K
            refine norm_ (a' := ?_) ?_ ?_
            rotate_left
            · show Act.put _ (some 25) _ = _
              simp only [Act.put, List.setIfInBounds_toArray, List.set_cons_zero, List.set_cons_succ, i64_w, i32_w]
              rfl
            refine one_ (i := 5) (N := some 27) #[true, true, true, true, true, true, false, false] rfl rfl (one_of HT_.out (by kernel_rfl)) (by decide) (fun K hK => ?_)
            refine Kd.R_append_rows_step Kd.string (w0 := w) w.heap.size (by rfl) (.tmp 25) (.tmp 26) 41 9 (.string ⟨#[]⟩) 16 rfl Tryd.underlying41 info9 rfl (by decide) (by omega) v110 y109 (l2.drop ((ji5) : Int).toNat) _ _ _ (fun _ => True) (fun _ => False) rfl rfl ?aO ?aR (fun _ _ h => h) (fun _ h => h.elim) ?aF ?aB ?aS ?aL ?_
            (case aR => first | (rw [← show (l2.drop ((ji5) : Int).toNat).length = (l2.length - (ji5).toNat) from List.length_drop]; repeat (first | exact (Kd.C_below HR108.out HB.out) | (with_reducible refine Kd.C_alloc ?_ _) | (with_reducible refine Kd.C_drewN ?_ _) | (with_reducible refine Kd.C_drew ?_))) | (repeat (first | exact (Kd.C_below HR108.out HB.out) | (with_reducible refine Kd.C_alloc ?_ _) | (with_reducible refine Kd.C_drewN ?_ _) | (with_reducible refine Kd.C_drew ?_))))
            (case aB => exact (by repeat (first | (with_reducible first | exact HB.out | apply below_alloc | apply pw_below_drewN | apply below_drew1 | refine below_set ?_ GE105.out) | exact HB.out)))
            (case aF => exact (fun _ _ => trivial))
            (case aO => exact (by (with_reducible repeat (first | apply Kd.R_alloc | apply Kd.R_drewN | apply Kd.R_drew)); exact HO111.out))
            (case aS => exact (below_size (by repeat (first | (with_reducible first | exact HB.out | apply below_alloc | apply pw_below_drewN | apply below_drew1 | refine below_set ?_ GE105.out) | exact HB.out))))
            (case aL => have := LMc12.out; have hlx_ := (show (l2.drop ((ji5) : Int).toNat).length = (l2.length - (ji5).toNat) from List.length_drop); omega)
            intro v113 w21 ho hb hg hat
            rw [← Ny112.out] at ho
            have n0_ := Aside0.mk (blk_grown (g := gb105) (o := .cells #[.int .u8 a0_0, .int .u8 a0_1, .int .u8 a0_2, .int .u8 a0_3, .int .u8 a0_4] 23 (0, 0)) (by (with_reducible repeat (first | refine blk_drewN ?_ _ | refine blk_drew ?_ | refine blk_alloc ?_ _)); exact BK105.out) hg (Kd.R_ne HO111.out BK105.out (by decide)))
            have n1_ := Aside0.mk (hb)
            have n2_ := Aside0.mk (ho)
            clear BK105
            clear HB
            clear HO111
            have BK105 := n0_
            have HB := n1_
            have HO114 := n2_
            clear n0_ n1_ n2_
            clear ho hb hg hat
            obtain ⟨Ao22, co22, eo22⟩ := Kd.R_slice HO114.out
            (first | subst eo22 | (injection eo22 with f1_ f2_ f3_; have f4_ := f1_.symm; have f5_ := f3_.symm; clear f1_ f2_ f3_; subst f4_; subst f5_))
            refine hK.out _ _ ⟨(blk_cell BK105.out 0).trans rfl, (blk_cell BK105.out 1).trans rfl, (blk_cell BK105.out 2).trans rfl, (blk_cell BK105.out 3).trans rfl, (blk_cell BK105.out 4).trans rfl⟩ (fun hHeld => ?_)
            clear hK K
            refine norm_ (a' := ?_) ?_ ?_
            rotate_left
            · show Act.put _ (some 27) _ = _
              simp only [Act.put, List.setIfInBounds_toArray, List.set_cons_zero, List.set_cons_succ, i64_w, i32_w]
              rfl
            refine one_ (i := 6) (N := some 28) #[true, true, true, true, true, true, true, false] rfl rfl (one_of HT_.out (by kernel_rfl)) (by decide) (fun K hK => ?_)
            refine goes_ Tryd.func53 (by kernel_rfl) rfl #[.int .u8 a0_0, .slice Ao22 y112.length co22] (by rfl) rfl rfl (by (try simp only [List.map_toArray, List.map_cons, List.map_nil]); first | done | rfl | (simp only [List.length_drop, List.length_take]; rfl)) ?_
            with_reducible refine (delim_Join.calls a0_0 _ _ y112 t115 _ ?side1 ?side2 A13.out).mono ?_
            (case side1 => repeat (first | exact (Kd.R_reads' HO114.out).2.2 | (with_reducible refine Kd.C_alloc ?_ _) | (with_reducible refine Kd.C_drewN ?_ _) | (with_reducible refine Kd.C_drew ?_)))
            (case side2 => exact (Kd.R_reads' HO114.out).2.1)
            rintro e w23 ⟨rfl, hb⟩
            refine ⟨_, rfl, ?_⟩
            have n0_ := Aside0.mk (Kd.R_below (by (with_reducible repeat (first | apply Kd.R_alloc | apply Kd.R_drewN | apply Kd.R_drew)); exact HO114.out) hb)
            have n1_ := Aside0.mk (blk_below (g := gb105) (o := .cells #[.int .u8 a0_0, .int .u8 a0_1, .int .u8 a0_2, .int .u8 a0_3, .int .u8 a0_4] 23 (0, 0)) (by (with_reducible repeat (first | refine blk_drewN ?_ _ | refine blk_drew ?_ | refine blk_alloc ?_ _)); exact BK105.out) hb)
            have n2_ := Aside0.mk (below_step (by repeat (first | (with_reducible first | exact HB.out | apply below_alloc | apply pw_below_drewN | apply below_drew1 | refine below_set ?_ GE105.out) | exact HB.out)) hb)
            clear HO114
            clear BK105
            clear HB
            have HO114 := n0_
            have BK105 := n1_
            have HB := n2_
            clear n0_ n1_ n2_
            (try clear hb)
            (try clear hb2)
            (try clear hk)
            (try clear hi)
            refine hK.out _ _ ⟨(blk_cell BK105.out 0).trans rfl, (blk_cell BK105.out 1).trans rfl, (blk_cell BK105.out 2).trans rfl, (blk_cell BK105.out 3).trans rfl, (blk_cell BK105.out 4).trans rfl⟩ (fun hHeld => ?_)
            clear hK K
            refine norm_ (a' := ?_) ?_ ?_
            rotate_left
            · show Act.put _ (some 28) _ = _
              simp only [Act.put, List.setIfInBounds_toArray, List.set_cons_zero, List.set_cons_succ, i64_w, i32_w]
              rfl
            refine pure_ (i := 7) (N := some 6) (v := ?_) (a' := ?_) #[true, true, true, true, true, true, true, true] rfl rfl (any_of HT_.out (by kernel_rfl)) (fun _ _ _ h => h) (Or.inl ⟨by rfl, ?_⟩) ?_ ?_
            rotate_left
            · intro w'
              go_simp
              with_reducible rfl
            rotate_left
            · simp only [Act.put, List.setIfInBounds_toArray, List.set_cons_zero, List.set_cons_succ, i64_w, i32_w]
              rfl
            refine done_ (done_of HT_.out (by kernel_rfl)) ?_
            try go_wp2
            go_ret
            exact ⟨by first | rfl | (simp [errW_none, errW_some] <;> rfl) | (simp only [← hji5]; first | rfl | (simp [errW_none, errW_some] <;> rfl)) | (simp [*, errW_none, errW_some] <;> rfl), by repeat (first | (with_reducible first | exact HB.out | apply below_alloc | apply pw_below_drewN | apply below_drew1 | refine below_set ?_ GE105.out) | exact HB.out)⟩
          · rw [if_neg c12] at H
            exact absurd H (by simp)
        · rw [if_neg c9] at H
          exact absurd H (by simp)
      · rw [if_neg c7] at H
        exact absurd H (by simp)
    · rw [if_neg c6] at H
      exact absurd H (by simp)
  · rw [if_neg c4] at H
    have c4b0 : (a1.toList == ([77, 83, 72] : List UInt8)) = false := beq_eq_false_iff_ne.mpr c4
    have c4b1 : (a1.toList != ([77, 83, 72] : List UInt8)) = true := bne_iff_ne.mpr c4
    obtain ⟨y116, hy116⟩ : ∃ y_ : List ByteArray, y_ = (([a1] : List ByteArray)) := ⟨_, rfl⟩
    replace H : (if y116.length + l2.length < 8796093022208 then ((delim_Join.f a0_0 (y116 ++ l2)).bind fun t122 => (some t122)) else (none)) = some r := by first | (rw [hy116]; with_reducible exact H) | (have H2_ := (Option.bind_some _ _).symm.trans H; rw [hy116]; with_reducible exact H2_) | (have H2_ := (Option.bind_some _ _).symm.trans H; with_reducible exact H2_) | with_reducible exact H | (rw [hy116]; exact H) | exact H
    have Ny116 := Aside0.mk hy116
    clear hy116
    by_cases c24 : y116.length + l2.length < 8796093022208
    · rw [if_pos c24] at H
      have LMc24 := Aside0.mk c24
      clear c24
      obtain ⟨y119, hy119⟩ : ∃ y_ : List ByteArray, y_ = (y116 ++ l2) := ⟨_, rfl⟩
      replace H : ((delim_Join.f a0_0 y119).bind fun t122 => (some t122)) = some r := by first | (rw [hy119]; with_reducible exact H) | (have H2_ := (Option.bind_some _ _).symm.trans H; rw [hy119]; with_reducible exact H2_) | (have H2_ := (Option.bind_some _ _).symm.trans H; with_reducible exact H2_) | with_reducible exact H | (rw [hy119]; exact H) | exact H
      have Ny119 := Aside0.mk hy119
      clear hy119
      replace H := Option.bind_eq_some_iff.mp H
      obtain ⟨t122, A250, H⟩ := H
      replace H : (some t122) = some r := H
      have A25 := Aside0.mk A250
      clear A250
      obtain rfl := Option.some.inj H
      go_enter Tryd.func22, Tryd.ntmps22
      try go_wp2_with (first | ((with_reducible refine gate_dst (N := 3) rfl ?_); refine box_event ?hg (N := 3) ?hd (cs := #[.int .u8 a0_0, .int .u8 a0_1, .int .u8 a0_2, .int .u8 a0_3, .int .u8 a0_4]) (t := 23) ?hr ?_; (case hd => rfl); (case hg => rfl); (case hr => first | (go_simp; done) | (go_simp; rfl)); intro gb105 hg w26 hbox hb; have n0_ := Aside0.mk (below_step (by repeat (first | (with_reducible first | exact HB.out | apply below_alloc | apply pw_below_drewN | apply below_drew1) | exact HB.out)) hb); have n1_ := Aside0.mk (hbox); have n2_ := Aside0.mk ((by rw [hg]; exact (below_size (by repeat (first | (with_reducible first | exact HB.out | apply below_alloc | apply pw_below_drewN | apply below_drew1) | exact HB.out))) : w.heap.size ≤ gb105)); have n3_ := Aside0.mk ((by rw [hg]; exact (below_size (by repeat (first | (with_reducible first | exact HB.out | apply below_alloc | apply pw_below_drewN | apply below_drew1) | exact HB.out))) : w.heap.size ≤ gb105)); clear HB; have HB := n0_; have BK105 := n1_; have GW105 := n2_; have GE105 := n3_; clear n0_ n1_ n2_ n3_; clear hb hbox hg))
      have n0_ := Aside0.mk (blk_drew BK105.out)
      have n1_ := Aside0.mk (below_drew1 HB.out)
      clear BK105
      clear HB
      have BK105 := n0_
      have HB := n1_
      clear n0_ n1_
      refine start_ (n := 8) (S := fun w' => w'.cell? ⟨gb105, 0, none⟩ = some (.int .u8 a0_0) ∧ w'.cell? ⟨gb105, 1, none⟩ = some (.int .u8 a0_1) ∧ w'.cell? ⟨gb105, 2, none⟩ = some (.int .u8 a0_2) ∧ w'.cell? ⟨gb105, 3, none⟩ = some (.int .u8 a0_3) ∧ w'.cell? ⟨gb105, 4, none⟩ = some (.int .u8 a0_4)) (ds := []) #[false, false, false, false, false, false, false, false] (by kernel_rfl) rfl rfl ⟨(blk_cell BK105.out 0).trans rfl, (blk_cell BK105.out 1).trans rfl, (blk_cell BK105.out 2).trans rfl, (blk_cell BK105.out 3).trans rfl, (blk_cell BK105.out 4).trans rfl⟩ (fun hHeld => ?_); refine with_tabW segment_Make.tab5 segment_Make.bits5 (fun HT_ HW_ => ?_)
      generalize w26.drew = w27 at BK105 HB hHeld ⊢
      refine pure_ (i := 0) (N := some 22) (v := ?_) (a' := ?_) #[true, false, false, false, false, false, false, false] rfl rfl (any_of HT_.out (by kernel_rfl)) (fun _ _ _ h => h) (Or.inl ⟨by rfl, ?_⟩) ?_ ?_
      rotate_left
      · intro w'
        go_simp
        with_reducible rfl
      rotate_left
      · simp only [Act.put, List.setIfInBounds_toArray, List.set_cons_zero, List.set_cons_succ, i64_w, i32_w]
        rfl
      refine pure_ (i := 2) (N := some 24) (v := ?_) (a' := ?_) #[true, false, true, false, false, false, false, false] rfl rfl (any_of HT_.out (by kernel_rfl)) (fun _ _ _ h => h) (Or.inl ⟨by rfl, ?_⟩) ?_ ?_
      rotate_left
      · intro w'
        go_simp
        with_reducible rfl
      rotate_left
      · simp only [Act.put, List.setIfInBounds_toArray, List.set_cons_zero, List.set_cons_succ, i64_w, i32_w]
        rfl
      refine pure_ (i := 4) (N := some 26) (v := ?_) (a' := ?_) #[true, false, true, false, true, false, false, false] rfl rfl (any_of HT_.out (by kernel_rfl)) (fun _ _ _ h => h) (Or.inl ⟨by rfl, ?_⟩) ?_ ?_
      rotate_left
      · intro w'
        go_simp
        with_reducible rfl
      rotate_left
      · simp only [Act.put, List.setIfInBounds_toArray, List.set_cons_zero, List.set_cons_succ, i64_w, i32_w]
        rfl
      refine take_ (i := 1) (N := some 23) (v := ?_) (a' := ?_) #[true, true, true, false, true, false, false, false] rfl rfl (take_ofW HT_.out HW_.out (by kernel_rfl)) (fun _ _ _ h => h) (Or.inl ⟨by rfl, ?_⟩) hHeld ?_ ?_
      rotate_left
      · rintro w' ⟨s0, s1, s2, s3, s4⟩
        go_simp
        with_reducible rfl
      rotate_left
      · simp only [Act.put, List.setIfInBounds_toArray, List.set_cons_zero, List.set_cons_succ, i64_w, i32_w]
        rfl
      refine one_ (i := 3) (N := some 25) #[true, true, true, true, true, false, false, false] rfl rfl (one_of HT_.out (by kernel_rfl)) (by decide) (fun K hK => ?_)
      refine Kd.R_lit_step Kd.string _ 9 ?hg (N := 25) ?hd (xs := ([a1] : List ByteArray)) (inner := [.string a1]) (ok := fun _ => True) (okp := fun _ => True) ?hr ?hp (fun _ hk => hk) trivial (Below.refl _ _) (Nat.le_refl _) (by simp) ?_; (case hd => rfl); (case hg => rfl); (case hr => first | (go_simp; done) | (go_simp; rfl)); (case hp => exact (Reps.one (show Kd.M Kd.string _ _ _ a1 [.string a1] from rfl) (Reps.none _ _)))
      intro v117 w28 ho29 hb hg_ hnew_
      clear hg_ hnew_
      (first | rw [← Ny116.out] at ho29 | (simp only [Int.reduceToNat] at ho29; rw [← Ny116.out] at ho29))
      have n0_ := Aside0.mk (Kd.R_lower ho29 (below_size (by repeat (first | (with_reducible first | exact HB.out | apply below_alloc | apply pw_below_drewN | apply below_drew1 | refine below_set ?_ GE105.out) | exact HB.out))))
      have n1_ := Aside0.mk (blk_below (g := gb105) (o := .cells #[.int .u8 a0_0, .int .u8 a0_1, .int .u8 a0_2, .int .u8 a0_3, .int .u8 a0_4] 23 (0, 0)) (by (with_reducible repeat (first | refine blk_drewN ?_ _ | refine blk_drew ?_ | refine blk_alloc ?_ _)); exact BK105.out) hb)
      have n2_ := Aside0.mk (below_step (by repeat (first | (with_reducible first | exact HB.out | apply below_alloc | apply pw_below_drewN | apply below_drew1 | refine below_set ?_ GE105.out) | exact HB.out)) hb)
      clear BK105
      clear HB
      have HO118 := n0_
      have BK105 := n1_
      have HB := n2_
      clear n0_ n1_ n2_
      clear hb ho29
      refine hK.out _ _ ⟨(blk_cell BK105.out 0).trans rfl, (blk_cell BK105.out 1).trans rfl, (blk_cell BK105.out 2).trans rfl, (blk_cell BK105.out 3).trans rfl, (blk_cell BK105.out 4).trans rfl⟩ (fun hHeld => ?_)
      clear hK K
      refine norm_ (a' := ?_) ?_ ?_
      rotate_left
      · show Act.put _ (some 25) _ = _
        simp only [Act.put, List.setIfInBounds_toArray, List.set_cons_zero, List.set_cons_succ, i64_w, i32_w]
        rfl
      refine one_ (i := 5) (N := some 27) #[true, true, true, true, true, true, false, false] rfl rfl (one_of HT_.out (by kernel_rfl)) (by decide) (fun K hK => ?_)
      refine Kd.R_append_rows_step Kd.string (w0 := w) w.heap.size (by rfl) (.tmp 25) (.tmp 26) 41 9 (.string ⟨#[]⟩) 16 rfl Tryd.underlying41 info9 rfl (by decide) (by omega) v117 y116 l2 _ _ _ (fun _ => True) (fun _ => False) rfl rfl ?aO ?aR (fun _ _ h => h) (fun _ h => h.elim) ?aF ?aB ?aS ?aL ?_
      (case aR => repeat (first | exact (Kd.C_below HR2.out HB.out) | (with_reducible refine Kd.C_alloc ?_ _) | (with_reducible refine Kd.C_drewN ?_ _) | (with_reducible refine Kd.C_drew ?_)))
      (case aB => exact (by repeat (first | (with_reducible first | exact HB.out | apply below_alloc | apply pw_below_drewN | apply below_drew1 | refine below_set ?_ GE105.out) | exact HB.out)))
      (case aF => exact (fun _ _ => trivial))
      (case aO => exact (by (with_reducible repeat (first | apply Kd.R_alloc | apply Kd.R_drewN | apply Kd.R_drew)); exact HO118.out))
      (case aS => exact (below_size (by repeat (first | (with_reducible first | exact HB.out | apply below_alloc | apply pw_below_drewN | apply below_drew1 | refine below_set ?_ GE105.out) | exact HB.out))))
      (case aL => have := LMc24.out; omega)
      intro v120 w30 ho hb hg hat
      rw [← Ny119.out] at ho
      have n0_ := Aside0.mk (blk_grown (g := gb105) (o := .cells #[.int .u8 a0_0, .int .u8 a0_1, .int .u8 a0_2, .int .u8 a0_3, .int .u8 a0_4] 23 (0, 0)) (by (with_reducible repeat (first | refine blk_drewN ?_ _ | refine blk_drew ?_ | refine blk_alloc ?_ _)); exact BK105.out) hg (Kd.R_ne HO118.out BK105.out (by decide)))
      have n1_ := Aside0.mk (hb)
      have n2_ := Aside0.mk (ho)
      clear BK105
      clear HB
      clear HO118
      have BK105 := n0_
      have HB := n1_
      have HO121 := n2_
      clear n0_ n1_ n2_
      clear ho hb hg hat
      obtain ⟨Ao31, co31, eo31⟩ := Kd.R_slice HO121.out
      (first | subst eo31 | (injection eo31 with f1_ f2_ f3_; have f4_ := f1_.symm; have f5_ := f3_.symm; clear f1_ f2_ f3_; subst f4_; subst f5_))
      refine hK.out _ _ ⟨(blk_cell BK105.out 0).trans rfl, (blk_cell BK105.out 1).trans rfl, (blk_cell BK105.out 2).trans rfl, (blk_cell BK105.out 3).trans rfl, (blk_cell BK105.out 4).trans rfl⟩ (fun hHeld => ?_)
      clear hK K
      refine norm_ (a' := ?_) ?_ ?_
      rotate_left
      · show Act.put _ (some 27) _ = _
        simp only [Act.put, List.setIfInBounds_toArray, List.set_cons_zero, List.set_cons_succ, i64_w, i32_w]
        rfl
      refine one_ (i := 6) (N := some 28) #[true, true, true, true, true, true, true, false] rfl rfl (one_of HT_.out (by kernel_rfl)) (by decide) (fun K hK => ?_)
      refine goes_ Tryd.func53 (by kernel_rfl) rfl #[.int .u8 a0_0, .slice Ao31 y119.length co31] (by rfl) rfl rfl (by (try simp only [List.map_toArray, List.map_cons, List.map_nil]); first | done | rfl | (simp only [List.length_drop, List.length_take]; rfl)) ?_
      with_reducible refine (delim_Join.calls a0_0 _ _ y119 t122 _ ?side1 ?side2 A25.out).mono ?_
      (case side1 => repeat (first | exact (Kd.R_reads' HO121.out).2.2 | (with_reducible refine Kd.C_alloc ?_ _) | (with_reducible refine Kd.C_drewN ?_ _) | (with_reducible refine Kd.C_drew ?_)))
      (case side2 => exact (Kd.R_reads' HO121.out).2.1)
      rintro e w32 ⟨rfl, hb⟩
      refine ⟨_, rfl, ?_⟩
      have n0_ := Aside0.mk (Kd.R_below (by (with_reducible repeat (first | apply Kd.R_alloc | apply Kd.R_drewN | apply Kd.R_drew)); exact HO121.out) hb)
      have n1_ := Aside0.mk (blk_below (g := gb105) (o := .cells #[.int .u8 a0_0, .int .u8 a0_1, .int .u8 a0_2, .int .u8 a0_3, .int .u8 a0_4] 23 (0, 0)) (by (with_reducible repeat (first | refine blk_drewN ?_ _ | refine blk_drew ?_ | refine blk_alloc ?_ _)); exact BK105.out) hb)
      have n2_ := Aside0.mk (below_step (by repeat (first | (with_reducible first | exact HB.out | apply below_alloc | apply pw_below_drewN | apply below_drew1 | refine below_set ?_ GE105.out) | exact HB.out)) hb)
      clear HO121
      clear BK105
      clear HB
      have HO121 := n0_
      have BK105 := n1_
      have HB := n2_
      clear n0_ n1_ n2_
      (try clear hb)
      (try clear hb2)
      (try clear hk)
      (try clear hi)
      refine hK.out _ _ ⟨(blk_cell BK105.out 0).trans rfl, (blk_cell BK105.out 1).trans rfl, (blk_cell BK105.out 2).trans rfl, (blk_cell BK105.out 3).trans rfl, (blk_cell BK105.out 4).trans rfl⟩ (fun hHeld => ?_)
      clear hK K
      refine norm_ (a' := ?_) ?_ ?_
      rotate_left
      · show Act.put _ (some 28) _ = _
        simp only [Act.put, List.setIfInBounds_toArray, List.set_cons_zero, List.set_cons_succ, i64_w, i32_w]
        rfl
      refine pure_ (i := 7) (N := some 6) (v := ?_) (a' := ?_) #[true, true, true, true, true, true, true, true] rfl rfl (any_of HT_.out (by kernel_rfl)) (fun _ _ _ h => h) (Or.inl ⟨by rfl, ?_⟩) ?_ ?_
      rotate_left
      · intro w'
        go_simp
        with_reducible rfl
      rotate_left
      · simp only [Act.put, List.setIfInBounds_toArray, List.set_cons_zero, List.set_cons_succ, i64_w, i32_w]
        rfl
      refine done_ (done_of HT_.out (by kernel_rfl)) ?_
      try go_wp2
      go_ret
      exact ⟨by first | rfl | (simp [errW_none, errW_some] <;> rfl) | (simp [*, errW_none, errW_some] <;> rfl), by repeat (first | (with_reducible first | exact HB.out | apply below_alloc | apply pw_below_drewN | apply below_drew1 | refine below_set ?_ GE105.out) | exact HB.out)⟩
    · rw [if_neg c24] at H
      exact absurd H (by simp)

end Go.Proofs.YtciagecaegoppaaDoor.QMake
end
section
namespace Go.Proofs.YtciagecaegoppaaDoor
set_option linter.unusedVariables false
set_option linter.unusedSimpArgs false
set_option maxRecDepth 100000
open Go.RowKit Go.Proofs.YtciagecaegoppaaDoorW.PrintWords Go.Proofs.YtciagecaegoppaaDoorW.PrintLast Go.Proofs.YtciagecaegoppaaDoorW.PrintMore

def wOk (fl s : ByteArray) : Prop := strings_Contains.f s fl = some false ∧ strings_Contains.f s ⟨#[13]⟩ = some false
def wBad (fl s : ByteArray) : Prop := strings_Contains.f s fl = some true ∨ (strings_Contains.f s fl = some false ∧ strings_Contains.f s ⟨#[13]⟩ = some true)
def wFull (v : Nat → ByteArray) : Nat → Nat
  | 0 => 2
  | k + 1 => if (v k).toList.isEmpty = true then wFull v k else k + 3
theorem wFull_le (v : Nat → ByteArray) (k : Nat) : 2 ≤ wFull v k ∧ wFull v k ≤ k + 2 := by
  induction k with
  | zero => exact ⟨Nat.le_refl _, Nat.le_refl _⟩
  | succ k ih => unfold wFull; split <;> omega
def wL (fl oth : ByteArray) (v : Nat → ByteArray) (k : Nat) : List ByteArray := [fl, oth] ++ (List.range k).map v
theorem wL_len (fl oth : ByteArray) (v : Nat → ByteArray) (k : Nat) : (wL fl oth v k).length = k + 2 := by simp [wL]
theorem wL_succ (fl oth : ByteArray) (v : Nat → ByteArray) (k : Nat) : wL fl oth v (k + 1) = wL fl oth v k ++ [v k] := by simp [wL, List.range_succ]

theorem callL_ {P : Program} {ops : Array Oper} {Q : Exit → Act → World → Prop} {rest : List Oper} {oi : Oper} {a : Act} {w : World} (N : Option Tmp) (hd : oi.dst = N) (hg : oi.guard = none) (f : FuncId) (args : Array Value) (hrun : (execOp a.eval oi).run P w = .ok (.enter f args) w)
    (h : Calls P f args w fun e w' => ∃ v, e = .returned v ∧ wpList P ops Q rest (a.put N v) w') : wpList P ops Q (oi :: rest) a w := by
  refine wpList_plain hg fun K hK => ?_
  unfold Oper.wp
  rw [hrun, Oper.upon_enter]
  refine h.mono fun e w'' hh => ?_
  obtain ⟨v, rfl, hk⟩ := hh
  subst hd
  exact hK _ _ hk

theorem head_text (d0 d1 d2 d3 d4 : Int) (s5 s6 s7 s8 s9 s10 s11 s12 s13 s14 : ByteArray) (k : Nat) (hk : k < 10) : (#[.int .u8 d0, .int .u8 d1, .int .u8 d2, .int .u8 d3, .int .u8 d4, .string s5, .string s6, .string s7, .string s8, .string s9, .string s10, .string s11, .string s12, .string s13, .string s14] : Array Value)[5 + k]? = some (.string (vOf s5 s6 s7 s8 s9 s10 s11 s12 s13 s14 k)) := by
  rcases k with _ | _ | _ | _ | _ | _ | _ | _ | _ | _ | k
  iterate 10 (next => rfl)
  omega

set_option maxHeartbeats 4000000 in
theorem write_head (d0 d1 d2 d3 d4 : Int) (s5 s6 s7 s8 s9 s10 s11 s12 s13 s14 : ByteArray) (w : World) (hrt : QRight.delim_Right.f 10 d0 d1 d2 d3 d4 = some false) :
    Calls Tryd.prog 8 #[.agg #[.int .u8 d0, .int .u8 d1, .int .u8 d2, .int .u8 d3, .int .u8 d4, .string s5, .string s6, .string s7, .string s8, .string s9, .string s10, .string s11, .string s12, .string s13, .string s14]] w fun e w' => e = .returned (.tuple #[.string ⟨#[]⟩, .int .i64 11]) ∧ Below w.heap.size w w' := by
  have HRT := Aside0.mk hrt
  clear hrt
  go_enter Tryd.func8, Tryd.ntmps8
  go_wp2_with (go_at_call 18; refine (QRight.delim_Right.calls 10 d0 d1 d2 d3 d4 false _ HRT.out).mono ?_; rintro e w2 ⟨rfl, hb2⟩; have HB2 := Aside0.mk (below_step (below_alloc (Below.refl _ _) _) hb2); clear hb2)
  go_ret2
  exact ⟨rfl, HB2.out⟩

set_option maxHeartbeats 8000000 in
theorem write_loop (d0 d1 d2 d3 d4 : Int) (s5 s6 s7 s8 s9 s10 s11 s12 s13 s14 : ByteArray) (w : World) (hG : GlobA w) (hrt : QRight.delim_Right.f 10 d0 d1 d2 d3 d4 = some true) (fl : ByteArray) (hfl : strOfNums [d0] = fl) (oth : ByteArray) (hoth : Qothers.msh_others.f d0 d1 d2 d3 d4 = some oth)
    (v : Nat → ByteArray) (hv : vOf s5 s6 s7 s8 s9 s10 s11 s12 s13 s14 = v) (n : Nat) (hn : n ≤ 10) (hok : ∀ k, k < n → wOk fl (v k)) (hbad : n < 10 → wBad fl (v n)) (rs : ByteArray) (re : Int)
    (hres : if n < 10 then rs = ⟨#[]⟩ ∧ re = 10 else QMake.segment_Make.f d0 d1 d2 d3 d4 ⟨#[77, 83, 72]⟩ ((wL fl oth v 10).take (wFull v 10)) = some rs ∧ re = 0) :
    Calls Tryd.prog 8 #[.agg #[.int .u8 d0, .int .u8 d1, .int .u8 d2, .int .u8 d3, .int .u8 d4, .string s5, .string s6, .string s7, .string s8, .string s9, .string s10, .string s11, .string s12, .string s13, .string s14]] w fun e w' => e = .returned (.tuple #[.string rs, .int .i64 re]) ∧ Below w.heap.size w w' := by
  have HG := Aside0.mk hG; have HRT := Aside0.mk hrt; have HFL := Aside0.mk hfl; have HOTH := Aside0.mk hoth; have HV := Aside0.mk hv; have HOK := Aside0.mk hok; have HBAD := Aside0.mk hbad; have HRES := Aside0.mk hres; have HN := Aside0.mk hn
  obtain ⟨i0, hi0, hz0, hz1, hz2⟩ := info_parts infoStr
  have HI0 := Aside0.mk hi0; have HZ0 := Aside0.mk hz0; have HZ1 := Aside0.mk hz1; have HZ2 := Aside0.mk hz2
  clear hG hrt hfl hoth hv hok hbad hres hn hi0 hz0 hz1 hz2
  go_enter Tryd.func8, Tryd.ntmps8
  go_wp2_with (first
    | (go_at_call 18; refine (QRight.delim_Right.calls 10 d0 d1 d2 d3 d4 true _ HRT.out).mono ?_; rintro e w2 ⟨rfl, hb2⟩; have HB2 := Aside0.mk (below_step (below_alloc (Below.refl _ _) _) hb2); have hblk2 := blk_below (blk_new w (.cells #[.int .u8 d0, .int .u8 d1, .int .u8 d2, .int .u8 d3, .int .u8 d4, .string s5, .string s6, .string s7, .string s8, .string s9, .string s10, .string s11, .string s12, .string s13, .string s14] 25)) hb2; have HBLK2 := Aside0.mk hblk2; have hlt2 : w.heap.size < w2.heap.size := blk_lt hblk2; have hcv := own_string (P := Tryd.prog) (base := 0) (n := 1) (e' := 5) (xs := [d0]) Tryd.underlying26 Tryd.underlying5 Tryd.underlying9 (World.ownsRow_lit (base := 0) (e := 5) (size := 1) w2 #[.int .u8 d0] 1 (Nat.zero_le _) (by decide) rfl); have y0 : w2.cell? ⟨w.heap.size, 0, none⟩ = some (.int .u8 d0) := blk_cell hblk2 0; have y1 : w2.cell? ⟨w.heap.size, 1, none⟩ = some (.int .u8 d1) := blk_cell hblk2 1; have y2 : w2.cell? ⟨w.heap.size, 2, none⟩ = some (.int .u8 d2) := blk_cell hblk2 2; have y3 : w2.cell? ⟨w.heap.size, 3, none⟩ = some (.int .u8 d3) := blk_cell hblk2 3; have y4 : w2.cell? ⟨w.heap.size, 4, none⟩ = some (.int .u8 d4) := blk_cell hblk2 4; rw [HFL.out] at hcv; clear hb2 hblk2)
    | (go_at_call 19; refine (Qothers.msh_others.calls d0 d1 d2 d3 d4 oth _ HOTH.out).mono ?_; rintro e w3 ⟨rfl, hb3⟩; have HB3 := Aside0.mk (below_step (below_alloc HB2.out _) hb3); have HBLK3 := Aside0.mk (blk_below (blk_alloc HBLK2.out _) hb3); clear y0 y1 y2 y3 y4; clear hb3 hcv hlt2)
    | (go_at_call 20; refine (texts_calls _).mono ?_; rintro e w4 ⟨rfl, hb4⟩; have HB4 := Aside0.mk (below_step (below_alloc HB3.out _) hb4); have HBLK4 := Aside0.mk (blk_below (blk_alloc HBLK3.out _) hb4); have HROW := Aside0.mk (Kd.R_below (Kd.R_of_own (enc := Value.string) (h1 := fun _ => rfl) (ok := fun _ => True) (xs := [fl, oth]) (World.ownsRow_lit (base := w.heap.size) (e := 9) (size := 1) w3 #[.string fl, .string oth] 2 HB3.out.size (by decide) rfl) (fun _ _ => trivial)) hb4); clear hb4))
  clear HB3 HBLK3 HB2 HBLK2
  go_loopw [5, 6, 27] (fun v5 i6 i W => ∃ (k : Nat) (vr : Value), k ≤ n ∧ i = .int .i64 (k : Nat) ∧ i6 = .int .i64 (wFull v k : Nat) ∧ v5 = vr ∧ Aside0 (Kd.R Kd.string 9 W w.heap.size (fun _ => True) vr (wL fl oth v k)) ∧ Aside0 (W.heap[w.heap.size]? = some (.cells #[.int .u8 d0, .int .u8 d1, .int .u8 d2, .int .u8 d3, .int .u8 d4, .string s5, .string s6, .string s7, .string s8, .string s9, .string s10, .string s11, .string s12, .string s13, .string s14] 25 (0, 0))) ∧ Aside0 (Below w.heap.size w W)) (fun _ _ i _ => 10 - (intOf i).toNat)
  case atStart => exact ⟨0, _, Nat.zero_le _, rfl, rfl, rfl, HROW, HBLK4, HB4⟩
  case round =>
    clear HROW HBLK4 HB4
    obtain ⟨k, vr, hkn, rfl, rfl, rfl, HR, HBK, HBr⟩ := hrel
    by_cases hk : k < 10
    · have hidx : ∀ W : World, (Instr.index 55 textsV (.int .i64 (k : Nat))).run Tryd.prog W = .ok (.agg #[.func (.func (textFn k)) #[] #[]]) W := texts_index k hk
      have hlt10 : decide ((k : Int) < 10) = true := decide_eq_true (by omega)
      have hlt10' : decide (k < 10) = true := decide_eq_true hk
      have hwk : wrap64 ((k : Int) + 1) = (k : Int) + 1 := by unfold wrap64; omega
      have hlt : w.heap.size < wr.heap.size := blk_lt HBK.out
      have u : wr.cell? ⟨w.heap.size, 5 + k, none⟩ = some (.string (v k)) := by rw [blk_cell HBK.out, ← HV.out]; exact head_text d0 d1 d2 d3 d4 s5 s6 s7 s8 s9 s10 s11 s12 s13 s14 k hk
      have HK := Aside0.mk hk; have HKN := Aside0.mk hkn
      generalize hx : v k = x at u
      have HX := Aside0.mk hx
      clear hx hkn
      go_upto_region 10 with ((with_reducible refine gate_dst (N := 32) rfl ?_); refine callL_ (some 32) rfl rfl (textFn k) #[.pointer (some ⟨w.heap.size, 0, none⟩)] ?hrun ?_; (case hrun => unfold execOp; simp [resolve, Deferred.ofValue, invoke, Act.eval, texts_enters k HK.out]); refine (text_calls k HK.out w.heap.size _).mono ?_; rintro e w5 ⟨rfl, hw5⟩; have hw5' := hw5.symm; subst hw5'; clear hw5; refine ⟨_, rfl, ?_⟩)
      have HGW : Aside0 (∀ W', Below (wr.alloc (.cells #[.func (.func (textFn k)) #[] #[]] 54)).heap.size (wr.alloc (.cells #[.func (.func (textFn k)) #[] #[]] 54)) W' → GlobA W') := ⟨fun W' hW => HG.out.below (below_step (below_alloc HBr.out _) hW)⟩
      have HBW : Aside0 (∀ W', Below (wr.alloc (.cells #[.func (.func (textFn k)) #[] #[]] 54)).heap.size (wr.alloc (.cells #[.func (.func (textFn k)) #[] #[]] 54)) W' → Below w.heap.size w W') := ⟨fun W' hW => below_step (below_alloc HBr.out _) hW⟩
      rcases Nat.lt_or_ge k n with hlt' | hge
      · obtain ⟨hc1, hc2⟩ := HOK.out k hlt'
        rw [HX.out] at hc1 hc2
        have HC1 := Aside0.mk hc1; have HC2 := Aside0.mk hc2; have HLT := Aside0.mk hlt'
        clear hc1 hc2 hlt'
        go_upto_region 12 with (first
          | (go_at_call 21; refine (strings_Contains.calls x fl false _ ?hg1 HC1.out).mono ?_; (case hg1 => exact HGW.out _ (by first | exact Below.refl _ _ | exact pw_below_drewN (Below.refl _ _) _)); rintro e w5 ⟨rfl, ⟨⟨q1, rfl⟩⟩⟩)
          | (go_at_call 21; refine (strings_Contains.calls x ⟨#[13]⟩ false _ ?hg2 HC2.out).mono ?_; (case hg2 => exact HGW.out _ (by first | exact Below.refl _ _ | exact pw_below_drewN (Below.refl _ _) _)); rintro e w5 ⟨rfl, ⟨⟨q2, rfl⟩⟩⟩))
        obtain ⟨W, hW⟩ : ∃ W, W = (wr.alloc (.cells #[.func (.func (textFn k)) #[] #[]] 54)).drewN (q1 + q2) := ⟨_, rfl⟩
        rw [← hW]
        have hR : Kd.R Kd.string 9 W w.heap.size (fun _ => True) u5 (wL fl oth v k) := by rw [hW]; exact Kd.R_drewN (Kd.R_alloc HR.out _) _
        have hBK : W.heap[w.heap.size]? = some (.cells #[.int .u8 d0, .int .u8 d1, .int .u8 d2, .int .u8 d3, .int .u8 d4, .string s5, .string s6, .string s7, .string s8, .string s9, .string s10, .string s11, .string s12, .string s13, .string s14] 25 (0, 0)) := by rw [hW]; exact blk_drewN (blk_alloc HBK.out _) _
        have hB : Below w.heap.size w W := by rw [hW]; exact pw_below_drewN (below_alloc HBr.out _) _
        have hown := Kd.own_of_R hR
        rw [wL_len] at hown
        have HOWN := Aside0.mk hown; have HRW := Aside0.mk hR; have HBKW := Aside0.mk hBK; have HBWW := Aside0.mk hB
        have hmx : k + 2 + 1 ≤ maxLen := by have : maxLen = 9223372036854775807 := rfl; omega
        have HMX := Aside0.mk hmx
        clear hW hR hBK hB hown hmx u hlt HGW HBW
        cases hemp : x.toList.isEmpty
        all_goals
          go_wp2_with (at_builtin; refine wpList_append_own _ rfl _ _ 41 rfl w.heap.size 9 i0 (.string ByteArray.empty) 1 16 Tryd.underlying41 HI0.out HZ0.out HZ1.out HZ2.out rfl (by decide) _ (k + 2) _ rfl (HOWN.out.alloc _) ⟨W.heap.size, 0, none⟩ 1 1 [.string x] rfl rfl (cell_one_new _ _ _) (by simp [Value.oneCell']) HMX.out (by have := HK.out; omega) (below_size (below_alloc HBWW.out _)) ?_; intro v' w1 hown' hgrow hnil; have HO' := Aside0.mk hown'; have HGR := Aside0.mk hgrow; obtain ⟨g', cap', eg⟩ := ownsRow_succ hown'; subst eg; clear hown' hgrow hnil)
          have hne := Kd.R_ne HRW.out HBKW.out (by decide)
          have hbk' := blk_grown (blk_alloc HBKW.out _) HGR.out hne
          have hb' : Below w.heap.size w w1 := below_grown (below_alloc HBWW.out _) HGR.out (below_size (below_alloc HBWW.out _)) (fun r e => own_base HOWN.out r e)
          have hr' : Kd.R Kd.string 9 w1 w.heap.size (fun _ => True) (.slice (some ⟨g', 0, none⟩) (k + 2 + 1) cap') (wL fl oth v (k + 1)) := Kd.R_of_own (by rw [wL_len, wL_succ, HX.out, encs_append]; exact HO'.out) (fun _ _ => trivial)
          have HR' := Aside0.mk hr'; have HBK' := Aside0.mk hbk'; have HB' := Aside0.mk hb'
          clear hne hbk' hb' hr'
          go_roundw
          case rel => exact ⟨k + 1, _, HLT.out, by go_num, by rw [show wFull v (k + 1) = if (v k).toList.isEmpty = true then wFull v k else k + 3 from rfl, HX.out, hemp]; rfl, rfl, HR', HBK', HB'⟩
          case measure => have := HK.out; simp [intOf]; omega
      · have hkn : k = n := by have := HKN.out; omega
        have hbd := HBAD.out (by omega)
        rw [← hkn, HX.out] at hbd
        have hre := HRES.out
        rw [if_pos (by omega)] at hre
        have HRE := Aside0.mk hre
        clear hre hkn hge
        rcases hbd with hc1 | ⟨hc1, hc2⟩
        · have HC1 := Aside0.mk hc1
          clear hc1
          go_wp2_with (first
          | (go_at_call 21; refine (strings_Contains.calls x fl true _ ?hg1 HC1.out).mono ?_; (case hg1 => exact HGW.out _ (by first | exact Below.refl _ _ | exact pw_below_drewN (Below.refl _ _) _)); rintro e w5 ⟨rfl, ⟨⟨q1, rfl⟩⟩⟩))
          go_ret2
          exact ⟨by rw [HRE.out.1, HRE.out.2]; rfl, HBW.out _ (pw_below_drewN (Below.refl _ _) _)⟩
        · have HC1 := Aside0.mk hc1; have HC2 := Aside0.mk hc2
          clear hc1 hc2
          go_wp2_with (first
          | (go_at_call 21; refine (strings_Contains.calls x fl false _ ?hg1 HC1.out).mono ?_; (case hg1 => exact HGW.out _ (by first | exact Below.refl _ _ | exact pw_below_drewN (Below.refl _ _) _)); rintro e w5 ⟨rfl, ⟨⟨q1, rfl⟩⟩⟩)
          | (go_at_call 21; refine (strings_Contains.calls x ⟨#[13]⟩ true _ ?hg2 HC2.out).mono ?_; (case hg2 => exact HGW.out _ (by first | exact Below.refl _ _ | exact pw_below_drewN (Below.refl _ _) _)); rintro e w5 ⟨rfl, ⟨⟨q2, rfl⟩⟩⟩))
          go_ret2
          exact ⟨by rw [HRE.out.1, HRE.out.2]; rfl, HBW.out _ (by first | exact pw_below_drewN (pw_below_drewN (Below.refl _ _) _) _ | exact pw_below_drewN (Below.refl _ _) _)⟩
    · obtain rfl : k = 10 := by have := HN.out; omega
      have hn10 : n = 10 := by have := HN.out; omega
      have hre := HRES.out
      rw [if_neg (by omega)] at hre
      obtain ⟨hmk, rfl⟩ := hre
      have HMK := Aside0.mk hmk
      have hlt : w.heap.size < wr.heap.size := blk_lt HBK.out
      obtain ⟨A, c, hv5⟩ := Kd.R_slice HR.out
      subst hv5
      obtain ⟨_, hlc, hC⟩ := Kd.R_reads' HR.out
      have hfl2 := wFull_le v 10
      obtain ⟨hcut, hA, hC2⟩ := print_take_of (P := Tryd.prog) Value.string (⟨#[]⟩ : ByteArray) 41 9 .i64 Tryd.underlying41 HI0.out HZ1.out A c (wL fl oth v 10) (wFull v 10 : Nat) (by omega) (by rw [wL_len]; omega) hlc
      have hCt := Kd.C_take hC (m := wFull v 10) (by rw [wL_len]; omega)
      rw [Int.toNat_natCast] at hcut hC2
      obtain ⟨F, hF⟩ : ∃ F, F = wFull v 10 := ⟨_, rfl⟩
      obtain ⟨L, hL⟩ : ∃ L, L = wL fl oth v 10 := ⟨_, rfl⟩
      rw [← hF, ← hL] at hCt hcut hC2
      have hmk' := HMK.out
      rw [← hF, ← hL] at hmk'
      obtain ⟨M, hM⟩ : ∃ M, M = L.take F := ⟨_, rfl⟩
      rw [← hM] at hCt hcut hC2 hmk'
      have HMK' := Aside0.mk hmk'; have HCT := Aside0.mk hCt; have HC2 := Aside0.mk hC2
      rw [← hF, ← hL]
      have y0 : wr.cell? ⟨w.heap.size, 0, none⟩ = some (.int .u8 d0) := blk_cell HBK.out 0; have y1 : wr.cell? ⟨w.heap.size, 1, none⟩ = some (.int .u8 d1) := blk_cell HBK.out 1; have y2 : wr.cell? ⟨w.heap.size, 2, none⟩ = some (.int .u8 d2) := blk_cell HBK.out 2; have y3 : wr.cell? ⟨w.heap.size, 3, none⟩ = some (.int .u8 d3) := blk_cell HBK.out 3; have y4 : wr.cell? ⟨w.heap.size, 4, none⟩ = some (.int .u8 d4) := blk_cell HBK.out 4
      clear hmk hmk' hlc hC hA hC2 hCt hfl2 hkn hn10 hk HRES HOK HBAD HMK hF hL hM
      go_wp2_with fail
      go_region_held3 (fun w' => w'.cell? ⟨w.heap.size, 0, none⟩ = some (.int .u8 d0) ∧ w'.cell? ⟨w.heap.size, 1, none⟩ = some (.int .u8 d1) ∧ w'.cell? ⟨w.heap.size, 2, none⟩ = some (.int .u8 d2) ∧ w'.cell? ⟨w.heap.size, 3, none⟩ = some (.int .u8 d3) ∧ w'.cell? ⟨w.heap.size, 4, none⟩ = some (.int .u8 d4))
        (first | go_keep | (go_split_ands; refine ⟨?_, ?_, ?_, ?_, ?_⟩ <;> (refine pw_cell_below HB9.out ?_; assumption)))
        ((go_at_call 22; refine (QMake.segment_Make.calls d0 d1 d2 d3 d4 ⟨#[77, 83, 72]⟩ A c M rs _ ?hr ?hc HMK'.out).mono ?_; (case hr => exact Kd.C_drew HCT.out); (case hc => exact HC2.out); rintro e w9 ⟨rfl, hb9⟩; have HB9 := Aside0.mk hb9; clear hb9))
      go_wp2
      go_ret2
      exact ⟨rfl, below_step (below_drew1 HBr.out) HB9.out⟩
end Go.Proofs.YtciagecaegoppaaDoor
end
section
namespace Go.Proofs.YtciagecaegoppaaDoor
set_option linter.unusedVariables false
set_option maxRecDepth 100000
open Go.RowKit Go.Proofs.YtciagecaegoppaaDoorW.PrintWords Go.Proofs.YtciagecaegoppaaDoorW.PrintLast Go.Proofs.YtciagecaegoppaaDoorW.PrintMore

def wScan (fl : ByteArray) (v : Nat → ByteArray) : Nat → Nat → Option Nat
  | 0, k => some k
  | m + 1, k => (strings_Contains.f (v k) fl).bind fun b1 => if b1 = true then some k else (strings_Contains.f (v k) ⟨#[13]⟩).bind fun b2 => if b2 = true then some k else wScan fl v m (k + 1)
theorem wScan_spec (fl : ByteArray) (v : Nat → ByteArray) : ∀ m k n, wScan fl v m k = some n → k + m = 10 → k ≤ n ∧ n ≤ 10 ∧ (∀ j, k ≤ j → j < n → wOk fl (v j)) ∧ (n < 10 → wBad fl (v n))
  | 0, k, n, h, hk => by
    obtain rfl := Option.some.inj h
    exact ⟨Nat.le_refl _, by omega, fun j h1 h2 => by omega, fun h => by omega⟩
  | m + 1, k, n, h, hk => by
    unfold wScan at h
    obtain ⟨b1, h1, h⟩ := Option.bind_eq_some_iff.1 h
    by_cases c1 : b1 = true
    · rw [if_pos c1] at h
      obtain rfl := Option.some.inj h
      subst c1
      exact ⟨Nat.le_refl _, by omega, fun j a b => by omega, fun _ => .inl h1⟩
    · rw [if_neg c1] at h
      obtain rfl : b1 = false := by simpa using c1
      obtain ⟨b2, h2, h⟩ := Option.bind_eq_some_iff.1 h
      by_cases c2 : b2 = true
      · rw [if_pos c2] at h
        obtain rfl := Option.some.inj h
        subst c2
        exact ⟨Nat.le_refl _, by omega, fun j a b => by omega, fun _ => .inr ⟨h1, h2⟩⟩
      · rw [if_neg c2] at h
        obtain rfl : b2 = false := by simpa using c2
        obtain ⟨a1, a2, a3, a4⟩ := wScan_spec fl v m (k + 1) n h (by omega)
        refine ⟨by omega, a2, fun j b1 b2 => ?_, a4⟩
        rcases Nat.eq_or_lt_of_le b1 with rfl | hj
        · exact ⟨h1, h2⟩
        · exact a3 j hj b2
def msh_Write.f (d0 d1 d2 d3 d4 : Int) (s5 s6 s7 s8 s9 s10 s11 s12 s13 s14 : ByteArray) : Option (ByteArray × Int) :=
  (QRight.delim_Right.f 10 d0 d1 d2 d3 d4).bind fun rt =>
    if rt = false then some (⟨#[]⟩, 11)
    else (wScan (strOfNums [d0]) (vOf s5 s6 s7 s8 s9 s10 s11 s12 s13 s14) 10 0).bind fun n =>
      if n < 10 then some (⟨#[]⟩, 10)
      else (QMake.segment_Make.f d0 d1 d2 d3 d4 ⟨#[77, 83, 72]⟩ ((wL (strOfNums [d0]) (strOfNums [d1, d2, d3, d4]) (vOf s5 s6 s7 s8 s9 s10 s11 s12 s13 s14) 10).take (wFull (vOf s5 s6 s7 s8 s9 s10 s11 s12 s13 s14) 10))).map fun s => (s, 0)

theorem msh_Write.calls (d0 d1 d2 d3 d4 : Int) (s5 s6 s7 s8 s9 s10 s11 s12 s13 s14 : ByteArray) (r1 : ByteArray) (r2 : Int) (w : World) (hG : GlobA w) (h : msh_Write.f d0 d1 d2 d3 d4 s5 s6 s7 s8 s9 s10 s11 s12 s13 s14 = some (r1, r2)) :
    Calls Tryd.prog 8 #[.agg #[.int .u8 d0, .int .u8 d1, .int .u8 d2, .int .u8 d3, .int .u8 d4, .string s5, .string s6, .string s7, .string s8, .string s9, .string s10, .string s11, .string s12, .string s13, .string s14]] w fun e w' => e = .returned (.tuple #[.string r1, .int .i64 r2]) ∧ Below w.heap.size w w' := by
  unfold msh_Write.f at h
  obtain ⟨rt, hrt, h⟩ := Option.bind_eq_some_iff.1 h
  by_cases hr : rt = false
  · rw [if_pos hr] at h
    simp only [Option.some.injEq, Prod.mk.injEq] at h
    obtain ⟨rfl, rfl⟩ := h
    subst hr
    exact write_head d0 d1 d2 d3 d4 s5 s6 s7 s8 s9 s10 s11 s12 s13 s14 w hrt
  · rw [if_neg hr] at h
    obtain rfl : rt = true := by simpa using hr
    obtain ⟨n, hn, h⟩ := Option.bind_eq_some_iff.1 h
    obtain ⟨_, hn10, hok, hbad⟩ := wScan_spec _ _ 10 0 n hn rfl
    refine write_loop d0 d1 d2 d3 d4 s5 s6 s7 s8 s9 s10 s11 s12 s13 s14 w hG hrt _ rfl _ rfl _ rfl n hn10 (fun k hk => hok k (Nat.zero_le _) hk) hbad r1 r2 ?_
    by_cases h10 : n < 10
    · rw [if_pos h10] at h ⊢
      simp only [Option.some.injEq, Prod.mk.injEq] at h
      obtain ⟨rfl, rfl⟩ := h
      exact ⟨rfl, rfl⟩
    · rw [if_neg h10] at h ⊢
      obtain ⟨s, hs, he⟩ := Option.map_eq_some_iff.1 h
      simp only [Prod.mk.injEq] at he
      obtain ⟨rfl, rfl⟩ := he
      exact ⟨hs, rfl⟩
end Go.Proofs.YtciagecaegoppaaDoor
end
section
namespace Go.Proofs.YtciagecaegoppaaDoor
set_option linter.unusedVariables false
set_option maxRecDepth 100000
open Go.RowKit Go.Proofs.YtciagecaegoppaaDoorW.PrintWords Go.Proofs.YtciagecaegoppaaDoorW.PrintLast

def ack_Known.f (a0 : ByteArray) : Option Bool := some (Lib.containsS codesL a0)
set_option maxHeartbeats 1000000 in
theorem ack_Known.calls (a0 : ByteArray) (r : Bool) (w : World) (hG : GlobA w) (h : ack_Known.f a0 = some r) :
    Calls Tryd.prog 38 #[.string a0] w fun e w' => e = .returned (.bool r) ∧ Below w.heap.size w w' := by
  obtain rfl := Option.some.inj h
  have HG := Aside0.mk hG
  have HB := Aside0.mk (Below.refl w.heap.size w)
  have hC : Calls Tryd.prog 27 #[.slice (some ⟨2, 0, none⟩) 3 3, .string a0] w fun e w' => e = .returned (.bool (Lib.containsS codesL a0)) ∧ w' = w :=
    Tryd.slices_Contains_string 2 0 3 3 codesL a0 w (Nat.le_refl _) (by omega) (fun j hj => by rw [Nat.zero_add]; exact hG.codes j hj)
  clear hG h
  go_enter Tryd.func38, Tryd.ntmps38
  go_wp2_with (go_at_call 27; refine hC.mono ?_; rintro e w' ⟨rfl, rfl⟩)
  go_ret
  exact ⟨rfl, HB.out⟩
end Go.Proofs.YtciagecaegoppaaDoor
end
section
namespace Go.Proofs.YtciagecaegoppaaDoor.QJoin
open Go.RowKit Go.Proofs.YtciagecaegoppaaDoorW.PrintWords Go.Proofs.YtciagecaegoppaaDoorW.PrintLast Go.Proofs.YtciagecaegoppaaDoorW.PrintMore
attribute [local go_sem] max2_int min2_int max_two min_two max_three min_three max_four min_four   -- for this text's walks alone
set_option linter.unusedVariables false
set_option linter.unusedSimpArgs false

def errW : Option Int → Value
  | none => .nilIface
  | some c => .iface 0 (.int .i64 c)
theorem errW_none : errW none = .nilIface := rfl
theorem errW_some (c : Int) : errW (some c) = .iface 0 (.int .i64 c) := rfl

theorem info5 : (Tryd.prog.info? 5).map (fun i => (i.zero, i.size, i.bytes)) = some (some (.int .u8 0), 1, 1) := by kernel_rfl
-- the values' own types

end Go.Proofs.YtciagecaegoppaaDoor.QJoin
end
section
namespace Go.Proofs.YtciagecaegoppaaDoor.QJoin
open Go.RowKit Go.Proofs.YtciagecaegoppaaDoorW.PrintWords Go.Proofs.YtciagecaegoppaaDoorW.PrintLast Go.Proofs.YtciagecaegoppaaDoorW.PrintMore
attribute [local go_sem] max2_int min2_int max_two min_two max_three min_three max_four min_four   -- for this text's walks alone
set_option linter.unusedVariables false
set_option linter.unusedSimpArgs false

def segment_Join.l0 : Nat → List Int → List ByteArray → Int → Int → Option (List Int)
  | 0, _, _, _, _ => none
  | k + 1, x3, x6, x7, x8 => if x8 < x7 then (if 0 ≤ x8 then (if x8 < (x6.length : Int) then (if x3.length + (rdOf ByteArray.empty x6 x8).size < 140737488355328 then ((some (x3 ++ bytesOf (rdOf ByteArray.empty x6 x8) : List Int)).bind fun y102 => (if y102.length < 140737488355328 then (segment_Join.l0 k (y102 ++ [13]) x6 x7 (wrap64 (x8 + 1))) else (none))) else (none)) else (none)) else (none)) else (some x3)
def segment_Join.f (k : Nat) (l0 : List ByteArray) : Option (List Int) := segment_Join.l0 k ([] : List Int) l0 (l0.length : Int) 0
theorem segment_Join.mono_l : ∀ k, (∀ y0 y1 y2 y3, LeO (segment_Join.l0 k y0 y1 y2 y3) (segment_Join.l0 (k + 1) y0 y1 y2 y3))
  | 0 => fun _ _ _ _ r h => by simp [segment_Join.l0] at h
  | k + 1 => by
    have ih0 := segment_Join.mono_l k
    · intro y0 y1 y2 y3
      unfold segment_Join.l0
      repeat' first
      | (with_reducible exact ih0 _ _ _ _)
      | (with_reducible exact LeO.refl _)
      | (with_reducible exact LeO.none _)
      | (with_reducible refine LeO.ite ?_ ?_)
      | (with_reducible refine LeO.bind ?_ (fun _ => ?_))
      | exact ih0 _ _ _ _
      | exact LeO.none _
      | refine LeO.ite ?_ ?_
      | refine LeO.bind ?_ (fun _ => ?_)
theorem segment_Join.mono : ∀ a0 k, LeO (segment_Join.f k a0) (segment_Join.f (k + 1) a0) := by
  intro a0 k
  have ih0 := segment_Join.mono_l k
  unfold segment_Join.f
  repeat' first
      | (with_reducible exact ih0 _ _ _ _)
      | (with_reducible exact LeO.refl _)
      | (with_reducible exact LeO.none _)
      | (with_reducible refine LeO.ite ?_ ?_)
      | (with_reducible refine LeO.bind ?_ (fun _ => ?_))
      | exact ih0 _ _ _ _
      | exact LeO.none _
      | refine LeO.ite ?_ ?_
      | refine LeO.bind ?_ (fun _ => ?_)
set_option maxHeartbeats 8000000 in
set_option maxRecDepth 100000 in
theorem segment_Join.calls (k : Nat) (A0 : Option Addr) (c0 : Nat) (l0 : List ByteArray) (r : List Int) (w : World) (hr0 : Kd.C Kd.string w A0 l0.length l0) (hc0 : l0.length ≤ c0) (h : segment_Join.f k l0 = some r) :
    Calls Tryd.prog 61 #[.slice A0 l0.length c0] w fun e w' => ∃ v0_ : Value, e = .returned (v0_) ∧ Kd.R (Kd.int .u8) 5 w' w.heap.size (fun _ => True) v0_ r ∧ Below w.heap.size w w' := by
  have HR0 := Aside0.mk hr0
  have HC0 := Aside0.mk hc0
  clear hr0 hc0
  have HB := Aside0.mk (Below.refl w.heap.size w)
  have H : (segment_Join.l0 k ([] : List Int) l0 (l0.length : Int) 0) = some r := h
  clear h
  have H' := Aside0.mk H
  clear H
  go_enter Tryd.func61, Tryd.ntmps61
  go_wp2
  go_loopg [3, 8] k (fun kq v3 v8 w' => ∃ (x3_1 : List Int) (x8_1 : Int), v8 = .int .i64 x8_1 ∧ Aside0 (segment_Join.l0 kq x3_1 l0 (l0.length : Int) x8_1 = some r) ∧ Aside0 (kq ≤ k) ∧ Aside0 (Kd.R (Kd.int .u8) 5 w' w.heap.size (fun _ => True) v3 x3_1) ∧ Aside0 (Below w.heap.size w w'))
  case atStart => exact ⟨(([] : List Int)), (0), (by first | rfl | (simp; done) | (simp [*]; done)), H', ⟨Nat.le_refl _⟩, ⟨by first | exact Kd.R_nil _ _ _ _ _ | exact Kd.N_nil _ _ _ _ _ | exact Kd.V_nil _ _ _ _ _ | exact Kd.Q_nil _ _ _ _ _ | exact Kd.S_nil _ _ _ _ _⟩, ⟨by repeat (first | (with_reducible first | exact HB.out | apply below_alloc | apply pw_below_drewN | apply below_drew1) | exact HB.out)⟩⟩
  case round =>
    clear H'
    obtain ⟨x3_1, x8_1, rfl, HA, HK1, HO_3, HB⟩ := hrel
    cases gk with
    | zero => exact absurd HA.out (by simp [segment_Join.l0])
    | succ k1 =>
      have H := HA.out
      clear HA
      simp only [segment_Join.l0] at H
      by_cases c2 : x8_1 < (l0.length : Int)
      · rw [if_pos c2] at H
        have c2b0 : decide (x8_1 < (l0.length : Int)) = true := decide_eq_true c2
        clear c2
        by_cases c3 : 0 ≤ x8_1
        · rw [if_pos c3] at H
          have c3b0 : decide (0 ≤ x8_1) = true := decide_eq_true c3
          clear c3
          by_cases c4 : x8_1 < (l0.length : Int)
          · rw [if_pos c4] at H
            have c4b0 : decide (x8_1 < (l0.length : Int)) = true := decide_eq_true c4
            clear c4
            by_cases c5 : x3_1.length + (rdOf ByteArray.empty l0 x8_1).size < 140737488355328
            · rw [if_pos c5] at H
              have LMc5 := Aside0.mk c5
              clear c5
              obtain ⟨y102, hy102⟩ : ∃ y_ : List Int, y_ = (x3_1 ++ bytesOf (rdOf ByteArray.empty l0 x8_1)) := ⟨_, rfl⟩
              replace H : (if y102.length < 140737488355328 then (segment_Join.l0 k1 (y102 ++ [13]) l0 (l0.length : Int) (wrap64 (x8_1 + 1))) else (none)) = some r := by first | (rw [hy102]; with_reducible exact H) | (have H2_ := (Option.bind_some _ _).symm.trans H; rw [hy102]; with_reducible exact H2_) | (have H2_ := (Option.bind_some _ _).symm.trans H; with_reducible exact H2_) | with_reducible exact H | (rw [hy102]; exact H) | exact H
              have Ny102 := Aside0.mk hy102
              clear hy102
              by_cases c6 : y102.length < 140737488355328
              · rw [if_pos c6] at H
                have LMc6 := Aside0.mk c6
                clear c6
                obtain ⟨y105, hy105⟩ : ∃ y_ : List Int, y_ = (y102 ++ [13]) := ⟨_, rfl⟩
                replace H : (segment_Join.l0 k1 y105 l0 (l0.length : Int) (wrap64 (x8_1 + 1))) = some r := by first | (rw [hy105]; with_reducible exact H) | (have H2_ := (Option.bind_some _ _).symm.trans H; rw [hy105]; with_reducible exact H2_) | (have H2_ := (Option.bind_some _ _).symm.trans H; with_reducible exact H2_) | with_reducible exact H | (rw [hy105]; exact H) | exact H
                have Ny105 := Aside0.mk hy105
                clear hy105
                have H' := Aside0.mk H
                clear H
                have p101 : 0 ≤ (x8_1 : Int) := of_decide_eq_true (by first | (with_reducible assumption) | assumption)
                have q101 : x8_1 < (l0.length : Int) := of_decide_eq_true (by first | (with_reducible assumption) | assumption)
                obtain ⟨ad101, e101, hx101_0⟩ := Kd.at_string HR0.out x8_1 p101 q101
                cases e101
                replace hx101_0 := (HB.out.cell (World.block_lt_of_cell? w _ hx101_0)).trans hx101_0
                replace p101 := eq_true p101
                replace q101 := eq_true q101
                go_wp2_with (first | (at_builtin; refine print_append_str (w0 := w) w.heap.size rfl (.tmp 12) _ 26 9 5 rfl Tryd.underlying26 Tryd.underlying9 info5 u3 x3_1 (rdOf ByteArray.empty l0 x8_1) rfl rfl ?aO ?aB ?aS ?aL ?_; (case aB => exact (by repeat (first | (with_reducible first | exact HB.out | apply below_alloc | apply pw_below_drewN | apply below_drew1) | exact HB.out))); (case aO => exact (Kd.own_of_R (by (with_reducible repeat (first | apply Kd.R_alloc | apply Kd.R_drewN | apply Kd.R_drew)); exact HO_3.out))); (case aS => exact (below_size (by repeat (first | (with_reducible first | exact HB.out | apply below_alloc | apply pw_below_drewN | apply below_drew1) | exact HB.out)))); (case aL => have := LMc5.out; omega); intro v103 w7 ho0 hb hg; have ho := Kd.R_of_own (h1 := fun _ => rfl) (ok := fun _ => True) ho0 (fun _ _ => trivial); clear ho0; have hat := True.intro; rw [← Ny102.out] at ho; change Kd.R (Kd.int .u8) 5 w7 w.heap.size (fun _ => True) v103 y102 at ho; have n0_ := Aside0.mk (hb); have n1_ := Aside0.mk (ho); clear HB; clear HO_3; have HB := n0_; have HO104 := n1_; clear n0_ n1_; clear ho hb hg hat) | ((with_reducible refine gate_builtin (b := .append) (xs := #[.tmp 15, .tmp 16]) rfl ?_); at_builtin; refine Kd.R_append (Kd.int .u8) (w0 := w) w.heap.size rfl (.tmp 15) (.tmp 16) 26 5 (.int .u8 0) 1 rfl Tryd.underlying26 info5 rfl (by decide) (by omega) v103 y102 13 [.int .u8 13] (fun _ => True) (fun _ => False) rfl rfl ?aP (fun _ hk => hk.elim) ?aF ?aO ?aB ?aS ?aL ?_; (case aP => exact rfl); (case aB => exact (by repeat (first | (with_reducible first | exact HB.out | apply below_alloc | apply pw_below_drewN | apply below_drew1) | exact HB.out))); (case aF => exact (fun _ _ => trivial)); (case aO => exact (by (with_reducible repeat (first | apply Kd.R_alloc | apply Kd.R_drewN | apply Kd.R_drew)); exact HO104.out)); (case aS => exact (below_size (by repeat (first | (with_reducible first | exact HB.out | apply below_alloc | apply pw_below_drewN | apply below_drew1) | exact HB.out)))); (case aL => have := LMc6.out; omega); intro v106 w8 ho hb hg hat; rw [← Ny105.out] at ho; have n0_ := Aside0.mk (hb); have n1_ := Aside0.mk (ho); clear HB; clear HO104; have HB := n0_; have HO107 := n1_; clear n0_ n1_; clear ho hb hg hat))
                go_roundg k1
                case measure => have := HK1.out; omega
                case rel => exact ⟨(y105), (wrap64 (x8_1 + 1)), (by first | rfl | (simp; done) | (simp [*]; done)), H', ⟨by have := HK1.out; omega⟩, ⟨by (with_reducible repeat (first | apply Kd.R_alloc | apply Kd.R_drewN | apply Kd.R_drew)); exact HO107.out⟩, ⟨by repeat (first | (with_reducible first | exact HB.out | apply below_alloc | apply pw_below_drewN | apply below_drew1) | exact HB.out)⟩⟩
              · rw [if_neg c6] at H
                exact absurd H (by simp)
            · rw [if_neg c5] at H
              exact absurd H (by simp)
          · rw [if_neg c4] at H
            exact absurd H (by simp)
        · rw [if_neg c3] at H
          exact absurd H (by simp)
      · rw [if_neg c2] at H
        have c2b0 : decide (x8_1 < (l0.length : Int)) = false := decide_eq_false c2
        clear c2
        obtain rfl := Option.some.inj H
        go_wp2
        go_ret
        exact ⟨_, by first | rfl | (simp [errW_none, errW_some] <;> rfl) | (simp [*, errW_none, errW_some] <;> rfl), by (with_reducible repeat (first | apply Kd.R_alloc | apply Kd.R_drewN | apply Kd.R_drew)); exact HO_3.out, by repeat (first | (with_reducible first | exact HB.out | apply below_alloc | apply pw_below_drewN | apply below_drew1) | exact HB.out)⟩

end Go.Proofs.YtciagecaegoppaaDoor.QJoin
end
section
namespace Go.Proofs.YtciagecaegoppaaDoor.QReply
open Go.RowKit Go.Proofs.YtciagecaegoppaaDoorW.PrintWords Go.Proofs.YtciagecaegoppaaDoorW.PrintLast Go.Proofs.YtciagecaegoppaaDoorW.PrintMore
attribute [local go_sem] max2_int min2_int max_two min_two max_three min_three max_four min_four   -- for this text's walks alone
set_option linter.unusedVariables false
set_option linter.unusedSimpArgs false

def errW : Option Int → Value
  | none => .nilIface
  | some c => .iface 0 (.int .i64 c)
theorem errW_none : errW none = .nilIface := rfl
theorem errW_some (c : Int) : errW (some c) = .iface 0 (.int .i64 c) := rfl

theorem info9 : (Tryd.prog.info? 9).map (fun i => (i.zero, i.size, i.bytes)) = some (some (.string ⟨#[]⟩), 1, 16) := by kernel_rfl
-- the values' own types
end Go.Proofs.YtciagecaegoppaaDoor.QReply
end
section
namespace Go.Proofs.YtciagecaegoppaaDoor.QReply
open Go.RowKit Go.Proofs.YtciagecaegoppaaDoorW.PrintWords Go.Proofs.YtciagecaegoppaaDoorW.PrintLast Go.Proofs.YtciagecaegoppaaDoorW.PrintMore
attribute [local go_sem] max2_int min2_int max_two min_two max_three min_three max_four min_four   -- for this text's walks alone
set_option linter.unusedVariables false
set_option linter.unusedSimpArgs false

def ack_Build.f (k : Nat) (a0_0 : Int) (a0_1 : Int) (a0_2 : Int) (a0_3 : Int) (a0_4 : Int) (a0_5 : ByteArray) (a0_6 : ByteArray) (a0_7 : ByteArray) (a0_8 : ByteArray) (a0_9 : ByteArray) (a0_10 : ByteArray) (a0_11 : ByteArray) (a0_12 : ByteArray) (a0_13 : ByteArray) (a0_14 : ByteArray) (a1 : ByteArray) : Option (List Int × Int) := (ack_Known.f a1).bind fun t102 => (if t102 = true then ((msh_Write.f a0_0 a0_1 a0_2 a0_3 a0_4 a0_7 a0_8 a0_5 a0_6 a0_9 (⟨#[]⟩ : ByteArray) (⟨#[65, 67, 75]⟩ : ByteArray) a0_12 a0_13 a0_14).bind fun bt104 => (if bt104.2 = 0 then ((QMake.segment_Make.f a0_0 a0_1 a0_2 a0_3 a0_4 (⟨#[77, 83, 65]⟩ : ByteArray) (([a1, a0_12] : List ByteArray))).bind fun t109 => ((QJoin.segment_Join.f k (([bt104.1, t109] : List ByteArray))).bind fun t113 => (some (t113, 0)))) else (some (([] : List Int), bt104.2)))) else (some (([] : List Int), 17)))
theorem ack_Build.mono : ∀ a0 a1 a2 a3 a4 a5 a6 a7 a8 a9 a10 a11 a12 a13 a14 a15 k, LeO (ack_Build.f k a0 a1 a2 a3 a4 a5 a6 a7 a8 a9 a10 a11 a12 a13 a14 a15) (ack_Build.f (k + 1) a0 a1 a2 a3 a4 a5 a6 a7 a8 a9 a10 a11 a12 a13 a14 a15) := by
  intro a0 a1 a2 a3 a4 a5 a6 a7 a8 a9 a10 a11 a12 a13 a14 a15 k
  unfold ack_Build.f
  repeat' first
      | (with_reducible exact QJoin.segment_Join.mono _ _)
      | (with_reducible exact LeO.refl _)
      | (with_reducible exact LeO.none _)
      | (with_reducible refine LeO.ite ?_ ?_)
      | (with_reducible refine LeO.bind ?_ (fun _ => ?_))
      | exact QJoin.segment_Join.mono _ _
      | exact LeO.none _
      | refine LeO.ite ?_ ?_
      | refine LeO.bind ?_ (fun _ => ?_)
def ack_Build.T4 : Bool × List (List Nat × List Nat) := (true, [([], []), ([0], [0]), ([], []), ([2], [2]), ([0, 1], []), ([4, 1, 0, 1], [1, 4]), ([0, 1, 2, 3, 4, 5], []), ([6, 3, 5, 0, 1, 2, 3, 4, 5], [3, 6])])
def ack_Build.B4 : List Nat := [0, 1, 0, 4, 3, 19, 63, 127]
theorem ack_Build.tab4 : rtab .any (opsOf Tryd.f30 4) = ack_Build.T4 := by kernel_rfl
theorem ack_Build.bits4 : waitsOk ack_Build.T4.2 ack_Build.B4 = true := by kernel_rfl
def ack_Build.T5 : Bool × List (List Nat × List Nat) := (true, [([], []), ([0], [0]), ([], []), ([2], [2]), ([0, 1], []), ([4, 1, 0, 1], [1, 4]), ([0, 1, 2, 3, 4, 5], []), ([6, 3, 5, 0, 1, 2, 3, 4, 5], [3, 6])])
def ack_Build.B5 : List Nat := [0, 1, 0, 4, 3, 19, 63, 127]
theorem ack_Build.tab5 : rtab .any (opsOf Tryd.f30 5) = ack_Build.T5 := by kernel_rfl
theorem ack_Build.bits5 : waitsOk ack_Build.T5.2 ack_Build.B5 = true := by kernel_rfl
set_option maxHeartbeats 8000000 in
set_option maxRecDepth 100000 in
theorem ack_Build.calls (k : Nat) (a0_0 : Int) (a0_1 : Int) (a0_2 : Int) (a0_3 : Int) (a0_4 : Int) (a0_5 : ByteArray) (a0_6 : ByteArray) (a0_7 : ByteArray) (a0_8 : ByteArray) (a0_9 : ByteArray) (a0_10 : ByteArray) (a0_11 : ByteArray) (a0_12 : ByteArray) (a0_13 : ByteArray) (a0_14 : ByteArray) (a1 : ByteArray) (r1 : List Int) (r2 : Int) (w : World) (hG : GlobA w) (h : ack_Build.f k a0_0 a0_1 a0_2 a0_3 a0_4 a0_5 a0_6 a0_7 a0_8 a0_9 a0_10 a0_11 a0_12 a0_13 a0_14 a1 = some (r1, r2)) :
    Calls Tryd.prog 30 #[.agg #[.int .u8 a0_0, .int .u8 a0_1, .int .u8 a0_2, .int .u8 a0_3, .int .u8 a0_4, .string a0_5, .string a0_6, .string a0_7, .string a0_8, .string a0_9, .string a0_10, .string a0_11, .string a0_12, .string a0_13, .string a0_14], .string a1] w fun e w' => ∃ v0_ : Value, e = .returned (.tuple #[v0_, .int .i64 r2]) ∧ Kd.R (Kd.int .u8) 5 w' w.heap.size (fun _ => True) v0_ r1 ∧ Below w.heap.size w w' := by
  have hu25 := Tryd.underlying25
  have hu23 := Tryd.underlying23
  have HG := Aside0.mk hG
  clear hG
  have HB := Aside0.mk (Below.refl w.heap.size w)
  have H : ((ack_Known.f a1).bind fun t102 => (if t102 = true then ((msh_Write.f a0_0 a0_1 a0_2 a0_3 a0_4 a0_7 a0_8 a0_5 a0_6 a0_9 (⟨#[]⟩ : ByteArray) (⟨#[65, 67, 75]⟩ : ByteArray) a0_12 a0_13 a0_14).bind fun bt104 => (if bt104.2 = 0 then ((QMake.segment_Make.f a0_0 a0_1 a0_2 a0_3 a0_4 (⟨#[77, 83, 65]⟩ : ByteArray) (([a1, a0_12] : List ByteArray))).bind fun t109 => ((QJoin.segment_Join.f k (([bt104.1, t109] : List ByteArray))).bind fun t113 => (some (t113, 0)))) else (some (([] : List Int), bt104.2)))) else (some (([] : List Int), 17)))) = some (r1, r2) := h
  clear h
  replace H := Option.bind_eq_some_iff.mp H
  obtain ⟨t102, A30, H⟩ := H
  replace H : (if t102 = true then ((msh_Write.f a0_0 a0_1 a0_2 a0_3 a0_4 a0_7 a0_8 a0_5 a0_6 a0_9 (⟨#[]⟩ : ByteArray) (⟨#[65, 67, 75]⟩ : ByteArray) a0_12 a0_13 a0_14).bind fun bt104 => (if bt104.2 = 0 then ((QMake.segment_Make.f a0_0 a0_1 a0_2 a0_3 a0_4 (⟨#[77, 83, 65]⟩ : ByteArray) (([a1, a0_12] : List ByteArray))).bind fun t109 => ((QJoin.segment_Join.f k (([bt104.1, t109] : List ByteArray))).bind fun t113 => (some (t113, 0)))) else (some (([] : List Int), bt104.2)))) else (some (([] : List Int), 17))) = some (r1, r2) := H
  have A3 := Aside0.mk A30
  clear A30
  by_cases c4 : t102 = true
  · subst c4
    have H1 : ((msh_Write.f a0_0 a0_1 a0_2 a0_3 a0_4 a0_7 a0_8 a0_5 a0_6 a0_9 (⟨#[]⟩ : ByteArray) (⟨#[65, 67, 75]⟩ : ByteArray) a0_12 a0_13 a0_14).bind fun bt104 => (if bt104.2 = 0 then ((QMake.segment_Make.f a0_0 a0_1 a0_2 a0_3 a0_4 (⟨#[77, 83, 65]⟩ : ByteArray) (([a1, a0_12] : List ByteArray))).bind fun t109 => ((QJoin.segment_Join.f k (([bt104.1, t109] : List ByteArray))).bind fun t113 => (some (t113, 0)))) else (some (([] : List Int), bt104.2)))) = some (r1, r2) := by rw [if_pos rfl] at H; exact H
    clear H
    have H := H1
    clear H1
    replace H := Option.bind_eq_some_iff.mp H
    obtain ⟨⟨t104, t105⟩, A50, H⟩ := H
    replace H : (if t105 = 0 then ((QMake.segment_Make.f a0_0 a0_1 a0_2 a0_3 a0_4 (⟨#[77, 83, 65]⟩ : ByteArray) (([a1, a0_12] : List ByteArray))).bind fun t109 => ((QJoin.segment_Join.f k (([t104, t109] : List ByteArray))).bind fun t113 => (some (t113, 0)))) else (some (([] : List Int), t105))) = some (r1, r2) := H
    have A5 := Aside0.mk A50
    clear A50
    by_cases c6 : t105 = 0
    · rw [if_pos c6] at H
      have c6b0 : (t105 == 0) = true := beq_iff_eq.mpr c6
      have c6b1 : (t105 != 0) = false := bne_eq_false_iff_eq.mpr c6
      clear c6
      obtain ⟨y106, hy106⟩ : ∃ y_ : List ByteArray, y_ = (([a1, a0_12] : List ByteArray)) := ⟨_, rfl⟩
      replace H : ((QMake.segment_Make.f a0_0 a0_1 a0_2 a0_3 a0_4 (⟨#[77, 83, 65]⟩ : ByteArray) y106).bind fun t109 => ((QJoin.segment_Join.f k (([t104, t109] : List ByteArray))).bind fun t113 => (some (t113, 0)))) = some (r1, r2) := by first | (rw [hy106]; with_reducible exact H) | (have H2_ := (Option.bind_some _ _).symm.trans H; rw [hy106]; with_reducible exact H2_) | (have H2_ := (Option.bind_some _ _).symm.trans H; with_reducible exact H2_) | with_reducible exact H | (rw [hy106]; exact H) | exact H
      have Ny106 := Aside0.mk hy106
      clear hy106
      replace H := Option.bind_eq_some_iff.mp H
      obtain ⟨t109, A70, H⟩ := H
      replace H : ((QJoin.segment_Join.f k (([t104, t109] : List ByteArray))).bind fun t113 => (some (t113, 0))) = some (r1, r2) := H
      have A7 := Aside0.mk A70
      clear A70
      obtain ⟨y110, hy110⟩ : ∃ y_ : List ByteArray, y_ = (([t104, t109] : List ByteArray)) := ⟨_, rfl⟩
      replace H : ((QJoin.segment_Join.f k y110).bind fun t113 => (some (t113, 0))) = some (r1, r2) := by first | (rw [hy110]; with_reducible exact H) | (have H2_ := (Option.bind_some _ _).symm.trans H; rw [hy110]; with_reducible exact H2_) | (have H2_ := (Option.bind_some _ _).symm.trans H; with_reducible exact H2_) | with_reducible exact H | (rw [hy110]; exact H) | exact H
      have Ny110 := Aside0.mk hy110
      clear hy110
      replace H := Option.bind_eq_some_iff.mp H
      obtain ⟨t113, A80, H⟩ := H
      replace H : (some (t113, 0)) = some (r1, r2) := H
      have A8 := Aside0.mk A80
      clear A80
      simp only [Option.some.injEq, Prod.mk.injEq] at H
      obtain ⟨rfl, rfl⟩ := H
      go_enter Tryd.func30, Tryd.ntmps30
      try go_wp2_with (first | ((with_reducible refine gate_dst (N := 2) rfl ?_); refine box_event ?hg (N := 2) ?hd (cs := #[.int .u8 a0_0, .int .u8 a0_1, .int .u8 a0_2, .int .u8 a0_3, .int .u8 a0_4, .string a0_5, .string a0_6, .string a0_7, .string a0_8, .string a0_9, .string a0_10, .string a0_11, .string a0_12, .string a0_13, .string a0_14]) (t := 25) ?hr ?_; (case hd => rfl); (case hg => rfl); (case hr => first | (go_simp; done) | (go_simp; rfl)); intro gb101 hg w9 hbox hb; have n0_ := Aside0.mk (below_step (by repeat (first | (with_reducible first | exact HB.out | apply below_alloc | apply pw_below_drewN | apply below_drew1) | exact HB.out)) hb); have n1_ := Aside0.mk (hbox); have n2_ := Aside0.mk ((by rw [hg]; exact (below_size (by repeat (first | (with_reducible first | exact HB.out | apply below_alloc | apply pw_below_drewN | apply below_drew1) | exact HB.out))) : w.heap.size ≤ gb101)); have n3_ := Aside0.mk ((by rw [hg]; exact (below_size (by repeat (first | (with_reducible first | exact HB.out | apply below_alloc | apply pw_below_drewN | apply below_drew1) | exact HB.out))) : w.heap.size ≤ gb101)); clear HB; have HB := n0_; have BK101 := n1_; have GW101 := n2_; have GE101 := n3_; clear n0_ n1_ n2_ n3_; clear hb hbox hg) | ((with_reducible refine gate_callee (f := 38) rfl ?_); refine goesL_ (some 10) rfl rfl Tryd.func38 (by kernel_rfl) rfl #[.string a1] rfl (by (try simp only [List.map_toArray, List.map_cons, List.map_nil]); first | done | rfl | (simp only [List.length_drop, List.length_take]; rfl)) ?_; (with_reducible refine (ack_Known.calls a1 true _ ?side1 A3.out).mono ?_); (case side1 => exact GlobA.below HG.out (by repeat (first | (with_reducible first | exact HB.out | apply below_alloc | apply pw_below_drewN | apply below_drew1 | refine below_set ?_ GE101.out) | exact HB.out))); rintro e w10 ⟨rfl, hb⟩; refine ⟨_, rfl, ?_⟩; have n0_ := Aside0.mk (blk_below (g := gb101) (o := .cells #[.int .u8 a0_0, .int .u8 a0_1, .int .u8 a0_2, .int .u8 a0_3, .int .u8 a0_4, .string a0_5, .string a0_6, .string a0_7, .string a0_8, .string a0_9, .string a0_10, .string a0_11, .string a0_12, .string a0_13, .string a0_14] 25 (0, 0)) (by (with_reducible repeat (first | refine blk_drewN ?_ _ | refine blk_drew ?_ | refine blk_alloc ?_ _)); exact BK101.out) hb); have n1_ := Aside0.mk (below_step (by repeat (first | (with_reducible first | exact HB.out | apply below_alloc | apply pw_below_drewN | apply below_drew1 | refine below_set ?_ GE101.out) | exact HB.out)) hb); clear BK101; clear HB; have BK101 := n0_; have HB := n1_; clear n0_ n1_; (try clear hb); (try clear hb2); (try clear hk); (try clear hi); have hcz11_0 : w10.cell? ⟨gb101, 0, none⟩ = some (.int .u8 a0_0) := (blk_cell BK101.out 0).trans rfl; have hcz11_1 : w10.cell? ⟨gb101, 1, none⟩ = some (.int .u8 a0_1) := (blk_cell BK101.out 1).trans rfl; have hcz11_2 : w10.cell? ⟨gb101, 2, none⟩ = some (.int .u8 a0_2) := (blk_cell BK101.out 2).trans rfl; have hcz11_3 : w10.cell? ⟨gb101, 3, none⟩ = some (.int .u8 a0_3) := (blk_cell BK101.out 3).trans rfl; have hcz11_4 : w10.cell? ⟨gb101, 4, none⟩ = some (.int .u8 a0_4) := (blk_cell BK101.out 4).trans rfl; have hcz11_5 : w10.cell? ⟨gb101, 5, none⟩ = some (.string a0_5) := (blk_cell BK101.out 5).trans rfl; have hcz11_6 : w10.cell? ⟨gb101, 6, none⟩ = some (.string a0_6) := (blk_cell BK101.out 6).trans rfl; have hcz11_7 : w10.cell? ⟨gb101, 7, none⟩ = some (.string a0_7) := (blk_cell BK101.out 7).trans rfl; have hcz11_8 : w10.cell? ⟨gb101, 8, none⟩ = some (.string a0_8) := (blk_cell BK101.out 8).trans rfl; have hcz11_9 : w10.cell? ⟨gb101, 9, none⟩ = some (.string a0_9) := (blk_cell BK101.out 9).trans rfl; have hcz11_10 : w10.cell? ⟨gb101, 10, none⟩ = some (.string a0_10) := (blk_cell BK101.out 10).trans rfl; have hcz11_11 : w10.cell? ⟨gb101, 11, none⟩ = some (.string a0_11) := (blk_cell BK101.out 11).trans rfl; have hcz11_12 : w10.cell? ⟨gb101, 12, none⟩ = some (.string a0_12) := (blk_cell BK101.out 12).trans rfl; have hcz11_13 : w10.cell? ⟨gb101, 13, none⟩ = some (.string a0_13) := (blk_cell BK101.out 13).trans rfl; have hcz11_14 : w10.cell? ⟨gb101, 14, none⟩ = some (.string a0_14) := (blk_cell BK101.out 14).trans rfl; have hfz11_0 := blk_frozen BK101.out 0; have hfz11_1 := blk_frozen BK101.out 1; have hfz11_2 := blk_frozen BK101.out 2; have hfz11_3 := blk_frozen BK101.out 3; have hfz11_4 := blk_frozen BK101.out 4; have hfz11_5 := blk_frozen BK101.out 5; have hfz11_6 := blk_frozen BK101.out 6; have hfz11_7 := blk_frozen BK101.out 7; have hfz11_8 := blk_frozen BK101.out 8; have hfz11_9 := blk_frozen BK101.out 9; have hfz11_10 := blk_frozen BK101.out 10; have hfz11_11 := blk_frozen BK101.out 11; have hfz11_12 := blk_frozen BK101.out 12; have hfz11_13 := blk_frozen BK101.out 13; have hfz11_14 := blk_frozen BK101.out 14) | ((with_reducible refine gate_dst (N := 6) rfl ?_); refine box_event ?hg (N := 6) ?hd (cs := #[.int .u8 0, .int .u8 0, .int .u8 0, .int .u8 0, .int .u8 0, .string (⟨#[]⟩ : ByteArray), .string (⟨#[]⟩ : ByteArray), .string (⟨#[]⟩ : ByteArray), .string (⟨#[]⟩ : ByteArray), .string (⟨#[]⟩ : ByteArray), .string (⟨#[]⟩ : ByteArray), .string (⟨#[]⟩ : ByteArray), .string (⟨#[]⟩ : ByteArray), .string (⟨#[]⟩ : ByteArray), .string (⟨#[]⟩ : ByteArray)]) (t := 25) ?hr ?_; (case hd => rfl); (case hg => rfl); (case hr => first | (go_simp; done) | (go_simp; rfl)); intro gb103 hg w12 hbox hb; have n0_ := Aside0.mk (blk_below (g := gb101) (o := .cells #[.int .u8 a0_0, .int .u8 a0_1, .int .u8 a0_2, .int .u8 a0_3, .int .u8 a0_4, .string a0_5, .string a0_6, .string a0_7, .string a0_8, .string a0_9, .string a0_10, .string a0_11, .string a0_12, .string a0_13, .string a0_14] 25 (0, 0)) (by (with_reducible repeat (first | refine blk_drewN ?_ _ | refine blk_drew ?_ | refine blk_alloc ?_ _)); exact BK101.out) hb); have n1_ := Aside0.mk (below_step (by repeat (first | (with_reducible first | exact HB.out | apply below_alloc | apply pw_below_drewN | apply below_drew1 | refine below_set ?_ GE101.out) | exact HB.out)) hb); have n2_ := Aside0.mk (hbox); have n3_ := Aside0.mk ((by rw [hg]; exact (below_size (by repeat (first | (with_reducible first | exact HB.out | apply below_alloc | apply pw_below_drewN | apply below_drew1 | refine below_set ?_ GE101.out) | exact HB.out))) : w.heap.size ≤ gb103)); have n4_ := Aside0.mk ((by rw [hg]; exact (below_size (by repeat (first | (with_reducible first | exact HB.out | apply below_alloc | apply pw_below_drewN | apply below_drew1 | refine below_set ?_ GE101.out) | exact HB.out))) : w.heap.size ≤ gb103)); have n5_ := Aside0.mk ((by rw [hg]; exact Nat.ne_of_lt (blk_lt (g := gb101) (o := .cells #[.int .u8 a0_0, .int .u8 a0_1, .int .u8 a0_2, .int .u8 a0_3, .int .u8 a0_4, .string a0_5, .string a0_6, .string a0_7, .string a0_8, .string a0_9, .string a0_10, .string a0_11, .string a0_12, .string a0_13, .string a0_14] 25 (0, 0)) (by (with_reducible repeat (first | refine blk_drewN ?_ _ | refine blk_drew ?_ | refine blk_alloc ?_ _)); exact BK101.out)) : gb101 ≠ gb103)); have n6_ := Aside0.mk ((by rw [hg]; exact Nat.ne_of_gt (blk_lt (g := gb101) (o := .cells #[.int .u8 a0_0, .int .u8 a0_1, .int .u8 a0_2, .int .u8 a0_3, .int .u8 a0_4, .string a0_5, .string a0_6, .string a0_7, .string a0_8, .string a0_9, .string a0_10, .string a0_11, .string a0_12, .string a0_13, .string a0_14] 25 (0, 0)) (by (with_reducible repeat (first | refine blk_drewN ?_ _ | refine blk_drew ?_ | refine blk_alloc ?_ _)); exact BK101.out)) : gb103 ≠ gb101)); clear BK101; clear HB; have BK101 := n0_; have HB := n1_; have BK103 := n2_; have GW103 := n3_; have GE103 := n4_; have NB101_103 := n5_; have NB103_101 := n6_; clear n0_ n1_ n2_ n3_ n4_ n5_ n6_; clear hb hbox hg; have hnb13 := NB103_101.out; have hnc13 := NB101_103.out; have hcz14_0 : w12.cell? ⟨gb103, 0, none⟩ = some (.int .u8 0) := (blk_cell BK103.out 0).trans rfl; have hcz14_1 : w12.cell? ⟨gb103, 1, none⟩ = some (.int .u8 0) := (blk_cell BK103.out 1).trans rfl; have hcz14_2 : w12.cell? ⟨gb103, 2, none⟩ = some (.int .u8 0) := (blk_cell BK103.out 2).trans rfl; have hcz14_3 : w12.cell? ⟨gb103, 3, none⟩ = some (.int .u8 0) := (blk_cell BK103.out 3).trans rfl; have hcz14_4 : w12.cell? ⟨gb103, 4, none⟩ = some (.int .u8 0) := (blk_cell BK103.out 4).trans rfl; have hcz14_5 : w12.cell? ⟨gb103, 5, none⟩ = some (.string (⟨#[]⟩ : ByteArray)) := (blk_cell BK103.out 5).trans rfl; have hcz14_6 : w12.cell? ⟨gb103, 6, none⟩ = some (.string (⟨#[]⟩ : ByteArray)) := (blk_cell BK103.out 6).trans rfl; have hcz14_7 : w12.cell? ⟨gb103, 7, none⟩ = some (.string (⟨#[]⟩ : ByteArray)) := (blk_cell BK103.out 7).trans rfl; have hcz14_8 : w12.cell? ⟨gb103, 8, none⟩ = some (.string (⟨#[]⟩ : ByteArray)) := (blk_cell BK103.out 8).trans rfl; have hcz14_9 : w12.cell? ⟨gb103, 9, none⟩ = some (.string (⟨#[]⟩ : ByteArray)) := (blk_cell BK103.out 9).trans rfl; have hcz14_10 : w12.cell? ⟨gb103, 10, none⟩ = some (.string (⟨#[]⟩ : ByteArray)) := (blk_cell BK103.out 10).trans rfl; have hcz14_11 : w12.cell? ⟨gb103, 11, none⟩ = some (.string (⟨#[]⟩ : ByteArray)) := (blk_cell BK103.out 11).trans rfl; have hcz14_12 : w12.cell? ⟨gb103, 12, none⟩ = some (.string (⟨#[]⟩ : ByteArray)) := (blk_cell BK103.out 12).trans rfl; have hcz14_13 : w12.cell? ⟨gb103, 13, none⟩ = some (.string (⟨#[]⟩ : ByteArray)) := (blk_cell BK103.out 13).trans rfl; have hcz14_14 : w12.cell? ⟨gb103, 14, none⟩ = some (.string (⟨#[]⟩ : ByteArray)) := (blk_cell BK103.out 14).trans rfl; have hfz14_0 := blk_frozen BK103.out 0; have hfz14_1 := blk_frozen BK103.out 1; have hfz14_2 := blk_frozen BK103.out 2; have hfz14_3 := blk_frozen BK103.out 3; have hfz14_4 := blk_frozen BK103.out 4; have hfz14_5 := blk_frozen BK103.out 5; have hfz14_6 := blk_frozen BK103.out 6; have hfz14_7 := blk_frozen BK103.out 7; have hfz14_8 := blk_frozen BK103.out 8; have hfz14_9 := blk_frozen BK103.out 9; have hfz14_10 := blk_frozen BK103.out 10; have hfz14_11 := blk_frozen BK103.out 11; have hfz14_12 := blk_frozen BK103.out 12; have hfz14_13 := blk_frozen BK103.out 13; have hfz14_14 := blk_frozen BK103.out 14))
      have n0_ : Aside0 ((((((((((((((((w12.setCell ⟨gb103, 0, none⟩ (.int .u8 a0_0)).setCell ⟨gb103, 1, none⟩ (.int .u8 a0_1)).setCell ⟨gb103, 2, none⟩ (.int .u8 a0_2)).setCell ⟨gb103, 3, none⟩ (.int .u8 a0_3)).setCell ⟨gb103, 4, none⟩ (.int .u8 a0_4)).setCell ⟨gb103, 5, none⟩ (.string a0_5)).setCell ⟨gb103, 6, none⟩ (.string a0_6)).setCell ⟨gb103, 7, none⟩ (.string a0_7)).setCell ⟨gb103, 8, none⟩ (.string a0_8)).setCell ⟨gb103, 9, none⟩ (.string a0_9)).setCell ⟨gb103, 10, none⟩ (.string a0_10)).setCell ⟨gb103, 11, none⟩ (.string a0_11)).setCell ⟨gb103, 12, none⟩ (.string a0_12)).setCell ⟨gb103, 13, none⟩ (.string a0_13)).setCell ⟨gb103, 14, none⟩ (.string a0_14)).heap[gb101]? = some (.cells #[.int .u8 a0_0, .int .u8 a0_1, .int .u8 a0_2, .int .u8 a0_3, .int .u8 a0_4, .string a0_5, .string a0_6, .string a0_7, .string a0_8, .string a0_9, .string a0_10, .string a0_11, .string a0_12, .string a0_13, .string a0_14] 25 (0, 0))) := ⟨by (with_reducible repeat (first | refine blk_drewN ?_ _ | refine blk_drew ?_ | refine blk_alloc ?_ _)); refine blk_far ?_ NB101_103.out _; (with_reducible repeat (first | refine blk_drewN ?_ _ | refine blk_drew ?_ | refine blk_alloc ?_ _)); refine blk_far ?_ NB101_103.out _; (with_reducible repeat (first | refine blk_drewN ?_ _ | refine blk_drew ?_ | refine blk_alloc ?_ _)); refine blk_far ?_ NB101_103.out _; (with_reducible repeat (first | refine blk_drewN ?_ _ | refine blk_drew ?_ | refine blk_alloc ?_ _)); refine blk_far ?_ NB101_103.out _; (with_reducible repeat (first | refine blk_drewN ?_ _ | refine blk_drew ?_ | refine blk_alloc ?_ _)); refine blk_far ?_ NB101_103.out _; (with_reducible repeat (first | refine blk_drewN ?_ _ | refine blk_drew ?_ | refine blk_alloc ?_ _)); refine blk_far ?_ NB101_103.out _; (with_reducible repeat (first | refine blk_drewN ?_ _ | refine blk_drew ?_ | refine blk_alloc ?_ _)); refine blk_far ?_ NB101_103.out _; (with_reducible repeat (first | refine blk_drewN ?_ _ | refine blk_drew ?_ | refine blk_alloc ?_ _)); refine blk_far ?_ NB101_103.out _; (with_reducible repeat (first | refine blk_drewN ?_ _ | refine blk_drew ?_ | refine blk_alloc ?_ _)); refine blk_far ?_ NB101_103.out _; (with_reducible repeat (first | refine blk_drewN ?_ _ | refine blk_drew ?_ | refine blk_alloc ?_ _)); refine blk_far ?_ NB101_103.out _; (with_reducible repeat (first | refine blk_drewN ?_ _ | refine blk_drew ?_ | refine blk_alloc ?_ _)); refine blk_far ?_ NB101_103.out _; (with_reducible repeat (first | refine blk_drewN ?_ _ | refine blk_drew ?_ | refine blk_alloc ?_ _)); refine blk_far ?_ NB101_103.out _; (with_reducible repeat (first | refine blk_drewN ?_ _ | refine blk_drew ?_ | refine blk_alloc ?_ _)); refine blk_far ?_ NB101_103.out _; (with_reducible repeat (first | refine blk_drewN ?_ _ | refine blk_drew ?_ | refine blk_alloc ?_ _)); refine blk_far ?_ NB101_103.out _; (with_reducible repeat (first | refine blk_drewN ?_ _ | refine blk_drew ?_ | refine blk_alloc ?_ _)); refine blk_far ?_ NB101_103.out _; (with_reducible repeat (first | refine blk_drewN ?_ _ | refine blk_drew ?_ | refine blk_alloc ?_ _)); exact BK101.out⟩
      have n1_ : Aside0 ((((((((((((((((w12.setCell ⟨gb103, 0, none⟩ (.int .u8 a0_0)).setCell ⟨gb103, 1, none⟩ (.int .u8 a0_1)).setCell ⟨gb103, 2, none⟩ (.int .u8 a0_2)).setCell ⟨gb103, 3, none⟩ (.int .u8 a0_3)).setCell ⟨gb103, 4, none⟩ (.int .u8 a0_4)).setCell ⟨gb103, 5, none⟩ (.string a0_5)).setCell ⟨gb103, 6, none⟩ (.string a0_6)).setCell ⟨gb103, 7, none⟩ (.string a0_7)).setCell ⟨gb103, 8, none⟩ (.string a0_8)).setCell ⟨gb103, 9, none⟩ (.string a0_9)).setCell ⟨gb103, 10, none⟩ (.string a0_10)).setCell ⟨gb103, 11, none⟩ (.string a0_11)).setCell ⟨gb103, 12, none⟩ (.string a0_12)).setCell ⟨gb103, 13, none⟩ (.string a0_13)).setCell ⟨gb103, 14, none⟩ (.string a0_14)).heap[gb103]? = some (.cells #[.int .u8 a0_0, .int .u8 a0_1, .int .u8 a0_2, .int .u8 a0_3, .int .u8 a0_4, .string a0_5, .string a0_6, .string a0_7, .string a0_8, .string a0_9, .string a0_10, .string a0_11, .string a0_12, .string a0_13, .string a0_14] 25 (0, 0))) := ⟨by (with_reducible repeat (first | refine blk_drewN ?_ _ | refine blk_drew ?_ | refine blk_alloc ?_ _)); refine blk_put (cs := #[.int .u8 a0_0, .int .u8 a0_1, .int .u8 a0_2, .int .u8 a0_3, .int .u8 a0_4, .string a0_5, .string a0_6, .string a0_7, .string a0_8, .string a0_9, .string a0_10, .string a0_11, .string a0_12, .string a0_13, .string (⟨#[]⟩ : ByteArray)]) ?_ 14 _ rfl; (with_reducible repeat (first | refine blk_drewN ?_ _ | refine blk_drew ?_ | refine blk_alloc ?_ _)); refine blk_put (cs := #[.int .u8 a0_0, .int .u8 a0_1, .int .u8 a0_2, .int .u8 a0_3, .int .u8 a0_4, .string a0_5, .string a0_6, .string a0_7, .string a0_8, .string a0_9, .string a0_10, .string a0_11, .string a0_12, .string (⟨#[]⟩ : ByteArray), .string (⟨#[]⟩ : ByteArray)]) ?_ 13 _ rfl; (with_reducible repeat (first | refine blk_drewN ?_ _ | refine blk_drew ?_ | refine blk_alloc ?_ _)); refine blk_put (cs := #[.int .u8 a0_0, .int .u8 a0_1, .int .u8 a0_2, .int .u8 a0_3, .int .u8 a0_4, .string a0_5, .string a0_6, .string a0_7, .string a0_8, .string a0_9, .string a0_10, .string a0_11, .string (⟨#[]⟩ : ByteArray), .string (⟨#[]⟩ : ByteArray), .string (⟨#[]⟩ : ByteArray)]) ?_ 12 _ rfl; (with_reducible repeat (first | refine blk_drewN ?_ _ | refine blk_drew ?_ | refine blk_alloc ?_ _)); refine blk_put (cs := #[.int .u8 a0_0, .int .u8 a0_1, .int .u8 a0_2, .int .u8 a0_3, .int .u8 a0_4, .string a0_5, .string a0_6, .string a0_7, .string a0_8, .string a0_9, .string a0_10, .string (⟨#[]⟩ : ByteArray), .string (⟨#[]⟩ : ByteArray), .string (⟨#[]⟩ : ByteArray), .string (⟨#[]⟩ : ByteArray)]) ?_ 11 _ rfl; (with_reducible repeat (first | refine blk_drewN ?_ _ | refine blk_drew ?_ | refine blk_alloc ?_ _)); refine blk_put (cs := #[.int .u8 a0_0, .int .u8 a0_1, .int .u8 a0_2, .int .u8 a0_3, .int .u8 a0_4, .string a0_5, .string a0_6, .string a0_7, .string a0_8, .string a0_9, .string (⟨#[]⟩ : ByteArray), .string (⟨#[]⟩ : ByteArray), .string (⟨#[]⟩ : ByteArray), .string (⟨#[]⟩ : ByteArray), .string (⟨#[]⟩ : ByteArray)]) ?_ 10 _ rfl; (with_reducible repeat (first | refine blk_drewN ?_ _ | refine blk_drew ?_ | refine blk_alloc ?_ _)); refine blk_put (cs := #[.int .u8 a0_0, .int .u8 a0_1, .int .u8 a0_2, .int .u8 a0_3, .int .u8 a0_4, .string a0_5, .string a0_6, .string a0_7, .string a0_8, .string (⟨#[]⟩ : ByteArray), .string (⟨#[]⟩ : ByteArray), .string (⟨#[]⟩ : ByteArray), .string (⟨#[]⟩ : ByteArray), .string (⟨#[]⟩ : ByteArray), .string (⟨#[]⟩ : ByteArray)]) ?_ 9 _ rfl; (with_reducible repeat (first | refine blk_drewN ?_ _ | refine blk_drew ?_ | refine blk_alloc ?_ _)); refine blk_put (cs := #[.int .u8 a0_0, .int .u8 a0_1, .int .u8 a0_2, .int .u8 a0_3, .int .u8 a0_4, .string a0_5, .string a0_6, .string a0_7, .string (⟨#[]⟩ : ByteArray), .string (⟨#[]⟩ : ByteArray), .string (⟨#[]⟩ : ByteArray), .string (⟨#[]⟩ : ByteArray), .string (⟨#[]⟩ : ByteArray), .string (⟨#[]⟩ : ByteArray), .string (⟨#[]⟩ : ByteArray)]) ?_ 8 _ rfl; (with_reducible repeat (first | refine blk_drewN ?_ _ | refine blk_drew ?_ | refine blk_alloc ?_ _)); refine blk_put (cs := #[.int .u8 a0_0, .int .u8 a0_1, .int .u8 a0_2, .int .u8 a0_3, .int .u8 a0_4, .string a0_5, .string a0_6, .string (⟨#[]⟩ : ByteArray), .string (⟨#[]⟩ : ByteArray), .string (⟨#[]⟩ : ByteArray), .string (⟨#[]⟩ : ByteArray), .string (⟨#[]⟩ : ByteArray), .string (⟨#[]⟩ : ByteArray), .string (⟨#[]⟩ : ByteArray), .string (⟨#[]⟩ : ByteArray)]) ?_ 7 _ rfl; (with_reducible repeat (first | refine blk_drewN ?_ _ | refine blk_drew ?_ | refine blk_alloc ?_ _)); refine blk_put (cs := #[.int .u8 a0_0, .int .u8 a0_1, .int .u8 a0_2, .int .u8 a0_3, .int .u8 a0_4, .string a0_5, .string (⟨#[]⟩ : ByteArray), .string (⟨#[]⟩ : ByteArray), .string (⟨#[]⟩ : ByteArray), .string (⟨#[]⟩ : ByteArray), .string (⟨#[]⟩ : ByteArray), .string (⟨#[]⟩ : ByteArray), .string (⟨#[]⟩ : ByteArray), .string (⟨#[]⟩ : ByteArray), .string (⟨#[]⟩ : ByteArray)]) ?_ 6 _ rfl; (with_reducible repeat (first | refine blk_drewN ?_ _ | refine blk_drew ?_ | refine blk_alloc ?_ _)); refine blk_put (cs := #[.int .u8 a0_0, .int .u8 a0_1, .int .u8 a0_2, .int .u8 a0_3, .int .u8 a0_4, .string (⟨#[]⟩ : ByteArray), .string (⟨#[]⟩ : ByteArray), .string (⟨#[]⟩ : ByteArray), .string (⟨#[]⟩ : ByteArray), .string (⟨#[]⟩ : ByteArray), .string (⟨#[]⟩ : ByteArray), .string (⟨#[]⟩ : ByteArray), .string (⟨#[]⟩ : ByteArray), .string (⟨#[]⟩ : ByteArray), .string (⟨#[]⟩ : ByteArray)]) ?_ 5 _ rfl; (with_reducible repeat (first | refine blk_drewN ?_ _ | refine blk_drew ?_ | refine blk_alloc ?_ _)); refine blk_put (cs := #[.int .u8 a0_0, .int .u8 a0_1, .int .u8 a0_2, .int .u8 a0_3, .int .u8 0, .string (⟨#[]⟩ : ByteArray), .string (⟨#[]⟩ : ByteArray), .string (⟨#[]⟩ : ByteArray), .string (⟨#[]⟩ : ByteArray), .string (⟨#[]⟩ : ByteArray), .string (⟨#[]⟩ : ByteArray), .string (⟨#[]⟩ : ByteArray), .string (⟨#[]⟩ : ByteArray), .string (⟨#[]⟩ : ByteArray), .string (⟨#[]⟩ : ByteArray)]) ?_ 4 _ rfl; (with_reducible repeat (first | refine blk_drewN ?_ _ | refine blk_drew ?_ | refine blk_alloc ?_ _)); refine blk_put (cs := #[.int .u8 a0_0, .int .u8 a0_1, .int .u8 a0_2, .int .u8 0, .int .u8 0, .string (⟨#[]⟩ : ByteArray), .string (⟨#[]⟩ : ByteArray), .string (⟨#[]⟩ : ByteArray), .string (⟨#[]⟩ : ByteArray), .string (⟨#[]⟩ : ByteArray), .string (⟨#[]⟩ : ByteArray), .string (⟨#[]⟩ : ByteArray), .string (⟨#[]⟩ : ByteArray), .string (⟨#[]⟩ : ByteArray), .string (⟨#[]⟩ : ByteArray)]) ?_ 3 _ rfl; (with_reducible repeat (first | refine blk_drewN ?_ _ | refine blk_drew ?_ | refine blk_alloc ?_ _)); refine blk_put (cs := #[.int .u8 a0_0, .int .u8 a0_1, .int .u8 0, .int .u8 0, .int .u8 0, .string (⟨#[]⟩ : ByteArray), .string (⟨#[]⟩ : ByteArray), .string (⟨#[]⟩ : ByteArray), .string (⟨#[]⟩ : ByteArray), .string (⟨#[]⟩ : ByteArray), .string (⟨#[]⟩ : ByteArray), .string (⟨#[]⟩ : ByteArray), .string (⟨#[]⟩ : ByteArray), .string (⟨#[]⟩ : ByteArray), .string (⟨#[]⟩ : ByteArray)]) ?_ 2 _ rfl; (with_reducible repeat (first | refine blk_drewN ?_ _ | refine blk_drew ?_ | refine blk_alloc ?_ _)); refine blk_put (cs := #[.int .u8 a0_0, .int .u8 0, .int .u8 0, .int .u8 0, .int .u8 0, .string (⟨#[]⟩ : ByteArray), .string (⟨#[]⟩ : ByteArray), .string (⟨#[]⟩ : ByteArray), .string (⟨#[]⟩ : ByteArray), .string (⟨#[]⟩ : ByteArray), .string (⟨#[]⟩ : ByteArray), .string (⟨#[]⟩ : ByteArray), .string (⟨#[]⟩ : ByteArray), .string (⟨#[]⟩ : ByteArray), .string (⟨#[]⟩ : ByteArray)]) ?_ 1 _ rfl; (with_reducible repeat (first | refine blk_drewN ?_ _ | refine blk_drew ?_ | refine blk_alloc ?_ _)); refine blk_put (cs := #[.int .u8 0, .int .u8 0, .int .u8 0, .int .u8 0, .int .u8 0, .string (⟨#[]⟩ : ByteArray), .string (⟨#[]⟩ : ByteArray), .string (⟨#[]⟩ : ByteArray), .string (⟨#[]⟩ : ByteArray), .string (⟨#[]⟩ : ByteArray), .string (⟨#[]⟩ : ByteArray), .string (⟨#[]⟩ : ByteArray), .string (⟨#[]⟩ : ByteArray), .string (⟨#[]⟩ : ByteArray), .string (⟨#[]⟩ : ByteArray)]) ?_ 0 _ rfl; (with_reducible repeat (first | refine blk_drewN ?_ _ | refine blk_drew ?_ | refine blk_alloc ?_ _)); exact BK103.out⟩
      have n2_ : Aside0 (Below w.heap.size w (((((((((((((((w12.setCell ⟨gb103, 0, none⟩ (.int .u8 a0_0)).setCell ⟨gb103, 1, none⟩ (.int .u8 a0_1)).setCell ⟨gb103, 2, none⟩ (.int .u8 a0_2)).setCell ⟨gb103, 3, none⟩ (.int .u8 a0_3)).setCell ⟨gb103, 4, none⟩ (.int .u8 a0_4)).setCell ⟨gb103, 5, none⟩ (.string a0_5)).setCell ⟨gb103, 6, none⟩ (.string a0_6)).setCell ⟨gb103, 7, none⟩ (.string a0_7)).setCell ⟨gb103, 8, none⟩ (.string a0_8)).setCell ⟨gb103, 9, none⟩ (.string a0_9)).setCell ⟨gb103, 10, none⟩ (.string a0_10)).setCell ⟨gb103, 11, none⟩ (.string a0_11)).setCell ⟨gb103, 12, none⟩ (.string a0_12)).setCell ⟨gb103, 13, none⟩ (.string a0_13)).setCell ⟨gb103, 14, none⟩ (.string a0_14))) := ⟨by repeat (first | (with_reducible first | exact HB.out | apply below_alloc | apply pw_below_drewN | apply below_drew1 | refine below_set ?_ GE101.out | refine below_set ?_ GE103.out) | exact HB.out)⟩
      (try clear BK101)
      (try clear BK103)
      (try clear HB)
      generalize (((((((((((((((w12.setCell ⟨gb103, 0, none⟩ (.int .u8 a0_0)).setCell ⟨gb103, 1, none⟩ (.int .u8 a0_1)).setCell ⟨gb103, 2, none⟩ (.int .u8 a0_2)).setCell ⟨gb103, 3, none⟩ (.int .u8 a0_3)).setCell ⟨gb103, 4, none⟩ (.int .u8 a0_4)).setCell ⟨gb103, 5, none⟩ (.string a0_5)).setCell ⟨gb103, 6, none⟩ (.string a0_6)).setCell ⟨gb103, 7, none⟩ (.string a0_7)).setCell ⟨gb103, 8, none⟩ (.string a0_8)).setCell ⟨gb103, 9, none⟩ (.string a0_9)).setCell ⟨gb103, 10, none⟩ (.string a0_10)).setCell ⟨gb103, 11, none⟩ (.string a0_11)).setCell ⟨gb103, 12, none⟩ (.string a0_12)).setCell ⟨gb103, 13, none⟩ (.string a0_13)).setCell ⟨gb103, 14, none⟩ (.string a0_14)) = w15 at n0_ n1_ n2_ ⊢
      have BK101 := n0_
      have BK103 := n1_
      have HB := n2_
      clear n0_ n1_ n2_
      have n0_ := Aside0.mk (blk_drew BK101.out)
      have n1_ := Aside0.mk (blk_drew BK103.out)
      have n2_ := Aside0.mk (below_drew1 HB.out)
      clear BK101
      clear BK103
      clear HB
      have BK101 := n0_
      have BK103 := n1_
      have HB := n2_
      clear n0_ n1_ n2_
      refine start_ (n := 8) (S := fun w' => w'.cell? ⟨gb101, 0, none⟩ = some (.int .u8 a0_0) ∧ w'.cell? ⟨gb101, 1, none⟩ = some (.int .u8 a0_1) ∧ w'.cell? ⟨gb101, 2, none⟩ = some (.int .u8 a0_2) ∧ w'.cell? ⟨gb101, 3, none⟩ = some (.int .u8 a0_3) ∧ w'.cell? ⟨gb101, 4, none⟩ = some (.int .u8 a0_4) ∧ w'.cell? ⟨gb101, 5, none⟩ = some (.string a0_5) ∧ w'.cell? ⟨gb101, 6, none⟩ = some (.string a0_6) ∧ w'.cell? ⟨gb101, 7, none⟩ = some (.string a0_7) ∧ w'.cell? ⟨gb101, 8, none⟩ = some (.string a0_8) ∧ w'.cell? ⟨gb101, 9, none⟩ = some (.string a0_9) ∧ w'.cell? ⟨gb101, 10, none⟩ = some (.string a0_10) ∧ w'.cell? ⟨gb101, 11, none⟩ = some (.string a0_11) ∧ w'.cell? ⟨gb101, 12, none⟩ = some (.string a0_12) ∧ w'.cell? ⟨gb101, 13, none⟩ = some (.string a0_13) ∧ w'.cell? ⟨gb101, 14, none⟩ = some (.string a0_14)) (ds := []) #[false, false, false, false, false, false, false, false] (by kernel_rfl) rfl rfl ⟨(blk_cell BK101.out 0).trans rfl, (blk_cell BK101.out 1).trans rfl, (blk_cell BK101.out 2).trans rfl, (blk_cell BK101.out 3).trans rfl, (blk_cell BK101.out 4).trans rfl, (blk_cell BK101.out 5).trans rfl, (blk_cell BK101.out 6).trans rfl, (blk_cell BK101.out 7).trans rfl, (blk_cell BK101.out 8).trans rfl, (blk_cell BK101.out 9).trans rfl, (blk_cell BK101.out 10).trans rfl, (blk_cell BK101.out 11).trans rfl, (blk_cell BK101.out 12).trans rfl, (blk_cell BK101.out 13).trans rfl, (blk_cell BK101.out 14).trans rfl⟩ (fun hHeld => ?_); refine with_tabW ack_Build.tab4 ack_Build.bits4 (fun HT_ HW_ => ?_)
      generalize w15.drew = w16 at BK101 BK103 HB hHeld ⊢
      refine pure_ (i := 0) (N := some 13) (v := ?_) (a' := ?_) #[true, false, false, false, false, false, false, false] rfl rfl (any_of HT_.out (by kernel_rfl)) (fun _ _ _ h => h) (Or.inl ⟨by rfl, ?_⟩) ?_ ?_
      rotate_left
      · intro w'
        go_simp
        with_reducible rfl
      rotate_left
      · simp only [Act.put, List.setIfInBounds_toArray, List.set_cons_zero, List.set_cons_succ, i64_w, i32_w]
        rfl
      refine pure_ (i := 2) (N := some 15) (v := ?_) (a' := ?_) #[true, false, true, false, false, false, false, false] rfl rfl (any_of HT_.out (by kernel_rfl)) (fun _ _ _ h => h) (Or.inl ⟨by rfl, ?_⟩) ?_ ?_
      rotate_left
      · intro w'
        go_simp
        with_reducible rfl
      rotate_left
      · simp only [Act.put, List.setIfInBounds_toArray, List.set_cons_zero, List.set_cons_succ, i64_w, i32_w]
        rfl
      refine take_ (i := 1) (N := some 14) (v := ?_) (a' := ?_) #[true, true, true, false, false, false, false, false] rfl rfl (take_ofW HT_.out HW_.out (by kernel_rfl)) (fun _ _ _ h => h) (Or.inl ⟨by rfl, ?_⟩) hHeld ?_ ?_
      rotate_left
      · rintro w' ⟨s0, s1, s2, s3, s4, s5, s6, s7, s8, s9, s10, s11, s12, s13, s14⟩
        go_simp
        with_reducible rfl
      rotate_left
      · simp only [Act.put, List.setIfInBounds_toArray, List.set_cons_zero, List.set_cons_succ, i64_w, i32_w]
        rfl
      refine pure_ (i := 4) (N := some 17) (v := ?_) (a' := ?_) #[true, true, true, false, true, false, false, false] rfl rfl (any_of HT_.out (by kernel_rfl)) (fun _ _ _ h => h) (Or.inl ⟨by rfl, ?_⟩) ?_ ?_
      rotate_left
      · intro w'
        go_simp
        with_reducible rfl
      rotate_left
      · simp only [Act.put, List.setIfInBounds_toArray, List.set_cons_zero, List.set_cons_succ, i64_w, i32_w]
        rfl
      refine take_ (i := 3) (N := some 16) (v := ?_) (a' := ?_) #[true, true, true, true, true, false, false, false] rfl rfl (take_ofW HT_.out HW_.out (by kernel_rfl)) (fun _ _ _ h => h) (Or.inl ⟨by rfl, ?_⟩) hHeld ?_ ?_
      rotate_left
      · rintro w' ⟨s0, s1, s2, s3, s4, s5, s6, s7, s8, s9, s10, s11, s12, s13, s14⟩
        go_simp
        with_reducible rfl
      rotate_left
      · simp only [Act.put, List.setIfInBounds_toArray, List.set_cons_zero, List.set_cons_succ, i64_w, i32_w]
        rfl
      refine one_ (i := 5) (N := none) #[true, true, true, true, true, true, false, false] rfl rfl (one_of HT_.out (by kernel_rfl)) (by decide) (fun K hK => ?_)
      have hs17 : w16.cell? ⟨gb103, 5, none⟩ = some (.string a0_5) := (blk_cell BK103.out 5).trans rfl
      have hfs17 := blk_frozen BK103.out 5
      have hns17_0 := NB101_103.out
      have hms17_0 := NB103_101.out
      refine skip_ (w1 := ?_) (by rfl) rfl ?_ ?_
      rotate_left
      · go_simp
        rfl
      refine hK.out _ _ ⟨((cell_far (p := ⟨gb103, _, none⟩) NB101_103.out _).trans (hHeld.1)), ((cell_far (p := ⟨gb103, _, none⟩) NB101_103.out _).trans (hHeld.2.1)), ((cell_far (p := ⟨gb103, _, none⟩) NB101_103.out _).trans (hHeld.2.2.1)), ((cell_far (p := ⟨gb103, _, none⟩) NB101_103.out _).trans (hHeld.2.2.2.1)), ((cell_far (p := ⟨gb103, _, none⟩) NB101_103.out _).trans (hHeld.2.2.2.2.1)), ((cell_far (p := ⟨gb103, _, none⟩) NB101_103.out _).trans (hHeld.2.2.2.2.2.1)), ((cell_far (p := ⟨gb103, _, none⟩) NB101_103.out _).trans (hHeld.2.2.2.2.2.2.1)), ((cell_far (p := ⟨gb103, _, none⟩) NB101_103.out _).trans (hHeld.2.2.2.2.2.2.2.1)), ((cell_far (p := ⟨gb103, _, none⟩) NB101_103.out _).trans (hHeld.2.2.2.2.2.2.2.2.1)), ((cell_far (p := ⟨gb103, _, none⟩) NB101_103.out _).trans (hHeld.2.2.2.2.2.2.2.2.2.1)), ((cell_far (p := ⟨gb103, _, none⟩) NB101_103.out _).trans (hHeld.2.2.2.2.2.2.2.2.2.2.1)), ((cell_far (p := ⟨gb103, _, none⟩) NB101_103.out _).trans (hHeld.2.2.2.2.2.2.2.2.2.2.2.1)), ((cell_far (p := ⟨gb103, _, none⟩) NB101_103.out _).trans (hHeld.2.2.2.2.2.2.2.2.2.2.2.2.1)), ((cell_far (p := ⟨gb103, _, none⟩) NB101_103.out _).trans (hHeld.2.2.2.2.2.2.2.2.2.2.2.2.2.1)), ((cell_far (p := ⟨gb103, _, none⟩) NB101_103.out _).trans (hHeld.2.2.2.2.2.2.2.2.2.2.2.2.2.2))⟩ (fun hHeld => ?_)
      clear hK K
      refine pure_ (i := 6) (N := some 18) (v := ?_) (a' := ?_) #[true, true, true, true, true, true, true, false] rfl rfl (any_of HT_.out (by kernel_rfl)) (fun _ _ _ h => h) (Or.inl ⟨by rfl, ?_⟩) ?_ ?_
      rotate_left
      · intro w'
        go_simp
        with_reducible rfl
      rotate_left
      · simp only [Act.put, List.setIfInBounds_toArray, List.set_cons_zero, List.set_cons_succ, i64_w, i32_w]
        rfl
      refine one_ (i := 7) (N := none) #[true, true, true, true, true, true, true, true] rfl rfl (one_of HT_.out (by kernel_rfl)) (by decide) (fun K hK => ?_)
      have hs18 : w16.cell? ⟨gb103, 7, none⟩ = some (.string a0_7) := (blk_cell BK103.out 7).trans rfl
      have hfs18 := blk_frozen BK103.out 7
      have hns18_0 := NB101_103.out
      have hms18_0 := NB103_101.out
      refine skip_ (w1 := ?_) (by rfl) rfl ?_ ?_
      rotate_left
      · go_simp
        rfl
      refine hK.out _ _ ⟨((cell_far (p := ⟨gb103, _, none⟩) NB101_103.out _).trans (hHeld.1)), ((cell_far (p := ⟨gb103, _, none⟩) NB101_103.out _).trans (hHeld.2.1)), ((cell_far (p := ⟨gb103, _, none⟩) NB101_103.out _).trans (hHeld.2.2.1)), ((cell_far (p := ⟨gb103, _, none⟩) NB101_103.out _).trans (hHeld.2.2.2.1)), ((cell_far (p := ⟨gb103, _, none⟩) NB101_103.out _).trans (hHeld.2.2.2.2.1)), ((cell_far (p := ⟨gb103, _, none⟩) NB101_103.out _).trans (hHeld.2.2.2.2.2.1)), ((cell_far (p := ⟨gb103, _, none⟩) NB101_103.out _).trans (hHeld.2.2.2.2.2.2.1)), ((cell_far (p := ⟨gb103, _, none⟩) NB101_103.out _).trans (hHeld.2.2.2.2.2.2.2.1)), ((cell_far (p := ⟨gb103, _, none⟩) NB101_103.out _).trans (hHeld.2.2.2.2.2.2.2.2.1)), ((cell_far (p := ⟨gb103, _, none⟩) NB101_103.out _).trans (hHeld.2.2.2.2.2.2.2.2.2.1)), ((cell_far (p := ⟨gb103, _, none⟩) NB101_103.out _).trans (hHeld.2.2.2.2.2.2.2.2.2.2.1)), ((cell_far (p := ⟨gb103, _, none⟩) NB101_103.out _).trans (hHeld.2.2.2.2.2.2.2.2.2.2.2.1)), ((cell_far (p := ⟨gb103, _, none⟩) NB101_103.out _).trans (hHeld.2.2.2.2.2.2.2.2.2.2.2.2.1)), ((cell_far (p := ⟨gb103, _, none⟩) NB101_103.out _).trans (hHeld.2.2.2.2.2.2.2.2.2.2.2.2.2.1)), ((cell_far (p := ⟨gb103, _, none⟩) NB101_103.out _).trans (hHeld.2.2.2.2.2.2.2.2.2.2.2.2.2.2))⟩ (fun hHeld => ?_)
      clear hK K
      refine done_ (done_of HT_.out (by kernel_rfl)) ?_
      try go_wp2
      have n0_ : Aside0 (((w16.setCell ⟨gb103, 5, none⟩ (.string a0_7)).setCell ⟨gb103, 7, none⟩ (.string a0_5)).heap[gb101]? = some (.cells #[.int .u8 a0_0, .int .u8 a0_1, .int .u8 a0_2, .int .u8 a0_3, .int .u8 a0_4, .string a0_5, .string a0_6, .string a0_7, .string a0_8, .string a0_9, .string a0_10, .string a0_11, .string a0_12, .string a0_13, .string a0_14] 25 (0, 0))) := ⟨by (with_reducible repeat (first | refine blk_drewN ?_ _ | refine blk_drew ?_ | refine blk_alloc ?_ _)); refine blk_far ?_ NB101_103.out _; (with_reducible repeat (first | refine blk_drewN ?_ _ | refine blk_drew ?_ | refine blk_alloc ?_ _)); refine blk_far ?_ NB101_103.out _; (with_reducible repeat (first | refine blk_drewN ?_ _ | refine blk_drew ?_ | refine blk_alloc ?_ _)); exact BK101.out⟩
      have n1_ : Aside0 (((w16.setCell ⟨gb103, 5, none⟩ (.string a0_7)).setCell ⟨gb103, 7, none⟩ (.string a0_5)).heap[gb103]? = some (.cells #[.int .u8 a0_0, .int .u8 a0_1, .int .u8 a0_2, .int .u8 a0_3, .int .u8 a0_4, .string a0_7, .string a0_6, .string a0_5, .string a0_8, .string a0_9, .string a0_10, .string a0_11, .string a0_12, .string a0_13, .string a0_14] 25 (0, 0))) := ⟨by (with_reducible repeat (first | refine blk_drewN ?_ _ | refine blk_drew ?_ | refine blk_alloc ?_ _)); refine blk_put (cs := #[.int .u8 a0_0, .int .u8 a0_1, .int .u8 a0_2, .int .u8 a0_3, .int .u8 a0_4, .string a0_7, .string a0_6, .string a0_7, .string a0_8, .string a0_9, .string a0_10, .string a0_11, .string a0_12, .string a0_13, .string a0_14]) ?_ 7 _ rfl; (with_reducible repeat (first | refine blk_drewN ?_ _ | refine blk_drew ?_ | refine blk_alloc ?_ _)); refine blk_put (cs := #[.int .u8 a0_0, .int .u8 a0_1, .int .u8 a0_2, .int .u8 a0_3, .int .u8 a0_4, .string a0_5, .string a0_6, .string a0_7, .string a0_8, .string a0_9, .string a0_10, .string a0_11, .string a0_12, .string a0_13, .string a0_14]) ?_ 5 _ rfl; (with_reducible repeat (first | refine blk_drewN ?_ _ | refine blk_drew ?_ | refine blk_alloc ?_ _)); exact BK103.out⟩
      have n2_ : Aside0 (Below w.heap.size w ((w16.setCell ⟨gb103, 5, none⟩ (.string a0_7)).setCell ⟨gb103, 7, none⟩ (.string a0_5))) := ⟨by repeat (first | (with_reducible first | exact HB.out | apply below_alloc | apply pw_below_drewN | apply below_drew1 | refine below_set ?_ GE101.out | refine below_set ?_ GE103.out) | exact HB.out)⟩
      (try clear BK101)
      (try clear BK103)
      (try clear HB)
      generalize ((w16.setCell ⟨gb103, 5, none⟩ (.string a0_7)).setCell ⟨gb103, 7, none⟩ (.string a0_5)) = w19 at n0_ n1_ n2_ ⊢
      have BK101 := n0_
      have BK103 := n1_
      have HB := n2_
      clear n0_ n1_ n2_
      have n0_ := Aside0.mk (blk_drew BK101.out)
      have n1_ := Aside0.mk (blk_drew BK103.out)
      have n2_ := Aside0.mk (below_drew1 HB.out)
      clear BK101
      clear BK103
      clear HB
      have BK101 := n0_
      have BK103 := n1_
      have HB := n2_
      clear n0_ n1_ n2_
      refine start_ (n := 8) (S := fun w' => w'.cell? ⟨gb101, 0, none⟩ = some (.int .u8 a0_0) ∧ w'.cell? ⟨gb101, 1, none⟩ = some (.int .u8 a0_1) ∧ w'.cell? ⟨gb101, 2, none⟩ = some (.int .u8 a0_2) ∧ w'.cell? ⟨gb101, 3, none⟩ = some (.int .u8 a0_3) ∧ w'.cell? ⟨gb101, 4, none⟩ = some (.int .u8 a0_4) ∧ w'.cell? ⟨gb101, 5, none⟩ = some (.string a0_5) ∧ w'.cell? ⟨gb101, 6, none⟩ = some (.string a0_6) ∧ w'.cell? ⟨gb101, 7, none⟩ = some (.string a0_7) ∧ w'.cell? ⟨gb101, 8, none⟩ = some (.string a0_8) ∧ w'.cell? ⟨gb101, 9, none⟩ = some (.string a0_9) ∧ w'.cell? ⟨gb101, 10, none⟩ = some (.string a0_10) ∧ w'.cell? ⟨gb101, 11, none⟩ = some (.string a0_11) ∧ w'.cell? ⟨gb101, 12, none⟩ = some (.string a0_12) ∧ w'.cell? ⟨gb101, 13, none⟩ = some (.string a0_13) ∧ w'.cell? ⟨gb101, 14, none⟩ = some (.string a0_14)) (ds := []) #[false, false, false, false, false, false, false, false] (by kernel_rfl) rfl rfl ⟨(blk_cell BK101.out 0).trans rfl, (blk_cell BK101.out 1).trans rfl, (blk_cell BK101.out 2).trans rfl, (blk_cell BK101.out 3).trans rfl, (blk_cell BK101.out 4).trans rfl, (blk_cell BK101.out 5).trans rfl, (blk_cell BK101.out 6).trans rfl, (blk_cell BK101.out 7).trans rfl, (blk_cell BK101.out 8).trans rfl, (blk_cell BK101.out 9).trans rfl, (blk_cell BK101.out 10).trans rfl, (blk_cell BK101.out 11).trans rfl, (blk_cell BK101.out 12).trans rfl, (blk_cell BK101.out 13).trans rfl, (blk_cell BK101.out 14).trans rfl⟩ (fun hHeld => ?_); refine with_tabW ack_Build.tab5 ack_Build.bits5 (fun HT_ HW_ => ?_)
      generalize w19.drew = w20 at BK101 BK103 HB hHeld ⊢
      refine pure_ (i := 0) (N := some 19) (v := ?_) (a' := ?_) #[true, false, false, false, false, false, false, false] rfl rfl (any_of HT_.out (by kernel_rfl)) (fun _ _ _ h => h) (Or.inl ⟨by rfl, ?_⟩) ?_ ?_
      rotate_left
      · intro w'
        go_simp
        with_reducible rfl
      rotate_left
      · simp only [Act.put, List.setIfInBounds_toArray, List.set_cons_zero, List.set_cons_succ, i64_w, i32_w]
        rfl
      refine pure_ (i := 2) (N := some 21) (v := ?_) (a' := ?_) #[true, false, true, false, false, false, false, false] rfl rfl (any_of HT_.out (by kernel_rfl)) (fun _ _ _ h => h) (Or.inl ⟨by rfl, ?_⟩) ?_ ?_
      rotate_left
      · intro w'
        go_simp
        with_reducible rfl
      rotate_left
      · simp only [Act.put, List.setIfInBounds_toArray, List.set_cons_zero, List.set_cons_succ, i64_w, i32_w]
        rfl
      refine take_ (i := 1) (N := some 20) (v := ?_) (a' := ?_) #[true, true, true, false, false, false, false, false] rfl rfl (take_ofW HT_.out HW_.out (by kernel_rfl)) (fun _ _ _ h => h) (Or.inl ⟨by rfl, ?_⟩) hHeld ?_ ?_
      rotate_left
      · rintro w' ⟨s0, s1, s2, s3, s4, s5, s6, s7, s8, s9, s10, s11, s12, s13, s14⟩
        go_simp
        with_reducible rfl
      rotate_left
      · simp only [Act.put, List.setIfInBounds_toArray, List.set_cons_zero, List.set_cons_succ, i64_w, i32_w]
        rfl
      refine pure_ (i := 4) (N := some 23) (v := ?_) (a' := ?_) #[true, true, true, false, true, false, false, false] rfl rfl (any_of HT_.out (by kernel_rfl)) (fun _ _ _ h => h) (Or.inl ⟨by rfl, ?_⟩) ?_ ?_
      rotate_left
      · intro w'
        go_simp
        with_reducible rfl
      rotate_left
      · simp only [Act.put, List.setIfInBounds_toArray, List.set_cons_zero, List.set_cons_succ, i64_w, i32_w]
        rfl
      refine take_ (i := 3) (N := some 22) (v := ?_) (a' := ?_) #[true, true, true, true, true, false, false, false] rfl rfl (take_ofW HT_.out HW_.out (by kernel_rfl)) (fun _ _ _ h => h) (Or.inl ⟨by rfl, ?_⟩) hHeld ?_ ?_
      rotate_left
      · rintro w' ⟨s0, s1, s2, s3, s4, s5, s6, s7, s8, s9, s10, s11, s12, s13, s14⟩
        go_simp
        with_reducible rfl
      rotate_left
      · simp only [Act.put, List.setIfInBounds_toArray, List.set_cons_zero, List.set_cons_succ, i64_w, i32_w]
        rfl
      refine one_ (i := 5) (N := none) #[true, true, true, true, true, true, false, false] rfl rfl (one_of HT_.out (by kernel_rfl)) (by decide) (fun K hK => ?_)
      have hs21 : w20.cell? ⟨gb103, 6, none⟩ = some (.string a0_6) := (blk_cell BK103.out 6).trans rfl
      have hfs21 := blk_frozen BK103.out 6
      have hns21_0 := NB101_103.out
      have hms21_0 := NB103_101.out
      refine skip_ (w1 := ?_) (by rfl) rfl ?_ ?_
      rotate_left
      · go_simp
        rfl
      refine hK.out _ _ ⟨((cell_far (p := ⟨gb103, _, none⟩) NB101_103.out _).trans (hHeld.1)), ((cell_far (p := ⟨gb103, _, none⟩) NB101_103.out _).trans (hHeld.2.1)), ((cell_far (p := ⟨gb103, _, none⟩) NB101_103.out _).trans (hHeld.2.2.1)), ((cell_far (p := ⟨gb103, _, none⟩) NB101_103.out _).trans (hHeld.2.2.2.1)), ((cell_far (p := ⟨gb103, _, none⟩) NB101_103.out _).trans (hHeld.2.2.2.2.1)), ((cell_far (p := ⟨gb103, _, none⟩) NB101_103.out _).trans (hHeld.2.2.2.2.2.1)), ((cell_far (p := ⟨gb103, _, none⟩) NB101_103.out _).trans (hHeld.2.2.2.2.2.2.1)), ((cell_far (p := ⟨gb103, _, none⟩) NB101_103.out _).trans (hHeld.2.2.2.2.2.2.2.1)), ((cell_far (p := ⟨gb103, _, none⟩) NB101_103.out _).trans (hHeld.2.2.2.2.2.2.2.2.1)), ((cell_far (p := ⟨gb103, _, none⟩) NB101_103.out _).trans (hHeld.2.2.2.2.2.2.2.2.2.1)), ((cell_far (p := ⟨gb103, _, none⟩) NB101_103.out _).trans (hHeld.2.2.2.2.2.2.2.2.2.2.1)), ((cell_far (p := ⟨gb103, _, none⟩) NB101_103.out _).trans (hHeld.2.2.2.2.2.2.2.2.2.2.2.1)), ((cell_far (p := ⟨gb103, _, none⟩) NB101_103.out _).trans (hHeld.2.2.2.2.2.2.2.2.2.2.2.2.1)), ((cell_far (p := ⟨gb103, _, none⟩) NB101_103.out _).trans (hHeld.2.2.2.2.2.2.2.2.2.2.2.2.2.1)), ((cell_far (p := ⟨gb103, _, none⟩) NB101_103.out _).trans (hHeld.2.2.2.2.2.2.2.2.2.2.2.2.2.2))⟩ (fun hHeld => ?_)
      clear hK K
      refine pure_ (i := 6) (N := some 24) (v := ?_) (a' := ?_) #[true, true, true, true, true, true, true, false] rfl rfl (any_of HT_.out (by kernel_rfl)) (fun _ _ _ h => h) (Or.inl ⟨by rfl, ?_⟩) ?_ ?_
      rotate_left
      · intro w'
        go_simp
        with_reducible rfl
      rotate_left
      · simp only [Act.put, List.setIfInBounds_toArray, List.set_cons_zero, List.set_cons_succ, i64_w, i32_w]
        rfl
      refine one_ (i := 7) (N := none) #[true, true, true, true, true, true, true, true] rfl rfl (one_of HT_.out (by kernel_rfl)) (by decide) (fun K hK => ?_)
      have hs22 : w20.cell? ⟨gb103, 8, none⟩ = some (.string a0_8) := (blk_cell BK103.out 8).trans rfl
      have hfs22 := blk_frozen BK103.out 8
      have hns22_0 := NB101_103.out
      have hms22_0 := NB103_101.out
      refine skip_ (w1 := ?_) (by rfl) rfl ?_ ?_
      rotate_left
      · go_simp
        rfl
      refine hK.out _ _ ⟨((cell_far (p := ⟨gb103, _, none⟩) NB101_103.out _).trans (hHeld.1)), ((cell_far (p := ⟨gb103, _, none⟩) NB101_103.out _).trans (hHeld.2.1)), ((cell_far (p := ⟨gb103, _, none⟩) NB101_103.out _).trans (hHeld.2.2.1)), ((cell_far (p := ⟨gb103, _, none⟩) NB101_103.out _).trans (hHeld.2.2.2.1)), ((cell_far (p := ⟨gb103, _, none⟩) NB101_103.out _).trans (hHeld.2.2.2.2.1)), ((cell_far (p := ⟨gb103, _, none⟩) NB101_103.out _).trans (hHeld.2.2.2.2.2.1)), ((cell_far (p := ⟨gb103, _, none⟩) NB101_103.out _).trans (hHeld.2.2.2.2.2.2.1)), ((cell_far (p := ⟨gb103, _, none⟩) NB101_103.out _).trans (hHeld.2.2.2.2.2.2.2.1)), ((cell_far (p := ⟨gb103, _, none⟩) NB101_103.out _).trans (hHeld.2.2.2.2.2.2.2.2.1)), ((cell_far (p := ⟨gb103, _, none⟩) NB101_103.out _).trans (hHeld.2.2.2.2.2.2.2.2.2.1)), ((cell_far (p := ⟨gb103, _, none⟩) NB101_103.out _).trans (hHeld.2.2.2.2.2.2.2.2.2.2.1)), ((cell_far (p := ⟨gb103, _, none⟩) NB101_103.out _).trans (hHeld.2.2.2.2.2.2.2.2.2.2.2.1)), ((cell_far (p := ⟨gb103, _, none⟩) NB101_103.out _).trans (hHeld.2.2.2.2.2.2.2.2.2.2.2.2.1)), ((cell_far (p := ⟨gb103, _, none⟩) NB101_103.out _).trans (hHeld.2.2.2.2.2.2.2.2.2.2.2.2.2.1)), ((cell_far (p := ⟨gb103, _, none⟩) NB101_103.out _).trans (hHeld.2.2.2.2.2.2.2.2.2.2.2.2.2.2))⟩ (fun hHeld => ?_)
      clear hK K
      refine done_ (done_of HT_.out (by kernel_rfl)) ?_
      have hcz23_0 : w20.cell? ⟨gb103, 0, none⟩ = some (.int .u8 a0_0) := (blk_cell BK103.out 0).trans rfl
      have hcz23_1 : w20.cell? ⟨gb103, 1, none⟩ = some (.int .u8 a0_1) := (blk_cell BK103.out 1).trans rfl
      have hcz23_2 : w20.cell? ⟨gb103, 2, none⟩ = some (.int .u8 a0_2) := (blk_cell BK103.out 2).trans rfl
      have hcz23_3 : w20.cell? ⟨gb103, 3, none⟩ = some (.int .u8 a0_3) := (blk_cell BK103.out 3).trans rfl
      have hcz23_4 : w20.cell? ⟨gb103, 4, none⟩ = some (.int .u8 a0_4) := (blk_cell BK103.out 4).trans rfl
      have hcz23_5 : w20.cell? ⟨gb103, 5, none⟩ = some (.string a0_7) := (blk_cell BK103.out 5).trans rfl
      have hcz23_6 : w20.cell? ⟨gb103, 6, none⟩ = some (.string a0_6) := (blk_cell BK103.out 6).trans rfl
      have hcz23_7 : w20.cell? ⟨gb103, 7, none⟩ = some (.string a0_5) := (blk_cell BK103.out 7).trans rfl
      have hcz23_8 : w20.cell? ⟨gb103, 8, none⟩ = some (.string a0_8) := (blk_cell BK103.out 8).trans rfl
      have hcz23_9 : w20.cell? ⟨gb103, 9, none⟩ = some (.string a0_9) := (blk_cell BK103.out 9).trans rfl
      have hcz23_10 : w20.cell? ⟨gb103, 10, none⟩ = some (.string a0_10) := (blk_cell BK103.out 10).trans rfl
      have hcz23_11 : w20.cell? ⟨gb103, 11, none⟩ = some (.string a0_11) := (blk_cell BK103.out 11).trans rfl
      have hcz23_12 : w20.cell? ⟨gb103, 12, none⟩ = some (.string a0_12) := (blk_cell BK103.out 12).trans rfl
      have hcz23_13 : w20.cell? ⟨gb103, 13, none⟩ = some (.string a0_13) := (blk_cell BK103.out 13).trans rfl
      have hcz23_14 : w20.cell? ⟨gb103, 14, none⟩ = some (.string a0_14) := (blk_cell BK103.out 14).trans rfl
      have hfz23_0 := blk_frozen BK103.out 0
      have hfz23_1 := blk_frozen BK103.out 1
      have hfz23_2 := blk_frozen BK103.out 2
      have hfz23_3 := blk_frozen BK103.out 3
      have hfz23_4 := blk_frozen BK103.out 4
      have hfz23_5 := blk_frozen BK103.out 5
      have hfz23_6 := blk_frozen BK103.out 6
      have hfz23_7 := blk_frozen BK103.out 7
      have hfz23_8 := blk_frozen BK103.out 8
      have hfz23_9 := blk_frozen BK103.out 9
      have hfz23_10 := blk_frozen BK103.out 10
      have hfz23_11 := blk_frozen BK103.out 11
      have hfz23_12 := blk_frozen BK103.out 12
      have hfz23_13 := blk_frozen BK103.out 13
      have hfz23_14 := blk_frozen BK103.out 14
      try go_wp2_with (first | ((with_reducible refine gate_callee (f := 8) rfl ?_); refine goesL_ (some 29) rfl rfl Tryd.func8 (by kernel_rfl) rfl #[.agg #[.int .u8 a0_0, .int .u8 a0_1, .int .u8 a0_2, .int .u8 a0_3, .int .u8 a0_4, .string a0_7, .string a0_8, .string a0_5, .string a0_6, .string a0_9, .string (⟨#[]⟩ : ByteArray), .string (⟨#[65, 67, 75]⟩ : ByteArray), .string a0_12, .string a0_13, .string a0_14]] rfl (by (try simp only [List.map_toArray, List.map_cons, List.map_nil]); first | done | rfl | (simp only [List.length_drop, List.length_take]; rfl)) ?_; (with_reducible refine (msh_Write.calls a0_0 a0_1 a0_2 a0_3 a0_4 a0_7 a0_8 a0_5 a0_6 a0_9 (⟨#[]⟩ : ByteArray) (⟨#[65, 67, 75]⟩ : ByteArray) a0_12 a0_13 a0_14 t104 t105 _ ?side1 A5.out).mono ?_); (case side1 => exact GlobA.below HG.out (by repeat (first | (with_reducible first | exact HB.out | apply below_alloc | apply pw_below_drewN | apply below_drew1 | refine below_set ?_ GE101.out | refine below_set ?_ GE103.out) | exact HB.out))); rintro e w24 ⟨rfl, hb⟩; refine ⟨_, rfl, ?_⟩; have n0_ := Aside0.mk (blk_below (g := gb101) (o := .cells #[.int .u8 a0_0, .int .u8 a0_1, .int .u8 a0_2, .int .u8 a0_3, .int .u8 a0_4, .string a0_5, .string a0_6, .string a0_7, .string a0_8, .string a0_9, .string a0_10, .string a0_11, .string a0_12, .string a0_13, .string a0_14] 25 (0, 0)) (by (with_reducible repeat (first | refine blk_drewN ?_ _ | refine blk_drew ?_ | refine blk_alloc ?_ _)); refine blk_far ?_ NB101_103.out _; (with_reducible repeat (first | refine blk_drewN ?_ _ | refine blk_drew ?_ | refine blk_alloc ?_ _)); refine blk_far ?_ NB101_103.out _; (with_reducible repeat (first | refine blk_drewN ?_ _ | refine blk_drew ?_ | refine blk_alloc ?_ _)); refine blk_far ?_ NB101_103.out _; (with_reducible repeat (first | refine blk_drewN ?_ _ | refine blk_drew ?_ | refine blk_alloc ?_ _)); refine blk_far ?_ NB101_103.out _; (with_reducible repeat (first | refine blk_drewN ?_ _ | refine blk_drew ?_ | refine blk_alloc ?_ _)); exact BK101.out) hb); have n1_ := Aside0.mk (blk_below (g := gb103) (o := .cells #[.int .u8 a0_0, .int .u8 a0_1, .int .u8 a0_2, .int .u8 a0_3, .int .u8 a0_4, .string a0_7, .string a0_8, .string a0_5, .string a0_6, .string a0_9, .string (⟨#[]⟩ : ByteArray), .string (⟨#[65, 67, 75]⟩ : ByteArray), .string a0_12, .string a0_13, .string a0_14] 25 (0, 0)) (by (with_reducible repeat (first | refine blk_drewN ?_ _ | refine blk_drew ?_ | refine blk_alloc ?_ _)); refine blk_put (cs := #[.int .u8 a0_0, .int .u8 a0_1, .int .u8 a0_2, .int .u8 a0_3, .int .u8 a0_4, .string a0_7, .string a0_8, .string a0_5, .string a0_6, .string a0_9, .string (⟨#[]⟩ : ByteArray), .string a0_11, .string a0_12, .string a0_13, .string a0_14]) ?_ 11 _ rfl; (with_reducible repeat (first | refine blk_drewN ?_ _ | refine blk_drew ?_ | refine blk_alloc ?_ _)); refine blk_put (cs := #[.int .u8 a0_0, .int .u8 a0_1, .int .u8 a0_2, .int .u8 a0_3, .int .u8 a0_4, .string a0_7, .string a0_8, .string a0_5, .string a0_6, .string a0_9, .string a0_10, .string a0_11, .string a0_12, .string a0_13, .string a0_14]) ?_ 10 _ rfl; (with_reducible repeat (first | refine blk_drewN ?_ _ | refine blk_drew ?_ | refine blk_alloc ?_ _)); refine blk_put (cs := #[.int .u8 a0_0, .int .u8 a0_1, .int .u8 a0_2, .int .u8 a0_3, .int .u8 a0_4, .string a0_7, .string a0_8, .string a0_5, .string a0_8, .string a0_9, .string a0_10, .string a0_11, .string a0_12, .string a0_13, .string a0_14]) ?_ 8 _ rfl; (with_reducible repeat (first | refine blk_drewN ?_ _ | refine blk_drew ?_ | refine blk_alloc ?_ _)); refine blk_put (cs := #[.int .u8 a0_0, .int .u8 a0_1, .int .u8 a0_2, .int .u8 a0_3, .int .u8 a0_4, .string a0_7, .string a0_6, .string a0_5, .string a0_8, .string a0_9, .string a0_10, .string a0_11, .string a0_12, .string a0_13, .string a0_14]) ?_ 6 _ rfl; (with_reducible repeat (first | refine blk_drewN ?_ _ | refine blk_drew ?_ | refine blk_alloc ?_ _)); exact BK103.out) hb); have n2_ := Aside0.mk (below_step (by repeat (first | (with_reducible first | exact HB.out | apply below_alloc | apply pw_below_drewN | apply below_drew1 | refine below_set ?_ GE101.out | refine below_set ?_ GE103.out) | exact HB.out)) hb); clear BK101; clear BK103; clear HB; have BK101 := n0_; have BK103 := n1_; have HB := n2_; clear n0_ n1_ n2_; (try clear hb); (try clear hb2); (try clear hk); (try clear hi); have hcz25_0 : w24.cell? ⟨gb101, 0, none⟩ = some (.int .u8 a0_0) := (blk_cell BK101.out 0).trans rfl; have hcz25_1 : w24.cell? ⟨gb101, 1, none⟩ = some (.int .u8 a0_1) := (blk_cell BK101.out 1).trans rfl; have hcz25_2 : w24.cell? ⟨gb101, 2, none⟩ = some (.int .u8 a0_2) := (blk_cell BK101.out 2).trans rfl; have hcz25_3 : w24.cell? ⟨gb101, 3, none⟩ = some (.int .u8 a0_3) := (blk_cell BK101.out 3).trans rfl; have hcz25_4 : w24.cell? ⟨gb101, 4, none⟩ = some (.int .u8 a0_4) := (blk_cell BK101.out 4).trans rfl; have hcz25_5 : w24.cell? ⟨gb101, 5, none⟩ = some (.string a0_5) := (blk_cell BK101.out 5).trans rfl; have hcz25_6 : w24.cell? ⟨gb101, 6, none⟩ = some (.string a0_6) := (blk_cell BK101.out 6).trans rfl; have hcz25_7 : w24.cell? ⟨gb101, 7, none⟩ = some (.string a0_7) := (blk_cell BK101.out 7).trans rfl; have hcz25_8 : w24.cell? ⟨gb101, 8, none⟩ = some (.string a0_8) := (blk_cell BK101.out 8).trans rfl; have hcz25_9 : w24.cell? ⟨gb101, 9, none⟩ = some (.string a0_9) := (blk_cell BK101.out 9).trans rfl; have hcz25_10 : w24.cell? ⟨gb101, 10, none⟩ = some (.string a0_10) := (blk_cell BK101.out 10).trans rfl; have hcz25_11 : w24.cell? ⟨gb101, 11, none⟩ = some (.string a0_11) := (blk_cell BK101.out 11).trans rfl; have hcz25_12 : w24.cell? ⟨gb101, 12, none⟩ = some (.string a0_12) := (blk_cell BK101.out 12).trans rfl; have hcz25_13 : w24.cell? ⟨gb101, 13, none⟩ = some (.string a0_13) := (blk_cell BK101.out 13).trans rfl; have hcz25_14 : w24.cell? ⟨gb101, 14, none⟩ = some (.string a0_14) := (blk_cell BK101.out 14).trans rfl; have hfz25_0 := blk_frozen BK101.out 0; have hfz25_1 := blk_frozen BK101.out 1; have hfz25_2 := blk_frozen BK101.out 2; have hfz25_3 := blk_frozen BK101.out 3; have hfz25_4 := blk_frozen BK101.out 4; have hfz25_5 := blk_frozen BK101.out 5; have hfz25_6 := blk_frozen BK101.out 6; have hfz25_7 := blk_frozen BK101.out 7; have hfz25_8 := blk_frozen BK101.out 8; have hfz25_9 := blk_frozen BK101.out 9; have hfz25_10 := blk_frozen BK101.out 10; have hfz25_11 := blk_frozen BK101.out 11; have hfz25_12 := blk_frozen BK101.out 12; have hfz25_13 := blk_frozen BK101.out 13; have hfz25_14 := blk_frozen BK101.out 14) | ((with_reducible refine gate_dst (N := 41) rfl ?_); refine Kd.R_lit Kd.string _ 9 ?hg (N := 41) ?hd (xs := ([a1, a0_12] : List ByteArray)) (inner := [.string a1, .string a0_12]) (ok := fun _ => True) (okp := fun _ => True) ?hr ?hp (fun _ hk => hk) trivial (Below.refl _ _) (Nat.le_refl _) (by simp) ?_; (case hd => rfl); (case hg => rfl); (case hr => first | (go_simp; done) | (go_simp; rfl)); (case hp => exact (Reps.one (show Kd.M Kd.string _ _ _ a1 [.string a1] from rfl) (Reps.one (show Kd.M Kd.string _ _ _ a0_12 [.string a0_12] from rfl) (Reps.none _ _)))); intro v107 w26 ho27 hb hg_ hnew_; clear hg_ hnew_; (first | rw [← Ny106.out] at ho27 | (simp only [Int.reduceToNat] at ho27; rw [← Ny106.out] at ho27)); have n0_ := Aside0.mk (Kd.R_lower ho27 (below_size (by repeat (first | (with_reducible first | exact HB.out | apply below_alloc | apply pw_below_drewN | apply below_drew1 | refine below_set ?_ GE101.out | refine below_set ?_ GE103.out) | exact HB.out)))); have n1_ := Aside0.mk (blk_below (g := gb101) (o := .cells #[.int .u8 a0_0, .int .u8 a0_1, .int .u8 a0_2, .int .u8 a0_3, .int .u8 a0_4, .string a0_5, .string a0_6, .string a0_7, .string a0_8, .string a0_9, .string a0_10, .string a0_11, .string a0_12, .string a0_13, .string a0_14] 25 (0, 0)) (by (with_reducible repeat (first | refine blk_drewN ?_ _ | refine blk_drew ?_ | refine blk_alloc ?_ _)); exact BK101.out) hb); have n2_ := Aside0.mk (blk_below (g := gb103) (o := .cells #[.int .u8 a0_0, .int .u8 a0_1, .int .u8 a0_2, .int .u8 a0_3, .int .u8 a0_4, .string a0_7, .string a0_8, .string a0_5, .string a0_6, .string a0_9, .string (⟨#[]⟩ : ByteArray), .string (⟨#[65, 67, 75]⟩ : ByteArray), .string a0_12, .string a0_13, .string a0_14] 25 (0, 0)) (by (with_reducible repeat (first | refine blk_drewN ?_ _ | refine blk_drew ?_ | refine blk_alloc ?_ _)); exact BK103.out) hb); have n3_ := Aside0.mk (below_step (by repeat (first | (with_reducible first | exact HB.out | apply below_alloc | apply pw_below_drewN | apply below_drew1 | refine below_set ?_ GE101.out | refine below_set ?_ GE103.out) | exact HB.out)) hb); clear BK101; clear BK103; clear HB; have HO108 := n0_; have BK101 := n1_; have BK103 := n2_; have HB := n3_; clear n0_ n1_ n2_ n3_; clear hb ho27; obtain ⟨Ao28, co28, eo28⟩ := Kd.R_slice HO108.out; subst eo28) | ((with_reducible refine gate_callee (f := 22) rfl ?_); refine goesL_ (some 42) rfl rfl Tryd.func22 (by kernel_rfl) rfl #[.agg #[.int .u8 a0_0, .int .u8 a0_1, .int .u8 a0_2, .int .u8 a0_3, .int .u8 a0_4], .string (⟨#[77, 83, 65]⟩ : ByteArray), .slice Ao28 y106.length co28] rfl (by (try simp only [List.map_toArray, List.map_cons, List.map_nil]); first | done | rfl | (simp only [List.length_drop, List.length_take]; rfl)) ?_; (with_reducible refine (QMake.segment_Make.calls a0_0 a0_1 a0_2 a0_3 a0_4 (⟨#[77, 83, 65]⟩ : ByteArray) _ _ y106 t109 _ ?side1 ?side2 A7.out).mono ?_); (case side1 => repeat (first | exact (Kd.R_reads' HO108.out).2.2 | (with_reducible refine Kd.C_alloc ?_ _) | (with_reducible refine Kd.C_drewN ?_ _) | (with_reducible refine Kd.C_drew ?_))); (case side2 => exact (Kd.R_reads' HO108.out).2.1); rintro e w29 ⟨rfl, hb⟩; refine ⟨_, rfl, ?_⟩; have n0_ := Aside0.mk (Kd.R_below (by (with_reducible repeat (first | apply Kd.R_alloc | apply Kd.R_drewN | apply Kd.R_drew)); exact HO108.out) hb); have n1_ := Aside0.mk (blk_below (g := gb101) (o := .cells #[.int .u8 a0_0, .int .u8 a0_1, .int .u8 a0_2, .int .u8 a0_3, .int .u8 a0_4, .string a0_5, .string a0_6, .string a0_7, .string a0_8, .string a0_9, .string a0_10, .string a0_11, .string a0_12, .string a0_13, .string a0_14] 25 (0, 0)) (by (with_reducible repeat (first | refine blk_drewN ?_ _ | refine blk_drew ?_ | refine blk_alloc ?_ _)); exact BK101.out) hb); have n2_ := Aside0.mk (blk_below (g := gb103) (o := .cells #[.int .u8 a0_0, .int .u8 a0_1, .int .u8 a0_2, .int .u8 a0_3, .int .u8 a0_4, .string a0_7, .string a0_8, .string a0_5, .string a0_6, .string a0_9, .string (⟨#[]⟩ : ByteArray), .string (⟨#[65, 67, 75]⟩ : ByteArray), .string a0_12, .string a0_13, .string a0_14] 25 (0, 0)) (by (with_reducible repeat (first | refine blk_drewN ?_ _ | refine blk_drew ?_ | refine blk_alloc ?_ _)); exact BK103.out) hb); have n3_ := Aside0.mk (below_step (by repeat (first | (with_reducible first | exact HB.out | apply below_alloc | apply pw_below_drewN | apply below_drew1 | refine below_set ?_ GE101.out | refine below_set ?_ GE103.out) | exact HB.out)) hb); clear HO108; clear BK101; clear BK103; clear HB; have HO108 := n0_; have BK101 := n1_; have BK103 := n2_; have HB := n3_; clear n0_ n1_ n2_ n3_; (try clear hb); (try clear hb2); (try clear hk); (try clear hi)) | ((with_reducible refine gate_dst (N := 43) rfl ?_); refine Kd.R_lit Kd.string _ 9 ?hg (N := 43) ?hd (xs := ([t104, t109] : List ByteArray)) (inner := [.string t104, .string t109]) (ok := fun _ => True) (okp := fun _ => True) ?hr ?hp (fun _ hk => hk) trivial (Below.refl _ _) (Nat.le_refl _) (by simp) ?_; (case hd => rfl); (case hg => rfl); (case hr => first | (go_simp; done) | (go_simp; rfl)); (case hp => exact (Reps.one (show Kd.M Kd.string _ _ _ t104 [.string t104] from rfl) (Reps.one (show Kd.M Kd.string _ _ _ t109 [.string t109] from rfl) (Reps.none _ _)))); intro v111 w30 ho31 hb hg_ hnew_; clear hg_ hnew_; (first | rw [← Ny110.out] at ho31 | (simp only [Int.reduceToNat] at ho31; rw [← Ny110.out] at ho31)); have n0_ := Aside0.mk (Kd.R_elder' (by (with_reducible repeat (first | apply Kd.R_alloc | apply Kd.R_drewN | apply Kd.R_drew)); exact HO108.out) (Kd.R_base ho31) hb); have n1_ := Aside0.mk (Kd.R_lower (Kd.R_new' ho31 (Kd.R_lt (by (with_reducible repeat (first | apply Kd.R_alloc | apply Kd.R_drewN | apply Kd.R_drew)); exact HO108.out))) (below_size (by repeat (first | (with_reducible first | exact HB.out | apply below_alloc | apply pw_below_drewN | apply below_drew1 | refine below_set ?_ GE101.out | refine below_set ?_ GE103.out) | exact HB.out)))); have n2_ := Aside0.mk (blk_below (g := gb101) (o := .cells #[.int .u8 a0_0, .int .u8 a0_1, .int .u8 a0_2, .int .u8 a0_3, .int .u8 a0_4, .string a0_5, .string a0_6, .string a0_7, .string a0_8, .string a0_9, .string a0_10, .string a0_11, .string a0_12, .string a0_13, .string a0_14] 25 (0, 0)) (by (with_reducible repeat (first | refine blk_drewN ?_ _ | refine blk_drew ?_ | refine blk_alloc ?_ _)); exact BK101.out) hb); have n3_ := Aside0.mk (blk_below (g := gb103) (o := .cells #[.int .u8 a0_0, .int .u8 a0_1, .int .u8 a0_2, .int .u8 a0_3, .int .u8 a0_4, .string a0_7, .string a0_8, .string a0_5, .string a0_6, .string a0_9, .string (⟨#[]⟩ : ByteArray), .string (⟨#[65, 67, 75]⟩ : ByteArray), .string a0_12, .string a0_13, .string a0_14] 25 (0, 0)) (by (with_reducible repeat (first | refine blk_drewN ?_ _ | refine blk_drew ?_ | refine blk_alloc ?_ _)); exact BK103.out) hb); have n4_ := Aside0.mk (below_step (by repeat (first | (with_reducible first | exact HB.out | apply below_alloc | apply pw_below_drewN | apply below_drew1 | refine below_set ?_ GE101.out | refine below_set ?_ GE103.out) | exact HB.out)) hb); clear HO108; clear BK101; clear BK103; clear HB; have HO108 := n0_; have HO112 := n1_; have BK101 := n2_; have BK103 := n3_; have HB := n4_; clear n0_ n1_ n2_ n3_ n4_; clear hb ho31; obtain ⟨Ao32, co32, eo32⟩ := Kd.R_slice HO112.out; subst eo32) | ((with_reducible refine gate_callee (f := 61) rfl ?_); refine goesL_ (some 44) rfl rfl Tryd.func61 (by kernel_rfl) rfl #[.slice Ao32 y110.length co32] rfl (by (try simp only [List.map_toArray, List.map_cons, List.map_nil]); first | done | rfl | (simp only [List.length_drop, List.length_take]; rfl)) ?_; (with_reducible refine (QJoin.segment_Join.calls k _ _ y110 t113 _ ?side1 ?side2 A8.out).mono ?_); (case side1 => repeat (first | exact (Kd.R_reads' HO112.out).2.2 | (with_reducible refine Kd.C_alloc ?_ _) | (with_reducible refine Kd.C_drewN ?_ _) | (with_reducible refine Kd.C_drew ?_))); (case side2 => exact (Kd.R_reads' HO112.out).2.1); rintro e w33 ⟨v114, rfl, ho0, hb⟩; refine ⟨_, rfl, ?_⟩; have n0_ := Aside0.mk (Kd.R_below (by (with_reducible repeat (first | apply Kd.R_alloc | apply Kd.R_drewN | apply Kd.R_drew)); exact HO108.out) hb); have n1_ := Aside0.mk (Kd.R_below (by (with_reducible repeat (first | apply Kd.R_alloc | apply Kd.R_drewN | apply Kd.R_drew)); exact HO112.out) hb); have n2_ := Aside0.mk (Kd.R_lower ho0 (below_size (by repeat (first | (with_reducible first | exact HB.out | apply below_alloc | apply pw_below_drewN | apply below_drew1 | refine below_set ?_ GE101.out | refine below_set ?_ GE103.out) | exact HB.out)))); have n3_ := Aside0.mk (blk_below (g := gb101) (o := .cells #[.int .u8 a0_0, .int .u8 a0_1, .int .u8 a0_2, .int .u8 a0_3, .int .u8 a0_4, .string a0_5, .string a0_6, .string a0_7, .string a0_8, .string a0_9, .string a0_10, .string a0_11, .string a0_12, .string a0_13, .string a0_14] 25 (0, 0)) (by (with_reducible repeat (first | refine blk_drewN ?_ _ | refine blk_drew ?_ | refine blk_alloc ?_ _)); exact BK101.out) hb); have n4_ := Aside0.mk (blk_below (g := gb103) (o := .cells #[.int .u8 a0_0, .int .u8 a0_1, .int .u8 a0_2, .int .u8 a0_3, .int .u8 a0_4, .string a0_7, .string a0_8, .string a0_5, .string a0_6, .string a0_9, .string (⟨#[]⟩ : ByteArray), .string (⟨#[65, 67, 75]⟩ : ByteArray), .string a0_12, .string a0_13, .string a0_14] 25 (0, 0)) (by (with_reducible repeat (first | refine blk_drewN ?_ _ | refine blk_drew ?_ | refine blk_alloc ?_ _)); exact BK103.out) hb); have n5_ := Aside0.mk (below_step (by repeat (first | (with_reducible first | exact HB.out | apply below_alloc | apply pw_below_drewN | apply below_drew1 | refine below_set ?_ GE101.out | refine below_set ?_ GE103.out) | exact HB.out)) hb); clear HO108; clear HO112; clear BK101; clear BK103; clear HB; have HO108 := n0_; have HO112 := n1_; have HO115 := n2_; have BK101 := n3_; have BK103 := n4_; have HB := n5_; clear n0_ n1_ n2_ n3_ n4_ n5_; (try clear hb); (try clear hb2); (try clear hk); (try clear hi); (try clear ho0)))
      go_ret2
      exact ⟨_, by first | rfl | (simp [errW_none, errW_some] <;> rfl) | (simp [*, errW_none, errW_some] <;> rfl), by (with_reducible repeat (first | apply Kd.R_alloc | apply Kd.R_drewN | apply Kd.R_drew)); exact HO115.out, by repeat (first | (with_reducible first | exact HB.out | apply below_alloc | apply pw_below_drewN | apply below_drew1 | refine below_set ?_ GE101.out | refine below_set ?_ GE103.out) | exact HB.out)⟩
    · rw [if_neg c6] at H
      have c6b0 : (t105 == 0) = false := beq_eq_false_iff_ne.mpr c6
      have c6b1 : (t105 != 0) = true := bne_iff_ne.mpr c6
      simp only [Option.some.injEq, Prod.mk.injEq] at H
      obtain ⟨rfl, rfl⟩ := H
      go_enter Tryd.func30, Tryd.ntmps30
      try go_wp2_with (first | ((with_reducible refine gate_dst (N := 2) rfl ?_); refine box_event ?hg (N := 2) ?hd (cs := #[.int .u8 a0_0, .int .u8 a0_1, .int .u8 a0_2, .int .u8 a0_3, .int .u8 a0_4, .string a0_5, .string a0_6, .string a0_7, .string a0_8, .string a0_9, .string a0_10, .string a0_11, .string a0_12, .string a0_13, .string a0_14]) (t := 25) ?hr ?_; (case hd => rfl); (case hg => rfl); (case hr => first | (go_simp; done) | (go_simp; rfl)); intro gb101 hg w34 hbox hb; have n0_ := Aside0.mk (below_step (by repeat (first | (with_reducible first | exact HB.out | apply below_alloc | apply pw_below_drewN | apply below_drew1) | exact HB.out)) hb); have n1_ := Aside0.mk (hbox); have n2_ := Aside0.mk ((by rw [hg]; exact (below_size (by repeat (first | (with_reducible first | exact HB.out | apply below_alloc | apply pw_below_drewN | apply below_drew1) | exact HB.out))) : w.heap.size ≤ gb101)); have n3_ := Aside0.mk ((by rw [hg]; exact (below_size (by repeat (first | (with_reducible first | exact HB.out | apply below_alloc | apply pw_below_drewN | apply below_drew1) | exact HB.out))) : w.heap.size ≤ gb101)); clear HB; have HB := n0_; have BK101 := n1_; have GW101 := n2_; have GE101 := n3_; clear n0_ n1_ n2_ n3_; clear hb hbox hg) | ((with_reducible refine gate_callee (f := 38) rfl ?_); refine goesL_ (some 10) rfl rfl Tryd.func38 (by kernel_rfl) rfl #[.string a1] rfl (by (try simp only [List.map_toArray, List.map_cons, List.map_nil]); first | done | rfl | (simp only [List.length_drop, List.length_take]; rfl)) ?_; (with_reducible refine (ack_Known.calls a1 true _ ?side1 A3.out).mono ?_); (case side1 => exact GlobA.below HG.out (by repeat (first | (with_reducible first | exact HB.out | apply below_alloc | apply pw_below_drewN | apply below_drew1 | refine below_set ?_ GE101.out) | exact HB.out))); rintro e w35 ⟨rfl, hb⟩; refine ⟨_, rfl, ?_⟩; have n0_ := Aside0.mk (blk_below (g := gb101) (o := .cells #[.int .u8 a0_0, .int .u8 a0_1, .int .u8 a0_2, .int .u8 a0_3, .int .u8 a0_4, .string a0_5, .string a0_6, .string a0_7, .string a0_8, .string a0_9, .string a0_10, .string a0_11, .string a0_12, .string a0_13, .string a0_14] 25 (0, 0)) (by (with_reducible repeat (first | refine blk_drewN ?_ _ | refine blk_drew ?_ | refine blk_alloc ?_ _)); exact BK101.out) hb); have n1_ := Aside0.mk (below_step (by repeat (first | (with_reducible first | exact HB.out | apply below_alloc | apply pw_below_drewN | apply below_drew1 | refine below_set ?_ GE101.out) | exact HB.out)) hb); clear BK101; clear HB; have BK101 := n0_; have HB := n1_; clear n0_ n1_; (try clear hb); (try clear hb2); (try clear hk); (try clear hi); have hcz36_0 : w35.cell? ⟨gb101, 0, none⟩ = some (.int .u8 a0_0) := (blk_cell BK101.out 0).trans rfl; have hcz36_1 : w35.cell? ⟨gb101, 1, none⟩ = some (.int .u8 a0_1) := (blk_cell BK101.out 1).trans rfl; have hcz36_2 : w35.cell? ⟨gb101, 2, none⟩ = some (.int .u8 a0_2) := (blk_cell BK101.out 2).trans rfl; have hcz36_3 : w35.cell? ⟨gb101, 3, none⟩ = some (.int .u8 a0_3) := (blk_cell BK101.out 3).trans rfl; have hcz36_4 : w35.cell? ⟨gb101, 4, none⟩ = some (.int .u8 a0_4) := (blk_cell BK101.out 4).trans rfl; have hcz36_5 : w35.cell? ⟨gb101, 5, none⟩ = some (.string a0_5) := (blk_cell BK101.out 5).trans rfl; have hcz36_6 : w35.cell? ⟨gb101, 6, none⟩ = some (.string a0_6) := (blk_cell BK101.out 6).trans rfl; have hcz36_7 : w35.cell? ⟨gb101, 7, none⟩ = some (.string a0_7) := (blk_cell BK101.out 7).trans rfl; have hcz36_8 : w35.cell? ⟨gb101, 8, none⟩ = some (.string a0_8) := (blk_cell BK101.out 8).trans rfl; have hcz36_9 : w35.cell? ⟨gb101, 9, none⟩ = some (.string a0_9) := (blk_cell BK101.out 9).trans rfl; have hcz36_10 : w35.cell? ⟨gb101, 10, none⟩ = some (.string a0_10) := (blk_cell BK101.out 10).trans rfl; have hcz36_11 : w35.cell? ⟨gb101, 11, none⟩ = some (.string a0_11) := (blk_cell BK101.out 11).trans rfl; have hcz36_12 : w35.cell? ⟨gb101, 12, none⟩ = some (.string a0_12) := (blk_cell BK101.out 12).trans rfl; have hcz36_13 : w35.cell? ⟨gb101, 13, none⟩ = some (.string a0_13) := (blk_cell BK101.out 13).trans rfl; have hcz36_14 : w35.cell? ⟨gb101, 14, none⟩ = some (.string a0_14) := (blk_cell BK101.out 14).trans rfl; have hfz36_0 := blk_frozen BK101.out 0; have hfz36_1 := blk_frozen BK101.out 1; have hfz36_2 := blk_frozen BK101.out 2; have hfz36_3 := blk_frozen BK101.out 3; have hfz36_4 := blk_frozen BK101.out 4; have hfz36_5 := blk_frozen BK101.out 5; have hfz36_6 := blk_frozen BK101.out 6; have hfz36_7 := blk_frozen BK101.out 7; have hfz36_8 := blk_frozen BK101.out 8; have hfz36_9 := blk_frozen BK101.out 9; have hfz36_10 := blk_frozen BK101.out 10; have hfz36_11 := blk_frozen BK101.out 11; have hfz36_12 := blk_frozen BK101.out 12; have hfz36_13 := blk_frozen BK101.out 13; have hfz36_14 := blk_frozen BK101.out 14) | ((with_reducible refine gate_dst (N := 6) rfl ?_); refine box_event ?hg (N := 6) ?hd (cs := #[.int .u8 0, .int .u8 0, .int .u8 0, .int .u8 0, .int .u8 0, .string (⟨#[]⟩ : ByteArray), .string (⟨#[]⟩ : ByteArray), .string (⟨#[]⟩ : ByteArray), .string (⟨#[]⟩ : ByteArray), .string (⟨#[]⟩ : ByteArray), .string (⟨#[]⟩ : ByteArray), .string (⟨#[]⟩ : ByteArray), .string (⟨#[]⟩ : ByteArray), .string (⟨#[]⟩ : ByteArray), .string (⟨#[]⟩ : ByteArray)]) (t := 25) ?hr ?_; (case hd => rfl); (case hg => rfl); (case hr => first | (go_simp; done) | (go_simp; rfl)); intro gb103 hg w37 hbox hb; have n0_ := Aside0.mk (blk_below (g := gb101) (o := .cells #[.int .u8 a0_0, .int .u8 a0_1, .int .u8 a0_2, .int .u8 a0_3, .int .u8 a0_4, .string a0_5, .string a0_6, .string a0_7, .string a0_8, .string a0_9, .string a0_10, .string a0_11, .string a0_12, .string a0_13, .string a0_14] 25 (0, 0)) (by (with_reducible repeat (first | refine blk_drewN ?_ _ | refine blk_drew ?_ | refine blk_alloc ?_ _)); exact BK101.out) hb); have n1_ := Aside0.mk (below_step (by repeat (first | (with_reducible first | exact HB.out | apply below_alloc | apply pw_below_drewN | apply below_drew1 | refine below_set ?_ GE101.out) | exact HB.out)) hb); have n2_ := Aside0.mk (hbox); have n3_ := Aside0.mk ((by rw [hg]; exact (below_size (by repeat (first | (with_reducible first | exact HB.out | apply below_alloc | apply pw_below_drewN | apply below_drew1 | refine below_set ?_ GE101.out) | exact HB.out))) : w.heap.size ≤ gb103)); have n4_ := Aside0.mk ((by rw [hg]; exact (below_size (by repeat (first | (with_reducible first | exact HB.out | apply below_alloc | apply pw_below_drewN | apply below_drew1 | refine below_set ?_ GE101.out) | exact HB.out))) : w.heap.size ≤ gb103)); have n5_ := Aside0.mk ((by rw [hg]; exact Nat.ne_of_lt (blk_lt (g := gb101) (o := .cells #[.int .u8 a0_0, .int .u8 a0_1, .int .u8 a0_2, .int .u8 a0_3, .int .u8 a0_4, .string a0_5, .string a0_6, .string a0_7, .string a0_8, .string a0_9, .string a0_10, .string a0_11, .string a0_12, .string a0_13, .string a0_14] 25 (0, 0)) (by (with_reducible repeat (first | refine blk_drewN ?_ _ | refine blk_drew ?_ | refine blk_alloc ?_ _)); exact BK101.out)) : gb101 ≠ gb103)); have n6_ := Aside0.mk ((by rw [hg]; exact Nat.ne_of_gt (blk_lt (g := gb101) (o := .cells #[.int .u8 a0_0, .int .u8 a0_1, .int .u8 a0_2, .int .u8 a0_3, .int .u8 a0_4, .string a0_5, .string a0_6, .string a0_7, .string a0_8, .string a0_9, .string a0_10, .string a0_11, .string a0_12, .string a0_13, .string a0_14] 25 (0, 0)) (by (with_reducible repeat (first | refine blk_drewN ?_ _ | refine blk_drew ?_ | refine blk_alloc ?_ _)); exact BK101.out)) : gb103 ≠ gb101)); clear BK101; clear HB; have BK101 := n0_; have HB := n1_; have BK103 := n2_; have GW103 := n3_; have GE103 := n4_; have NB101_103 := n5_; have NB103_101 := n6_; clear n0_ n1_ n2_ n3_ n4_ n5_ n6_; clear hb hbox hg; have hnb38 := NB103_101.out; have hnc38 := NB101_103.out; have hcz39_0 : w37.cell? ⟨gb103, 0, none⟩ = some (.int .u8 0) := (blk_cell BK103.out 0).trans rfl; have hcz39_1 : w37.cell? ⟨gb103, 1, none⟩ = some (.int .u8 0) := (blk_cell BK103.out 1).trans rfl; have hcz39_2 : w37.cell? ⟨gb103, 2, none⟩ = some (.int .u8 0) := (blk_cell BK103.out 2).trans rfl; have hcz39_3 : w37.cell? ⟨gb103, 3, none⟩ = some (.int .u8 0) := (blk_cell BK103.out 3).trans rfl; have hcz39_4 : w37.cell? ⟨gb103, 4, none⟩ = some (.int .u8 0) := (blk_cell BK103.out 4).trans rfl; have hcz39_5 : w37.cell? ⟨gb103, 5, none⟩ = some (.string (⟨#[]⟩ : ByteArray)) := (blk_cell BK103.out 5).trans rfl; have hcz39_6 : w37.cell? ⟨gb103, 6, none⟩ = some (.string (⟨#[]⟩ : ByteArray)) := (blk_cell BK103.out 6).trans rfl; have hcz39_7 : w37.cell? ⟨gb103, 7, none⟩ = some (.string (⟨#[]⟩ : ByteArray)) := (blk_cell BK103.out 7).trans rfl; have hcz39_8 : w37.cell? ⟨gb103, 8, none⟩ = some (.string (⟨#[]⟩ : ByteArray)) := (blk_cell BK103.out 8).trans rfl; have hcz39_9 : w37.cell? ⟨gb103, 9, none⟩ = some (.string (⟨#[]⟩ : ByteArray)) := (blk_cell BK103.out 9).trans rfl; have hcz39_10 : w37.cell? ⟨gb103, 10, none⟩ = some (.string (⟨#[]⟩ : ByteArray)) := (blk_cell BK103.out 10).trans rfl; have hcz39_11 : w37.cell? ⟨gb103, 11, none⟩ = some (.string (⟨#[]⟩ : ByteArray)) := (blk_cell BK103.out 11).trans rfl; have hcz39_12 : w37.cell? ⟨gb103, 12, none⟩ = some (.string (⟨#[]⟩ : ByteArray)) := (blk_cell BK103.out 12).trans rfl; have hcz39_13 : w37.cell? ⟨gb103, 13, none⟩ = some (.string (⟨#[]⟩ : ByteArray)) := (blk_cell BK103.out 13).trans rfl; have hcz39_14 : w37.cell? ⟨gb103, 14, none⟩ = some (.string (⟨#[]⟩ : ByteArray)) := (blk_cell BK103.out 14).trans rfl; have hfz39_0 := blk_frozen BK103.out 0; have hfz39_1 := blk_frozen BK103.out 1; have hfz39_2 := blk_frozen BK103.out 2; have hfz39_3 := blk_frozen BK103.out 3; have hfz39_4 := blk_frozen BK103.out 4; have hfz39_5 := blk_frozen BK103.out 5; have hfz39_6 := blk_frozen BK103.out 6; have hfz39_7 := blk_frozen BK103.out 7; have hfz39_8 := blk_frozen BK103.out 8; have hfz39_9 := blk_frozen BK103.out 9; have hfz39_10 := blk_frozen BK103.out 10; have hfz39_11 := blk_frozen BK103.out 11; have hfz39_12 := blk_frozen BK103.out 12; have hfz39_13 := blk_frozen BK103.out 13; have hfz39_14 := blk_frozen BK103.out 14))
      have n0_ : Aside0 ((((((((((((((((w37.setCell ⟨gb103, 0, none⟩ (.int .u8 a0_0)).setCell ⟨gb103, 1, none⟩ (.int .u8 a0_1)).setCell ⟨gb103, 2, none⟩ (.int .u8 a0_2)).setCell ⟨gb103, 3, none⟩ (.int .u8 a0_3)).setCell ⟨gb103, 4, none⟩ (.int .u8 a0_4)).setCell ⟨gb103, 5, none⟩ (.string a0_5)).setCell ⟨gb103, 6, none⟩ (.string a0_6)).setCell ⟨gb103, 7, none⟩ (.string a0_7)).setCell ⟨gb103, 8, none⟩ (.string a0_8)).setCell ⟨gb103, 9, none⟩ (.string a0_9)).setCell ⟨gb103, 10, none⟩ (.string a0_10)).setCell ⟨gb103, 11, none⟩ (.string a0_11)).setCell ⟨gb103, 12, none⟩ (.string a0_12)).setCell ⟨gb103, 13, none⟩ (.string a0_13)).setCell ⟨gb103, 14, none⟩ (.string a0_14)).heap[gb101]? = some (.cells #[.int .u8 a0_0, .int .u8 a0_1, .int .u8 a0_2, .int .u8 a0_3, .int .u8 a0_4, .string a0_5, .string a0_6, .string a0_7, .string a0_8, .string a0_9, .string a0_10, .string a0_11, .string a0_12, .string a0_13, .string a0_14] 25 (0, 0))) := ⟨by (with_reducible repeat (first | refine blk_drewN ?_ _ | refine blk_drew ?_ | refine blk_alloc ?_ _)); refine blk_far ?_ NB101_103.out _; (with_reducible repeat (first | refine blk_drewN ?_ _ | refine blk_drew ?_ | refine blk_alloc ?_ _)); refine blk_far ?_ NB101_103.out _; (with_reducible repeat (first | refine blk_drewN ?_ _ | refine blk_drew ?_ | refine blk_alloc ?_ _)); refine blk_far ?_ NB101_103.out _; (with_reducible repeat (first | refine blk_drewN ?_ _ | refine blk_drew ?_ | refine blk_alloc ?_ _)); refine blk_far ?_ NB101_103.out _; (with_reducible repeat (first | refine blk_drewN ?_ _ | refine blk_drew ?_ | refine blk_alloc ?_ _)); refine blk_far ?_ NB101_103.out _; (with_reducible repeat (first | refine blk_drewN ?_ _ | refine blk_drew ?_ | refine blk_alloc ?_ _)); refine blk_far ?_ NB101_103.out _; (with_reducible repeat (first | refine blk_drewN ?_ _ | refine blk_drew ?_ | refine blk_alloc ?_ _)); refine blk_far ?_ NB101_103.out _; (with_reducible repeat (first | refine blk_drewN ?_ _ | refine blk_drew ?_ | refine blk_alloc ?_ _)); refine blk_far ?_ NB101_103.out _; (with_reducible repeat (first | refine blk_drewN ?_ _ | refine blk_drew ?_ | refine blk_alloc ?_ _)); refine blk_far ?_ NB101_103.out _; (with_reducible repeat (first | refine blk_drewN ?_ _ | refine blk_drew ?_ | refine blk_alloc ?_ _)); refine blk_far ?_ NB101_103.out _; (with_reducible repeat (first | refine blk_drewN ?_ _ | refine blk_drew ?_ | refine blk_alloc ?_ _)); refine blk_far ?_ NB101_103.out _; (with_reducible repeat (first | refine blk_drewN ?_ _ | refine blk_drew ?_ | refine blk_alloc ?_ _)); refine blk_far ?_ NB101_103.out _; (with_reducible repeat (first | refine blk_drewN ?_ _ | refine blk_drew ?_ | refine blk_alloc ?_ _)); refine blk_far ?_ NB101_103.out _; (with_reducible repeat (first | refine blk_drewN ?_ _ | refine blk_drew ?_ | refine blk_alloc ?_ _)); refine blk_far ?_ NB101_103.out _; (with_reducible repeat (first | refine blk_drewN ?_ _ | refine blk_drew ?_ | refine blk_alloc ?_ _)); refine blk_far ?_ NB101_103.out _; (with_reducible repeat (first | refine blk_drewN ?_ _ | refine blk_drew ?_ | refine blk_alloc ?_ _)); exact BK101.out⟩
      have n1_ : Aside0 ((((((((((((((((w37.setCell ⟨gb103, 0, none⟩ (.int .u8 a0_0)).setCell ⟨gb103, 1, none⟩ (.int .u8 a0_1)).setCell ⟨gb103, 2, none⟩ (.int .u8 a0_2)).setCell ⟨gb103, 3, none⟩ (.int .u8 a0_3)).setCell ⟨gb103, 4, none⟩ (.int .u8 a0_4)).setCell ⟨gb103, 5, none⟩ (.string a0_5)).setCell ⟨gb103, 6, none⟩ (.string a0_6)).setCell ⟨gb103, 7, none⟩ (.string a0_7)).setCell ⟨gb103, 8, none⟩ (.string a0_8)).setCell ⟨gb103, 9, none⟩ (.string a0_9)).setCell ⟨gb103, 10, none⟩ (.string a0_10)).setCell ⟨gb103, 11, none⟩ (.string a0_11)).setCell ⟨gb103, 12, none⟩ (.string a0_12)).setCell ⟨gb103, 13, none⟩ (.string a0_13)).setCell ⟨gb103, 14, none⟩ (.string a0_14)).heap[gb103]? = some (.cells #[.int .u8 a0_0, .int .u8 a0_1, .int .u8 a0_2, .int .u8 a0_3, .int .u8 a0_4, .string a0_5, .string a0_6, .string a0_7, .string a0_8, .string a0_9, .string a0_10, .string a0_11, .string a0_12, .string a0_13, .string a0_14] 25 (0, 0))) := ⟨by (with_reducible repeat (first | refine blk_drewN ?_ _ | refine blk_drew ?_ | refine blk_alloc ?_ _)); refine blk_put (cs := #[.int .u8 a0_0, .int .u8 a0_1, .int .u8 a0_2, .int .u8 a0_3, .int .u8 a0_4, .string a0_5, .string a0_6, .string a0_7, .string a0_8, .string a0_9, .string a0_10, .string a0_11, .string a0_12, .string a0_13, .string (⟨#[]⟩ : ByteArray)]) ?_ 14 _ rfl; (with_reducible repeat (first | refine blk_drewN ?_ _ | refine blk_drew ?_ | refine blk_alloc ?_ _)); refine blk_put (cs := #[.int .u8 a0_0, .int .u8 a0_1, .int .u8 a0_2, .int .u8 a0_3, .int .u8 a0_4, .string a0_5, .string a0_6, .string a0_7, .string a0_8, .string a0_9, .string a0_10, .string a0_11, .string a0_12, .string (⟨#[]⟩ : ByteArray), .string (⟨#[]⟩ : ByteArray)]) ?_ 13 _ rfl; (with_reducible repeat (first | refine blk_drewN ?_ _ | refine blk_drew ?_ | refine blk_alloc ?_ _)); refine blk_put (cs := #[.int .u8 a0_0, .int .u8 a0_1, .int .u8 a0_2, .int .u8 a0_3, .int .u8 a0_4, .string a0_5, .string a0_6, .string a0_7, .string a0_8, .string a0_9, .string a0_10, .string a0_11, .string (⟨#[]⟩ : ByteArray), .string (⟨#[]⟩ : ByteArray), .string (⟨#[]⟩ : ByteArray)]) ?_ 12 _ rfl; (with_reducible repeat (first | refine blk_drewN ?_ _ | refine blk_drew ?_ | refine blk_alloc ?_ _)); refine blk_put (cs := #[.int .u8 a0_0, .int .u8 a0_1, .int .u8 a0_2, .int .u8 a0_3, .int .u8 a0_4, .string a0_5, .string a0_6, .string a0_7, .string a0_8, .string a0_9, .string a0_10, .string (⟨#[]⟩ : ByteArray), .string (⟨#[]⟩ : ByteArray), .string (⟨#[]⟩ : ByteArray), .string (⟨#[]⟩ : ByteArray)]) ?_ 11 _ rfl; (with_reducible repeat (first | refine blk_drewN ?_ _ | refine blk_drew ?_ | refine blk_alloc ?_ _)); refine blk_put (cs := #[.int .u8 a0_0, .int .u8 a0_1, .int .u8 a0_2, .int .u8 a0_3, .int .u8 a0_4, .string a0_5, .string a0_6, .string a0_7, .string a0_8, .string a0_9, .string (⟨#[]⟩ : ByteArray), .string (⟨#[]⟩ : ByteArray), .string (⟨#[]⟩ : ByteArray), .string (⟨#[]⟩ : ByteArray), .string (⟨#[]⟩ : ByteArray)]) ?_ 10 _ rfl; (with_reducible repeat (first | refine blk_drewN ?_ _ | refine blk_drew ?_ | refine blk_alloc ?_ _)); refine blk_put (cs := #[.int .u8 a0_0, .int .u8 a0_1, .int .u8 a0_2, .int .u8 a0_3, .int .u8 a0_4, .string a0_5, .string a0_6, .string a0_7, .string a0_8, .string (⟨#[]⟩ : ByteArray), .string (⟨#[]⟩ : ByteArray), .string (⟨#[]⟩ : ByteArray), .string (⟨#[]⟩ : ByteArray), .string (⟨#[]⟩ : ByteArray), .string (⟨#[]⟩ : ByteArray)]) ?_ 9 _ rfl; (with_reducible repeat (first | refine blk_drewN ?_ _ | refine blk_drew ?_ | refine blk_alloc ?_ _)); refine blk_put (cs := #[.int .u8 a0_0, .int .u8 a0_1, .int .u8 a0_2, .int .u8 a0_3, .int .u8 a0_4, .string a0_5, .string a0_6, .string a0_7, .string (⟨#[]⟩ : ByteArray), .string (⟨#[]⟩ : ByteArray), .string (⟨#[]⟩ : ByteArray), .string (⟨#[]⟩ : ByteArray), .string (⟨#[]⟩ : ByteArray), .string (⟨#[]⟩ : ByteArray), .string (⟨#[]⟩ : ByteArray)]) ?_ 8 _ rfl; (with_reducible repeat (first | refine blk_drewN ?_ _ | refine blk_drew ?_ | refine blk_alloc ?_ _)); refine blk_put (cs := #[.int .u8 a0_0, .int .u8 a0_1, .int .u8 a0_2, .int .u8 a0_3, .int .u8 a0_4, .string a0_5, .string a0_6, .string (⟨#[]⟩ : ByteArray), .string (⟨#[]⟩ : ByteArray), .string (⟨#[]⟩ : ByteArray), .string (⟨#[]⟩ : ByteArray), .string (⟨#[]⟩ : ByteArray), .string (⟨#[]⟩ : ByteArray), .string (⟨#[]⟩ : ByteArray), .string (⟨#[]⟩ : ByteArray)]) ?_ 7 _ rfl; (with_reducible repeat (first | refine blk_drewN ?_ _ | refine blk_drew ?_ | refine blk_alloc ?_ _)); refine blk_put (cs := #[.int .u8 a0_0, .int .u8 a0_1, .int .u8 a0_2, .int .u8 a0_3, .int .u8 a0_4, .string a0_5, .string (⟨#[]⟩ : ByteArray), .string (⟨#[]⟩ : ByteArray), .string (⟨#[]⟩ : ByteArray), .string (⟨#[]⟩ : ByteArray), .string (⟨#[]⟩ : ByteArray), .string (⟨#[]⟩ : ByteArray), .string (⟨#[]⟩ : ByteArray), .string (⟨#[]⟩ : ByteArray), .string (⟨#[]⟩ : ByteArray)]) ?_ 6 _ rfl; (with_reducible repeat (first | refine blk_drewN ?_ _ | refine blk_drew ?_ | refine blk_alloc ?_ _)); refine blk_put (cs := #[.int .u8 a0_0, .int .u8 a0_1, .int .u8 a0_2, .int .u8 a0_3, .int .u8 a0_4, .string (⟨#[]⟩ : ByteArray), .string (⟨#[]⟩ : ByteArray), .string (⟨#[]⟩ : ByteArray), .string (⟨#[]⟩ : ByteArray), .string (⟨#[]⟩ : ByteArray), .string (⟨#[]⟩ : ByteArray), .string (⟨#[]⟩ : ByteArray), .string (⟨#[]⟩ : ByteArray), .string (⟨#[]⟩ : ByteArray), .string (⟨#[]⟩ : ByteArray)]) ?_ 5 _ rfl; (with_reducible repeat (first | refine blk_drewN ?_ _ | refine blk_drew ?_ | refine blk_alloc ?_ _)); refine blk_put (cs := #[.int .u8 a0_0, .int .u8 a0_1, .int .u8 a0_2, .int .u8 a0_3, .int .u8 0, .string (⟨#[]⟩ : ByteArray), .string (⟨#[]⟩ : ByteArray), .string (⟨#[]⟩ : ByteArray), .string (⟨#[]⟩ : ByteArray), .string (⟨#[]⟩ : ByteArray), .string (⟨#[]⟩ : ByteArray), .string (⟨#[]⟩ : ByteArray), .string (⟨#[]⟩ : ByteArray), .string (⟨#[]⟩ : ByteArray), .string (⟨#[]⟩ : ByteArray)]) ?_ 4 _ rfl; (with_reducible repeat (first | refine blk_drewN ?_ _ | refine blk_drew ?_ | refine blk_alloc ?_ _)); refine blk_put (cs := #[.int .u8 a0_0, .int .u8 a0_1, .int .u8 a0_2, .int .u8 0, .int .u8 0, .string (⟨#[]⟩ : ByteArray), .string (⟨#[]⟩ : ByteArray), .string (⟨#[]⟩ : ByteArray), .string (⟨#[]⟩ : ByteArray), .string (⟨#[]⟩ : ByteArray), .string (⟨#[]⟩ : ByteArray), .string (⟨#[]⟩ : ByteArray), .string (⟨#[]⟩ : ByteArray), .string (⟨#[]⟩ : ByteArray), .string (⟨#[]⟩ : ByteArray)]) ?_ 3 _ rfl; (with_reducible repeat (first | refine blk_drewN ?_ _ | refine blk_drew ?_ | refine blk_alloc ?_ _)); refine blk_put (cs := #[.int .u8 a0_0, .int .u8 a0_1, .int .u8 0, .int .u8 0, .int .u8 0, .string (⟨#[]⟩ : ByteArray), .string (⟨#[]⟩ : ByteArray), .string (⟨#[]⟩ : ByteArray), .string (⟨#[]⟩ : ByteArray), .string (⟨#[]⟩ : ByteArray), .string (⟨#[]⟩ : ByteArray), .string (⟨#[]⟩ : ByteArray), .string (⟨#[]⟩ : ByteArray), .string (⟨#[]⟩ : ByteArray), .string (⟨#[]⟩ : ByteArray)]) ?_ 2 _ rfl; (with_reducible repeat (first | refine blk_drewN ?_ _ | refine blk_drew ?_ | refine blk_alloc ?_ _)); refine blk_put (cs := #[.int .u8 a0_0, .int .u8 0, .int .u8 0, .int .u8 0, .int .u8 0, .string (⟨#[]⟩ : ByteArray), .string (⟨#[]⟩ : ByteArray), .string (⟨#[]⟩ : ByteArray), .string (⟨#[]⟩ : ByteArray), .string (⟨#[]⟩ : ByteArray), .string (⟨#[]⟩ : ByteArray), .string (⟨#[]⟩ : ByteArray), .string (⟨#[]⟩ : ByteArray), .string (⟨#[]⟩ : ByteArray), .string (⟨#[]⟩ : ByteArray)]) ?_ 1 _ rfl; (with_reducible repeat (first | refine blk_drewN ?_ _ | refine blk_drew ?_ | refine blk_alloc ?_ _)); refine blk_put (cs := #[.int .u8 0, .int .u8 0, .int .u8 0, .int .u8 0, .int .u8 0, .string (⟨#[]⟩ : ByteArray), .string (⟨#[]⟩ : ByteArray), .string (⟨#[]⟩ : ByteArray), .string (⟨#[]⟩ : ByteArray), .string (⟨#[]⟩ : ByteArray), .string (⟨#[]⟩ : ByteArray), .string (⟨#[]⟩ : ByteArray), .string (⟨#[]⟩ : ByteArray), .string (⟨#[]⟩ : ByteArray), .string (⟨#[]⟩ : ByteArray)]) ?_ 0 _ rfl; (with_reducible repeat (first | refine blk_drewN ?_ _ | refine blk_drew ?_ | refine blk_alloc ?_ _)); exact BK103.out⟩
      have n2_ : Aside0 (Below w.heap.size w (((((((((((((((w37.setCell ⟨gb103, 0, none⟩ (.int .u8 a0_0)).setCell ⟨gb103, 1, none⟩ (.int .u8 a0_1)).setCell ⟨gb103, 2, none⟩ (.int .u8 a0_2)).setCell ⟨gb103, 3, none⟩ (.int .u8 a0_3)).setCell ⟨gb103, 4, none⟩ (.int .u8 a0_4)).setCell ⟨gb103, 5, none⟩ (.string a0_5)).setCell ⟨gb103, 6, none⟩ (.string a0_6)).setCell ⟨gb103, 7, none⟩ (.string a0_7)).setCell ⟨gb103, 8, none⟩ (.string a0_8)).setCell ⟨gb103, 9, none⟩ (.string a0_9)).setCell ⟨gb103, 10, none⟩ (.string a0_10)).setCell ⟨gb103, 11, none⟩ (.string a0_11)).setCell ⟨gb103, 12, none⟩ (.string a0_12)).setCell ⟨gb103, 13, none⟩ (.string a0_13)).setCell ⟨gb103, 14, none⟩ (.string a0_14))) := ⟨by repeat (first | (with_reducible first | exact HB.out | apply below_alloc | apply pw_below_drewN | apply below_drew1 | refine below_set ?_ GE101.out | refine below_set ?_ GE103.out) | exact HB.out)⟩
      (try clear BK101)
      (try clear BK103)
      (try clear HB)
      generalize (((((((((((((((w37.setCell ⟨gb103, 0, none⟩ (.int .u8 a0_0)).setCell ⟨gb103, 1, none⟩ (.int .u8 a0_1)).setCell ⟨gb103, 2, none⟩ (.int .u8 a0_2)).setCell ⟨gb103, 3, none⟩ (.int .u8 a0_3)).setCell ⟨gb103, 4, none⟩ (.int .u8 a0_4)).setCell ⟨gb103, 5, none⟩ (.string a0_5)).setCell ⟨gb103, 6, none⟩ (.string a0_6)).setCell ⟨gb103, 7, none⟩ (.string a0_7)).setCell ⟨gb103, 8, none⟩ (.string a0_8)).setCell ⟨gb103, 9, none⟩ (.string a0_9)).setCell ⟨gb103, 10, none⟩ (.string a0_10)).setCell ⟨gb103, 11, none⟩ (.string a0_11)).setCell ⟨gb103, 12, none⟩ (.string a0_12)).setCell ⟨gb103, 13, none⟩ (.string a0_13)).setCell ⟨gb103, 14, none⟩ (.string a0_14)) = w40 at n0_ n1_ n2_ ⊢
      have BK101 := n0_
      have BK103 := n1_
      have HB := n2_
      clear n0_ n1_ n2_
      have n0_ := Aside0.mk (blk_drew BK101.out)
      have n1_ := Aside0.mk (blk_drew BK103.out)
      have n2_ := Aside0.mk (below_drew1 HB.out)
      clear BK101
      clear BK103
      clear HB
      have BK101 := n0_
      have BK103 := n1_
      have HB := n2_
      clear n0_ n1_ n2_
      refine start_ (n := 8) (S := fun w' => w'.cell? ⟨gb101, 0, none⟩ = some (.int .u8 a0_0) ∧ w'.cell? ⟨gb101, 1, none⟩ = some (.int .u8 a0_1) ∧ w'.cell? ⟨gb101, 2, none⟩ = some (.int .u8 a0_2) ∧ w'.cell? ⟨gb101, 3, none⟩ = some (.int .u8 a0_3) ∧ w'.cell? ⟨gb101, 4, none⟩ = some (.int .u8 a0_4) ∧ w'.cell? ⟨gb101, 5, none⟩ = some (.string a0_5) ∧ w'.cell? ⟨gb101, 6, none⟩ = some (.string a0_6) ∧ w'.cell? ⟨gb101, 7, none⟩ = some (.string a0_7) ∧ w'.cell? ⟨gb101, 8, none⟩ = some (.string a0_8) ∧ w'.cell? ⟨gb101, 9, none⟩ = some (.string a0_9) ∧ w'.cell? ⟨gb101, 10, none⟩ = some (.string a0_10) ∧ w'.cell? ⟨gb101, 11, none⟩ = some (.string a0_11) ∧ w'.cell? ⟨gb101, 12, none⟩ = some (.string a0_12) ∧ w'.cell? ⟨gb101, 13, none⟩ = some (.string a0_13) ∧ w'.cell? ⟨gb101, 14, none⟩ = some (.string a0_14)) (ds := []) #[false, false, false, false, false, false, false, false] (by kernel_rfl) rfl rfl ⟨(blk_cell BK101.out 0).trans rfl, (blk_cell BK101.out 1).trans rfl, (blk_cell BK101.out 2).trans rfl, (blk_cell BK101.out 3).trans rfl, (blk_cell BK101.out 4).trans rfl, (blk_cell BK101.out 5).trans rfl, (blk_cell BK101.out 6).trans rfl, (blk_cell BK101.out 7).trans rfl, (blk_cell BK101.out 8).trans rfl, (blk_cell BK101.out 9).trans rfl, (blk_cell BK101.out 10).trans rfl, (blk_cell BK101.out 11).trans rfl, (blk_cell BK101.out 12).trans rfl, (blk_cell BK101.out 13).trans rfl, (blk_cell BK101.out 14).trans rfl⟩ (fun hHeld => ?_); refine with_tabW ack_Build.tab4 ack_Build.bits4 (fun HT_ HW_ => ?_)
      generalize w40.drew = w41 at BK101 BK103 HB hHeld ⊢
      refine pure_ (i := 0) (N := some 13) (v := ?_) (a' := ?_) #[true, false, false, false, false, false, false, false] rfl rfl (any_of HT_.out (by kernel_rfl)) (fun _ _ _ h => h) (Or.inl ⟨by rfl, ?_⟩) ?_ ?_
      rotate_left
      · intro w'
        go_simp
        with_reducible rfl
      rotate_left
      · simp only [Act.put, List.setIfInBounds_toArray, List.set_cons_zero, List.set_cons_succ, i64_w, i32_w]
        rfl
      refine pure_ (i := 2) (N := some 15) (v := ?_) (a' := ?_) #[true, false, true, false, false, false, false, false] rfl rfl (any_of HT_.out (by kernel_rfl)) (fun _ _ _ h => h) (Or.inl ⟨by rfl, ?_⟩) ?_ ?_
      rotate_left
      · intro w'
        go_simp
        with_reducible rfl
      rotate_left
      · simp only [Act.put, List.setIfInBounds_toArray, List.set_cons_zero, List.set_cons_succ, i64_w, i32_w]
        rfl
      refine take_ (i := 1) (N := some 14) (v := ?_) (a' := ?_) #[true, true, true, false, false, false, false, false] rfl rfl (take_ofW HT_.out HW_.out (by kernel_rfl)) (fun _ _ _ h => h) (Or.inl ⟨by rfl, ?_⟩) hHeld ?_ ?_
      rotate_left
      · rintro w' ⟨s0, s1, s2, s3, s4, s5, s6, s7, s8, s9, s10, s11, s12, s13, s14⟩
        go_simp
        with_reducible rfl
      rotate_left
      · simp only [Act.put, List.setIfInBounds_toArray, List.set_cons_zero, List.set_cons_succ, i64_w, i32_w]
        rfl
      refine pure_ (i := 4) (N := some 17) (v := ?_) (a' := ?_) #[true, true, true, false, true, false, false, false] rfl rfl (any_of HT_.out (by kernel_rfl)) (fun _ _ _ h => h) (Or.inl ⟨by rfl, ?_⟩) ?_ ?_
      rotate_left
      · intro w'
        go_simp
        with_reducible rfl
      rotate_left
      · simp only [Act.put, List.setIfInBounds_toArray, List.set_cons_zero, List.set_cons_succ, i64_w, i32_w]
        rfl
      refine take_ (i := 3) (N := some 16) (v := ?_) (a' := ?_) #[true, true, true, true, true, false, false, false] rfl rfl (take_ofW HT_.out HW_.out (by kernel_rfl)) (fun _ _ _ h => h) (Or.inl ⟨by rfl, ?_⟩) hHeld ?_ ?_
      rotate_left
      · rintro w' ⟨s0, s1, s2, s3, s4, s5, s6, s7, s8, s9, s10, s11, s12, s13, s14⟩
        go_simp
        with_reducible rfl
      rotate_left
      · simp only [Act.put, List.setIfInBounds_toArray, List.set_cons_zero, List.set_cons_succ, i64_w, i32_w]
        rfl
      refine one_ (i := 5) (N := none) #[true, true, true, true, true, true, false, false] rfl rfl (one_of HT_.out (by kernel_rfl)) (by decide) (fun K hK => ?_)
      have hs42 : w41.cell? ⟨gb103, 5, none⟩ = some (.string a0_5) := (blk_cell BK103.out 5).trans rfl
      have hfs42 := blk_frozen BK103.out 5
      have hns42_0 := NB101_103.out
      have hms42_0 := NB103_101.out
      refine skip_ (w1 := ?_) (by rfl) rfl ?_ ?_
      rotate_left
      · go_simp
        rfl
      refine hK.out _ _ ⟨((cell_far (p := ⟨gb103, _, none⟩) NB101_103.out _).trans (hHeld.1)), ((cell_far (p := ⟨gb103, _, none⟩) NB101_103.out _).trans (hHeld.2.1)), ((cell_far (p := ⟨gb103, _, none⟩) NB101_103.out _).trans (hHeld.2.2.1)), ((cell_far (p := ⟨gb103, _, none⟩) NB101_103.out _).trans (hHeld.2.2.2.1)), ((cell_far (p := ⟨gb103, _, none⟩) NB101_103.out _).trans (hHeld.2.2.2.2.1)), ((cell_far (p := ⟨gb103, _, none⟩) NB101_103.out _).trans (hHeld.2.2.2.2.2.1)), ((cell_far (p := ⟨gb103, _, none⟩) NB101_103.out _).trans (hHeld.2.2.2.2.2.2.1)), ((cell_far (p := ⟨gb103, _, none⟩) NB101_103.out _).trans (hHeld.2.2.2.2.2.2.2.1)), ((cell_far (p := ⟨gb103, _, none⟩) NB101_103.out _).trans (hHeld.2.2.2.2.2.2.2.2.1)), ((cell_far (p := ⟨gb103, _, none⟩) NB101_103.out _).trans (hHeld.2.2.2.2.2.2.2.2.2.1)), ((cell_far (p := ⟨gb103, _, none⟩) NB101_103.out _).trans (hHeld.2.2.2.2.2.2.2.2.2.2.1)), ((cell_far (p := ⟨gb103, _, none⟩) NB101_103.out _).trans (hHeld.2.2.2.2.2.2.2.2.2.2.2.1)), ((cell_far (p := ⟨gb103, _, none⟩) NB101_103.out _).trans (hHeld.2.2.2.2.2.2.2.2.2.2.2.2.1)), ((cell_far (p := ⟨gb103, _, none⟩) NB101_103.out _).trans (hHeld.2.2.2.2.2.2.2.2.2.2.2.2.2.1)), ((cell_far (p := ⟨gb103, _, none⟩) NB101_103.out _).trans (hHeld.2.2.2.2.2.2.2.2.2.2.2.2.2.2))⟩ (fun hHeld => ?_)
      clear hK K
      refine pure_ (i := 6) (N := some 18) (v := ?_) (a' := ?_) #[true, true, true, true, true, true, true, false] rfl rfl (any_of HT_.out (by kernel_rfl)) (fun _ _ _ h => h) (Or.inl ⟨by rfl, ?_⟩) ?_ ?_
      rotate_left
      · intro w'
        go_simp
        with_reducible rfl
      rotate_left
      · simp only [Act.put, List.setIfInBounds_toArray, List.set_cons_zero, List.set_cons_succ, i64_w, i32_w]
        rfl
      refine one_ (i := 7) (N := none) #[true, true, true, true, true, true, true, true] rfl rfl (one_of HT_.out (by kernel_rfl)) (by decide) (fun K hK => ?_)
      have hs43 : w41.cell? ⟨gb103, 7, none⟩ = some (.string a0_7) := (blk_cell BK103.out 7).trans rfl
      have hfs43 := blk_frozen BK103.out 7
      have hns43_0 := NB101_103.out
      have hms43_0 := NB103_101.out
      refine skip_ (w1 := ?_) (by rfl) rfl ?_ ?_
      rotate_left
      · go_simp
        rfl
      refine hK.out _ _ ⟨((cell_far (p := ⟨gb103, _, none⟩) NB101_103.out _).trans (hHeld.1)), ((cell_far (p := ⟨gb103, _, none⟩) NB101_103.out _).trans (hHeld.2.1)), ((cell_far (p := ⟨gb103, _, none⟩) NB101_103.out _).trans (hHeld.2.2.1)), ((cell_far (p := ⟨gb103, _, none⟩) NB101_103.out _).trans (hHeld.2.2.2.1)), ((cell_far (p := ⟨gb103, _, none⟩) NB101_103.out _).trans (hHeld.2.2.2.2.1)), ((cell_far (p := ⟨gb103, _, none⟩) NB101_103.out _).trans (hHeld.2.2.2.2.2.1)), ((cell_far (p := ⟨gb103, _, none⟩) NB101_103.out _).trans (hHeld.2.2.2.2.2.2.1)), ((cell_far (p := ⟨gb103, _, none⟩) NB101_103.out _).trans (hHeld.2.2.2.2.2.2.2.1)), ((cell_far (p := ⟨gb103, _, none⟩) NB101_103.out _).trans (hHeld.2.2.2.2.2.2.2.2.1)), ((cell_far (p := ⟨gb103, _, none⟩) NB101_103.out _).trans (hHeld.2.2.2.2.2.2.2.2.2.1)), ((cell_far (p := ⟨gb103, _, none⟩) NB101_103.out _).trans (hHeld.2.2.2.2.2.2.2.2.2.2.1)), ((cell_far (p := ⟨gb103, _, none⟩) NB101_103.out _).trans (hHeld.2.2.2.2.2.2.2.2.2.2.2.1)), ((cell_far (p := ⟨gb103, _, none⟩) NB101_103.out _).trans (hHeld.2.2.2.2.2.2.2.2.2.2.2.2.1)), ((cell_far (p := ⟨gb103, _, none⟩) NB101_103.out _).trans (hHeld.2.2.2.2.2.2.2.2.2.2.2.2.2.1)), ((cell_far (p := ⟨gb103, _, none⟩) NB101_103.out _).trans (hHeld.2.2.2.2.2.2.2.2.2.2.2.2.2.2))⟩ (fun hHeld => ?_)
      clear hK K
      refine done_ (done_of HT_.out (by kernel_rfl)) ?_
      try go_wp2
      have n0_ : Aside0 (((w41.setCell ⟨gb103, 5, none⟩ (.string a0_7)).setCell ⟨gb103, 7, none⟩ (.string a0_5)).heap[gb101]? = some (.cells #[.int .u8 a0_0, .int .u8 a0_1, .int .u8 a0_2, .int .u8 a0_3, .int .u8 a0_4, .string a0_5, .string a0_6, .string a0_7, .string a0_8, .string a0_9, .string a0_10, .string a0_11, .string a0_12, .string a0_13, .string a0_14] 25 (0, 0))) := ⟨by (with_reducible repeat (first | refine blk_drewN ?_ _ | refine blk_drew ?_ | refine blk_alloc ?_ _)); refine blk_far ?_ NB101_103.out _; (with_reducible repeat (first | refine blk_drewN ?_ _ | refine blk_drew ?_ | refine blk_alloc ?_ _)); refine blk_far ?_ NB101_103.out _; (with_reducible repeat (first | refine blk_drewN ?_ _ | refine blk_drew ?_ | refine blk_alloc ?_ _)); exact BK101.out⟩
      have n1_ : Aside0 (((w41.setCell ⟨gb103, 5, none⟩ (.string a0_7)).setCell ⟨gb103, 7, none⟩ (.string a0_5)).heap[gb103]? = some (.cells #[.int .u8 a0_0, .int .u8 a0_1, .int .u8 a0_2, .int .u8 a0_3, .int .u8 a0_4, .string a0_7, .string a0_6, .string a0_5, .string a0_8, .string a0_9, .string a0_10, .string a0_11, .string a0_12, .string a0_13, .string a0_14] 25 (0, 0))) := ⟨by (with_reducible repeat (first | refine blk_drewN ?_ _ | refine blk_drew ?_ | refine blk_alloc ?_ _)); refine blk_put (cs := #[.int .u8 a0_0, .int .u8 a0_1, .int .u8 a0_2, .int .u8 a0_3, .int .u8 a0_4, .string a0_7, .string a0_6, .string a0_7, .string a0_8, .string a0_9, .string a0_10, .string a0_11, .string a0_12, .string a0_13, .string a0_14]) ?_ 7 _ rfl; (with_reducible repeat (first | refine blk_drewN ?_ _ | refine blk_drew ?_ | refine blk_alloc ?_ _)); refine blk_put (cs := #[.int .u8 a0_0, .int .u8 a0_1, .int .u8 a0_2, .int .u8 a0_3, .int .u8 a0_4, .string a0_5, .string a0_6, .string a0_7, .string a0_8, .string a0_9, .string a0_10, .string a0_11, .string a0_12, .string a0_13, .string a0_14]) ?_ 5 _ rfl; (with_reducible repeat (first | refine blk_drewN ?_ _ | refine blk_drew ?_ | refine blk_alloc ?_ _)); exact BK103.out⟩
      have n2_ : Aside0 (Below w.heap.size w ((w41.setCell ⟨gb103, 5, none⟩ (.string a0_7)).setCell ⟨gb103, 7, none⟩ (.string a0_5))) := ⟨by repeat (first | (with_reducible first | exact HB.out | apply below_alloc | apply pw_below_drewN | apply below_drew1 | refine below_set ?_ GE101.out | refine below_set ?_ GE103.out) | exact HB.out)⟩
      (try clear BK101)
      (try clear BK103)
      (try clear HB)
      generalize ((w41.setCell ⟨gb103, 5, none⟩ (.string a0_7)).setCell ⟨gb103, 7, none⟩ (.string a0_5)) = w44 at n0_ n1_ n2_ ⊢
      have BK101 := n0_
      have BK103 := n1_
      have HB := n2_
      clear n0_ n1_ n2_
      have n0_ := Aside0.mk (blk_drew BK101.out)
      have n1_ := Aside0.mk (blk_drew BK103.out)
      have n2_ := Aside0.mk (below_drew1 HB.out)
      clear BK101
      clear BK103
      clear HB
      have BK101 := n0_
      have BK103 := n1_
      have HB := n2_
      clear n0_ n1_ n2_
      refine start_ (n := 8) (S := fun w' => w'.cell? ⟨gb101, 0, none⟩ = some (.int .u8 a0_0) ∧ w'.cell? ⟨gb101, 1, none⟩ = some (.int .u8 a0_1) ∧ w'.cell? ⟨gb101, 2, none⟩ = some (.int .u8 a0_2) ∧ w'.cell? ⟨gb101, 3, none⟩ = some (.int .u8 a0_3) ∧ w'.cell? ⟨gb101, 4, none⟩ = some (.int .u8 a0_4) ∧ w'.cell? ⟨gb101, 5, none⟩ = some (.string a0_5) ∧ w'.cell? ⟨gb101, 6, none⟩ = some (.string a0_6) ∧ w'.cell? ⟨gb101, 7, none⟩ = some (.string a0_7) ∧ w'.cell? ⟨gb101, 8, none⟩ = some (.string a0_8) ∧ w'.cell? ⟨gb101, 9, none⟩ = some (.string a0_9) ∧ w'.cell? ⟨gb101, 10, none⟩ = some (.string a0_10) ∧ w'.cell? ⟨gb101, 11, none⟩ = some (.string a0_11) ∧ w'.cell? ⟨gb101, 12, none⟩ = some (.string a0_12) ∧ w'.cell? ⟨gb101, 13, none⟩ = some (.string a0_13) ∧ w'.cell? ⟨gb101, 14, none⟩ = some (.string a0_14)) (ds := []) #[false, false, false, false, false, false, false, false] (by kernel_rfl) rfl rfl ⟨(blk_cell BK101.out 0).trans rfl, (blk_cell BK101.out 1).trans rfl, (blk_cell BK101.out 2).trans rfl, (blk_cell BK101.out 3).trans rfl, (blk_cell BK101.out 4).trans rfl, (blk_cell BK101.out 5).trans rfl, (blk_cell BK101.out 6).trans rfl, (blk_cell BK101.out 7).trans rfl, (blk_cell BK101.out 8).trans rfl, (blk_cell BK101.out 9).trans rfl, (blk_cell BK101.out 10).trans rfl, (blk_cell BK101.out 11).trans rfl, (blk_cell BK101.out 12).trans rfl, (blk_cell BK101.out 13).trans rfl, (blk_cell BK101.out 14).trans rfl⟩ (fun hHeld => ?_); refine with_tabW ack_Build.tab5 ack_Build.bits5 (fun HT_ HW_ => ?_)
      generalize w44.drew = w45 at BK101 BK103 HB hHeld ⊢
      refine pure_ (i := 0) (N := some 19) (v := ?_) (a' := ?_) #[true, false, false, false, false, false, false, false] rfl rfl (any_of HT_.out (by kernel_rfl)) (fun _ _ _ h => h) (Or.inl ⟨by rfl, ?_⟩) ?_ ?_
      rotate_left
      · intro w'
        go_simp
        with_reducible rfl
      rotate_left
      · simp only [Act.put, List.setIfInBounds_toArray, List.set_cons_zero, List.set_cons_succ, i64_w, i32_w]
        rfl
      refine pure_ (i := 2) (N := some 21) (v := ?_) (a' := ?_) #[true, false, true, false, false, false, false, false] rfl rfl (any_of HT_.out (by kernel_rfl)) (fun _ _ _ h => h) (Or.inl ⟨by rfl, ?_⟩) ?_ ?_
      rotate_left
      · intro w'
        go_simp
        with_reducible rfl
      rotate_left
      · simp only [Act.put, List.setIfInBounds_toArray, List.set_cons_zero, List.set_cons_succ, i64_w, i32_w]
        rfl
      refine take_ (i := 1) (N := some 20) (v := ?_) (a' := ?_) #[true, true, true, false, false, false, false, false] rfl rfl (take_ofW HT_.out HW_.out (by kernel_rfl)) (fun _ _ _ h => h) (Or.inl ⟨by rfl, ?_⟩) hHeld ?_ ?_
      rotate_left
      · rintro w' ⟨s0, s1, s2, s3, s4, s5, s6, s7, s8, s9, s10, s11, s12, s13, s14⟩
        go_simp
        with_reducible rfl
      rotate_left
      · simp only [Act.put, List.setIfInBounds_toArray, List.set_cons_zero, List.set_cons_succ, i64_w, i32_w]
        rfl
      refine pure_ (i := 4) (N := some 23) (v := ?_) (a' := ?_) #[true, true, true, false, true, false, false, false] rfl rfl (any_of HT_.out (by kernel_rfl)) (fun _ _ _ h => h) (Or.inl ⟨by rfl, ?_⟩) ?_ ?_
      rotate_left
      · intro w'
        go_simp
        with_reducible rfl
      rotate_left
      · simp only [Act.put, List.setIfInBounds_toArray, List.set_cons_zero, List.set_cons_succ, i64_w, i32_w]
        rfl
      refine take_ (i := 3) (N := some 22) (v := ?_) (a' := ?_) #[true, true, true, true, true, false, false, false] rfl rfl (take_ofW HT_.out HW_.out (by kernel_rfl)) (fun _ _ _ h => h) (Or.inl ⟨by rfl, ?_⟩) hHeld ?_ ?_
      rotate_left
      · rintro w' ⟨s0, s1, s2, s3, s4, s5, s6, s7, s8, s9, s10, s11, s12, s13, s14⟩
        go_simp
        with_reducible rfl
      rotate_left
      · simp only [Act.put, List.setIfInBounds_toArray, List.set_cons_zero, List.set_cons_succ, i64_w, i32_w]
        rfl
      refine one_ (i := 5) (N := none) #[true, true, true, true, true, true, false, false] rfl rfl (one_of HT_.out (by kernel_rfl)) (by decide) (fun K hK => ?_)
      have hs46 : w45.cell? ⟨gb103, 6, none⟩ = some (.string a0_6) := (blk_cell BK103.out 6).trans rfl
      have hfs46 := blk_frozen BK103.out 6
      have hns46_0 := NB101_103.out
      have hms46_0 := NB103_101.out
      refine skip_ (w1 := ?_) (by rfl) rfl ?_ ?_
      rotate_left
      · go_simp
        rfl
      refine hK.out _ _ ⟨((cell_far (p := ⟨gb103, _, none⟩) NB101_103.out _).trans (hHeld.1)), ((cell_far (p := ⟨gb103, _, none⟩) NB101_103.out _).trans (hHeld.2.1)), ((cell_far (p := ⟨gb103, _, none⟩) NB101_103.out _).trans (hHeld.2.2.1)), ((cell_far (p := ⟨gb103, _, none⟩) NB101_103.out _).trans (hHeld.2.2.2.1)), ((cell_far (p := ⟨gb103, _, none⟩) NB101_103.out _).trans (hHeld.2.2.2.2.1)), ((cell_far (p := ⟨gb103, _, none⟩) NB101_103.out _).trans (hHeld.2.2.2.2.2.1)), ((cell_far (p := ⟨gb103, _, none⟩) NB101_103.out _).trans (hHeld.2.2.2.2.2.2.1)), ((cell_far (p := ⟨gb103, _, none⟩) NB101_103.out _).trans (hHeld.2.2.2.2.2.2.2.1)), ((cell_far (p := ⟨gb103, _, none⟩) NB101_103.out _).trans (hHeld.2.2.2.2.2.2.2.2.1)), ((cell_far (p := ⟨gb103, _, none⟩) NB101_103.out _).trans (hHeld.2.2.2.2.2.2.2.2.2.1)), ((cell_far (p := ⟨gb103, _, none⟩) NB101_103.out _).trans (hHeld.2.2.2.2.2.2.2.2.2.2.1)), ((cell_far (p := ⟨gb103, _, none⟩) NB101_103.out _).trans (hHeld.2.2.2.2.2.2.2.2.2.2.2.1)), ((cell_far (p := ⟨gb103, _, none⟩) NB101_103.out _).trans (hHeld.2.2.2.2.2.2.2.2.2.2.2.2.1)), ((cell_far (p := ⟨gb103, _, none⟩) NB101_103.out _).trans (hHeld.2.2.2.2.2.2.2.2.2.2.2.2.2.1)), ((cell_far (p := ⟨gb103, _, none⟩) NB101_103.out _).trans (hHeld.2.2.2.2.2.2.2.2.2.2.2.2.2.2))⟩ (fun hHeld => ?_)
      clear hK K
      refine pure_ (i := 6) (N := some 24) (v := ?_) (a' := ?_) #[true, true, true, true, true, true, true, false] rfl rfl (any_of HT_.out (by kernel_rfl)) (fun _ _ _ h => h) (Or.inl ⟨by rfl, ?_⟩) ?_ ?_
      rotate_left
      · intro w'
        go_simp
        with_reducible rfl
      rotate_left
      · simp only [Act.put, List.setIfInBounds_toArray, List.set_cons_zero, List.set_cons_succ, i64_w, i32_w]
        rfl
      refine one_ (i := 7) (N := none) #[true, true, true, true, true, true, true, true] rfl rfl (one_of HT_.out (by kernel_rfl)) (by decide) (fun K hK => ?_)
      have hs47 : w45.cell? ⟨gb103, 8, none⟩ = some (.string a0_8) := (blk_cell BK103.out 8).trans rfl
      have hfs47 := blk_frozen BK103.out 8
      have hns47_0 := NB101_103.out
      have hms47_0 := NB103_101.out
      refine skip_ (w1 := ?_) (by rfl) rfl ?_ ?_
      rotate_left
      · go_simp
        rfl
      refine hK.out _ _ ⟨((cell_far (p := ⟨gb103, _, none⟩) NB101_103.out _).trans (hHeld.1)), ((cell_far (p := ⟨gb103, _, none⟩) NB101_103.out _).trans (hHeld.2.1)), ((cell_far (p := ⟨gb103, _, none⟩) NB101_103.out _).trans (hHeld.2.2.1)), ((cell_far (p := ⟨gb103, _, none⟩) NB101_103.out _).trans (hHeld.2.2.2.1)), ((cell_far (p := ⟨gb103, _, none⟩) NB101_103.out _).trans (hHeld.2.2.2.2.1)), ((cell_far (p := ⟨gb103, _, none⟩) NB101_103.out _).trans (hHeld.2.2.2.2.2.1)), ((cell_far (p := ⟨gb103, _, none⟩) NB101_103.out _).trans (hHeld.2.2.2.2.2.2.1)), ((cell_far (p := ⟨gb103, _, none⟩) NB101_103.out _).trans (hHeld.2.2.2.2.2.2.2.1)), ((cell_far (p := ⟨gb103, _, none⟩) NB101_103.out _).trans (hHeld.2.2.2.2.2.2.2.2.1)), ((cell_far (p := ⟨gb103, _, none⟩) NB101_103.out _).trans (hHeld.2.2.2.2.2.2.2.2.2.1)), ((cell_far (p := ⟨gb103, _, none⟩) NB101_103.out _).trans (hHeld.2.2.2.2.2.2.2.2.2.2.1)), ((cell_far (p := ⟨gb103, _, none⟩) NB101_103.out _).trans (hHeld.2.2.2.2.2.2.2.2.2.2.2.1)), ((cell_far (p := ⟨gb103, _, none⟩) NB101_103.out _).trans (hHeld.2.2.2.2.2.2.2.2.2.2.2.2.1)), ((cell_far (p := ⟨gb103, _, none⟩) NB101_103.out _).trans (hHeld.2.2.2.2.2.2.2.2.2.2.2.2.2.1)), ((cell_far (p := ⟨gb103, _, none⟩) NB101_103.out _).trans (hHeld.2.2.2.2.2.2.2.2.2.2.2.2.2.2))⟩ (fun hHeld => ?_)
      clear hK K
      refine done_ (done_of HT_.out (by kernel_rfl)) ?_
      have hcz48_0 : w45.cell? ⟨gb103, 0, none⟩ = some (.int .u8 a0_0) := (blk_cell BK103.out 0).trans rfl
      have hcz48_1 : w45.cell? ⟨gb103, 1, none⟩ = some (.int .u8 a0_1) := (blk_cell BK103.out 1).trans rfl
      have hcz48_2 : w45.cell? ⟨gb103, 2, none⟩ = some (.int .u8 a0_2) := (blk_cell BK103.out 2).trans rfl
      have hcz48_3 : w45.cell? ⟨gb103, 3, none⟩ = some (.int .u8 a0_3) := (blk_cell BK103.out 3).trans rfl
      have hcz48_4 : w45.cell? ⟨gb103, 4, none⟩ = some (.int .u8 a0_4) := (blk_cell BK103.out 4).trans rfl
      have hcz48_5 : w45.cell? ⟨gb103, 5, none⟩ = some (.string a0_7) := (blk_cell BK103.out 5).trans rfl
      have hcz48_6 : w45.cell? ⟨gb103, 6, none⟩ = some (.string a0_6) := (blk_cell BK103.out 6).trans rfl
      have hcz48_7 : w45.cell? ⟨gb103, 7, none⟩ = some (.string a0_5) := (blk_cell BK103.out 7).trans rfl
      have hcz48_8 : w45.cell? ⟨gb103, 8, none⟩ = some (.string a0_8) := (blk_cell BK103.out 8).trans rfl
      have hcz48_9 : w45.cell? ⟨gb103, 9, none⟩ = some (.string a0_9) := (blk_cell BK103.out 9).trans rfl
      have hcz48_10 : w45.cell? ⟨gb103, 10, none⟩ = some (.string a0_10) := (blk_cell BK103.out 10).trans rfl
      have hcz48_11 : w45.cell? ⟨gb103, 11, none⟩ = some (.string a0_11) := (blk_cell BK103.out 11).trans rfl
      have hcz48_12 : w45.cell? ⟨gb103, 12, none⟩ = some (.string a0_12) := (blk_cell BK103.out 12).trans rfl
      have hcz48_13 : w45.cell? ⟨gb103, 13, none⟩ = some (.string a0_13) := (blk_cell BK103.out 13).trans rfl
      have hcz48_14 : w45.cell? ⟨gb103, 14, none⟩ = some (.string a0_14) := (blk_cell BK103.out 14).trans rfl
      have hfz48_0 := blk_frozen BK103.out 0
      have hfz48_1 := blk_frozen BK103.out 1
      have hfz48_2 := blk_frozen BK103.out 2
      have hfz48_3 := blk_frozen BK103.out 3
      have hfz48_4 := blk_frozen BK103.out 4
      have hfz48_5 := blk_frozen BK103.out 5
      have hfz48_6 := blk_frozen BK103.out 6
      have hfz48_7 := blk_frozen BK103.out 7
      have hfz48_8 := blk_frozen BK103.out 8
      have hfz48_9 := blk_frozen BK103.out 9
      have hfz48_10 := blk_frozen BK103.out 10
      have hfz48_11 := blk_frozen BK103.out 11
      have hfz48_12 := blk_frozen BK103.out 12
      have hfz48_13 := blk_frozen BK103.out 13
      have hfz48_14 := blk_frozen BK103.out 14
      try go_wp2_with (first | ((with_reducible refine gate_callee (f := 8) rfl ?_); refine goesL_ (some 29) rfl rfl Tryd.func8 (by kernel_rfl) rfl #[.agg #[.int .u8 a0_0, .int .u8 a0_1, .int .u8 a0_2, .int .u8 a0_3, .int .u8 a0_4, .string a0_7, .string a0_8, .string a0_5, .string a0_6, .string a0_9, .string (⟨#[]⟩ : ByteArray), .string (⟨#[65, 67, 75]⟩ : ByteArray), .string a0_12, .string a0_13, .string a0_14]] rfl (by (try simp only [List.map_toArray, List.map_cons, List.map_nil]); first | done | rfl | (simp only [List.length_drop, List.length_take]; rfl)) ?_; (with_reducible refine (msh_Write.calls a0_0 a0_1 a0_2 a0_3 a0_4 a0_7 a0_8 a0_5 a0_6 a0_9 (⟨#[]⟩ : ByteArray) (⟨#[65, 67, 75]⟩ : ByteArray) a0_12 a0_13 a0_14 t104 t105 _ ?side1 A5.out).mono ?_); (case side1 => exact GlobA.below HG.out (by repeat (first | (with_reducible first | exact HB.out | apply below_alloc | apply pw_below_drewN | apply below_drew1 | refine below_set ?_ GE101.out | refine below_set ?_ GE103.out) | exact HB.out))); rintro e w49 ⟨rfl, hb⟩; refine ⟨_, rfl, ?_⟩; have n0_ := Aside0.mk (blk_below (g := gb101) (o := .cells #[.int .u8 a0_0, .int .u8 a0_1, .int .u8 a0_2, .int .u8 a0_3, .int .u8 a0_4, .string a0_5, .string a0_6, .string a0_7, .string a0_8, .string a0_9, .string a0_10, .string a0_11, .string a0_12, .string a0_13, .string a0_14] 25 (0, 0)) (by (with_reducible repeat (first | refine blk_drewN ?_ _ | refine blk_drew ?_ | refine blk_alloc ?_ _)); refine blk_far ?_ NB101_103.out _; (with_reducible repeat (first | refine blk_drewN ?_ _ | refine blk_drew ?_ | refine blk_alloc ?_ _)); refine blk_far ?_ NB101_103.out _; (with_reducible repeat (first | refine blk_drewN ?_ _ | refine blk_drew ?_ | refine blk_alloc ?_ _)); refine blk_far ?_ NB101_103.out _; (with_reducible repeat (first | refine blk_drewN ?_ _ | refine blk_drew ?_ | refine blk_alloc ?_ _)); refine blk_far ?_ NB101_103.out _; (with_reducible repeat (first | refine blk_drewN ?_ _ | refine blk_drew ?_ | refine blk_alloc ?_ _)); exact BK101.out) hb); have n1_ := Aside0.mk (blk_below (g := gb103) (o := .cells #[.int .u8 a0_0, .int .u8 a0_1, .int .u8 a0_2, .int .u8 a0_3, .int .u8 a0_4, .string a0_7, .string a0_8, .string a0_5, .string a0_6, .string a0_9, .string (⟨#[]⟩ : ByteArray), .string (⟨#[65, 67, 75]⟩ : ByteArray), .string a0_12, .string a0_13, .string a0_14] 25 (0, 0)) (by (with_reducible repeat (first | refine blk_drewN ?_ _ | refine blk_drew ?_ | refine blk_alloc ?_ _)); refine blk_put (cs := #[.int .u8 a0_0, .int .u8 a0_1, .int .u8 a0_2, .int .u8 a0_3, .int .u8 a0_4, .string a0_7, .string a0_8, .string a0_5, .string a0_6, .string a0_9, .string (⟨#[]⟩ : ByteArray), .string a0_11, .string a0_12, .string a0_13, .string a0_14]) ?_ 11 _ rfl; (with_reducible repeat (first | refine blk_drewN ?_ _ | refine blk_drew ?_ | refine blk_alloc ?_ _)); refine blk_put (cs := #[.int .u8 a0_0, .int .u8 a0_1, .int .u8 a0_2, .int .u8 a0_3, .int .u8 a0_4, .string a0_7, .string a0_8, .string a0_5, .string a0_6, .string a0_9, .string a0_10, .string a0_11, .string a0_12, .string a0_13, .string a0_14]) ?_ 10 _ rfl; (with_reducible repeat (first | refine blk_drewN ?_ _ | refine blk_drew ?_ | refine blk_alloc ?_ _)); refine blk_put (cs := #[.int .u8 a0_0, .int .u8 a0_1, .int .u8 a0_2, .int .u8 a0_3, .int .u8 a0_4, .string a0_7, .string a0_8, .string a0_5, .string a0_8, .string a0_9, .string a0_10, .string a0_11, .string a0_12, .string a0_13, .string a0_14]) ?_ 8 _ rfl; (with_reducible repeat (first | refine blk_drewN ?_ _ | refine blk_drew ?_ | refine blk_alloc ?_ _)); refine blk_put (cs := #[.int .u8 a0_0, .int .u8 a0_1, .int .u8 a0_2, .int .u8 a0_3, .int .u8 a0_4, .string a0_7, .string a0_6, .string a0_5, .string a0_8, .string a0_9, .string a0_10, .string a0_11, .string a0_12, .string a0_13, .string a0_14]) ?_ 6 _ rfl; (with_reducible repeat (first | refine blk_drewN ?_ _ | refine blk_drew ?_ | refine blk_alloc ?_ _)); exact BK103.out) hb); have n2_ := Aside0.mk (below_step (by repeat (first | (with_reducible first | exact HB.out | apply below_alloc | apply pw_below_drewN | apply below_drew1 | refine below_set ?_ GE101.out | refine below_set ?_ GE103.out) | exact HB.out)) hb); clear BK101; clear BK103; clear HB; have BK101 := n0_; have BK103 := n1_; have HB := n2_; clear n0_ n1_ n2_; (try clear hb); (try clear hb2); (try clear hk); (try clear hi)))
      go_ret2
      exact ⟨_, by first | rfl | (simp [errW_none, errW_some] <;> rfl) | (simp [*, errW_none, errW_some] <;> rfl), by first | exact Kd.R_nil _ _ _ _ _ | exact Kd.N_nil _ _ _ _ _ | exact Kd.V_nil _ _ _ _ _ | exact Kd.Q_nil _ _ _ _ _ | exact Kd.S_nil _ _ _ _ _, by repeat (first | (with_reducible first | exact HB.out | apply below_alloc | apply pw_below_drewN | apply below_drew1 | refine below_set ?_ GE101.out | refine below_set ?_ GE103.out) | exact HB.out)⟩
  · replace c4 := Bool.eq_false_iff.mpr c4
    subst c4
    have H1 : (some (([] : List Int), 17)) = some (r1, r2) := by rw [if_neg (show ¬ (false = true) by decide)] at H; exact H
    clear H
    have H := H1
    clear H1
    simp only [Option.some.injEq, Prod.mk.injEq] at H
    obtain ⟨rfl, rfl⟩ := H
    go_enter Tryd.func30, Tryd.ntmps30
    go_wp2_with (first | ((with_reducible refine gate_dst (N := 2) rfl ?_); refine box_event ?hg (N := 2) ?hd (cs := #[.int .u8 a0_0, .int .u8 a0_1, .int .u8 a0_2, .int .u8 a0_3, .int .u8 a0_4, .string a0_5, .string a0_6, .string a0_7, .string a0_8, .string a0_9, .string a0_10, .string a0_11, .string a0_12, .string a0_13, .string a0_14]) (t := 25) ?hr ?_; (case hd => rfl); (case hg => rfl); (case hr => first | (go_simp; done) | (go_simp; rfl)); intro gb101 hg w50 hbox hb; have n0_ := Aside0.mk (below_step (by repeat (first | (with_reducible first | exact HB.out | apply below_alloc | apply pw_below_drewN | apply below_drew1) | exact HB.out)) hb); have n1_ := Aside0.mk (hbox); have n2_ := Aside0.mk ((by rw [hg]; exact (below_size (by repeat (first | (with_reducible first | exact HB.out | apply below_alloc | apply pw_below_drewN | apply below_drew1) | exact HB.out))) : w.heap.size ≤ gb101)); have n3_ := Aside0.mk ((by rw [hg]; exact (below_size (by repeat (first | (with_reducible first | exact HB.out | apply below_alloc | apply pw_below_drewN | apply below_drew1) | exact HB.out))) : w.heap.size ≤ gb101)); clear HB; have HB := n0_; have BK101 := n1_; have GW101 := n2_; have GE101 := n3_; clear n0_ n1_ n2_ n3_; clear hb hbox hg) | ((with_reducible refine gate_callee (f := 38) rfl ?_); refine goesL_ (some 10) rfl rfl Tryd.func38 (by kernel_rfl) rfl #[.string a1] rfl (by (try simp only [List.map_toArray, List.map_cons, List.map_nil]); first | done | rfl | (simp only [List.length_drop, List.length_take]; rfl)) ?_; (with_reducible refine (ack_Known.calls a1 false _ ?side1 A3.out).mono ?_); (case side1 => exact GlobA.below HG.out (by repeat (first | (with_reducible first | exact HB.out | apply below_alloc | apply pw_below_drewN | apply below_drew1 | refine below_set ?_ GE101.out) | exact HB.out))); rintro e w51 ⟨rfl, hb⟩; refine ⟨_, rfl, ?_⟩; have n0_ := Aside0.mk (blk_below (g := gb101) (o := .cells #[.int .u8 a0_0, .int .u8 a0_1, .int .u8 a0_2, .int .u8 a0_3, .int .u8 a0_4, .string a0_5, .string a0_6, .string a0_7, .string a0_8, .string a0_9, .string a0_10, .string a0_11, .string a0_12, .string a0_13, .string a0_14] 25 (0, 0)) (by (with_reducible repeat (first | refine blk_drewN ?_ _ | refine blk_drew ?_ | refine blk_alloc ?_ _)); exact BK101.out) hb); have n1_ := Aside0.mk (below_step (by repeat (first | (with_reducible first | exact HB.out | apply below_alloc | apply pw_below_drewN | apply below_drew1 | refine below_set ?_ GE101.out) | exact HB.out)) hb); clear BK101; clear HB; have BK101 := n0_; have HB := n1_; clear n0_ n1_; (try clear hb); (try clear hb2); (try clear hk); (try clear hi)))
    go_ret2
    exact ⟨_, by first | rfl | (simp [errW_none, errW_some] <;> rfl) | (simp [*, errW_none, errW_some] <;> rfl), by first | exact Kd.R_nil _ _ _ _ _ | exact Kd.N_nil _ _ _ _ _ | exact Kd.V_nil _ _ _ _ _ | exact Kd.Q_nil _ _ _ _ _ | exact Kd.S_nil _ _ _ _ _, by repeat (first | (with_reducible first | exact HB.out | apply below_alloc | apply pw_below_drewN | apply below_drew1 | refine below_set ?_ GE101.out) | exact HB.out)⟩

end Go.Proofs.YtciagecaegoppaaDoor.QReply
end
