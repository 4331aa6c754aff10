/- The head of a message: its ways out, and the loop over its ten texts. The head of a message, as a Lean function. What a message is worth: the walk. What a message is worth, as a Lean function. A head's segment: the walk. A head's segment, as a Lean function. -/
import Derived.Test.YtciagecaegoppaaDoorMD
import Derived.Test.YtciagecaegoppaaDoorMC
import Derived.Deep.LoopGhost
import Derived.Laws.OwnMore
import Derived.Maps.AppendAt
namespace Go.Proofs.YtciagecaegoppaaDoor
set_option linter.unusedVariables false
set_option linter.unusedSimpArgs false
set_option maxRecDepth 100000
open Go.RowKit Go.Proofs.YtciagecaegoppaaDoorW.PrintWords Go.Proofs.YtciagecaegoppaaDoorW.PrintLast Go.Proofs.YtciagecaegoppaaDoorW.PrintMore

theorem row_first {w : World} {base : Nat} {ok : Nat → Prop} {v : Value} {xs : List ByteArray} (h : Kd.R Kd.string 9 w base ok v xs) (hp : 0 < xs.length) :
    ∃ b o c, v = .slice (some ⟨b, o, none⟩) xs.length c ∧ w.cell? ⟨b, o, none⟩ = some (.string (rdOf ByteArray.empty xs 0)) := by
  obtain ⟨Ao, co, eo⟩ := Kd.R_slice h
  subst eo
  obtain ⟨ad, ea, hc⟩ := Kd.at_string (Kd.R_reads' h).2.2 0 (by omega) (by omega)
  obtain ⟨b, o, sp⟩ := ad
  have hc' : w.cell? ⟨b, o, sp⟩ = some (.string (rdOf ByteArray.empty xs 0)) := by simpa [Addr.add] using hc
  obtain rfl : sp = none := by simpa using World.cell?_spot hc'
  exact ⟨b, o, co, by rw [ea], hc'⟩

/-- The cells of a head whose first k texts are there. -/
def headC (d0 d1 d2 d3 d4 : Int) (v : Nat → ByteArray) (k : Nat) : Array Value := #[.int .u8 d0, .int .u8 d1, .int .u8 d2, .int .u8 d3, .int .u8 d4, .string (if 0 < k then v 0 else ⟨#[]⟩), .string (if 1 < k then v 1 else ⟨#[]⟩), .string (if 2 < k then v 2 else ⟨#[]⟩), .string (if 3 < k then v 3 else ⟨#[]⟩), .string (if 4 < k then v 4 else ⟨#[]⟩), .string (if 5 < k then v 5 else ⟨#[]⟩), .string (if 6 < k then v 6 else ⟨#[]⟩), .string (if 7 < k then v 7 else ⟨#[]⟩), .string (if 8 < k then v 8 else ⟨#[]⟩), .string (if 9 < k then v 9 else ⟨#[]⟩)]
theorem headC_at (d0 d1 d2 d3 d4 : Int) (v : Nat → ByteArray) (k : Nat) (hk : k < 10) : (headC d0 d1 d2 d3 d4 v k)[5 + k]? = some (.string ⟨#[]⟩) := by
  rcases k with _ | _ | _ | _ | _ | _ | _ | _ | _ | _ | k
  iterate 10 (next => rfl)
  omega
theorem headC_set (d0 d1 d2 d3 d4 : Int) (v : Nat → ByteArray) (k : Nat) (hk : k < 10) : (headC d0 d1 d2 d3 d4 v k).setIfInBounds (5 + k) (.string (v k)) = headC d0 d1 d2 d3 d4 v (k + 1) := by
  rcases k with _ | _ | _ | _ | _ | _ | _ | _ | _ | _ | k
  iterate 10 (next => rfl)
  omega
theorem texts_enters (k : Nat) (hk : k < 10) (args : Array Value) (w : World) : (callFunc (textFn k) args).run Tryd.prog w = .ok (.enter (textFn k) args) w := by
  rcases k with _ | _ | _ | _ | _ | _ | _ | _ | _ | _ | k
  · exact enters_ Tryd.func41 (by kernel_rfl) rfl args w
  · exact enters_ Tryd.func42 (by kernel_rfl) rfl args w
  · exact enters_ Tryd.func43 (by kernel_rfl) rfl args w
  · exact enters_ Tryd.func44 (by kernel_rfl) rfl args w
  · exact enters_ Tryd.func45 (by kernel_rfl) rfl args w
  · exact enters_ Tryd.func46 (by kernel_rfl) rfl args w
  · exact enters_ Tryd.func47 (by kernel_rfl) rfl args w
  · exact enters_ Tryd.func48 (by kernel_rfl) rfl args w
  · exact enters_ Tryd.func49 (by kernel_rfl) rfl args w
  · exact enters_ Tryd.func50 (by kernel_rfl) rfl args w
  · omega
theorem blk_row15 {w : World} {g : Nat} {t : TypeId} {a0 a1 a2 a3 a4 a5 a6 a7 a8 a9 a10 a11 a12 a13 a14 b0 b1 b2 b3 b4 b5 b6 b7 b8 b9 b10 b11 b12 b13 b14 : Value} (h0 : w.heap[g]? = some (.cells #[a0, a1, a2, a3, a4, a5, a6, a7, a8, a9, a10, a11, a12, a13, a14] t (0, 0))) :
    (((((((((((((((w.setCell ⟨g, 0, none⟩ b0).setCell ⟨g, 1, none⟩ b1).setCell ⟨g, 2, none⟩ b2).setCell ⟨g, 3, none⟩ b3).setCell ⟨g, 4, none⟩ b4).setCell ⟨g, 5, none⟩ b5).setCell ⟨g, 6, none⟩ b6).setCell ⟨g, 7, none⟩ b7).setCell ⟨g, 8, none⟩ b8).setCell ⟨g, 9, none⟩ b9).setCell ⟨g, 10, none⟩ b10).setCell ⟨g, 11, none⟩ b11).setCell ⟨g, 12, none⟩ b12).setCell ⟨g, 13, none⟩ b13).setCell ⟨g, 14, none⟩ b14).heap[g]? = some (.cells #[b0, b1, b2, b3, b4, b5, b6, b7, b8, b9, b10, b11, b12, b13, b14] t (0, 0)) := by
  have h1 := blk_put (cs' := #[b0, a1, a2, a3, a4, a5, a6, a7, a8, a9, a10, a11, a12, a13, a14]) h0 0 b0 rfl
  have h2 := blk_put (cs' := #[b0, b1, a2, a3, a4, a5, a6, a7, a8, a9, a10, a11, a12, a13, a14]) h1 1 b1 rfl
  have h3 := blk_put (cs' := #[b0, b1, b2, a3, a4, a5, a6, a7, a8, a9, a10, a11, a12, a13, a14]) h2 2 b2 rfl
  have h4 := blk_put (cs' := #[b0, b1, b2, b3, a4, a5, a6, a7, a8, a9, a10, a11, a12, a13, a14]) h3 3 b3 rfl
  have h5 := blk_put (cs' := #[b0, b1, b2, b3, b4, a5, a6, a7, a8, a9, a10, a11, a12, a13, a14]) h4 4 b4 rfl
  have h6 := blk_put (cs' := #[b0, b1, b2, b3, b4, b5, a6, a7, a8, a9, a10, a11, a12, a13, a14]) h5 5 b5 rfl
  have h7 := blk_put (cs' := #[b0, b1, b2, b3, b4, b5, b6, a7, a8, a9, a10, a11, a12, a13, a14]) h6 6 b6 rfl
  have h8 := blk_put (cs' := #[b0, b1, b2, b3, b4, b5, b6, b7, a8, a9, a10, a11, a12, a13, a14]) h7 7 b7 rfl
  have h9 := blk_put (cs' := #[b0, b1, b2, b3, b4, b5, b6, b7, b8, a9, a10, a11, a12, a13, a14]) h8 8 b8 rfl
  have h10 := blk_put (cs' := #[b0, b1, b2, b3, b4, b5, b6, b7, b8, b9, a10, a11, a12, a13, a14]) h9 9 b9 rfl
  have h11 := blk_put (cs' := #[b0, b1, b2, b3, b4, b5, b6, b7, b8, b9, b10, a11, a12, a13, a14]) h10 10 b10 rfl
  have h12 := blk_put (cs' := #[b0, b1, b2, b3, b4, b5, b6, b7, b8, b9, b10, b11, a12, a13, a14]) h11 11 b11 rfl
  have h13 := blk_put (cs' := #[b0, b1, b2, b3, b4, b5, b6, b7, b8, b9, b10, b11, b12, a13, a14]) h12 12 b12 rfl
  have h14 := blk_put (cs' := #[b0, b1, b2, b3, b4, b5, b6, b7, b8, b9, b10, b11, b12, b13, a14]) h13 13 b13 rfl
  have h15 := blk_put (cs' := #[b0, b1, b2, b3, b4, b5, b6, b7, b8, b9, b10, b11, b12, b13, b14]) h14 14 b14 rfl
  exact h15

set_option maxHeartbeats 4000000 in
theorem read_bad (A0 : Option Addr) (c0 : Nat) (l0 : List Int) (w : World) (hr0 : Kd.C (Kd.int .u8) w A0 l0.length l0) (hc0 : l0.length ≤ c0) (d0 d1 d2 d3 d4 e0 : Int) (hd : delim_Read.f l0 = some (d0, d1, d2, d3, d4, e0)) (he : e0 ≠ 0) :
    Calls Tryd.prog 23 #[.slice A0 l0.length c0] w fun e w' => e = .returned (.tuple #[.agg #[.int .u8 0, .int .u8 0, .int .u8 0, .int .u8 0, .int .u8 0, .string ⟨#[]⟩, .string ⟨#[]⟩, .string ⟨#[]⟩, .string ⟨#[]⟩, .string ⟨#[]⟩, .string ⟨#[]⟩, .string ⟨#[]⟩, .string ⟨#[]⟩, .string ⟨#[]⟩, .string ⟨#[]⟩], .int .i64 e0]) ∧ Below w.heap.size w w' := by
  have HR := Aside0.mk hr0; have HC := Aside0.mk hc0; have HD := Aside0.mk hd
  have he' : (e0 != 0) = true := bne_iff_ne.2 he
  clear hr0 hc0 hd he
  go_enter Tryd.func23, Tryd.ntmps23
  go_wp2_with (go_at_call 54; refine (delim_Read.calls A0 c0 l0 d0 d1 d2 d3 d4 e0 _ ?hc HC.out HD.out).mono ?_; (case hc => exact Kd.C_below HR.out (below_alloc (Below.refl _ _) _)); rintro e w2 ⟨rfl, hb2⟩; have HB2 := Aside0.mk (below_step (below_alloc (Below.refl _ _) _) hb2); have hblk2 := blk_below (blk_new w (.cells #[.int .u8 0, .int .u8 0, .int .u8 0, .int .u8 0, .int .u8 0, .string ⟨#[]⟩, .string ⟨#[]⟩, .string ⟨#[]⟩, .string ⟨#[]⟩, .string ⟨#[]⟩, .string ⟨#[]⟩, .string ⟨#[]⟩, .string ⟨#[]⟩, .string ⟨#[]⟩, .string ⟨#[]⟩] 25)) hb2; have HBLK2 := Aside0.mk hblk2; have hlt2 : w.heap.size < w2.heap.size := blk_lt hblk2; have p0 : w2.cell? ⟨w.heap.size, 0, none⟩ = some (.int .u8 0) := blk_cell hblk2 0; have p1 : w2.cell? ⟨w.heap.size, 1, none⟩ = some (.int .u8 0) := blk_cell hblk2 1; have p2 : w2.cell? ⟨w.heap.size, 2, none⟩ = some (.int .u8 0) := blk_cell hblk2 2; have p3 : w2.cell? ⟨w.heap.size, 3, none⟩ = some (.int .u8 0) := blk_cell hblk2 3; have p4 : w2.cell? ⟨w.heap.size, 4, none⟩ = some (.int .u8 0) := blk_cell hblk2 4; have p5 : w2.cell? ⟨w.heap.size, 5, none⟩ = some (.string ⟨#[]⟩) := blk_cell hblk2 5; have p6 : w2.cell? ⟨w.heap.size, 6, none⟩ = some (.string ⟨#[]⟩) := blk_cell hblk2 6; have p7 : w2.cell? ⟨w.heap.size, 7, none⟩ = some (.string ⟨#[]⟩) := blk_cell hblk2 7; have p8 : w2.cell? ⟨w.heap.size, 8, none⟩ = some (.string ⟨#[]⟩) := blk_cell hblk2 8; have p9 : w2.cell? ⟨w.heap.size, 9, none⟩ = some (.string ⟨#[]⟩) := blk_cell hblk2 9; have p10 : w2.cell? ⟨w.heap.size, 10, none⟩ = some (.string ⟨#[]⟩) := blk_cell hblk2 10; have p11 : w2.cell? ⟨w.heap.size, 11, none⟩ = some (.string ⟨#[]⟩) := blk_cell hblk2 11; have p12 : w2.cell? ⟨w.heap.size, 12, none⟩ = some (.string ⟨#[]⟩) := blk_cell hblk2 12; have p13 : w2.cell? ⟨w.heap.size, 13, none⟩ = some (.string ⟨#[]⟩) := blk_cell hblk2 13; have p14 : w2.cell? ⟨w.heap.size, 14, none⟩ = some (.string ⟨#[]⟩) := blk_cell hblk2 14; have pf0 := blk_frozen hblk2 0; have pf1 := blk_frozen hblk2 1; have pf2 := blk_frozen hblk2 2; have pf3 := blk_frozen hblk2 3; have pf4 := blk_frozen hblk2 4; have pf5 := blk_frozen hblk2 5; have pf6 := blk_frozen hblk2 6; have pf7 := blk_frozen hblk2 7; have pf8 := blk_frozen hblk2 8; have pf9 := blk_frozen hblk2 9; have pf10 := blk_frozen hblk2 10; have pf11 := blk_frozen hblk2 11; have pf12 := blk_frozen hblk2 12; have pf13 := blk_frozen hblk2 13; have pf14 := blk_frozen hblk2 14; clear hb2 hblk2)
  refine bodyPost_ret (results_ct rfl _ _ w.heap.size 25 #[.int .u8 0, .int .u8 0, .int .u8 0, .int .u8 0, .int .u8 0, .string ⟨#[]⟩, .string ⟨#[]⟩, .string ⟨#[]⟩, .string ⟨#[]⟩, .string ⟨#[]⟩, .string ⟨#[]⟩, .string ⟨#[]⟩, .string ⟨#[]⟩, .string ⟨#[]⟩, .string ⟨#[]⟩] (0, 0) _ rfl (blk_alloc (blk_row15 HBLK2.out) _) Tryd.underlying25 rfl (by kernel_rfl)) rfl ?_
  exact ⟨rfl, below_alloc (below_set (below_set (below_set (below_set (below_set (below_set (below_set (below_set (below_set (below_set (below_set (below_set (below_set (below_set (below_set HB2.out (Nat.le_refl _)) (Nat.le_refl _)) (Nat.le_refl _)) (Nat.le_refl _)) (Nat.le_refl _)) (Nat.le_refl _)) (Nat.le_refl _)) (Nat.le_refl _)) (Nat.le_refl _)) (Nat.le_refl _)) (Nat.le_refl _)) (Nat.le_refl _)) (Nat.le_refl _)) (Nat.le_refl _)) (Nat.le_refl _)) _⟩


set_option maxHeartbeats 4000000 in
theorem read_other (A0 : Option Addr) (c0 : Nat) (l0 : List Int) (w : World) (hG : GlobA w) (hr0 : Kd.C (Kd.int .u8) w A0 l0.length l0) (hc0 : l0.length ≤ c0) (d0 d1 d2 d3 d4 : Int) (hd : delim_Read.f l0 = some (d0, d1, d2, d3, d4, 0)) (t : List ByteArray) (ht : segment_Split.f l0 = some t) (hp : 0 < t.length) (f : ByteArray) (b : Bool) (hf : QField.segment_Field.f (rdOf ByteArray.empty t 0) 2 d0 d1 d2 d3 d4 = some (f, b)) (hne : (f.toList == (strOfNums [d1, d2, d3, d4]).toList) = false) :
    Calls Tryd.prog 23 #[.slice A0 l0.length c0] w fun e w' => e = .returned (.tuple #[.agg #[.int .u8 0, .int .u8 0, .int .u8 0, .int .u8 0, .int .u8 0, .string ⟨#[]⟩, .string ⟨#[]⟩, .string ⟨#[]⟩, .string ⟨#[]⟩, .string ⟨#[]⟩, .string ⟨#[]⟩, .string ⟨#[]⟩, .string ⟨#[]⟩, .string ⟨#[]⟩, .string ⟨#[]⟩], .int .i64 11]) ∧ Below w.heap.size w w' := by
  have HG := Aside0.mk hG; have HR := Aside0.mk hr0; have HC := Aside0.mk hc0; have HD := Aside0.mk hd; have HT := Aside0.mk ht; have HP := Aside0.mk hp; have HF := Aside0.mk hf
  clear hG hr0 hc0 hd ht hf
  go_enter Tryd.func23, Tryd.ntmps23
  go_wp2_with (first
    | (go_at_call 54; refine (delim_Read.calls A0 c0 l0 d0 d1 d2 d3 d4 0 _ ?hc HC.out HD.out).mono ?_; (case hc => exact Kd.C_below HR.out (below_alloc (Below.refl _ _) _)); rintro e w2 ⟨rfl, hb2⟩; have HB2 := Aside0.mk (below_step (below_alloc (Below.refl _ _) _) hb2); have hblk2 := blk_below (blk_new w (.cells #[.int .u8 0, .int .u8 0, .int .u8 0, .int .u8 0, .int .u8 0, .string ⟨#[]⟩, .string ⟨#[]⟩, .string ⟨#[]⟩, .string ⟨#[]⟩, .string ⟨#[]⟩, .string ⟨#[]⟩, .string ⟨#[]⟩, .string ⟨#[]⟩, .string ⟨#[]⟩, .string ⟨#[]⟩] 25)) hb2; have HBLK2 := Aside0.mk hblk2; have hlt2 : w.heap.size < w2.heap.size := blk_lt hblk2; have HL2 := Aside0.mk hlt2; clear hb2 hblk2)
    | (go_at_call 35; refine (segment_Split.calls A0 c0 l0 t _ ?hg ?hr HC.out HT.out).mono ?_; (case hg => exact HG.out.below (below_alloc HB2.out _)); (case hr => exact Kd.C_below HR.out (below_alloc HB2.out _)); rintro e w5 ⟨v0, rfl, hR, hb5⟩; obtain ⟨rb, ro, rc, eR, hx⟩ := row_first hR HP.out; subst eR; have HB5 := Aside0.mk (below_step (below_alloc HB2.out _) hb5); have B2 := Aside0.mk (blk_below (blk_alloc HBLK2.out _) hb5); have hd5 := blk_below (blk_new w2 (.cells #[.int .u8 d0, .int .u8 d1, .int .u8 d2, .int .u8 d3, .int .u8 d4] 23)) hb5; have B4 := Aside0.mk hd5; have y0 : w5.cell? ⟨w2.heap.size, 0, none⟩ = some (.int .u8 d0) := blk_cell hd5 0; have y1 : w5.cell? ⟨w2.heap.size, 1, none⟩ = some (.int .u8 d1) := blk_cell hd5 1; have y2 : w5.cell? ⟨w2.heap.size, 2, none⟩ = some (.int .u8 d2) := blk_cell hd5 2; have y3 : w5.cell? ⟨w2.heap.size, 3, none⟩ = some (.int .u8 d3) := blk_cell hd5 3; have y4 : w5.cell? ⟨w2.heap.size, 4, none⟩ = some (.int .u8 d4) := blk_cell hd5 4; clear hR hb5 hd5 hlt2 HB2 HBLK2)
    | (go_at_call 37; refine (QField.segment_Field.calls (rdOf ByteArray.empty t 0) 2 d0 d1 d2 d3 d4 f b _ ?hg HF.out).mono ?_; (case hg => exact HG.out.below HB5.out); rintro e w6 ⟨rfl, hb6⟩; have HB6 := Aside0.mk (below_step HB5.out hb6); have B2' := Aside0.mk (blk_below B2.out hb6); have B4' := Aside0.mk (blk_below B4.out hb6); have hd6 := B4'.out; clear y0 y1 y2 y3 y4 hx; have y0 : w6.cell? ⟨w2.heap.size, 0, none⟩ = some (.int .u8 d0) := blk_cell hd6 0; have y1 : w6.cell? ⟨w2.heap.size, 1, none⟩ = some (.int .u8 d1) := blk_cell hd6 1; have y2 : w6.cell? ⟨w2.heap.size, 2, none⟩ = some (.int .u8 d2) := blk_cell hd6 2; have y3 : w6.cell? ⟨w2.heap.size, 3, none⟩ = some (.int .u8 d3) := blk_cell hd6 3; have y4 : w6.cell? ⟨w2.heap.size, 4, none⟩ = some (.int .u8 d4) := blk_cell hd6 4; clear hb6 hd6 HB5 B2 B4)
    | (go_at_call 19; refine (Qothers.msh_others.calls d0 d1 d2 d3 d4 (strOfNums [d1, d2, d3, d4]) _ rfl).mono ?_; rintro e w7 ⟨rfl, hb7⟩; have HB7 := Aside0.mk (below_step HB6.out hb7); have B2 := Aside0.mk (blk_below B2'.out hb7); have B4 := Aside0.mk (blk_below B4'.out hb7); have hd7 := B4.out; have hd2 := B2.out; clear y0 y1 y2 y3 y4; have p0 : w7.cell? ⟨w.heap.size, 0, none⟩ = some (.int .u8 0) := blk_cell hd2 0; have p1 : w7.cell? ⟨w.heap.size, 1, none⟩ = some (.int .u8 0) := blk_cell hd2 1; have p2 : w7.cell? ⟨w.heap.size, 2, none⟩ = some (.int .u8 0) := blk_cell hd2 2; have p3 : w7.cell? ⟨w.heap.size, 3, none⟩ = some (.int .u8 0) := blk_cell hd2 3; have p4 : w7.cell? ⟨w.heap.size, 4, none⟩ = some (.int .u8 0) := blk_cell hd2 4; have p5 : w7.cell? ⟨w.heap.size, 5, none⟩ = some (.string ⟨#[]⟩) := blk_cell hd2 5; have p6 : w7.cell? ⟨w.heap.size, 6, none⟩ = some (.string ⟨#[]⟩) := blk_cell hd2 6; have p7 : w7.cell? ⟨w.heap.size, 7, none⟩ = some (.string ⟨#[]⟩) := blk_cell hd2 7; have p8 : w7.cell? ⟨w.heap.size, 8, none⟩ = some (.string ⟨#[]⟩) := blk_cell hd2 8; have p9 : w7.cell? ⟨w.heap.size, 9, none⟩ = some (.string ⟨#[]⟩) := blk_cell hd2 9; have p10 : w7.cell? ⟨w.heap.size, 10, none⟩ = some (.string ⟨#[]⟩) := blk_cell hd2 10; have p11 : w7.cell? ⟨w.heap.size, 11, none⟩ = some (.string ⟨#[]⟩) := blk_cell hd2 11; have p12 : w7.cell? ⟨w.heap.size, 12, none⟩ = some (.string ⟨#[]⟩) := blk_cell hd2 12; have p13 : w7.cell? ⟨w.heap.size, 13, none⟩ = some (.string ⟨#[]⟩) := blk_cell hd2 13; have p14 : w7.cell? ⟨w.heap.size, 14, none⟩ = some (.string ⟨#[]⟩) := blk_cell hd2 14; have pf0 := blk_frozen hd2 0; have pf1 := blk_frozen hd2 1; have pf2 := blk_frozen hd2 2; have pf3 := blk_frozen hd2 3; have pf4 := blk_frozen hd2 4; have pf5 := blk_frozen hd2 5; have pf6 := blk_frozen hd2 6; have pf7 := blk_frozen hd2 7; have pf8 := blk_frozen hd2 8; have pf9 := blk_frozen hd2 9; have pf10 := blk_frozen hd2 10; have pf11 := blk_frozen hd2 11; have pf12 := blk_frozen hd2 12; have pf13 := blk_frozen hd2 13; have pf14 := blk_frozen hd2 14; clear hb7 hd7 hd2 HB6 B2' B4'))
  refine bodyPost_ret (results_ct rfl _ _ w.heap.size 25 #[.int .u8 0, .int .u8 0, .int .u8 0, .int .u8 0, .int .u8 0, .string ⟨#[]⟩, .string ⟨#[]⟩, .string ⟨#[]⟩, .string ⟨#[]⟩, .string ⟨#[]⟩, .string ⟨#[]⟩, .string ⟨#[]⟩, .string ⟨#[]⟩, .string ⟨#[]⟩, .string ⟨#[]⟩] (0, 0) _ rfl (blk_row15 B2.out) Tryd.underlying25 rfl (by kernel_rfl)) rfl ?_
  exact ⟨rfl, (below_set (below_set (below_set (below_set (below_set (below_set (below_set (below_set (below_set (below_set (below_set (below_set (below_set (below_set (below_set HB7.out (Nat.le_refl _)) (Nat.le_refl _)) (Nat.le_refl _)) (Nat.le_refl _)) (Nat.le_refl _)) (Nat.le_refl _)) (Nat.le_refl _)) (Nat.le_refl _)) (Nat.le_refl _)) (Nat.le_refl _)) (Nat.le_refl _)) (Nat.le_refl _)) (Nat.le_refl _)) (Nat.le_refl _)) (Nat.le_refl _))⟩


set_option maxHeartbeats 4000000 in
theorem read_on (A0 : Option Addr) (c0 : Nat) (l0 : List Int) (w : World) (hG : GlobA w) (hr0 : Kd.C (Kd.int .u8) w A0 l0.length l0) (hc0 : l0.length ≤ c0) (d0 d1 d2 d3 d4 : Int) (hd : delim_Read.f l0 = some (d0, d1, d2, d3, d4, 0)) (t : List ByteArray) (ht : segment_Split.f l0 = some t) (hp : 0 < t.length) (f : ByteArray) (b : Bool) (hf : QField.segment_Field.f (rdOf ByteArray.empty t 0) 2 d0 d1 d2 d3 d4 = some (f, b)) (hne : (f.toList == (strOfNums [d1, d2, d3, d4]).toList) = true) (v : Nat → ByteArray) (hv : ∀ k : Nat, k < 10 → ∃ b, QField.segment_Field.f (rdOf ByteArray.empty t 0) (3 + (k : Int)) d0 d1 d2 d3 d4 = some (v k, b)) :
    Calls Tryd.prog 23 #[.slice A0 l0.length c0] w fun e w' => e = .returned (.tuple #[.agg #[.int .u8 d0, .int .u8 d1, .int .u8 d2, .int .u8 d3, .int .u8 d4, .string (v 0), .string (v 1), .string (v 2), .string (v 3), .string (v 4), .string (v 5), .string (v 6), .string (v 7), .string (v 8), .string (v 9)], .int .i64 0]) ∧ Below w.heap.size w w' := by
  have HV := Aside0.mk hv
  clear hv
  have HG := Aside0.mk hG; have HR := Aside0.mk hr0; have HC := Aside0.mk hc0; have HD := Aside0.mk hd; have HT := Aside0.mk ht; have HP := Aside0.mk hp; have HF := Aside0.mk hf
  clear hG hr0 hc0 hd ht hf
  go_enter Tryd.func23, Tryd.ntmps23
  go_wp2_with (first
    | (go_at_call 54; refine (delim_Read.calls A0 c0 l0 d0 d1 d2 d3 d4 0 _ ?hc HC.out HD.out).mono ?_; (case hc => exact Kd.C_below HR.out (below_alloc (Below.refl _ _) _)); rintro e w2 ⟨rfl, hb2⟩; have HB2 := Aside0.mk (below_step (below_alloc (Below.refl _ _) _) hb2); have hblk2 := blk_below (blk_new w (.cells #[.int .u8 0, .int .u8 0, .int .u8 0, .int .u8 0, .int .u8 0, .string ⟨#[]⟩, .string ⟨#[]⟩, .string ⟨#[]⟩, .string ⟨#[]⟩, .string ⟨#[]⟩, .string ⟨#[]⟩, .string ⟨#[]⟩, .string ⟨#[]⟩, .string ⟨#[]⟩, .string ⟨#[]⟩] 25)) hb2; have HBLK2 := Aside0.mk hblk2; have hlt2 : w.heap.size < w2.heap.size := blk_lt hblk2; have HL2 := Aside0.mk hlt2; clear hb2 hblk2)
    | (go_at_call 35; refine (segment_Split.calls A0 c0 l0 t _ ?hg ?hr HC.out HT.out).mono ?_; (case hg => exact HG.out.below (below_alloc HB2.out _)); (case hr => exact Kd.C_below HR.out (below_alloc HB2.out _)); rintro e w5 ⟨v0, rfl, hR, hb5⟩; obtain ⟨rb, ro, rc, eR, hx⟩ := row_first hR HP.out; subst eR; have HB5 := Aside0.mk (below_step (below_alloc HB2.out _) hb5); have B2 := Aside0.mk (blk_below (blk_alloc HBLK2.out _) hb5); have hd5 := blk_below (blk_new w2 (.cells #[.int .u8 d0, .int .u8 d1, .int .u8 d2, .int .u8 d3, .int .u8 d4] 23)) hb5; have B4 := Aside0.mk hd5; have y0 : w5.cell? ⟨w2.heap.size, 0, none⟩ = some (.int .u8 d0) := blk_cell hd5 0; have y1 : w5.cell? ⟨w2.heap.size, 1, none⟩ = some (.int .u8 d1) := blk_cell hd5 1; have y2 : w5.cell? ⟨w2.heap.size, 2, none⟩ = some (.int .u8 d2) := blk_cell hd5 2; have y3 : w5.cell? ⟨w2.heap.size, 3, none⟩ = some (.int .u8 d3) := blk_cell hd5 3; have y4 : w5.cell? ⟨w2.heap.size, 4, none⟩ = some (.int .u8 d4) := blk_cell hd5 4; clear hR hb5 hd5 hlt2 HB2 HBLK2)
    | (go_at_call 37; refine (QField.segment_Field.calls (rdOf ByteArray.empty t 0) 2 d0 d1 d2 d3 d4 f b _ ?hg HF.out).mono ?_; (case hg => exact HG.out.below HB5.out); rintro e w6 ⟨rfl, hb6⟩; have HB6 := Aside0.mk (below_step HB5.out hb6); have B2' := Aside0.mk (blk_below B2.out hb6); have B4' := Aside0.mk (blk_below B4.out hb6); have hd6 := B4'.out; clear y0 y1 y2 y3 y4 hx; have y0 : w6.cell? ⟨w2.heap.size, 0, none⟩ = some (.int .u8 d0) := blk_cell hd6 0; have y1 : w6.cell? ⟨w2.heap.size, 1, none⟩ = some (.int .u8 d1) := blk_cell hd6 1; have y2 : w6.cell? ⟨w2.heap.size, 2, none⟩ = some (.int .u8 d2) := blk_cell hd6 2; have y3 : w6.cell? ⟨w2.heap.size, 3, none⟩ = some (.int .u8 d3) := blk_cell hd6 3; have y4 : w6.cell? ⟨w2.heap.size, 4, none⟩ = some (.int .u8 d4) := blk_cell hd6 4; clear hb6 hd6 HB5 B2 B4)
    | (go_at_call 19; refine (Qothers.msh_others.calls d0 d1 d2 d3 d4 (strOfNums [d1, d2, d3, d4]) _ rfl).mono ?_; rintro e w7 ⟨rfl, hb7⟩; have HB7 := Aside0.mk (below_step HB6.out hb7); have B2 := Aside0.mk (blk_below B2'.out hb7); have B4 := Aside0.mk (blk_below B4'.out hb7); have hd7 := B4.out; have hd2 := B2.out; clear y0 y1 y2 y3 y4; have y0 : w7.cell? ⟨w2.heap.size, 0, none⟩ = some (.int .u8 d0) := blk_cell hd7 0; have y1 : w7.cell? ⟨w2.heap.size, 1, none⟩ = some (.int .u8 d1) := blk_cell hd7 1; have y2 : w7.cell? ⟨w2.heap.size, 2, none⟩ = some (.int .u8 d2) := blk_cell hd7 2; have y3 : w7.cell? ⟨w2.heap.size, 3, none⟩ = some (.int .u8 d3) := blk_cell hd7 3; have y4 : w7.cell? ⟨w2.heap.size, 4, none⟩ = some (.int .u8 d4) := blk_cell hd7 4; clear hb7 hd7 hd2 HB6 B2' B4')
    | (go_at_call 20; refine (texts_calls _).mono ?_; rintro e w8 ⟨rfl, hb8⟩; have HB8 := Aside0.mk (below_step (below_alloc HB7.out _) hb8); have B2' := Aside0.mk (blk_below (blk_alloc B2.out _) hb8); have B4' := Aside0.mk (blk_below (blk_alloc B4.out _) hb8); have B9 := Aside0.mk (blk_below (blk_new w7 (.cells #[.int .u8 d0, .int .u8 d1, .int .u8 d2, .int .u8 d3, .int .u8 d4, .string ⟨#[]⟩, .string ⟨#[]⟩, .string ⟨#[]⟩, .string ⟨#[]⟩, .string ⟨#[]⟩, .string ⟨#[]⟩, .string ⟨#[]⟩, .string ⟨#[]⟩, .string ⟨#[]⟩, .string ⟨#[]⟩] 25)) hb8); have HL7 := Aside0.mk (blk_lt B2.out); clear y0 y1 y2 y3 y4 hb8))
  have G2 : Aside0 (w.heap.size ≤ w2.heap.size) := ⟨Nat.le_of_lt HL2.out⟩
  have G9 : Aside0 (w.heap.size ≤ w7.heap.size) := ⟨HB7.out.size⟩
  have N49 : Aside0 (w2.heap.size ≠ w7.heap.size) := ⟨blk_ne B4'.out B9.out (by decide)⟩
  have N29 : Aside0 (w.heap.size ≠ w7.heap.size) := ⟨Nat.ne_of_lt HL7.out⟩
  clear HB7 B2 B4 HL2 HL7
  generalize w2.heap.size = b4 at *
  generalize w7.heap.size = b9 at *
  generalize rdOf ByteArray.empty t 0 = s at *
  go_loopw [39] (fun i W => ∃ k : Nat, k ≤ 10 ∧ i = .int .i64 (k : Nat) ∧ Aside0 (W.heap[b9]? = some (.cells (headC d0 d1 d2 d3 d4 v k) 25 (0, 0))) ∧ Aside0 (W.heap[b4]? = some (.cells #[.int .u8 d0, .int .u8 d1, .int .u8 d2, .int .u8 d3, .int .u8 d4] 23 (0, 0))) ∧ Aside0 (W.heap[w.heap.size]? = some (.cells #[.int .u8 0, .int .u8 0, .int .u8 0, .int .u8 0, .int .u8 0, .string ⟨#[]⟩, .string ⟨#[]⟩, .string ⟨#[]⟩, .string ⟨#[]⟩, .string ⟨#[]⟩, .string ⟨#[]⟩, .string ⟨#[]⟩, .string ⟨#[]⟩, .string ⟨#[]⟩, .string ⟨#[]⟩] 25 (0, 0))) ∧ Aside0 (Below w.heap.size w W)) (fun i _ => 10 - (intOf i).toNat)
  case atStart => exact ⟨0, Nat.zero_le _, rfl, ⟨B9.out⟩, B4', B2', HB8⟩
  case round =>
    clear B9 B4' B2' HB8
    obtain ⟨k, hk10, rfl, HBK9, HBK4, HBK2, HBr⟩ := hrel
    by_cases hk : k < 10
    · obtain ⟨bk, hFk⟩ := HV.out k hk
      have HFk := Aside0.mk hFk
      have hidx : ∀ W : World, (Instr.index 55 textsV (.int .i64 (k : Nat))).run Tryd.prog W = .ok (.agg #[.func (.func (textFn k)) #[] #[]]) W := texts_index k hk
      have hlt10 : decide ((k : Int) < 10) = true := decide_eq_true (by omega)
      have hlt10' : decide (k < 10) = true := decide_eq_true hk
      have hw3 : IntKind.i64.wrap (3 + (k : Int)) = 3 + (k : Int) := by rw [i64_w]; unfold wrap64; omega
      have hw3' : wrap64 (3 + (k : Int)) = 3 + (k : Int) := by unfold wrap64; omega
      clear hFk
      have hw1 : wrap64 ((k : Int) + 1) = (k : Int) + 1 := by unfold wrap64; omega
      have x0 : (wr.alloc (.cells #[.func (.func (textFn k)) #[] #[]] 54)).drew.cell? ⟨wr.heap.size, 0, none⟩ = some (.func (.func (textFn k)) #[] #[]) := (blk_cell (blk_drew (blk_new wr _)) 0).trans rfl
      have hd4 := blk_drew (blk_alloc HBK4.out (.cells #[.func (.func (textFn k)) #[] #[]] 54))
      have y0 : (wr.alloc (.cells #[.func (.func (textFn k)) #[] #[]] 54)).drew.cell? ⟨b4, 0, none⟩ = some (.int .u8 d0) := blk_cell hd4 0; have y1 : (wr.alloc (.cells #[.func (.func (textFn k)) #[] #[]] 54)).drew.cell? ⟨b4, 1, none⟩ = some (.int .u8 d1) := blk_cell hd4 1; have y2 : (wr.alloc (.cells #[.func (.func (textFn k)) #[] #[]] 54)).drew.cell? ⟨b4, 2, none⟩ = some (.int .u8 d2) := blk_cell hd4 2; have y3 : (wr.alloc (.cells #[.func (.func (textFn k)) #[] #[]] 54)).drew.cell? ⟨b4, 3, none⟩ = some (.int .u8 d3) := blk_cell hd4 3; have y4 : (wr.alloc (.cells #[.func (.func (textFn k)) #[] #[]] 54)).drew.cell? ⟨b4, 4, none⟩ = some (.int .u8 d4) := blk_cell hd4 4
      have NBx : Aside0 (wr.heap.size ≠ b9) := ⟨Nat.ne_of_gt (blk_lt HBK9.out)⟩
      clear hd4
      go_wp2_with fail
      refine start_ (n := 13) (S := fun w' => w'.cell? ⟨wr.heap.size, 0, none⟩ = some (.func (.func (textFn k)) #[] #[]) ∧ w'.cell? ⟨b4, 0, none⟩ = some (.int .u8 d0) ∧ w'.cell? ⟨b4, 1, none⟩ = some (.int .u8 d1) ∧ w'.cell? ⟨b4, 2, none⟩ = some (.int .u8 d2) ∧ w'.cell? ⟨b4, 3, none⟩ = some (.int .u8 d3) ∧ w'.cell? ⟨b4, 4, none⟩ = some (.int .u8 d4)) (ds := []) #[false, false, false, false, false, false, false, false, false, false, false, false, false] (by kernel_rfl) rfl rfl ⟨x0, y0, y1, y2, y3, y4⟩ (fun hHeld => ?_)
      refine pure_ (i := 0) (N := (some 44)) (v := ?_) (a' := ?_) #[true, false, false, false, false, false, false, false, false, false, false, false, false] rfl rfl (by kernel_rfl) (fun _ _ _ h => h) (Or.inl ⟨by rfl, ?_⟩) ?_ ?_
      rotate_left
      · intro w'
        go_simp
        with_reducible rfl
      rotate_left
      · simp only [Act.put, List.setIfInBounds_toArray, List.set_cons_zero, List.set_cons_succ, i64_w, i32_w]
        rfl
      refine take_ (i := 1) (N := (some 45)) (v := ?_) (a' := ?_) #[true, true, false, false, false, false, false, false, false, false, false, false, false] rfl rfl (by kernel_rfl) (fun _ _ _ h => h) (Or.inl ⟨by rfl, ?_⟩) hHeld ?_ ?_
      rotate_left
      · rintro w' ⟨s0, s1, s2, s3, s4, s5⟩
        go_simp
        with_reducible rfl
      rotate_left
      · simp only [Act.put, List.setIfInBounds_toArray, List.set_cons_zero, List.set_cons_succ, i64_w, i32_w]
        rfl
      refine pure_ (i := 3) (N := (some 47)) (v := ?_) (a' := ?_) #[true, true, false, true, false, false, false, false, false, false, false, false, false] rfl rfl (by kernel_rfl) (fun _ _ _ h => h) (Or.inl ⟨by rfl, ?_⟩) ?_ ?_
      rotate_left
      · intro w'
        go_simp
        with_reducible rfl
      rotate_left
      · simp only [Act.put, List.setIfInBounds_toArray, List.set_cons_zero, List.set_cons_succ, i64_w, i32_w]
        rfl
      refine pure_ (i := 4) (N := (some 48)) (v := ?_) (a' := ?_) #[true, true, false, true, true, false, false, false, false, false, false, false, false] rfl rfl (by kernel_rfl) (fun _ _ _ h => h) (Or.inl ⟨by rfl, ?_⟩) ?_ ?_
      rotate_left
      · intro w'
        go_simp
        with_reducible rfl
      rotate_left
      · simp only [Act.put, List.setIfInBounds_toArray, List.set_cons_zero, List.set_cons_succ, i64_w, i32_w]
        rfl
      refine pure_ (i := 5) (N := (some 49)) (v := ?_) (a' := ?_) #[true, true, false, true, true, true, false, false, false, false, false, false, false] rfl rfl (by kernel_rfl) (fun _ _ _ h => h) (Or.inl ⟨by rfl, ?_⟩) ?_ ?_
      rotate_left
      · intro w'
        go_simp
        with_reducible rfl
      rotate_left
      · simp only [Act.put, List.setIfInBounds_toArray, List.set_cons_zero, List.set_cons_succ, i64_w, i32_w]
        rfl
      refine take_ (i := 6) (N := (some 50)) (v := ?_) (a' := ?_) #[true, true, false, true, true, true, true, false, false, false, false, false, false] rfl rfl (by kernel_rfl) (fun _ _ _ h => h) (Or.inl ⟨by rfl, ?_⟩) hHeld ?_ ?_
      rotate_left
      · rintro w' ⟨s0, s1, s2, s3, s4, s5⟩
        go_simp
        with_reducible rfl
      rotate_left
      · simp only [Act.put, List.setIfInBounds_toArray, List.set_cons_zero, List.set_cons_succ, i64_w, i32_w]
        rfl
      refine one_ (i := 2) (N := (some 46)) #[true, true, true, true, true, true, true, false, false, false, false, false, false] rfl rfl (by kernel_rfl) (by decide) (fun K hK => ?_)
      refine call_ (textFn k) #[.pointer (some ⟨b9, 0, none⟩)] (by rfl) rfl ?_ ?_
      · unfold execOp
        simp [resolve, Deferred.ofValue, invoke, Act.eval, texts_enters k hk]
      refine (text_calls k hk b9 _).mono ?_
      rintro e w3 ⟨rfl, hw3⟩
      have hw3' := hw3.symm
      subst hw3'
      clear hw3
      refine ⟨_, rfl, ?_⟩
      refine hK.out _ _ hHeld (fun hHeld => ?_)
      clear hK K
      refine norm_ (a' := ?_) ?_ ?_
      rotate_left
      · show Act.put _ (some 46) _ = _
        simp only [Act.put, List.setIfInBounds_toArray, List.set_cons_zero, List.set_cons_succ, i64_w, i32_w]
        rfl
      refine one_ (i := 7) (N := (some 51)) #[true, true, true, true, true, true, true, true, false, false, false, false, false] rfl rfl (by kernel_rfl) (by decide) (fun K hK => ?_)
      refine goes_ Tryd.func37 (by kernel_rfl) rfl #[.string s, .int .i64 (3 + (k : Int)), .agg #[.int .u8 d0, .int .u8 d1, .int .u8 d2, .int .u8 d3, .int .u8 d4]] (by rfl) rfl rfl (by (try simp only [List.map_toArray, List.map_cons, List.map_nil]); first | done | rfl) ?_
      refine (QField.segment_Field.calls s (3 + (k : Int)) d0 d1 d2 d3 d4 (v k) bk _ ?hg HFk.out).mono ?_
      case hg => exact HG.out.below (below_drew1 (below_alloc HBr.out _))
      rintro e w4 ⟨rfl, hb4⟩
      have HB4 := Aside0.mk hb4
      clear hb4
      refine ⟨_, rfl, ?_⟩
      refine hK.out _ _ ⟨pw_cell_below HB4.out hHeld.1, pw_cell_below HB4.out hHeld.2.1, pw_cell_below HB4.out hHeld.2.2.1, pw_cell_below HB4.out hHeld.2.2.2.1, pw_cell_below HB4.out hHeld.2.2.2.2.1, pw_cell_below HB4.out hHeld.2.2.2.2.2⟩ (fun hHeld => ?_)
      clear hK K
      refine norm_ (a' := ?_) ?_ ?_
      rotate_left
      · show Act.put _ (some 51) _ = _
        simp only [Act.put, List.setIfInBounds_toArray, List.set_cons_zero, List.set_cons_succ, i64_w, i32_w]
        rfl
      refine pure_ (i := 8) (N := (some 43)) (v := ?_) (a' := ?_) #[true, true, true, true, true, true, true, true, true, false, false, false, false] rfl rfl (by kernel_rfl) (fun _ _ _ h => h) (Or.inl ⟨by rfl, ?_⟩) ?_ ?_
      rotate_left
      · intro w'
        go_simp
        with_reducible rfl
      rotate_left
      · simp only [Act.put, List.setIfInBounds_toArray, List.set_cons_zero, List.set_cons_succ, i64_w, i32_w]
        rfl
      refine pure_ (i := 9) (N := (some 52)) (v := ?_) (a' := ?_) #[true, true, true, true, true, true, true, true, true, true, false, false, false] rfl rfl (by kernel_rfl) (fun _ _ _ h => h) (Or.inl ⟨by rfl, ?_⟩) ?_ ?_
      rotate_left
      · intro w'
        go_simp
        with_reducible rfl
      rotate_left
      · simp only [Act.put, List.setIfInBounds_toArray, List.set_cons_zero, List.set_cons_succ, i64_w, i32_w]
        rfl
      refine pure_ (i := 10) (N := (some 53)) (v := ?_) (a' := ?_) #[true, true, true, true, true, true, true, true, true, true, true, false, false] rfl rfl (by kernel_rfl) (fun _ _ _ h => h) (Or.inl ⟨by rfl, ?_⟩) ?_ ?_
      rotate_left
      · intro w'
        go_simp
        with_reducible rfl
      rotate_left
      · simp only [Act.put, List.setIfInBounds_toArray, List.set_cons_zero, List.set_cons_succ, i64_w, i32_w]
        rfl
      refine pure_ (i := 11) (N := (some 54)) (v := ?_) (a' := ?_) #[true, true, true, true, true, true, true, true, true, true, true, true, false] rfl rfl (by kernel_rfl) (fun _ _ _ h => h) (Or.inl ⟨by rfl, ?_⟩) ?_ ?_
      rotate_left
      · intro w'
        go_simp
        with_reducible rfl
      rotate_left
      · simp only [Act.put, List.setIfInBounds_toArray, List.set_cons_zero, List.set_cons_succ, i64_w, i32_w]
        rfl
      refine one_ (i := 12) (N := none) #[true, true, true, true, true, true, true, true, true, true, true, true, true] rfl rfl (by kernel_rfl) (by decide) (fun K hK => ?_)
      have hblk4 := blk_below (blk_drew (blk_alloc HBK9.out _)) HB4.out
      have z0 : w4.cell? ⟨b9, 5 + k, none⟩ = some (.string ⟨#[]⟩) := (blk_cell hblk4 (5 + k)).trans (headC_at d0 d1 d2 d3 d4 v k hk)
      have z1 := blk_frozen hblk4 (5 + k)
      refine skip_ (w1 := ?_) (by rfl) rfl ?_ ?_
      rotate_left
      · go_simp
        rfl
      refine hK.out _ _ ⟨(cell_far (p := ⟨b9, 5 + k, none⟩) NBx.out _).trans hHeld.1, (cell_far (p := ⟨b9, 5 + k, none⟩) N49.out _).trans hHeld.2.1, (cell_far (p := ⟨b9, 5 + k, none⟩) N49.out _).trans hHeld.2.2.1, (cell_far (p := ⟨b9, 5 + k, none⟩) N49.out _).trans hHeld.2.2.2.1, (cell_far (p := ⟨b9, 5 + k, none⟩) N49.out _).trans hHeld.2.2.2.2.1, (cell_far (p := ⟨b9, 5 + k, none⟩) N49.out _).trans hHeld.2.2.2.2.2⟩ (fun hHeld => ?_)
      clear hK K
      refine done_ (by kernel_rfl) ?_
      go_wp2
      go_roundw
      case rel => exact ⟨k + 1, by omega, by go_num, ⟨blk_put (blk_below (blk_drew (blk_alloc HBK9.out _)) HB4.out) (5 + k) (.string (v k)) (headC_set d0 d1 d2 d3 d4 v k hk)⟩, ⟨blk_far (blk_below (blk_drew (blk_alloc HBK4.out _)) HB4.out) N49.out _⟩, ⟨blk_far (blk_below (blk_drew (blk_alloc HBK2.out _)) HB4.out) N29.out _⟩, ⟨below_set (below_step (below_drew1 (below_alloc HBr.out _)) HB4.out) G9.out⟩⟩
      case measure => simp [intOf]; omega
    · obtain rfl : k = 10 := by omega
      have hb9 := HBK9.out; have hb2 := HBK2.out
      have u0 : wr.cell? ⟨b9, 0, none⟩ = some (.int .u8 d0) := blk_cell hb9 0; have u1 : wr.cell? ⟨b9, 1, none⟩ = some (.int .u8 d1) := blk_cell hb9 1; have u2 : wr.cell? ⟨b9, 2, none⟩ = some (.int .u8 d2) := blk_cell hb9 2; have u3 : wr.cell? ⟨b9, 3, none⟩ = some (.int .u8 d3) := blk_cell hb9 3; have u4 : wr.cell? ⟨b9, 4, none⟩ = some (.int .u8 d4) := blk_cell hb9 4; have u5 : wr.cell? ⟨b9, 5, none⟩ = some (.string (v 0)) := blk_cell hb9 5; have u6 : wr.cell? ⟨b9, 6, none⟩ = some (.string (v 1)) := blk_cell hb9 6; have u7 : wr.cell? ⟨b9, 7, none⟩ = some (.string (v 2)) := blk_cell hb9 7; have u8 : wr.cell? ⟨b9, 8, none⟩ = some (.string (v 3)) := blk_cell hb9 8; have u9 : wr.cell? ⟨b9, 9, none⟩ = some (.string (v 4)) := blk_cell hb9 9; have u10 : wr.cell? ⟨b9, 10, none⟩ = some (.string (v 5)) := blk_cell hb9 10; have u11 : wr.cell? ⟨b9, 11, none⟩ = some (.string (v 6)) := blk_cell hb9 11; have u12 : wr.cell? ⟨b9, 12, none⟩ = some (.string (v 7)) := blk_cell hb9 12; have u13 : wr.cell? ⟨b9, 13, none⟩ = some (.string (v 8)) := blk_cell hb9 13; have u14 : wr.cell? ⟨b9, 14, none⟩ = some (.string (v 9)) := blk_cell hb9 14
      have p0 : wr.cell? ⟨w.heap.size, 0, none⟩ = some (.int .u8 0) := blk_cell hb2 0; have p1 : wr.cell? ⟨w.heap.size, 1, none⟩ = some (.int .u8 0) := blk_cell hb2 1; have p2 : wr.cell? ⟨w.heap.size, 2, none⟩ = some (.int .u8 0) := blk_cell hb2 2; have p3 : wr.cell? ⟨w.heap.size, 3, none⟩ = some (.int .u8 0) := blk_cell hb2 3; have p4 : wr.cell? ⟨w.heap.size, 4, none⟩ = some (.int .u8 0) := blk_cell hb2 4; have p5 : wr.cell? ⟨w.heap.size, 5, none⟩ = some (.string ⟨#[]⟩) := blk_cell hb2 5; have p6 : wr.cell? ⟨w.heap.size, 6, none⟩ = some (.string ⟨#[]⟩) := blk_cell hb2 6; have p7 : wr.cell? ⟨w.heap.size, 7, none⟩ = some (.string ⟨#[]⟩) := blk_cell hb2 7; have p8 : wr.cell? ⟨w.heap.size, 8, none⟩ = some (.string ⟨#[]⟩) := blk_cell hb2 8; have p9 : wr.cell? ⟨w.heap.size, 9, none⟩ = some (.string ⟨#[]⟩) := blk_cell hb2 9; have p10 : wr.cell? ⟨w.heap.size, 10, none⟩ = some (.string ⟨#[]⟩) := blk_cell hb2 10; have p11 : wr.cell? ⟨w.heap.size, 11, none⟩ = some (.string ⟨#[]⟩) := blk_cell hb2 11; have p12 : wr.cell? ⟨w.heap.size, 12, none⟩ = some (.string ⟨#[]⟩) := blk_cell hb2 12; have p13 : wr.cell? ⟨w.heap.size, 13, none⟩ = some (.string ⟨#[]⟩) := blk_cell hb2 13; have p14 : wr.cell? ⟨w.heap.size, 14, none⟩ = some (.string ⟨#[]⟩) := blk_cell hb2 14; have pf0 := blk_frozen hb2 0; have pf1 := blk_frozen hb2 1; have pf2 := blk_frozen hb2 2; have pf3 := blk_frozen hb2 3; have pf4 := blk_frozen hb2 4; have pf5 := blk_frozen hb2 5; have pf6 := blk_frozen hb2 6; have pf7 := blk_frozen hb2 7; have pf8 := blk_frozen hb2 8; have pf9 := blk_frozen hb2 9; have pf10 := blk_frozen hb2 10; have pf11 := blk_frozen hb2 11; have pf12 := blk_frozen hb2 12; have pf13 := blk_frozen hb2 13; have pf14 := blk_frozen hb2 14
      clear hb9 hb2 HV HG HR HC HD HT HP HF
      go_wp2
      refine bodyPost_ret (results_ct rfl _ _ w.heap.size 25 #[.int .u8 d0, .int .u8 d1, .int .u8 d2, .int .u8 d3, .int .u8 d4, .string (v 0), .string (v 1), .string (v 2), .string (v 3), .string (v 4), .string (v 5), .string (v 6), .string (v 7), .string (v 8), .string (v 9)] (0, 0) _ rfl (blk_row15 HBK2.out) Tryd.underlying25 rfl (by kernel_rfl)) rfl ?_
      exact ⟨rfl, (below_set (below_set (below_set (below_set (below_set (below_set (below_set (below_set (below_set (below_set (below_set (below_set (below_set (below_set (below_set HBr.out (Nat.le_refl _)) (Nat.le_refl _)) (Nat.le_refl _)) (Nat.le_refl _)) (Nat.le_refl _)) (Nat.le_refl _)) (Nat.le_refl _)) (Nat.le_refl _)) (Nat.le_refl _)) (Nat.le_refl _)) (Nat.le_refl _)) (Nat.le_refl _)) (Nat.le_refl _)) (Nat.le_refl _)) (Nat.le_refl _))⟩

end Go.Proofs.YtciagecaegoppaaDoor
namespace Go.Proofs.YtciagecaegoppaaDoor
set_option linter.unusedVariables false
set_option maxRecDepth 100000
open Go.RowKit Go.Proofs.YtciagecaegoppaaDoorW.PrintWords Go.Proofs.YtciagecaegoppaaDoorW.PrintLast Go.Proofs.YtciagecaegoppaaDoorW.PrintMore

abbrev HeadT := Int × Int × Int × Int × Int × ByteArray × ByteArray × ByteArray × ByteArray × ByteArray × ByteArray × ByteArray × ByteArray × ByteArray × ByteArray × Int
def headZ (e : Int) : HeadT := (0, 0, 0, 0, 0, ⟨#[]⟩, ⟨#[]⟩, ⟨#[]⟩, ⟨#[]⟩, ⟨#[]⟩, ⟨#[]⟩, ⟨#[]⟩, ⟨#[]⟩, ⟨#[]⟩, ⟨#[]⟩, e)
/-- The field k of the first segment s, k from 3 on. -/
def fieldOf (s : ByteArray) (d0 d1 d2 d3 d4 : Int) (k : Int) : Option ByteArray := (QField.segment_Field.f s k d0 d1 d2 d3 d4).map (·.1)
def msh_Read.rest (s : ByteArray) (d0 d1 d2 d3 d4 : Int) : Option HeadT :=
  (fieldOf s d0 d1 d2 d3 d4 3).bind fun v0 => (fieldOf s d0 d1 d2 d3 d4 4).bind fun v1 => (fieldOf s d0 d1 d2 d3 d4 5).bind fun v2 => (fieldOf s d0 d1 d2 d3 d4 6).bind fun v3 => (fieldOf s d0 d1 d2 d3 d4 7).bind fun v4 => (fieldOf s d0 d1 d2 d3 d4 8).bind fun v5 => (fieldOf s d0 d1 d2 d3 d4 9).bind fun v6 => (fieldOf s d0 d1 d2 d3 d4 10).bind fun v7 => (fieldOf s d0 d1 d2 d3 d4 11).bind fun v8 => (fieldOf s d0 d1 d2 d3 d4 12).bind fun v9 => some (d0, d1, d2, d3, d4, v0, v1, v2, v3, v4, v5, v6, v7, v8, v9, 0)
def msh_Read.f (l0 : List Int) : Option HeadT :=
  (delim_Read.f l0).bind fun d =>
    if d.2.2.2.2.2 ≠ 0 then some (headZ d.2.2.2.2.2)
    else (segment_Split.f l0).bind fun t =>
      if 0 < t.length then
        (QField.segment_Field.f (rdOf ByteArray.empty t 0) 2 d.1 d.2.1 d.2.2.1 d.2.2.2.1 d.2.2.2.2.1).bind fun f =>
          if (f.1.toList == (strOfNums [d.2.1, d.2.2.1, d.2.2.2.1, d.2.2.2.2.1]).toList) = false then some (headZ 11)
          else msh_Read.rest (rdOf ByteArray.empty t 0) d.1 d.2.1 d.2.2.1 d.2.2.2.1 d.2.2.2.2.1
      else none
def vOf (v0 v1 v2 v3 v4 v5 v6 v7 v8 v9 : ByteArray) : Nat → ByteArray
  | 0 => v0
  | 1 => v1
  | 2 => v2
  | 3 => v3
  | 4 => v4
  | 5 => v5
  | 6 => v6
  | 7 => v7
  | 8 => v8
  | _ => v9
theorem field_of {s : ByteArray} {d0 d1 d2 d3 d4 k : Int} {v : ByteArray} (h : fieldOf s d0 d1 d2 d3 d4 k = some v) : ∃ b, QField.segment_Field.f s k d0 d1 d2 d3 d4 = some (v, b) := by
  obtain ⟨⟨v', b⟩, h1, rfl⟩ := Option.map_eq_some_iff.1 h
  exact ⟨b, h1⟩

theorem msh_Read.calls (A0 : Option Addr) (c0 : Nat) (l0 : List Int) (r1 r2 r3 r4 r5 : Int) (r6 r7 r8 r9 r10 r11 r12 r13 r14 r15 : ByteArray) (r16 : Int) (w : World) (hG : GlobA w) (hr0 : Kd.C (Kd.int .u8) w A0 l0.length l0) (hc0 : l0.length ≤ c0) (h : msh_Read.f l0 = some (r1, r2, r3, r4, r5, r6, r7, r8, r9, r10, r11, r12, r13, r14, r15, r16)) :
    Calls Tryd.prog 23 #[.slice A0 l0.length c0] w fun e w' => e = .returned (.tuple #[.agg #[.int .u8 r1, .int .u8 r2, .int .u8 r3, .int .u8 r4, .int .u8 r5, .string r6, .string r7, .string r8, .string r9, .string r10, .string r11, .string r12, .string r13, .string r14, .string r15], .int .i64 r16]) ∧ Below w.heap.size w w' := by
  unfold msh_Read.f at h
  obtain ⟨⟨d0, d1, d2, d3, d4, e0⟩, hd, h⟩ := Option.bind_eq_some_iff.1 h
  dsimp only at h
  by_cases he : e0 ≠ 0
  · rw [if_pos he] at h
    simp only [headZ, Option.some.injEq, Prod.mk.injEq] at h
    obtain ⟨rfl, rfl, rfl, rfl, rfl, rfl, rfl, rfl, rfl, rfl, rfl, rfl, rfl, rfl, rfl, rfl⟩ := h
    exact read_bad A0 c0 l0 w hr0 hc0 d0 d1 d2 d3 d4 _ hd he
  · rw [if_neg he] at h
    obtain rfl : e0 = 0 := by simpa using he
    obtain ⟨t, ht, h⟩ := Option.bind_eq_some_iff.1 h
    split at h
    case isFalse => cases h
    rename_i hp
    obtain ⟨⟨f, b⟩, hf, h⟩ := Option.bind_eq_some_iff.1 h
    dsimp only at h
    by_cases hne : (f.toList == (strOfNums [d1, d2, d3, d4]).toList) = false
    · rw [if_pos hne] at h
      simp only [headZ, Option.some.injEq, Prod.mk.injEq] at h
      obtain ⟨rfl, rfl, rfl, rfl, rfl, rfl, rfl, rfl, rfl, rfl, rfl, rfl, rfl, rfl, rfl, rfl⟩ := h
      exact read_other A0 c0 l0 w hG hr0 hc0 d0 d1 d2 d3 d4 hd t ht hp f b hf hne
    · rw [if_neg hne] at h
      unfold msh_Read.rest at h
      obtain ⟨v0, h0, h⟩ := Option.bind_eq_some_iff.1 h
      obtain ⟨v1, h1, h⟩ := Option.bind_eq_some_iff.1 h
      obtain ⟨v2, h2, h⟩ := Option.bind_eq_some_iff.1 h
      obtain ⟨v3, h3, h⟩ := Option.bind_eq_some_iff.1 h
      obtain ⟨v4, h4, h⟩ := Option.bind_eq_some_iff.1 h
      obtain ⟨v5, h5, h⟩ := Option.bind_eq_some_iff.1 h
      obtain ⟨v6, h6, h⟩ := Option.bind_eq_some_iff.1 h
      obtain ⟨v7, h7, h⟩ := Option.bind_eq_some_iff.1 h
      obtain ⟨v8, h8, h⟩ := Option.bind_eq_some_iff.1 h
      obtain ⟨v9, h9, h⟩ := Option.bind_eq_some_iff.1 h
      simp only [Option.some.injEq, Prod.mk.injEq] at h
      obtain ⟨rfl, rfl, rfl, rfl, rfl, rfl, rfl, rfl, rfl, rfl, rfl, rfl, rfl, rfl, rfl, rfl⟩ := h
      exact read_on A0 c0 l0 w hG hr0 hc0 d0 d1 d2 d3 d4 hd t ht hp f b hf (by simpa using hne) (vOf v0 v1 v2 v3 v4 v5 v6 v7 v8 v9) (fun k hk => by
        rcases k with _ | _ | _ | _ | _ | _ | _ | _ | _ | _ | k
        · exact field_of h0
        · exact field_of h1
        · exact field_of h2
        · exact field_of h3
        · exact field_of h4
        · exact field_of h5
        · exact field_of h6
        · exact field_of h7
        · exact field_of h8
        · exact field_of h9
        · omega)
end Go.Proofs.YtciagecaegoppaaDoor
namespace Go.Proofs.YtciagecaegoppaaDoor
set_option linter.unusedVariables false
set_option linter.unusedSimpArgs false
set_option maxRecDepth 100000
open Go.RowKit Go.Proofs.YtciagecaegoppaaDoorW.PrintWords Go.Proofs.YtciagecaegoppaaDoorW.PrintLast Go.Proofs.YtciagecaegoppaaDoorW.PrintMore

theorem check_range {d0 d1 d2 d3 d4 : Int} {s5 s6 s7 s8 s9 s10 s11 s12 s13 s14 : ByteArray} {r : Int} (h : msh_Check.f d0 d1 d2 d3 d4 s5 s6 s7 s8 s9 s10 s11 s12 s13 s14 = some r) : r = 0 ∨ r = 12 ∨ r = 13 ∨ r = 14 := by
  unfold msh_Check.f at h
  split at h
  · obtain rfl := Option.some.inj h
    exact .inr (.inr (.inr rfl))
  · obtain ⟨v, _, h⟩ := Option.bind_eq_some_iff.1 h
    split at h
    · obtain rfl := Option.some.inj h
      exact .inr (.inl rfl)
    · obtain ⟨p, _, h⟩ := Option.bind_eq_some_iff.1 h
      split at h
      · obtain rfl := Option.some.inj h
        exact .inr (.inr (.inl rfl))
      · obtain rfl := Option.some.inj h
        exact .inl rfl

/-- The bytes ahead of the first Tail. -/
def firstSeg (l0 : List Int) : List Int := if 0 ≤ Lib.index (Lib.bytesOf l0) (Lib.bytesOf [13]) then l0.take (Lib.index (Lib.bytesOf l0) (Lib.bytesOf [13])).toNat else l0
theorem cut_shape (A : Option Addr) (l0 : List Int) (c : Nat) : ∃ x2 x3, Lib.cutV A l0.length c 1 (Lib.index (Lib.bytesOf l0) (Lib.bytesOf [13])) = .tuple #[.slice A (firstSeg l0).length c, x2, x3] ∧ (firstSeg l0).length ≤ l0.length := by
  unfold Lib.cutV firstSeg
  by_cases hi : 0 ≤ Lib.index (Lib.bytesOf l0) (Lib.bytesOf [13])
  · rw [if_pos hi, if_pos hi]
    have hle := Lib.index_le (Lib.bytesOf l0) (Lib.bytesOf [13])
    have hl : (l0.take (Lib.index (Lib.bytesOf l0) (Lib.bytesOf [13])).toNat).length = (Lib.index (Lib.bytesOf l0) (Lib.bytesOf [13])).toNat := by
      rw [List.length_take]
      have : (Lib.bytesOf l0).length = l0.length := by simp [Lib.bytesOf]
      omega
    exact ⟨_, _, by rw [hl], by rw [hl]; rw [List.length_take] at hl; omega⟩
  · rw [if_neg hi, if_neg hi]
    exact ⟨_, _, rfl, Nat.le_refl _⟩
theorem firstSeg_take (l0 : List Int) : ∃ m, m ≤ l0.length ∧ firstSeg l0 = l0.take m := by
  obtain ⟨_, _, _, h⟩ := cut_shape none l0 0
  by_cases hi : 0 ≤ Lib.index (Lib.bytesOf l0) (Lib.bytesOf [13])
  · have e : firstSeg l0 = l0.take (Lib.index (Lib.bytesOf l0) (Lib.bytesOf [13])).toNat := by unfold firstSeg; rw [if_pos hi]
    refine ⟨(firstSeg l0).length, h, ?_⟩
    rw [e, List.length_take, ← List.take_take, List.take_length]
  · have e : firstSeg l0 = l0 := by unfold firstSeg; rw [if_neg hi]
    exact ⟨l0.length, Nat.le_refl _, by rw [e, List.take_length]⟩

set_option maxHeartbeats 4000000 in
theorem verdict_bad (A0 : Option Addr) (c0 : Nat) (l0 : List Int) (w : World) (hG : GlobA w) (hr0 : Kd.C (Kd.int .u8) w A0 l0.length l0) (hc0 : l0.length ≤ c0) (d0 d1 d2 d3 d4 : Int) (s5 s6 s7 s8 s9 s10 s11 s12 s13 s14 : ByteArray) (e0 : Int) (hrd : msh_Read.f l0 = some (d0, d1, d2, d3, d4, s5, s6, s7, s8, s9, s10, s11, s12, s13, s14, e0)) (he : e0 ≠ 0) :
    Calls Tryd.prog 10 #[.slice A0 l0.length c0] w fun e w' => e = .returned (.tuple #[.agg #[.int .u8 0, .int .u8 0, .int .u8 0, .int .u8 0, .int .u8 0, .string ⟨#[]⟩, .string ⟨#[]⟩, .string ⟨#[]⟩, .string ⟨#[]⟩, .string ⟨#[]⟩, .string ⟨#[]⟩, .string ⟨#[]⟩, .string ⟨#[]⟩, .string ⟨#[]⟩, .string ⟨#[]⟩], .string ⟨#[]⟩, .int .i64 e0]) ∧ Below w.heap.size w w' := by
  have HG := Aside0.mk hG; have HR := Aside0.mk hr0; have HC := Aside0.mk hc0; have HRD := Aside0.mk hrd
  clear hG hr0 hc0 hrd
  have he' : (e0 != 0) = true := bne_iff_ne.2 he
  clear he
  go_enter Tryd.func10, Tryd.ntmps10
  go_wp2_with (go_at_call 23; refine (msh_Read.calls A0 c0 l0 d0 d1 d2 d3 d4 s5 s6 s7 s8 s9 s10 s11 s12 s13 s14 e0 _ ?hg ?hr HC.out HRD.out).mono ?_; (case hg => exact HG.out.below (below_alloc (Below.refl _ _) _)); (case hr => exact Kd.C_below HR.out (below_alloc (Below.refl _ _) _)); rintro e w2 ⟨rfl, hb2⟩; have HB2 := Aside0.mk (below_step (below_alloc (Below.refl _ _) _) hb2); have hblk2 := blk_below (blk_new w (.cells #[.int .u8 0, .int .u8 0, .int .u8 0, .int .u8 0, .int .u8 0, .string ⟨#[]⟩, .string ⟨#[]⟩, .string ⟨#[]⟩, .string ⟨#[]⟩, .string ⟨#[]⟩, .string ⟨#[]⟩, .string ⟨#[]⟩, .string ⟨#[]⟩, .string ⟨#[]⟩, .string ⟨#[]⟩] 25)) hb2; have BK2 := Aside0.mk hblk2; have hlt2 : w.heap.size < w2.heap.size := blk_lt hblk2; have HL2 := Aside0.mk hlt2; have p0 : w2.cell? ⟨w.heap.size, 0, none⟩ = some (.int .u8 0) := blk_cell hblk2 0; have p1 : w2.cell? ⟨w.heap.size, 1, none⟩ = some (.int .u8 0) := blk_cell hblk2 1; have p2 : w2.cell? ⟨w.heap.size, 2, none⟩ = some (.int .u8 0) := blk_cell hblk2 2; have p3 : w2.cell? ⟨w.heap.size, 3, none⟩ = some (.int .u8 0) := blk_cell hblk2 3; have p4 : w2.cell? ⟨w.heap.size, 4, none⟩ = some (.int .u8 0) := blk_cell hblk2 4; have p5 : w2.cell? ⟨w.heap.size, 5, none⟩ = some (.string ⟨#[]⟩) := blk_cell hblk2 5; have p6 : w2.cell? ⟨w.heap.size, 6, none⟩ = some (.string ⟨#[]⟩) := blk_cell hblk2 6; have p7 : w2.cell? ⟨w.heap.size, 7, none⟩ = some (.string ⟨#[]⟩) := blk_cell hblk2 7; have p8 : w2.cell? ⟨w.heap.size, 8, none⟩ = some (.string ⟨#[]⟩) := blk_cell hblk2 8; have p9 : w2.cell? ⟨w.heap.size, 9, none⟩ = some (.string ⟨#[]⟩) := blk_cell hblk2 9; have p10 : w2.cell? ⟨w.heap.size, 10, none⟩ = some (.string ⟨#[]⟩) := blk_cell hblk2 10; have p11 : w2.cell? ⟨w.heap.size, 11, none⟩ = some (.string ⟨#[]⟩) := blk_cell hblk2 11; have p12 : w2.cell? ⟨w.heap.size, 12, none⟩ = some (.string ⟨#[]⟩) := blk_cell hblk2 12; have p13 : w2.cell? ⟨w.heap.size, 13, none⟩ = some (.string ⟨#[]⟩) := blk_cell hblk2 13; have p14 : w2.cell? ⟨w.heap.size, 14, none⟩ = some (.string ⟨#[]⟩) := blk_cell hblk2 14; have pf0 := blk_frozen hblk2 0; have pf1 := blk_frozen hblk2 1; have pf2 := blk_frozen hblk2 2; have pf3 := blk_frozen hblk2 3; have pf4 := blk_frozen hblk2 4; have pf5 := blk_frozen hblk2 5; have pf6 := blk_frozen hblk2 6; have pf7 := blk_frozen hblk2 7; have pf8 := blk_frozen hblk2 8; have pf9 := blk_frozen hblk2 9; have pf10 := blk_frozen hblk2 10; have pf11 := blk_frozen hblk2 11; have pf12 := blk_frozen hblk2 12; have pf13 := blk_frozen hblk2 13; have pf14 := blk_frozen hblk2 14; clear hb2 hblk2)
  refine bodyPost_ret (results_ctt rfl _ _ w.heap.size 25 #[.int .u8 0, .int .u8 0, .int .u8 0, .int .u8 0, .int .u8 0, .string ⟨#[]⟩, .string ⟨#[]⟩, .string ⟨#[]⟩, .string ⟨#[]⟩, .string ⟨#[]⟩, .string ⟨#[]⟩, .string ⟨#[]⟩, .string ⟨#[]⟩, .string ⟨#[]⟩, .string ⟨#[]⟩] (0, 0) _ rfl (blk_alloc (blk_row15 BK2.out) _) Tryd.underlying25 rfl (by kernel_rfl)) rfl ?_
  exact ⟨rfl, below_alloc (below_set (below_set (below_set (below_set (below_set (below_set (below_set (below_set (below_set (below_set (below_set (below_set (below_set (below_set (below_set HB2.out (Nat.le_refl _)) (Nat.le_refl _)) (Nat.le_refl _)) (Nat.le_refl _)) (Nat.le_refl _)) (Nat.le_refl _)) (Nat.le_refl _)) (Nat.le_refl _)) (Nat.le_refl _)) (Nat.le_refl _)) (Nat.le_refl _)) (Nat.le_refl _)) (Nat.le_refl _)) (Nat.le_refl _)) (Nat.le_refl _)) _⟩

theorem cell_row15 {w : World} {g : Nat} {b0 b1 b2 b3 b4 b5 b6 b7 b8 b9 b10 b11 b12 b13 b14 v : Value} {a : Addr} (h : w.cell? a = some v) (hn : a.block ≠ g) : (((((((((((((((w.setCell ⟨g, 0, none⟩ b0).setCell ⟨g, 1, none⟩ b1).setCell ⟨g, 2, none⟩ b2).setCell ⟨g, 3, none⟩ b3).setCell ⟨g, 4, none⟩ b4).setCell ⟨g, 5, none⟩ b5).setCell ⟨g, 6, none⟩ b6).setCell ⟨g, 7, none⟩ b7).setCell ⟨g, 8, none⟩ b8).setCell ⟨g, 9, none⟩ b9).setCell ⟨g, 10, none⟩ b10).setCell ⟨g, 11, none⟩ b11).setCell ⟨g, 12, none⟩ b12).setCell ⟨g, 13, none⟩ b13).setCell ⟨g, 14, none⟩ b14).cell? a = some v := ((cell_far (p := ⟨g, 14, none⟩) hn _).trans ((cell_far (p := ⟨g, 13, none⟩) hn _).trans ((cell_far (p := ⟨g, 12, none⟩) hn _).trans ((cell_far (p := ⟨g, 11, none⟩) hn _).trans ((cell_far (p := ⟨g, 10, none⟩) hn _).trans ((cell_far (p := ⟨g, 9, none⟩) hn _).trans ((cell_far (p := ⟨g, 8, none⟩) hn _).trans ((cell_far (p := ⟨g, 7, none⟩) hn _).trans ((cell_far (p := ⟨g, 6, none⟩) hn _).trans ((cell_far (p := ⟨g, 5, none⟩) hn _).trans ((cell_far (p := ⟨g, 4, none⟩) hn _).trans ((cell_far (p := ⟨g, 3, none⟩) hn _).trans ((cell_far (p := ⟨g, 2, none⟩) hn _).trans ((cell_far (p := ⟨g, 1, none⟩) hn _).trans ((cell_far (p := ⟨g, 0, none⟩) hn _).trans h)))))))))))))))
theorem heap_row15 {w : World} {g k : Nat} {b0 b1 b2 b3 b4 b5 b6 b7 b8 b9 b10 b11 b12 b13 b14 : Value} (hn : k ≠ g) : (((((((((((((((w.setCell ⟨g, 0, none⟩ b0).setCell ⟨g, 1, none⟩ b1).setCell ⟨g, 2, none⟩ b2).setCell ⟨g, 3, none⟩ b3).setCell ⟨g, 4, none⟩ b4).setCell ⟨g, 5, none⟩ b5).setCell ⟨g, 6, none⟩ b6).setCell ⟨g, 7, none⟩ b7).setCell ⟨g, 8, none⟩ b8).setCell ⟨g, 9, none⟩ b9).setCell ⟨g, 10, none⟩ b10).setCell ⟨g, 11, none⟩ b11).setCell ⟨g, 12, none⟩ b12).setCell ⟨g, 13, none⟩ b13).setCell ⟨g, 14, none⟩ b14).heap[k]? = w.heap[k]? := ((Below.heap_setCell _ ⟨g, 14, none⟩ _ _ hn).trans ((Below.heap_setCell _ ⟨g, 13, none⟩ _ _ hn).trans ((Below.heap_setCell _ ⟨g, 12, none⟩ _ _ hn).trans ((Below.heap_setCell _ ⟨g, 11, none⟩ _ _ hn).trans ((Below.heap_setCell _ ⟨g, 10, none⟩ _ _ hn).trans ((Below.heap_setCell _ ⟨g, 9, none⟩ _ _ hn).trans ((Below.heap_setCell _ ⟨g, 8, none⟩ _ _ hn).trans ((Below.heap_setCell _ ⟨g, 7, none⟩ _ _ hn).trans ((Below.heap_setCell _ ⟨g, 6, none⟩ _ _ hn).trans ((Below.heap_setCell _ ⟨g, 5, none⟩ _ _ hn).trans ((Below.heap_setCell _ ⟨g, 4, none⟩ _ _ hn).trans ((Below.heap_setCell _ ⟨g, 3, none⟩ _ _ hn).trans ((Below.heap_setCell _ ⟨g, 2, none⟩ _ _ hn).trans ((Below.heap_setCell _ ⟨g, 1, none⟩ _ _ hn).trans ((Below.heap_setCell _ ⟨g, 0, none⟩ _ _ hn).trans rfl)))))))))))))))
theorem map_row15 {w : World} {g k : Nat} {b0 b1 b2 b3 b4 b5 b6 b7 b8 b9 b10 b11 b12 b13 b14 : Value} {es : Array MapEntry} {n : Nat} (h : w.heap[k]? = some (.map es n)) (hn : k ≠ g) : (((((((((((((((w.setCell ⟨g, 0, none⟩ b0).setCell ⟨g, 1, none⟩ b1).setCell ⟨g, 2, none⟩ b2).setCell ⟨g, 3, none⟩ b3).setCell ⟨g, 4, none⟩ b4).setCell ⟨g, 5, none⟩ b5).setCell ⟨g, 6, none⟩ b6).setCell ⟨g, 7, none⟩ b7).setCell ⟨g, 8, none⟩ b8).setCell ⟨g, 9, none⟩ b9).setCell ⟨g, 10, none⟩ b10).setCell ⟨g, 11, none⟩ b11).setCell ⟨g, 12, none⟩ b12).setCell ⟨g, 13, none⟩ b13).setCell ⟨g, 14, none⟩ b14).heap[k]? = some (.map es n) := (heap_row15 hn).trans h
theorem lit1 (w : World) (a : Int) : Lib.BytesIn (w.alloc (.cells #[.int .u8 a] 5)) (some ⟨w.heap.size, 0, none⟩) 1 [a] :=
  Lib.BytesIn.of_cells fun i hi => by
    obtain rfl : i = 0 := by omega
    rw [add_plain]
    simp
theorem read_len {l0 : List Int} {r : HeadT} (h : msh_Read.f l0 = some r) (he : r.2.2.2.2.2.2.2.2.2.2.2.2.2.2.2 = 0 := by rfl) : 9 ≤ l0.length := by
  rcases Nat.lt_or_ge l0.length 9 with hl | hl
  · exfalso
    unfold msh_Read.f delim_Read.f at h
    rw [if_pos hl] at h
    simp [headZ] at h
    subst h
    simp at he
  · exact hl

set_option maxHeartbeats 4000000 in
theorem verdict_form (A0 : Option Addr) (c0 : Nat) (l0 : List Int) (w : World) (hG : GlobA w) (hr0 : Kd.C (Kd.int .u8) w A0 l0.length l0) (hc0 : l0.length ≤ c0) (d0 d1 d2 d3 d4 : Int) (s5 s6 s7 s8 s9 s10 s11 s12 s13 s14 : ByteArray) (hrd : msh_Read.f l0 = some (d0, d1, d2, d3, d4, s5, s6, s7, s8, s9, s10, s11, s12, s13, s14, 0)) (hby : Bytes l0) (hsz : l0.length < 4294967281) (ix : Int) (hix : Lib.indexByte (Lib.bytesOf (firstSeg l0)) 28 = ix) (h28 : 0 ≤ ix) :
    Calls Tryd.prog 10 #[.slice A0 l0.length c0] w fun e w' => e = .returned (.tuple #[.agg #[.int .u8 0, .int .u8 0, .int .u8 0, .int .u8 0, .int .u8 0, .string ⟨#[]⟩, .string ⟨#[]⟩, .string ⟨#[]⟩, .string ⟨#[]⟩, .string ⟨#[]⟩, .string ⟨#[]⟩, .string ⟨#[]⟩, .string ⟨#[]⟩, .string ⟨#[]⟩, .string ⟨#[]⟩], .string ⟨#[]⟩, .int .i64 10]) ∧ Below w.heap.size w w' := by
  have HG := Aside0.mk hG; have HR := Aside0.mk hr0; have HC := Aside0.mk hc0; have HRD := Aside0.mk hrd
  clear hG hr0 hc0 hrd
  have HBY := Aside0.mk hby; have HSZ := Aside0.mk hsz
  obtain ⟨m, hm⟩ := HG.out.frame.max
  have HM := Aside0.mk hm
  obtain ⟨x2, x3, hcut, hsegle⟩ := cut_shape A0 l0 c0
  have HCUT := Aside0.mk hcut
  have hix' : Lib.indexByte (Lib.bytesOf (firstSeg l0)) (28 : Int).toNat.toUInt8 = ix := hix
  have HIDX := Aside0.mk hix'
  have hseg : ∀ W, Below w.heap.size w W → Kd.C (Kd.int .u8) W A0 (firstSeg l0).length (firstSeg l0) := fun W hW => by
    obtain ⟨n, hn, e⟩ := firstSeg_take l0
    rw [e]
    exact Kd.C_take (Kd.C_below HR.out hW) hn
  have HSEG := Aside0.mk hseg
  have hnn : A0 = none → c0 = 0 := fun e => by
    exfalso
    subst e
    have hl := read_len HRD.out
    obtain ⟨ad, e, _⟩ := Kd.at_int HR.out 0 (by omega) (by omega)
    cases e
  have HNN := Aside0.mk hnn
  clear hby hsz hm hcut hix hix' hseg hnn hsegle
  have hge : decide (0 ≤ ix) = true := decide_eq_true h28
  clear h28
  go_enter Tryd.func10, Tryd.ntmps10
  go_wp2_with (first
    | (go_at_call 23; refine (msh_Read.calls A0 c0 l0 d0 d1 d2 d3 d4 s5 s6 s7 s8 s9 s10 s11 s12 s13 s14 0 _ ?hg ?hr HC.out HRD.out).mono ?_; (case hg => exact HG.out.below (below_alloc (Below.refl _ _) _)); (case hr => exact Kd.C_below HR.out (below_alloc (Below.refl _ _) _)); rintro e w2 ⟨rfl, hb2⟩; have HB2 := Aside0.mk (below_step (below_alloc (Below.refl _ _) _) hb2); have hblk2 := blk_below (blk_new w (.cells #[.int .u8 0, .int .u8 0, .int .u8 0, .int .u8 0, .int .u8 0, .string ⟨#[]⟩, .string ⟨#[]⟩, .string ⟨#[]⟩, .string ⟨#[]⟩, .string ⟨#[]⟩, .string ⟨#[]⟩, .string ⟨#[]⟩, .string ⟨#[]⟩, .string ⟨#[]⟩, .string ⟨#[]⟩] 25)) hb2; have BK2 := Aside0.mk hblk2; have hlt2 : w.heap.size < w2.heap.size := blk_lt hblk2; have HL2 := Aside0.mk hlt2; have p0 : w2.cell? ⟨w.heap.size, 0, none⟩ = some (.int .u8 0) := blk_cell hblk2 0; have p1 : w2.cell? ⟨w.heap.size, 1, none⟩ = some (.int .u8 0) := blk_cell hblk2 1; have p2 : w2.cell? ⟨w.heap.size, 2, none⟩ = some (.int .u8 0) := blk_cell hblk2 2; have p3 : w2.cell? ⟨w.heap.size, 3, none⟩ = some (.int .u8 0) := blk_cell hblk2 3; have p4 : w2.cell? ⟨w.heap.size, 4, none⟩ = some (.int .u8 0) := blk_cell hblk2 4; have p5 : w2.cell? ⟨w.heap.size, 5, none⟩ = some (.string ⟨#[]⟩) := blk_cell hblk2 5; have p6 : w2.cell? ⟨w.heap.size, 6, none⟩ = some (.string ⟨#[]⟩) := blk_cell hblk2 6; have p7 : w2.cell? ⟨w.heap.size, 7, none⟩ = some (.string ⟨#[]⟩) := blk_cell hblk2 7; have p8 : w2.cell? ⟨w.heap.size, 8, none⟩ = some (.string ⟨#[]⟩) := blk_cell hblk2 8; have p9 : w2.cell? ⟨w.heap.size, 9, none⟩ = some (.string ⟨#[]⟩) := blk_cell hblk2 9; have p10 : w2.cell? ⟨w.heap.size, 10, none⟩ = some (.string ⟨#[]⟩) := blk_cell hblk2 10; have p11 : w2.cell? ⟨w.heap.size, 11, none⟩ = some (.string ⟨#[]⟩) := blk_cell hblk2 11; have p12 : w2.cell? ⟨w.heap.size, 12, none⟩ = some (.string ⟨#[]⟩) := blk_cell hblk2 12; have p13 : w2.cell? ⟨w.heap.size, 13, none⟩ = some (.string ⟨#[]⟩) := blk_cell hblk2 13; have p14 : w2.cell? ⟨w.heap.size, 14, none⟩ = some (.string ⟨#[]⟩) := blk_cell hblk2 14; have pf0 := blk_frozen hblk2 0; have pf1 := blk_frozen hblk2 1; have pf2 := blk_frozen hblk2 2; have pf3 := blk_frozen hblk2 3; have pf4 := blk_frozen hblk2 4; have pf5 := blk_frozen hblk2 5; have pf6 := blk_frozen hblk2 6; have pf7 := blk_frozen hblk2 7; have pf8 := blk_frozen hblk2 8; have pf9 := blk_frozen hblk2 9; have pf10 := blk_frozen hblk2 10; have pf11 := blk_frozen hblk2 11; have pf12 := blk_frozen hblk2 12; have pf13 := blk_frozen hblk2 13; have pf14 := blk_frozen hblk2 14; clear hb2 hblk2)
    | (go_at_call 24; refine (Tryd.bytes_Cut_all A0 (some ⟨w2.heap.size + 1, 0, none⟩) l0.length c0 1 1 l0 [13] m _ rfl rfl HBY.out (by decide) ?h1 ?h2 ?hp HC.out HSZ.out (by decide) ?hm).mono ?_; (case h1 => exact in_of_C (Kd.C_below HR.out (below_alloc (below_alloc HB2.out _) _))); (case h2 => (have h := lit1 (w2.alloc (.cells #[.int .u8 d0, .int .u8 d1, .int .u8 d2, .int .u8 d3, .int .u8 d4, .string s5, .string s6, .string s7, .string s8, .string s9, .string s10, .string s11, .string s12, .string s13, .string s14] 25)) 13; rw [World.size_alloc] at h; exact h)); (case hp => exact HNN.out); (case hm => exact pw_cell_below (below_alloc (below_alloc HB2.out _) _) HM.out); rw [HCUT.out]; rintro e w3 ⟨rfl, q, rfl⟩)
    | (go_at_call 25; refine (indexByte_any A0 c0 (firstSeg l0) _ ?hi 28).mono ?_; (case hi => exact HSEG.out _ (pw_below_drewN (below_alloc (below_alloc HB2.out _) _) _)); rw [HIDX.out]; rintro e w4 ⟨rfl, hw4⟩; have hw4' := hw4.symm; subst hw4'; clear hw4))
  refine bodyPost_ret (results_ctt rfl _ _ w.heap.size 25 #[.int .u8 0, .int .u8 0, .int .u8 0, .int .u8 0, .int .u8 0, .string ⟨#[]⟩, .string ⟨#[]⟩, .string ⟨#[]⟩, .string ⟨#[]⟩, .string ⟨#[]⟩, .string ⟨#[]⟩, .string ⟨#[]⟩, .string ⟨#[]⟩, .string ⟨#[]⟩, .string ⟨#[]⟩] (0, 0) _ rfl (blk_row15 (blk_drewN (blk_alloc (blk_alloc BK2.out _) _) _)) Tryd.underlying25 rfl (by kernel_rfl)) rfl ?_
  exact ⟨rfl, (below_set (below_set (below_set (below_set (below_set (below_set (below_set (below_set (below_set (below_set (below_set (below_set (below_set (below_set (below_set (pw_below_drewN (below_alloc (below_alloc HB2.out _) _) _) (Nat.le_refl _)) (Nat.le_refl _)) (Nat.le_refl _)) (Nat.le_refl _)) (Nat.le_refl _)) (Nat.le_refl _)) (Nat.le_refl _)) (Nat.le_refl _)) (Nat.le_refl _)) (Nat.le_refl _)) (Nat.le_refl _)) (Nat.le_refl _)) (Nat.le_refl _)) (Nat.le_refl _)) (Nat.le_refl _))⟩

set_option maxHeartbeats 4000000 in
theorem verdict_on (A0 : Option Addr) (c0 : Nat) (l0 : List Int) (w : World) (hG : GlobA w) (hr0 : Kd.C (Kd.int .u8) w A0 l0.length l0) (hc0 : l0.length ≤ c0) (d0 d1 d2 d3 d4 : Int) (s5 s6 s7 s8 s9 s10 s11 s12 s13 s14 : ByteArray) (hrd : msh_Read.f l0 = some (d0, d1, d2, d3, d4, s5, s6, s7, s8, s9, s10, s11, s12, s13, s14, 0)) (hby : Bytes l0) (hsz : l0.length < 4294967281) (ix : Int) (hix : Lib.indexByte (Lib.bytesOf (firstSeg l0)) 28 = ix) (h28 : ¬ 0 ≤ ix) (c : Int) (hc : msh_Check.f d0 d1 d2 d3 d4 s5 s6 s7 s8 s9 s10 s11 s12 s13 s14 = some c) :
    Calls Tryd.prog 10 #[.slice A0 l0.length c0] w fun e w' => e = .returned (.tuple #[.agg #[.int .u8 d0, .int .u8 d1, .int .u8 d2, .int .u8 d3, .int .u8 d4, .string s5, .string s6, .string s7, .string s8, .string s9, .string s10, .string s11, .string s12, .string s13, .string s14], .string (codeOf c), .int .i64 c]) ∧ Below w.heap.size w w' := by
  have HG := Aside0.mk hG; have HR := Aside0.mk hr0; have HC := Aside0.mk hc0; have HRD := Aside0.mk hrd
  clear hG hr0 hc0 hrd
  have HBY := Aside0.mk hby; have HSZ := Aside0.mk hsz
  obtain ⟨m, hm⟩ := HG.out.frame.max
  have HM := Aside0.mk hm
  obtain ⟨x2, x3, hcut, hsegle⟩ := cut_shape A0 l0 c0
  have HCUT := Aside0.mk hcut
  have hix' : Lib.indexByte (Lib.bytesOf (firstSeg l0)) (28 : Int).toNat.toUInt8 = ix := hix
  have HIDX := Aside0.mk hix'
  have hseg : ∀ W, Below w.heap.size w W → Kd.C (Kd.int .u8) W A0 (firstSeg l0).length (firstSeg l0) := fun W hW => by
    obtain ⟨n, hn, e⟩ := firstSeg_take l0
    rw [e]
    exact Kd.C_take (Kd.C_below HR.out hW) hn
  have HSEG := Aside0.mk hseg
  have hnn : A0 = none → c0 = 0 := fun e => by
    exfalso
    subst e
    have hl := read_len HRD.out
    obtain ⟨ad, e, _⟩ := Kd.at_int HR.out 0 (by omega) (by omega)
    cases e
  have HNN := Aside0.mk hnn
  clear hby hsz hm hcut hix hix' hseg hnn hsegle
  have HCK := Aside0.mk hc; have HCR := Aside0.mk (check_range hc)
  have hge : decide (0 ≤ ix) = false := decide_eq_false h28
  clear h28 hc
  go_enter Tryd.func10, Tryd.ntmps10
  go_wp2_with (first
    | (go_at_call 23; refine (msh_Read.calls A0 c0 l0 d0 d1 d2 d3 d4 s5 s6 s7 s8 s9 s10 s11 s12 s13 s14 0 _ ?hg ?hr HC.out HRD.out).mono ?_; (case hg => exact HG.out.below (below_alloc (Below.refl _ _) _)); (case hr => exact Kd.C_below HR.out (below_alloc (Below.refl _ _) _)); rintro e w2 ⟨rfl, hb2⟩; have HB2 := Aside0.mk (below_step (below_alloc (Below.refl _ _) _) hb2); have hblk2 := blk_below (blk_new w (.cells #[.int .u8 0, .int .u8 0, .int .u8 0, .int .u8 0, .int .u8 0, .string ⟨#[]⟩, .string ⟨#[]⟩, .string ⟨#[]⟩, .string ⟨#[]⟩, .string ⟨#[]⟩, .string ⟨#[]⟩, .string ⟨#[]⟩, .string ⟨#[]⟩, .string ⟨#[]⟩, .string ⟨#[]⟩] 25)) hb2; have BK2 := Aside0.mk hblk2; have hlt2 : w.heap.size < w2.heap.size := blk_lt hblk2; have HL2 := Aside0.mk hlt2; clear hb2 hblk2)
    | (go_at_call 24; refine (Tryd.bytes_Cut_all A0 (some ⟨w2.heap.size + 1, 0, none⟩) l0.length c0 1 1 l0 [13] m _ rfl rfl HBY.out (by decide) ?h1 ?h2 ?hp HC.out HSZ.out (by decide) ?hm).mono ?_; (case h1 => exact in_of_C (Kd.C_below HR.out (below_alloc (below_alloc HB2.out _) _))); (case h2 => (have h := lit1 (w2.alloc (.cells #[.int .u8 d0, .int .u8 d1, .int .u8 d2, .int .u8 d3, .int .u8 d4, .string s5, .string s6, .string s7, .string s8, .string s9, .string s10, .string s11, .string s12, .string s13, .string s14] 25)) 13; rw [World.size_alloc] at h; exact h)); (case hp => exact HNN.out); (case hm => exact pw_cell_below (below_alloc (below_alloc HB2.out _) _) HM.out); rw [HCUT.out]; rintro e w3 ⟨rfl, q, rfl⟩)
    | (go_at_call 25; refine (indexByte_any A0 c0 (firstSeg l0) _ ?hi 28).mono ?_; (case hi => exact HSEG.out _ (pw_below_drewN (below_alloc (below_alloc HB2.out _) _) _)); rw [HIDX.out]; rintro e w4 ⟨rfl, hw4⟩; have hw4' := hw4.symm; subst hw4'; clear hw4)
    | (go_at_call 11; refine (msh_Check.calls d0 d1 d2 d3 d4 s5 s6 s7 s8 s9 s10 s11 s12 s13 s14 c _ ?hk HCK.out).mono ?_; (case hk => exact HG.out.below (pw_below_drewN (below_alloc (below_alloc HB2.out _) _) _)); rintro e w5 ⟨rfl, hb5⟩; have HB5 := Aside0.mk (below_step (pw_below_drewN (below_alloc (below_alloc HB2.out _) _) _) hb5); have B5 := Aside0.mk (blk_below (blk_drewN (blk_alloc (blk_new w2 (.cells #[.int .u8 d0, .int .u8 d1, .int .u8 d2, .int .u8 d3, .int .u8 d4, .string s5, .string s6, .string s7, .string s8, .string s9, .string s10, .string s11, .string s12, .string s13, .string s14] 25)) _) q) hb5); have BK2' := Aside0.mk (blk_below (blk_drewN (blk_alloc (blk_alloc BK2.out _) _) q) hb5); clear hb5))
  clear BK2 HB2 HCUT HIDX HSEG HNN hge hlt2
  have BK2 := BK2'
  clear BK2'
  have hd5 := blk_drew B5.out
  have NB : Aside0 (w2.heap.size ≠ w.heap.size) := ⟨Nat.ne_of_gt HL2.out⟩
  clear HL2
  generalize w2.heap.size = b5 at *
  have u0 : w5.drew.cell? ⟨b5, 0, none⟩ = some (.int .u8 d0) := blk_cell hd5 0; have u1 : w5.drew.cell? ⟨b5, 1, none⟩ = some (.int .u8 d1) := blk_cell hd5 1; have u2 : w5.drew.cell? ⟨b5, 2, none⟩ = some (.int .u8 d2) := blk_cell hd5 2; have u3 : w5.drew.cell? ⟨b5, 3, none⟩ = some (.int .u8 d3) := blk_cell hd5 3; have u4 : w5.drew.cell? ⟨b5, 4, none⟩ = some (.int .u8 d4) := blk_cell hd5 4; have u5 : w5.drew.cell? ⟨b5, 5, none⟩ = some (.string s5) := blk_cell hd5 5; have u6 : w5.drew.cell? ⟨b5, 6, none⟩ = some (.string s6) := blk_cell hd5 6; have u7 : w5.drew.cell? ⟨b5, 7, none⟩ = some (.string s7) := blk_cell hd5 7; have u8 : w5.drew.cell? ⟨b5, 8, none⟩ = some (.string s8) := blk_cell hd5 8; have u9 : w5.drew.cell? ⟨b5, 9, none⟩ = some (.string s9) := blk_cell hd5 9; have u10 : w5.drew.cell? ⟨b5, 10, none⟩ = some (.string s10) := blk_cell hd5 10; have u11 : w5.drew.cell? ⟨b5, 11, none⟩ = some (.string s11) := blk_cell hd5 11; have u12 : w5.drew.cell? ⟨b5, 12, none⟩ = some (.string s12) := blk_cell hd5 12; have u13 : w5.drew.cell? ⟨b5, 13, none⟩ = some (.string s13) := blk_cell hd5 13; have u14 : w5.drew.cell? ⟨b5, 14, none⟩ = some (.string s14) := blk_cell hd5 14
  clear hd5
  refine start_ (n := 8) (S := fun w' => w'.cell? ⟨b5, 0, none⟩ = some (.int .u8 d0) ∧ w'.cell? ⟨b5, 1, none⟩ = some (.int .u8 d1) ∧ w'.cell? ⟨b5, 2, none⟩ = some (.int .u8 d2) ∧ w'.cell? ⟨b5, 3, none⟩ = some (.int .u8 d3) ∧ w'.cell? ⟨b5, 4, none⟩ = some (.int .u8 d4) ∧ w'.cell? ⟨b5, 5, none⟩ = some (.string s5) ∧ w'.cell? ⟨b5, 6, none⟩ = some (.string s6) ∧ w'.cell? ⟨b5, 7, none⟩ = some (.string s7) ∧ w'.cell? ⟨b5, 8, none⟩ = some (.string s8) ∧ w'.cell? ⟨b5, 9, none⟩ = some (.string s9) ∧ w'.cell? ⟨b5, 10, none⟩ = some (.string s10) ∧ w'.cell? ⟨b5, 11, none⟩ = some (.string s11) ∧ w'.cell? ⟨b5, 12, none⟩ = some (.string s12) ∧ w'.cell? ⟨b5, 13, none⟩ = some (.string s13) ∧ w'.cell? ⟨b5, 14, none⟩ = some (.string s14)) (ds := []) #[false, false, false, false, false, false, false, false] (by kernel_rfl) rfl rfl ⟨u0, u1, u2, u3, u4, u5, u6, u7, u8, u9, u10, u11, u12, u13, u14⟩ (fun hHeld => ?_)
  refine take_ (i := 0) (N := (some 32)) (v := ?_) (a' := ?_) #[true, false, false, false, false, false, false, false] rfl rfl (by kernel_rfl) (fun _ _ _ h => h) (Or.inl ⟨by rfl, ?_⟩) hHeld ?_ ?_
  rotate_left
  · rintro w' ⟨s0_, s1_, s2_, s3_, s4_, s5_, s6_, s7_, s8_, s9_, s10_, s11_, s12_, s13_, s14_⟩
    go_simp
    with_reducible rfl
  rotate_left
  · simp only [Act.put, List.setIfInBounds_toArray, List.set_cons_zero, List.set_cons_succ, i64_w, i32_w]
    rfl
  refine pure_ (i := 2) (N := (some 34)) (v := ?_) (a' := ?_) #[true, false, true, false, false, false, false, false] rfl rfl (by kernel_rfl) (fun _ _ _ h => h) (Or.inl ⟨by rfl, ?_⟩) ?_ ?_
  rotate_left
  · intro w'
    go_simp
    with_reducible rfl
  rotate_left
  · simp only [Act.put, List.setIfInBounds_toArray, List.set_cons_zero, List.set_cons_succ, i64_w, i32_w]
    rfl
  refine pure_ (i := 4) (N := (some 36)) (v := ?_) (a' := ?_) #[true, false, true, false, true, false, false, false] rfl rfl (by kernel_rfl) (fun _ _ _ h => h) (Or.inl ⟨by rfl, ?_⟩) ?_ ?_
  rotate_left
  · intro w'
    go_simp
    with_reducible rfl
  rotate_left
  · simp only [Act.put, List.setIfInBounds_toArray, List.set_cons_zero, List.set_cons_succ, i64_w, i32_w]
    rfl
  refine one_ (i := 1) (N := (some 33)) #[true, true, true, false, true, false, false, false] rfl rfl (by kernel_rfl) (by decide) (fun K hK => ?_)
  refine goes_ Tryd.func26 (by kernel_rfl) rfl #[] (by rfl) rfl rfl (by simp) ?_
  refine (answers_calls _).mono ?_
  rintro e w7 ⟨r, rfl, hr7, hb7⟩
  have HB7 := Aside0.mk hb7
  have HR7 := Aside0.mk hr7
  clear hb7 hr7
  refine ⟨_, rfl, ?_⟩
  refine hK.out _ _ ⟨pw_cell_below HB7.out (hHeld.1), pw_cell_below HB7.out (hHeld.2.1), pw_cell_below HB7.out (hHeld.2.2.1), pw_cell_below HB7.out (hHeld.2.2.2.1), pw_cell_below HB7.out (hHeld.2.2.2.2.1), pw_cell_below HB7.out (hHeld.2.2.2.2.2.1), pw_cell_below HB7.out (hHeld.2.2.2.2.2.2.1), pw_cell_below HB7.out (hHeld.2.2.2.2.2.2.2.1), pw_cell_below HB7.out (hHeld.2.2.2.2.2.2.2.2.1), pw_cell_below HB7.out (hHeld.2.2.2.2.2.2.2.2.2.1), pw_cell_below HB7.out (hHeld.2.2.2.2.2.2.2.2.2.2.1), pw_cell_below HB7.out (hHeld.2.2.2.2.2.2.2.2.2.2.2.1), pw_cell_below HB7.out (hHeld.2.2.2.2.2.2.2.2.2.2.2.2.1), pw_cell_below HB7.out (hHeld.2.2.2.2.2.2.2.2.2.2.2.2.2.1), pw_cell_below HB7.out (hHeld.2.2.2.2.2.2.2.2.2.2.2.2.2.2)⟩ (fun hHeld => ?_)
  clear hK K
  refine norm_ (a' := ?_) ?_ ?_
  rotate_left
  · show Act.put _ (some 33) _ = _
    simp only [Act.put, List.setIfInBounds_toArray, List.set_cons_zero, List.set_cons_succ, i64_w, i32_w]
    rfl
  have NR : r ≠ w.heap.size := fun e => by have h := HR7.out; rw [e, blk_below (blk_drew BK2.out) HB7.out] at h; cases h
  refine two_ (i := 3) (j := 5) (Ni := (some 35)) (Nj := none) #[true, true, true, true, true, false, false, false] #[true, true, true, false, true, true, false, false] rfl rfl rfl rfl (by kernel_rfl) (by decide) (by decide) (fun K hK => ?_) (fun K hK => ?_)
  · refine value_ (v := .string (codeOf c)) (w1 := w7) (by rfl) rfl ?_ ?_
    · have hl := answers_look c HCR.out r w7 HR7.out
      first | (go_simp; done) | (go_simp; rfl)
    refine hK.out _ _ hHeld (fun hHeld => ?_)
    clear hK K
    refine norm_ (a' := ?_) ?_ ?_
    rotate_left
    · show Act.put _ (some 35) _ = _
      simp only [Act.put, List.setIfInBounds_toArray, List.set_cons_zero, List.set_cons_succ, i64_w, i32_w]
      rfl
    refine one_ (i := 5) (N := none) #[true, true, true, true, true, true, false, false] rfl rfl (by kernel_rfl) (by decide) (fun K hK => ?_)
    have hblk7 := blk_below (blk_drew BK2.out) HB7.out
    have p0 : w7.cell? ⟨w.heap.size, 0, none⟩ = some (.int .u8 0) := blk_cell hblk7 0; have p1 : w7.cell? ⟨w.heap.size, 1, none⟩ = some (.int .u8 0) := blk_cell hblk7 1; have p2 : w7.cell? ⟨w.heap.size, 2, none⟩ = some (.int .u8 0) := blk_cell hblk7 2; have p3 : w7.cell? ⟨w.heap.size, 3, none⟩ = some (.int .u8 0) := blk_cell hblk7 3; have p4 : w7.cell? ⟨w.heap.size, 4, none⟩ = some (.int .u8 0) := blk_cell hblk7 4; have p5 : w7.cell? ⟨w.heap.size, 5, none⟩ = some (.string ⟨#[]⟩) := blk_cell hblk7 5; have p6 : w7.cell? ⟨w.heap.size, 6, none⟩ = some (.string ⟨#[]⟩) := blk_cell hblk7 6; have p7 : w7.cell? ⟨w.heap.size, 7, none⟩ = some (.string ⟨#[]⟩) := blk_cell hblk7 7; have p8 : w7.cell? ⟨w.heap.size, 8, none⟩ = some (.string ⟨#[]⟩) := blk_cell hblk7 8; have p9 : w7.cell? ⟨w.heap.size, 9, none⟩ = some (.string ⟨#[]⟩) := blk_cell hblk7 9; have p10 : w7.cell? ⟨w.heap.size, 10, none⟩ = some (.string ⟨#[]⟩) := blk_cell hblk7 10; have p11 : w7.cell? ⟨w.heap.size, 11, none⟩ = some (.string ⟨#[]⟩) := blk_cell hblk7 11; have p12 : w7.cell? ⟨w.heap.size, 12, none⟩ = some (.string ⟨#[]⟩) := blk_cell hblk7 12; have p13 : w7.cell? ⟨w.heap.size, 13, none⟩ = some (.string ⟨#[]⟩) := blk_cell hblk7 13; have p14 : w7.cell? ⟨w.heap.size, 14, none⟩ = some (.string ⟨#[]⟩) := blk_cell hblk7 14; have pf0 := blk_frozen hblk7 0; have pf1 := blk_frozen hblk7 1; have pf2 := blk_frozen hblk7 2; have pf3 := blk_frozen hblk7 3; have pf4 := blk_frozen hblk7 4; have pf5 := blk_frozen hblk7 5; have pf6 := blk_frozen hblk7 6; have pf7 := blk_frozen hblk7 7; have pf8 := blk_frozen hblk7 8; have pf9 := blk_frozen hblk7 9; have pf10 := blk_frozen hblk7 10; have pf11 := blk_frozen hblk7 11; have pf12 := blk_frozen hblk7 12; have pf13 := blk_frozen hblk7 13; have pf14 := blk_frozen hblk7 14
    refine skip_ (w1 := (((((((((((((((w7.setCell ⟨w.heap.size, 0, none⟩ (.int .u8 d0)).setCell ⟨w.heap.size, 1, none⟩ (.int .u8 d1)).setCell ⟨w.heap.size, 2, none⟩ (.int .u8 d2)).setCell ⟨w.heap.size, 3, none⟩ (.int .u8 d3)).setCell ⟨w.heap.size, 4, none⟩ (.int .u8 d4)).setCell ⟨w.heap.size, 5, none⟩ (.string s5)).setCell ⟨w.heap.size, 6, none⟩ (.string s6)).setCell ⟨w.heap.size, 7, none⟩ (.string s7)).setCell ⟨w.heap.size, 8, none⟩ (.string s8)).setCell ⟨w.heap.size, 9, none⟩ (.string s9)).setCell ⟨w.heap.size, 10, none⟩ (.string s10)).setCell ⟨w.heap.size, 11, none⟩ (.string s11)).setCell ⟨w.heap.size, 12, none⟩ (.string s12)).setCell ⟨w.heap.size, 13, none⟩ (.string s13)).setCell ⟨w.heap.size, 14, none⟩ (.string s14))) (by rfl) rfl ?_ ?_
    · first | (go_simp; done) | (go_simp; rfl)
    refine hK.out _ _ ⟨cell_row15 (hHeld.1) NB.out, cell_row15 (hHeld.2.1) NB.out, cell_row15 (hHeld.2.2.1) NB.out, cell_row15 (hHeld.2.2.2.1) NB.out, cell_row15 (hHeld.2.2.2.2.1) NB.out, cell_row15 (hHeld.2.2.2.2.2.1) NB.out, cell_row15 (hHeld.2.2.2.2.2.2.1) NB.out, cell_row15 (hHeld.2.2.2.2.2.2.2.1) NB.out, cell_row15 (hHeld.2.2.2.2.2.2.2.2.1) NB.out, cell_row15 (hHeld.2.2.2.2.2.2.2.2.2.1) NB.out, cell_row15 (hHeld.2.2.2.2.2.2.2.2.2.2.1) NB.out, cell_row15 (hHeld.2.2.2.2.2.2.2.2.2.2.2.1) NB.out, cell_row15 (hHeld.2.2.2.2.2.2.2.2.2.2.2.2.1) NB.out, cell_row15 (hHeld.2.2.2.2.2.2.2.2.2.2.2.2.2.1) NB.out, cell_row15 (hHeld.2.2.2.2.2.2.2.2.2.2.2.2.2.2) NB.out⟩ (fun hHeld => ?_)
    clear hK K
    refine pure_ (i := 6) (N := (some 3)) (v := ?_) (a' := ?_) #[true, true, true, true, true, true, true, false] rfl rfl (by kernel_rfl) (fun _ _ _ h => h) (Or.inl ⟨by rfl, ?_⟩) ?_ ?_
    rotate_left
    · intro w'
      go_simp
      with_reducible rfl
    rotate_left
    · simp only [Act.put, List.setIfInBounds_toArray, List.set_cons_zero, List.set_cons_succ, i64_w, i32_w]
      rfl
    refine pure_ (i := 7) (N := (some 4)) (v := ?_) (a' := ?_) #[true, true, true, true, true, true, true, true] rfl rfl (by kernel_rfl) (fun _ _ _ h => h) (Or.inl ⟨by rfl, ?_⟩) ?_ ?_
    rotate_left
    · intro w'
      go_simp
      with_reducible rfl
    rotate_left
    · simp only [Act.put, List.setIfInBounds_toArray, List.set_cons_zero, List.set_cons_succ, i64_w, i32_w]
      rfl
    refine done_ (by kernel_rfl) ?_
    go_wp2
    refine bodyPost_ret (results_ctt rfl _ _ w.heap.size 25 #[.int .u8 d0, .int .u8 d1, .int .u8 d2, .int .u8 d3, .int .u8 d4, .string s5, .string s6, .string s7, .string s8, .string s9, .string s10, .string s11, .string s12, .string s13, .string s14] (0, 0) _ rfl (blk_row15 hblk7) Tryd.underlying25 rfl (by kernel_rfl)) rfl ?_
    exact ⟨rfl, (below_set (below_set (below_set (below_set (below_set (below_set (below_set (below_set (below_set (below_set (below_set (below_set (below_set (below_set (below_set (below_step (below_drew1 HB5.out) HB7.out) (Nat.le_refl _)) (Nat.le_refl _)) (Nat.le_refl _)) (Nat.le_refl _)) (Nat.le_refl _)) (Nat.le_refl _)) (Nat.le_refl _)) (Nat.le_refl _)) (Nat.le_refl _)) (Nat.le_refl _)) (Nat.le_refl _)) (Nat.le_refl _)) (Nat.le_refl _)) (Nat.le_refl _)) (Nat.le_refl _))⟩
  · have hblk7 := blk_below (blk_drew BK2.out) HB7.out
    have p0 : w7.cell? ⟨w.heap.size, 0, none⟩ = some (.int .u8 0) := blk_cell hblk7 0; have p1 : w7.cell? ⟨w.heap.size, 1, none⟩ = some (.int .u8 0) := blk_cell hblk7 1; have p2 : w7.cell? ⟨w.heap.size, 2, none⟩ = some (.int .u8 0) := blk_cell hblk7 2; have p3 : w7.cell? ⟨w.heap.size, 3, none⟩ = some (.int .u8 0) := blk_cell hblk7 3; have p4 : w7.cell? ⟨w.heap.size, 4, none⟩ = some (.int .u8 0) := blk_cell hblk7 4; have p5 : w7.cell? ⟨w.heap.size, 5, none⟩ = some (.string ⟨#[]⟩) := blk_cell hblk7 5; have p6 : w7.cell? ⟨w.heap.size, 6, none⟩ = some (.string ⟨#[]⟩) := blk_cell hblk7 6; have p7 : w7.cell? ⟨w.heap.size, 7, none⟩ = some (.string ⟨#[]⟩) := blk_cell hblk7 7; have p8 : w7.cell? ⟨w.heap.size, 8, none⟩ = some (.string ⟨#[]⟩) := blk_cell hblk7 8; have p9 : w7.cell? ⟨w.heap.size, 9, none⟩ = some (.string ⟨#[]⟩) := blk_cell hblk7 9; have p10 : w7.cell? ⟨w.heap.size, 10, none⟩ = some (.string ⟨#[]⟩) := blk_cell hblk7 10; have p11 : w7.cell? ⟨w.heap.size, 11, none⟩ = some (.string ⟨#[]⟩) := blk_cell hblk7 11; have p12 : w7.cell? ⟨w.heap.size, 12, none⟩ = some (.string ⟨#[]⟩) := blk_cell hblk7 12; have p13 : w7.cell? ⟨w.heap.size, 13, none⟩ = some (.string ⟨#[]⟩) := blk_cell hblk7 13; have p14 : w7.cell? ⟨w.heap.size, 14, none⟩ = some (.string ⟨#[]⟩) := blk_cell hblk7 14; have pf0 := blk_frozen hblk7 0; have pf1 := blk_frozen hblk7 1; have pf2 := blk_frozen hblk7 2; have pf3 := blk_frozen hblk7 3; have pf4 := blk_frozen hblk7 4; have pf5 := blk_frozen hblk7 5; have pf6 := blk_frozen hblk7 6; have pf7 := blk_frozen hblk7 7; have pf8 := blk_frozen hblk7 8; have pf9 := blk_frozen hblk7 9; have pf10 := blk_frozen hblk7 10; have pf11 := blk_frozen hblk7 11; have pf12 := blk_frozen hblk7 12; have pf13 := blk_frozen hblk7 13; have pf14 := blk_frozen hblk7 14
    refine skip_ (w1 := (((((((((((((((w7.setCell ⟨w.heap.size, 0, none⟩ (.int .u8 d0)).setCell ⟨w.heap.size, 1, none⟩ (.int .u8 d1)).setCell ⟨w.heap.size, 2, none⟩ (.int .u8 d2)).setCell ⟨w.heap.size, 3, none⟩ (.int .u8 d3)).setCell ⟨w.heap.size, 4, none⟩ (.int .u8 d4)).setCell ⟨w.heap.size, 5, none⟩ (.string s5)).setCell ⟨w.heap.size, 6, none⟩ (.string s6)).setCell ⟨w.heap.size, 7, none⟩ (.string s7)).setCell ⟨w.heap.size, 8, none⟩ (.string s8)).setCell ⟨w.heap.size, 9, none⟩ (.string s9)).setCell ⟨w.heap.size, 10, none⟩ (.string s10)).setCell ⟨w.heap.size, 11, none⟩ (.string s11)).setCell ⟨w.heap.size, 12, none⟩ (.string s12)).setCell ⟨w.heap.size, 13, none⟩ (.string s13)).setCell ⟨w.heap.size, 14, none⟩ (.string s14))) (by rfl) rfl ?_ ?_
    · first | (go_simp; done) | (go_simp; rfl)
    refine hK.out _ _ ⟨cell_row15 (hHeld.1) NB.out, cell_row15 (hHeld.2.1) NB.out, cell_row15 (hHeld.2.2.1) NB.out, cell_row15 (hHeld.2.2.2.1) NB.out, cell_row15 (hHeld.2.2.2.2.1) NB.out, cell_row15 (hHeld.2.2.2.2.2.1) NB.out, cell_row15 (hHeld.2.2.2.2.2.2.1) NB.out, cell_row15 (hHeld.2.2.2.2.2.2.2.1) NB.out, cell_row15 (hHeld.2.2.2.2.2.2.2.2.1) NB.out, cell_row15 (hHeld.2.2.2.2.2.2.2.2.2.1) NB.out, cell_row15 (hHeld.2.2.2.2.2.2.2.2.2.2.1) NB.out, cell_row15 (hHeld.2.2.2.2.2.2.2.2.2.2.2.1) NB.out, cell_row15 (hHeld.2.2.2.2.2.2.2.2.2.2.2.2.1) NB.out, cell_row15 (hHeld.2.2.2.2.2.2.2.2.2.2.2.2.2.1) NB.out, cell_row15 (hHeld.2.2.2.2.2.2.2.2.2.2.2.2.2.2) NB.out⟩ (fun hHeld => ?_)
    clear hK K
    have hm8 : ((((((((((((((((w7.setCell ⟨w.heap.size, 0, none⟩ (.int .u8 d0)).setCell ⟨w.heap.size, 1, none⟩ (.int .u8 d1)).setCell ⟨w.heap.size, 2, none⟩ (.int .u8 d2)).setCell ⟨w.heap.size, 3, none⟩ (.int .u8 d3)).setCell ⟨w.heap.size, 4, none⟩ (.int .u8 d4)).setCell ⟨w.heap.size, 5, none⟩ (.string s5)).setCell ⟨w.heap.size, 6, none⟩ (.string s6)).setCell ⟨w.heap.size, 7, none⟩ (.string s7)).setCell ⟨w.heap.size, 8, none⟩ (.string s8)).setCell ⟨w.heap.size, 9, none⟩ (.string s9)).setCell ⟨w.heap.size, 10, none⟩ (.string s10)).setCell ⟨w.heap.size, 11, none⟩ (.string s11)).setCell ⟨w.heap.size, 12, none⟩ (.string s12)).setCell ⟨w.heap.size, 13, none⟩ (.string s13)).setCell ⟨w.heap.size, 14, none⟩ (.string s14))).heap[r]? = some (.map ansEs 4) := map_row15 HR7.out NR
    have HM8 := Aside0.mk hm8
    have hb8 : Below w.heap.size w ((((((((((((((((w7.setCell ⟨w.heap.size, 0, none⟩ (.int .u8 d0)).setCell ⟨w.heap.size, 1, none⟩ (.int .u8 d1)).setCell ⟨w.heap.size, 2, none⟩ (.int .u8 d2)).setCell ⟨w.heap.size, 3, none⟩ (.int .u8 d3)).setCell ⟨w.heap.size, 4, none⟩ (.int .u8 d4)).setCell ⟨w.heap.size, 5, none⟩ (.string s5)).setCell ⟨w.heap.size, 6, none⟩ (.string s6)).setCell ⟨w.heap.size, 7, none⟩ (.string s7)).setCell ⟨w.heap.size, 8, none⟩ (.string s8)).setCell ⟨w.heap.size, 9, none⟩ (.string s9)).setCell ⟨w.heap.size, 10, none⟩ (.string s10)).setCell ⟨w.heap.size, 11, none⟩ (.string s11)).setCell ⟨w.heap.size, 12, none⟩ (.string s12)).setCell ⟨w.heap.size, 13, none⟩ (.string s13)).setCell ⟨w.heap.size, 14, none⟩ (.string s14))) := (below_set (below_set (below_set (below_set (below_set (below_set (below_set (below_set (below_set (below_set (below_set (below_set (below_set (below_set (below_set (below_step (below_drew1 HB5.out) HB7.out) (Nat.le_refl _)) (Nat.le_refl _)) (Nat.le_refl _)) (Nat.le_refl _)) (Nat.le_refl _)) (Nat.le_refl _)) (Nat.le_refl _)) (Nat.le_refl _)) (Nat.le_refl _)) (Nat.le_refl _)) (Nat.le_refl _)) (Nat.le_refl _)) (Nat.le_refl _)) (Nat.le_refl _)) (Nat.le_refl _))
    have HB8 := Aside0.mk hb8
    have hk8 : ((((((((((((((((w7.setCell ⟨w.heap.size, 0, none⟩ (.int .u8 d0)).setCell ⟨w.heap.size, 1, none⟩ (.int .u8 d1)).setCell ⟨w.heap.size, 2, none⟩ (.int .u8 d2)).setCell ⟨w.heap.size, 3, none⟩ (.int .u8 d3)).setCell ⟨w.heap.size, 4, none⟩ (.int .u8 d4)).setCell ⟨w.heap.size, 5, none⟩ (.string s5)).setCell ⟨w.heap.size, 6, none⟩ (.string s6)).setCell ⟨w.heap.size, 7, none⟩ (.string s7)).setCell ⟨w.heap.size, 8, none⟩ (.string s8)).setCell ⟨w.heap.size, 9, none⟩ (.string s9)).setCell ⟨w.heap.size, 10, none⟩ (.string s10)).setCell ⟨w.heap.size, 11, none⟩ (.string s11)).setCell ⟨w.heap.size, 12, none⟩ (.string s12)).setCell ⟨w.heap.size, 13, none⟩ (.string s13)).setCell ⟨w.heap.size, 14, none⟩ (.string s14))).heap[w.heap.size]? = some (.cells #[.int .u8 d0, .int .u8 d1, .int .u8 d2, .int .u8 d3, .int .u8 d4, .string s5, .string s6, .string s7, .string s8, .string s9, .string s10, .string s11, .string s12, .string s13, .string s14] 25 (0, 0)) := blk_row15 hblk7
    have HK8 := Aside0.mk hk8
    clear hm8 hb8 hk8 hblk7 p0 pf0 p1 pf1 p2 pf2 p3 pf3 p4 pf4 p5 pf5 p6 pf6 p7 pf7 p8 pf8 p9 pf9 p10 pf10 p11 pf11 p12 pf12 p13 pf13 p14 pf14
    generalize (((((((((((((((w7.setCell ⟨w.heap.size, 0, none⟩ (.int .u8 d0)).setCell ⟨w.heap.size, 1, none⟩ (.int .u8 d1)).setCell ⟨w.heap.size, 2, none⟩ (.int .u8 d2)).setCell ⟨w.heap.size, 3, none⟩ (.int .u8 d3)).setCell ⟨w.heap.size, 4, none⟩ (.int .u8 d4)).setCell ⟨w.heap.size, 5, none⟩ (.string s5)).setCell ⟨w.heap.size, 6, none⟩ (.string s6)).setCell ⟨w.heap.size, 7, none⟩ (.string s7)).setCell ⟨w.heap.size, 8, none⟩ (.string s8)).setCell ⟨w.heap.size, 9, none⟩ (.string s9)).setCell ⟨w.heap.size, 10, none⟩ (.string s10)).setCell ⟨w.heap.size, 11, none⟩ (.string s11)).setCell ⟨w.heap.size, 12, none⟩ (.string s12)).setCell ⟨w.heap.size, 13, none⟩ (.string s13)).setCell ⟨w.heap.size, 14, none⟩ (.string s14)) = W8 at HM8 HB8 HK8 hHeld ⊢
    refine one_ (i := 3) (N := (some 35)) #[true, true, true, true, true, true, false, false] rfl rfl (by kernel_rfl) (by decide) (fun K hK => ?_)
    refine value_ (v := .string (codeOf c)) (w1 := W8) (by rfl) rfl ?_ ?_
    · have hl := answers_look c HCR.out r W8 HM8.out
      first | (go_simp; done) | (go_simp; rfl)
    refine hK.out _ _ hHeld (fun hHeld => ?_)
    clear hK K
    refine norm_ (a' := ?_) ?_ ?_
    rotate_left
    · show Act.put _ (some 35) _ = _
      simp only [Act.put, List.setIfInBounds_toArray, List.set_cons_zero, List.set_cons_succ, i64_w, i32_w]
      rfl
    refine pure_ (i := 6) (N := (some 3)) (v := ?_) (a' := ?_) #[true, true, true, true, true, true, true, false] rfl rfl (by kernel_rfl) (fun _ _ _ h => h) (Or.inl ⟨by rfl, ?_⟩) ?_ ?_
    rotate_left
    · intro w'
      go_simp
      with_reducible rfl
    rotate_left
    · simp only [Act.put, List.setIfInBounds_toArray, List.set_cons_zero, List.set_cons_succ, i64_w, i32_w]
      rfl
    refine pure_ (i := 7) (N := (some 4)) (v := ?_) (a' := ?_) #[true, true, true, true, true, true, true, true] rfl rfl (by kernel_rfl) (fun _ _ _ h => h) (Or.inl ⟨by rfl, ?_⟩) ?_ ?_
    rotate_left
    · intro w'
      go_simp
      with_reducible rfl
    rotate_left
    · simp only [Act.put, List.setIfInBounds_toArray, List.set_cons_zero, List.set_cons_succ, i64_w, i32_w]
      rfl
    refine done_ (by kernel_rfl) ?_
    go_wp2
    refine bodyPost_ret (results_ctt rfl _ _ w.heap.size 25 #[.int .u8 d0, .int .u8 d1, .int .u8 d2, .int .u8 d3, .int .u8 d4, .string s5, .string s6, .string s7, .string s8, .string s9, .string s10, .string s11, .string s12, .string s13, .string s14] (0, 0) _ rfl HK8.out Tryd.underlying25 rfl (by kernel_rfl)) rfl ?_
    exact ⟨rfl, HB8.out⟩

end Go.Proofs.YtciagecaegoppaaDoor
namespace Go.Proofs.YtciagecaegoppaaDoor
set_option linter.unusedVariables false
set_option maxRecDepth 100000
open Go.RowKit Go.Proofs.YtciagecaegoppaaDoorW.PrintWords Go.Proofs.YtciagecaegoppaaDoorW.PrintLast Go.Proofs.YtciagecaegoppaaDoorW.PrintMore

abbrev VerdictT := Int × Int × Int × Int × Int × ByteArray × ByteArray × ByteArray × ByteArray × ByteArray × ByteArray × ByteArray × ByteArray × ByteArray × ByteArray × ByteArray × Int
def verdictZ (e : Int) : VerdictT := (0, 0, 0, 0, 0, ⟨#[]⟩, ⟨#[]⟩, ⟨#[]⟩, ⟨#[]⟩, ⟨#[]⟩, ⟨#[]⟩, ⟨#[]⟩, ⟨#[]⟩, ⟨#[]⟩, ⟨#[]⟩, ⟨#[]⟩, e)
def accept_Verdict.f (l0 : List Int) : Option VerdictT :=
  if Bytes l0 ∧ l0.length < 4294967281 then
    (msh_Read.f l0).bind fun h =>
      if h.2.2.2.2.2.2.2.2.2.2.2.2.2.2.2 ≠ 0 then some (verdictZ h.2.2.2.2.2.2.2.2.2.2.2.2.2.2.2)
      else if 0 ≤ Lib.indexByte (Lib.bytesOf (firstSeg l0)) 28 then some (verdictZ 10)
      else (msh_Check.f h.1 h.2.1 h.2.2.1 h.2.2.2.1 h.2.2.2.2.1 h.2.2.2.2.2.1 h.2.2.2.2.2.2.1 h.2.2.2.2.2.2.2.1 h.2.2.2.2.2.2.2.2.1 h.2.2.2.2.2.2.2.2.2.1 h.2.2.2.2.2.2.2.2.2.2.1 h.2.2.2.2.2.2.2.2.2.2.2.1 h.2.2.2.2.2.2.2.2.2.2.2.2.1 h.2.2.2.2.2.2.2.2.2.2.2.2.2.1 h.2.2.2.2.2.2.2.2.2.2.2.2.2.2.1).map fun c => (h.1, h.2.1, h.2.2.1, h.2.2.2.1, h.2.2.2.2.1, h.2.2.2.2.2.1, h.2.2.2.2.2.2.1, h.2.2.2.2.2.2.2.1, h.2.2.2.2.2.2.2.2.1, h.2.2.2.2.2.2.2.2.2.1, h.2.2.2.2.2.2.2.2.2.2.1, h.2.2.2.2.2.2.2.2.2.2.2.1, h.2.2.2.2.2.2.2.2.2.2.2.2.1, h.2.2.2.2.2.2.2.2.2.2.2.2.2.1, h.2.2.2.2.2.2.2.2.2.2.2.2.2.2.1, codeOf c, c)
  else none
theorem accept_Verdict.calls (A0 : Option Addr) (c0 : Nat) (l0 : List Int) (r1 r2 r3 r4 r5 : Int) (r6 r7 r8 r9 r10 r11 r12 r13 r14 r15 r16 : ByteArray) (r17 : Int) (w : World) (hG : GlobA w) (hr0 : Kd.C (Kd.int .u8) w A0 l0.length l0) (hc0 : l0.length ≤ c0) (h : accept_Verdict.f l0 = some (r1, r2, r3, r4, r5, r6, r7, r8, r9, r10, r11, r12, r13, r14, r15, r16, r17)) :
    Calls Tryd.prog 10 #[.slice A0 l0.length c0] w fun e w' => e = .returned (.tuple #[.agg #[.int .u8 r1, .int .u8 r2, .int .u8 r3, .int .u8 r4, .int .u8 r5, .string r6, .string r7, .string r8, .string r9, .string r10, .string r11, .string r12, .string r13, .string r14, .string r15], .string r16, .int .i64 r17]) ∧ Below w.heap.size w w' := by
  unfold accept_Verdict.f at h
  split at h
  case isFalse => cases h
  rename_i hb
  obtain ⟨⟨d0, d1, d2, d3, d4, s5, s6, s7, s8, s9, s10, s11, s12, s13, s14, e0⟩, hrd, h⟩ := Option.bind_eq_some_iff.1 h
  dsimp only at h
  by_cases he : e0 ≠ 0
  · rw [if_pos he] at h
    simp only [verdictZ, Option.some.injEq, Prod.mk.injEq] at h
    obtain ⟨rfl, rfl, rfl, rfl, rfl, rfl, rfl, rfl, rfl, rfl, rfl, rfl, rfl, rfl, rfl, rfl, rfl⟩ := h
    exact verdict_bad A0 c0 l0 w hG hr0 hc0 d0 d1 d2 d3 d4 s5 s6 s7 s8 s9 s10 s11 s12 s13 s14 _ hrd he
  · rw [if_neg he] at h
    obtain rfl : e0 = 0 := by simpa using he
    by_cases h28 : 0 ≤ Lib.indexByte (Lib.bytesOf (firstSeg l0)) 28
    · rw [if_pos h28] at h
      simp only [verdictZ, Option.some.injEq, Prod.mk.injEq] at h
      obtain ⟨rfl, rfl, rfl, rfl, rfl, rfl, rfl, rfl, rfl, rfl, rfl, rfl, rfl, rfl, rfl, rfl, rfl⟩ := h
      exact verdict_form A0 c0 l0 w hG hr0 hc0 d0 d1 d2 d3 d4 s5 s6 s7 s8 s9 s10 s11 s12 s13 s14 hrd hb.1 hb.2 _ rfl h28
    · rw [if_neg h28] at h
      obtain ⟨c, hc, h⟩ := Option.map_eq_some_iff.1 h
      simp only [Prod.mk.injEq] at h
      obtain ⟨rfl, rfl, rfl, rfl, rfl, rfl, rfl, rfl, rfl, rfl, rfl, rfl, rfl, rfl, rfl, rfl, rfl⟩ := h
      exact verdict_on A0 c0 l0 w hG hr0 hc0 d0 d1 d2 d3 d4 s5 s6 s7 s8 s9 s10 s11 s12 s13 s14 hrd hb.1 hb.2 _ rfl h28 c hc
end Go.Proofs.YtciagecaegoppaaDoor
namespace Go.Proofs.YtciagecaegoppaaDoor
set_option linter.unusedVariables false
set_option linter.unusedSimpArgs false
set_option maxRecDepth 100000
open Go.RowKit Go.Proofs.YtciagecaegoppaaDoorW.PrintWords Go.Proofs.YtciagecaegoppaaDoorW.PrintLast Go.Proofs.YtciagecaegoppaaDoorW.PrintMore

def wOk (fl s : ByteArray) : Prop := strings_Contains.f s fl = some false ∧ strings_Contains.f s ⟨#[13]⟩ = some false
def wBad (fl s : ByteArray) : Prop := strings_Contains.f s fl = some true ∨ (strings_Contains.f s fl = some false ∧ strings_Contains.f s ⟨#[13]⟩ = some true)
def wFull (v : Nat → ByteArray) : Nat → Nat
  | 0 => 2
  | k + 1 => if (v k).toList.isEmpty = true then wFull v k else k + 3
theorem wFull_le (v : Nat → ByteArray) (k : Nat) : 2 ≤ wFull v k ∧ wFull v k ≤ k + 2 := by
  induction k with
  | zero => exact ⟨Nat.le_refl _, Nat.le_refl _⟩
  | succ k ih => unfold wFull; split <;> omega
def wL (fl oth : ByteArray) (v : Nat → ByteArray) (k : Nat) : List ByteArray := [fl, oth] ++ (List.range k).map v
theorem wL_len (fl oth : ByteArray) (v : Nat → ByteArray) (k : Nat) : (wL fl oth v k).length = k + 2 := by simp [wL]
theorem wL_succ (fl oth : ByteArray) (v : Nat → ByteArray) (k : Nat) : wL fl oth v (k + 1) = wL fl oth v k ++ [v k] := by simp [wL, List.range_succ]

theorem callL_ {P : Program} {ops : Array Oper} {Q : Exit → Act → World → Prop} {rest : List Oper} {oi : Oper} {a : Act} {w : World} (N : Option Tmp) (hd : oi.dst = N) (hg : oi.guard = none) (f : FuncId) (args : Array Value) (hrun : (execOp a.eval oi).run P w = .ok (.enter f args) w)
    (h : Calls P f args w fun e w' => ∃ v, e = .returned v ∧ wpList P ops Q rest (a.put N v) w') : wpList P ops Q (oi :: rest) a w := by
  refine wpList_plain hg fun K hK => ?_
  unfold Oper.wp
  rw [hrun, Oper.upon_enter]
  refine h.mono fun e w'' hh => ?_
  obtain ⟨v, rfl, hk⟩ := hh
  subst hd
  exact hK _ _ hk

theorem head_text (d0 d1 d2 d3 d4 : Int) (s5 s6 s7 s8 s9 s10 s11 s12 s13 s14 : ByteArray) (k : Nat) (hk : k < 10) : (#[.int .u8 d0, .int .u8 d1, .int .u8 d2, .int .u8 d3, .int .u8 d4, .string s5, .string s6, .string s7, .string s8, .string s9, .string s10, .string s11, .string s12, .string s13, .string s14] : Array Value)[5 + k]? = some (.string (vOf s5 s6 s7 s8 s9 s10 s11 s12 s13 s14 k)) := by
  rcases k with _ | _ | _ | _ | _ | _ | _ | _ | _ | _ | k
  iterate 10 (next => rfl)
  omega

set_option maxHeartbeats 4000000 in
theorem write_head (d0 d1 d2 d3 d4 : Int) (s5 s6 s7 s8 s9 s10 s11 s12 s13 s14 : ByteArray) (w : World) (hrt : QRight.delim_Right.f 10 d0 d1 d2 d3 d4 = some false) :
    Calls Tryd.prog 8 #[.agg #[.int .u8 d0, .int .u8 d1, .int .u8 d2, .int .u8 d3, .int .u8 d4, .string s5, .string s6, .string s7, .string s8, .string s9, .string s10, .string s11, .string s12, .string s13, .string s14]] w fun e w' => e = .returned (.tuple #[.string ⟨#[]⟩, .int .i64 11]) ∧ Below w.heap.size w w' := by
  have HRT := Aside0.mk hrt
  clear hrt
  go_enter Tryd.func8, Tryd.ntmps8
  go_wp2_with (go_at_call 18; refine (QRight.delim_Right.calls 10 d0 d1 d2 d3 d4 false _ HRT.out).mono ?_; rintro e w2 ⟨rfl, hb2⟩; have HB2 := Aside0.mk (below_step (below_alloc (Below.refl _ _) _) hb2); clear hb2)
  go_ret2
  exact ⟨rfl, HB2.out⟩

set_option maxHeartbeats 8000000 in
theorem write_loop (d0 d1 d2 d3 d4 : Int) (s5 s6 s7 s8 s9 s10 s11 s12 s13 s14 : ByteArray) (w : World) (hG : GlobA w) (hrt : QRight.delim_Right.f 10 d0 d1 d2 d3 d4 = some true) (fl : ByteArray) (hfl : strOfNums [d0] = fl) (oth : ByteArray) (hoth : Qothers.msh_others.f d0 d1 d2 d3 d4 = some oth)
    (v : Nat → ByteArray) (hv : vOf s5 s6 s7 s8 s9 s10 s11 s12 s13 s14 = v) (n : Nat) (hn : n ≤ 10) (hok : ∀ k, k < n → wOk fl (v k)) (hbad : n < 10 → wBad fl (v n)) (rs : ByteArray) (re : Int)
    (hres : if n < 10 then rs = ⟨#[]⟩ ∧ re = 10 else QMake.segment_Make.f d0 d1 d2 d3 d4 ⟨#[77, 83, 72]⟩ ((wL fl oth v 10).take (wFull v 10)) = some rs ∧ re = 0) :
    Calls Tryd.prog 8 #[.agg #[.int .u8 d0, .int .u8 d1, .int .u8 d2, .int .u8 d3, .int .u8 d4, .string s5, .string s6, .string s7, .string s8, .string s9, .string s10, .string s11, .string s12, .string s13, .string s14]] w fun e w' => e = .returned (.tuple #[.string rs, .int .i64 re]) ∧ Below w.heap.size w w' := by
  have HG := Aside0.mk hG; have HRT := Aside0.mk hrt; have HFL := Aside0.mk hfl; have HOTH := Aside0.mk hoth; have HV := Aside0.mk hv; have HOK := Aside0.mk hok; have HBAD := Aside0.mk hbad; have HRES := Aside0.mk hres; have HN := Aside0.mk hn
  obtain ⟨i0, hi0, hz0, hz1, hz2⟩ := info_parts infoStr
  have HI0 := Aside0.mk hi0; have HZ0 := Aside0.mk hz0; have HZ1 := Aside0.mk hz1; have HZ2 := Aside0.mk hz2
  clear hG hrt hfl hoth hv hok hbad hres hn hi0 hz0 hz1 hz2
  go_enter Tryd.func8, Tryd.ntmps8
  go_wp2_with (first
    | (go_at_call 18; refine (QRight.delim_Right.calls 10 d0 d1 d2 d3 d4 true _ HRT.out).mono ?_; rintro e w2 ⟨rfl, hb2⟩; have HB2 := Aside0.mk (below_step (below_alloc (Below.refl _ _) _) hb2); have hblk2 := blk_below (blk_new w (.cells #[.int .u8 d0, .int .u8 d1, .int .u8 d2, .int .u8 d3, .int .u8 d4, .string s5, .string s6, .string s7, .string s8, .string s9, .string s10, .string s11, .string s12, .string s13, .string s14] 25)) hb2; have HBLK2 := Aside0.mk hblk2; have hlt2 : w.heap.size < w2.heap.size := blk_lt hblk2; have hcv := own_string (P := Tryd.prog) (base := 0) (n := 1) (e' := 5) (xs := [d0]) Tryd.underlying26 Tryd.underlying5 Tryd.underlying9 (World.ownsRow_lit (base := 0) (e := 5) (size := 1) w2 #[.int .u8 d0] 1 (Nat.zero_le _) (by decide) rfl); have y0 : w2.cell? ⟨w.heap.size, 0, none⟩ = some (.int .u8 d0) := blk_cell hblk2 0; have y1 : w2.cell? ⟨w.heap.size, 1, none⟩ = some (.int .u8 d1) := blk_cell hblk2 1; have y2 : w2.cell? ⟨w.heap.size, 2, none⟩ = some (.int .u8 d2) := blk_cell hblk2 2; have y3 : w2.cell? ⟨w.heap.size, 3, none⟩ = some (.int .u8 d3) := blk_cell hblk2 3; have y4 : w2.cell? ⟨w.heap.size, 4, none⟩ = some (.int .u8 d4) := blk_cell hblk2 4; rw [HFL.out] at hcv; clear hb2 hblk2)
    | (go_at_call 19; refine (Qothers.msh_others.calls d0 d1 d2 d3 d4 oth _ HOTH.out).mono ?_; rintro e w3 ⟨rfl, hb3⟩; have HB3 := Aside0.mk (below_step (below_alloc HB2.out _) hb3); have HBLK3 := Aside0.mk (blk_below (blk_alloc HBLK2.out _) hb3); clear y0 y1 y2 y3 y4; clear hb3 hcv hlt2)
    | (go_at_call 20; refine (texts_calls _).mono ?_; rintro e w4 ⟨rfl, hb4⟩; have HB4 := Aside0.mk (below_step (below_alloc HB3.out _) hb4); have HBLK4 := Aside0.mk (blk_below (blk_alloc HBLK3.out _) hb4); have HROW := Aside0.mk (Kd.R_below (Kd.R_of_own (enc := Value.string) (h1 := fun _ => rfl) (ok := fun _ => True) (xs := [fl, oth]) (World.ownsRow_lit (base := w.heap.size) (e := 9) (size := 1) w3 #[.string fl, .string oth] 2 HB3.out.size (by decide) rfl) (fun _ _ => trivial)) hb4); clear hb4))
  clear HB3 HBLK3 HB2 HBLK2
  go_loopw [5, 6, 27] (fun v5 i6 i W => ∃ (k : Nat) (vr : Value), k ≤ n ∧ i = .int .i64 (k : Nat) ∧ i6 = .int .i64 (wFull v k : Nat) ∧ v5 = vr ∧ Aside0 (Kd.R Kd.string 9 W w.heap.size (fun _ => True) vr (wL fl oth v k)) ∧ Aside0 (W.heap[w.heap.size]? = some (.cells #[.int .u8 d0, .int .u8 d1, .int .u8 d2, .int .u8 d3, .int .u8 d4, .string s5, .string s6, .string s7, .string s8, .string s9, .string s10, .string s11, .string s12, .string s13, .string s14] 25 (0, 0))) ∧ Aside0 (Below w.heap.size w W)) (fun _ _ i _ => 10 - (intOf i).toNat)
  case atStart => exact ⟨0, _, Nat.zero_le _, rfl, rfl, rfl, HROW, HBLK4, HB4⟩
  case round =>
    clear HROW HBLK4 HB4
    obtain ⟨k, vr, hkn, rfl, rfl, rfl, HR, HBK, HBr⟩ := hrel
    by_cases hk : k < 10
    · have hidx : ∀ W : World, (Instr.index 55 textsV (.int .i64 (k : Nat))).run Tryd.prog W = .ok (.agg #[.func (.func (textFn k)) #[] #[]]) W := texts_index k hk
      have hlt10 : decide ((k : Int) < 10) = true := decide_eq_true (by omega)
      have hlt10' : decide (k < 10) = true := decide_eq_true hk
      have hwk : wrap64 ((k : Int) + 1) = (k : Int) + 1 := by unfold wrap64; omega
      have hlt : w.heap.size < wr.heap.size := blk_lt HBK.out
      have u : wr.cell? ⟨w.heap.size, 5 + k, none⟩ = some (.string (v k)) := by rw [blk_cell HBK.out, ← HV.out]; exact head_text d0 d1 d2 d3 d4 s5 s6 s7 s8 s9 s10 s11 s12 s13 s14 k hk
      have HK := Aside0.mk hk; have HKN := Aside0.mk hkn
      generalize hx : v k = x at u
      have HX := Aside0.mk hx
      clear hx hkn
      go_upto_region 10 with ((with_reducible refine gate_dst (N := 32) rfl ?_); refine callL_ (some 32) rfl rfl (textFn k) #[.pointer (some ⟨w.heap.size, 0, none⟩)] ?hrun ?_; (case hrun => unfold execOp; simp [resolve, Deferred.ofValue, invoke, Act.eval, texts_enters k HK.out]); refine (text_calls k HK.out w.heap.size _).mono ?_; rintro e w5 ⟨rfl, hw5⟩; have hw5' := hw5.symm; subst hw5'; clear hw5; refine ⟨_, rfl, ?_⟩)
      have HGW : Aside0 (∀ W', Below (wr.alloc (.cells #[.func (.func (textFn k)) #[] #[]] 54)).heap.size (wr.alloc (.cells #[.func (.func (textFn k)) #[] #[]] 54)) W' → GlobA W') := ⟨fun W' hW => HG.out.below (below_step (below_alloc HBr.out _) hW)⟩
      have HBW : Aside0 (∀ W', Below (wr.alloc (.cells #[.func (.func (textFn k)) #[] #[]] 54)).heap.size (wr.alloc (.cells #[.func (.func (textFn k)) #[] #[]] 54)) W' → Below w.heap.size w W') := ⟨fun W' hW => below_step (below_alloc HBr.out _) hW⟩
      rcases Nat.lt_or_ge k n with hlt' | hge
      · obtain ⟨hc1, hc2⟩ := HOK.out k hlt'
        rw [HX.out] at hc1 hc2
        have HC1 := Aside0.mk hc1; have HC2 := Aside0.mk hc2; have HLT := Aside0.mk hlt'
        clear hc1 hc2 hlt'
        go_upto_region 12 with (first
          | (go_at_call 21; refine (strings_Contains.calls x fl false _ ?hg1 HC1.out).mono ?_; (case hg1 => exact HGW.out _ (by first | exact Below.refl _ _ | exact pw_below_drewN (Below.refl _ _) _)); rintro e w5 ⟨rfl, ⟨⟨q1, rfl⟩⟩⟩)
          | (go_at_call 21; refine (strings_Contains.calls x ⟨#[13]⟩ false _ ?hg2 HC2.out).mono ?_; (case hg2 => exact HGW.out _ (by first | exact Below.refl _ _ | exact pw_below_drewN (Below.refl _ _) _)); rintro e w5 ⟨rfl, ⟨⟨q2, rfl⟩⟩⟩))
        obtain ⟨W, hW⟩ : ∃ W, W = (wr.alloc (.cells #[.func (.func (textFn k)) #[] #[]] 54)).drewN (q1 + q2) := ⟨_, rfl⟩
        rw [← hW]
        have hR : Kd.R Kd.string 9 W w.heap.size (fun _ => True) u5 (wL fl oth v k) := by rw [hW]; exact Kd.R_drewN (Kd.R_alloc HR.out _) _
        have hBK : W.heap[w.heap.size]? = some (.cells #[.int .u8 d0, .int .u8 d1, .int .u8 d2, .int .u8 d3, .int .u8 d4, .string s5, .string s6, .string s7, .string s8, .string s9, .string s10, .string s11, .string s12, .string s13, .string s14] 25 (0, 0)) := by rw [hW]; exact blk_drewN (blk_alloc HBK.out _) _
        have hB : Below w.heap.size w W := by rw [hW]; exact pw_below_drewN (below_alloc HBr.out _) _
        have hown := Kd.own_of_R hR
        rw [wL_len] at hown
        have HOWN := Aside0.mk hown; have HRW := Aside0.mk hR; have HBKW := Aside0.mk hBK; have HBWW := Aside0.mk hB
        have hmx : k + 2 + 1 ≤ maxLen := by have : maxLen = 9223372036854775807 := rfl; omega
        have HMX := Aside0.mk hmx
        clear hW hR hBK hB hown hmx u hlt HGW HBW
        cases hemp : x.toList.isEmpty
        all_goals
          go_wp2_with (at_builtin; refine wpList_append_own _ rfl _ _ 41 rfl w.heap.size 9 i0 (.string ByteArray.empty) 1 16 Tryd.underlying41 HI0.out HZ0.out HZ1.out HZ2.out rfl (by decide) _ (k + 2) _ rfl (HOWN.out.alloc _) ⟨W.heap.size, 0, none⟩ 1 1 [.string x] rfl rfl (cell_one_new _ _ _) (by simp [Value.oneCell']) HMX.out (by have := HK.out; omega) (below_size (below_alloc HBWW.out _)) ?_; intro v' w1 hown' hgrow hnil; have HO' := Aside0.mk hown'; have HGR := Aside0.mk hgrow; obtain ⟨g', cap', eg⟩ := ownsRow_succ hown'; subst eg; clear hown' hgrow hnil)
          have hne := Kd.R_ne HRW.out HBKW.out (by decide)
          have hbk' := blk_grown (blk_alloc HBKW.out _) HGR.out hne
          have hb' : Below w.heap.size w w1 := below_grown (below_alloc HBWW.out _) HGR.out (below_size (below_alloc HBWW.out _)) (fun r e => own_base HOWN.out r e)
          have hr' : Kd.R Kd.string 9 w1 w.heap.size (fun _ => True) (.slice (some ⟨g', 0, none⟩) (k + 2 + 1) cap') (wL fl oth v (k + 1)) := Kd.R_of_own (by rw [wL_len, wL_succ, HX.out, encs_append]; exact HO'.out) (fun _ _ => trivial)
          have HR' := Aside0.mk hr'; have HBK' := Aside0.mk hbk'; have HB' := Aside0.mk hb'
          clear hne hbk' hb' hr'
          go_roundw
          case rel => exact ⟨k + 1, _, HLT.out, by go_num, by rw [show wFull v (k + 1) = if (v k).toList.isEmpty = true then wFull v k else k + 3 from rfl, HX.out, hemp]; rfl, rfl, HR', HBK', HB'⟩
          case measure => have := HK.out; simp [intOf]; omega
      · have hkn : k = n := by have := HKN.out; omega
        have hbd := HBAD.out (by omega)
        rw [← hkn, HX.out] at hbd
        have hre := HRES.out
        rw [if_pos (by omega)] at hre
        have HRE := Aside0.mk hre
        clear hre hkn hge
        rcases hbd with hc1 | ⟨hc1, hc2⟩
        · have HC1 := Aside0.mk hc1
          clear hc1
          go_wp2_with (first
          | (go_at_call 21; refine (strings_Contains.calls x fl true _ ?hg1 HC1.out).mono ?_; (case hg1 => exact HGW.out _ (by first | exact Below.refl _ _ | exact pw_below_drewN (Below.refl _ _) _)); rintro e w5 ⟨rfl, ⟨⟨q1, rfl⟩⟩⟩))
          go_ret2
          exact ⟨by rw [HRE.out.1, HRE.out.2]; rfl, HBW.out _ (pw_below_drewN (Below.refl _ _) _)⟩
        · have HC1 := Aside0.mk hc1; have HC2 := Aside0.mk hc2
          clear hc1 hc2
          go_wp2_with (first
          | (go_at_call 21; refine (strings_Contains.calls x fl false _ ?hg1 HC1.out).mono ?_; (case hg1 => exact HGW.out _ (by first | exact Below.refl _ _ | exact pw_below_drewN (Below.refl _ _) _)); rintro e w5 ⟨rfl, ⟨⟨q1, rfl⟩⟩⟩)
          | (go_at_call 21; refine (strings_Contains.calls x ⟨#[13]⟩ true _ ?hg2 HC2.out).mono ?_; (case hg2 => exact HGW.out _ (by first | exact Below.refl _ _ | exact pw_below_drewN (Below.refl _ _) _)); rintro e w5 ⟨rfl, ⟨⟨q2, rfl⟩⟩⟩))
          go_ret2
          exact ⟨by rw [HRE.out.1, HRE.out.2]; rfl, HBW.out _ (by first | exact pw_below_drewN (pw_below_drewN (Below.refl _ _) _) _ | exact pw_below_drewN (Below.refl _ _) _)⟩
    · obtain rfl : k = 10 := by have := HN.out; omega
      have hn10 : n = 10 := by have := HN.out; omega
      have hre := HRES.out
      rw [if_neg (by omega)] at hre
      obtain ⟨hmk, rfl⟩ := hre
      have HMK := Aside0.mk hmk
      have hlt : w.heap.size < wr.heap.size := blk_lt HBK.out
      obtain ⟨A, c, hv5⟩ := Kd.R_slice HR.out
      subst hv5
      obtain ⟨_, hlc, hC⟩ := Kd.R_reads' HR.out
      have hfl2 := wFull_le v 10
      obtain ⟨hcut, hA, hC2⟩ := print_take_of (P := Tryd.prog) Value.string (⟨#[]⟩ : ByteArray) 41 9 .i64 Tryd.underlying41 HI0.out HZ1.out A c (wL fl oth v 10) (wFull v 10 : Nat) (by omega) (by rw [wL_len]; omega) hlc
      have hCt := Kd.C_take hC (m := wFull v 10) (by rw [wL_len]; omega)
      rw [Int.toNat_natCast] at hcut hC2
      obtain ⟨F, hF⟩ : ∃ F, F = wFull v 10 := ⟨_, rfl⟩
      obtain ⟨L, hL⟩ : ∃ L, L = wL fl oth v 10 := ⟨_, rfl⟩
      rw [← hF, ← hL] at hCt hcut hC2
      have hmk' := HMK.out
      rw [← hF, ← hL] at hmk'
      obtain ⟨M, hM⟩ : ∃ M, M = L.take F := ⟨_, rfl⟩
      rw [← hM] at hCt hcut hC2 hmk'
      have HMK' := Aside0.mk hmk'; have HCT := Aside0.mk hCt; have HC2 := Aside0.mk hC2
      rw [← hF, ← hL]
      have y0 : wr.cell? ⟨w.heap.size, 0, none⟩ = some (.int .u8 d0) := blk_cell HBK.out 0; have y1 : wr.cell? ⟨w.heap.size, 1, none⟩ = some (.int .u8 d1) := blk_cell HBK.out 1; have y2 : wr.cell? ⟨w.heap.size, 2, none⟩ = some (.int .u8 d2) := blk_cell HBK.out 2; have y3 : wr.cell? ⟨w.heap.size, 3, none⟩ = some (.int .u8 d3) := blk_cell HBK.out 3; have y4 : wr.cell? ⟨w.heap.size, 4, none⟩ = some (.int .u8 d4) := blk_cell HBK.out 4
      clear hmk hmk' hlc hC hA hC2 hCt hfl2 hkn hn10 hk HRES HOK HBAD HMK hF hL hM
      go_wp2_with fail
      go_region_held3 (fun w' => w'.cell? ⟨w.heap.size, 0, none⟩ = some (.int .u8 d0) ∧ w'.cell? ⟨w.heap.size, 1, none⟩ = some (.int .u8 d1) ∧ w'.cell? ⟨w.heap.size, 2, none⟩ = some (.int .u8 d2) ∧ w'.cell? ⟨w.heap.size, 3, none⟩ = some (.int .u8 d3) ∧ w'.cell? ⟨w.heap.size, 4, none⟩ = some (.int .u8 d4))
        (first | go_keep | (go_split_ands; refine ⟨?_, ?_, ?_, ?_, ?_⟩ <;> (refine pw_cell_below HB9.out ?_; assumption)))
        ((go_at_call 22; refine (QMake.segment_Make.calls d0 d1 d2 d3 d4 ⟨#[77, 83, 72]⟩ A c M rs _ ?hr ?hc HMK'.out).mono ?_; (case hr => exact Kd.C_drew HCT.out); (case hc => exact HC2.out); rintro e w9 ⟨rfl, hb9⟩; have HB9 := Aside0.mk hb9; clear hb9))
      go_wp2
      go_ret2
      exact ⟨rfl, below_step (below_drew1 HBr.out) HB9.out⟩
end Go.Proofs.YtciagecaegoppaaDoor
namespace Go.Proofs.YtciagecaegoppaaDoor
set_option linter.unusedVariables false
set_option maxRecDepth 100000
open Go.RowKit Go.Proofs.YtciagecaegoppaaDoorW.PrintWords Go.Proofs.YtciagecaegoppaaDoorW.PrintLast Go.Proofs.YtciagecaegoppaaDoorW.PrintMore

/-- The first text that may not be, or 10. -/
def wScan (fl : ByteArray) (v : Nat → ByteArray) : Nat → Nat → Option Nat
  | 0, k => some k
  | m + 1, k => (strings_Contains.f (v k) fl).bind fun b1 => if b1 = true then some k else (strings_Contains.f (v k) ⟨#[13]⟩).bind fun b2 => if b2 = true then some k else wScan fl v m (k + 1)
theorem wScan_spec (fl : ByteArray) (v : Nat → ByteArray) : ∀ m k n, wScan fl v m k = some n → k + m = 10 → k ≤ n ∧ n ≤ 10 ∧ (∀ j, k ≤ j → j < n → wOk fl (v j)) ∧ (n < 10 → wBad fl (v n))
  | 0, k, n, h, hk => by
    obtain rfl := Option.some.inj h
    exact ⟨Nat.le_refl _, by omega, fun j h1 h2 => by omega, fun h => by omega⟩
  | m + 1, k, n, h, hk => by
    unfold wScan at h
    obtain ⟨b1, h1, h⟩ := Option.bind_eq_some_iff.1 h
    by_cases c1 : b1 = true
    · rw [if_pos c1] at h
      obtain rfl := Option.some.inj h
      subst c1
      exact ⟨Nat.le_refl _, by omega, fun j a b => by omega, fun _ => .inl h1⟩
    · rw [if_neg c1] at h
      obtain rfl : b1 = false := by simpa using c1
      obtain ⟨b2, h2, h⟩ := Option.bind_eq_some_iff.1 h
      by_cases c2 : b2 = true
      · rw [if_pos c2] at h
        obtain rfl := Option.some.inj h
        subst c2
        exact ⟨Nat.le_refl _, by omega, fun j a b => by omega, fun _ => .inr ⟨h1, h2⟩⟩
      · rw [if_neg c2] at h
        obtain rfl : b2 = false := by simpa using c2
        obtain ⟨a1, a2, a3, a4⟩ := wScan_spec fl v m (k + 1) n h (by omega)
        refine ⟨by omega, a2, fun j b1 b2 => ?_, a4⟩
        rcases Nat.eq_or_lt_of_le b1 with rfl | hj
        · exact ⟨h1, h2⟩
        · exact a3 j hj b2
def msh_Write.f (d0 d1 d2 d3 d4 : Int) (s5 s6 s7 s8 s9 s10 s11 s12 s13 s14 : ByteArray) : Option (ByteArray × Int) :=
  (QRight.delim_Right.f 10 d0 d1 d2 d3 d4).bind fun rt =>
    if rt = false then some (⟨#[]⟩, 11)
    else (wScan (strOfNums [d0]) (vOf s5 s6 s7 s8 s9 s10 s11 s12 s13 s14) 10 0).bind fun n =>
      if n < 10 then some (⟨#[]⟩, 10)
      else (QMake.segment_Make.f d0 d1 d2 d3 d4 ⟨#[77, 83, 72]⟩ ((wL (strOfNums [d0]) (strOfNums [d1, d2, d3, d4]) (vOf s5 s6 s7 s8 s9 s10 s11 s12 s13 s14) 10).take (wFull (vOf s5 s6 s7 s8 s9 s10 s11 s12 s13 s14) 10))).map fun s => (s, 0)

theorem msh_Write.calls (d0 d1 d2 d3 d4 : Int) (s5 s6 s7 s8 s9 s10 s11 s12 s13 s14 : ByteArray) (r1 : ByteArray) (r2 : Int) (w : World) (hG : GlobA w) (h : msh_Write.f d0 d1 d2 d3 d4 s5 s6 s7 s8 s9 s10 s11 s12 s13 s14 = some (r1, r2)) :
    Calls Tryd.prog 8 #[.agg #[.int .u8 d0, .int .u8 d1, .int .u8 d2, .int .u8 d3, .int .u8 d4, .string s5, .string s6, .string s7, .string s8, .string s9, .string s10, .string s11, .string s12, .string s13, .string s14]] w fun e w' => e = .returned (.tuple #[.string r1, .int .i64 r2]) ∧ Below w.heap.size w w' := by
  unfold msh_Write.f at h
  obtain ⟨rt, hrt, h⟩ := Option.bind_eq_some_iff.1 h
  by_cases hr : rt = false
  · rw [if_pos hr] at h
    simp only [Option.some.injEq, Prod.mk.injEq] at h
    obtain ⟨rfl, rfl⟩ := h
    subst hr
    exact write_head d0 d1 d2 d3 d4 s5 s6 s7 s8 s9 s10 s11 s12 s13 s14 w hrt
  · rw [if_neg hr] at h
    obtain rfl : rt = true := by simpa using hr
    obtain ⟨n, hn, h⟩ := Option.bind_eq_some_iff.1 h
    obtain ⟨_, hn10, hok, hbad⟩ := wScan_spec _ _ 10 0 n hn rfl
    refine write_loop d0 d1 d2 d3 d4 s5 s6 s7 s8 s9 s10 s11 s12 s13 s14 w hG hrt _ rfl _ rfl _ rfl n hn10 (fun k hk => hok k (Nat.zero_le _) hk) hbad r1 r2 ?_
    by_cases h10 : n < 10
    · rw [if_pos h10] at h ⊢
      simp only [Option.some.injEq, Prod.mk.injEq] at h
      obtain ⟨rfl, rfl⟩ := h
      exact ⟨rfl, rfl⟩
    · rw [if_neg h10] at h ⊢
      obtain ⟨s, hs, he⟩ := Option.map_eq_some_iff.1 h
      simp only [Prod.mk.injEq] at he
      obtain ⟨rfl, rfl⟩ := he
      exact ⟨hs, rfl⟩
end Go.Proofs.YtciagecaegoppaaDoor
