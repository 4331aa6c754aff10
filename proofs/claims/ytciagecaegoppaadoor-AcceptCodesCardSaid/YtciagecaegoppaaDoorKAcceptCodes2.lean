/- A part of what the law AcceptCodes rests on: QRightx2, Delim, DelimOn, Texts, QFieldx0, QFieldx1, Qothersx0, Qothersx1, Read, ReadF, Qfirstx0, Qfirstx1, Check, Answers. Conditions: each theorem's own. -/
import Derived.Test.YtciagecaegoppaaDoorKAcceptCodes1
import Derived.Test.YtciagecaegoppaaDoorProg
import Derived.Lib.SlBytesConst
import Derived.WalkKit
import Derived.WalkSpells
import Derived.WalkLawsBesides
import Derived.BigQuiet
import Derived.Laws.Rows
import Derived.Laws.EntriesVeiled
import Derived.Below
import Derived.Deep.Draws
import Derived.Deep.AppendLies
import Derived.Maps.AppendAt
import Derived.OwnWalk
import Derived.Laws.BytesArg
import Derived.Laws.MakeOwn
import Derived.Laws.OwnMore
import Derived.Deep.OwnRows
import Derived.Tactics
import Derived.Lib.ConvBytes
import Derived.Laws.Slices
import Derived.KernelRfl
import Derived.RowKit3
import Derived.Deep.LoopGhost
import Derived.Deep.QuietTactic
import Derived.WideLaws
import Derived.Deep.DeepCutAuto
import Derived.Deep.CutBlock
import Derived.Deep.RegionHeld3
import Derived.Lib.AppendStr
import Derived.ArgAppend
import Derived.Laws.IdiomCopy
import Derived.OrdersHeld
import Derived.Laws.BitsLemmas
import Derived.RowKit
import Derived.MapKept
section
namespace Go.Proofs.YtciagecaegoppaaDoor.QRight
open Go.RowKit Go.Proofs.YtciagecaegoppaaDoorW.PrintWords Go.Proofs.YtciagecaegoppaaDoorW.PrintLast Go.Proofs.YtciagecaegoppaaDoorW.PrintMore
attribute [local go_sem] max2_int min2_int max_two min_two max_three min_three max_four min_four   -- for this text's walks alone
set_option linter.unusedVariables false
set_option linter.unusedSimpArgs false

attribute [local go_sem high] eqA23
def delim_Plain.f  : Option (Int × Int × Int × Int × Int) := some (124, 94, 126, 92, 38)
set_option maxHeartbeats 8000000 in
set_option maxRecDepth 100000 in
theorem delim_Plain.calls  (r1 : Int) (r2 : Int) (r3 : Int) (r4 : Int) (r5 : Int) (w : World) (h : delim_Plain.f  = some (r1, r2, r3, r4, r5)) :
    Calls Tryd.prog 39 #[] w fun e w' => e = .returned (.agg #[.int .u8 r1, .int .u8 r2, .int .u8 r3, .int .u8 r4, .int .u8 r5]) ∧ Below w.heap.size w w' := by
  have hu23 := Tryd.underlying23
  have HB := Aside0.mk (Below.refl w.heap.size w)
  have H : (some (124, 94, 126, 92, 38)) = some (r1, r2, r3, r4, r5) := h
  clear h
  simp only [Option.some.injEq, Prod.mk.injEq] at H
  obtain ⟨rfl, rfl, rfl, rfl, rfl⟩ := H
  go_enter Tryd.func39, Tryd.ntmps39
  go_wp2_with (first | ((with_reducible refine gate_dst (N := 0) rfl ?_); refine box_event ?hg (N := 0) ?hd (cs := #[.int .u8 0, .int .u8 0, .int .u8 0, .int .u8 0, .int .u8 0]) (t := 23) ?hr ?_; (case hd => rfl); (case hg => rfl); (case hr => first | (go_simp; done) | (go_simp; rfl)); intro gb101 hg w1 hbox hb; have n0_ := Aside0.mk (below_step (by repeat (first | (with_reducible first | exact HB.out | apply below_alloc | apply pw_below_drewN | apply below_drew1) | exact HB.out)) hb); have n1_ := Aside0.mk (hbox); have n2_ := Aside0.mk ((by rw [hg]; exact (below_size (by repeat (first | (with_reducible first | exact HB.out | apply below_alloc | apply pw_below_drewN | apply below_drew1) | exact HB.out))) : w.heap.size ≤ gb101)); have n3_ := Aside0.mk ((by rw [hg]; exact (below_size (by repeat (first | (with_reducible first | exact HB.out | apply below_alloc | apply pw_below_drewN | apply below_drew1) | exact HB.out))) : w.heap.size ≤ gb101)); clear HB; have HB := n0_; have BK101 := n1_; have GW101 := n2_; have GE101 := n3_; clear n0_ n1_ n2_ n3_; clear hb hbox hg; have hcz2_0 : w1.cell? ⟨gb101, 0, none⟩ = some (.int .u8 0) := (blk_cell BK101.out 0).trans rfl; have hcz2_1 : w1.cell? ⟨gb101, 1, none⟩ = some (.int .u8 0) := (blk_cell BK101.out 1).trans rfl; have hcz2_2 : w1.cell? ⟨gb101, 2, none⟩ = some (.int .u8 0) := (blk_cell BK101.out 2).trans rfl; have hcz2_3 : w1.cell? ⟨gb101, 3, none⟩ = some (.int .u8 0) := (blk_cell BK101.out 3).trans rfl; have hcz2_4 : w1.cell? ⟨gb101, 4, none⟩ = some (.int .u8 0) := (blk_cell BK101.out 4).trans rfl; have hfz2_0 := blk_frozen BK101.out 0; have hfz2_1 := blk_frozen BK101.out 1; have hfz2_2 := blk_frozen BK101.out 2; have hfz2_3 := blk_frozen BK101.out 3; have hfz2_4 := blk_frozen BK101.out 4))
  refine bodyPost_ret (results_cell_row rfl _ _ gb101 23 #[.int .u8 124, .int .u8 94, .int .u8 126, .int .u8 92, .int .u8 38] (0, 0) _ rfl (by (with_reducible repeat (first | refine blk_drewN ?_ _ | refine blk_drew ?_ | refine blk_alloc ?_ _)); refine blk_put (cs := #[.int .u8 124, .int .u8 94, .int .u8 126, .int .u8 92, .int .u8 0]) ?_ 4 _ rfl; (with_reducible repeat (first | refine blk_drewN ?_ _ | refine blk_drew ?_ | refine blk_alloc ?_ _)); refine blk_put (cs := #[.int .u8 124, .int .u8 94, .int .u8 126, .int .u8 0, .int .u8 0]) ?_ 3 _ rfl; (with_reducible repeat (first | refine blk_drewN ?_ _ | refine blk_drew ?_ | refine blk_alloc ?_ _)); refine blk_put (cs := #[.int .u8 124, .int .u8 94, .int .u8 0, .int .u8 0, .int .u8 0]) ?_ 2 _ rfl; (with_reducible repeat (first | refine blk_drewN ?_ _ | refine blk_drew ?_ | refine blk_alloc ?_ _)); refine blk_put (cs := #[.int .u8 124, .int .u8 0, .int .u8 0, .int .u8 0, .int .u8 0]) ?_ 1 _ rfl; (with_reducible repeat (first | refine blk_drewN ?_ _ | refine blk_drew ?_ | refine blk_alloc ?_ _)); refine blk_put (cs := #[.int .u8 0, .int .u8 0, .int .u8 0, .int .u8 0, .int .u8 0]) ?_ 0 _ rfl; (with_reducible repeat (first | refine blk_drewN ?_ _ | refine blk_drew ?_ | refine blk_alloc ?_ _)); exact BK101.out) Tryd.underlying23 rfl (by kernel_rfl)) rfl ?_
  exact ⟨by first | rfl | (simp [errW_none, errW_some] <;> rfl) | (simp [*, errW_none, errW_some] <;> rfl), by repeat (first | (with_reducible first | exact HB.out | apply below_alloc | apply pw_below_drewN | apply below_drew1 | refine below_set ?_ GE101.out) | exact HB.out)⟩

def delim_five.f (a0_0 : Int) (a0_1 : Int) (a0_2 : Int) (a0_3 : Int) (a0_4 : Int) : Option (List Int) := some (([a0_0, a0_1, a0_2, a0_3, a0_4] : List Int))
set_option maxHeartbeats 8000000 in
set_option maxRecDepth 100000 in
theorem delim_five.calls (a0_0 : Int) (a0_1 : Int) (a0_2 : Int) (a0_3 : Int) (a0_4 : Int) (r : List Int) (w : World) (h : delim_five.f a0_0 a0_1 a0_2 a0_3 a0_4 = some r) :
    Calls Tryd.prog 40 #[.agg #[.int .u8 a0_0, .int .u8 a0_1, .int .u8 a0_2, .int .u8 a0_3, .int .u8 a0_4]] w fun e w' => ∃ v0_ : Value, e = .returned (v0_) ∧ Kd.R (Kd.int .u8) 5 w' w.heap.size (fun _ => True) v0_ r ∧ Below w.heap.size w w' := by
  have hu23 := Tryd.underlying23
  have HB := Aside0.mk (Below.refl w.heap.size w)
  have H : (some (([a0_0, a0_1, a0_2, a0_3, a0_4] : List Int))) = some r := h
  clear h
  obtain ⟨y103, hy103⟩ : ∃ y_ : List Int, y_ = (([a0_0, a0_1, a0_2, a0_3, a0_4] : List Int)) := ⟨_, rfl⟩
  replace H : (some y103) = some r := by first | (rw [hy103]; with_reducible exact H) | (have H2_ := (Option.bind_some _ _).symm.trans H; rw [hy103]; with_reducible exact H2_) | (have H2_ := (Option.bind_some _ _).symm.trans H; with_reducible exact H2_) | with_reducible exact H | (rw [hy103]; exact H) | exact H
  have Ny103 := Aside0.mk hy103
  clear hy103
  obtain rfl := Option.some.inj H
  go_enter Tryd.func40, Tryd.ntmps40
  go_wp2_with (first | ((with_reducible refine gate_dst (N := 1) rfl ?_); refine box_event ?hg (N := 1) ?hd (cs := #[.int .u8 a0_0, .int .u8 a0_1, .int .u8 a0_2, .int .u8 a0_3, .int .u8 a0_4]) (t := 23) ?hr ?_; (case hd => rfl); (case hg => rfl); (case hr => first | (go_simp; done) | (go_simp; rfl)); intro gb102 hg w2 hbox hb; have n0_ := Aside0.mk (below_step (by repeat (first | (with_reducible first | exact HB.out | apply below_alloc | apply pw_below_drewN | apply below_drew1) | exact HB.out)) hb); have n1_ := Aside0.mk (hbox); have n2_ := Aside0.mk ((by rw [hg]; exact (below_size (by repeat (first | (with_reducible first | exact HB.out | apply below_alloc | apply pw_below_drewN | apply below_drew1) | exact HB.out))) : w.heap.size ≤ gb102)); have n3_ := Aside0.mk ((by rw [hg]; exact (below_size (by repeat (first | (with_reducible first | exact HB.out | apply below_alloc | apply pw_below_drewN | apply below_drew1) | exact HB.out))) : w.heap.size ≤ gb102)); clear HB; have HB := n0_; have BK102 := n1_; have GW102 := n2_; have GE102 := n3_; clear n0_ n1_ n2_ n3_; clear hb hbox hg; have hcz3_0 : w2.cell? ⟨gb102, 0, none⟩ = some (.int .u8 a0_0) := (blk_cell BK102.out 0).trans rfl; have hcz3_1 : w2.cell? ⟨gb102, 1, none⟩ = some (.int .u8 a0_1) := (blk_cell BK102.out 1).trans rfl; have hcz3_2 : w2.cell? ⟨gb102, 2, none⟩ = some (.int .u8 a0_2) := (blk_cell BK102.out 2).trans rfl; have hcz3_3 : w2.cell? ⟨gb102, 3, none⟩ = some (.int .u8 a0_3) := (blk_cell BK102.out 3).trans rfl; have hcz3_4 : w2.cell? ⟨gb102, 4, none⟩ = some (.int .u8 a0_4) := (blk_cell BK102.out 4).trans rfl; have hfz3_0 := blk_frozen BK102.out 0; have hfz3_1 := blk_frozen BK102.out 1; have hfz3_2 := blk_frozen BK102.out 2; have hfz3_3 := blk_frozen BK102.out 3; have hfz3_4 := blk_frozen BK102.out 4) | ((with_reducible refine gate_dst (N := 13) rfl ?_); refine Kd.R_lit (Kd.int .u8) _ 5 ?hg (N := 13) ?hd (xs := ([a0_0, a0_1, a0_2, a0_3, a0_4] : List Int)) (inner := [.int .u8 a0_0, .int .u8 a0_1, .int .u8 a0_2, .int .u8 a0_3, .int .u8 a0_4]) (ok := fun _ => True) (okp := fun _ => True) ?hr ?hp (fun _ hk => hk) trivial (Below.refl _ _) (Nat.le_refl _) (by simp) ?_; (case hd => rfl); (case hg => rfl); (case hr => first | (go_simp; done) | (go_simp; rfl)); (case hp => exact (Reps.one (show Kd.M (Kd.int .u8) _ _ _ a0_0 [.int .u8 a0_0] from rfl) (Reps.one (show Kd.M (Kd.int .u8) _ _ _ a0_1 [.int .u8 a0_1] from rfl) (Reps.one (show Kd.M (Kd.int .u8) _ _ _ a0_2 [.int .u8 a0_2] from rfl) (Reps.one (show Kd.M (Kd.int .u8) _ _ _ a0_3 [.int .u8 a0_3] from rfl) (Reps.one (show Kd.M (Kd.int .u8) _ _ _ a0_4 [.int .u8 a0_4] from rfl) (Reps.none _ _))))))); intro v104 w4 ho5 hb hg_ hnew_; clear hg_ hnew_; (first | rw [← Ny103.out] at ho5 | (simp only [Int.reduceToNat] at ho5; rw [← Ny103.out] at ho5)); have n0_ := Aside0.mk (Kd.R_lower ho5 (below_size (by repeat (first | (with_reducible first | exact HB.out | apply below_alloc | apply pw_below_drewN | apply below_drew1 | refine below_set ?_ GE102.out) | exact HB.out)))); have n1_ := Aside0.mk (blk_below (g := gb102) (o := .cells #[.int .u8 a0_0, .int .u8 a0_1, .int .u8 a0_2, .int .u8 a0_3, .int .u8 a0_4] 23 (0, 0)) (by (with_reducible repeat (first | refine blk_drewN ?_ _ | refine blk_drew ?_ | refine blk_alloc ?_ _)); exact BK102.out) hb); have n2_ := Aside0.mk (below_step (by repeat (first | (with_reducible first | exact HB.out | apply below_alloc | apply pw_below_drewN | apply below_drew1 | refine below_set ?_ GE102.out) | exact HB.out)) hb); clear BK102; clear HB; have HO105 := n0_; have BK102 := n1_; have HB := n2_; clear n0_ n1_ n2_; clear hb ho5))
  go_ret
  exact ⟨_, by first | rfl | (simp [errW_none, errW_some] <;> rfl) | (simp [*, errW_none, errW_some] <;> rfl), by (with_reducible repeat (first | apply Kd.R_alloc | apply Kd.R_drewN | apply Kd.R_drew)); exact HO105.out, by repeat (first | (with_reducible first | exact HB.out | apply below_alloc | apply pw_below_drewN | apply below_drew1 | refine below_set ?_ GE102.out) | exact HB.out)⟩

def delim_Right.l0 : Nat → List Int → List Int → Int → Int → Option (Bool)
  | 0, _, _, _, _ => none
  | k + 1, x3, x12, x13, x14 => if x14 < x13 then (if 0 ≤ x14 then (if x14 < (x12.length : Int) then (if (Go.bits .or .u8 (rd x12 x14) 32) ≥ 97 then (if (rd x12 x14) ≤ 32 then (some false) else (if (rd x12 x14) > 126 then (some false) else (if (Go.bits .or .u8 (rd x12 x14) 32) ≤ 122 then (some false) else (if (rd x12 x14) ≥ 48 then (if (rd x12 x14) ≤ 57 then (some false) else ((bytes_IndexByte.f x3 (rd x12 x14)).bind fun t116 => (if t116 < x14 then (some false) else (delim_Right.l0 k x3 x12 x13 (wrap64 (x14 + 1)))))) else ((bytes_IndexByte.f x3 (rd x12 x14)).bind fun t117 => (if t117 < x14 then (some false) else (delim_Right.l0 k x3 x12 x13 (wrap64 (x14 + 1))))))))) else (if (rd x12 x14) ≤ 32 then (some false) else (if (rd x12 x14) > 126 then (some false) else (if (rd x12 x14) ≥ 48 then (if (rd x12 x14) ≤ 57 then (some false) else ((bytes_IndexByte.f x3 (rd x12 x14)).bind fun t118 => (if t118 < x14 then (some false) else (delim_Right.l0 k x3 x12 x13 (wrap64 (x14 + 1)))))) else ((bytes_IndexByte.f x3 (rd x12 x14)).bind fun t119 => (if t119 < x14 then (some false) else (delim_Right.l0 k x3 x12 x13 (wrap64 (x14 + 1))))))))) else (none)) else (none)) else (some true)
def delim_Right.f (k : Nat) (a0_0 : Int) (a0_1 : Int) (a0_2 : Int) (a0_3 : Int) (a0_4 : Int) : Option (Bool) := (delim_Plain.f).bind fun bt107 => (if (a0_0 == bt107.1 && (a0_1 == bt107.2.1 && (a0_2 == bt107.2.2.1 && (a0_3 == bt107.2.2.2.1 && (a0_4 == bt107.2.2.2.2))))) = true then (some true) else ((delim_five.f a0_0 a0_1 a0_2 a0_3 a0_4).bind fun t112 => (delim_Right.l0 k t112 t112 (t112.length : Int) 0)))
theorem delim_Right.mono_l : ∀ k, (∀ y0 y1 y2 y3, LeO (delim_Right.l0 k y0 y1 y2 y3) (delim_Right.l0 (k + 1) y0 y1 y2 y3))
  | 0 => fun _ _ _ _ r h => by simp [delim_Right.l0] at h
  | k + 1 => by
    have ih0 := delim_Right.mono_l k
    · intro y0 y1 y2 y3
      unfold delim_Right.l0
      repeat' first
      | (with_reducible exact ih0 _ _ _ _)
      | (with_reducible exact LeO.refl _)
      | (with_reducible exact LeO.none _)
      | (with_reducible refine LeO.ite ?_ ?_)
      | (with_reducible refine LeO.bind ?_ (fun _ => ?_))
      | exact ih0 _ _ _ _
      | exact LeO.none _
      | refine LeO.ite ?_ ?_
      | refine LeO.bind ?_ (fun _ => ?_)
theorem delim_Right.mono : ∀ a0 a1 a2 a3 a4 k, LeO (delim_Right.f k a0 a1 a2 a3 a4) (delim_Right.f (k + 1) a0 a1 a2 a3 a4) := by
  intro a0 a1 a2 a3 a4 k
  have ih0 := delim_Right.mono_l k
  unfold delim_Right.f
  repeat' first
      | (with_reducible exact ih0 _ _ _ _)
      | (with_reducible exact LeO.refl _)
      | (with_reducible exact LeO.none _)
      | (with_reducible refine LeO.ite ?_ ?_)
      | (with_reducible refine LeO.bind ?_ (fun _ => ?_))
      | exact ih0 _ _ _ _
      | exact LeO.none _
      | refine LeO.ite ?_ ?_
      | refine LeO.bind ?_ (fun _ => ?_)
set_option maxHeartbeats 8000000 in
set_option maxRecDepth 100000 in
theorem delim_Right.calls (k : Nat) (a0_0 : Int) (a0_1 : Int) (a0_2 : Int) (a0_3 : Int) (a0_4 : Int) (r : Bool) (w : World) (h : delim_Right.f k a0_0 a0_1 a0_2 a0_3 a0_4 = some r) :
    Calls Tryd.prog 18 #[.agg #[.int .u8 a0_0, .int .u8 a0_1, .int .u8 a0_2, .int .u8 a0_3, .int .u8 a0_4]] w fun e w' => e = .returned (.bool r) ∧ Below w.heap.size w w' := by
  have hu23 := Tryd.underlying23
  have HB := Aside0.mk (Below.refl w.heap.size w)
  have H : ((delim_Plain.f).bind fun bt107 => (if (a0_0 == bt107.1 && (a0_1 == bt107.2.1 && (a0_2 == bt107.2.2.1 && (a0_3 == bt107.2.2.2.1 && (a0_4 == bt107.2.2.2.2))))) = true then (some true) else ((delim_five.f a0_0 a0_1 a0_2 a0_3 a0_4).bind fun t112 => (delim_Right.l0 k t112 t112 (t112.length : Int) 0)))) = some r := h
  clear h
  replace H := Option.bind_eq_some_iff.mp H
  obtain ⟨⟨t107, t108, t109, t110, t111⟩, A20, H⟩ := H
  replace H : (if (a0_0 == t107 && (a0_1 == t108 && (a0_2 == t109 && (a0_3 == t110 && (a0_4 == t111))))) = true then (some true) else ((delim_five.f a0_0 a0_1 a0_2 a0_3 a0_4).bind fun t112 => (delim_Right.l0 k t112 t112 (t112.length : Int) 0))) = some r := H
  have A2 := Aside0.mk A20
  clear A20
  by_cases c3 : (a0_0 == t107 && (a0_1 == t108 && (a0_2 == t109 && (a0_3 == t110 && (a0_4 == t111))))) = true
  · rw [if_pos c3] at H
    have c3b0 : (a0_0 == t107 && (a0_1 == t108 && (a0_2 == t109 && (a0_3 == t110 && (a0_4 == t111))))) = true := c3
    (try (have c3b1 : decide (a0_0 = t107 && (a0_1 == t108 && (a0_2 == t109 && (a0_3 == t110 && (a0_4 == t111))))) = true := by simpa using c3))
    (try (have c3b2 : (a0_0 == t107 && (a0_1 == t108 && (a0_2 == t109 && (a0_3 == t110 && (a0_4 == t111))))) = true := by simpa using c3))
    clear c3
    obtain rfl := Option.some.inj H
    go_enter Tryd.func18, Tryd.ntmps18
    try go_wp2_with (first | ((with_reducible refine gate_dst (N := 1) rfl ?_); refine box_event ?hg (N := 1) ?hd (cs := #[.int .u8 a0_0, .int .u8 a0_1, .int .u8 a0_2, .int .u8 a0_3, .int .u8 a0_4]) (t := 23) ?hr ?_; (case hd => rfl); (case hg => rfl); (case hr => first | (go_simp; done) | (go_simp; rfl)); intro gb106 hg w4 hbox hb; have n0_ := Aside0.mk (below_step (by repeat (first | (with_reducible first | exact HB.out | apply below_alloc | apply pw_below_drewN | apply below_drew1) | exact HB.out)) hb); have n1_ := Aside0.mk (hbox); have n2_ := Aside0.mk ((by rw [hg]; exact (below_size (by repeat (first | (with_reducible first | exact HB.out | apply below_alloc | apply pw_below_drewN | apply below_drew1) | exact HB.out))) : w.heap.size ≤ gb106)); have n3_ := Aside0.mk ((by rw [hg]; exact (below_size (by repeat (first | (with_reducible first | exact HB.out | apply below_alloc | apply pw_below_drewN | apply below_drew1) | exact HB.out))) : w.heap.size ≤ gb106)); clear HB; have HB := n0_; have BK106 := n1_; have GW106 := n2_; have GE106 := n3_; clear n0_ n1_ n2_ n3_; clear hb hbox hg))
    have n0_ := Aside0.mk (blk_drew BK106.out)
    have n1_ := Aside0.mk (below_drew1 HB.out)
    clear BK106
    clear HB
    have BK106 := n0_
    have HB := n1_
    clear n0_ n1_
    refine start_ (n := 3) (S := fun w' => w'.cell? ⟨gb106, 0, none⟩ = some (.int .u8 a0_0) ∧ w'.cell? ⟨gb106, 1, none⟩ = some (.int .u8 a0_1) ∧ w'.cell? ⟨gb106, 2, none⟩ = some (.int .u8 a0_2) ∧ w'.cell? ⟨gb106, 3, none⟩ = some (.int .u8 a0_3) ∧ w'.cell? ⟨gb106, 4, none⟩ = some (.int .u8 a0_4)) (ds := []) #[false, false, false] (by kernel_rfl) rfl rfl ⟨(blk_cell BK106.out 0).trans rfl, (blk_cell BK106.out 1).trans rfl, (blk_cell BK106.out 2).trans rfl, (blk_cell BK106.out 3).trans rfl, (blk_cell BK106.out 4).trans rfl⟩ (fun hHeld => ?_)
    generalize w4.drew = w5 at BK106 HB hHeld ⊢
    refine take_ (i := 0) (N := some 7) (v := ?_) (a' := ?_) #[true, false, false] rfl rfl (by kernel_rfl) (fun _ _ _ h => h) (Or.inl ⟨by rfl, ?_⟩) hHeld ?_ ?_
    rotate_left
    · rintro w' ⟨s0, s1, s2, s3, s4⟩
      go_simp
      with_reducible rfl
    rotate_left
    · simp only [Act.put, List.setIfInBounds_toArray, List.set_cons_zero, List.set_cons_succ, i64_w, i32_w]
      rfl
    refine one_ (i := 1) (N := some 8) #[true, true, false] rfl rfl (by kernel_rfl) (by decide) (fun K hK => ?_)
    refine goes_ Tryd.func39 (by kernel_rfl) rfl #[] (by rfl) rfl rfl (by (try simp only [List.map_toArray, List.map_cons, List.map_nil]); first | done | rfl | (simp only [List.length_drop, List.length_take]; rfl)) ?_
    with_reducible refine (delim_Plain.calls  t107 t108 t109 t110 t111 _ A2.out).mono ?_
    rintro e w6 ⟨rfl, hb⟩
    refine ⟨_, rfl, ?_⟩
    have n0_ := Aside0.mk (blk_below (g := gb106) (o := .cells #[.int .u8 a0_0, .int .u8 a0_1, .int .u8 a0_2, .int .u8 a0_3, .int .u8 a0_4] 23 (0, 0)) (by (with_reducible repeat (first | refine blk_drewN ?_ _ | refine blk_drew ?_ | refine blk_alloc ?_ _)); exact BK106.out) hb)
    have n1_ := Aside0.mk (below_step (by repeat (first | (with_reducible first | exact HB.out | apply below_alloc | apply pw_below_drewN | apply below_drew1 | refine below_set ?_ GE106.out) | exact HB.out)) hb)
    clear BK106
    clear HB
    have BK106 := n0_
    have HB := n1_
    clear n0_ n1_
    (try clear hb)
    (try clear hb2)
    (try clear hk)
    (try clear hi)
    refine hK.out _ _ ⟨(blk_cell BK106.out 0).trans rfl, (blk_cell BK106.out 1).trans rfl, (blk_cell BK106.out 2).trans rfl, (blk_cell BK106.out 3).trans rfl, (blk_cell BK106.out 4).trans rfl⟩ (fun hHeld => ?_)
    clear hK K
    refine norm_ (a' := ?_) ?_ ?_
    rotate_left
    · show Act.put _ (some 8) _ = _
      simp only [Act.put, List.setIfInBounds_toArray, List.set_cons_zero, List.set_cons_succ, i64_w, i32_w]
      rfl
    refine pure_ (i := 2) (N := some 9) (v := ?_) (a' := ?_) #[true, true, true] rfl rfl (by kernel_rfl) (fun _ _ _ h => h) (Or.inl ⟨by rfl, ?_⟩) ?_ ?_
    rotate_left
    · intro w'
      go_simp
      with_reducible rfl
    rotate_left
    · simp only [Act.put, List.setIfInBounds_toArray, List.set_cons_zero, List.set_cons_succ, i64_w, i32_w]
      rfl
    refine done_ (by kernel_rfl) ?_
    try go_wp2
    go_ret
    exact ⟨by first | rfl | (simp [errW_none, errW_some] <;> rfl) | (simp [*, errW_none, errW_some] <;> rfl), by repeat (first | (with_reducible first | exact HB.out | apply below_alloc | apply pw_below_drewN | apply below_drew1 | refine below_set ?_ GE106.out) | exact HB.out)⟩
  · rw [if_neg c3] at H
    have c3b0 : (a0_0 == t107 && (a0_1 == t108 && (a0_2 == t109 && (a0_3 == t110 && (a0_4 == t111))))) = false := by simpa using c3
    (try (have c3b1 : decide (a0_0 = t107 && (a0_1 == t108 && (a0_2 == t109 && (a0_3 == t110 && (a0_4 == t111))))) = false := by simpa using c3))
    (try (have c3b2 : (a0_0 == t107 && (a0_1 == t108 && (a0_2 == t109 && (a0_3 == t110 && (a0_4 == t111))))) = false := by simpa using c3))
    (try (have c3b3 : ¬ (a0_0 = t107 && (a0_1 == t108 && (a0_2 == t109 && (a0_3 == t110 && (a0_4 == t111))))) := by simpa using c3))
    clear c3
    replace H := Option.bind_eq_some_iff.mp H
    obtain ⟨t112, A70, H⟩ := H
    replace H : (delim_Right.l0 k t112 t112 (t112.length : Int) 0) = some r := H
    have A7 := Aside0.mk A70
    clear A70
    have H' := Aside0.mk H
    clear H
    go_enter Tryd.func18, Tryd.ntmps18
    try go_wp2_with (first | ((with_reducible refine gate_dst (N := 1) rfl ?_); refine box_event ?hg (N := 1) ?hd (cs := #[.int .u8 a0_0, .int .u8 a0_1, .int .u8 a0_2, .int .u8 a0_3, .int .u8 a0_4]) (t := 23) ?hr ?_; (case hd => rfl); (case hg => rfl); (case hr => first | (go_simp; done) | (go_simp; rfl)); intro gb106 hg w8 hbox hb; have n0_ := Aside0.mk (below_step (by repeat (first | (with_reducible first | exact HB.out | apply below_alloc | apply pw_below_drewN | apply below_drew1) | exact HB.out)) hb); have n1_ := Aside0.mk (hbox); have n2_ := Aside0.mk ((by rw [hg]; exact (below_size (by repeat (first | (with_reducible first | exact HB.out | apply below_alloc | apply pw_below_drewN | apply below_drew1) | exact HB.out))) : w.heap.size ≤ gb106)); have n3_ := Aside0.mk ((by rw [hg]; exact (below_size (by repeat (first | (with_reducible first | exact HB.out | apply below_alloc | apply pw_below_drewN | apply below_drew1) | exact HB.out))) : w.heap.size ≤ gb106)); clear HB; have HB := n0_; have BK106 := n1_; have GW106 := n2_; have GE106 := n3_; clear n0_ n1_ n2_ n3_; clear hb hbox hg))
    have n0_ := Aside0.mk (blk_drew BK106.out)
    have n1_ := Aside0.mk (below_drew1 HB.out)
    clear BK106
    clear HB
    have BK106 := n0_
    have HB := n1_
    clear n0_ n1_
    refine start_ (n := 3) (S := fun w' => w'.cell? ⟨gb106, 0, none⟩ = some (.int .u8 a0_0) ∧ w'.cell? ⟨gb106, 1, none⟩ = some (.int .u8 a0_1) ∧ w'.cell? ⟨gb106, 2, none⟩ = some (.int .u8 a0_2) ∧ w'.cell? ⟨gb106, 3, none⟩ = some (.int .u8 a0_3) ∧ w'.cell? ⟨gb106, 4, none⟩ = some (.int .u8 a0_4)) (ds := []) #[false, false, false] (by kernel_rfl) rfl rfl ⟨(blk_cell BK106.out 0).trans rfl, (blk_cell BK106.out 1).trans rfl, (blk_cell BK106.out 2).trans rfl, (blk_cell BK106.out 3).trans rfl, (blk_cell BK106.out 4).trans rfl⟩ (fun hHeld => ?_)
    generalize w8.drew = w9 at BK106 HB hHeld ⊢
    refine take_ (i := 0) (N := some 7) (v := ?_) (a' := ?_) #[true, false, false] rfl rfl (by kernel_rfl) (fun _ _ _ h => h) (Or.inl ⟨by rfl, ?_⟩) hHeld ?_ ?_
    rotate_left
    · rintro w' ⟨s0, s1, s2, s3, s4⟩
      go_simp
      with_reducible rfl
    rotate_left
    · simp only [Act.put, List.setIfInBounds_toArray, List.set_cons_zero, List.set_cons_succ, i64_w, i32_w]
      rfl
    refine one_ (i := 1) (N := some 8) #[true, true, false] rfl rfl (by kernel_rfl) (by decide) (fun K hK => ?_)
    refine goes_ Tryd.func39 (by kernel_rfl) rfl #[] (by rfl) rfl rfl (by (try simp only [List.map_toArray, List.map_cons, List.map_nil]); first | done | rfl | (simp only [List.length_drop, List.length_take]; rfl)) ?_
    with_reducible refine (delim_Plain.calls  t107 t108 t109 t110 t111 _ A2.out).mono ?_
    rintro e w10 ⟨rfl, hb⟩
    refine ⟨_, rfl, ?_⟩
    have n0_ := Aside0.mk (blk_below (g := gb106) (o := .cells #[.int .u8 a0_0, .int .u8 a0_1, .int .u8 a0_2, .int .u8 a0_3, .int .u8 a0_4] 23 (0, 0)) (by (with_reducible repeat (first | refine blk_drewN ?_ _ | refine blk_drew ?_ | refine blk_alloc ?_ _)); exact BK106.out) hb)
    have n1_ := Aside0.mk (below_step (by repeat (first | (with_reducible first | exact HB.out | apply below_alloc | apply pw_below_drewN | apply below_drew1 | refine below_set ?_ GE106.out) | exact HB.out)) hb)
    clear BK106
    clear HB
    have BK106 := n0_
    have HB := n1_
    clear n0_ n1_
    (try clear hb)
    (try clear hb2)
    (try clear hk)
    (try clear hi)
    refine hK.out _ _ ⟨(blk_cell BK106.out 0).trans rfl, (blk_cell BK106.out 1).trans rfl, (blk_cell BK106.out 2).trans rfl, (blk_cell BK106.out 3).trans rfl, (blk_cell BK106.out 4).trans rfl⟩ (fun hHeld => ?_)
    clear hK K
    refine norm_ (a' := ?_) ?_ ?_
    rotate_left
    · show Act.put _ (some 8) _ = _
      simp only [Act.put, List.setIfInBounds_toArray, List.set_cons_zero, List.set_cons_succ, i64_w, i32_w]
      rfl
    refine pure_ (i := 2) (N := some 9) (v := ?_) (a' := ?_) #[true, true, true] rfl rfl (by kernel_rfl) (fun _ _ _ h => h) (Or.inl ⟨by rfl, ?_⟩) ?_ ?_
    rotate_left
    · intro w'
      go_simp
      with_reducible rfl
    rotate_left
    · simp only [Act.put, List.setIfInBounds_toArray, List.set_cons_zero, List.set_cons_succ, i64_w, i32_w]
      rfl
    refine done_ (by kernel_rfl) ?_
    have hcz11_0 : w10.cell? ⟨gb106, 0, none⟩ = some (.int .u8 a0_0) := (blk_cell BK106.out 0).trans rfl
    have hcz11_1 : w10.cell? ⟨gb106, 1, none⟩ = some (.int .u8 a0_1) := (blk_cell BK106.out 1).trans rfl
    have hcz11_2 : w10.cell? ⟨gb106, 2, none⟩ = some (.int .u8 a0_2) := (blk_cell BK106.out 2).trans rfl
    have hcz11_3 : w10.cell? ⟨gb106, 3, none⟩ = some (.int .u8 a0_3) := (blk_cell BK106.out 3).trans rfl
    have hcz11_4 : w10.cell? ⟨gb106, 4, none⟩ = some (.int .u8 a0_4) := (blk_cell BK106.out 4).trans rfl
    have hfz11_0 := blk_frozen BK106.out 0
    have hfz11_1 := blk_frozen BK106.out 1
    have hfz11_2 := blk_frozen BK106.out 2
    have hfz11_3 := blk_frozen BK106.out 3
    have hfz11_4 := blk_frozen BK106.out 4
    try go_wp2_with (first | ((with_reducible refine gate_callee (f := 40) rfl ?_); refine goesL_ (some 11) rfl rfl Tryd.func40 (by kernel_rfl) rfl #[.agg #[.int .u8 a0_0, .int .u8 a0_1, .int .u8 a0_2, .int .u8 a0_3, .int .u8 a0_4]] rfl (by (try simp only [List.map_toArray, List.map_cons, List.map_nil]); first | done | rfl | (simp only [List.length_drop, List.length_take]; rfl)) ?_; (with_reducible refine (delim_five.calls a0_0 a0_1 a0_2 a0_3 a0_4 t112 _ A7.out).mono ?_); rintro e w12 ⟨v113, rfl, ho0, hb⟩; refine ⟨_, rfl, ?_⟩; have n0_ := Aside0.mk (Kd.R_lower ho0 (below_size (by repeat (first | (with_reducible first | exact HB.out | apply below_alloc | apply pw_below_drewN | apply below_drew1 | refine below_set ?_ GE106.out) | exact HB.out)))); have n1_ := Aside0.mk (blk_below (g := gb106) (o := .cells #[.int .u8 a0_0, .int .u8 a0_1, .int .u8 a0_2, .int .u8 a0_3, .int .u8 a0_4] 23 (0, 0)) (by (with_reducible repeat (first | refine blk_drewN ?_ _ | refine blk_drew ?_ | refine blk_alloc ?_ _)); exact BK106.out) hb); have n2_ := Aside0.mk (below_step (by repeat (first | (with_reducible first | exact HB.out | apply below_alloc | apply pw_below_drewN | apply below_drew1 | refine below_set ?_ GE106.out) | exact HB.out)) hb); clear BK106; clear HB; have HO114 := n0_; have BK106 := n1_; have HB := n2_; clear n0_ n1_ n2_; (try clear hb); (try clear hb2); (try clear hk); (try clear hi); (try clear ho0); obtain ⟨Ao13, co13, eo13⟩ := Kd.R_slice HO114.out; subst eo13))
    go_loopg [14] k (fun kq v14 w' => ∃ (x14_1 : Int), v14 = .int .i64 x14_1 ∧ Aside0 (delim_Right.l0 kq t112 t112 (t112.length : Int) x14_1 = some r) ∧ Aside0 (kq ≤ k) ∧ Aside0 (Kd.R (Kd.int .u8) 5 w' w.heap.size (fun _ => True) (.slice Ao13 t112.length co13) t112) ∧ Aside0 (Kd.R (Kd.int .u8) 5 w' w.heap.size (fun _ => True) (.slice Ao13 t112.length co13) t112) ∧ Aside0 (w'.heap[gb106]? = some (.cells #[.int .u8 a0_0, .int .u8 a0_1, .int .u8 a0_2, .int .u8 a0_3, .int .u8 a0_4] 23 (0, 0))) ∧ Aside0 (Below w.heap.size w w'))
    case atStart => exact ⟨(0), (by first | rfl | (simp; done) | (simp [*]; done)), H', ⟨Nat.le_refl _⟩, ⟨by (with_reducible repeat (first | apply Kd.R_alloc | apply Kd.R_drewN | apply Kd.R_drew)); exact HO114.out⟩, ⟨by (with_reducible repeat (first | apply Kd.R_alloc | apply Kd.R_drewN | apply Kd.R_drew)); exact HO114.out⟩, ⟨by (with_reducible repeat (first | refine blk_drewN ?_ _ | refine blk_drew ?_ | refine blk_alloc ?_ _)); exact BK106.out⟩, ⟨by repeat (first | (with_reducible first | exact HB.out | apply below_alloc | apply pw_below_drewN | apply below_drew1 | refine below_set ?_ GE106.out) | exact HB.out)⟩⟩
    case round =>
      clear H'
      try clear c1
      try clear p2
      try clear c3
      try clear c3b0
      try clear c3b1
      try clear c3b2
      try clear c4
      try clear hcz11_0
      try clear hcz11_1
      try clear hcz11_2
      try clear hcz11_3
      try clear hcz11_4
      try clear hfz11_0
      try clear hfz11_1
      try clear hfz11_2
      try clear hfz11_3
      try clear hfz11_4
      obtain ⟨x14_1, rfl, HA, HK1, HO_3, HO_12, BK106, HB⟩ := hrel
      cases gk with
      | zero => exact absurd HA.out (by simp [delim_Right.l0])
      | succ k1 =>
        have H := HA.out
        clear HA
        simp only [delim_Right.l0] at H
        by_cases c14 : x14_1 < (t112.length : Int)
        · rw [if_pos c14] at H
          have c14b0 : decide (x14_1 < (t112.length : Int)) = true := decide_eq_true c14
          clear c14
          by_cases c15 : 0 ≤ x14_1
          · rw [if_pos c15] at H
            have c15b0 : decide (0 ≤ x14_1) = true := decide_eq_true c15
            clear c15
            by_cases c16 : x14_1 < (t112.length : Int)
            · rw [if_pos c16] at H
              have c16b0 : decide (x14_1 < (t112.length : Int)) = true := decide_eq_true c16
              clear c16
              by_cases c17 : (Go.bits .or .u8 (rd t112 x14_1) 32) ≥ 97
              · rw [if_pos c17] at H
                have c17b0 : decide (97 ≤ (Go.bits .or .u8 (rd t112 x14_1) 32)) = true := decide_eq_true c17
                clear c17
                by_cases c18 : (rd t112 x14_1) ≤ 32
                · rw [if_pos c18] at H
                  have c18b0 : decide ((rd t112 x14_1) ≤ 32) = true := decide_eq_true c18
                  clear c18
                  obtain rfl := Option.some.inj H
                  have p115 : 0 ≤ (x14_1 : Int) := of_decide_eq_true (by first | (with_reducible assumption) | assumption)
                  have q115 : x14_1 < (t112.length : Int) := of_decide_eq_true (by first | (with_reducible assumption) | assumption)
                  obtain ⟨ad115, e115, hx115_0⟩ := Kd.at_int (Kd.R_reads' HO_12.out).2.2 x14_1 p115 q115
                  cases e115
                  replace p115 := eq_true p115
                  replace q115 := eq_true q115
                  go_wp2
                  go_ret
                  exact ⟨by first | rfl | (simp [errW_none, errW_some] <;> rfl) | (simp [*, errW_none, errW_some] <;> rfl), by repeat (first | (with_reducible first | exact HB.out | apply below_alloc | apply pw_below_drewN | apply below_drew1 | refine below_set ?_ GE106.out) | exact HB.out)⟩
                · rw [if_neg c18] at H
                  have c18b0 : decide ((rd t112 x14_1) ≤ 32) = false := decide_eq_false c18
                  clear c18
                  by_cases c19 : (rd t112 x14_1) > 126
                  · rw [if_pos c19] at H
                    have c19b0 : decide (126 < (rd t112 x14_1)) = true := decide_eq_true c19
                    clear c19
                    obtain rfl := Option.some.inj H
                    have p115 : 0 ≤ (x14_1 : Int) := of_decide_eq_true (by first | (with_reducible assumption) | assumption)
                    have q115 : x14_1 < (t112.length : Int) := of_decide_eq_true (by first | (with_reducible assumption) | assumption)
                    obtain ⟨ad115, e115, hx115_0⟩ := Kd.at_int (Kd.R_reads' HO_12.out).2.2 x14_1 p115 q115
                    cases e115
                    replace p115 := eq_true p115
                    replace q115 := eq_true q115
                    go_wp2
                    go_ret
                    exact ⟨by first | rfl | (simp [errW_none, errW_some] <;> rfl) | (simp [*, errW_none, errW_some] <;> rfl), by repeat (first | (with_reducible first | exact HB.out | apply below_alloc | apply pw_below_drewN | apply below_drew1 | refine below_set ?_ GE106.out) | exact HB.out)⟩
                  · rw [if_neg c19] at H
                    have c19b0 : decide (126 < (rd t112 x14_1)) = false := decide_eq_false c19
                    clear c19
                    by_cases c20 : (Go.bits .or .u8 (rd t112 x14_1) 32) ≤ 122
                    · rw [if_pos c20] at H
                      have c20b0 : decide ((Go.bits .or .u8 (rd t112 x14_1) 32) ≤ 122) = true := decide_eq_true c20
                      clear c20
                      obtain rfl := Option.some.inj H
                      have p115 : 0 ≤ (x14_1 : Int) := of_decide_eq_true (by first | (with_reducible assumption) | assumption)
                      have q115 : x14_1 < (t112.length : Int) := of_decide_eq_true (by first | (with_reducible assumption) | assumption)
                      obtain ⟨ad115, e115, hx115_0⟩ := Kd.at_int (Kd.R_reads' HO_12.out).2.2 x14_1 p115 q115
                      cases e115
                      replace p115 := eq_true p115
                      replace q115 := eq_true q115
                      go_wp2
                      go_ret
                      exact ⟨by first | rfl | (simp [errW_none, errW_some] <;> rfl) | (simp [*, errW_none, errW_some] <;> rfl), by repeat (first | (with_reducible first | exact HB.out | apply below_alloc | apply pw_below_drewN | apply below_drew1 | refine below_set ?_ GE106.out) | exact HB.out)⟩
                    · rw [if_neg c20] at H
                      have c20b0 : decide ((Go.bits .or .u8 (rd t112 x14_1) 32) ≤ 122) = false := decide_eq_false c20
                      clear c20
                      by_cases c21 : (rd t112 x14_1) ≥ 48
                      · rw [if_pos c21] at H
                        have c21b0 : decide (48 ≤ (rd t112 x14_1)) = true := decide_eq_true c21
                        clear c21
                        by_cases c22 : (rd t112 x14_1) ≤ 57
                        · rw [if_pos c22] at H
                          have c22b0 : decide ((rd t112 x14_1) ≤ 57) = true := decide_eq_true c22
                          clear c22
                          obtain rfl := Option.some.inj H
                          have p115 : 0 ≤ (x14_1 : Int) := of_decide_eq_true (by first | (with_reducible assumption) | assumption)
                          have q115 : x14_1 < (t112.length : Int) := of_decide_eq_true (by first | (with_reducible assumption) | assumption)
                          obtain ⟨ad115, e115, hx115_0⟩ := Kd.at_int (Kd.R_reads' HO_12.out).2.2 x14_1 p115 q115
                          cases e115
                          replace p115 := eq_true p115
                          replace q115 := eq_true q115
                          go_wp2
                          go_ret
                          exact ⟨by first | rfl | (simp [errW_none, errW_some] <;> rfl) | (simp [*, errW_none, errW_some] <;> rfl), by repeat (first | (with_reducible first | exact HB.out | apply below_alloc | apply pw_below_drewN | apply below_drew1 | refine below_set ?_ GE106.out) | exact HB.out)⟩
                        · rw [if_neg c22] at H
                          have c22b0 : decide ((rd t112 x14_1) ≤ 57) = false := decide_eq_false c22
                          clear c22
                          replace H := Option.bind_eq_some_iff.mp H
                          obtain ⟨t116, A230, H⟩ := H
                          replace H : (if t116 < x14_1 then (some false) else (delim_Right.l0 k1 t112 t112 (t112.length : Int) (wrap64 (x14_1 + 1)))) = some r := H
                          have A23 := Aside0.mk A230
                          clear A230
                          by_cases c24 : t116 < x14_1
                          · rw [if_pos c24] at H
                            have c24b0 : decide (t116 < x14_1) = true := decide_eq_true c24
                            clear c24
                            obtain rfl := Option.some.inj H
                            have p115 : 0 ≤ (x14_1 : Int) := of_decide_eq_true (by first | (with_reducible assumption) | assumption)
                            have q115 : x14_1 < (t112.length : Int) := of_decide_eq_true (by first | (with_reducible assumption) | assumption)
                            obtain ⟨ad115, e115, hx115_0⟩ := Kd.at_int (Kd.R_reads' HO_12.out).2.2 x14_1 p115 q115
                            cases e115
                            replace p115 := eq_true p115
                            replace q115 := eq_true q115
                            go_wp2_with (first | (go_at_call 25; (with_reducible refine (bytes_IndexByte.calls _ _ t112 (rd t112 x14_1) t116 _ ?side1 ?side2 A23.out).mono ?_); (case side1 => repeat (first | exact (Kd.R_reads' HO_3.out).2.2 | (with_reducible refine Kd.C_alloc ?_ _) | (with_reducible refine Kd.C_drewN ?_ _) | (with_reducible refine Kd.C_drew ?_))); (case side2 => exact (Kd.R_reads' HO_3.out).2.1); rintro e w' ⟨rfl, ⟨nd, rfl⟩⟩))
                            go_ret
                            exact ⟨by first | rfl | (simp [errW_none, errW_some] <;> rfl) | (simp [*, errW_none, errW_some] <;> rfl), by repeat (first | (with_reducible first | exact HB.out | apply below_alloc | apply pw_below_drewN | apply below_drew1 | refine below_set ?_ GE106.out) | exact HB.out)⟩
                          · rw [if_neg c24] at H
                            have c24b0 : decide (t116 < x14_1) = false := decide_eq_false c24
                            clear c24
                            have H' := Aside0.mk H
                            clear H
                            have p115 : 0 ≤ (x14_1 : Int) := of_decide_eq_true (by first | (with_reducible assumption) | assumption)
                            have q115 : x14_1 < (t112.length : Int) := of_decide_eq_true (by first | (with_reducible assumption) | assumption)
                            obtain ⟨ad115, e115, hx115_0⟩ := Kd.at_int (Kd.R_reads' HO_12.out).2.2 x14_1 p115 q115
                            cases e115
                            replace p115 := eq_true p115
                            replace q115 := eq_true q115
                            go_wp2_with (first | (go_at_call 25; (with_reducible refine (bytes_IndexByte.calls _ _ t112 (rd t112 x14_1) t116 _ ?side1 ?side2 A23.out).mono ?_); (case side1 => repeat (first | exact (Kd.R_reads' HO_3.out).2.2 | (with_reducible refine Kd.C_alloc ?_ _) | (with_reducible refine Kd.C_drewN ?_ _) | (with_reducible refine Kd.C_drew ?_))); (case side2 => exact (Kd.R_reads' HO_3.out).2.1); rintro e w' ⟨rfl, ⟨nd, rfl⟩⟩))
                            go_roundg k1
                            case measure => have := HK1.out; omega
                            case rel => exact ⟨(wrap64 (x14_1 + 1)), (by first | rfl | (simp; done) | (simp [*]; done)), H', ⟨by have := HK1.out; omega⟩, ⟨by (with_reducible repeat (first | apply Kd.R_alloc | apply Kd.R_drewN | apply Kd.R_drew)); exact HO_3.out⟩, ⟨by (with_reducible repeat (first | apply Kd.R_alloc | apply Kd.R_drewN | apply Kd.R_drew)); exact HO_12.out⟩, ⟨by (with_reducible repeat (first | refine blk_drewN ?_ _ | refine blk_drew ?_ | refine blk_alloc ?_ _)); exact BK106.out⟩, ⟨by repeat (first | (with_reducible first | exact HB.out | apply below_alloc | apply pw_below_drewN | apply below_drew1 | refine below_set ?_ GE106.out) | exact HB.out)⟩⟩
                      · rw [if_neg c21] at H
                        have c21b0 : decide (48 ≤ (rd t112 x14_1)) = false := decide_eq_false c21
                        clear c21
                        replace H := Option.bind_eq_some_iff.mp H
                        obtain ⟨t117, A250, H⟩ := H
                        replace H : (if t117 < x14_1 then (some false) else (delim_Right.l0 k1 t112 t112 (t112.length : Int) (wrap64 (x14_1 + 1)))) = some r := H
                        have A25 := Aside0.mk A250
                        clear A250
                        by_cases c26 : t117 < x14_1
                        · rw [if_pos c26] at H
                          have c26b0 : decide (t117 < x14_1) = true := decide_eq_true c26
                          clear c26
                          obtain rfl := Option.some.inj H
                          have p115 : 0 ≤ (x14_1 : Int) := of_decide_eq_true (by first | (with_reducible assumption) | assumption)
                          have q115 : x14_1 < (t112.length : Int) := of_decide_eq_true (by first | (with_reducible assumption) | assumption)
                          obtain ⟨ad115, e115, hx115_0⟩ := Kd.at_int (Kd.R_reads' HO_12.out).2.2 x14_1 p115 q115
                          cases e115
                          replace p115 := eq_true p115
                          replace q115 := eq_true q115
                          go_wp2_with (first | (go_at_call 25; (with_reducible refine (bytes_IndexByte.calls _ _ t112 (rd t112 x14_1) t117 _ ?side1 ?side2 A25.out).mono ?_); (case side1 => repeat (first | exact (Kd.R_reads' HO_3.out).2.2 | (with_reducible refine Kd.C_alloc ?_ _) | (with_reducible refine Kd.C_drewN ?_ _) | (with_reducible refine Kd.C_drew ?_))); (case side2 => exact (Kd.R_reads' HO_3.out).2.1); rintro e w' ⟨rfl, ⟨nd, rfl⟩⟩))
                          go_ret
                          exact ⟨by first | rfl | (simp [errW_none, errW_some] <;> rfl) | (simp [*, errW_none, errW_some] <;> rfl), by repeat (first | (with_reducible first | exact HB.out | apply below_alloc | apply pw_below_drewN | apply below_drew1 | refine below_set ?_ GE106.out) | exact HB.out)⟩
                        · rw [if_neg c26] at H
                          have c26b0 : decide (t117 < x14_1) = false := decide_eq_false c26
                          clear c26
                          have H' := Aside0.mk H
                          clear H
                          have p115 : 0 ≤ (x14_1 : Int) := of_decide_eq_true (by first | (with_reducible assumption) | assumption)
                          have q115 : x14_1 < (t112.length : Int) := of_decide_eq_true (by first | (with_reducible assumption) | assumption)
                          obtain ⟨ad115, e115, hx115_0⟩ := Kd.at_int (Kd.R_reads' HO_12.out).2.2 x14_1 p115 q115
                          cases e115
                          replace p115 := eq_true p115
                          replace q115 := eq_true q115
                          go_wp2_with (first | (go_at_call 25; (with_reducible refine (bytes_IndexByte.calls _ _ t112 (rd t112 x14_1) t117 _ ?side1 ?side2 A25.out).mono ?_); (case side1 => repeat (first | exact (Kd.R_reads' HO_3.out).2.2 | (with_reducible refine Kd.C_alloc ?_ _) | (with_reducible refine Kd.C_drewN ?_ _) | (with_reducible refine Kd.C_drew ?_))); (case side2 => exact (Kd.R_reads' HO_3.out).2.1); rintro e w' ⟨rfl, ⟨nd, rfl⟩⟩))
                          go_roundg k1
                          case measure => have := HK1.out; omega
                          case rel => exact ⟨(wrap64 (x14_1 + 1)), (by first | rfl | (simp; done) | (simp [*]; done)), H', ⟨by have := HK1.out; omega⟩, ⟨by (with_reducible repeat (first | apply Kd.R_alloc | apply Kd.R_drewN | apply Kd.R_drew)); exact HO_3.out⟩, ⟨by (with_reducible repeat (first | apply Kd.R_alloc | apply Kd.R_drewN | apply Kd.R_drew)); exact HO_12.out⟩, ⟨by (with_reducible repeat (first | refine blk_drewN ?_ _ | refine blk_drew ?_ | refine blk_alloc ?_ _)); exact BK106.out⟩, ⟨by repeat (first | (with_reducible first | exact HB.out | apply below_alloc | apply pw_below_drewN | apply below_drew1 | refine below_set ?_ GE106.out) | exact HB.out)⟩⟩
              · rw [if_neg c17] at H
                have c17b0 : decide (97 ≤ (Go.bits .or .u8 (rd t112 x14_1) 32)) = false := decide_eq_false c17
                clear c17
                by_cases c27 : (rd t112 x14_1) ≤ 32
                · rw [if_pos c27] at H
                  have c27b0 : decide ((rd t112 x14_1) ≤ 32) = true := decide_eq_true c27
                  clear c27
                  obtain rfl := Option.some.inj H
                  have p115 : 0 ≤ (x14_1 : Int) := of_decide_eq_true (by first | (with_reducible assumption) | assumption)
                  have q115 : x14_1 < (t112.length : Int) := of_decide_eq_true (by first | (with_reducible assumption) | assumption)
                  obtain ⟨ad115, e115, hx115_0⟩ := Kd.at_int (Kd.R_reads' HO_12.out).2.2 x14_1 p115 q115
                  cases e115
                  replace p115 := eq_true p115
                  replace q115 := eq_true q115
                  go_wp2
                  go_ret
                  exact ⟨by first | rfl | (simp [errW_none, errW_some] <;> rfl) | (simp [*, errW_none, errW_some] <;> rfl), by repeat (first | (with_reducible first | exact HB.out | apply below_alloc | apply pw_below_drewN | apply below_drew1 | refine below_set ?_ GE106.out) | exact HB.out)⟩
                · rw [if_neg c27] at H
                  have c27b0 : decide ((rd t112 x14_1) ≤ 32) = false := decide_eq_false c27
                  clear c27
                  by_cases c28 : (rd t112 x14_1) > 126
                  · rw [if_pos c28] at H
                    have c28b0 : decide (126 < (rd t112 x14_1)) = true := decide_eq_true c28
                    clear c28
                    obtain rfl := Option.some.inj H
                    have p115 : 0 ≤ (x14_1 : Int) := of_decide_eq_true (by first | (with_reducible assumption) | assumption)
                    have q115 : x14_1 < (t112.length : Int) := of_decide_eq_true (by first | (with_reducible assumption) | assumption)
                    obtain ⟨ad115, e115, hx115_0⟩ := Kd.at_int (Kd.R_reads' HO_12.out).2.2 x14_1 p115 q115
                    cases e115
                    replace p115 := eq_true p115
                    replace q115 := eq_true q115
                    go_wp2
                    go_ret
                    exact ⟨by first | rfl | (simp [errW_none, errW_some] <;> rfl) | (simp [*, errW_none, errW_some] <;> rfl), by repeat (first | (with_reducible first | exact HB.out | apply below_alloc | apply pw_below_drewN | apply below_drew1 | refine below_set ?_ GE106.out) | exact HB.out)⟩
                  · rw [if_neg c28] at H
                    have c28b0 : decide (126 < (rd t112 x14_1)) = false := decide_eq_false c28
                    clear c28
                    by_cases c29 : (rd t112 x14_1) ≥ 48
                    · rw [if_pos c29] at H
                      have c29b0 : decide (48 ≤ (rd t112 x14_1)) = true := decide_eq_true c29
                      clear c29
                      by_cases c30 : (rd t112 x14_1) ≤ 57
                      · rw [if_pos c30] at H
                        have c30b0 : decide ((rd t112 x14_1) ≤ 57) = true := decide_eq_true c30
                        clear c30
                        obtain rfl := Option.some.inj H
                        have p115 : 0 ≤ (x14_1 : Int) := of_decide_eq_true (by first | (with_reducible assumption) | assumption)
                        have q115 : x14_1 < (t112.length : Int) := of_decide_eq_true (by first | (with_reducible assumption) | assumption)
                        obtain ⟨ad115, e115, hx115_0⟩ := Kd.at_int (Kd.R_reads' HO_12.out).2.2 x14_1 p115 q115
                        cases e115
                        replace p115 := eq_true p115
                        replace q115 := eq_true q115
                        go_wp2
                        go_ret
                        exact ⟨by first | rfl | (simp [errW_none, errW_some] <;> rfl) | (simp [*, errW_none, errW_some] <;> rfl), by repeat (first | (with_reducible first | exact HB.out | apply below_alloc | apply pw_below_drewN | apply below_drew1 | refine below_set ?_ GE106.out) | exact HB.out)⟩
                      · rw [if_neg c30] at H
                        have c30b0 : decide ((rd t112 x14_1) ≤ 57) = false := decide_eq_false c30
                        clear c30
                        replace H := Option.bind_eq_some_iff.mp H
                        obtain ⟨t118, A310, H⟩ := H
                        replace H : (if t118 < x14_1 then (some false) else (delim_Right.l0 k1 t112 t112 (t112.length : Int) (wrap64 (x14_1 + 1)))) = some r := H
                        have A31 := Aside0.mk A310
                        clear A310
                        by_cases c32 : t118 < x14_1
                        · rw [if_pos c32] at H
                          have c32b0 : decide (t118 < x14_1) = true := decide_eq_true c32
                          clear c32
                          obtain rfl := Option.some.inj H
                          have p115 : 0 ≤ (x14_1 : Int) := of_decide_eq_true (by first | (with_reducible assumption) | assumption)
                          have q115 : x14_1 < (t112.length : Int) := of_decide_eq_true (by first | (with_reducible assumption) | assumption)
                          obtain ⟨ad115, e115, hx115_0⟩ := Kd.at_int (Kd.R_reads' HO_12.out).2.2 x14_1 p115 q115
                          cases e115
                          replace p115 := eq_true p115
                          replace q115 := eq_true q115
                          go_wp2_with (first | (go_at_call 25; (with_reducible refine (bytes_IndexByte.calls _ _ t112 (rd t112 x14_1) t118 _ ?side1 ?side2 A31.out).mono ?_); (case side1 => repeat (first | exact (Kd.R_reads' HO_3.out).2.2 | (with_reducible refine Kd.C_alloc ?_ _) | (with_reducible refine Kd.C_drewN ?_ _) | (with_reducible refine Kd.C_drew ?_))); (case side2 => exact (Kd.R_reads' HO_3.out).2.1); rintro e w' ⟨rfl, ⟨nd, rfl⟩⟩))
                          go_ret
                          exact ⟨by first | rfl | (simp [errW_none, errW_some] <;> rfl) | (simp [*, errW_none, errW_some] <;> rfl), by repeat (first | (with_reducible first | exact HB.out | apply below_alloc | apply pw_below_drewN | apply below_drew1 | refine below_set ?_ GE106.out) | exact HB.out)⟩
                        · rw [if_neg c32] at H
                          have c32b0 : decide (t118 < x14_1) = false := decide_eq_false c32
                          clear c32
                          have H' := Aside0.mk H
                          clear H
                          have p115 : 0 ≤ (x14_1 : Int) := of_decide_eq_true (by first | (with_reducible assumption) | assumption)
                          have q115 : x14_1 < (t112.length : Int) := of_decide_eq_true (by first | (with_reducible assumption) | assumption)
                          obtain ⟨ad115, e115, hx115_0⟩ := Kd.at_int (Kd.R_reads' HO_12.out).2.2 x14_1 p115 q115
                          cases e115
                          replace p115 := eq_true p115
                          replace q115 := eq_true q115
                          go_wp2_with (first | (go_at_call 25; (with_reducible refine (bytes_IndexByte.calls _ _ t112 (rd t112 x14_1) t118 _ ?side1 ?side2 A31.out).mono ?_); (case side1 => repeat (first | exact (Kd.R_reads' HO_3.out).2.2 | (with_reducible refine Kd.C_alloc ?_ _) | (with_reducible refine Kd.C_drewN ?_ _) | (with_reducible refine Kd.C_drew ?_))); (case side2 => exact (Kd.R_reads' HO_3.out).2.1); rintro e w' ⟨rfl, ⟨nd, rfl⟩⟩))
                          go_roundg k1
                          case measure => have := HK1.out; omega
                          case rel => exact ⟨(wrap64 (x14_1 + 1)), (by first | rfl | (simp; done) | (simp [*]; done)), H', ⟨by have := HK1.out; omega⟩, ⟨by (with_reducible repeat (first | apply Kd.R_alloc | apply Kd.R_drewN | apply Kd.R_drew)); exact HO_3.out⟩, ⟨by (with_reducible repeat (first | apply Kd.R_alloc | apply Kd.R_drewN | apply Kd.R_drew)); exact HO_12.out⟩, ⟨by (with_reducible repeat (first | refine blk_drewN ?_ _ | refine blk_drew ?_ | refine blk_alloc ?_ _)); exact BK106.out⟩, ⟨by repeat (first | (with_reducible first | exact HB.out | apply below_alloc | apply pw_below_drewN | apply below_drew1 | refine below_set ?_ GE106.out) | exact HB.out)⟩⟩
                    · rw [if_neg c29] at H
                      have c29b0 : decide (48 ≤ (rd t112 x14_1)) = false := decide_eq_false c29
                      clear c29
                      replace H := Option.bind_eq_some_iff.mp H
                      obtain ⟨t119, A330, H⟩ := H
                      replace H : (if t119 < x14_1 then (some false) else (delim_Right.l0 k1 t112 t112 (t112.length : Int) (wrap64 (x14_1 + 1)))) = some r := H
                      have A33 := Aside0.mk A330
                      clear A330
                      by_cases c34 : t119 < x14_1
                      · rw [if_pos c34] at H
                        have c34b0 : decide (t119 < x14_1) = true := decide_eq_true c34
                        clear c34
                        obtain rfl := Option.some.inj H
                        have p115 : 0 ≤ (x14_1 : Int) := of_decide_eq_true (by first | (with_reducible assumption) | assumption)
                        have q115 : x14_1 < (t112.length : Int) := of_decide_eq_true (by first | (with_reducible assumption) | assumption)
                        obtain ⟨ad115, e115, hx115_0⟩ := Kd.at_int (Kd.R_reads' HO_12.out).2.2 x14_1 p115 q115
                        cases e115
                        replace p115 := eq_true p115
                        replace q115 := eq_true q115
                        go_wp2_with (first | (go_at_call 25; (with_reducible refine (bytes_IndexByte.calls _ _ t112 (rd t112 x14_1) t119 _ ?side1 ?side2 A33.out).mono ?_); (case side1 => repeat (first | exact (Kd.R_reads' HO_3.out).2.2 | (with_reducible refine Kd.C_alloc ?_ _) | (with_reducible refine Kd.C_drewN ?_ _) | (with_reducible refine Kd.C_drew ?_))); (case side2 => exact (Kd.R_reads' HO_3.out).2.1); rintro e w' ⟨rfl, ⟨nd, rfl⟩⟩))
                        go_ret
                        exact ⟨by first | rfl | (simp [errW_none, errW_some] <;> rfl) | (simp [*, errW_none, errW_some] <;> rfl), by repeat (first | (with_reducible first | exact HB.out | apply below_alloc | apply pw_below_drewN | apply below_drew1 | refine below_set ?_ GE106.out) | exact HB.out)⟩
                      · rw [if_neg c34] at H
                        have c34b0 : decide (t119 < x14_1) = false := decide_eq_false c34
                        clear c34
                        have H' := Aside0.mk H
                        clear H
                        have p115 : 0 ≤ (x14_1 : Int) := of_decide_eq_true (by first | (with_reducible assumption) | assumption)
                        have q115 : x14_1 < (t112.length : Int) := of_decide_eq_true (by first | (with_reducible assumption) | assumption)
                        obtain ⟨ad115, e115, hx115_0⟩ := Kd.at_int (Kd.R_reads' HO_12.out).2.2 x14_1 p115 q115
                        cases e115
                        replace p115 := eq_true p115
                        replace q115 := eq_true q115
                        go_wp2_with (first | (go_at_call 25; (with_reducible refine (bytes_IndexByte.calls _ _ t112 (rd t112 x14_1) t119 _ ?side1 ?side2 A33.out).mono ?_); (case side1 => repeat (first | exact (Kd.R_reads' HO_3.out).2.2 | (with_reducible refine Kd.C_alloc ?_ _) | (with_reducible refine Kd.C_drewN ?_ _) | (with_reducible refine Kd.C_drew ?_))); (case side2 => exact (Kd.R_reads' HO_3.out).2.1); rintro e w' ⟨rfl, ⟨nd, rfl⟩⟩))
                        go_roundg k1
                        case measure => have := HK1.out; omega
                        case rel => exact ⟨(wrap64 (x14_1 + 1)), (by first | rfl | (simp; done) | (simp [*]; done)), H', ⟨by have := HK1.out; omega⟩, ⟨by (with_reducible repeat (first | apply Kd.R_alloc | apply Kd.R_drewN | apply Kd.R_drew)); exact HO_3.out⟩, ⟨by (with_reducible repeat (first | apply Kd.R_alloc | apply Kd.R_drewN | apply Kd.R_drew)); exact HO_12.out⟩, ⟨by (with_reducible repeat (first | refine blk_drewN ?_ _ | refine blk_drew ?_ | refine blk_alloc ?_ _)); exact BK106.out⟩, ⟨by repeat (first | (with_reducible first | exact HB.out | apply below_alloc | apply pw_below_drewN | apply below_drew1 | refine below_set ?_ GE106.out) | exact HB.out)⟩⟩
            · rw [if_neg c16] at H
              exact absurd H (by simp)
          · rw [if_neg c15] at H
            exact absurd H (by simp)
        · rw [if_neg c14] at H
          have c14b0 : decide (x14_1 < (t112.length : Int)) = false := decide_eq_false c14
          clear c14
          obtain rfl := Option.some.inj H
          go_wp2
          go_ret
          exact ⟨by first | rfl | (simp [errW_none, errW_some] <;> rfl) | (simp [*, errW_none, errW_some] <;> rfl), by repeat (first | (with_reducible first | exact HB.out | apply below_alloc | apply pw_below_drewN | apply below_drew1 | refine below_set ?_ GE106.out) | exact HB.out)⟩

end Go.Proofs.YtciagecaegoppaaDoor.QRight
end
section
namespace Go.Proofs.YtciagecaegoppaaDoor
set_option linter.unusedVariables false
set_option maxRecDepth 100000
open Go.RowKit Go.Proofs.YtciagecaegoppaaDoorW.PrintWords Go.Proofs.YtciagecaegoppaaDoorW.PrintLast Go.Proofs.YtciagecaegoppaaDoorW.PrintMore

theorem results_cell_tmp {P : Program} {fn : Func} {p u : Tmp} {ty : TypeId} (h : fn.results = #[.cell p ty, .tmp u]) (tmps : Array Value) (w : World) (g : Nat) (t : TypeId) (cs : Array Value) (fr : Nat × Nat) (d : TypeDesc)
    (hp : tmps.getD p undef = .pointer (some ⟨g, 0, none⟩)) (hg : w.heap[g]? = some (.cells cs t fr))
    (hu : P.underlying ty = some d) (hd : (match d with | .struct _ | .array _ _ => true | _ => false) = true) (hi : (P.info? ty).map (·.size) = some cs.size) :
    (results fn tmps).run P w = .ok (.tuple #[.agg cs, tmps.getD u undef]) w := by
  have hp' : tmps[p]?.getD undef = .pointer (some ⟨g, 0, none⟩) := by simpa using hp
  simp [results, h, hp', asAddr, run_loadVar_row w g t ty cs fr d hg hu hd hi]

set_option maxHeartbeats 2000000 in
theorem delim_short (A0 : Option Addr) (c0 : Nat) (l0 : List Int) (w : World) (hs : l0.length < 9) :
    Calls Tryd.prog 54 #[.slice A0 l0.length c0] w fun e w' => e = .returned (.tuple #[.agg #[.int .u8 0, .int .u8 0, .int .u8 0, .int .u8 0, .int .u8 0], .int .i64 7]) ∧ Below w.heap.size w w' := by
  have HB := Aside0.mk (Below.refl w.heap.size w)
  have h9 : decide ((l0.length : Int) < 9) = true := decide_eq_true (by omega)
  have h9' : decide (l0.length < 9) = true := decide_eq_true hs
  go_enter Tryd.func54, Tryd.ntmps54
  go_wp2
  refine bodyPost_ret (results_cell_tmp rfl _ _ w.heap.size 23 #[.int .u8 0, .int .u8 0, .int .u8 0, .int .u8 0, .int .u8 0] (0, 0) _ rfl (World.alloc_heap_new w _) Tryd.underlying23 rfl (by kernel_rfl)) rfl ?_
  exact ⟨rfl, below_alloc (Below.refl _ _) _⟩

theorem lit3 (w : World) (a b c : Int) : Lib.BytesIn (w.alloc (.cells #[.int .u8 a, .int .u8 b, .int .u8 c] 5 (3, 4))) (some ⟨w.heap.size, 0, none⟩) 3 [a, b, c] :=
  Lib.BytesIn.of_cells fun i hi => by
    have h : (w.alloc (.cells #[.int .u8 a, .int .u8 b, .int .u8 c] 5 (3, 4))).heap[w.heap.size]? = some (.cells #[.int .u8 a, .int .u8 b, .int .u8 c] 5 (3, 4)) := World.alloc_heap_new w _
    rw [add_plain]
    unfold World.cell?
    rw [h]
    rcases i with _ | _ | _ | i
    · rfl
    · rfl
    · rfl
    · omega

set_option maxHeartbeats 2000000 in
theorem delim_other (A0 : Option Addr) (c0 : Nat) (l0 : List Int) (w : World) (hr0 : Kd.C (Kd.int .u8) w A0 l0.length l0) (hc0 : l0.length ≤ c0) (hs : 9 ≤ l0.length) (hp : Lib.hasPrefix (Lib.bytesOf (l0.take 9)) (Lib.bytesOf [77, 83, 72]) = false) :
    Calls Tryd.prog 54 #[.slice A0 l0.length c0] w fun e w' => e = .returned (.tuple #[.agg #[.int .u8 0, .int .u8 0, .int .u8 0, .int .u8 0, .int .u8 0], .int .i64 11]) ∧ Below w.heap.size w w' := by
  have hr := Aside0.mk hr0; have hc := Aside0.mk hc0; have HP := Aside0.mk hp
  have h9 : decide ((l0.length : Int) < 9) = false := decide_eq_false (by omega)
  have h9' : decide (l0.length < 9) = false := decide_eq_false (by omega)
  obtain ⟨i0, hi0, _, _, _⟩ := info_parts info5
  have hcut : ∀ W : World, (Instr.slice 26 (.slice A0 l0.length c0) none (some (.int .i64 9)) none).run Tryd.prog W = .ok (.slice A0 9 c0) W := cut_to (P := Tryd.prog) 26 5 .i64 Tryd.underlying26 hi0 A0 l0.length c0 9 (by omega) (by omega) hc0
  have hl9 : (l0.take 9).length = 9 := by rw [List.length_take]; omega
  have HL9 := Aside0.mk hl9
  have hcs := Lib.run_convert_bytes_const (P := Tryd.prog) (w.alloc (.cells #[.int .u8 0, .int .u8 0, .int .u8 0, .int .u8 0, .int .u8 0] 23)) 26 5 #[.int .u8 77, .int .u8 83, .int .u8 72] 3 3 Tryd.underlying26 Tryd.underlying5
  have hl3 := lit3 (w.alloc (.cells #[.int .u8 0, .int .u8 0, .int .u8 0, .int .u8 0, .int .u8 0] 23)) 77 83 72
  have hb9 : Lib.BytesIn ((w.alloc (.cells #[.int .u8 0, .int .u8 0, .int .u8 0, .int .u8 0, .int .u8 0] 23)).alloc (.cells #[.int .u8 77, .int .u8 83, .int .u8 72] 5 (3, 4))) A0 9 (l0.take 9) := by
    have h := in_of_C (Kd.C_below (Kd.C_take hr0 hs) (below_alloc (below_alloc (Below.refl _ _) (.cells #[.int .u8 0, .int .u8 0, .int .u8 0, .int .u8 0, .int .u8 0] 23)) (.cells #[.int .u8 77, .int .u8 83, .int .u8 72] 5 (3, 4))))
    rw [hl9] at h
    exact h
  have HB9 := Aside0.mk hb9
  rw [World.size_alloc] at hcs hl3
  have HL3 := Aside0.mk hl3
  clear hr0 hc0 hp hl9 hl3 hb9
  go_enter Tryd.func54, Tryd.ntmps54
  go_wp2_with (go_at_call 69; refine (Tryd.bytes_CutPrefix_all A0 (some ⟨w.heap.size + 1, 0, none⟩) 9 c0 3 3 (l0.take 9) [77, 83, 72] _ HL9.out rfl (by have := hc.out; omega) ?h1 ?h2).mono ?_; (case h1 => exact HB9.out); (case h2 => exact HL3.out); rw [HP.out]; rintro e w' ⟨rfl, rfl⟩)
  refine bodyPost_ret (results_cell_tmp rfl _ _ w.heap.size 23 #[.int .u8 0, .int .u8 0, .int .u8 0, .int .u8 0, .int .u8 0] (0, 0) _ rfl ((Below.heap_alloc _ _ _ (by simp)).trans (World.alloc_heap_new w _)) Tryd.underlying23 rfl (by kernel_rfl)) rfl ?_
  exact ⟨rfl, below_alloc (below_alloc (Below.refl _ _) _) _⟩
end Go.Proofs.YtciagecaegoppaaDoor
end
section
namespace Go.Proofs.YtciagecaegoppaaDoor
set_option linter.unusedVariables false
set_option linter.unusedSimpArgs false
set_option maxRecDepth 100000
open Go.RowKit Go.Proofs.YtciagecaegoppaaDoorW.PrintWords Go.Proofs.YtciagecaegoppaaDoorW.PrintLast Go.Proofs.YtciagecaegoppaaDoorW.PrintMore

set_option maxHeartbeats 4000000 in
theorem delim_on (A0 : Option Addr) (c0 : Nat) (l0 : List Int) (w : World) (hr0 : Kd.C (Kd.int .u8) w A0 l0.length l0) (hc0 : l0.length ≤ c0) (hs : 9 ≤ l0.length) (hp : Lib.hasPrefix (Lib.bytesOf (l0.take 9)) (Lib.bytesOf [77, 83, 72]) = true)
    (rt : Bool) (hrt : QRight.delim_Right.f 10 (l0.getD 3 0) (l0.getD 4 0) (l0.getD 5 0) (l0.getD 6 0) (l0.getD 7 0) = some rt) (d0 d1 d2 d3 d4 e0 : Int)
    (hres : (if rt = false ∨ (l0.getD 8 0 ≠ l0.getD 3 0 ∧ l0.getD 8 0 ≠ 13) then ((0, 0, 0, 0, 0, 11) : Int × Int × Int × Int × Int × Int) else (l0.getD 3 0, l0.getD 4 0, l0.getD 5 0, l0.getD 6 0, l0.getD 7 0, 0)) = (d0, d1, d2, d3, d4, e0)) :
    Calls Tryd.prog 54 #[.slice A0 l0.length c0] w fun e w' => e = .returned (.tuple #[.agg #[.int .u8 d0, .int .u8 d1, .int .u8 d2, .int .u8 d3, .int .u8 d4], .int .i64 e0]) ∧ Below w.heap.size w w' := by
  have hr := Aside0.mk hr0; have hc := Aside0.mk hc0; have HP := Aside0.mk hp; have HRT := Aside0.mk hrt; have HRES := Aside0.mk hres
  obtain ⟨⟨ab, ao, asp⟩, eA, hcell⟩ : ∃ ad, A0 = some ad ∧ ∀ i, i < l0.length → w.cell? (ad.add i) = some (.int .u8 (l0.getD i 0)) := by
    obtain ⟨ad, e, _⟩ := Kd.at_int hr0 0 (by omega) (by omega)
    subst e
    exact ⟨ad, rfl, (cells_of_C hr0).2⟩
  subst eA
  obtain rfl : asp = none := by simpa [Addr.add] using World.cell?_spot (hcell 0 (by omega))
  have hat : ∀ i, 3 ≤ i → (⟨ab, ao, none⟩ : Addr).add i = ⟨ab, ao + i, none⟩ := fun i hi => by unfold Addr.add; rw [if_neg (by omega)]
  have h9 : decide ((l0.length : Int) < 9) = false := decide_eq_false (by omega)
  have h9' : decide (l0.length < 9) = false := decide_eq_false (by omega)
  obtain ⟨i0, hi0, _, _, _⟩ := info_parts info5
  have hcut : ∀ W : World, (Instr.slice 26 (.slice (some ⟨ab, ao, none⟩) l0.length c0) none (some (.int .i64 9)) none).run Tryd.prog W = .ok (.slice (some ⟨ab, ao, none⟩) 9 c0) W := cut_to (P := Tryd.prog) 26 5 .i64 Tryd.underlying26 hi0 (some ⟨ab, ao, none⟩) l0.length c0 9 (by omega) (by omega) hc0
  have hl9 : (l0.take 9).length = 9 := by rw [List.length_take]; omega
  have HL9 := Aside0.mk hl9
  have hv : Lib.trimPrefixV (some ⟨ab, ao, none⟩) 9 c0 (l0.take 9) [77, 83, 72] = .slice (some ⟨ab, ao + 3, none⟩) 6 (c0 - 3) := by
    unfold Lib.trimPrefixV Lib.bytesTrimPrefix
    simp only [hp]
    unfold Lib.sliceFrom
    simp
    omega
  have HV := Aside0.mk hv
  have hcs := Lib.run_convert_bytes_const (P := Tryd.prog) (w.alloc (.cells #[.int .u8 0, .int .u8 0, .int .u8 0, .int .u8 0, .int .u8 0] 23)) 26 5 #[.int .u8 77, .int .u8 83, .int .u8 72] 3 3 Tryd.underlying26 Tryd.underlying5
  have hl3 := lit3 (w.alloc (.cells #[.int .u8 0, .int .u8 0, .int .u8 0, .int .u8 0, .int .u8 0] 23)) 77 83 72
  have hb9 : Lib.BytesIn ((w.alloc (.cells #[.int .u8 0, .int .u8 0, .int .u8 0, .int .u8 0, .int .u8 0] 23)).alloc (.cells #[.int .u8 77, .int .u8 83, .int .u8 72] 5 (3, 4))) (some ⟨ab, ao, none⟩) 9 (l0.take 9) := by
    have h := in_of_C (Kd.C_below (Kd.C_take hr0 hs) (below_alloc (below_alloc (Below.refl _ _) (.cells #[.int .u8 0, .int .u8 0, .int .u8 0, .int .u8 0, .int .u8 0] 23)) (.cells #[.int .u8 77, .int .u8 83, .int .u8 72] 5 (3, 4))))
    rw [hl9] at h
    exact h
  have HB9 := Aside0.mk hb9
  rw [World.size_alloc] at hcs hl3
  have HL3 := Aside0.mk hl3
  have HCELL := Aside0.mk hcell; have HAT := Aside0.mk hat
  have HB : Aside0 (∀ o1 o2, Below w.heap.size w ((w.alloc o1).alloc o2)) := ⟨fun o1 o2 => below_alloc (below_alloc (Below.refl _ _) _) _⟩
  clear hr0 hc0 hp hl9 hl3 hb9 hv hcell hat hrt hres
  go_enter Tryd.func54, Tryd.ntmps54
  go_wp2_with (go_at_call 69; refine (Tryd.bytes_CutPrefix_all (some ⟨ab, ao, none⟩) (some ⟨w.heap.size + 1, 0, none⟩) 9 c0 3 3 (l0.take 9) [77, 83, 72] _ HL9.out rfl (by have := hc.out; omega) ?h1 ?h2).mono ?_; (case h1 => exact HB9.out); (case h2 => exact HL3.out); rw [HP.out, HV.out]; rintro e w' ⟨rfl, rfl⟩)
  obtain ⟨W, hW⟩ : ∃ x, x = (w.alloc (.cells #[.int .u8 0, .int .u8 0, .int .u8 0, .int .u8 0, .int .u8 0] 23)).alloc (.cells #[.int .u8 77, .int .u8 83, .int .u8 72] 5 (3, 4)) := ⟨_, rfl⟩
  rw [← hW]
  have hB := HB.out (.cells #[.int .u8 0, .int .u8 0, .int .u8 0, .int .u8 0, .int .u8 0] 23) (.cells #[.int .u8 77, .int .u8 83, .int .u8 72] 5 (3, 4))
  have hblk : W.heap[w.heap.size]? = some (.cells #[.int .u8 0, .int .u8 0, .int .u8 0, .int .u8 0, .int .u8 0] 23 (0, 0)) := by rw [hW]; exact blk_alloc (blk_new w _) _
  rw [← hW] at hB
  have HBW := Aside0.mk hB; have HBLK := Aside0.mk hblk
  have k3 : W.cell? ⟨ab, ao + 3, none⟩ = some (.int .u8 (l0.getD 3 0)) := by have h := hB.cell (World.block_lt_of_cell? _ _ (HCELL.out 3 (by omega))); rw [HCELL.out 3 (by omega), HAT.out 3 (by omega)] at h; exact h
  have k4 : W.cell? ⟨ab, ao + 3 + 1, none⟩ = some (.int .u8 (l0.getD 4 0)) := by have h := hB.cell (World.block_lt_of_cell? _ _ (HCELL.out 4 (by omega))); rw [HCELL.out 4 (by omega), HAT.out 4 (by omega)] at h; exact h
  have k5 : W.cell? ⟨ab, ao + 3 + 2, none⟩ = some (.int .u8 (l0.getD 5 0)) := by have h := hB.cell (World.block_lt_of_cell? _ _ (HCELL.out 5 (by omega))); rw [HCELL.out 5 (by omega), HAT.out 5 (by omega)] at h; exact h
  have k6 : W.cell? ⟨ab, ao + 3 + 3, none⟩ = some (.int .u8 (l0.getD 6 0)) := by have h := hB.cell (World.block_lt_of_cell? _ _ (HCELL.out 6 (by omega))); rw [HCELL.out 6 (by omega), HAT.out 6 (by omega)] at h; exact h
  have k7 : W.cell? ⟨ab, ao + 3 + 4, none⟩ = some (.int .u8 (l0.getD 7 0)) := by have h := hB.cell (World.block_lt_of_cell? _ _ (HCELL.out 7 (by omega))); rw [HCELL.out 7 (by omega), HAT.out 7 (by omega)] at h; exact h
  have k8 : W.cell? ⟨ab, ao + 3 + 5, none⟩ = some (.int .u8 (l0.getD 8 0)) := by have h := hB.cell (World.block_lt_of_cell? _ _ (HCELL.out 8 (by omega))); rw [HCELL.out 8 (by omega), HAT.out 8 (by omega)] at h; exact h
  clear hW hB hblk hcs
  generalize l0.getD 3 0 = z3 at *
  generalize l0.getD 4 0 = z4 at *
  generalize l0.getD 5 0 = z5 at *
  generalize l0.getD 6 0 = z6 at *
  generalize l0.getD 7 0 = z7 at *
  generalize l0.getD 8 0 = z8 at *
  go_region_held3 (fun w' => w'.cell? ⟨ab, ao + 3, none⟩ = some (.int .u8 z3) ∧ w'.cell? ⟨ab, ao + 3 + 1, none⟩ = some (.int .u8 z4) ∧ w'.cell? ⟨ab, ao + 3 + 2, none⟩ = some (.int .u8 z5) ∧ w'.cell? ⟨ab, ao + 3 + 3, none⟩ = some (.int .u8 z6) ∧ w'.cell? ⟨ab, ao + 3 + 4, none⟩ = some (.int .u8 z7)) (go_keep) (fail)
  rename_i hheld
  obtain ⟨j3, _⟩ := hheld
  clear j3
  obtain ⟨W2, hW2⟩ : ∃ x, x = (W.alloc (.cells #[.int .u8 z3, .int .u8 z4, .int .u8 z5, .int .u8 z6, .int .u8 z7] 23)).drew := ⟨_, rfl⟩
  rw [← hW2]
  have hB2 : Below w.heap.size w W2 := by rw [hW2]; exact below_drew1 (below_alloc HBW.out _)
  have hblk2 : W2.heap[w.heap.size]? = some (.cells #[.int .u8 0, .int .u8 0, .int .u8 0, .int .u8 0, .int .u8 0] 23 (0, 0)) := by rw [hW2]; exact blk_drew (blk_alloc HBLK.out _)
  have hd2 : W2.heap[W.heap.size]? = some (.cells #[.int .u8 z3, .int .u8 z4, .int .u8 z5, .int .u8 z6, .int .u8 z7] 23 (0, 0)) := by rw [hW2]; exact blk_drew (blk_new W _)
  have k8' : W2.cell? ⟨ab, ao + 3 + 5, none⟩ = some (.int .u8 z8) := by rw [hW2]; exact (Below.cell (below_alloc (Below.refl W.heap.size W) _) (World.block_lt_of_cell? _ _ k8)).trans k8
  have hge : w.heap.size ≤ W.heap.size := HBW.out.size
  have HBW2 := Aside0.mk hB2; have HBLK2 := Aside0.mk hblk2; have HD2 := Aside0.mk hd2; have HGE := Aside0.mk hge; have HGL := Aside0.mk (blk_lt hblk2)
  have g0 := (blk_cell hd2 0).trans rfl; have g1 := (blk_cell hd2 1).trans rfl; have g2 := (blk_cell hd2 2).trans rfl; have g3 := (blk_cell hd2 3).trans rfl; have g4 := (blk_cell hd2 4).trans rfl
  clear hW2 hB2 hblk2 hd2 k3 k4 k5 k6 k7 k8 hge
  generalize W.heap.size = gd at *
  cases rt
  · go_wp2_with fail
    refine start_ (n := 17) (S := fun w' => w'.cell? ⟨gd, 0, none⟩ = some (.int .u8 z3) ∧ w'.cell? ⟨gd, 1, none⟩ = some (.int .u8 z4) ∧ w'.cell? ⟨gd, 2, none⟩ = some (.int .u8 z5) ∧ w'.cell? ⟨gd, 3, none⟩ = some (.int .u8 z6) ∧ w'.cell? ⟨gd, 4, none⟩ = some (.int .u8 z7) ∧ w'.cell? ⟨ab, ao + 3 + 5, none⟩ = some (.int .u8 z8)) (ds := []) #[false, false, false, false, false, false, false, false, false, false, false, false, false, false, false, false, false] (by kernel_rfl) rfl rfl ⟨g0, g1, g2, g3, g4, k8'⟩ (fun hHeld => ?_)
    refine take_ (i := 0) (N := (some 38)) (v := ?_) (a' := ?_) #[true, false, false, false, false, false, false, false, false, false, false, false, false, false, false, false, false] rfl rfl (by kernel_rfl) (fun _ _ _ h => h) (Or.inl ⟨by rfl, ?_⟩) hHeld ?_ ?_
    rotate_left
    · rintro w' ⟨s0, s1, s2, s3, s4, s5⟩
      go_simp
      with_reducible rfl
    rotate_left
    · simp only [Act.put, List.setIfInBounds_toArray, List.set_cons_zero, List.set_cons_succ, i64_w, i32_w]
      rfl
    refine one_ (i := 1) (N := (some 39)) #[true, true, false, false, false, false, false, false, false, false, false, false, false, false, false, false, false] rfl rfl (by kernel_rfl) (by decide) (fun K hK => ?_)
    refine goes_ Tryd.func18 (by kernel_rfl) rfl #[.agg #[.int .u8 z3, .int .u8 z4, .int .u8 z5, .int .u8 z6, .int .u8 z7]] (by rfl) rfl rfl (by (try simp only [List.map_toArray, List.map_cons, List.map_nil]); first | done | rfl) ?_
    refine (QRight.delim_Right.calls 10 z3 z4 z5 z6 z7 false _ HRT.out).mono ?_
    rintro e w3 ⟨rfl, hb3⟩
    have HB3 := Aside0.mk hb3
    clear hb3
    refine ⟨_, rfl, ?_⟩
    refine hK.out _ _ ⟨pw_cell_below HB3.out hHeld.1, pw_cell_below HB3.out hHeld.2.1, pw_cell_below HB3.out hHeld.2.2.1, pw_cell_below HB3.out hHeld.2.2.2.1, pw_cell_below HB3.out hHeld.2.2.2.2.1, pw_cell_below HB3.out hHeld.2.2.2.2.2⟩ (fun hHeld => ?_)
    clear hK K
    refine norm_ (a' := ?_) ?_ ?_
    rotate_left
    · show Act.put _ (some 39) _ = _
      simp only [Act.put, List.setIfInBounds_toArray, List.set_cons_zero, List.set_cons_succ, i64_w, i32_w]
      rfl
    refine pure_ (i := 2) (N := (some 40)) (v := ?_) (a' := ?_) #[true, true, true, false, false, false, false, false, false, false, false, false, false, false, false, false, false] rfl rfl (by kernel_rfl) (fun _ _ _ h => h) (Or.inl ⟨by rfl, ?_⟩) ?_ ?_
    rotate_left
    · intro w'
      go_simp
      with_reducible rfl
    rotate_left
    · simp only [Act.put, List.setIfInBounds_toArray, List.set_cons_zero, List.set_cons_succ, i64_w, i32_w]
      rfl
    refine pure_ (i := 3) (N := (some 41)) (v := ?_) (a' := ?_) #[true, true, true, true, false, false, false, false, false, false, false, false, false, false, false, false, false] rfl rfl (by kernel_rfl) (fun _ _ _ h => h) (Or.inl ⟨by rfl, ?_⟩) ?_ ?_
    rotate_left
    · intro w'
      go_simp
      with_reducible rfl
    rotate_left
    · simp only [Act.put, List.setIfInBounds_toArray, List.set_cons_zero, List.set_cons_succ, i64_w, i32_w]
      rfl
    refine pure_ (i := 4) (N := (some 42)) (v := undef) (a' := ?_) #[true, true, true, true, true, false, false, false, false, false, false, false, false, false, false, false, false] rfl rfl (by kernel_rfl) (fun _ _ _ h => h) (Or.inr ⟨by rfl, rfl⟩) ?_ ?_
    rotate_left
    · simp only [Act.put, List.setIfInBounds_toArray, List.set_cons_zero, List.set_cons_succ, i64_w, i32_w]
      rfl
    refine pure_ (i := 5) (N := (some 43)) (v := undef) (a' := ?_) #[true, true, true, true, true, true, false, false, false, false, false, false, false, false, false, false, false] rfl rfl (by kernel_rfl) (fun _ _ _ h => h) (Or.inr ⟨by rfl, rfl⟩) ?_ ?_
    rotate_left
    · simp only [Act.put, List.setIfInBounds_toArray, List.set_cons_zero, List.set_cons_succ, i64_w, i32_w]
      rfl
    refine pure_ (i := 6) (N := (some 44)) (v := undef) (a' := ?_) #[true, true, true, true, true, true, true, false, false, false, false, false, false, false, false, false, false] rfl rfl (by kernel_rfl) (fun _ _ _ h => h) (Or.inr ⟨by rfl, rfl⟩) ?_ ?_
    rotate_left
    · simp only [Act.put, List.setIfInBounds_toArray, List.set_cons_zero, List.set_cons_succ, i64_w, i32_w]
      rfl
    refine pure_ (i := 7) (N := (some 45)) (v := undef) (a' := ?_) #[true, true, true, true, true, true, true, true, false, false, false, false, false, false, false, false, false] rfl rfl (by kernel_rfl) (fun _ _ _ h => h) (Or.inr ⟨by rfl, rfl⟩) ?_ ?_
    rotate_left
    · simp only [Act.put, List.setIfInBounds_toArray, List.set_cons_zero, List.set_cons_succ, i64_w, i32_w]
      rfl
    refine pure_ (i := 8) (N := (some 46)) (v := undef) (a' := ?_) #[true, true, true, true, true, true, true, true, true, false, false, false, false, false, false, false, false] rfl rfl (by kernel_rfl) (fun _ _ _ h => h) (Or.inr ⟨by rfl, rfl⟩) ?_ ?_
    rotate_left
    · simp only [Act.put, List.setIfInBounds_toArray, List.set_cons_zero, List.set_cons_succ, i64_w, i32_w]
      rfl
    refine pure_ (i := 9) (N := (some 47)) (v := undef) (a' := ?_) #[true, true, true, true, true, true, true, true, true, true, false, false, false, false, false, false, false] rfl rfl (by kernel_rfl) (fun _ _ _ h => h) (Or.inr ⟨by rfl, rfl⟩) ?_ ?_
    rotate_left
    · simp only [Act.put, List.setIfInBounds_toArray, List.set_cons_zero, List.set_cons_succ, i64_w, i32_w]
      rfl
    refine pure_ (i := 10) (N := (some 48)) (v := undef) (a' := ?_) #[true, true, true, true, true, true, true, true, true, true, true, false, false, false, false, false, false] rfl rfl (by kernel_rfl) (fun _ _ _ h => h) (Or.inr ⟨by rfl, rfl⟩) ?_ ?_
    rotate_left
    · simp only [Act.put, List.setIfInBounds_toArray, List.set_cons_zero, List.set_cons_succ, i64_w, i32_w]
      rfl
    refine pure_ (i := 11) (N := (some 49)) (v := undef) (a' := ?_) #[true, true, true, true, true, true, true, true, true, true, true, true, false, false, false, false, false] rfl rfl (by kernel_rfl) (fun _ _ _ h => h) (Or.inr ⟨by rfl, rfl⟩) ?_ ?_
    rotate_left
    · simp only [Act.put, List.setIfInBounds_toArray, List.set_cons_zero, List.set_cons_succ, i64_w, i32_w]
      rfl
    refine pure_ (i := 12) (N := (some 50)) (v := undef) (a' := ?_) #[true, true, true, true, true, true, true, true, true, true, true, true, true, false, false, false, false] rfl rfl (by kernel_rfl) (fun _ _ _ h => h) (Or.inr ⟨by rfl, rfl⟩) ?_ ?_
    rotate_left
    · simp only [Act.put, List.setIfInBounds_toArray, List.set_cons_zero, List.set_cons_succ, i64_w, i32_w]
      rfl
    refine pure_ (i := 13) (N := (some 51)) (v := undef) (a' := ?_) #[true, true, true, true, true, true, true, true, true, true, true, true, true, true, false, false, false] rfl rfl (by kernel_rfl) (fun _ _ _ h => h) (Or.inr ⟨by rfl, rfl⟩) ?_ ?_
    rotate_left
    · simp only [Act.put, List.setIfInBounds_toArray, List.set_cons_zero, List.set_cons_succ, i64_w, i32_w]
      rfl
    refine pure_ (i := 14) (N := (some 52)) (v := undef) (a' := ?_) #[true, true, true, true, true, true, true, true, true, true, true, true, true, true, true, false, false] rfl rfl (by kernel_rfl) (fun _ _ _ h => h) (Or.inr ⟨by rfl, rfl⟩) ?_ ?_
    rotate_left
    · simp only [Act.put, List.setIfInBounds_toArray, List.set_cons_zero, List.set_cons_succ, i64_w, i32_w]
      rfl
    refine pure_ (i := 15) (N := (some 53)) (v := undef) (a' := ?_) #[true, true, true, true, true, true, true, true, true, true, true, true, true, true, true, true, false] rfl rfl (by kernel_rfl) (fun _ _ _ h => h) (Or.inr ⟨by rfl, rfl⟩) ?_ ?_
    rotate_left
    · simp only [Act.put, List.setIfInBounds_toArray, List.set_cons_zero, List.set_cons_succ, i64_w, i32_w]
      rfl
    refine pure_ (i := 16) (N := (some 54)) (v := ?_) (a' := ?_) #[true, true, true, true, true, true, true, true, true, true, true, true, true, true, true, true, true] rfl rfl (by kernel_rfl) (fun _ _ _ h => h) (Or.inl ⟨by rfl, ?_⟩) ?_ ?_
    rotate_left
    · intro w'
      go_simp
      with_reducible rfl
    rotate_left
    · simp only [Act.put, List.setIfInBounds_toArray, List.set_cons_zero, List.set_cons_succ, i64_w, i32_w]
      rfl
    refine done_ (by kernel_rfl) ?_
    clear hHeld g0 g1 g2 g3 g4 k8'
    have hB3 : Below w.heap.size w w3 := below_step (below_drew1 HBW2.out) HB3.out
    have hblk3 := blk_below (blk_drew HBLK2.out) HB3.out
    have hd3 := blk_below (blk_drew HD2.out) HB3.out
    have HB3' := Aside0.mk hB3; have HBLK3 := Aside0.mk hblk3; have HD3 := Aside0.mk hd3
    have g0 := (blk_cell hd3 0).trans rfl; have g1 := (blk_cell hd3 1).trans rfl; have g2 := (blk_cell hd3 2).trans rfl; have g3 := (blk_cell hd3 3).trans rfl; have g4 := (blk_cell hd3 4).trans rfl
    have p0 := (blk_cell hblk3 0).trans rfl; have p1 := (blk_cell hblk3 1).trans rfl; have p2 := (blk_cell hblk3 2).trans rfl; have p3 := (blk_cell hblk3 3).trans rfl; have p4 := (blk_cell hblk3 4).trans rfl
    have q0 := blk_frozen hblk3 0; have q1 := blk_frozen hblk3 1; have q2 := blk_frozen hblk3 2; have q3 := blk_frozen hblk3 3; have q4 := blk_frozen hblk3 4
    clear hB3 hblk3 hd3 HB3 HBW2 HBLK2 HD2
    go_wp2
    refine bodyPost_ret (results_ct rfl _ _ w.heap.size 23 #[.int .u8 0, .int .u8 0, .int .u8 0, .int .u8 0, .int .u8 0] (0, 0) _ rfl (blk_set (blk_set (blk_set (blk_set (blk_set HBLK3.out 0 _) 1 _) 2 _) 3 _) 4 _) Tryd.underlying23 rfl (by kernel_rfl)) rfl ?_
    have hR := HRES.out
    (first | rw [if_pos (Or.inl trivial)] at hR | rw [if_pos (Or.inl rfl)] at hR)
    simp only [Prod.mk.injEq] at hR
    obtain ⟨e0_, e1_, e2_, e3_, e4_, e5_⟩ := hR
    refine ⟨by rw [← e0_, ← e1_, ← e2_, ← e3_, ← e4_, ← e5_]; rfl, ?_⟩
    exact below_set (below_set (below_set (below_set (below_set HB3'.out (Nat.le_refl _)) (Nat.le_refl _)) (Nat.le_refl _)) (Nat.le_refl _)) (Nat.le_refl _)
  · by_cases c1 : z8 = z3
    · have c1' : (z8 != z3) = false := bne_eq_false_iff_eq.2 c1; have C1 := Aside0.mk c1; clear c1
      go_wp2_with fail
      refine start_ (n := 17) (S := fun w' => w'.cell? ⟨gd, 0, none⟩ = some (.int .u8 z3) ∧ w'.cell? ⟨gd, 1, none⟩ = some (.int .u8 z4) ∧ w'.cell? ⟨gd, 2, none⟩ = some (.int .u8 z5) ∧ w'.cell? ⟨gd, 3, none⟩ = some (.int .u8 z6) ∧ w'.cell? ⟨gd, 4, none⟩ = some (.int .u8 z7) ∧ w'.cell? ⟨ab, ao + 3 + 5, none⟩ = some (.int .u8 z8)) (ds := []) #[false, false, false, false, false, false, false, false, false, false, false, false, false, false, false, false, false] (by kernel_rfl) rfl rfl ⟨g0, g1, g2, g3, g4, k8'⟩ (fun hHeld => ?_)
      refine take_ (i := 0) (N := (some 38)) (v := ?_) (a' := ?_) #[true, false, false, false, false, false, false, false, false, false, false, false, false, false, false, false, false] rfl rfl (by kernel_rfl) (fun _ _ _ h => h) (Or.inl ⟨by rfl, ?_⟩) hHeld ?_ ?_
      rotate_left
      · rintro w' ⟨s0, s1, s2, s3, s4, s5⟩
        go_simp
        with_reducible rfl
      rotate_left
      · simp only [Act.put, List.setIfInBounds_toArray, List.set_cons_zero, List.set_cons_succ, i64_w, i32_w]
        rfl
      refine one_ (i := 1) (N := (some 39)) #[true, true, false, false, false, false, false, false, false, false, false, false, false, false, false, false, false] rfl rfl (by kernel_rfl) (by decide) (fun K hK => ?_)
      refine goes_ Tryd.func18 (by kernel_rfl) rfl #[.agg #[.int .u8 z3, .int .u8 z4, .int .u8 z5, .int .u8 z6, .int .u8 z7]] (by rfl) rfl rfl (by (try simp only [List.map_toArray, List.map_cons, List.map_nil]); first | done | rfl) ?_
      refine (QRight.delim_Right.calls 10 z3 z4 z5 z6 z7 true _ HRT.out).mono ?_
      rintro e w3 ⟨rfl, hb3⟩
      have HB3 := Aside0.mk hb3
      clear hb3
      refine ⟨_, rfl, ?_⟩
      refine hK.out _ _ ⟨pw_cell_below HB3.out hHeld.1, pw_cell_below HB3.out hHeld.2.1, pw_cell_below HB3.out hHeld.2.2.1, pw_cell_below HB3.out hHeld.2.2.2.1, pw_cell_below HB3.out hHeld.2.2.2.2.1, pw_cell_below HB3.out hHeld.2.2.2.2.2⟩ (fun hHeld => ?_)
      clear hK K
      refine norm_ (a' := ?_) ?_ ?_
      rotate_left
      · show Act.put _ (some 39) _ = _
        simp only [Act.put, List.setIfInBounds_toArray, List.set_cons_zero, List.set_cons_succ, i64_w, i32_w]
        rfl
      refine pure_ (i := 2) (N := (some 40)) (v := ?_) (a' := ?_) #[true, true, true, false, false, false, false, false, false, false, false, false, false, false, false, false, false] rfl rfl (by kernel_rfl) (fun _ _ _ h => h) (Or.inl ⟨by rfl, ?_⟩) ?_ ?_
      rotate_left
      · intro w'
        go_simp
        with_reducible rfl
      rotate_left
      · simp only [Act.put, List.setIfInBounds_toArray, List.set_cons_zero, List.set_cons_succ, i64_w, i32_w]
        rfl
      refine pure_ (i := 3) (N := (some 41)) (v := ?_) (a' := ?_) #[true, true, true, true, false, false, false, false, false, false, false, false, false, false, false, false, false] rfl rfl (by kernel_rfl) (fun _ _ _ h => h) (Or.inl ⟨by rfl, ?_⟩) ?_ ?_
      rotate_left
      · intro w'
        go_simp
        with_reducible rfl
      rotate_left
      · simp only [Act.put, List.setIfInBounds_toArray, List.set_cons_zero, List.set_cons_succ, i64_w, i32_w]
        rfl
      refine pure_ (i := 4) (N := (some 42)) (v := ?_) (a' := ?_) #[true, true, true, true, true, false, false, false, false, false, false, false, false, false, false, false, false] rfl rfl (by kernel_rfl) (fun _ _ _ h => h) (Or.inl ⟨by rfl, ?_⟩) ?_ ?_
      rotate_left
      · intro w'
        go_simp
        with_reducible rfl
      rotate_left
      · simp only [Act.put, List.setIfInBounds_toArray, List.set_cons_zero, List.set_cons_succ, i64_w, i32_w]
        rfl
      refine pure_ (i := 5) (N := (some 43)) (v := ?_) (a' := ?_) #[true, true, true, true, true, true, false, false, false, false, false, false, false, false, false, false, false] rfl rfl (by kernel_rfl) (fun _ _ _ h => h) (Or.inl ⟨by rfl, ?_⟩) ?_ ?_
      rotate_left
      · intro w'
        go_simp
        with_reducible rfl
      rotate_left
      · simp only [Act.put, List.setIfInBounds_toArray, List.set_cons_zero, List.set_cons_succ, i64_w, i32_w]
        rfl
      refine take_ (i := 6) (N := (some 44)) (v := ?_) (a' := ?_) #[true, true, true, true, true, true, true, false, false, false, false, false, false, false, false, false, false] rfl rfl (by kernel_rfl) (fun _ _ _ h => h) (Or.inl ⟨by rfl, ?_⟩) hHeld ?_ ?_
      rotate_left
      · rintro w' ⟨s0, s1, s2, s3, s4, s5⟩
        go_simp
        with_reducible rfl
      rotate_left
      · simp only [Act.put, List.setIfInBounds_toArray, List.set_cons_zero, List.set_cons_succ, i64_w, i32_w]
        rfl
      refine pure_ (i := 7) (N := (some 45)) (v := ?_) (a' := ?_) #[true, true, true, true, true, true, true, true, false, false, false, false, false, false, false, false, false] rfl rfl (by kernel_rfl) (fun _ _ _ h => h) (Or.inl ⟨by rfl, ?_⟩) ?_ ?_
      rotate_left
      · intro w'
        go_simp
        with_reducible rfl
      rotate_left
      · simp only [Act.put, List.setIfInBounds_toArray, List.set_cons_zero, List.set_cons_succ, i64_w, i32_w]
        rfl
      refine take_ (i := 8) (N := (some 46)) (v := ?_) (a' := ?_) #[true, true, true, true, true, true, true, true, true, false, false, false, false, false, false, false, false] rfl rfl (by kernel_rfl) (fun _ _ _ h => h) (Or.inl ⟨by rfl, ?_⟩) hHeld ?_ ?_
      rotate_left
      · rintro w' ⟨s0, s1, s2, s3, s4, s5⟩
        go_simp
        with_reducible rfl
      rotate_left
      · simp only [Act.put, List.setIfInBounds_toArray, List.set_cons_zero, List.set_cons_succ, i64_w, i32_w]
        rfl
      refine pure_ (i := 9) (N := (some 47)) (v := ?_) (a' := ?_) #[true, true, true, true, true, true, true, true, true, true, false, false, false, false, false, false, false] rfl rfl (by kernel_rfl) (fun _ _ _ h => h) (Or.inl ⟨by rfl, ?_⟩) ?_ ?_
      rotate_left
      · intro w'
        go_simp
        with_reducible rfl
      rotate_left
      · simp only [Act.put, List.setIfInBounds_toArray, List.set_cons_zero, List.set_cons_succ, i64_w, i32_w]
        rfl
      refine pure_ (i := 10) (N := (some 48)) (v := ?_) (a' := ?_) #[true, true, true, true, true, true, true, true, true, true, true, false, false, false, false, false, false] rfl rfl (by kernel_rfl) (fun _ _ _ h => h) (Or.inl ⟨by rfl, ?_⟩) ?_ ?_
      rotate_left
      · intro w'
        go_simp
        with_reducible rfl
      rotate_left
      · simp only [Act.put, List.setIfInBounds_toArray, List.set_cons_zero, List.set_cons_succ, i64_w, i32_w]
        rfl
      refine pure_ (i := 11) (N := (some 49)) (v := undef) (a' := ?_) #[true, true, true, true, true, true, true, true, true, true, true, true, false, false, false, false, false] rfl rfl (by kernel_rfl) (fun _ _ _ h => h) (Or.inr ⟨by rfl, rfl⟩) ?_ ?_
      rotate_left
      · simp only [Act.put, List.setIfInBounds_toArray, List.set_cons_zero, List.set_cons_succ, i64_w, i32_w]
        rfl
      refine pure_ (i := 12) (N := (some 50)) (v := undef) (a' := ?_) #[true, true, true, true, true, true, true, true, true, true, true, true, true, false, false, false, false] rfl rfl (by kernel_rfl) (fun _ _ _ h => h) (Or.inr ⟨by rfl, rfl⟩) ?_ ?_
      rotate_left
      · simp only [Act.put, List.setIfInBounds_toArray, List.set_cons_zero, List.set_cons_succ, i64_w, i32_w]
        rfl
      refine pure_ (i := 13) (N := (some 51)) (v := undef) (a' := ?_) #[true, true, true, true, true, true, true, true, true, true, true, true, true, true, false, false, false] rfl rfl (by kernel_rfl) (fun _ _ _ h => h) (Or.inr ⟨by rfl, rfl⟩) ?_ ?_
      rotate_left
      · simp only [Act.put, List.setIfInBounds_toArray, List.set_cons_zero, List.set_cons_succ, i64_w, i32_w]
        rfl
      refine pure_ (i := 14) (N := (some 52)) (v := undef) (a' := ?_) #[true, true, true, true, true, true, true, true, true, true, true, true, true, true, true, false, false] rfl rfl (by kernel_rfl) (fun _ _ _ h => h) (Or.inr ⟨by rfl, rfl⟩) ?_ ?_
      rotate_left
      · simp only [Act.put, List.setIfInBounds_toArray, List.set_cons_zero, List.set_cons_succ, i64_w, i32_w]
        rfl
      refine pure_ (i := 15) (N := (some 53)) (v := ?_) (a' := ?_) #[true, true, true, true, true, true, true, true, true, true, true, true, true, true, true, true, false] rfl rfl (by kernel_rfl) (fun _ _ _ h => h) (Or.inl ⟨by rfl, ?_⟩) ?_ ?_
      rotate_left
      · intro w'
        go_simp
        with_reducible rfl
      rotate_left
      · simp only [Act.put, List.setIfInBounds_toArray, List.set_cons_zero, List.set_cons_succ, i64_w, i32_w]
        rfl
      refine pure_ (i := 16) (N := (some 54)) (v := ?_) (a' := ?_) #[true, true, true, true, true, true, true, true, true, true, true, true, true, true, true, true, true] rfl rfl (by kernel_rfl) (fun _ _ _ h => h) (Or.inl ⟨by rfl, ?_⟩) ?_ ?_
      rotate_left
      · intro w'
        go_simp
        with_reducible rfl
      rotate_left
      · simp only [Act.put, List.setIfInBounds_toArray, List.set_cons_zero, List.set_cons_succ, i64_w, i32_w]
        rfl
      refine done_ (by kernel_rfl) ?_
      clear hHeld g0 g1 g2 g3 g4 k8'
      have hB3 : Below w.heap.size w w3 := below_step (below_drew1 HBW2.out) HB3.out
      have hblk3 := blk_below (blk_drew HBLK2.out) HB3.out
      have hd3 := blk_below (blk_drew HD2.out) HB3.out
      have HB3' := Aside0.mk hB3; have HBLK3 := Aside0.mk hblk3; have HD3 := Aside0.mk hd3
      have g0 := (blk_cell hd3 0).trans rfl; have g1 := (blk_cell hd3 1).trans rfl; have g2 := (blk_cell hd3 2).trans rfl; have g3 := (blk_cell hd3 3).trans rfl; have g4 := (blk_cell hd3 4).trans rfl
      have p0 := (blk_cell hblk3 0).trans rfl; have p1 := (blk_cell hblk3 1).trans rfl; have p2 := (blk_cell hblk3 2).trans rfl; have p3 := (blk_cell hblk3 3).trans rfl; have p4 := (blk_cell hblk3 4).trans rfl
      have q0 := blk_frozen hblk3 0; have q1 := blk_frozen hblk3 1; have q2 := blk_frozen hblk3 2; have q3 := blk_frozen hblk3 3; have q4 := blk_frozen hblk3 4
      clear hB3 hblk3 hd3 HB3 HBW2 HBLK2 HD2
      go_wp2
      refine bodyPost_ret (results_ct rfl _ _ w.heap.size 23 #[.int .u8 z3, .int .u8 z4, .int .u8 z5, .int .u8 z6, .int .u8 z7] (0, 0) _ rfl (blk_set (blk_set (blk_set (blk_set (blk_set HBLK3.out 0 _) 1 _) 2 _) 3 _) 4 _) Tryd.underlying23 rfl (by kernel_rfl)) rfl ?_
      have hR := HRES.out
      rw [if_neg (by rintro (h | ⟨h, _⟩) <;> first | exact Bool.noConfusion h | exact h C1.out)] at hR
      simp only [Prod.mk.injEq] at hR
      obtain ⟨e0_, e1_, e2_, e3_, e4_, e5_⟩ := hR
      refine ⟨by rw [← e0_, ← e1_, ← e2_, ← e3_, ← e4_, ← e5_]; rfl, ?_⟩
      exact below_set (below_set (below_set (below_set (below_set HB3'.out (Nat.le_refl _)) (Nat.le_refl _)) (Nat.le_refl _)) (Nat.le_refl _)) (Nat.le_refl _)
    · have c1' : (z8 != z3) = true := bne_iff_ne.2 c1; have C1 := Aside0.mk c1; clear c1
      by_cases c2 : z8 = 13
      · have c2' : (z8 != 13) = false := bne_eq_false_iff_eq.2 c2; have C2 := Aside0.mk c2; clear c2
        go_wp2_with fail
        go_region_held3 (fun w' => w'.cell? ⟨gd, 0, none⟩ = some (.int .u8 z3) ∧ w'.cell? ⟨gd, 1, none⟩ = some (.int .u8 z4) ∧ w'.cell? ⟨gd, 2, none⟩ = some (.int .u8 z5) ∧ w'.cell? ⟨gd, 3, none⟩ = some (.int .u8 z6) ∧ w'.cell? ⟨gd, 4, none⟩ = some (.int .u8 z7) ∧ w'.cell? ⟨ab, ao + 3 + 5, none⟩ = some (.int .u8 z8))
        (first | go_keep | (go_split_ands; refine ⟨?_, ?_, ?_, ?_, ?_, ?_⟩ <;> (refine pw_cell_below HB3.out ?_; assumption)))
        ((go_at_call 18; refine (QRight.delim_Right.calls 10 z3 z4 z5 z6 z7 true _ HRT.out).mono ?_; rintro e w3 ⟨rfl, hb3⟩; have HB3 := Aside0.mk hb3; clear hb3))
        rename_i hHeld
        clear hHeld g0 g1 g2 g3 g4 k8'
        have hB3 : Below w.heap.size w w3 := below_step (below_drew1 HBW2.out) HB3.out
        have hblk3 := blk_below (blk_drew HBLK2.out) HB3.out
        have hd3 := blk_below (blk_drew HD2.out) HB3.out
        have HB3' := Aside0.mk hB3; have HBLK3 := Aside0.mk hblk3; have HD3 := Aside0.mk hd3
        have g0 := (blk_cell hd3 0).trans rfl; have g1 := (blk_cell hd3 1).trans rfl; have g2 := (blk_cell hd3 2).trans rfl; have g3 := (blk_cell hd3 3).trans rfl; have g4 := (blk_cell hd3 4).trans rfl
        have p0 := (blk_cell hblk3 0).trans rfl; have p1 := (blk_cell hblk3 1).trans rfl; have p2 := (blk_cell hblk3 2).trans rfl; have p3 := (blk_cell hblk3 3).trans rfl; have p4 := (blk_cell hblk3 4).trans rfl
        have q0 := blk_frozen hblk3 0; have q1 := blk_frozen hblk3 1; have q2 := blk_frozen hblk3 2; have q3 := blk_frozen hblk3 3; have q4 := blk_frozen hblk3 4
        clear hB3 hblk3 hd3 HB3 HBW2 HBLK2 HD2
        go_wp2
        refine bodyPost_ret (results_ct rfl _ _ w.heap.size 23 #[.int .u8 z3, .int .u8 z4, .int .u8 z5, .int .u8 z6, .int .u8 z7] (0, 0) _ rfl (blk_set (blk_set (blk_set (blk_set (blk_set HBLK3.out 0 _) 1 _) 2 _) 3 _) 4 _) Tryd.underlying23 rfl (by kernel_rfl)) rfl ?_
        have hR := HRES.out
        rw [if_neg (by rintro (h | ⟨_, h⟩) <;> first | exact Bool.noConfusion h | exact h C2.out)] at hR
        simp only [Prod.mk.injEq] at hR
        obtain ⟨e0_, e1_, e2_, e3_, e4_, e5_⟩ := hR
        refine ⟨by rw [← e0_, ← e1_, ← e2_, ← e3_, ← e4_, ← e5_]; rfl, ?_⟩
        exact below_set (below_set (below_set (below_set (below_set HB3'.out (Nat.le_refl _)) (Nat.le_refl _)) (Nat.le_refl _)) (Nat.le_refl _)) (Nat.le_refl _)
      · have c2' : (z8 != 13) = true := bne_iff_ne.2 c2; have C2 := Aside0.mk c2; clear c2
        go_wp2_with fail
        go_region_held3 (fun w' => w'.cell? ⟨gd, 0, none⟩ = some (.int .u8 z3) ∧ w'.cell? ⟨gd, 1, none⟩ = some (.int .u8 z4) ∧ w'.cell? ⟨gd, 2, none⟩ = some (.int .u8 z5) ∧ w'.cell? ⟨gd, 3, none⟩ = some (.int .u8 z6) ∧ w'.cell? ⟨gd, 4, none⟩ = some (.int .u8 z7) ∧ w'.cell? ⟨ab, ao + 3 + 5, none⟩ = some (.int .u8 z8))
        (first | go_keep | (go_split_ands; refine ⟨?_, ?_, ?_, ?_, ?_, ?_⟩ <;> (refine pw_cell_below HB3.out ?_; assumption)))
        ((go_at_call 18; refine (QRight.delim_Right.calls 10 z3 z4 z5 z6 z7 true _ HRT.out).mono ?_; rintro e w3 ⟨rfl, hb3⟩; have HB3 := Aside0.mk hb3; clear hb3))
        rename_i hHeld
        clear hHeld g0 g1 g2 g3 g4 k8'
        have hB3 : Below w.heap.size w w3 := below_step (below_drew1 HBW2.out) HB3.out
        have hblk3 := blk_below (blk_drew HBLK2.out) HB3.out
        have hd3 := blk_below (blk_drew HD2.out) HB3.out
        have HB3' := Aside0.mk hB3; have HBLK3 := Aside0.mk hblk3; have HD3 := Aside0.mk hd3
        have g0 := (blk_cell hd3 0).trans rfl; have g1 := (blk_cell hd3 1).trans rfl; have g2 := (blk_cell hd3 2).trans rfl; have g3 := (blk_cell hd3 3).trans rfl; have g4 := (blk_cell hd3 4).trans rfl
        have p0 := (blk_cell hblk3 0).trans rfl; have p1 := (blk_cell hblk3 1).trans rfl; have p2 := (blk_cell hblk3 2).trans rfl; have p3 := (blk_cell hblk3 3).trans rfl; have p4 := (blk_cell hblk3 4).trans rfl
        have q0 := blk_frozen hblk3 0; have q1 := blk_frozen hblk3 1; have q2 := blk_frozen hblk3 2; have q3 := blk_frozen hblk3 3; have q4 := blk_frozen hblk3 4
        clear hB3 hblk3 hd3 HB3 HBW2 HBLK2 HD2
        go_wp2
        refine bodyPost_ret (results_ct rfl _ _ w.heap.size 23 #[.int .u8 0, .int .u8 0, .int .u8 0, .int .u8 0, .int .u8 0] (0, 0) _ rfl (blk_set (blk_set (blk_set (blk_set (blk_set HBLK3.out 0 _) 1 _) 2 _) 3 _) 4 _) Tryd.underlying23 rfl (by kernel_rfl)) rfl ?_
        have hR := HRES.out
        rw [if_pos (Or.inr ⟨C1.out, C2.out⟩)] at hR
        simp only [Prod.mk.injEq] at hR
        obtain ⟨e0_, e1_, e2_, e3_, e4_, e5_⟩ := hR
        refine ⟨by rw [← e0_, ← e1_, ← e2_, ← e3_, ← e4_, ← e5_]; rfl, ?_⟩
        exact below_set (below_set (below_set (below_set (below_set HB3'.out (Nat.le_refl _)) (Nat.le_refl _)) (Nat.le_refl _)) (Nat.le_refl _)) (Nat.le_refl _)

def delim_Read.f (l0 : List Int) : Option (Int × Int × Int × Int × Int × Int) :=
  if l0.length < 9 then some (0, 0, 0, 0, 0, 7)
  else if (Lib.hasPrefix (Lib.bytesOf (l0.take 9)) (Lib.bytesOf [77, 83, 72])) = false then some (0, 0, 0, 0, 0, 11)
  else (QRight.delim_Right.f 10 (l0.getD 3 0) (l0.getD 4 0) (l0.getD 5 0) (l0.getD 6 0) (l0.getD 7 0)).map fun r =>
    if r = false ∨ (l0.getD 8 0 ≠ l0.getD 3 0 ∧ l0.getD 8 0 ≠ 13) then (0, 0, 0, 0, 0, 11) else (l0.getD 3 0, l0.getD 4 0, l0.getD 5 0, l0.getD 6 0, l0.getD 7 0, 0)
theorem delim_Read.calls (A0 : Option Addr) (c0 : Nat) (l0 : List Int) (r1 r2 r3 r4 r5 r6 : Int) (w : World) (hr0 : Kd.C (Kd.int .u8) w A0 l0.length l0) (hc0 : l0.length ≤ c0) (h : delim_Read.f l0 = some (r1, r2, r3, r4, r5, r6)) :
    Calls Tryd.prog 54 #[.slice A0 l0.length c0] w fun e w' => e = .returned (.tuple #[.agg #[.int .u8 r1, .int .u8 r2, .int .u8 r3, .int .u8 r4, .int .u8 r5], .int .i64 r6]) ∧ Below w.heap.size w w' := by
  unfold delim_Read.f at h
  by_cases h9 : l0.length < 9
  · rw [if_pos h9] at h
    simp only [Option.some.injEq, Prod.mk.injEq] at h
    obtain ⟨rfl, rfl, rfl, rfl, rfl, rfl⟩ := h
    exact delim_short A0 c0 l0 w h9
  · rw [if_neg h9] at h
    by_cases hp : (Lib.hasPrefix (Lib.bytesOf (l0.take 9)) (Lib.bytesOf [77, 83, 72])) = false
    · rw [if_pos hp] at h
      simp only [Option.some.injEq, Prod.mk.injEq] at h
      obtain ⟨rfl, rfl, rfl, rfl, rfl, rfl⟩ := h
      exact delim_other A0 c0 l0 w hr0 hc0 (by omega) hp
    · rw [if_neg hp] at h
      obtain ⟨rt, hrt, hv⟩ := Option.map_eq_some_iff.1 h
      exact delim_on A0 c0 l0 w hr0 hc0 (by omega) (by simpa using hp) rt hrt r1 r2 r3 r4 r5 r6 hv
end Go.Proofs.YtciagecaegoppaaDoor
end
section
namespace Go.Proofs.YtciagecaegoppaaDoor
set_option linter.unusedVariables false
set_option maxRecDepth 100000
open Go.RowKit Go.Proofs.YtciagecaegoppaaDoorW.PrintWords

def textFn : Nat → Nat
  | 0 => 41
  | 1 => 42
  | 2 => 43
  | 3 => 44
  | 4 => 45
  | 5 => 46
  | 6 => 47
  | 7 => 48
  | 8 => 49
  | _ => 50
def textV (k : Nat) : Value := .func (.func (textFn k)) #[] #[]
def textsV : Value := .agg #[textV 0, textV 1, textV 2, textV 3, textV 4, textV 5, textV 6, textV 7, textV 8, textV 9]

set_option maxHeartbeats 2000000 in
theorem text_calls (k : Nat) (hk : k < 10) (g : Nat) (w : World) : Calls Tryd.prog (textFn k) #[.pointer (some ⟨g, 0, none⟩)] w fun e w' => e = .returned (.pointer (some ⟨g, 5 + k, none⟩)) ∧ w' = w := by
  rcases k with _ | _ | _ | _ | _ | _ | _ | _ | _ | _ | k
  · go_enter Tryd.func41, Tryd.ntmps41
    go_wp2
    go_ret
    exact ⟨rfl, rfl⟩
  · go_enter Tryd.func42, Tryd.ntmps42
    go_wp2
    go_ret
    exact ⟨rfl, rfl⟩
  · go_enter Tryd.func43, Tryd.ntmps43
    go_wp2
    go_ret
    exact ⟨rfl, rfl⟩
  · go_enter Tryd.func44, Tryd.ntmps44
    go_wp2
    go_ret
    exact ⟨rfl, rfl⟩
  · go_enter Tryd.func45, Tryd.ntmps45
    go_wp2
    go_ret
    exact ⟨rfl, rfl⟩
  · go_enter Tryd.func46, Tryd.ntmps46
    go_wp2
    go_ret
    exact ⟨rfl, rfl⟩
  · go_enter Tryd.func47, Tryd.ntmps47
    go_wp2
    go_ret
    exact ⟨rfl, rfl⟩
  · go_enter Tryd.func48, Tryd.ntmps48
    go_wp2
    go_ret
    exact ⟨rfl, rfl⟩
  · go_enter Tryd.func49, Tryd.ntmps49
    go_wp2
    go_ret
    exact ⟨rfl, rfl⟩
  · go_enter Tryd.func50, Tryd.ntmps50
    go_wp2
    go_ret
    exact ⟨rfl, rfl⟩
  · omega

set_option maxHeartbeats 2000000 in
theorem texts_calls (w : World) : Calls Tryd.prog 20 #[] w fun e w' => e = .returned textsV ∧ Below w.heap.size w w' := by
  go_enter Tryd.func20, Tryd.ntmps20
  go_wp2
  refine bodyPost_ret (results_single rfl (.cell w.heap.size 55 _ (0, 0) _ rfl (blk_new w _) Tryd.underlying55 rfl (by kernel_rfl) .nil)) rfl ?_
  exact ⟨rfl, below_alloc (Below.refl _ _) _⟩

/-- One of the ten, by its number. -/
theorem texts_index (k : Nat) (hk : k < 10) (w : World) : (Instr.index 55 textsV (.int .i64 (k : Nat))).run Tryd.prog w = .ok (.agg #[textV k]) w := by
  rcases k with _ | _ | _ | _ | _ | _ | _ | _ | _ | _ | k
  iterate 10 (next => kernel_rfl)
  omega
end Go.Proofs.YtciagecaegoppaaDoor
end
section
namespace Go.Proofs.YtciagecaegoppaaDoor.QField
open Go.RowKit Go.Proofs.YtciagecaegoppaaDoorW.PrintWords Go.Proofs.YtciagecaegoppaaDoorW.PrintLast Go.Proofs.YtciagecaegoppaaDoorW.PrintMore
attribute [local go_sem] max2_int min2_int max_two min_two max_three min_three max_four min_four   -- for this text's walks alone
set_option linter.unusedVariables false
set_option linter.unusedSimpArgs false

def errW : Option Int → Value
  | none => .nilIface
  | some c => .iface 0 (.int .i64 c)
theorem errW_none : errW none = .nilIface := rfl
theorem errW_some (c : Int) : errW (some c) = .iface 0 (.int .i64 c) := rfl

theorem info5 : (Tryd.prog.info? 5).map (fun i => (i.zero, i.size, i.bytes)) = some (some (.int .u8 0), 1, 1) := by kernel_rfl
-- the values' own types

end Go.Proofs.YtciagecaegoppaaDoor.QField
end
section
namespace Go.Proofs.YtciagecaegoppaaDoor.QField
open Go.RowKit Go.Proofs.YtciagecaegoppaaDoorW.PrintWords Go.Proofs.YtciagecaegoppaaDoorW.PrintLast Go.Proofs.YtciagecaegoppaaDoorW.PrintMore
attribute [local go_sem] max2_int min2_int max_two min_two max_three min_three max_four min_four   -- for this text's walks alone
set_option linter.unusedVariables false
set_option linter.unusedSimpArgs false

def segment_Name.f (a0 : ByteArray) : Option (ByteArray) := if 0 ≤ (mn (a0.size : Int) 3) then (if (mn (a0.size : Int) 3) ≤ (a0.size : Int) then (some (a0.extract 0 ((mn (a0.size : Int) 3) : Int).toNat)) else (none)) else (none)
set_option maxHeartbeats 8000000 in
set_option maxRecDepth 100000 in
theorem segment_Name.calls (a0 : ByteArray) (r : ByteArray) (w : World) (h : segment_Name.f a0 = some r) :
    Calls Tryd.prog 36 #[.string a0] w fun e w' => e = .returned (.string r) ∧ Below w.heap.size w w' := by
  have HB := Aside0.mk (Below.refl w.heap.size w)
  have H : (if 0 ≤ (mn (a0.size : Int) 3) then (if (mn (a0.size : Int) 3) ≤ (a0.size : Int) then (some (a0.extract 0 ((mn (a0.size : Int) 3) : Int).toNat)) else (none)) else (none)) = some r := h
  clear h
  obtain ⟨ji2, hji2⟩ : ∃ j_ : Int, (mn (a0.size : Int) 3) = j_ := ⟨_, rfl⟩
  replace H : (if 0 ≤ (ji2) then (if (ji2) ≤ (a0.size : Int) then (some (a0.extract 0 ((ji2) : Int).toNat)) else (none)) else (none)) = some r := by first | (rw [hji2] at H; exact H) | (simp only [hji2] at H ⊢; exact H)
  (try (have hji2h : ji2 ≤ 3 := by (rw [← hji2]; unfold mn; (repeat' split) <;> omega)))
  (try (have hji2g : ji2 ≤ 64 := by omega))
  (try (have hji2l : 0 ≤ ji2 := by (rw [← hji2]; unfold mn; (repeat' split) <;> omega)))
  (try (have hji2m : 0 ≤ ji2 := by omega))
  have hji2_ : (if 3 < (a0.size : Int) then 3 else (a0.size : Int)) = ji2 := hji2
  by_cases c3 : 0 ≤ (ji2)
  · rw [if_pos c3] at H
    have c3b0 := eq_true c3
    have c3b1 : decide (0 ≤ (ji2)) = true := decide_eq_true c3
    clear c3
    by_cases c4 : (ji2) ≤ (a0.size : Int)
    · rw [if_pos c4] at H
      have c4b0 := eq_true c4
      have c4b1 : decide ((ji2) ≤ (a0.size : Int)) = true := decide_eq_true c4
      clear c4
      obtain rfl := Option.some.inj H
      go_enter Tryd.func36, Tryd.ntmps36
      go_wp2
      go_ret
      exact ⟨by first | rfl | (simp [errW_none, errW_some] <;> rfl) | (simp only [← hji2]; first | rfl | (simp [errW_none, errW_some] <;> rfl)) | (simp [*, errW_none, errW_some] <;> rfl), by repeat (first | (with_reducible first | exact HB.out | apply below_alloc | apply pw_below_drewN | apply below_drew1) | exact HB.out)⟩
    · rw [if_neg c4] at H
      exact absurd H (by simp)
  · rw [if_neg c3] at H
    exact absurd H (by simp)

def stringslite_HasPrefix.f (a0 : ByteArray) (a1 : ByteArray) : Option (Bool) := if (a0.size : Int) ≥ (a1.size : Int) then (if 0 ≤ (a1.size : Int) then (if (a1.size : Int) ≤ (a0.size : Int) then (some ((a0.extract 0 ((a1.size : Int) : Int).toNat).toList == a1.toList)) else (none)) else (none)) else (some false)
set_option maxHeartbeats 8000000 in
set_option maxRecDepth 100000 in
theorem stringslite_HasPrefix.calls (a0 : ByteArray) (a1 : ByteArray) (r : Bool) (w : World) (h : stringslite_HasPrefix.f a0 a1 = some r) :
    Calls Tryd.prog 92 #[.string a0, .string a1] w fun e w' => e = .returned (.bool r) ∧ Drawn0 w w' := by
  have H : (if (a0.size : Int) ≥ (a1.size : Int) then (if 0 ≤ (a1.size : Int) then (if (a1.size : Int) ≤ (a0.size : Int) then (some ((a0.extract 0 ((a1.size : Int) : Int).toNat).toList == a1.toList)) else (none)) else (none)) else (some false)) = some r := h
  clear h
  by_cases c3 : (a0.size : Int) ≥ (a1.size : Int)
  · rw [if_pos c3] at H
    have c3b0 : decide ((a1.size : Int) ≤ (a0.size : Int)) = true := decide_eq_true c3
    have c3b1 : decide (a1.size ≤ a0.size) = true := decide_eq_true (Int.ofNat_le.mp c3)
    clear c3
    by_cases c4 : 0 ≤ (a1.size : Int)
    · rw [if_pos c4] at H
      have c4b0 := eq_true c4
      have c4b1 : decide (0 ≤ (a1.size : Int)) = true := decide_eq_true c4
      clear c4
      by_cases c5 : (a1.size : Int) ≤ (a0.size : Int)
      · rw [if_pos c5] at H
        have c5b0 := eq_true c5
        have c5b1 : decide ((a1.size : Int) ≤ (a0.size : Int)) = true := decide_eq_true c5
        clear c5
        obtain rfl := Option.some.inj H
        go_enter Tryd.func92, Tryd.ntmps92
        go_wp2
        go_ret
        exact ⟨by first | rfl | (simp; done) | (simp [*]; done), by repeat (first | exact Drawn0.refl _ | apply Drawn0.step)⟩
      · rw [if_neg c5] at H
        exact absurd H (by simp)
    · rw [if_neg c4] at H
      exact absurd H (by simp)
  · rw [if_neg c3] at H
    have c3b0 : decide ((a1.size : Int) ≤ (a0.size : Int)) = false := decide_eq_false c3
    have c3b1 : decide (a1.size ≤ a0.size) = false := decide_eq_false (fun h => c3 (Int.ofNat_le.mpr h))
    clear c3
    obtain rfl := Option.some.inj H
    go_enter Tryd.func92, Tryd.ntmps92
    go_wp2
    go_ret
    exact ⟨by first | rfl | (simp; done) | (simp [*]; done), by repeat (first | exact Drawn0.refl _ | apply Drawn0.step)⟩

def stringslite_CutPrefix.f (a0 : ByteArray) (a1 : ByteArray) : Option (ByteArray × Bool) := (stringslite_HasPrefix.f a0 a1).bind fun t101 => (if t101 = true then (if 0 ≤ (a1.size : Int) then (if (a1.size : Int) ≤ (a0.size : Int) then (some (a0.extract ((a1.size : Int) : Int).toNat a0.size, true)) else (none)) else (none)) else (some (a0, false)))
set_option maxHeartbeats 8000000 in
set_option maxRecDepth 100000 in
theorem stringslite_CutPrefix.calls (a0 : ByteArray) (a1 : ByteArray) (r1 : ByteArray) (r2 : Bool) (w : World) (h : stringslite_CutPrefix.f a0 a1 = some (r1, r2)) :
    Calls Tryd.prog 87 #[.string a0, .string a1] w fun e w' => e = .returned (.tuple #[.string r1, .bool r2]) ∧ Drawn0 w w' := by
  have H : ((stringslite_HasPrefix.f a0 a1).bind fun t101 => (if t101 = true then (if 0 ≤ (a1.size : Int) then (if (a1.size : Int) ≤ (a0.size : Int) then (some (a0.extract ((a1.size : Int) : Int).toNat a0.size, true)) else (none)) else (none)) else (some (a0, false)))) = some (r1, r2) := h
  clear h
  replace H := Option.bind_eq_some_iff.mp H
  obtain ⟨t101, A30, H⟩ := H
  replace H : (if t101 = true then (if 0 ≤ (a1.size : Int) then (if (a1.size : Int) ≤ (a0.size : Int) then (some (a0.extract ((a1.size : Int) : Int).toNat a0.size, true)) else (none)) else (none)) else (some (a0, false))) = some (r1, r2) := H
  have A3 := Aside0.mk A30
  clear A30
  by_cases c4 : t101 = true
  · subst c4
    have H1 : (if 0 ≤ (a1.size : Int) then (if (a1.size : Int) ≤ (a0.size : Int) then (some (a0.extract ((a1.size : Int) : Int).toNat a0.size, true)) else (none)) else (none)) = some (r1, r2) := by rw [if_pos rfl] at H; exact H
    clear H
    have H := H1
    clear H1
    by_cases c5 : 0 ≤ (a1.size : Int)
    · rw [if_pos c5] at H
      have c5b0 := eq_true c5
      have c5b1 : decide (0 ≤ (a1.size : Int)) = true := decide_eq_true c5
      clear c5
      by_cases c6 : (a1.size : Int) ≤ (a0.size : Int)
      · rw [if_pos c6] at H
        have c6b0 := eq_true c6
        have c6b1 : decide ((a1.size : Int) ≤ (a0.size : Int)) = true := decide_eq_true c6
        clear c6
        simp only [Option.some.injEq, Prod.mk.injEq] at H
        obtain ⟨rfl, rfl⟩ := H
        go_enter Tryd.func87, Tryd.ntmps87
        go_wp2_with (first | ((with_reducible refine gate_callee (f := 92) rfl ?_); refine goesL_ (some 8) rfl rfl Tryd.func92 (by kernel_rfl) rfl #[.string a0, .string a1] rfl (by (try simp only [List.map_toArray, List.map_cons, List.map_nil]); first | done | rfl | (simp only [List.length_drop, List.length_take]; rfl)) ?_; (with_reducible refine (stringslite_HasPrefix.calls a0 a1 true _ A3.out).mono ?_); rintro e w' ⟨rfl, ⟨nd, rfl⟩⟩; refine ⟨_, rfl, ?_⟩))
        go_ret2
        exact ⟨by first | rfl | (simp; done) | (simp [*]; done), by repeat (first | exact Drawn0.refl _ | apply Drawn0.step)⟩
      · rw [if_neg c6] at H
        exact absurd H (by simp)
    · rw [if_neg c5] at H
      exact absurd H (by simp)
  · replace c4 := Bool.eq_false_iff.mpr c4
    subst c4
    have H1 : (some (a0, false)) = some (r1, r2) := by rw [if_neg (show ¬ (false = true) by decide)] at H; exact H
    clear H
    have H := H1
    clear H1
    simp only [Option.some.injEq, Prod.mk.injEq] at H
    obtain ⟨rfl, rfl⟩ := H
    go_enter Tryd.func87, Tryd.ntmps87
    go_wp2_with (first | ((with_reducible refine gate_callee (f := 92) rfl ?_); refine goesL_ (some 8) rfl rfl Tryd.func92 (by kernel_rfl) rfl #[.string a0, .string a1] rfl (by (try simp only [List.map_toArray, List.map_cons, List.map_nil]); first | done | rfl | (simp only [List.length_drop, List.length_take]; rfl)) ?_; (with_reducible refine (stringslite_HasPrefix.calls a0 a1 false _ A3.out).mono ?_); rintro e w' ⟨rfl, ⟨nd, rfl⟩⟩; refine ⟨_, rfl, ?_⟩))
    go_ret2
    exact ⟨by first | rfl | (simp; done) | (simp [*]; done), by repeat (first | exact Drawn0.refl _ | apply Drawn0.step)⟩

def strings_CutPrefix.f (a0 : ByteArray) (a1 : ByteArray) : Option (ByteArray × Bool) := (stringslite_CutPrefix.f a0 a1).bind fun bt102 => (some (bt102.1, bt102.2))
set_option maxHeartbeats 8000000 in
set_option maxRecDepth 100000 in
theorem strings_CutPrefix.calls (a0 : ByteArray) (a1 : ByteArray) (r1 : ByteArray) (r2 : Bool) (w : World) (h : strings_CutPrefix.f a0 a1 = some (r1, r2)) :
    Calls Tryd.prog 78 #[.string a0, .string a1] w fun e w' => e = .returned (.tuple #[.string r1, .bool r2]) ∧ Drawn0 w w' := by
  have H : ((stringslite_CutPrefix.f a0 a1).bind fun bt102 => (some (bt102.1, bt102.2))) = some (r1, r2) := h
  clear h
  replace H := Option.bind_eq_some_iff.mp H
  obtain ⟨⟨t102, t103⟩, A30, H⟩ := H
  replace H : (some (t102, t103)) = some (r1, r2) := H
  have A3 := Aside0.mk A30
  clear A30
  simp only [Option.some.injEq, Prod.mk.injEq] at H
  obtain ⟨rfl, rfl⟩ := H
  go_enter Tryd.func78, Tryd.ntmps78
  go_wp2_with (first | ((with_reducible refine gate_callee (f := 87) rfl ?_); refine goesL_ (some 8) rfl rfl Tryd.func87 (by kernel_rfl) rfl #[.string a0, .string a1] rfl (by (try simp only [List.map_toArray, List.map_cons, List.map_nil]); first | done | rfl | (simp only [List.length_drop, List.length_take]; rfl)) ?_; (with_reducible refine (stringslite_CutPrefix.calls a0 a1 t102 t103 _ A3.out).mono ?_); rintro e w' ⟨rfl, ⟨nd, rfl⟩⟩; refine ⟨_, rfl, ?_⟩))
  go_ret2
  exact ⟨by first | rfl | (simp; done) | (simp [*]; done), by repeat (first | exact Drawn0.refl _ | apply Drawn0.step)⟩

def segment_field.f (a0 : ByteArray) (a1 : Int) (a2_0 : Int) (a2_1 : Int) (a2_2 : Int) (a2_3 : Int) (a2_4 : Int) : Option (ByteArray × Int) := (segment_Name.f a0).bind fun t105 => (if t105.toList = ([77, 83, 72] : List UInt8) then ((some (([a2_0] : List Int) : List Int)).bind fun y114 => (if 3 + (strOfNums y114).size ≤ 9223372036854775807 then ((strings_CutPrefix.f a0 ((⟨#[77, 83, 72]⟩ : ByteArray) ++ (strOfNums y114))).bind fun bt117 => (if bt117.2 = true then ((segment_nth.f bt117.1 a2_0 (wrap64 (a1 - 1))).bind fun bt119 => (if a1 = 1 then (some (strOfNums (([a2_0] : List Int)), wrap64 (bt119.2 + 1))) else (some (bt119.1, wrap64 (bt119.2 + 1))))) else (some ((⟨#[]⟩ : ByteArray), 0)))) else (none))) else ((strings_Cut.f a0 (strOfNums (([a2_0] : List Int)))).bind fun bt109 => (if bt109.2.2 = true then ((segment_nth.f bt109.2.1 a2_0 a1).bind fun bt112 => (some (bt112.1, bt112.2))) else (some ((⟨#[]⟩ : ByteArray), 0)))))
set_option maxHeartbeats 8000000 in
set_option maxRecDepth 100000 in
theorem segment_field.calls (a0 : ByteArray) (a1 : Int) (a2_0 : Int) (a2_1 : Int) (a2_2 : Int) (a2_3 : Int) (a2_4 : Int) (r1 : ByteArray) (r2 : Int) (w : World) (hG : GlobA w) (h : segment_field.f a0 a1 a2_0 a2_1 a2_2 a2_3 a2_4 = some (r1, r2)) :
    Calls Tryd.prog 64 #[.string a0, .int .i64 a1, .agg #[.int .u8 a2_0, .int .u8 a2_1, .int .u8 a2_2, .int .u8 a2_3, .int .u8 a2_4]] w fun e w' => e = .returned (.tuple #[.string r1, .int .i64 r2]) ∧ Below w.heap.size w w' := by
  have hu23 := Tryd.underlying23
  have HG := Aside0.mk hG
  clear hG
  have HB := Aside0.mk (Below.refl w.heap.size w)
  have H : ((segment_Name.f a0).bind fun t105 => (if t105.toList = ([77, 83, 72] : List UInt8) then ((some (([a2_0] : List Int) : List Int)).bind fun y114 => (if 3 + (strOfNums y114).size ≤ 9223372036854775807 then ((strings_CutPrefix.f a0 ((⟨#[77, 83, 72]⟩ : ByteArray) ++ (strOfNums y114))).bind fun bt117 => (if bt117.2 = true then ((segment_nth.f bt117.1 a2_0 (wrap64 (a1 - 1))).bind fun bt119 => (if a1 = 1 then (some (strOfNums (([a2_0] : List Int)), wrap64 (bt119.2 + 1))) else (some (bt119.1, wrap64 (bt119.2 + 1))))) else (some ((⟨#[]⟩ : ByteArray), 0)))) else (none))) else ((strings_Cut.f a0 (strOfNums (([a2_0] : List Int)))).bind fun bt109 => (if bt109.2.2 = true then ((segment_nth.f bt109.2.1 a2_0 a1).bind fun bt112 => (some (bt112.1, bt112.2))) else (some ((⟨#[]⟩ : ByteArray), 0)))))) = some (r1, r2) := h
  clear h
  replace H := Option.bind_eq_some_iff.mp H
  obtain ⟨t105, A40, H⟩ := H
  replace H : (if t105.toList = ([77, 83, 72] : List UInt8) then ((some (([a2_0] : List Int) : List Int)).bind fun y114 => (if 3 + (strOfNums y114).size ≤ 9223372036854775807 then ((strings_CutPrefix.f a0 ((⟨#[77, 83, 72]⟩ : ByteArray) ++ (strOfNums y114))).bind fun bt117 => (if bt117.2 = true then ((segment_nth.f bt117.1 a2_0 (wrap64 (a1 - 1))).bind fun bt119 => (if a1 = 1 then (some (strOfNums (([a2_0] : List Int)), wrap64 (bt119.2 + 1))) else (some (bt119.1, wrap64 (bt119.2 + 1))))) else (some ((⟨#[]⟩ : ByteArray), 0)))) else (none))) else ((strings_Cut.f a0 (strOfNums (([a2_0] : List Int)))).bind fun bt109 => (if bt109.2.2 = true then ((segment_nth.f bt109.2.1 a2_0 a1).bind fun bt112 => (some (bt112.1, bt112.2))) else (some ((⟨#[]⟩ : ByteArray), 0))))) = some (r1, r2) := H
  have A4 := Aside0.mk A40
  clear A40
  by_cases c5 : t105.toList = ([77, 83, 72] : List UInt8)
  · rw [if_pos c5] at H
    have c5b0 : (t105.toList == ([77, 83, 72] : List UInt8)) = true := beq_iff_eq.mpr c5
    have c5b1 : (t105.toList != ([77, 83, 72] : List UInt8)) = false := bne_eq_false_iff_eq.mpr c5
    clear c5
    obtain ⟨y114, hy114⟩ : ∃ y_ : List Int, y_ = (([a2_0] : List Int)) := ⟨_, rfl⟩
    replace H : (if 3 + (strOfNums y114).size ≤ 9223372036854775807 then ((strings_CutPrefix.f a0 ((⟨#[77, 83, 72]⟩ : ByteArray) ++ (strOfNums y114))).bind fun bt117 => (if bt117.2 = true then ((segment_nth.f bt117.1 a2_0 (wrap64 (a1 - 1))).bind fun bt119 => (if a1 = 1 then (some (strOfNums (([a2_0] : List Int)), wrap64 (bt119.2 + 1))) else (some (bt119.1, wrap64 (bt119.2 + 1))))) else (some ((⟨#[]⟩ : ByteArray), 0)))) else (none)) = some (r1, r2) := by first | (rw [hy114]; with_reducible exact H) | (have H2_ := (Option.bind_some _ _).symm.trans H; rw [hy114]; with_reducible exact H2_) | (have H2_ := (Option.bind_some _ _).symm.trans H; with_reducible exact H2_) | with_reducible exact H | (rw [hy114]; exact H) | exact H
    have Ny114 := Aside0.mk hy114
    clear hy114
    by_cases c6 : 3 + (strOfNums y114).size ≤ 9223372036854775807
    · rw [if_pos c6] at H
      have c6b0 := eq_true c6
      have c6b1 : decide (3 + (strOfNums y114).size ≤ 9223372036854775807) = true := decide_eq_true c6
      try have c6b2 : (9223372036854775807 < 3 + (strOfNums y114).size) = False := eq_false (Nat.not_lt.2 c6)
      replace H := Option.bind_eq_some_iff.mp H
      obtain ⟨⟨t117, t118⟩, A70, H⟩ := H
      replace H : (if t118 = true then ((segment_nth.f t117 a2_0 (wrap64 (a1 - 1))).bind fun bt119 => (if a1 = 1 then (some (strOfNums (([a2_0] : List Int)), wrap64 (bt119.2 + 1))) else (some (bt119.1, wrap64 (bt119.2 + 1))))) else (some ((⟨#[]⟩ : ByteArray), 0))) = some (r1, r2) := H
      have A7 := Aside0.mk A70
      clear A70
      by_cases c8 : t118 = true
      · subst c8
        have H1 : ((segment_nth.f t117 a2_0 (wrap64 (a1 - 1))).bind fun bt119 => (if a1 = 1 then (some (strOfNums (([a2_0] : List Int)), wrap64 (bt119.2 + 1))) else (some (bt119.1, wrap64 (bt119.2 + 1))))) = some (r1, r2) := by rw [if_pos rfl] at H; exact H
        clear H
        have H := H1
        clear H1
        replace H := Option.bind_eq_some_iff.mp H
        obtain ⟨⟨t119, t120⟩, A90, H⟩ := H
        replace H : (if a1 = 1 then (some (strOfNums (([a2_0] : List Int)), wrap64 (t120 + 1))) else (some (t119, wrap64 (t120 + 1)))) = some (r1, r2) := H
        have A9 := Aside0.mk A90
        clear A90
        by_cases c10 : a1 = 1
        · rw [if_pos c10] at H
          have c10b0 : (a1 == 1) = true := beq_iff_eq.mpr c10
          have c10b1 : (a1 != 1) = false := bne_eq_false_iff_eq.mpr c10
          clear c10
          obtain ⟨y121, hy121⟩ : ∃ y_ : List Int, y_ = (([a2_0] : List Int)) := ⟨_, rfl⟩
          replace H : (some (strOfNums y121, wrap64 (t120 + 1))) = some (r1, r2) := by first | (rw [hy121]; with_reducible exact H) | (have H2_ := (Option.bind_some _ _).symm.trans H; rw [hy121]; with_reducible exact H2_) | (have H2_ := (Option.bind_some _ _).symm.trans H; with_reducible exact H2_) | with_reducible exact H | (rw [hy121]; exact H) | exact H
          have Ny121 := Aside0.mk hy121
          clear hy121
          simp only [Option.some.injEq, Prod.mk.injEq] at H
          obtain ⟨rfl, rfl⟩ := H
          go_enter Tryd.func64, Tryd.ntmps64
          go_wp2_with (first | ((with_reducible refine gate_dst (N := 5) rfl ?_); refine box_event ?hg (N := 5) ?hd (cs := #[.int .u8 a2_0, .int .u8 a2_1, .int .u8 a2_2, .int .u8 a2_3, .int .u8 a2_4]) (t := 23) ?hr ?_; (case hd => rfl); (case hg => rfl); (case hr => first | (go_simp; done) | (go_simp; rfl)); intro gb104 hg w11 hbox hb; have n0_ := Aside0.mk (below_step (by repeat (first | (with_reducible first | exact HB.out | apply below_alloc | apply pw_below_drewN | apply below_drew1) | exact HB.out)) hb); have n1_ := Aside0.mk (hbox); have n2_ := Aside0.mk ((by rw [hg]; exact (below_size (by repeat (first | (with_reducible first | exact HB.out | apply below_alloc | apply pw_below_drewN | apply below_drew1) | exact HB.out))) : w.heap.size ≤ gb104)); have n3_ := Aside0.mk ((by rw [hg]; exact (below_size (by repeat (first | (with_reducible first | exact HB.out | apply below_alloc | apply pw_below_drewN | apply below_drew1) | exact HB.out))) : w.heap.size ≤ gb104)); clear HB; have HB := n0_; have BK104 := n1_; have GW104 := n2_; have GE104 := n3_; clear n0_ n1_ n2_ n3_; clear hb hbox hg) | ((with_reducible refine gate_callee (f := 36) rfl ?_); refine goesL_ (some 16) rfl rfl Tryd.func36 (by kernel_rfl) rfl #[.string a0] rfl (by (try simp only [List.map_toArray, List.map_cons, List.map_nil]); first | done | rfl | (simp only [List.length_drop, List.length_take]; rfl)) ?_; (with_reducible refine (segment_Name.calls a0 t105 _ A4.out).mono ?_); rintro e w12 ⟨rfl, hb⟩; refine ⟨_, rfl, ?_⟩; have n0_ := Aside0.mk (blk_below (g := gb104) (o := .cells #[.int .u8 a2_0, .int .u8 a2_1, .int .u8 a2_2, .int .u8 a2_3, .int .u8 a2_4] 23 (0, 0)) (by (with_reducible repeat (first | refine blk_drewN ?_ _ | refine blk_drew ?_ | refine blk_alloc ?_ _)); exact BK104.out) hb); have n1_ := Aside0.mk (below_step (by repeat (first | (with_reducible first | exact HB.out | apply below_alloc | apply pw_below_drewN | apply below_drew1 | refine below_set ?_ GE104.out) | exact HB.out)) hb); clear BK104; clear HB; have BK104 := n0_; have HB := n1_; clear n0_ n1_; (try clear hb); (try clear hb2); (try clear hk); (try clear hi); have hcz13_0 : w12.cell? ⟨gb104, 0, none⟩ = some (.int .u8 a2_0) := (blk_cell BK104.out 0).trans rfl; have hcz13_1 : w12.cell? ⟨gb104, 1, none⟩ = some (.int .u8 a2_1) := (blk_cell BK104.out 1).trans rfl; have hcz13_2 : w12.cell? ⟨gb104, 2, none⟩ = some (.int .u8 a2_2) := (blk_cell BK104.out 2).trans rfl; have hcz13_3 : w12.cell? ⟨gb104, 3, none⟩ = some (.int .u8 a2_3) := (blk_cell BK104.out 3).trans rfl; have hcz13_4 : w12.cell? ⟨gb104, 4, none⟩ = some (.int .u8 a2_4) := (blk_cell BK104.out 4).trans rfl; have hfz13_0 := blk_frozen BK104.out 0; have hfz13_1 := blk_frozen BK104.out 1; have hfz13_2 := blk_frozen BK104.out 2; have hfz13_3 := blk_frozen BK104.out 3; have hfz13_4 := blk_frozen BK104.out 4) | ((with_reducible refine gate_dst (N := 41) rfl ?_); refine Kd.R_lit (Kd.int .u8) _ 5 ?hg (N := 41) ?hd (xs := ([a2_0] : List Int)) (inner := [.int .u8 a2_0]) (ok := fun _ => True) (okp := fun _ => True) ?hr ?hp (fun _ hk => hk) trivial (Below.refl _ _) (Nat.le_refl _) (by simp) ?_; (case hd => rfl); (case hg => rfl); (case hr => first | (go_simp; done) | (go_simp; rfl)); (case hp => exact (Reps.one (show Kd.M (Kd.int .u8) _ _ _ a2_0 [.int .u8 a2_0] from rfl) (Reps.none _ _))); intro v115 w14 ho15 hb hg_ hnew_; clear hg_ hnew_; (first | rw [← Ny114.out] at ho15 | (simp only [Int.reduceToNat] at ho15; rw [← Ny114.out] at ho15)); have n0_ := Aside0.mk (Kd.R_lower ho15 (below_size (by repeat (first | (with_reducible first | exact HB.out | apply below_alloc | apply pw_below_drewN | apply below_drew1 | refine below_set ?_ GE104.out) | exact HB.out)))); have n1_ := Aside0.mk (blk_below (g := gb104) (o := .cells #[.int .u8 a2_0, .int .u8 a2_1, .int .u8 a2_2, .int .u8 a2_3, .int .u8 a2_4] 23 (0, 0)) (by (with_reducible repeat (first | refine blk_drewN ?_ _ | refine blk_drew ?_ | refine blk_alloc ?_ _)); exact BK104.out) hb); have n2_ := Aside0.mk (below_step (by repeat (first | (with_reducible first | exact HB.out | apply below_alloc | apply pw_below_drewN | apply below_drew1 | refine below_set ?_ GE104.out) | exact HB.out)) hb); clear BK104; clear HB; have HO116 := n0_; have BK104 := n1_; have HB := n2_; clear n0_ n1_ n2_; clear hb ho15; have hcv16 := own_string (P := Tryd.prog) Tryd.underlying26 Tryd.underlying5 Tryd.underlying9 (Kd.own_of_R HO116.out)) | ((with_reducible refine gate_callee (f := 78) rfl ?_); refine goesL_ (some 44) rfl rfl Tryd.func78 (by kernel_rfl) rfl #[.string a0, .string ((⟨#[77, 83, 72]⟩ : ByteArray) ++ (strOfNums y114))] rfl (by (try simp only [List.map_toArray, List.map_cons, List.map_nil]); first | done | rfl | (simp only [List.length_drop, List.length_take]; rfl)) ?_; (with_reducible refine (strings_CutPrefix.calls a0 ((⟨#[77, 83, 72]⟩ : ByteArray) ++ (strOfNums y114)) t117 true _ A7.out).mono ?_); rintro e w' ⟨rfl, ⟨nd, rfl⟩⟩; refine ⟨_, rfl, ?_⟩; have hcz17_0 : w14.cell? ⟨gb104, 0, none⟩ = some (.int .u8 a2_0) := (blk_cell BK104.out 0).trans rfl; have hcz17_1 : w14.cell? ⟨gb104, 1, none⟩ = some (.int .u8 a2_1) := (blk_cell BK104.out 1).trans rfl; have hcz17_2 : w14.cell? ⟨gb104, 2, none⟩ = some (.int .u8 a2_2) := (blk_cell BK104.out 2).trans rfl; have hcz17_3 : w14.cell? ⟨gb104, 3, none⟩ = some (.int .u8 a2_3) := (blk_cell BK104.out 3).trans rfl; have hcz17_4 : w14.cell? ⟨gb104, 4, none⟩ = some (.int .u8 a2_4) := (blk_cell BK104.out 4).trans rfl; have hfz17_0 := blk_frozen BK104.out 0; have hfz17_1 := blk_frozen BK104.out 1; have hfz17_2 := blk_frozen BK104.out 2; have hfz17_3 := blk_frozen BK104.out 3; have hfz17_4 := blk_frozen BK104.out 4) | ((with_reducible refine gate_callee (f := 75) rfl ?_); refine goesL_ (some 55) rfl rfl Tryd.func75 (by kernel_rfl) rfl #[.string t117, .int .u8 a2_0, .int .i64 (wrap64 (a1 - 1))] rfl (by (try simp only [List.map_toArray, List.map_cons, List.map_nil]); first | done | rfl | (simp only [List.length_drop, List.length_take]; rfl)) ?_; (with_reducible refine (segment_nth.calls t117 a2_0 (wrap64 (a1 - 1)) t119 t120 _ ?side1 A9.out).mono ?_); (case side1 => exact GlobA.below HG.out (by repeat (first | (with_reducible first | exact HB.out | apply below_alloc | apply pw_below_drewN | apply below_drew1 | refine below_set ?_ GE104.out) | exact HB.out))); rintro e w18 ⟨rfl, hb⟩; refine ⟨_, rfl, ?_⟩; have n0_ := Aside0.mk (Kd.R_below (by (with_reducible repeat (first | apply Kd.R_alloc | apply Kd.R_drewN | apply Kd.R_drew)); exact HO116.out) hb); have n1_ := Aside0.mk (blk_below (g := gb104) (o := .cells #[.int .u8 a2_0, .int .u8 a2_1, .int .u8 a2_2, .int .u8 a2_3, .int .u8 a2_4] 23 (0, 0)) (by (with_reducible repeat (first | refine blk_drewN ?_ _ | refine blk_drew ?_ | refine blk_alloc ?_ _)); exact BK104.out) hb); have n2_ := Aside0.mk (below_step (by repeat (first | (with_reducible first | exact HB.out | apply below_alloc | apply pw_below_drewN | apply below_drew1 | refine below_set ?_ GE104.out) | exact HB.out)) hb); clear HO116; clear BK104; clear HB; have HO116 := n0_; have BK104 := n1_; have HB := n2_; clear n0_ n1_ n2_; (try clear hb); (try clear hb2); (try clear hk); (try clear hi); have hcz19_0 : w18.cell? ⟨gb104, 0, none⟩ = some (.int .u8 a2_0) := (blk_cell BK104.out 0).trans rfl; have hcz19_1 : w18.cell? ⟨gb104, 1, none⟩ = some (.int .u8 a2_1) := (blk_cell BK104.out 1).trans rfl; have hcz19_2 : w18.cell? ⟨gb104, 2, none⟩ = some (.int .u8 a2_2) := (blk_cell BK104.out 2).trans rfl; have hcz19_3 : w18.cell? ⟨gb104, 3, none⟩ = some (.int .u8 a2_3) := (blk_cell BK104.out 3).trans rfl; have hcz19_4 : w18.cell? ⟨gb104, 4, none⟩ = some (.int .u8 a2_4) := (blk_cell BK104.out 4).trans rfl; have hfz19_0 := blk_frozen BK104.out 0; have hfz19_1 := blk_frozen BK104.out 1; have hfz19_2 := blk_frozen BK104.out 2; have hfz19_3 := blk_frozen BK104.out 3; have hfz19_4 := blk_frozen BK104.out 4) | ((with_reducible refine gate_dst (N := 62) rfl ?_); refine Kd.R_lit (Kd.int .u8) _ 5 ?hg (N := 62) ?hd (xs := ([a2_0] : List Int)) (inner := [.int .u8 a2_0]) (ok := fun _ => True) (okp := fun _ => True) ?hr ?hp (fun _ hk => hk) trivial (Below.refl _ _) (Nat.le_refl _) (by simp) ?_; (case hd => rfl); (case hg => rfl); (case hr => first | (go_simp; done) | (go_simp; rfl)); (case hp => exact (Reps.one (show Kd.M (Kd.int .u8) _ _ _ a2_0 [.int .u8 a2_0] from rfl) (Reps.none _ _))); intro v122 w20 ho21 hb hg_ hnew_; clear hg_ hnew_; (first | rw [← Ny121.out] at ho21 | (simp only [Int.reduceToNat] at ho21; rw [← Ny121.out] at ho21)); have n0_ := Aside0.mk (Kd.R_elder' (by (with_reducible repeat (first | apply Kd.R_alloc | apply Kd.R_drewN | apply Kd.R_drew)); exact HO116.out) (Kd.R_base ho21) hb); have n1_ := Aside0.mk (Kd.R_lower (Kd.R_new' ho21 (Kd.R_lt (by (with_reducible repeat (first | apply Kd.R_alloc | apply Kd.R_drewN | apply Kd.R_drew)); exact HO116.out))) (below_size (by repeat (first | (with_reducible first | exact HB.out | apply below_alloc | apply pw_below_drewN | apply below_drew1 | refine below_set ?_ GE104.out) | exact HB.out)))); have n2_ := Aside0.mk (blk_below (g := gb104) (o := .cells #[.int .u8 a2_0, .int .u8 a2_1, .int .u8 a2_2, .int .u8 a2_3, .int .u8 a2_4] 23 (0, 0)) (by (with_reducible repeat (first | refine blk_drewN ?_ _ | refine blk_drew ?_ | refine blk_alloc ?_ _)); exact BK104.out) hb); have n3_ := Aside0.mk (below_step (by repeat (first | (with_reducible first | exact HB.out | apply below_alloc | apply pw_below_drewN | apply below_drew1 | refine below_set ?_ GE104.out) | exact HB.out)) hb); clear HO116; clear BK104; clear HB; have HO116 := n0_; have HO123 := n1_; have BK104 := n2_; have HB := n3_; clear n0_ n1_ n2_ n3_; clear hb ho21; have hcv22 := own_string (P := Tryd.prog) Tryd.underlying26 Tryd.underlying5 Tryd.underlying9 (Kd.own_of_R HO123.out)))
          go_ret2
          exact ⟨by first | rfl | (simp [errW_none, errW_some] <;> rfl) | (simp [*, errW_none, errW_some] <;> rfl), by repeat (first | (with_reducible first | exact HB.out | apply below_alloc | apply pw_below_drewN | apply below_drew1 | refine below_set ?_ GE104.out) | exact HB.out)⟩
        · rw [if_neg c10] at H
          have c10b0 : (a1 == 1) = false := beq_eq_false_iff_ne.mpr c10
          have c10b1 : (a1 != 1) = true := bne_iff_ne.mpr c10
          simp only [Option.some.injEq, Prod.mk.injEq] at H
          obtain ⟨rfl, rfl⟩ := H
          go_enter Tryd.func64, Tryd.ntmps64
          go_wp2_with (first | ((with_reducible refine gate_dst (N := 5) rfl ?_); refine box_event ?hg (N := 5) ?hd (cs := #[.int .u8 a2_0, .int .u8 a2_1, .int .u8 a2_2, .int .u8 a2_3, .int .u8 a2_4]) (t := 23) ?hr ?_; (case hd => rfl); (case hg => rfl); (case hr => first | (go_simp; done) | (go_simp; rfl)); intro gb104 hg w23 hbox hb; have n0_ := Aside0.mk (below_step (by repeat (first | (with_reducible first | exact HB.out | apply below_alloc | apply pw_below_drewN | apply below_drew1) | exact HB.out)) hb); have n1_ := Aside0.mk (hbox); have n2_ := Aside0.mk ((by rw [hg]; exact (below_size (by repeat (first | (with_reducible first | exact HB.out | apply below_alloc | apply pw_below_drewN | apply below_drew1) | exact HB.out))) : w.heap.size ≤ gb104)); have n3_ := Aside0.mk ((by rw [hg]; exact (below_size (by repeat (first | (with_reducible first | exact HB.out | apply below_alloc | apply pw_below_drewN | apply below_drew1) | exact HB.out))) : w.heap.size ≤ gb104)); clear HB; have HB := n0_; have BK104 := n1_; have GW104 := n2_; have GE104 := n3_; clear n0_ n1_ n2_ n3_; clear hb hbox hg) | ((with_reducible refine gate_callee (f := 36) rfl ?_); refine goesL_ (some 16) rfl rfl Tryd.func36 (by kernel_rfl) rfl #[.string a0] rfl (by (try simp only [List.map_toArray, List.map_cons, List.map_nil]); first | done | rfl | (simp only [List.length_drop, List.length_take]; rfl)) ?_; (with_reducible refine (segment_Name.calls a0 t105 _ A4.out).mono ?_); rintro e w24 ⟨rfl, hb⟩; refine ⟨_, rfl, ?_⟩; have n0_ := Aside0.mk (blk_below (g := gb104) (o := .cells #[.int .u8 a2_0, .int .u8 a2_1, .int .u8 a2_2, .int .u8 a2_3, .int .u8 a2_4] 23 (0, 0)) (by (with_reducible repeat (first | refine blk_drewN ?_ _ | refine blk_drew ?_ | refine blk_alloc ?_ _)); exact BK104.out) hb); have n1_ := Aside0.mk (below_step (by repeat (first | (with_reducible first | exact HB.out | apply below_alloc | apply pw_below_drewN | apply below_drew1 | refine below_set ?_ GE104.out) | exact HB.out)) hb); clear BK104; clear HB; have BK104 := n0_; have HB := n1_; clear n0_ n1_; (try clear hb); (try clear hb2); (try clear hk); (try clear hi); have hcz25_0 : w24.cell? ⟨gb104, 0, none⟩ = some (.int .u8 a2_0) := (blk_cell BK104.out 0).trans rfl; have hcz25_1 : w24.cell? ⟨gb104, 1, none⟩ = some (.int .u8 a2_1) := (blk_cell BK104.out 1).trans rfl; have hcz25_2 : w24.cell? ⟨gb104, 2, none⟩ = some (.int .u8 a2_2) := (blk_cell BK104.out 2).trans rfl; have hcz25_3 : w24.cell? ⟨gb104, 3, none⟩ = some (.int .u8 a2_3) := (blk_cell BK104.out 3).trans rfl; have hcz25_4 : w24.cell? ⟨gb104, 4, none⟩ = some (.int .u8 a2_4) := (blk_cell BK104.out 4).trans rfl; have hfz25_0 := blk_frozen BK104.out 0; have hfz25_1 := blk_frozen BK104.out 1; have hfz25_2 := blk_frozen BK104.out 2; have hfz25_3 := blk_frozen BK104.out 3; have hfz25_4 := blk_frozen BK104.out 4) | ((with_reducible refine gate_dst (N := 41) rfl ?_); refine Kd.R_lit (Kd.int .u8) _ 5 ?hg (N := 41) ?hd (xs := ([a2_0] : List Int)) (inner := [.int .u8 a2_0]) (ok := fun _ => True) (okp := fun _ => True) ?hr ?hp (fun _ hk => hk) trivial (Below.refl _ _) (Nat.le_refl _) (by simp) ?_; (case hd => rfl); (case hg => rfl); (case hr => first | (go_simp; done) | (go_simp; rfl)); (case hp => exact (Reps.one (show Kd.M (Kd.int .u8) _ _ _ a2_0 [.int .u8 a2_0] from rfl) (Reps.none _ _))); intro v115 w26 ho27 hb hg_ hnew_; clear hg_ hnew_; (first | rw [← Ny114.out] at ho27 | (simp only [Int.reduceToNat] at ho27; rw [← Ny114.out] at ho27)); have n0_ := Aside0.mk (Kd.R_lower ho27 (below_size (by repeat (first | (with_reducible first | exact HB.out | apply below_alloc | apply pw_below_drewN | apply below_drew1 | refine below_set ?_ GE104.out) | exact HB.out)))); have n1_ := Aside0.mk (blk_below (g := gb104) (o := .cells #[.int .u8 a2_0, .int .u8 a2_1, .int .u8 a2_2, .int .u8 a2_3, .int .u8 a2_4] 23 (0, 0)) (by (with_reducible repeat (first | refine blk_drewN ?_ _ | refine blk_drew ?_ | refine blk_alloc ?_ _)); exact BK104.out) hb); have n2_ := Aside0.mk (below_step (by repeat (first | (with_reducible first | exact HB.out | apply below_alloc | apply pw_below_drewN | apply below_drew1 | refine below_set ?_ GE104.out) | exact HB.out)) hb); clear BK104; clear HB; have HO116 := n0_; have BK104 := n1_; have HB := n2_; clear n0_ n1_ n2_; clear hb ho27; have hcv28 := own_string (P := Tryd.prog) Tryd.underlying26 Tryd.underlying5 Tryd.underlying9 (Kd.own_of_R HO116.out)) | ((with_reducible refine gate_callee (f := 78) rfl ?_); refine goesL_ (some 44) rfl rfl Tryd.func78 (by kernel_rfl) rfl #[.string a0, .string ((⟨#[77, 83, 72]⟩ : ByteArray) ++ (strOfNums y114))] rfl (by (try simp only [List.map_toArray, List.map_cons, List.map_nil]); first | done | rfl | (simp only [List.length_drop, List.length_take]; rfl)) ?_; (with_reducible refine (strings_CutPrefix.calls a0 ((⟨#[77, 83, 72]⟩ : ByteArray) ++ (strOfNums y114)) t117 true _ A7.out).mono ?_); rintro e w' ⟨rfl, ⟨nd, rfl⟩⟩; refine ⟨_, rfl, ?_⟩; have hcz29_0 : w26.cell? ⟨gb104, 0, none⟩ = some (.int .u8 a2_0) := (blk_cell BK104.out 0).trans rfl; have hcz29_1 : w26.cell? ⟨gb104, 1, none⟩ = some (.int .u8 a2_1) := (blk_cell BK104.out 1).trans rfl; have hcz29_2 : w26.cell? ⟨gb104, 2, none⟩ = some (.int .u8 a2_2) := (blk_cell BK104.out 2).trans rfl; have hcz29_3 : w26.cell? ⟨gb104, 3, none⟩ = some (.int .u8 a2_3) := (blk_cell BK104.out 3).trans rfl; have hcz29_4 : w26.cell? ⟨gb104, 4, none⟩ = some (.int .u8 a2_4) := (blk_cell BK104.out 4).trans rfl; have hfz29_0 := blk_frozen BK104.out 0; have hfz29_1 := blk_frozen BK104.out 1; have hfz29_2 := blk_frozen BK104.out 2; have hfz29_3 := blk_frozen BK104.out 3; have hfz29_4 := blk_frozen BK104.out 4) | ((with_reducible refine gate_callee (f := 75) rfl ?_); refine goesL_ (some 55) rfl rfl Tryd.func75 (by kernel_rfl) rfl #[.string t117, .int .u8 a2_0, .int .i64 (wrap64 (a1 - 1))] rfl (by (try simp only [List.map_toArray, List.map_cons, List.map_nil]); first | done | rfl | (simp only [List.length_drop, List.length_take]; rfl)) ?_; (with_reducible refine (segment_nth.calls t117 a2_0 (wrap64 (a1 - 1)) t119 t120 _ ?side1 A9.out).mono ?_); (case side1 => exact GlobA.below HG.out (by repeat (first | (with_reducible first | exact HB.out | apply below_alloc | apply pw_below_drewN | apply below_drew1 | refine below_set ?_ GE104.out) | exact HB.out))); rintro e w30 ⟨rfl, hb⟩; refine ⟨_, rfl, ?_⟩; have n0_ := Aside0.mk (Kd.R_below (by (with_reducible repeat (first | apply Kd.R_alloc | apply Kd.R_drewN | apply Kd.R_drew)); exact HO116.out) hb); have n1_ := Aside0.mk (blk_below (g := gb104) (o := .cells #[.int .u8 a2_0, .int .u8 a2_1, .int .u8 a2_2, .int .u8 a2_3, .int .u8 a2_4] 23 (0, 0)) (by (with_reducible repeat (first | refine blk_drewN ?_ _ | refine blk_drew ?_ | refine blk_alloc ?_ _)); exact BK104.out) hb); have n2_ := Aside0.mk (below_step (by repeat (first | (with_reducible first | exact HB.out | apply below_alloc | apply pw_below_drewN | apply below_drew1 | refine below_set ?_ GE104.out) | exact HB.out)) hb); clear HO116; clear BK104; clear HB; have HO116 := n0_; have BK104 := n1_; have HB := n2_; clear n0_ n1_ n2_; (try clear hb); (try clear hb2); (try clear hk); (try clear hi)))
          go_ret2
          exact ⟨by first | rfl | (simp [errW_none, errW_some] <;> rfl) | (simp [*, errW_none, errW_some] <;> rfl), by repeat (first | (with_reducible first | exact HB.out | apply below_alloc | apply pw_below_drewN | apply below_drew1 | refine below_set ?_ GE104.out) | exact HB.out)⟩
      · replace c8 := Bool.eq_false_iff.mpr c8
        subst c8
        have H1 : (some ((⟨#[]⟩ : ByteArray), 0)) = some (r1, r2) := by rw [if_neg (show ¬ (false = true) by decide)] at H; exact H
        clear H
        have H := H1
        clear H1
        simp only [Option.some.injEq, Prod.mk.injEq] at H
        obtain ⟨rfl, rfl⟩ := H
        go_enter Tryd.func64, Tryd.ntmps64
        go_wp2_with (first | ((with_reducible refine gate_dst (N := 5) rfl ?_); refine box_event ?hg (N := 5) ?hd (cs := #[.int .u8 a2_0, .int .u8 a2_1, .int .u8 a2_2, .int .u8 a2_3, .int .u8 a2_4]) (t := 23) ?hr ?_; (case hd => rfl); (case hg => rfl); (case hr => first | (go_simp; done) | (go_simp; rfl)); intro gb104 hg w31 hbox hb; have n0_ := Aside0.mk (below_step (by repeat (first | (with_reducible first | exact HB.out | apply below_alloc | apply pw_below_drewN | apply below_drew1) | exact HB.out)) hb); have n1_ := Aside0.mk (hbox); have n2_ := Aside0.mk ((by rw [hg]; exact (below_size (by repeat (first | (with_reducible first | exact HB.out | apply below_alloc | apply pw_below_drewN | apply below_drew1) | exact HB.out))) : w.heap.size ≤ gb104)); have n3_ := Aside0.mk ((by rw [hg]; exact (below_size (by repeat (first | (with_reducible first | exact HB.out | apply below_alloc | apply pw_below_drewN | apply below_drew1) | exact HB.out))) : w.heap.size ≤ gb104)); clear HB; have HB := n0_; have BK104 := n1_; have GW104 := n2_; have GE104 := n3_; clear n0_ n1_ n2_ n3_; clear hb hbox hg) | ((with_reducible refine gate_callee (f := 36) rfl ?_); refine goesL_ (some 16) rfl rfl Tryd.func36 (by kernel_rfl) rfl #[.string a0] rfl (by (try simp only [List.map_toArray, List.map_cons, List.map_nil]); first | done | rfl | (simp only [List.length_drop, List.length_take]; rfl)) ?_; (with_reducible refine (segment_Name.calls a0 t105 _ A4.out).mono ?_); rintro e w32 ⟨rfl, hb⟩; refine ⟨_, rfl, ?_⟩; have n0_ := Aside0.mk (blk_below (g := gb104) (o := .cells #[.int .u8 a2_0, .int .u8 a2_1, .int .u8 a2_2, .int .u8 a2_3, .int .u8 a2_4] 23 (0, 0)) (by (with_reducible repeat (first | refine blk_drewN ?_ _ | refine blk_drew ?_ | refine blk_alloc ?_ _)); exact BK104.out) hb); have n1_ := Aside0.mk (below_step (by repeat (first | (with_reducible first | exact HB.out | apply below_alloc | apply pw_below_drewN | apply below_drew1 | refine below_set ?_ GE104.out) | exact HB.out)) hb); clear BK104; clear HB; have BK104 := n0_; have HB := n1_; clear n0_ n1_; (try clear hb); (try clear hb2); (try clear hk); (try clear hi); have hcz33_0 : w32.cell? ⟨gb104, 0, none⟩ = some (.int .u8 a2_0) := (blk_cell BK104.out 0).trans rfl; have hcz33_1 : w32.cell? ⟨gb104, 1, none⟩ = some (.int .u8 a2_1) := (blk_cell BK104.out 1).trans rfl; have hcz33_2 : w32.cell? ⟨gb104, 2, none⟩ = some (.int .u8 a2_2) := (blk_cell BK104.out 2).trans rfl; have hcz33_3 : w32.cell? ⟨gb104, 3, none⟩ = some (.int .u8 a2_3) := (blk_cell BK104.out 3).trans rfl; have hcz33_4 : w32.cell? ⟨gb104, 4, none⟩ = some (.int .u8 a2_4) := (blk_cell BK104.out 4).trans rfl; have hfz33_0 := blk_frozen BK104.out 0; have hfz33_1 := blk_frozen BK104.out 1; have hfz33_2 := blk_frozen BK104.out 2; have hfz33_3 := blk_frozen BK104.out 3; have hfz33_4 := blk_frozen BK104.out 4) | ((with_reducible refine gate_dst (N := 41) rfl ?_); refine Kd.R_lit (Kd.int .u8) _ 5 ?hg (N := 41) ?hd (xs := ([a2_0] : List Int)) (inner := [.int .u8 a2_0]) (ok := fun _ => True) (okp := fun _ => True) ?hr ?hp (fun _ hk => hk) trivial (Below.refl _ _) (Nat.le_refl _) (by simp) ?_; (case hd => rfl); (case hg => rfl); (case hr => first | (go_simp; done) | (go_simp; rfl)); (case hp => exact (Reps.one (show Kd.M (Kd.int .u8) _ _ _ a2_0 [.int .u8 a2_0] from rfl) (Reps.none _ _))); intro v115 w34 ho35 hb hg_ hnew_; clear hg_ hnew_; (first | rw [← Ny114.out] at ho35 | (simp only [Int.reduceToNat] at ho35; rw [← Ny114.out] at ho35)); have n0_ := Aside0.mk (Kd.R_lower ho35 (below_size (by repeat (first | (with_reducible first | exact HB.out | apply below_alloc | apply pw_below_drewN | apply below_drew1 | refine below_set ?_ GE104.out) | exact HB.out)))); have n1_ := Aside0.mk (blk_below (g := gb104) (o := .cells #[.int .u8 a2_0, .int .u8 a2_1, .int .u8 a2_2, .int .u8 a2_3, .int .u8 a2_4] 23 (0, 0)) (by (with_reducible repeat (first | refine blk_drewN ?_ _ | refine blk_drew ?_ | refine blk_alloc ?_ _)); exact BK104.out) hb); have n2_ := Aside0.mk (below_step (by repeat (first | (with_reducible first | exact HB.out | apply below_alloc | apply pw_below_drewN | apply below_drew1 | refine below_set ?_ GE104.out) | exact HB.out)) hb); clear BK104; clear HB; have HO116 := n0_; have BK104 := n1_; have HB := n2_; clear n0_ n1_ n2_; clear hb ho35; have hcv36 := own_string (P := Tryd.prog) Tryd.underlying26 Tryd.underlying5 Tryd.underlying9 (Kd.own_of_R HO116.out)) | ((with_reducible refine gate_callee (f := 78) rfl ?_); refine goesL_ (some 44) rfl rfl Tryd.func78 (by kernel_rfl) rfl #[.string a0, .string ((⟨#[77, 83, 72]⟩ : ByteArray) ++ (strOfNums y114))] rfl (by (try simp only [List.map_toArray, List.map_cons, List.map_nil]); first | done | rfl | (simp only [List.length_drop, List.length_take]; rfl)) ?_; (with_reducible refine (strings_CutPrefix.calls a0 ((⟨#[77, 83, 72]⟩ : ByteArray) ++ (strOfNums y114)) t117 false _ A7.out).mono ?_); rintro e w' ⟨rfl, ⟨nd, rfl⟩⟩; refine ⟨_, rfl, ?_⟩))
        go_ret2
        exact ⟨by first | rfl | (simp [errW_none, errW_some] <;> rfl) | (simp [*, errW_none, errW_some] <;> rfl), by repeat (first | (with_reducible first | exact HB.out | apply below_alloc | apply pw_below_drewN | apply below_drew1 | refine below_set ?_ GE104.out) | exact HB.out)⟩
    · rw [if_neg c6] at H
      exact absurd H (by simp)
  · rw [if_neg c5] at H
    have c5b0 : (t105.toList == ([77, 83, 72] : List UInt8)) = false := beq_eq_false_iff_ne.mpr c5
    have c5b1 : (t105.toList != ([77, 83, 72] : List UInt8)) = true := bne_iff_ne.mpr c5
    obtain ⟨y106, hy106⟩ : ∃ y_ : List Int, y_ = (([a2_0] : List Int)) := ⟨_, rfl⟩
    replace H : ((strings_Cut.f a0 (strOfNums y106)).bind fun bt109 => (if bt109.2.2 = true then ((segment_nth.f bt109.2.1 a2_0 a1).bind fun bt112 => (some (bt112.1, bt112.2))) else (some ((⟨#[]⟩ : ByteArray), 0)))) = some (r1, r2) := by first | (rw [hy106]; with_reducible exact H) | (have H2_ := (Option.bind_some _ _).symm.trans H; rw [hy106]; with_reducible exact H2_) | (have H2_ := (Option.bind_some _ _).symm.trans H; with_reducible exact H2_) | with_reducible exact H | (rw [hy106]; exact H) | exact H
    have Ny106 := Aside0.mk hy106
    clear hy106
    replace H := Option.bind_eq_some_iff.mp H
    obtain ⟨⟨t109, t110, t111⟩, A370, H⟩ := H
    replace H : (if t111 = true then ((segment_nth.f t110 a2_0 a1).bind fun bt112 => (some (bt112.1, bt112.2))) else (some ((⟨#[]⟩ : ByteArray), 0))) = some (r1, r2) := H
    have A37 := Aside0.mk A370
    clear A370
    by_cases c38 : t111 = true
    · subst c38
      have H1 : ((segment_nth.f t110 a2_0 a1).bind fun bt112 => (some (bt112.1, bt112.2))) = some (r1, r2) := by rw [if_pos rfl] at H; exact H
      clear H
      have H := H1
      clear H1
      replace H := Option.bind_eq_some_iff.mp H
      obtain ⟨⟨t112, t113⟩, A390, H⟩ := H
      replace H : (some (t112, t113)) = some (r1, r2) := H
      have A39 := Aside0.mk A390
      clear A390
      simp only [Option.some.injEq, Prod.mk.injEq] at H
      obtain ⟨rfl, rfl⟩ := H
      go_enter Tryd.func64, Tryd.ntmps64
      go_wp2_with (first | ((with_reducible refine gate_dst (N := 5) rfl ?_); refine box_event ?hg (N := 5) ?hd (cs := #[.int .u8 a2_0, .int .u8 a2_1, .int .u8 a2_2, .int .u8 a2_3, .int .u8 a2_4]) (t := 23) ?hr ?_; (case hd => rfl); (case hg => rfl); (case hr => first | (go_simp; done) | (go_simp; rfl)); intro gb104 hg w40 hbox hb; have n0_ := Aside0.mk (below_step (by repeat (first | (with_reducible first | exact HB.out | apply below_alloc | apply pw_below_drewN | apply below_drew1) | exact HB.out)) hb); have n1_ := Aside0.mk (hbox); have n2_ := Aside0.mk ((by rw [hg]; exact (below_size (by repeat (first | (with_reducible first | exact HB.out | apply below_alloc | apply pw_below_drewN | apply below_drew1) | exact HB.out))) : w.heap.size ≤ gb104)); have n3_ := Aside0.mk ((by rw [hg]; exact (below_size (by repeat (first | (with_reducible first | exact HB.out | apply below_alloc | apply pw_below_drewN | apply below_drew1) | exact HB.out))) : w.heap.size ≤ gb104)); clear HB; have HB := n0_; have BK104 := n1_; have GW104 := n2_; have GE104 := n3_; clear n0_ n1_ n2_ n3_; clear hb hbox hg) | ((with_reducible refine gate_callee (f := 36) rfl ?_); refine goesL_ (some 16) rfl rfl Tryd.func36 (by kernel_rfl) rfl #[.string a0] rfl (by (try simp only [List.map_toArray, List.map_cons, List.map_nil]); first | done | rfl | (simp only [List.length_drop, List.length_take]; rfl)) ?_; (with_reducible refine (segment_Name.calls a0 t105 _ A4.out).mono ?_); rintro e w41 ⟨rfl, hb⟩; refine ⟨_, rfl, ?_⟩; have n0_ := Aside0.mk (blk_below (g := gb104) (o := .cells #[.int .u8 a2_0, .int .u8 a2_1, .int .u8 a2_2, .int .u8 a2_3, .int .u8 a2_4] 23 (0, 0)) (by (with_reducible repeat (first | refine blk_drewN ?_ _ | refine blk_drew ?_ | refine blk_alloc ?_ _)); exact BK104.out) hb); have n1_ := Aside0.mk (below_step (by repeat (first | (with_reducible first | exact HB.out | apply below_alloc | apply pw_below_drewN | apply below_drew1 | refine below_set ?_ GE104.out) | exact HB.out)) hb); clear BK104; clear HB; have BK104 := n0_; have HB := n1_; clear n0_ n1_; (try clear hb); (try clear hb2); (try clear hk); (try clear hi); have hcz42_0 : w41.cell? ⟨gb104, 0, none⟩ = some (.int .u8 a2_0) := (blk_cell BK104.out 0).trans rfl; have hcz42_1 : w41.cell? ⟨gb104, 1, none⟩ = some (.int .u8 a2_1) := (blk_cell BK104.out 1).trans rfl; have hcz42_2 : w41.cell? ⟨gb104, 2, none⟩ = some (.int .u8 a2_2) := (blk_cell BK104.out 2).trans rfl; have hcz42_3 : w41.cell? ⟨gb104, 3, none⟩ = some (.int .u8 a2_3) := (blk_cell BK104.out 3).trans rfl; have hcz42_4 : w41.cell? ⟨gb104, 4, none⟩ = some (.int .u8 a2_4) := (blk_cell BK104.out 4).trans rfl; have hfz42_0 := blk_frozen BK104.out 0; have hfz42_1 := blk_frozen BK104.out 1; have hfz42_2 := blk_frozen BK104.out 2; have hfz42_3 := blk_frozen BK104.out 3; have hfz42_4 := blk_frozen BK104.out 4) | ((with_reducible refine gate_dst (N := 22) rfl ?_); refine Kd.R_lit (Kd.int .u8) _ 5 ?hg (N := 22) ?hd (xs := ([a2_0] : List Int)) (inner := [.int .u8 a2_0]) (ok := fun _ => True) (okp := fun _ => True) ?hr ?hp (fun _ hk => hk) trivial (Below.refl _ _) (Nat.le_refl _) (by simp) ?_; (case hd => rfl); (case hg => rfl); (case hr => first | (go_simp; done) | (go_simp; rfl)); (case hp => exact (Reps.one (show Kd.M (Kd.int .u8) _ _ _ a2_0 [.int .u8 a2_0] from rfl) (Reps.none _ _))); intro v107 w43 ho44 hb hg_ hnew_; clear hg_ hnew_; (first | rw [← Ny106.out] at ho44 | (simp only [Int.reduceToNat] at ho44; rw [← Ny106.out] at ho44)); have n0_ := Aside0.mk (Kd.R_lower ho44 (below_size (by repeat (first | (with_reducible first | exact HB.out | apply below_alloc | apply pw_below_drewN | apply below_drew1 | refine below_set ?_ GE104.out) | exact HB.out)))); have n1_ := Aside0.mk (blk_below (g := gb104) (o := .cells #[.int .u8 a2_0, .int .u8 a2_1, .int .u8 a2_2, .int .u8 a2_3, .int .u8 a2_4] 23 (0, 0)) (by (with_reducible repeat (first | refine blk_drewN ?_ _ | refine blk_drew ?_ | refine blk_alloc ?_ _)); exact BK104.out) hb); have n2_ := Aside0.mk (below_step (by repeat (first | (with_reducible first | exact HB.out | apply below_alloc | apply pw_below_drewN | apply below_drew1 | refine below_set ?_ GE104.out) | exact HB.out)) hb); clear BK104; clear HB; have HO108 := n0_; have BK104 := n1_; have HB := n2_; clear n0_ n1_ n2_; clear hb ho44; have hcv45 := own_string (P := Tryd.prog) Tryd.underlying26 Tryd.underlying5 Tryd.underlying9 (Kd.own_of_R HO108.out)) | ((with_reducible refine gate_callee (f := 77) rfl ?_); refine goesL_ (some 24) rfl rfl Tryd.func77 (by kernel_rfl) rfl #[.string a0, .string (strOfNums y106)] rfl (by (try simp only [List.map_toArray, List.map_cons, List.map_nil]); first | done | rfl | (simp only [List.length_drop, List.length_take]; rfl)) ?_; (with_reducible refine (strings_Cut.calls a0 (strOfNums y106) t109 t110 true _ ?side1 A37.out).mono ?_); (case side1 => exact GlobA.below HG.out (by repeat (first | (with_reducible first | exact HB.out | apply below_alloc | apply pw_below_drewN | apply below_drew1 | refine below_set ?_ GE104.out) | exact HB.out))); rintro e w' ⟨rfl, ⟨nd, rfl⟩⟩; refine ⟨_, rfl, ?_⟩; have hcz46_0 : w43.cell? ⟨gb104, 0, none⟩ = some (.int .u8 a2_0) := (blk_cell BK104.out 0).trans rfl; have hcz46_1 : w43.cell? ⟨gb104, 1, none⟩ = some (.int .u8 a2_1) := (blk_cell BK104.out 1).trans rfl; have hcz46_2 : w43.cell? ⟨gb104, 2, none⟩ = some (.int .u8 a2_2) := (blk_cell BK104.out 2).trans rfl; have hcz46_3 : w43.cell? ⟨gb104, 3, none⟩ = some (.int .u8 a2_3) := (blk_cell BK104.out 3).trans rfl; have hcz46_4 : w43.cell? ⟨gb104, 4, none⟩ = some (.int .u8 a2_4) := (blk_cell BK104.out 4).trans rfl; have hfz46_0 := blk_frozen BK104.out 0; have hfz46_1 := blk_frozen BK104.out 1; have hfz46_2 := blk_frozen BK104.out 2; have hfz46_3 := blk_frozen BK104.out 3; have hfz46_4 := blk_frozen BK104.out 4) | ((with_reducible refine gate_callee (f := 75) rfl ?_); refine goesL_ (some 34) rfl rfl Tryd.func75 (by kernel_rfl) rfl #[.string t110, .int .u8 a2_0, .int .i64 a1] rfl (by (try simp only [List.map_toArray, List.map_cons, List.map_nil]); first | done | rfl | (simp only [List.length_drop, List.length_take]; rfl)) ?_; (with_reducible refine (segment_nth.calls t110 a2_0 a1 t112 t113 _ ?side1 A39.out).mono ?_); (case side1 => exact GlobA.below HG.out (by repeat (first | (with_reducible first | exact HB.out | apply below_alloc | apply pw_below_drewN | apply below_drew1 | refine below_set ?_ GE104.out) | exact HB.out))); rintro e w47 ⟨rfl, hb⟩; refine ⟨_, rfl, ?_⟩; have n0_ := Aside0.mk (Kd.R_below (by (with_reducible repeat (first | apply Kd.R_alloc | apply Kd.R_drewN | apply Kd.R_drew)); exact HO108.out) hb); have n1_ := Aside0.mk (blk_below (g := gb104) (o := .cells #[.int .u8 a2_0, .int .u8 a2_1, .int .u8 a2_2, .int .u8 a2_3, .int .u8 a2_4] 23 (0, 0)) (by (with_reducible repeat (first | refine blk_drewN ?_ _ | refine blk_drew ?_ | refine blk_alloc ?_ _)); exact BK104.out) hb); have n2_ := Aside0.mk (below_step (by repeat (first | (with_reducible first | exact HB.out | apply below_alloc | apply pw_below_drewN | apply below_drew1 | refine below_set ?_ GE104.out) | exact HB.out)) hb); clear HO108; clear BK104; clear HB; have HO108 := n0_; have BK104 := n1_; have HB := n2_; clear n0_ n1_ n2_; (try clear hb); (try clear hb2); (try clear hk); (try clear hi)))
      go_ret2
      exact ⟨by first | rfl | (simp [errW_none, errW_some] <;> rfl) | (simp [*, errW_none, errW_some] <;> rfl), by repeat (first | (with_reducible first | exact HB.out | apply below_alloc | apply pw_below_drewN | apply below_drew1 | refine below_set ?_ GE104.out) | exact HB.out)⟩
    · replace c38 := Bool.eq_false_iff.mpr c38
      subst c38
      have H1 : (some ((⟨#[]⟩ : ByteArray), 0)) = some (r1, r2) := by rw [if_neg (show ¬ (false = true) by decide)] at H; exact H
      clear H
      have H := H1
      clear H1
      simp only [Option.some.injEq, Prod.mk.injEq] at H
      obtain ⟨rfl, rfl⟩ := H
      go_enter Tryd.func64, Tryd.ntmps64
      go_wp2_with (first | ((with_reducible refine gate_dst (N := 5) rfl ?_); refine box_event ?hg (N := 5) ?hd (cs := #[.int .u8 a2_0, .int .u8 a2_1, .int .u8 a2_2, .int .u8 a2_3, .int .u8 a2_4]) (t := 23) ?hr ?_; (case hd => rfl); (case hg => rfl); (case hr => first | (go_simp; done) | (go_simp; rfl)); intro gb104 hg w48 hbox hb; have n0_ := Aside0.mk (below_step (by repeat (first | (with_reducible first | exact HB.out | apply below_alloc | apply pw_below_drewN | apply below_drew1) | exact HB.out)) hb); have n1_ := Aside0.mk (hbox); have n2_ := Aside0.mk ((by rw [hg]; exact (below_size (by repeat (first | (with_reducible first | exact HB.out | apply below_alloc | apply pw_below_drewN | apply below_drew1) | exact HB.out))) : w.heap.size ≤ gb104)); have n3_ := Aside0.mk ((by rw [hg]; exact (below_size (by repeat (first | (with_reducible first | exact HB.out | apply below_alloc | apply pw_below_drewN | apply below_drew1) | exact HB.out))) : w.heap.size ≤ gb104)); clear HB; have HB := n0_; have BK104 := n1_; have GW104 := n2_; have GE104 := n3_; clear n0_ n1_ n2_ n3_; clear hb hbox hg) | ((with_reducible refine gate_callee (f := 36) rfl ?_); refine goesL_ (some 16) rfl rfl Tryd.func36 (by kernel_rfl) rfl #[.string a0] rfl (by (try simp only [List.map_toArray, List.map_cons, List.map_nil]); first | done | rfl | (simp only [List.length_drop, List.length_take]; rfl)) ?_; (with_reducible refine (segment_Name.calls a0 t105 _ A4.out).mono ?_); rintro e w49 ⟨rfl, hb⟩; refine ⟨_, rfl, ?_⟩; have n0_ := Aside0.mk (blk_below (g := gb104) (o := .cells #[.int .u8 a2_0, .int .u8 a2_1, .int .u8 a2_2, .int .u8 a2_3, .int .u8 a2_4] 23 (0, 0)) (by (with_reducible repeat (first | refine blk_drewN ?_ _ | refine blk_drew ?_ | refine blk_alloc ?_ _)); exact BK104.out) hb); have n1_ := Aside0.mk (below_step (by repeat (first | (with_reducible first | exact HB.out | apply below_alloc | apply pw_below_drewN | apply below_drew1 | refine below_set ?_ GE104.out) | exact HB.out)) hb); clear BK104; clear HB; have BK104 := n0_; have HB := n1_; clear n0_ n1_; (try clear hb); (try clear hb2); (try clear hk); (try clear hi); have hcz50_0 : w49.cell? ⟨gb104, 0, none⟩ = some (.int .u8 a2_0) := (blk_cell BK104.out 0).trans rfl; have hcz50_1 : w49.cell? ⟨gb104, 1, none⟩ = some (.int .u8 a2_1) := (blk_cell BK104.out 1).trans rfl; have hcz50_2 : w49.cell? ⟨gb104, 2, none⟩ = some (.int .u8 a2_2) := (blk_cell BK104.out 2).trans rfl; have hcz50_3 : w49.cell? ⟨gb104, 3, none⟩ = some (.int .u8 a2_3) := (blk_cell BK104.out 3).trans rfl; have hcz50_4 : w49.cell? ⟨gb104, 4, none⟩ = some (.int .u8 a2_4) := (blk_cell BK104.out 4).trans rfl; have hfz50_0 := blk_frozen BK104.out 0; have hfz50_1 := blk_frozen BK104.out 1; have hfz50_2 := blk_frozen BK104.out 2; have hfz50_3 := blk_frozen BK104.out 3; have hfz50_4 := blk_frozen BK104.out 4) | ((with_reducible refine gate_dst (N := 22) rfl ?_); refine Kd.R_lit (Kd.int .u8) _ 5 ?hg (N := 22) ?hd (xs := ([a2_0] : List Int)) (inner := [.int .u8 a2_0]) (ok := fun _ => True) (okp := fun _ => True) ?hr ?hp (fun _ hk => hk) trivial (Below.refl _ _) (Nat.le_refl _) (by simp) ?_; (case hd => rfl); (case hg => rfl); (case hr => first | (go_simp; done) | (go_simp; rfl)); (case hp => exact (Reps.one (show Kd.M (Kd.int .u8) _ _ _ a2_0 [.int .u8 a2_0] from rfl) (Reps.none _ _))); intro v107 w51 ho52 hb hg_ hnew_; clear hg_ hnew_; (first | rw [← Ny106.out] at ho52 | (simp only [Int.reduceToNat] at ho52; rw [← Ny106.out] at ho52)); have n0_ := Aside0.mk (Kd.R_lower ho52 (below_size (by repeat (first | (with_reducible first | exact HB.out | apply below_alloc | apply pw_below_drewN | apply below_drew1 | refine below_set ?_ GE104.out) | exact HB.out)))); have n1_ := Aside0.mk (blk_below (g := gb104) (o := .cells #[.int .u8 a2_0, .int .u8 a2_1, .int .u8 a2_2, .int .u8 a2_3, .int .u8 a2_4] 23 (0, 0)) (by (with_reducible repeat (first | refine blk_drewN ?_ _ | refine blk_drew ?_ | refine blk_alloc ?_ _)); exact BK104.out) hb); have n2_ := Aside0.mk (below_step (by repeat (first | (with_reducible first | exact HB.out | apply below_alloc | apply pw_below_drewN | apply below_drew1 | refine below_set ?_ GE104.out) | exact HB.out)) hb); clear BK104; clear HB; have HO108 := n0_; have BK104 := n1_; have HB := n2_; clear n0_ n1_ n2_; clear hb ho52; have hcv53 := own_string (P := Tryd.prog) Tryd.underlying26 Tryd.underlying5 Tryd.underlying9 (Kd.own_of_R HO108.out)) | ((with_reducible refine gate_callee (f := 77) rfl ?_); refine goesL_ (some 24) rfl rfl Tryd.func77 (by kernel_rfl) rfl #[.string a0, .string (strOfNums y106)] rfl (by (try simp only [List.map_toArray, List.map_cons, List.map_nil]); first | done | rfl | (simp only [List.length_drop, List.length_take]; rfl)) ?_; (with_reducible refine (strings_Cut.calls a0 (strOfNums y106) t109 t110 false _ ?side1 A37.out).mono ?_); (case side1 => exact GlobA.below HG.out (by repeat (first | (with_reducible first | exact HB.out | apply below_alloc | apply pw_below_drewN | apply below_drew1 | refine below_set ?_ GE104.out) | exact HB.out))); rintro e w' ⟨rfl, ⟨nd, rfl⟩⟩; refine ⟨_, rfl, ?_⟩))
      go_ret2
      exact ⟨by first | rfl | (simp [errW_none, errW_some] <;> rfl) | (simp [*, errW_none, errW_some] <;> rfl), by repeat (first | (with_reducible first | exact HB.out | apply below_alloc | apply pw_below_drewN | apply below_drew1 | refine below_set ?_ GE104.out) | exact HB.out)⟩

def segment_Field.f (a0 : ByteArray) (a1 : Int) (a2_0 : Int) (a2_1 : Int) (a2_2 : Int) (a2_3 : Int) (a2_4 : Int) : Option (ByteArray × Bool) := if a1 < 1 then (some ((⟨#[]⟩ : ByteArray), false)) else ((segment_field.f a0 a1 a2_0 a2_1 a2_2 a2_3 a2_4).bind fun bt125 => (some (bt125.1, decide (a1 ≤ bt125.2))))
set_option maxHeartbeats 8000000 in
set_option maxRecDepth 100000 in
theorem segment_Field.calls (a0 : ByteArray) (a1 : Int) (a2_0 : Int) (a2_1 : Int) (a2_2 : Int) (a2_3 : Int) (a2_4 : Int) (r1 : ByteArray) (r2 : Bool) (w : World) (hG : GlobA w) (h : segment_Field.f a0 a1 a2_0 a2_1 a2_2 a2_3 a2_4 = some (r1, r2)) :
    Calls Tryd.prog 37 #[.string a0, .int .i64 a1, .agg #[.int .u8 a2_0, .int .u8 a2_1, .int .u8 a2_2, .int .u8 a2_3, .int .u8 a2_4]] w fun e w' => e = .returned (.tuple #[.string r1, .bool r2]) ∧ Below w.heap.size w w' := by
  have hu23 := Tryd.underlying23
  have HG := Aside0.mk hG
  clear hG
  have HB := Aside0.mk (Below.refl w.heap.size w)
  have H : (if a1 < 1 then (some ((⟨#[]⟩ : ByteArray), false)) else ((segment_field.f a0 a1 a2_0 a2_1 a2_2 a2_3 a2_4).bind fun bt125 => (some (bt125.1, decide (a1 ≤ bt125.2))))) = some (r1, r2) := h
  clear h
  by_cases c4 : a1 < 1
  · rw [if_pos c4] at H
    have c4b0 : decide (a1 < 1) = true := decide_eq_true c4
    clear c4
    simp only [Option.some.injEq, Prod.mk.injEq] at H
    obtain ⟨rfl, rfl⟩ := H
    go_enter Tryd.func37, Tryd.ntmps37
    go_wp2_with (first | ((with_reducible refine gate_dst (N := 5) rfl ?_); refine box_event ?hg (N := 5) ?hd (cs := #[.int .u8 a2_0, .int .u8 a2_1, .int .u8 a2_2, .int .u8 a2_3, .int .u8 a2_4]) (t := 23) ?hr ?_; (case hd => rfl); (case hg => rfl); (case hr => first | (go_simp; done) | (go_simp; rfl)); intro gb124 hg w5 hbox hb; have n0_ := Aside0.mk (below_step (by repeat (first | (with_reducible first | exact HB.out | apply below_alloc | apply pw_below_drewN | apply below_drew1) | exact HB.out)) hb); have n1_ := Aside0.mk (hbox); have n2_ := Aside0.mk ((by rw [hg]; exact (below_size (by repeat (first | (with_reducible first | exact HB.out | apply below_alloc | apply pw_below_drewN | apply below_drew1) | exact HB.out))) : w.heap.size ≤ gb124)); have n3_ := Aside0.mk ((by rw [hg]; exact (below_size (by repeat (first | (with_reducible first | exact HB.out | apply below_alloc | apply pw_below_drewN | apply below_drew1) | exact HB.out))) : w.heap.size ≤ gb124)); clear HB; have HB := n0_; have BK124 := n1_; have GW124 := n2_; have GE124 := n3_; clear n0_ n1_ n2_ n3_; clear hb hbox hg))
    go_ret2
    exact ⟨by first | rfl | (simp [errW_none, errW_some] <;> rfl) | (simp [*, errW_none, errW_some] <;> rfl), by repeat (first | (with_reducible first | exact HB.out | apply below_alloc | apply pw_below_drewN | apply below_drew1 | refine below_set ?_ GE124.out) | exact HB.out)⟩
  · rw [if_neg c4] at H
    have c4b0 : decide (a1 < 1) = false := decide_eq_false c4
    clear c4
    replace H := Option.bind_eq_some_iff.mp H
    obtain ⟨⟨t125, t126⟩, A60, H⟩ := H
    replace H : (some (t125, decide (a1 ≤ t126))) = some (r1, r2) := H
    have A6 := Aside0.mk A60
    clear A60
    simp only [Option.some.injEq, Prod.mk.injEq] at H
    obtain ⟨rfl, rfl⟩ := H
    go_enter Tryd.func37, Tryd.ntmps37
    go_wp2_with (first | ((with_reducible refine gate_dst (N := 5) rfl ?_); refine box_event ?hg (N := 5) ?hd (cs := #[.int .u8 a2_0, .int .u8 a2_1, .int .u8 a2_2, .int .u8 a2_3, .int .u8 a2_4]) (t := 23) ?hr ?_; (case hd => rfl); (case hg => rfl); (case hr => first | (go_simp; done) | (go_simp; rfl)); intro gb124 hg w7 hbox hb; have n0_ := Aside0.mk (below_step (by repeat (first | (with_reducible first | exact HB.out | apply below_alloc | apply pw_below_drewN | apply below_drew1) | exact HB.out)) hb); have n1_ := Aside0.mk (hbox); have n2_ := Aside0.mk ((by rw [hg]; exact (below_size (by repeat (first | (with_reducible first | exact HB.out | apply below_alloc | apply pw_below_drewN | apply below_drew1) | exact HB.out))) : w.heap.size ≤ gb124)); have n3_ := Aside0.mk ((by rw [hg]; exact (below_size (by repeat (first | (with_reducible first | exact HB.out | apply below_alloc | apply pw_below_drewN | apply below_drew1) | exact HB.out))) : w.heap.size ≤ gb124)); clear HB; have HB := n0_; have BK124 := n1_; have GW124 := n2_; have GE124 := n3_; clear n0_ n1_ n2_ n3_; clear hb hbox hg; have hcz8_0 : w7.cell? ⟨gb124, 0, none⟩ = some (.int .u8 a2_0) := (blk_cell BK124.out 0).trans rfl; have hcz8_1 : w7.cell? ⟨gb124, 1, none⟩ = some (.int .u8 a2_1) := (blk_cell BK124.out 1).trans rfl; have hcz8_2 : w7.cell? ⟨gb124, 2, none⟩ = some (.int .u8 a2_2) := (blk_cell BK124.out 2).trans rfl; have hcz8_3 : w7.cell? ⟨gb124, 3, none⟩ = some (.int .u8 a2_3) := (blk_cell BK124.out 3).trans rfl; have hcz8_4 : w7.cell? ⟨gb124, 4, none⟩ = some (.int .u8 a2_4) := (blk_cell BK124.out 4).trans rfl; have hfz8_0 := blk_frozen BK124.out 0; have hfz8_1 := blk_frozen BK124.out 1; have hfz8_2 := blk_frozen BK124.out 2; have hfz8_3 := blk_frozen BK124.out 3; have hfz8_4 := blk_frozen BK124.out 4) | ((with_reducible refine gate_callee (f := 64) rfl ?_); refine goesL_ (some 16) rfl rfl Tryd.func64 (by kernel_rfl) rfl #[.string a0, .int .i64 a1, .agg #[.int .u8 a2_0, .int .u8 a2_1, .int .u8 a2_2, .int .u8 a2_3, .int .u8 a2_4]] rfl (by (try simp only [List.map_toArray, List.map_cons, List.map_nil]); first | done | rfl | (simp only [List.length_drop, List.length_take]; rfl)) ?_; (with_reducible refine (segment_field.calls a0 a1 a2_0 a2_1 a2_2 a2_3 a2_4 t125 t126 _ ?side1 A6.out).mono ?_); (case side1 => exact GlobA.below HG.out (by repeat (first | (with_reducible first | exact HB.out | apply below_alloc | apply pw_below_drewN | apply below_drew1 | refine below_set ?_ GE124.out) | exact HB.out))); rintro e w9 ⟨rfl, hb⟩; refine ⟨_, rfl, ?_⟩; have n0_ := Aside0.mk (blk_below (g := gb124) (o := .cells #[.int .u8 a2_0, .int .u8 a2_1, .int .u8 a2_2, .int .u8 a2_3, .int .u8 a2_4] 23 (0, 0)) (by (with_reducible repeat (first | refine blk_drewN ?_ _ | refine blk_drew ?_ | refine blk_alloc ?_ _)); exact BK124.out) hb); have n1_ := Aside0.mk (below_step (by repeat (first | (with_reducible first | exact HB.out | apply below_alloc | apply pw_below_drewN | apply below_drew1 | refine below_set ?_ GE124.out) | exact HB.out)) hb); clear BK124; clear HB; have BK124 := n0_; have HB := n1_; clear n0_ n1_; (try clear hb); (try clear hb2); (try clear hk); (try clear hi)))
    go_ret2
    exact ⟨by first | rfl | (simp [errW_none, errW_some] <;> rfl) | (simp [*, errW_none, errW_some] <;> rfl), by repeat (first | (with_reducible first | exact HB.out | apply below_alloc | apply pw_below_drewN | apply below_drew1 | refine below_set ?_ GE124.out) | exact HB.out)⟩

end Go.Proofs.YtciagecaegoppaaDoor.QField
end
section
namespace Go.Proofs.YtciagecaegoppaaDoor.Qothers
open Go.RowKit Go.Proofs.YtciagecaegoppaaDoorW.PrintWords Go.Proofs.YtciagecaegoppaaDoorW.PrintLast Go.Proofs.YtciagecaegoppaaDoorW.PrintMore
attribute [local go_sem] max2_int min2_int max_two min_two max_three min_three max_four min_four   -- for this text's walks alone
set_option linter.unusedVariables false
set_option linter.unusedSimpArgs false

def errW : Option Int → Value
  | none => .nilIface
  | some c => .iface 0 (.int .i64 c)
theorem errW_none : errW none = .nilIface := rfl
theorem errW_some (c : Int) : errW (some c) = .iface 0 (.int .i64 c) := rfl

theorem info5 : (Tryd.prog.info? 5).map (fun i => (i.zero, i.size, i.bytes)) = some (some (.int .u8 0), 1, 1) := by kernel_rfl
-- the values' own types

end Go.Proofs.YtciagecaegoppaaDoor.Qothers
end
section
namespace Go.Proofs.YtciagecaegoppaaDoor.Qothers
open Go.RowKit Go.Proofs.YtciagecaegoppaaDoorW.PrintWords Go.Proofs.YtciagecaegoppaaDoorW.PrintLast Go.Proofs.YtciagecaegoppaaDoorW.PrintMore
attribute [local go_sem] max2_int min2_int max_two min_two max_three min_three max_four min_four   -- for this text's walks alone
set_option linter.unusedVariables false
set_option linter.unusedSimpArgs false

def msh_others.f (a0_0 : Int) (a0_1 : Int) (a0_2 : Int) (a0_3 : Int) (a0_4 : Int) : Option (ByteArray) := some (strOfNums (([a0_1, a0_2, a0_3, a0_4] : List Int)))
set_option maxHeartbeats 8000000 in
set_option maxRecDepth 100000 in
theorem msh_others.calls (a0_0 : Int) (a0_1 : Int) (a0_2 : Int) (a0_3 : Int) (a0_4 : Int) (r : ByteArray) (w : World) (h : msh_others.f a0_0 a0_1 a0_2 a0_3 a0_4 = some r) :
    Calls Tryd.prog 19 #[.agg #[.int .u8 a0_0, .int .u8 a0_1, .int .u8 a0_2, .int .u8 a0_3, .int .u8 a0_4]] w fun e w' => e = .returned (.string r) ∧ Below w.heap.size w w' := by
  have hu23 := Tryd.underlying23
  have HB := Aside0.mk (Below.refl w.heap.size w)
  have H : (some (strOfNums (([a0_1, a0_2, a0_3, a0_4] : List Int)))) = some r := h
  clear h
  obtain ⟨y102, hy102⟩ : ∃ y_ : List Int, y_ = (([a0_1, a0_2, a0_3, a0_4] : List Int)) := ⟨_, rfl⟩
  replace H : (some (strOfNums y102)) = some r := by first | (rw [hy102]; with_reducible exact H) | (have H2_ := (Option.bind_some _ _).symm.trans H; rw [hy102]; with_reducible exact H2_) | (have H2_ := (Option.bind_some _ _).symm.trans H; with_reducible exact H2_) | with_reducible exact H | (rw [hy102]; exact H) | exact H
  have Ny102 := Aside0.mk hy102
  clear hy102
  obtain rfl := Option.some.inj H
  go_enter Tryd.func19, Tryd.ntmps19
  go_wp2_with (first | ((with_reducible refine gate_dst (N := 1) rfl ?_); refine box_event ?hg (N := 1) ?hd (cs := #[.int .u8 a0_0, .int .u8 a0_1, .int .u8 a0_2, .int .u8 a0_3, .int .u8 a0_4]) (t := 23) ?hr ?_; (case hd => rfl); (case hg => rfl); (case hr => first | (go_simp; done) | (go_simp; rfl)); intro gb101 hg w2 hbox hb; have n0_ := Aside0.mk (below_step (by repeat (first | (with_reducible first | exact HB.out | apply below_alloc | apply pw_below_drewN | apply below_drew1) | exact HB.out)) hb); have n1_ := Aside0.mk (hbox); have n2_ := Aside0.mk ((by rw [hg]; exact (below_size (by repeat (first | (with_reducible first | exact HB.out | apply below_alloc | apply pw_below_drewN | apply below_drew1) | exact HB.out))) : w.heap.size ≤ gb101)); have n3_ := Aside0.mk ((by rw [hg]; exact (below_size (by repeat (first | (with_reducible first | exact HB.out | apply below_alloc | apply pw_below_drewN | apply below_drew1) | exact HB.out))) : w.heap.size ≤ gb101)); clear HB; have HB := n0_; have BK101 := n1_; have GW101 := n2_; have GE101 := n3_; clear n0_ n1_ n2_ n3_; clear hb hbox hg; have hcz3_0 : w2.cell? ⟨gb101, 0, none⟩ = some (.int .u8 a0_0) := (blk_cell BK101.out 0).trans rfl; have hcz3_1 : w2.cell? ⟨gb101, 1, none⟩ = some (.int .u8 a0_1) := (blk_cell BK101.out 1).trans rfl; have hcz3_2 : w2.cell? ⟨gb101, 2, none⟩ = some (.int .u8 a0_2) := (blk_cell BK101.out 2).trans rfl; have hcz3_3 : w2.cell? ⟨gb101, 3, none⟩ = some (.int .u8 a0_3) := (blk_cell BK101.out 3).trans rfl; have hcz3_4 : w2.cell? ⟨gb101, 4, none⟩ = some (.int .u8 a0_4) := (blk_cell BK101.out 4).trans rfl; have hfz3_0 := blk_frozen BK101.out 0; have hfz3_1 := blk_frozen BK101.out 1; have hfz3_2 := blk_frozen BK101.out 2; have hfz3_3 := blk_frozen BK101.out 3; have hfz3_4 := blk_frozen BK101.out 4) | ((with_reducible refine gate_dst (N := 11) rfl ?_); refine Kd.R_lit (Kd.int .u8) _ 5 ?hg (N := 11) ?hd (xs := ([a0_1, a0_2, a0_3, a0_4] : List Int)) (inner := [.int .u8 a0_1, .int .u8 a0_2, .int .u8 a0_3, .int .u8 a0_4]) (ok := fun _ => True) (okp := fun _ => True) ?hr ?hp (fun _ hk => hk) trivial (Below.refl _ _) (Nat.le_refl _) (by simp) ?_; (case hd => rfl); (case hg => rfl); (case hr => first | (go_simp; done) | (go_simp; rfl)); (case hp => exact (Reps.one (show Kd.M (Kd.int .u8) _ _ _ a0_1 [.int .u8 a0_1] from rfl) (Reps.one (show Kd.M (Kd.int .u8) _ _ _ a0_2 [.int .u8 a0_2] from rfl) (Reps.one (show Kd.M (Kd.int .u8) _ _ _ a0_3 [.int .u8 a0_3] from rfl) (Reps.one (show Kd.M (Kd.int .u8) _ _ _ a0_4 [.int .u8 a0_4] from rfl) (Reps.none _ _)))))); intro v103 w4 ho5 hb hg_ hnew_; clear hg_ hnew_; (first | rw [← Ny102.out] at ho5 | (simp only [Int.reduceToNat] at ho5; rw [← Ny102.out] at ho5)); have n0_ := Aside0.mk (Kd.R_lower ho5 (below_size (by repeat (first | (with_reducible first | exact HB.out | apply below_alloc | apply pw_below_drewN | apply below_drew1 | refine below_set ?_ GE101.out) | exact HB.out)))); have n1_ := Aside0.mk (blk_below (g := gb101) (o := .cells #[.int .u8 a0_0, .int .u8 a0_1, .int .u8 a0_2, .int .u8 a0_3, .int .u8 a0_4] 23 (0, 0)) (by (with_reducible repeat (first | refine blk_drewN ?_ _ | refine blk_drew ?_ | refine blk_alloc ?_ _)); exact BK101.out) hb); have n2_ := Aside0.mk (below_step (by repeat (first | (with_reducible first | exact HB.out | apply below_alloc | apply pw_below_drewN | apply below_drew1 | refine below_set ?_ GE101.out) | exact HB.out)) hb); clear BK101; clear HB; have HO104 := n0_; have BK101 := n1_; have HB := n2_; clear n0_ n1_ n2_; clear hb ho5; have hcv6 := own_string (P := Tryd.prog) Tryd.underlying26 Tryd.underlying5 Tryd.underlying9 (Kd.own_of_R HO104.out)))
  go_ret
  exact ⟨by first | rfl | (simp [errW_none, errW_some] <;> rfl) | (simp [*, errW_none, errW_some] <;> rfl), by repeat (first | (with_reducible first | exact HB.out | apply below_alloc | apply pw_below_drewN | apply below_drew1 | refine below_set ?_ GE101.out) | exact HB.out)⟩

end Go.Proofs.YtciagecaegoppaaDoor.Qothers
end
section
namespace Go.Proofs.YtciagecaegoppaaDoor
set_option linter.unusedVariables false
set_option linter.unusedSimpArgs false
set_option maxRecDepth 100000
open Go.RowKit Go.Proofs.YtciagecaegoppaaDoorW.PrintWords Go.Proofs.YtciagecaegoppaaDoorW.PrintLast Go.Proofs.YtciagecaegoppaaDoorW.PrintMore

theorem row_first {w : World} {base : Nat} {ok : Nat → Prop} {v : Value} {xs : List ByteArray} (h : Kd.R Kd.string 9 w base ok v xs) (hp : 0 < xs.length) :
    ∃ b o c, v = .slice (some ⟨b, o, none⟩) xs.length c ∧ w.cell? ⟨b, o, none⟩ = some (.string (rdOf ByteArray.empty xs 0)) := by
  obtain ⟨Ao, co, eo⟩ := Kd.R_slice h
  subst eo
  obtain ⟨ad, ea, hc⟩ := Kd.at_string (Kd.R_reads' h).2.2 0 (by omega) (by omega)
  obtain ⟨b, o, sp⟩ := ad
  have hc' : w.cell? ⟨b, o, sp⟩ = some (.string (rdOf ByteArray.empty xs 0)) := by simpa [Addr.add] using hc
  obtain rfl : sp = none := by simpa using World.cell?_spot hc'
  exact ⟨b, o, co, by rw [ea], hc'⟩

/-- The cells of a head whose first k texts are there. -/
def headC (d0 d1 d2 d3 d4 : Int) (v : Nat → ByteArray) (k : Nat) : Array Value := #[.int .u8 d0, .int .u8 d1, .int .u8 d2, .int .u8 d3, .int .u8 d4, .string (if 0 < k then v 0 else ⟨#[]⟩), .string (if 1 < k then v 1 else ⟨#[]⟩), .string (if 2 < k then v 2 else ⟨#[]⟩), .string (if 3 < k then v 3 else ⟨#[]⟩), .string (if 4 < k then v 4 else ⟨#[]⟩), .string (if 5 < k then v 5 else ⟨#[]⟩), .string (if 6 < k then v 6 else ⟨#[]⟩), .string (if 7 < k then v 7 else ⟨#[]⟩), .string (if 8 < k then v 8 else ⟨#[]⟩), .string (if 9 < k then v 9 else ⟨#[]⟩)]
theorem headC_at (d0 d1 d2 d3 d4 : Int) (v : Nat → ByteArray) (k : Nat) (hk : k < 10) : (headC d0 d1 d2 d3 d4 v k)[5 + k]? = some (.string ⟨#[]⟩) := by
  rcases k with _ | _ | _ | _ | _ | _ | _ | _ | _ | _ | k
  iterate 10 (next => rfl)
  omega
theorem headC_set (d0 d1 d2 d3 d4 : Int) (v : Nat → ByteArray) (k : Nat) (hk : k < 10) : (headC d0 d1 d2 d3 d4 v k).setIfInBounds (5 + k) (.string (v k)) = headC d0 d1 d2 d3 d4 v (k + 1) := by
  rcases k with _ | _ | _ | _ | _ | _ | _ | _ | _ | _ | k
  iterate 10 (next => rfl)
  omega
theorem texts_enters (k : Nat) (hk : k < 10) (args : Array Value) (w : World) : (callFunc (textFn k) args).run Tryd.prog w = .ok (.enter (textFn k) args) w := by
  rcases k with _ | _ | _ | _ | _ | _ | _ | _ | _ | _ | k
  · exact enters_ Tryd.func41 (by kernel_rfl) rfl args w
  · exact enters_ Tryd.func42 (by kernel_rfl) rfl args w
  · exact enters_ Tryd.func43 (by kernel_rfl) rfl args w
  · exact enters_ Tryd.func44 (by kernel_rfl) rfl args w
  · exact enters_ Tryd.func45 (by kernel_rfl) rfl args w
  · exact enters_ Tryd.func46 (by kernel_rfl) rfl args w
  · exact enters_ Tryd.func47 (by kernel_rfl) rfl args w
  · exact enters_ Tryd.func48 (by kernel_rfl) rfl args w
  · exact enters_ Tryd.func49 (by kernel_rfl) rfl args w
  · exact enters_ Tryd.func50 (by kernel_rfl) rfl args w
  · omega
theorem blk_row15 {w : World} {g : Nat} {t : TypeId} {a0 a1 a2 a3 a4 a5 a6 a7 a8 a9 a10 a11 a12 a13 a14 b0 b1 b2 b3 b4 b5 b6 b7 b8 b9 b10 b11 b12 b13 b14 : Value} (h0 : w.heap[g]? = some (.cells #[a0, a1, a2, a3, a4, a5, a6, a7, a8, a9, a10, a11, a12, a13, a14] t (0, 0))) :
    (((((((((((((((w.setCell ⟨g, 0, none⟩ b0).setCell ⟨g, 1, none⟩ b1).setCell ⟨g, 2, none⟩ b2).setCell ⟨g, 3, none⟩ b3).setCell ⟨g, 4, none⟩ b4).setCell ⟨g, 5, none⟩ b5).setCell ⟨g, 6, none⟩ b6).setCell ⟨g, 7, none⟩ b7).setCell ⟨g, 8, none⟩ b8).setCell ⟨g, 9, none⟩ b9).setCell ⟨g, 10, none⟩ b10).setCell ⟨g, 11, none⟩ b11).setCell ⟨g, 12, none⟩ b12).setCell ⟨g, 13, none⟩ b13).setCell ⟨g, 14, none⟩ b14).heap[g]? = some (.cells #[b0, b1, b2, b3, b4, b5, b6, b7, b8, b9, b10, b11, b12, b13, b14] t (0, 0)) := by
  have h1 := blk_put (cs' := #[b0, a1, a2, a3, a4, a5, a6, a7, a8, a9, a10, a11, a12, a13, a14]) h0 0 b0 rfl
  have h2 := blk_put (cs' := #[b0, b1, a2, a3, a4, a5, a6, a7, a8, a9, a10, a11, a12, a13, a14]) h1 1 b1 rfl
  have h3 := blk_put (cs' := #[b0, b1, b2, a3, a4, a5, a6, a7, a8, a9, a10, a11, a12, a13, a14]) h2 2 b2 rfl
  have h4 := blk_put (cs' := #[b0, b1, b2, b3, a4, a5, a6, a7, a8, a9, a10, a11, a12, a13, a14]) h3 3 b3 rfl
  have h5 := blk_put (cs' := #[b0, b1, b2, b3, b4, a5, a6, a7, a8, a9, a10, a11, a12, a13, a14]) h4 4 b4 rfl
  have h6 := blk_put (cs' := #[b0, b1, b2, b3, b4, b5, a6, a7, a8, a9, a10, a11, a12, a13, a14]) h5 5 b5 rfl
  have h7 := blk_put (cs' := #[b0, b1, b2, b3, b4, b5, b6, a7, a8, a9, a10, a11, a12, a13, a14]) h6 6 b6 rfl
  have h8 := blk_put (cs' := #[b0, b1, b2, b3, b4, b5, b6, b7, a8, a9, a10, a11, a12, a13, a14]) h7 7 b7 rfl
  have h9 := blk_put (cs' := #[b0, b1, b2, b3, b4, b5, b6, b7, b8, a9, a10, a11, a12, a13, a14]) h8 8 b8 rfl
  have h10 := blk_put (cs' := #[b0, b1, b2, b3, b4, b5, b6, b7, b8, b9, a10, a11, a12, a13, a14]) h9 9 b9 rfl
  have h11 := blk_put (cs' := #[b0, b1, b2, b3, b4, b5, b6, b7, b8, b9, b10, a11, a12, a13, a14]) h10 10 b10 rfl
  have h12 := blk_put (cs' := #[b0, b1, b2, b3, b4, b5, b6, b7, b8, b9, b10, b11, a12, a13, a14]) h11 11 b11 rfl
  have h13 := blk_put (cs' := #[b0, b1, b2, b3, b4, b5, b6, b7, b8, b9, b10, b11, b12, a13, a14]) h12 12 b12 rfl
  have h14 := blk_put (cs' := #[b0, b1, b2, b3, b4, b5, b6, b7, b8, b9, b10, b11, b12, b13, a14]) h13 13 b13 rfl
  have h15 := blk_put (cs' := #[b0, b1, b2, b3, b4, b5, b6, b7, b8, b9, b10, b11, b12, b13, b14]) h14 14 b14 rfl
  exact h15

set_option maxHeartbeats 4000000 in
theorem read_bad (A0 : Option Addr) (c0 : Nat) (l0 : List Int) (w : World) (hr0 : Kd.C (Kd.int .u8) w A0 l0.length l0) (hc0 : l0.length ≤ c0) (d0 d1 d2 d3 d4 e0 : Int) (hd : delim_Read.f l0 = some (d0, d1, d2, d3, d4, e0)) (he : e0 ≠ 0) :
    Calls Tryd.prog 23 #[.slice A0 l0.length c0] w fun e w' => e = .returned (.tuple #[.agg #[.int .u8 0, .int .u8 0, .int .u8 0, .int .u8 0, .int .u8 0, .string ⟨#[]⟩, .string ⟨#[]⟩, .string ⟨#[]⟩, .string ⟨#[]⟩, .string ⟨#[]⟩, .string ⟨#[]⟩, .string ⟨#[]⟩, .string ⟨#[]⟩, .string ⟨#[]⟩, .string ⟨#[]⟩], .int .i64 e0]) ∧ Below w.heap.size w w' := by
  have HR := Aside0.mk hr0; have HC := Aside0.mk hc0; have HD := Aside0.mk hd
  have he' : (e0 != 0) = true := bne_iff_ne.2 he
  clear hr0 hc0 hd he
  go_enter Tryd.func23, Tryd.ntmps23
  go_wp2_with (go_at_call 54; refine (delim_Read.calls A0 c0 l0 d0 d1 d2 d3 d4 e0 _ ?hc HC.out HD.out).mono ?_; (case hc => exact Kd.C_below HR.out (below_alloc (Below.refl _ _) _)); rintro e w2 ⟨rfl, hb2⟩; have HB2 := Aside0.mk (below_step (below_alloc (Below.refl _ _) _) hb2); have hblk2 := blk_below (blk_new w (.cells #[.int .u8 0, .int .u8 0, .int .u8 0, .int .u8 0, .int .u8 0, .string ⟨#[]⟩, .string ⟨#[]⟩, .string ⟨#[]⟩, .string ⟨#[]⟩, .string ⟨#[]⟩, .string ⟨#[]⟩, .string ⟨#[]⟩, .string ⟨#[]⟩, .string ⟨#[]⟩, .string ⟨#[]⟩] 25)) hb2; have HBLK2 := Aside0.mk hblk2; have hlt2 : w.heap.size < w2.heap.size := blk_lt hblk2; have p0 : w2.cell? ⟨w.heap.size, 0, none⟩ = some (.int .u8 0) := blk_cell hblk2 0; have p1 : w2.cell? ⟨w.heap.size, 1, none⟩ = some (.int .u8 0) := blk_cell hblk2 1; have p2 : w2.cell? ⟨w.heap.size, 2, none⟩ = some (.int .u8 0) := blk_cell hblk2 2; have p3 : w2.cell? ⟨w.heap.size, 3, none⟩ = some (.int .u8 0) := blk_cell hblk2 3; have p4 : w2.cell? ⟨w.heap.size, 4, none⟩ = some (.int .u8 0) := blk_cell hblk2 4; have p5 : w2.cell? ⟨w.heap.size, 5, none⟩ = some (.string ⟨#[]⟩) := blk_cell hblk2 5; have p6 : w2.cell? ⟨w.heap.size, 6, none⟩ = some (.string ⟨#[]⟩) := blk_cell hblk2 6; have p7 : w2.cell? ⟨w.heap.size, 7, none⟩ = some (.string ⟨#[]⟩) := blk_cell hblk2 7; have p8 : w2.cell? ⟨w.heap.size, 8, none⟩ = some (.string ⟨#[]⟩) := blk_cell hblk2 8; have p9 : w2.cell? ⟨w.heap.size, 9, none⟩ = some (.string ⟨#[]⟩) := blk_cell hblk2 9; have p10 : w2.cell? ⟨w.heap.size, 10, none⟩ = some (.string ⟨#[]⟩) := blk_cell hblk2 10; have p11 : w2.cell? ⟨w.heap.size, 11, none⟩ = some (.string ⟨#[]⟩) := blk_cell hblk2 11; have p12 : w2.cell? ⟨w.heap.size, 12, none⟩ = some (.string ⟨#[]⟩) := blk_cell hblk2 12; have p13 : w2.cell? ⟨w.heap.size, 13, none⟩ = some (.string ⟨#[]⟩) := blk_cell hblk2 13; have p14 : w2.cell? ⟨w.heap.size, 14, none⟩ = some (.string ⟨#[]⟩) := blk_cell hblk2 14; have pf0 := blk_frozen hblk2 0; have pf1 := blk_frozen hblk2 1; have pf2 := blk_frozen hblk2 2; have pf3 := blk_frozen hblk2 3; have pf4 := blk_frozen hblk2 4; have pf5 := blk_frozen hblk2 5; have pf6 := blk_frozen hblk2 6; have pf7 := blk_frozen hblk2 7; have pf8 := blk_frozen hblk2 8; have pf9 := blk_frozen hblk2 9; have pf10 := blk_frozen hblk2 10; have pf11 := blk_frozen hblk2 11; have pf12 := blk_frozen hblk2 12; have pf13 := blk_frozen hblk2 13; have pf14 := blk_frozen hblk2 14; clear hb2 hblk2)
  refine bodyPost_ret (results_ct rfl _ _ w.heap.size 25 #[.int .u8 0, .int .u8 0, .int .u8 0, .int .u8 0, .int .u8 0, .string ⟨#[]⟩, .string ⟨#[]⟩, .string ⟨#[]⟩, .string ⟨#[]⟩, .string ⟨#[]⟩, .string ⟨#[]⟩, .string ⟨#[]⟩, .string ⟨#[]⟩, .string ⟨#[]⟩, .string ⟨#[]⟩] (0, 0) _ rfl (blk_alloc (blk_row15 HBLK2.out) _) Tryd.underlying25 rfl (by kernel_rfl)) rfl ?_
  exact ⟨rfl, below_alloc (below_set (below_set (below_set (below_set (below_set (below_set (below_set (below_set (below_set (below_set (below_set (below_set (below_set (below_set (below_set HB2.out (Nat.le_refl _)) (Nat.le_refl _)) (Nat.le_refl _)) (Nat.le_refl _)) (Nat.le_refl _)) (Nat.le_refl _)) (Nat.le_refl _)) (Nat.le_refl _)) (Nat.le_refl _)) (Nat.le_refl _)) (Nat.le_refl _)) (Nat.le_refl _)) (Nat.le_refl _)) (Nat.le_refl _)) (Nat.le_refl _)) _⟩

set_option maxHeartbeats 4000000 in
theorem read_other (A0 : Option Addr) (c0 : Nat) (l0 : List Int) (w : World) (hG : GlobA w) (hr0 : Kd.C (Kd.int .u8) w A0 l0.length l0) (hc0 : l0.length ≤ c0) (d0 d1 d2 d3 d4 : Int) (hd : delim_Read.f l0 = some (d0, d1, d2, d3, d4, 0)) (t : List ByteArray) (ht : segment_Split.f l0 = some t) (hp : 0 < t.length) (f : ByteArray) (b : Bool) (hf : QField.segment_Field.f (rdOf ByteArray.empty t 0) 2 d0 d1 d2 d3 d4 = some (f, b)) (hne : (f.toList == (strOfNums [d1, d2, d3, d4]).toList) = false) :
    Calls Tryd.prog 23 #[.slice A0 l0.length c0] w fun e w' => e = .returned (.tuple #[.agg #[.int .u8 0, .int .u8 0, .int .u8 0, .int .u8 0, .int .u8 0, .string ⟨#[]⟩, .string ⟨#[]⟩, .string ⟨#[]⟩, .string ⟨#[]⟩, .string ⟨#[]⟩, .string ⟨#[]⟩, .string ⟨#[]⟩, .string ⟨#[]⟩, .string ⟨#[]⟩, .string ⟨#[]⟩], .int .i64 11]) ∧ Below w.heap.size w w' := by
  have HG := Aside0.mk hG; have HR := Aside0.mk hr0; have HC := Aside0.mk hc0; have HD := Aside0.mk hd; have HT := Aside0.mk ht; have HP := Aside0.mk hp; have HF := Aside0.mk hf
  clear hG hr0 hc0 hd ht hf
  go_enter Tryd.func23, Tryd.ntmps23
  go_wp2_with (first
    | (go_at_call 54; refine (delim_Read.calls A0 c0 l0 d0 d1 d2 d3 d4 0 _ ?hc HC.out HD.out).mono ?_; (case hc => exact Kd.C_below HR.out (below_alloc (Below.refl _ _) _)); rintro e w2 ⟨rfl, hb2⟩; have HB2 := Aside0.mk (below_step (below_alloc (Below.refl _ _) _) hb2); have hblk2 := blk_below (blk_new w (.cells #[.int .u8 0, .int .u8 0, .int .u8 0, .int .u8 0, .int .u8 0, .string ⟨#[]⟩, .string ⟨#[]⟩, .string ⟨#[]⟩, .string ⟨#[]⟩, .string ⟨#[]⟩, .string ⟨#[]⟩, .string ⟨#[]⟩, .string ⟨#[]⟩, .string ⟨#[]⟩, .string ⟨#[]⟩] 25)) hb2; have HBLK2 := Aside0.mk hblk2; have hlt2 : w.heap.size < w2.heap.size := blk_lt hblk2; have HL2 := Aside0.mk hlt2; clear hb2 hblk2)
    | (go_at_call 35; refine (segment_Split.calls A0 c0 l0 t _ ?hg ?hr HC.out HT.out).mono ?_; (case hg => exact HG.out.below (below_alloc HB2.out _)); (case hr => exact Kd.C_below HR.out (below_alloc HB2.out _)); rintro e w5 ⟨v0, rfl, hR, hb5⟩; obtain ⟨rb, ro, rc, eR, hx⟩ := row_first hR HP.out; subst eR; have HB5 := Aside0.mk (below_step (below_alloc HB2.out _) hb5); have B2 := Aside0.mk (blk_below (blk_alloc HBLK2.out _) hb5); have hd5 := blk_below (blk_new w2 (.cells #[.int .u8 d0, .int .u8 d1, .int .u8 d2, .int .u8 d3, .int .u8 d4] 23)) hb5; have B4 := Aside0.mk hd5; have y0 : w5.cell? ⟨w2.heap.size, 0, none⟩ = some (.int .u8 d0) := blk_cell hd5 0; have y1 : w5.cell? ⟨w2.heap.size, 1, none⟩ = some (.int .u8 d1) := blk_cell hd5 1; have y2 : w5.cell? ⟨w2.heap.size, 2, none⟩ = some (.int .u8 d2) := blk_cell hd5 2; have y3 : w5.cell? ⟨w2.heap.size, 3, none⟩ = some (.int .u8 d3) := blk_cell hd5 3; have y4 : w5.cell? ⟨w2.heap.size, 4, none⟩ = some (.int .u8 d4) := blk_cell hd5 4; clear hR hb5 hd5 hlt2 HB2 HBLK2)
    | (go_at_call 37; refine (QField.segment_Field.calls (rdOf ByteArray.empty t 0) 2 d0 d1 d2 d3 d4 f b _ ?hg HF.out).mono ?_; (case hg => exact HG.out.below HB5.out); rintro e w6 ⟨rfl, hb6⟩; have HB6 := Aside0.mk (below_step HB5.out hb6); have B2' := Aside0.mk (blk_below B2.out hb6); have B4' := Aside0.mk (blk_below B4.out hb6); have hd6 := B4'.out; clear y0 y1 y2 y3 y4 hx; have y0 : w6.cell? ⟨w2.heap.size, 0, none⟩ = some (.int .u8 d0) := blk_cell hd6 0; have y1 : w6.cell? ⟨w2.heap.size, 1, none⟩ = some (.int .u8 d1) := blk_cell hd6 1; have y2 : w6.cell? ⟨w2.heap.size, 2, none⟩ = some (.int .u8 d2) := blk_cell hd6 2; have y3 : w6.cell? ⟨w2.heap.size, 3, none⟩ = some (.int .u8 d3) := blk_cell hd6 3; have y4 : w6.cell? ⟨w2.heap.size, 4, none⟩ = some (.int .u8 d4) := blk_cell hd6 4; clear hb6 hd6 HB5 B2 B4)
    | (go_at_call 19; refine (Qothers.msh_others.calls d0 d1 d2 d3 d4 (strOfNums [d1, d2, d3, d4]) _ rfl).mono ?_; rintro e w7 ⟨rfl, hb7⟩; have HB7 := Aside0.mk (below_step HB6.out hb7); have B2 := Aside0.mk (blk_below B2'.out hb7); have B4 := Aside0.mk (blk_below B4'.out hb7); have hd7 := B4.out; have hd2 := B2.out; clear y0 y1 y2 y3 y4; have p0 : w7.cell? ⟨w.heap.size, 0, none⟩ = some (.int .u8 0) := blk_cell hd2 0; have p1 : w7.cell? ⟨w.heap.size, 1, none⟩ = some (.int .u8 0) := blk_cell hd2 1; have p2 : w7.cell? ⟨w.heap.size, 2, none⟩ = some (.int .u8 0) := blk_cell hd2 2; have p3 : w7.cell? ⟨w.heap.size, 3, none⟩ = some (.int .u8 0) := blk_cell hd2 3; have p4 : w7.cell? ⟨w.heap.size, 4, none⟩ = some (.int .u8 0) := blk_cell hd2 4; have p5 : w7.cell? ⟨w.heap.size, 5, none⟩ = some (.string ⟨#[]⟩) := blk_cell hd2 5; have p6 : w7.cell? ⟨w.heap.size, 6, none⟩ = some (.string ⟨#[]⟩) := blk_cell hd2 6; have p7 : w7.cell? ⟨w.heap.size, 7, none⟩ = some (.string ⟨#[]⟩) := blk_cell hd2 7; have p8 : w7.cell? ⟨w.heap.size, 8, none⟩ = some (.string ⟨#[]⟩) := blk_cell hd2 8; have p9 : w7.cell? ⟨w.heap.size, 9, none⟩ = some (.string ⟨#[]⟩) := blk_cell hd2 9; have p10 : w7.cell? ⟨w.heap.size, 10, none⟩ = some (.string ⟨#[]⟩) := blk_cell hd2 10; have p11 : w7.cell? ⟨w.heap.size, 11, none⟩ = some (.string ⟨#[]⟩) := blk_cell hd2 11; have p12 : w7.cell? ⟨w.heap.size, 12, none⟩ = some (.string ⟨#[]⟩) := blk_cell hd2 12; have p13 : w7.cell? ⟨w.heap.size, 13, none⟩ = some (.string ⟨#[]⟩) := blk_cell hd2 13; have p14 : w7.cell? ⟨w.heap.size, 14, none⟩ = some (.string ⟨#[]⟩) := blk_cell hd2 14; have pf0 := blk_frozen hd2 0; have pf1 := blk_frozen hd2 1; have pf2 := blk_frozen hd2 2; have pf3 := blk_frozen hd2 3; have pf4 := blk_frozen hd2 4; have pf5 := blk_frozen hd2 5; have pf6 := blk_frozen hd2 6; have pf7 := blk_frozen hd2 7; have pf8 := blk_frozen hd2 8; have pf9 := blk_frozen hd2 9; have pf10 := blk_frozen hd2 10; have pf11 := blk_frozen hd2 11; have pf12 := blk_frozen hd2 12; have pf13 := blk_frozen hd2 13; have pf14 := blk_frozen hd2 14; clear hb7 hd7 hd2 HB6 B2' B4'))
  refine bodyPost_ret (results_ct rfl _ _ w.heap.size 25 #[.int .u8 0, .int .u8 0, .int .u8 0, .int .u8 0, .int .u8 0, .string ⟨#[]⟩, .string ⟨#[]⟩, .string ⟨#[]⟩, .string ⟨#[]⟩, .string ⟨#[]⟩, .string ⟨#[]⟩, .string ⟨#[]⟩, .string ⟨#[]⟩, .string ⟨#[]⟩, .string ⟨#[]⟩] (0, 0) _ rfl (blk_row15 B2.out) Tryd.underlying25 rfl (by kernel_rfl)) rfl ?_
  exact ⟨rfl, (below_set (below_set (below_set (below_set (below_set (below_set (below_set (below_set (below_set (below_set (below_set (below_set (below_set (below_set (below_set HB7.out (Nat.le_refl _)) (Nat.le_refl _)) (Nat.le_refl _)) (Nat.le_refl _)) (Nat.le_refl _)) (Nat.le_refl _)) (Nat.le_refl _)) (Nat.le_refl _)) (Nat.le_refl _)) (Nat.le_refl _)) (Nat.le_refl _)) (Nat.le_refl _)) (Nat.le_refl _)) (Nat.le_refl _)) (Nat.le_refl _))⟩

set_option maxHeartbeats 4000000 in
theorem read_on (A0 : Option Addr) (c0 : Nat) (l0 : List Int) (w : World) (hG : GlobA w) (hr0 : Kd.C (Kd.int .u8) w A0 l0.length l0) (hc0 : l0.length ≤ c0) (d0 d1 d2 d3 d4 : Int) (hd : delim_Read.f l0 = some (d0, d1, d2, d3, d4, 0)) (t : List ByteArray) (ht : segment_Split.f l0 = some t) (hp : 0 < t.length) (f : ByteArray) (b : Bool) (hf : QField.segment_Field.f (rdOf ByteArray.empty t 0) 2 d0 d1 d2 d3 d4 = some (f, b)) (hne : (f.toList == (strOfNums [d1, d2, d3, d4]).toList) = true) (v : Nat → ByteArray) (hv : ∀ k : Nat, k < 10 → ∃ b, QField.segment_Field.f (rdOf ByteArray.empty t 0) (3 + (k : Int)) d0 d1 d2 d3 d4 = some (v k, b)) :
    Calls Tryd.prog 23 #[.slice A0 l0.length c0] w fun e w' => e = .returned (.tuple #[.agg #[.int .u8 d0, .int .u8 d1, .int .u8 d2, .int .u8 d3, .int .u8 d4, .string (v 0), .string (v 1), .string (v 2), .string (v 3), .string (v 4), .string (v 5), .string (v 6), .string (v 7), .string (v 8), .string (v 9)], .int .i64 0]) ∧ Below w.heap.size w w' := by
  have HV := Aside0.mk hv
  clear hv
  have HG := Aside0.mk hG; have HR := Aside0.mk hr0; have HC := Aside0.mk hc0; have HD := Aside0.mk hd; have HT := Aside0.mk ht; have HP := Aside0.mk hp; have HF := Aside0.mk hf
  clear hG hr0 hc0 hd ht hf
  go_enter Tryd.func23, Tryd.ntmps23
  go_wp2_with (first
    | (go_at_call 54; refine (delim_Read.calls A0 c0 l0 d0 d1 d2 d3 d4 0 _ ?hc HC.out HD.out).mono ?_; (case hc => exact Kd.C_below HR.out (below_alloc (Below.refl _ _) _)); rintro e w2 ⟨rfl, hb2⟩; have HB2 := Aside0.mk (below_step (below_alloc (Below.refl _ _) _) hb2); have hblk2 := blk_below (blk_new w (.cells #[.int .u8 0, .int .u8 0, .int .u8 0, .int .u8 0, .int .u8 0, .string ⟨#[]⟩, .string ⟨#[]⟩, .string ⟨#[]⟩, .string ⟨#[]⟩, .string ⟨#[]⟩, .string ⟨#[]⟩, .string ⟨#[]⟩, .string ⟨#[]⟩, .string ⟨#[]⟩, .string ⟨#[]⟩] 25)) hb2; have HBLK2 := Aside0.mk hblk2; have hlt2 : w.heap.size < w2.heap.size := blk_lt hblk2; have HL2 := Aside0.mk hlt2; clear hb2 hblk2)
    | (go_at_call 35; refine (segment_Split.calls A0 c0 l0 t _ ?hg ?hr HC.out HT.out).mono ?_; (case hg => exact HG.out.below (below_alloc HB2.out _)); (case hr => exact Kd.C_below HR.out (below_alloc HB2.out _)); rintro e w5 ⟨v0, rfl, hR, hb5⟩; obtain ⟨rb, ro, rc, eR, hx⟩ := row_first hR HP.out; subst eR; have HB5 := Aside0.mk (below_step (below_alloc HB2.out _) hb5); have B2 := Aside0.mk (blk_below (blk_alloc HBLK2.out _) hb5); have hd5 := blk_below (blk_new w2 (.cells #[.int .u8 d0, .int .u8 d1, .int .u8 d2, .int .u8 d3, .int .u8 d4] 23)) hb5; have B4 := Aside0.mk hd5; have y0 : w5.cell? ⟨w2.heap.size, 0, none⟩ = some (.int .u8 d0) := blk_cell hd5 0; have y1 : w5.cell? ⟨w2.heap.size, 1, none⟩ = some (.int .u8 d1) := blk_cell hd5 1; have y2 : w5.cell? ⟨w2.heap.size, 2, none⟩ = some (.int .u8 d2) := blk_cell hd5 2; have y3 : w5.cell? ⟨w2.heap.size, 3, none⟩ = some (.int .u8 d3) := blk_cell hd5 3; have y4 : w5.cell? ⟨w2.heap.size, 4, none⟩ = some (.int .u8 d4) := blk_cell hd5 4; clear hR hb5 hd5 hlt2 HB2 HBLK2)
    | (go_at_call 37; refine (QField.segment_Field.calls (rdOf ByteArray.empty t 0) 2 d0 d1 d2 d3 d4 f b _ ?hg HF.out).mono ?_; (case hg => exact HG.out.below HB5.out); rintro e w6 ⟨rfl, hb6⟩; have HB6 := Aside0.mk (below_step HB5.out hb6); have B2' := Aside0.mk (blk_below B2.out hb6); have B4' := Aside0.mk (blk_below B4.out hb6); have hd6 := B4'.out; clear y0 y1 y2 y3 y4 hx; have y0 : w6.cell? ⟨w2.heap.size, 0, none⟩ = some (.int .u8 d0) := blk_cell hd6 0; have y1 : w6.cell? ⟨w2.heap.size, 1, none⟩ = some (.int .u8 d1) := blk_cell hd6 1; have y2 : w6.cell? ⟨w2.heap.size, 2, none⟩ = some (.int .u8 d2) := blk_cell hd6 2; have y3 : w6.cell? ⟨w2.heap.size, 3, none⟩ = some (.int .u8 d3) := blk_cell hd6 3; have y4 : w6.cell? ⟨w2.heap.size, 4, none⟩ = some (.int .u8 d4) := blk_cell hd6 4; clear hb6 hd6 HB5 B2 B4)
    | (go_at_call 19; refine (Qothers.msh_others.calls d0 d1 d2 d3 d4 (strOfNums [d1, d2, d3, d4]) _ rfl).mono ?_; rintro e w7 ⟨rfl, hb7⟩; have HB7 := Aside0.mk (below_step HB6.out hb7); have B2 := Aside0.mk (blk_below B2'.out hb7); have B4 := Aside0.mk (blk_below B4'.out hb7); have hd7 := B4.out; have hd2 := B2.out; clear y0 y1 y2 y3 y4; have y0 : w7.cell? ⟨w2.heap.size, 0, none⟩ = some (.int .u8 d0) := blk_cell hd7 0; have y1 : w7.cell? ⟨w2.heap.size, 1, none⟩ = some (.int .u8 d1) := blk_cell hd7 1; have y2 : w7.cell? ⟨w2.heap.size, 2, none⟩ = some (.int .u8 d2) := blk_cell hd7 2; have y3 : w7.cell? ⟨w2.heap.size, 3, none⟩ = some (.int .u8 d3) := blk_cell hd7 3; have y4 : w7.cell? ⟨w2.heap.size, 4, none⟩ = some (.int .u8 d4) := blk_cell hd7 4; clear hb7 hd7 hd2 HB6 B2' B4')
    | (go_at_call 20; refine (texts_calls _).mono ?_; rintro e w8 ⟨rfl, hb8⟩; have HB8 := Aside0.mk (below_step (below_alloc HB7.out _) hb8); have B2' := Aside0.mk (blk_below (blk_alloc B2.out _) hb8); have B4' := Aside0.mk (blk_below (blk_alloc B4.out _) hb8); have B9 := Aside0.mk (blk_below (blk_new w7 (.cells #[.int .u8 d0, .int .u8 d1, .int .u8 d2, .int .u8 d3, .int .u8 d4, .string ⟨#[]⟩, .string ⟨#[]⟩, .string ⟨#[]⟩, .string ⟨#[]⟩, .string ⟨#[]⟩, .string ⟨#[]⟩, .string ⟨#[]⟩, .string ⟨#[]⟩, .string ⟨#[]⟩, .string ⟨#[]⟩] 25)) hb8); have HL7 := Aside0.mk (blk_lt B2.out); clear y0 y1 y2 y3 y4 hb8))
  have G2 : Aside0 (w.heap.size ≤ w2.heap.size) := ⟨Nat.le_of_lt HL2.out⟩
  have G9 : Aside0 (w.heap.size ≤ w7.heap.size) := ⟨HB7.out.size⟩
  have N49 : Aside0 (w2.heap.size ≠ w7.heap.size) := ⟨blk_ne B4'.out B9.out (by decide)⟩
  have N29 : Aside0 (w.heap.size ≠ w7.heap.size) := ⟨Nat.ne_of_lt HL7.out⟩
  clear HB7 B2 B4 HL2 HL7
  generalize w2.heap.size = b4 at *
  generalize w7.heap.size = b9 at *
  generalize rdOf ByteArray.empty t 0 = s at *
  go_loopw [39] (fun i W => ∃ k : Nat, k ≤ 10 ∧ i = .int .i64 (k : Nat) ∧ Aside0 (W.heap[b9]? = some (.cells (headC d0 d1 d2 d3 d4 v k) 25 (0, 0))) ∧ Aside0 (W.heap[b4]? = some (.cells #[.int .u8 d0, .int .u8 d1, .int .u8 d2, .int .u8 d3, .int .u8 d4] 23 (0, 0))) ∧ Aside0 (W.heap[w.heap.size]? = some (.cells #[.int .u8 0, .int .u8 0, .int .u8 0, .int .u8 0, .int .u8 0, .string ⟨#[]⟩, .string ⟨#[]⟩, .string ⟨#[]⟩, .string ⟨#[]⟩, .string ⟨#[]⟩, .string ⟨#[]⟩, .string ⟨#[]⟩, .string ⟨#[]⟩, .string ⟨#[]⟩, .string ⟨#[]⟩] 25 (0, 0))) ∧ Aside0 (Below w.heap.size w W)) (fun i _ => 10 - (intOf i).toNat)
  case atStart => exact ⟨0, Nat.zero_le _, rfl, ⟨B9.out⟩, B4', B2', HB8⟩
  case round =>
    clear B9 B4' B2' HB8
    obtain ⟨k, hk10, rfl, HBK9, HBK4, HBK2, HBr⟩ := hrel
    by_cases hk : k < 10
    · obtain ⟨bk, hFk⟩ := HV.out k hk
      have HFk := Aside0.mk hFk
      have hidx : ∀ W : World, (Instr.index 55 textsV (.int .i64 (k : Nat))).run Tryd.prog W = .ok (.agg #[.func (.func (textFn k)) #[] #[]]) W := texts_index k hk
      have hlt10 : decide ((k : Int) < 10) = true := decide_eq_true (by omega)
      have hlt10' : decide (k < 10) = true := decide_eq_true hk
      have hw3 : IntKind.i64.wrap (3 + (k : Int)) = 3 + (k : Int) := by rw [i64_w]; unfold wrap64; omega
      have hw3' : wrap64 (3 + (k : Int)) = 3 + (k : Int) := by unfold wrap64; omega
      clear hFk
      have hw1 : wrap64 ((k : Int) + 1) = (k : Int) + 1 := by unfold wrap64; omega
      have x0 : (wr.alloc (.cells #[.func (.func (textFn k)) #[] #[]] 54)).drew.cell? ⟨wr.heap.size, 0, none⟩ = some (.func (.func (textFn k)) #[] #[]) := (blk_cell (blk_drew (blk_new wr _)) 0).trans rfl
      have hd4 := blk_drew (blk_alloc HBK4.out (.cells #[.func (.func (textFn k)) #[] #[]] 54))
      have y0 : (wr.alloc (.cells #[.func (.func (textFn k)) #[] #[]] 54)).drew.cell? ⟨b4, 0, none⟩ = some (.int .u8 d0) := blk_cell hd4 0; have y1 : (wr.alloc (.cells #[.func (.func (textFn k)) #[] #[]] 54)).drew.cell? ⟨b4, 1, none⟩ = some (.int .u8 d1) := blk_cell hd4 1; have y2 : (wr.alloc (.cells #[.func (.func (textFn k)) #[] #[]] 54)).drew.cell? ⟨b4, 2, none⟩ = some (.int .u8 d2) := blk_cell hd4 2; have y3 : (wr.alloc (.cells #[.func (.func (textFn k)) #[] #[]] 54)).drew.cell? ⟨b4, 3, none⟩ = some (.int .u8 d3) := blk_cell hd4 3; have y4 : (wr.alloc (.cells #[.func (.func (textFn k)) #[] #[]] 54)).drew.cell? ⟨b4, 4, none⟩ = some (.int .u8 d4) := blk_cell hd4 4
      have NBx : Aside0 (wr.heap.size ≠ b9) := ⟨Nat.ne_of_gt (blk_lt HBK9.out)⟩
      clear hd4
      go_wp2_with fail
      refine start_ (n := 13) (S := fun w' => w'.cell? ⟨wr.heap.size, 0, none⟩ = some (.func (.func (textFn k)) #[] #[]) ∧ w'.cell? ⟨b4, 0, none⟩ = some (.int .u8 d0) ∧ w'.cell? ⟨b4, 1, none⟩ = some (.int .u8 d1) ∧ w'.cell? ⟨b4, 2, none⟩ = some (.int .u8 d2) ∧ w'.cell? ⟨b4, 3, none⟩ = some (.int .u8 d3) ∧ w'.cell? ⟨b4, 4, none⟩ = some (.int .u8 d4)) (ds := []) #[false, false, false, false, false, false, false, false, false, false, false, false, false] (by kernel_rfl) rfl rfl ⟨x0, y0, y1, y2, y3, y4⟩ (fun hHeld => ?_)
      refine pure_ (i := 0) (N := (some 44)) (v := ?_) (a' := ?_) #[true, false, false, false, false, false, false, false, false, false, false, false, false] rfl rfl (by kernel_rfl) (fun _ _ _ h => h) (Or.inl ⟨by rfl, ?_⟩) ?_ ?_
      rotate_left
      · intro w'
        go_simp
        with_reducible rfl
      rotate_left
      · simp only [Act.put, List.setIfInBounds_toArray, List.set_cons_zero, List.set_cons_succ, i64_w, i32_w]
        rfl
      refine take_ (i := 1) (N := (some 45)) (v := ?_) (a' := ?_) #[true, true, false, false, false, false, false, false, false, false, false, false, false] rfl rfl (by kernel_rfl) (fun _ _ _ h => h) (Or.inl ⟨by rfl, ?_⟩) hHeld ?_ ?_
      rotate_left
      · rintro w' ⟨s0, s1, s2, s3, s4, s5⟩
        go_simp
        with_reducible rfl
      rotate_left
      · simp only [Act.put, List.setIfInBounds_toArray, List.set_cons_zero, List.set_cons_succ, i64_w, i32_w]
        rfl
      refine pure_ (i := 3) (N := (some 47)) (v := ?_) (a' := ?_) #[true, true, false, true, false, false, false, false, false, false, false, false, false] rfl rfl (by kernel_rfl) (fun _ _ _ h => h) (Or.inl ⟨by rfl, ?_⟩) ?_ ?_
      rotate_left
      · intro w'
        go_simp
        with_reducible rfl
      rotate_left
      · simp only [Act.put, List.setIfInBounds_toArray, List.set_cons_zero, List.set_cons_succ, i64_w, i32_w]
        rfl
      refine pure_ (i := 4) (N := (some 48)) (v := ?_) (a' := ?_) #[true, true, false, true, true, false, false, false, false, false, false, false, false] rfl rfl (by kernel_rfl) (fun _ _ _ h => h) (Or.inl ⟨by rfl, ?_⟩) ?_ ?_
      rotate_left
      · intro w'
        go_simp
        with_reducible rfl
      rotate_left
      · simp only [Act.put, List.setIfInBounds_toArray, List.set_cons_zero, List.set_cons_succ, i64_w, i32_w]
        rfl
      refine pure_ (i := 5) (N := (some 49)) (v := ?_) (a' := ?_) #[true, true, false, true, true, true, false, false, false, false, false, false, false] rfl rfl (by kernel_rfl) (fun _ _ _ h => h) (Or.inl ⟨by rfl, ?_⟩) ?_ ?_
      rotate_left
      · intro w'
        go_simp
        with_reducible rfl
      rotate_left
      · simp only [Act.put, List.setIfInBounds_toArray, List.set_cons_zero, List.set_cons_succ, i64_w, i32_w]
        rfl
      refine take_ (i := 6) (N := (some 50)) (v := ?_) (a' := ?_) #[true, true, false, true, true, true, true, false, false, false, false, false, false] rfl rfl (by kernel_rfl) (fun _ _ _ h => h) (Or.inl ⟨by rfl, ?_⟩) hHeld ?_ ?_
      rotate_left
      · rintro w' ⟨s0, s1, s2, s3, s4, s5⟩
        go_simp
        with_reducible rfl
      rotate_left
      · simp only [Act.put, List.setIfInBounds_toArray, List.set_cons_zero, List.set_cons_succ, i64_w, i32_w]
        rfl
      refine one_ (i := 2) (N := (some 46)) #[true, true, true, true, true, true, true, false, false, false, false, false, false] rfl rfl (by kernel_rfl) (by decide) (fun K hK => ?_)
      refine call_ (textFn k) #[.pointer (some ⟨b9, 0, none⟩)] (by rfl) rfl ?_ ?_
      · unfold execOp
        simp [resolve, Deferred.ofValue, invoke, Act.eval, texts_enters k hk]
      refine (text_calls k hk b9 _).mono ?_
      rintro e w3 ⟨rfl, hw3⟩
      have hw3' := hw3.symm
      subst hw3'
      clear hw3
      refine ⟨_, rfl, ?_⟩
      refine hK.out _ _ hHeld (fun hHeld => ?_)
      clear hK K
      refine norm_ (a' := ?_) ?_ ?_
      rotate_left
      · show Act.put _ (some 46) _ = _
        simp only [Act.put, List.setIfInBounds_toArray, List.set_cons_zero, List.set_cons_succ, i64_w, i32_w]
        rfl
      refine one_ (i := 7) (N := (some 51)) #[true, true, true, true, true, true, true, true, false, false, false, false, false] rfl rfl (by kernel_rfl) (by decide) (fun K hK => ?_)
      refine goes_ Tryd.func37 (by kernel_rfl) rfl #[.string s, .int .i64 (3 + (k : Int)), .agg #[.int .u8 d0, .int .u8 d1, .int .u8 d2, .int .u8 d3, .int .u8 d4]] (by rfl) rfl rfl (by (try simp only [List.map_toArray, List.map_cons, List.map_nil]); first | done | rfl) ?_
      refine (QField.segment_Field.calls s (3 + (k : Int)) d0 d1 d2 d3 d4 (v k) bk _ ?hg HFk.out).mono ?_
      case hg => exact HG.out.below (below_drew1 (below_alloc HBr.out _))
      rintro e w4 ⟨rfl, hb4⟩
      have HB4 := Aside0.mk hb4
      clear hb4
      refine ⟨_, rfl, ?_⟩
      refine hK.out _ _ ⟨pw_cell_below HB4.out hHeld.1, pw_cell_below HB4.out hHeld.2.1, pw_cell_below HB4.out hHeld.2.2.1, pw_cell_below HB4.out hHeld.2.2.2.1, pw_cell_below HB4.out hHeld.2.2.2.2.1, pw_cell_below HB4.out hHeld.2.2.2.2.2⟩ (fun hHeld => ?_)
      clear hK K
      refine norm_ (a' := ?_) ?_ ?_
      rotate_left
      · show Act.put _ (some 51) _ = _
        simp only [Act.put, List.setIfInBounds_toArray, List.set_cons_zero, List.set_cons_succ, i64_w, i32_w]
        rfl
      refine pure_ (i := 8) (N := (some 43)) (v := ?_) (a' := ?_) #[true, true, true, true, true, true, true, true, true, false, false, false, false] rfl rfl (by kernel_rfl) (fun _ _ _ h => h) (Or.inl ⟨by rfl, ?_⟩) ?_ ?_
      rotate_left
      · intro w'
        go_simp
        with_reducible rfl
      rotate_left
      · simp only [Act.put, List.setIfInBounds_toArray, List.set_cons_zero, List.set_cons_succ, i64_w, i32_w]
        rfl
      refine pure_ (i := 9) (N := (some 52)) (v := ?_) (a' := ?_) #[true, true, true, true, true, true, true, true, true, true, false, false, false] rfl rfl (by kernel_rfl) (fun _ _ _ h => h) (Or.inl ⟨by rfl, ?_⟩) ?_ ?_
      rotate_left
      · intro w'
        go_simp
        with_reducible rfl
      rotate_left
      · simp only [Act.put, List.setIfInBounds_toArray, List.set_cons_zero, List.set_cons_succ, i64_w, i32_w]
        rfl
      refine pure_ (i := 10) (N := (some 53)) (v := ?_) (a' := ?_) #[true, true, true, true, true, true, true, true, true, true, true, false, false] rfl rfl (by kernel_rfl) (fun _ _ _ h => h) (Or.inl ⟨by rfl, ?_⟩) ?_ ?_
      rotate_left
      · intro w'
        go_simp
        with_reducible rfl
      rotate_left
      · simp only [Act.put, List.setIfInBounds_toArray, List.set_cons_zero, List.set_cons_succ, i64_w, i32_w]
        rfl
      refine pure_ (i := 11) (N := (some 54)) (v := ?_) (a' := ?_) #[true, true, true, true, true, true, true, true, true, true, true, true, false] rfl rfl (by kernel_rfl) (fun _ _ _ h => h) (Or.inl ⟨by rfl, ?_⟩) ?_ ?_
      rotate_left
      · intro w'
        go_simp
        with_reducible rfl
      rotate_left
      · simp only [Act.put, List.setIfInBounds_toArray, List.set_cons_zero, List.set_cons_succ, i64_w, i32_w]
        rfl
      refine one_ (i := 12) (N := none) #[true, true, true, true, true, true, true, true, true, true, true, true, true] rfl rfl (by kernel_rfl) (by decide) (fun K hK => ?_)
      have hblk4 := blk_below (blk_drew (blk_alloc HBK9.out _)) HB4.out
      have z0 : w4.cell? ⟨b9, 5 + k, none⟩ = some (.string ⟨#[]⟩) := (blk_cell hblk4 (5 + k)).trans (headC_at d0 d1 d2 d3 d4 v k hk)
      have z1 := blk_frozen hblk4 (5 + k)
      refine skip_ (w1 := ?_) (by rfl) rfl ?_ ?_
      rotate_left
      · go_simp
        rfl
      refine hK.out _ _ ⟨(cell_far (p := ⟨b9, 5 + k, none⟩) NBx.out _).trans hHeld.1, (cell_far (p := ⟨b9, 5 + k, none⟩) N49.out _).trans hHeld.2.1, (cell_far (p := ⟨b9, 5 + k, none⟩) N49.out _).trans hHeld.2.2.1, (cell_far (p := ⟨b9, 5 + k, none⟩) N49.out _).trans hHeld.2.2.2.1, (cell_far (p := ⟨b9, 5 + k, none⟩) N49.out _).trans hHeld.2.2.2.2.1, (cell_far (p := ⟨b9, 5 + k, none⟩) N49.out _).trans hHeld.2.2.2.2.2⟩ (fun hHeld => ?_)
      clear hK K
      refine done_ (by kernel_rfl) ?_
      go_wp2
      go_roundw
      case rel => exact ⟨k + 1, by omega, by go_num, ⟨blk_put (blk_below (blk_drew (blk_alloc HBK9.out _)) HB4.out) (5 + k) (.string (v k)) (headC_set d0 d1 d2 d3 d4 v k hk)⟩, ⟨blk_far (blk_below (blk_drew (blk_alloc HBK4.out _)) HB4.out) N49.out _⟩, ⟨blk_far (blk_below (blk_drew (blk_alloc HBK2.out _)) HB4.out) N29.out _⟩, ⟨below_set (below_step (below_drew1 (below_alloc HBr.out _)) HB4.out) G9.out⟩⟩
      case measure => simp [intOf]; omega
    · obtain rfl : k = 10 := by omega
      have hb9 := HBK9.out; have hb2 := HBK2.out
      have u0 : wr.cell? ⟨b9, 0, none⟩ = some (.int .u8 d0) := blk_cell hb9 0; have u1 : wr.cell? ⟨b9, 1, none⟩ = some (.int .u8 d1) := blk_cell hb9 1; have u2 : wr.cell? ⟨b9, 2, none⟩ = some (.int .u8 d2) := blk_cell hb9 2; have u3 : wr.cell? ⟨b9, 3, none⟩ = some (.int .u8 d3) := blk_cell hb9 3; have u4 : wr.cell? ⟨b9, 4, none⟩ = some (.int .u8 d4) := blk_cell hb9 4; have u5 : wr.cell? ⟨b9, 5, none⟩ = some (.string (v 0)) := blk_cell hb9 5; have u6 : wr.cell? ⟨b9, 6, none⟩ = some (.string (v 1)) := blk_cell hb9 6; have u7 : wr.cell? ⟨b9, 7, none⟩ = some (.string (v 2)) := blk_cell hb9 7; have u8 : wr.cell? ⟨b9, 8, none⟩ = some (.string (v 3)) := blk_cell hb9 8; have u9 : wr.cell? ⟨b9, 9, none⟩ = some (.string (v 4)) := blk_cell hb9 9; have u10 : wr.cell? ⟨b9, 10, none⟩ = some (.string (v 5)) := blk_cell hb9 10; have u11 : wr.cell? ⟨b9, 11, none⟩ = some (.string (v 6)) := blk_cell hb9 11; have u12 : wr.cell? ⟨b9, 12, none⟩ = some (.string (v 7)) := blk_cell hb9 12; have u13 : wr.cell? ⟨b9, 13, none⟩ = some (.string (v 8)) := blk_cell hb9 13; have u14 : wr.cell? ⟨b9, 14, none⟩ = some (.string (v 9)) := blk_cell hb9 14
      have p0 : wr.cell? ⟨w.heap.size, 0, none⟩ = some (.int .u8 0) := blk_cell hb2 0; have p1 : wr.cell? ⟨w.heap.size, 1, none⟩ = some (.int .u8 0) := blk_cell hb2 1; have p2 : wr.cell? ⟨w.heap.size, 2, none⟩ = some (.int .u8 0) := blk_cell hb2 2; have p3 : wr.cell? ⟨w.heap.size, 3, none⟩ = some (.int .u8 0) := blk_cell hb2 3; have p4 : wr.cell? ⟨w.heap.size, 4, none⟩ = some (.int .u8 0) := blk_cell hb2 4; have p5 : wr.cell? ⟨w.heap.size, 5, none⟩ = some (.string ⟨#[]⟩) := blk_cell hb2 5; have p6 : wr.cell? ⟨w.heap.size, 6, none⟩ = some (.string ⟨#[]⟩) := blk_cell hb2 6; have p7 : wr.cell? ⟨w.heap.size, 7, none⟩ = some (.string ⟨#[]⟩) := blk_cell hb2 7; have p8 : wr.cell? ⟨w.heap.size, 8, none⟩ = some (.string ⟨#[]⟩) := blk_cell hb2 8; have p9 : wr.cell? ⟨w.heap.size, 9, none⟩ = some (.string ⟨#[]⟩) := blk_cell hb2 9; have p10 : wr.cell? ⟨w.heap.size, 10, none⟩ = some (.string ⟨#[]⟩) := blk_cell hb2 10; have p11 : wr.cell? ⟨w.heap.size, 11, none⟩ = some (.string ⟨#[]⟩) := blk_cell hb2 11; have p12 : wr.cell? ⟨w.heap.size, 12, none⟩ = some (.string ⟨#[]⟩) := blk_cell hb2 12; have p13 : wr.cell? ⟨w.heap.size, 13, none⟩ = some (.string ⟨#[]⟩) := blk_cell hb2 13; have p14 : wr.cell? ⟨w.heap.size, 14, none⟩ = some (.string ⟨#[]⟩) := blk_cell hb2 14; have pf0 := blk_frozen hb2 0; have pf1 := blk_frozen hb2 1; have pf2 := blk_frozen hb2 2; have pf3 := blk_frozen hb2 3; have pf4 := blk_frozen hb2 4; have pf5 := blk_frozen hb2 5; have pf6 := blk_frozen hb2 6; have pf7 := blk_frozen hb2 7; have pf8 := blk_frozen hb2 8; have pf9 := blk_frozen hb2 9; have pf10 := blk_frozen hb2 10; have pf11 := blk_frozen hb2 11; have pf12 := blk_frozen hb2 12; have pf13 := blk_frozen hb2 13; have pf14 := blk_frozen hb2 14
      clear hb9 hb2 HV HG HR HC HD HT HP HF
      go_wp2
      refine bodyPost_ret (results_ct rfl _ _ w.heap.size 25 #[.int .u8 d0, .int .u8 d1, .int .u8 d2, .int .u8 d3, .int .u8 d4, .string (v 0), .string (v 1), .string (v 2), .string (v 3), .string (v 4), .string (v 5), .string (v 6), .string (v 7), .string (v 8), .string (v 9)] (0, 0) _ rfl (blk_row15 HBK2.out) Tryd.underlying25 rfl (by kernel_rfl)) rfl ?_
      exact ⟨rfl, (below_set (below_set (below_set (below_set (below_set (below_set (below_set (below_set (below_set (below_set (below_set (below_set (below_set (below_set (below_set HBr.out (Nat.le_refl _)) (Nat.le_refl _)) (Nat.le_refl _)) (Nat.le_refl _)) (Nat.le_refl _)) (Nat.le_refl _)) (Nat.le_refl _)) (Nat.le_refl _)) (Nat.le_refl _)) (Nat.le_refl _)) (Nat.le_refl _)) (Nat.le_refl _)) (Nat.le_refl _)) (Nat.le_refl _)) (Nat.le_refl _))⟩

end Go.Proofs.YtciagecaegoppaaDoor
end
section
namespace Go.Proofs.YtciagecaegoppaaDoor
set_option linter.unusedVariables false
set_option maxRecDepth 100000
open Go.RowKit Go.Proofs.YtciagecaegoppaaDoorW.PrintWords Go.Proofs.YtciagecaegoppaaDoorW.PrintLast Go.Proofs.YtciagecaegoppaaDoorW.PrintMore

abbrev HeadT := Int × Int × Int × Int × Int × ByteArray × ByteArray × ByteArray × ByteArray × ByteArray × ByteArray × ByteArray × ByteArray × ByteArray × ByteArray × Int
def headZ (e : Int) : HeadT := (0, 0, 0, 0, 0, ⟨#[]⟩, ⟨#[]⟩, ⟨#[]⟩, ⟨#[]⟩, ⟨#[]⟩, ⟨#[]⟩, ⟨#[]⟩, ⟨#[]⟩, ⟨#[]⟩, ⟨#[]⟩, e)
/-- The field k of the first segment s, k from 3 on. -/
def fieldOf (s : ByteArray) (d0 d1 d2 d3 d4 : Int) (k : Int) : Option ByteArray := (QField.segment_Field.f s k d0 d1 d2 d3 d4).map (·.1)
def msh_Read.rest (s : ByteArray) (d0 d1 d2 d3 d4 : Int) : Option HeadT :=
  (fieldOf s d0 d1 d2 d3 d4 3).bind fun v0 => (fieldOf s d0 d1 d2 d3 d4 4).bind fun v1 => (fieldOf s d0 d1 d2 d3 d4 5).bind fun v2 => (fieldOf s d0 d1 d2 d3 d4 6).bind fun v3 => (fieldOf s d0 d1 d2 d3 d4 7).bind fun v4 => (fieldOf s d0 d1 d2 d3 d4 8).bind fun v5 => (fieldOf s d0 d1 d2 d3 d4 9).bind fun v6 => (fieldOf s d0 d1 d2 d3 d4 10).bind fun v7 => (fieldOf s d0 d1 d2 d3 d4 11).bind fun v8 => (fieldOf s d0 d1 d2 d3 d4 12).bind fun v9 => some (d0, d1, d2, d3, d4, v0, v1, v2, v3, v4, v5, v6, v7, v8, v9, 0)
def msh_Read.f (l0 : List Int) : Option HeadT :=
  (delim_Read.f l0).bind fun d =>
    if d.2.2.2.2.2 ≠ 0 then some (headZ d.2.2.2.2.2)
    else (segment_Split.f l0).bind fun t =>
      if 0 < t.length then
        (QField.segment_Field.f (rdOf ByteArray.empty t 0) 2 d.1 d.2.1 d.2.2.1 d.2.2.2.1 d.2.2.2.2.1).bind fun f =>
          if (f.1.toList == (strOfNums [d.2.1, d.2.2.1, d.2.2.2.1, d.2.2.2.2.1]).toList) = false then some (headZ 11)
          else msh_Read.rest (rdOf ByteArray.empty t 0) d.1 d.2.1 d.2.2.1 d.2.2.2.1 d.2.2.2.2.1
      else none
def vOf (v0 v1 v2 v3 v4 v5 v6 v7 v8 v9 : ByteArray) : Nat → ByteArray
  | 0 => v0
  | 1 => v1
  | 2 => v2
  | 3 => v3
  | 4 => v4
  | 5 => v5
  | 6 => v6
  | 7 => v7
  | 8 => v8
  | _ => v9
theorem field_of {s : ByteArray} {d0 d1 d2 d3 d4 k : Int} {v : ByteArray} (h : fieldOf s d0 d1 d2 d3 d4 k = some v) : ∃ b, QField.segment_Field.f s k d0 d1 d2 d3 d4 = some (v, b) := by
  obtain ⟨⟨v', b⟩, h1, rfl⟩ := Option.map_eq_some_iff.1 h
  exact ⟨b, h1⟩

theorem msh_Read.calls (A0 : Option Addr) (c0 : Nat) (l0 : List Int) (r1 r2 r3 r4 r5 : Int) (r6 r7 r8 r9 r10 r11 r12 r13 r14 r15 : ByteArray) (r16 : Int) (w : World) (hG : GlobA w) (hr0 : Kd.C (Kd.int .u8) w A0 l0.length l0) (hc0 : l0.length ≤ c0) (h : msh_Read.f l0 = some (r1, r2, r3, r4, r5, r6, r7, r8, r9, r10, r11, r12, r13, r14, r15, r16)) :
    Calls Tryd.prog 23 #[.slice A0 l0.length c0] w fun e w' => e = .returned (.tuple #[.agg #[.int .u8 r1, .int .u8 r2, .int .u8 r3, .int .u8 r4, .int .u8 r5, .string r6, .string r7, .string r8, .string r9, .string r10, .string r11, .string r12, .string r13, .string r14, .string r15], .int .i64 r16]) ∧ Below w.heap.size w w' := by
  unfold msh_Read.f at h
  obtain ⟨⟨d0, d1, d2, d3, d4, e0⟩, hd, h⟩ := Option.bind_eq_some_iff.1 h
  dsimp only at h
  by_cases he : e0 ≠ 0
  · rw [if_pos he] at h
    simp only [headZ, Option.some.injEq, Prod.mk.injEq] at h
    obtain ⟨rfl, rfl, rfl, rfl, rfl, rfl, rfl, rfl, rfl, rfl, rfl, rfl, rfl, rfl, rfl, rfl⟩ := h
    exact read_bad A0 c0 l0 w hr0 hc0 d0 d1 d2 d3 d4 _ hd he
  · rw [if_neg he] at h
    obtain rfl : e0 = 0 := by simpa using he
    obtain ⟨t, ht, h⟩ := Option.bind_eq_some_iff.1 h
    split at h
    case isFalse => cases h
    rename_i hp
    obtain ⟨⟨f, b⟩, hf, h⟩ := Option.bind_eq_some_iff.1 h
    dsimp only at h
    by_cases hne : (f.toList == (strOfNums [d1, d2, d3, d4]).toList) = false
    · rw [if_pos hne] at h
      simp only [headZ, Option.some.injEq, Prod.mk.injEq] at h
      obtain ⟨rfl, rfl, rfl, rfl, rfl, rfl, rfl, rfl, rfl, rfl, rfl, rfl, rfl, rfl, rfl, rfl⟩ := h
      exact read_other A0 c0 l0 w hG hr0 hc0 d0 d1 d2 d3 d4 hd t ht hp f b hf hne
    · rw [if_neg hne] at h
      unfold msh_Read.rest at h
      obtain ⟨v0, h0, h⟩ := Option.bind_eq_some_iff.1 h
      obtain ⟨v1, h1, h⟩ := Option.bind_eq_some_iff.1 h
      obtain ⟨v2, h2, h⟩ := Option.bind_eq_some_iff.1 h
      obtain ⟨v3, h3, h⟩ := Option.bind_eq_some_iff.1 h
      obtain ⟨v4, h4, h⟩ := Option.bind_eq_some_iff.1 h
      obtain ⟨v5, h5, h⟩ := Option.bind_eq_some_iff.1 h
      obtain ⟨v6, h6, h⟩ := Option.bind_eq_some_iff.1 h
      obtain ⟨v7, h7, h⟩ := Option.bind_eq_some_iff.1 h
      obtain ⟨v8, h8, h⟩ := Option.bind_eq_some_iff.1 h
      obtain ⟨v9, h9, h⟩ := Option.bind_eq_some_iff.1 h
      simp only [Option.some.injEq, Prod.mk.injEq] at h
      obtain ⟨rfl, rfl, rfl, rfl, rfl, rfl, rfl, rfl, rfl, rfl, rfl, rfl, rfl, rfl, rfl, rfl⟩ := h
      exact read_on A0 c0 l0 w hG hr0 hc0 d0 d1 d2 d3 d4 hd t ht hp f b hf (by simpa using hne) (vOf v0 v1 v2 v3 v4 v5 v6 v7 v8 v9) (fun k hk => by
        rcases k with _ | _ | _ | _ | _ | _ | _ | _ | _ | _ | k
        · exact field_of h0
        · exact field_of h1
        · exact field_of h2
        · exact field_of h3
        · exact field_of h4
        · exact field_of h5
        · exact field_of h6
        · exact field_of h7
        · exact field_of h8
        · exact field_of h9
        · omega)
end Go.Proofs.YtciagecaegoppaaDoor
end
section
namespace Go.Proofs.YtciagecaegoppaaDoor.Qfirst
open Go.RowKit Go.Proofs.YtciagecaegoppaaDoorW.PrintWords Go.Proofs.YtciagecaegoppaaDoorW.PrintLast Go.Proofs.YtciagecaegoppaaDoorW.PrintMore
attribute [local go_sem] max2_int min2_int max_two min_two max_three min_three max_four min_four   -- for this text's walks alone
set_option linter.unusedVariables false
set_option linter.unusedSimpArgs false

def errW : Option Int → Value
  | none => .nilIface
  | some c => .iface 0 (.int .i64 c)
theorem errW_none : errW none = .nilIface := rfl
theorem errW_some (c : Int) : errW (some c) = .iface 0 (.int .i64 c) := rfl

-- the values' own types

end Go.Proofs.YtciagecaegoppaaDoor.Qfirst
end
section
namespace Go.Proofs.YtciagecaegoppaaDoor.Qfirst
open Go.RowKit Go.Proofs.YtciagecaegoppaaDoorW.PrintWords Go.Proofs.YtciagecaegoppaaDoorW.PrintLast Go.Proofs.YtciagecaegoppaaDoorW.PrintMore
attribute [local go_sem] max2_int min2_int max_two min_two max_three min_three max_four min_four   -- for this text's walks alone
set_option linter.unusedVariables false
set_option linter.unusedSimpArgs false

def segment_again.f (a0 : ByteArray) (a1 : Int) (a2_0 : Int) (a2_1 : Int) (a2_2 : Int) (a2_3 : Int) (a2_4 : Int) : Option (ByteArray × Bool) := (segment_nth.f a0 a2_2 a1).bind fun bt102 => (if a1 ≥ 1 then (some (bt102.1, decide (a1 ≤ bt102.2))) else (some (bt102.1, false)))
set_option maxHeartbeats 8000000 in
set_option maxRecDepth 100000 in
theorem segment_again.calls (a0 : ByteArray) (a1 : Int) (a2_0 : Int) (a2_1 : Int) (a2_2 : Int) (a2_3 : Int) (a2_4 : Int) (r1 : ByteArray) (r2 : Bool) (w : World) (hG : GlobA w) (h : segment_again.f a0 a1 a2_0 a2_1 a2_2 a2_3 a2_4 = some (r1, r2)) :
    Calls Tryd.prog 74 #[.string a0, .int .i64 a1, .agg #[.int .u8 a2_0, .int .u8 a2_1, .int .u8 a2_2, .int .u8 a2_3, .int .u8 a2_4]] w fun e w' => e = .returned (.tuple #[.string r1, .bool r2]) ∧ Below w.heap.size w w' := by
  have hu23 := Tryd.underlying23
  have HG := Aside0.mk hG
  clear hG
  have HB := Aside0.mk (Below.refl w.heap.size w)
  have H : ((segment_nth.f a0 a2_2 a1).bind fun bt102 => (if a1 ≥ 1 then (some (bt102.1, decide (a1 ≤ bt102.2))) else (some (bt102.1, false)))) = some (r1, r2) := h
  clear h
  replace H := Option.bind_eq_some_iff.mp H
  obtain ⟨⟨t102, t103⟩, A40, H⟩ := H
  replace H : (if a1 ≥ 1 then (some (t102, decide (a1 ≤ t103))) else (some (t102, false))) = some (r1, r2) := H
  have A4 := Aside0.mk A40
  clear A40
  by_cases c5 : a1 ≥ 1
  · rw [if_pos c5] at H
    have c5b0 : decide (1 ≤ a1) = true := decide_eq_true c5
    clear c5
    simp only [Option.some.injEq, Prod.mk.injEq] at H
    obtain ⟨rfl, rfl⟩ := H
    go_enter Tryd.func74, Tryd.ntmps74
    go_wp2_with (first | ((with_reducible refine gate_dst (N := 5) rfl ?_); refine box_event ?hg (N := 5) ?hd (cs := #[.int .u8 a2_0, .int .u8 a2_1, .int .u8 a2_2, .int .u8 a2_3, .int .u8 a2_4]) (t := 23) ?hr ?_; (case hd => rfl); (case hg => rfl); (case hr => first | (go_simp; done) | (go_simp; rfl)); intro gb101 hg w6 hbox hb; have n0_ := Aside0.mk (below_step (by repeat (first | (with_reducible first | exact HB.out | apply below_alloc | apply pw_below_drewN | apply below_drew1) | exact HB.out)) hb); have n1_ := Aside0.mk (hbox); have n2_ := Aside0.mk ((by rw [hg]; exact (below_size (by repeat (first | (with_reducible first | exact HB.out | apply below_alloc | apply pw_below_drewN | apply below_drew1) | exact HB.out))) : w.heap.size ≤ gb101)); have n3_ := Aside0.mk ((by rw [hg]; exact (below_size (by repeat (first | (with_reducible first | exact HB.out | apply below_alloc | apply pw_below_drewN | apply below_drew1) | exact HB.out))) : w.heap.size ≤ gb101)); clear HB; have HB := n0_; have BK101 := n1_; have GW101 := n2_; have GE101 := n3_; clear n0_ n1_ n2_ n3_; clear hb hbox hg; have hcz7_0 : w6.cell? ⟨gb101, 0, none⟩ = some (.int .u8 a2_0) := (blk_cell BK101.out 0).trans rfl; have hcz7_1 : w6.cell? ⟨gb101, 1, none⟩ = some (.int .u8 a2_1) := (blk_cell BK101.out 1).trans rfl; have hcz7_2 : w6.cell? ⟨gb101, 2, none⟩ = some (.int .u8 a2_2) := (blk_cell BK101.out 2).trans rfl; have hcz7_3 : w6.cell? ⟨gb101, 3, none⟩ = some (.int .u8 a2_3) := (blk_cell BK101.out 3).trans rfl; have hcz7_4 : w6.cell? ⟨gb101, 4, none⟩ = some (.int .u8 a2_4) := (blk_cell BK101.out 4).trans rfl; have hfz7_0 := blk_frozen BK101.out 0; have hfz7_1 := blk_frozen BK101.out 1; have hfz7_2 := blk_frozen BK101.out 2; have hfz7_3 := blk_frozen BK101.out 3; have hfz7_4 := blk_frozen BK101.out 4) | ((with_reducible refine gate_callee (f := 75) rfl ?_); refine goesL_ (some 15) rfl rfl Tryd.func75 (by kernel_rfl) rfl #[.string a0, .int .u8 a2_2, .int .i64 a1] rfl (by (try simp only [List.map_toArray, List.map_cons, List.map_nil]); first | done | rfl | (simp only [List.length_drop, List.length_take]; rfl)) ?_; (with_reducible refine (segment_nth.calls a0 a2_2 a1 t102 t103 _ ?side1 A4.out).mono ?_); (case side1 => exact GlobA.below HG.out (by repeat (first | (with_reducible first | exact HB.out | apply below_alloc | apply pw_below_drewN | apply below_drew1 | refine below_set ?_ GE101.out) | exact HB.out))); rintro e w8 ⟨rfl, hb⟩; refine ⟨_, rfl, ?_⟩; have n0_ := Aside0.mk (blk_below (g := gb101) (o := .cells #[.int .u8 a2_0, .int .u8 a2_1, .int .u8 a2_2, .int .u8 a2_3, .int .u8 a2_4] 23 (0, 0)) (by (with_reducible repeat (first | refine blk_drewN ?_ _ | refine blk_drew ?_ | refine blk_alloc ?_ _)); exact BK101.out) hb); have n1_ := Aside0.mk (below_step (by repeat (first | (with_reducible first | exact HB.out | apply below_alloc | apply pw_below_drewN | apply below_drew1 | refine below_set ?_ GE101.out) | exact HB.out)) hb); clear BK101; clear HB; have BK101 := n0_; have HB := n1_; clear n0_ n1_; (try clear hb); (try clear hb2); (try clear hk); (try clear hi)))
    go_ret2
    exact ⟨by first | rfl | (simp [errW_none, errW_some] <;> rfl) | (simp [*, errW_none, errW_some] <;> rfl), by repeat (first | (with_reducible first | exact HB.out | apply below_alloc | apply pw_below_drewN | apply below_drew1 | refine below_set ?_ GE101.out) | exact HB.out)⟩
  · rw [if_neg c5] at H
    have c5b0 : decide (1 ≤ a1) = false := decide_eq_false c5
    clear c5
    simp only [Option.some.injEq, Prod.mk.injEq] at H
    obtain ⟨rfl, rfl⟩ := H
    go_enter Tryd.func74, Tryd.ntmps74
    go_wp2_with (first | ((with_reducible refine gate_dst (N := 5) rfl ?_); refine box_event ?hg (N := 5) ?hd (cs := #[.int .u8 a2_0, .int .u8 a2_1, .int .u8 a2_2, .int .u8 a2_3, .int .u8 a2_4]) (t := 23) ?hr ?_; (case hd => rfl); (case hg => rfl); (case hr => first | (go_simp; done) | (go_simp; rfl)); intro gb101 hg w9 hbox hb; have n0_ := Aside0.mk (below_step (by repeat (first | (with_reducible first | exact HB.out | apply below_alloc | apply pw_below_drewN | apply below_drew1) | exact HB.out)) hb); have n1_ := Aside0.mk (hbox); have n2_ := Aside0.mk ((by rw [hg]; exact (below_size (by repeat (first | (with_reducible first | exact HB.out | apply below_alloc | apply pw_below_drewN | apply below_drew1) | exact HB.out))) : w.heap.size ≤ gb101)); have n3_ := Aside0.mk ((by rw [hg]; exact (below_size (by repeat (first | (with_reducible first | exact HB.out | apply below_alloc | apply pw_below_drewN | apply below_drew1) | exact HB.out))) : w.heap.size ≤ gb101)); clear HB; have HB := n0_; have BK101 := n1_; have GW101 := n2_; have GE101 := n3_; clear n0_ n1_ n2_ n3_; clear hb hbox hg; have hcz10_0 : w9.cell? ⟨gb101, 0, none⟩ = some (.int .u8 a2_0) := (blk_cell BK101.out 0).trans rfl; have hcz10_1 : w9.cell? ⟨gb101, 1, none⟩ = some (.int .u8 a2_1) := (blk_cell BK101.out 1).trans rfl; have hcz10_2 : w9.cell? ⟨gb101, 2, none⟩ = some (.int .u8 a2_2) := (blk_cell BK101.out 2).trans rfl; have hcz10_3 : w9.cell? ⟨gb101, 3, none⟩ = some (.int .u8 a2_3) := (blk_cell BK101.out 3).trans rfl; have hcz10_4 : w9.cell? ⟨gb101, 4, none⟩ = some (.int .u8 a2_4) := (blk_cell BK101.out 4).trans rfl; have hfz10_0 := blk_frozen BK101.out 0; have hfz10_1 := blk_frozen BK101.out 1; have hfz10_2 := blk_frozen BK101.out 2; have hfz10_3 := blk_frozen BK101.out 3; have hfz10_4 := blk_frozen BK101.out 4) | ((with_reducible refine gate_callee (f := 75) rfl ?_); refine goesL_ (some 15) rfl rfl Tryd.func75 (by kernel_rfl) rfl #[.string a0, .int .u8 a2_2, .int .i64 a1] rfl (by (try simp only [List.map_toArray, List.map_cons, List.map_nil]); first | done | rfl | (simp only [List.length_drop, List.length_take]; rfl)) ?_; (with_reducible refine (segment_nth.calls a0 a2_2 a1 t102 t103 _ ?side1 A4.out).mono ?_); (case side1 => exact GlobA.below HG.out (by repeat (first | (with_reducible first | exact HB.out | apply below_alloc | apply pw_below_drewN | apply below_drew1 | refine below_set ?_ GE101.out) | exact HB.out))); rintro e w11 ⟨rfl, hb⟩; refine ⟨_, rfl, ?_⟩; have n0_ := Aside0.mk (blk_below (g := gb101) (o := .cells #[.int .u8 a2_0, .int .u8 a2_1, .int .u8 a2_2, .int .u8 a2_3, .int .u8 a2_4] 23 (0, 0)) (by (with_reducible repeat (first | refine blk_drewN ?_ _ | refine blk_drew ?_ | refine blk_alloc ?_ _)); exact BK101.out) hb); have n1_ := Aside0.mk (below_step (by repeat (first | (with_reducible first | exact HB.out | apply below_alloc | apply pw_below_drewN | apply below_drew1 | refine below_set ?_ GE101.out) | exact HB.out)) hb); clear BK101; clear HB; have BK101 := n0_; have HB := n1_; clear n0_ n1_; (try clear hb); (try clear hb2); (try clear hk); (try clear hi)))
    go_ret2
    exact ⟨by first | rfl | (simp [errW_none, errW_some] <;> rfl) | (simp [*, errW_none, errW_some] <;> rfl), by repeat (first | (with_reducible first | exact HB.out | apply below_alloc | apply pw_below_drewN | apply below_drew1 | refine below_set ?_ GE101.out) | exact HB.out)⟩

def segment_Part.f (a0 : ByteArray) (a1 : Int) (a2 : Int) (a3_0 : Int) (a3_1 : Int) (a3_2 : Int) (a3_3 : Int) (a3_4 : Int) : Option (ByteArray × Bool) := (segment_again.f a0 a1 a3_0 a3_1 a3_2 a3_3 a3_4).bind fun bt105 => (if bt105.2 = true then ((segment_nth.f bt105.1 a3_1 a2).bind fun bt107 => (if a2 ≥ 1 then (some (bt107.1, decide (a2 ≤ bt107.2))) else (some (bt107.1, false)))) else (some ((⟨#[]⟩ : ByteArray), false)))
set_option maxHeartbeats 8000000 in
set_option maxRecDepth 100000 in
theorem segment_Part.calls (a0 : ByteArray) (a1 : Int) (a2 : Int) (a3_0 : Int) (a3_1 : Int) (a3_2 : Int) (a3_3 : Int) (a3_4 : Int) (r1 : ByteArray) (r2 : Bool) (w : World) (hG : GlobA w) (h : segment_Part.f a0 a1 a2 a3_0 a3_1 a3_2 a3_3 a3_4 = some (r1, r2)) :
    Calls Tryd.prog 58 #[.string a0, .int .i64 a1, .int .i64 a2, .agg #[.int .u8 a3_0, .int .u8 a3_1, .int .u8 a3_2, .int .u8 a3_3, .int .u8 a3_4]] w fun e w' => e = .returned (.tuple #[.string r1, .bool r2]) ∧ Below w.heap.size w w' := by
  have hu23 := Tryd.underlying23
  have HG := Aside0.mk hG
  clear hG
  have HB := Aside0.mk (Below.refl w.heap.size w)
  have H : ((segment_again.f a0 a1 a3_0 a3_1 a3_2 a3_3 a3_4).bind fun bt105 => (if bt105.2 = true then ((segment_nth.f bt105.1 a3_1 a2).bind fun bt107 => (if a2 ≥ 1 then (some (bt107.1, decide (a2 ≤ bt107.2))) else (some (bt107.1, false)))) else (some ((⟨#[]⟩ : ByteArray), false)))) = some (r1, r2) := h
  clear h
  replace H := Option.bind_eq_some_iff.mp H
  obtain ⟨⟨t105, t106⟩, A50, H⟩ := H
  replace H : (if t106 = true then ((segment_nth.f t105 a3_1 a2).bind fun bt107 => (if a2 ≥ 1 then (some (bt107.1, decide (a2 ≤ bt107.2))) else (some (bt107.1, false)))) else (some ((⟨#[]⟩ : ByteArray), false))) = some (r1, r2) := H
  have A5 := Aside0.mk A50
  clear A50
  by_cases c6 : t106 = true
  · subst c6
    have H1 : ((segment_nth.f t105 a3_1 a2).bind fun bt107 => (if a2 ≥ 1 then (some (bt107.1, decide (a2 ≤ bt107.2))) else (some (bt107.1, false)))) = some (r1, r2) := by rw [if_pos rfl] at H; exact H
    clear H
    have H := H1
    clear H1
    replace H := Option.bind_eq_some_iff.mp H
    obtain ⟨⟨t107, t108⟩, A70, H⟩ := H
    replace H : (if a2 ≥ 1 then (some (t107, decide (a2 ≤ t108))) else (some (t107, false))) = some (r1, r2) := H
    have A7 := Aside0.mk A70
    clear A70
    by_cases c8 : a2 ≥ 1
    · rw [if_pos c8] at H
      have c8b0 : decide (1 ≤ a2) = true := decide_eq_true c8
      clear c8
      simp only [Option.some.injEq, Prod.mk.injEq] at H
      obtain ⟨rfl, rfl⟩ := H
      go_enter Tryd.func58, Tryd.ntmps58
      go_wp2_with (first | ((with_reducible refine gate_dst (N := 7) rfl ?_); refine box_event ?hg (N := 7) ?hd (cs := #[.int .u8 a3_0, .int .u8 a3_1, .int .u8 a3_2, .int .u8 a3_3, .int .u8 a3_4]) (t := 23) ?hr ?_; (case hd => rfl); (case hg => rfl); (case hr => first | (go_simp; done) | (go_simp; rfl)); intro gb104 hg w9 hbox hb; have n0_ := Aside0.mk (below_step (by repeat (first | (with_reducible first | exact HB.out | apply below_alloc | apply pw_below_drewN | apply below_drew1) | exact HB.out)) hb); have n1_ := Aside0.mk (hbox); have n2_ := Aside0.mk ((by rw [hg]; exact (below_size (by repeat (first | (with_reducible first | exact HB.out | apply below_alloc | apply pw_below_drewN | apply below_drew1) | exact HB.out))) : w.heap.size ≤ gb104)); have n3_ := Aside0.mk ((by rw [hg]; exact (below_size (by repeat (first | (with_reducible first | exact HB.out | apply below_alloc | apply pw_below_drewN | apply below_drew1) | exact HB.out))) : w.heap.size ≤ gb104)); clear HB; have HB := n0_; have BK104 := n1_; have GW104 := n2_; have GE104 := n3_; clear n0_ n1_ n2_ n3_; clear hb hbox hg; have hcz10_0 : w9.cell? ⟨gb104, 0, none⟩ = some (.int .u8 a3_0) := (blk_cell BK104.out 0).trans rfl; have hcz10_1 : w9.cell? ⟨gb104, 1, none⟩ = some (.int .u8 a3_1) := (blk_cell BK104.out 1).trans rfl; have hcz10_2 : w9.cell? ⟨gb104, 2, none⟩ = some (.int .u8 a3_2) := (blk_cell BK104.out 2).trans rfl; have hcz10_3 : w9.cell? ⟨gb104, 3, none⟩ = some (.int .u8 a3_3) := (blk_cell BK104.out 3).trans rfl; have hcz10_4 : w9.cell? ⟨gb104, 4, none⟩ = some (.int .u8 a3_4) := (blk_cell BK104.out 4).trans rfl; have hfz10_0 := blk_frozen BK104.out 0; have hfz10_1 := blk_frozen BK104.out 1; have hfz10_2 := blk_frozen BK104.out 2; have hfz10_3 := blk_frozen BK104.out 3; have hfz10_4 := blk_frozen BK104.out 4) | ((with_reducible refine gate_callee (f := 74) rfl ?_); refine goesL_ (some 18) rfl rfl Tryd.func74 (by kernel_rfl) rfl #[.string a0, .int .i64 a1, .agg #[.int .u8 a3_0, .int .u8 a3_1, .int .u8 a3_2, .int .u8 a3_3, .int .u8 a3_4]] rfl (by (try simp only [List.map_toArray, List.map_cons, List.map_nil]); first | done | rfl | (simp only [List.length_drop, List.length_take]; rfl)) ?_; (with_reducible refine (segment_again.calls a0 a1 a3_0 a3_1 a3_2 a3_3 a3_4 t105 true _ ?side1 A5.out).mono ?_); (case side1 => exact GlobA.below HG.out (by repeat (first | (with_reducible first | exact HB.out | apply below_alloc | apply pw_below_drewN | apply below_drew1 | refine below_set ?_ GE104.out) | exact HB.out))); rintro e w11 ⟨rfl, hb⟩; refine ⟨_, rfl, ?_⟩; have n0_ := Aside0.mk (blk_below (g := gb104) (o := .cells #[.int .u8 a3_0, .int .u8 a3_1, .int .u8 a3_2, .int .u8 a3_3, .int .u8 a3_4] 23 (0, 0)) (by (with_reducible repeat (first | refine blk_drewN ?_ _ | refine blk_drew ?_ | refine blk_alloc ?_ _)); exact BK104.out) hb); have n1_ := Aside0.mk (below_step (by repeat (first | (with_reducible first | exact HB.out | apply below_alloc | apply pw_below_drewN | apply below_drew1 | refine below_set ?_ GE104.out) | exact HB.out)) hb); clear BK104; clear HB; have BK104 := n0_; have HB := n1_; clear n0_ n1_; (try clear hb); (try clear hb2); (try clear hk); (try clear hi); have hcz12_0 : w11.cell? ⟨gb104, 0, none⟩ = some (.int .u8 a3_0) := (blk_cell BK104.out 0).trans rfl; have hcz12_1 : w11.cell? ⟨gb104, 1, none⟩ = some (.int .u8 a3_1) := (blk_cell BK104.out 1).trans rfl; have hcz12_2 : w11.cell? ⟨gb104, 2, none⟩ = some (.int .u8 a3_2) := (blk_cell BK104.out 2).trans rfl; have hcz12_3 : w11.cell? ⟨gb104, 3, none⟩ = some (.int .u8 a3_3) := (blk_cell BK104.out 3).trans rfl; have hcz12_4 : w11.cell? ⟨gb104, 4, none⟩ = some (.int .u8 a3_4) := (blk_cell BK104.out 4).trans rfl; have hfz12_0 := blk_frozen BK104.out 0; have hfz12_1 := blk_frozen BK104.out 1; have hfz12_2 := blk_frozen BK104.out 2; have hfz12_3 := blk_frozen BK104.out 3; have hfz12_4 := blk_frozen BK104.out 4) | ((with_reducible refine gate_callee (f := 75) rfl ?_); refine goesL_ (some 28) rfl rfl Tryd.func75 (by kernel_rfl) rfl #[.string t105, .int .u8 a3_1, .int .i64 a2] rfl (by (try simp only [List.map_toArray, List.map_cons, List.map_nil]); first | done | rfl | (simp only [List.length_drop, List.length_take]; rfl)) ?_; (with_reducible refine (segment_nth.calls t105 a3_1 a2 t107 t108 _ ?side1 A7.out).mono ?_); (case side1 => exact GlobA.below HG.out (by repeat (first | (with_reducible first | exact HB.out | apply below_alloc | apply pw_below_drewN | apply below_drew1 | refine below_set ?_ GE104.out) | exact HB.out))); rintro e w13 ⟨rfl, hb⟩; refine ⟨_, rfl, ?_⟩; have n0_ := Aside0.mk (blk_below (g := gb104) (o := .cells #[.int .u8 a3_0, .int .u8 a3_1, .int .u8 a3_2, .int .u8 a3_3, .int .u8 a3_4] 23 (0, 0)) (by (with_reducible repeat (first | refine blk_drewN ?_ _ | refine blk_drew ?_ | refine blk_alloc ?_ _)); exact BK104.out) hb); have n1_ := Aside0.mk (below_step (by repeat (first | (with_reducible first | exact HB.out | apply below_alloc | apply pw_below_drewN | apply below_drew1 | refine below_set ?_ GE104.out) | exact HB.out)) hb); clear BK104; clear HB; have BK104 := n0_; have HB := n1_; clear n0_ n1_; (try clear hb); (try clear hb2); (try clear hk); (try clear hi)))
      go_ret2
      exact ⟨by first | rfl | (simp [errW_none, errW_some] <;> rfl) | (simp [*, errW_none, errW_some] <;> rfl), by repeat (first | (with_reducible first | exact HB.out | apply below_alloc | apply pw_below_drewN | apply below_drew1 | refine below_set ?_ GE104.out) | exact HB.out)⟩
    · rw [if_neg c8] at H
      have c8b0 : decide (1 ≤ a2) = false := decide_eq_false c8
      clear c8
      simp only [Option.some.injEq, Prod.mk.injEq] at H
      obtain ⟨rfl, rfl⟩ := H
      go_enter Tryd.func58, Tryd.ntmps58
      go_wp2_with (first | ((with_reducible refine gate_dst (N := 7) rfl ?_); refine box_event ?hg (N := 7) ?hd (cs := #[.int .u8 a3_0, .int .u8 a3_1, .int .u8 a3_2, .int .u8 a3_3, .int .u8 a3_4]) (t := 23) ?hr ?_; (case hd => rfl); (case hg => rfl); (case hr => first | (go_simp; done) | (go_simp; rfl)); intro gb104 hg w14 hbox hb; have n0_ := Aside0.mk (below_step (by repeat (first | (with_reducible first | exact HB.out | apply below_alloc | apply pw_below_drewN | apply below_drew1) | exact HB.out)) hb); have n1_ := Aside0.mk (hbox); have n2_ := Aside0.mk ((by rw [hg]; exact (below_size (by repeat (first | (with_reducible first | exact HB.out | apply below_alloc | apply pw_below_drewN | apply below_drew1) | exact HB.out))) : w.heap.size ≤ gb104)); have n3_ := Aside0.mk ((by rw [hg]; exact (below_size (by repeat (first | (with_reducible first | exact HB.out | apply below_alloc | apply pw_below_drewN | apply below_drew1) | exact HB.out))) : w.heap.size ≤ gb104)); clear HB; have HB := n0_; have BK104 := n1_; have GW104 := n2_; have GE104 := n3_; clear n0_ n1_ n2_ n3_; clear hb hbox hg; have hcz15_0 : w14.cell? ⟨gb104, 0, none⟩ = some (.int .u8 a3_0) := (blk_cell BK104.out 0).trans rfl; have hcz15_1 : w14.cell? ⟨gb104, 1, none⟩ = some (.int .u8 a3_1) := (blk_cell BK104.out 1).trans rfl; have hcz15_2 : w14.cell? ⟨gb104, 2, none⟩ = some (.int .u8 a3_2) := (blk_cell BK104.out 2).trans rfl; have hcz15_3 : w14.cell? ⟨gb104, 3, none⟩ = some (.int .u8 a3_3) := (blk_cell BK104.out 3).trans rfl; have hcz15_4 : w14.cell? ⟨gb104, 4, none⟩ = some (.int .u8 a3_4) := (blk_cell BK104.out 4).trans rfl; have hfz15_0 := blk_frozen BK104.out 0; have hfz15_1 := blk_frozen BK104.out 1; have hfz15_2 := blk_frozen BK104.out 2; have hfz15_3 := blk_frozen BK104.out 3; have hfz15_4 := blk_frozen BK104.out 4) | ((with_reducible refine gate_callee (f := 74) rfl ?_); refine goesL_ (some 18) rfl rfl Tryd.func74 (by kernel_rfl) rfl #[.string a0, .int .i64 a1, .agg #[.int .u8 a3_0, .int .u8 a3_1, .int .u8 a3_2, .int .u8 a3_3, .int .u8 a3_4]] rfl (by (try simp only [List.map_toArray, List.map_cons, List.map_nil]); first | done | rfl | (simp only [List.length_drop, List.length_take]; rfl)) ?_; (with_reducible refine (segment_again.calls a0 a1 a3_0 a3_1 a3_2 a3_3 a3_4 t105 true _ ?side1 A5.out).mono ?_); (case side1 => exact GlobA.below HG.out (by repeat (first | (with_reducible first | exact HB.out | apply below_alloc | apply pw_below_drewN | apply below_drew1 | refine below_set ?_ GE104.out) | exact HB.out))); rintro e w16 ⟨rfl, hb⟩; refine ⟨_, rfl, ?_⟩; have n0_ := Aside0.mk (blk_below (g := gb104) (o := .cells #[.int .u8 a3_0, .int .u8 a3_1, .int .u8 a3_2, .int .u8 a3_3, .int .u8 a3_4] 23 (0, 0)) (by (with_reducible repeat (first | refine blk_drewN ?_ _ | refine blk_drew ?_ | refine blk_alloc ?_ _)); exact BK104.out) hb); have n1_ := Aside0.mk (below_step (by repeat (first | (with_reducible first | exact HB.out | apply below_alloc | apply pw_below_drewN | apply below_drew1 | refine below_set ?_ GE104.out) | exact HB.out)) hb); clear BK104; clear HB; have BK104 := n0_; have HB := n1_; clear n0_ n1_; (try clear hb); (try clear hb2); (try clear hk); (try clear hi); have hcz17_0 : w16.cell? ⟨gb104, 0, none⟩ = some (.int .u8 a3_0) := (blk_cell BK104.out 0).trans rfl; have hcz17_1 : w16.cell? ⟨gb104, 1, none⟩ = some (.int .u8 a3_1) := (blk_cell BK104.out 1).trans rfl; have hcz17_2 : w16.cell? ⟨gb104, 2, none⟩ = some (.int .u8 a3_2) := (blk_cell BK104.out 2).trans rfl; have hcz17_3 : w16.cell? ⟨gb104, 3, none⟩ = some (.int .u8 a3_3) := (blk_cell BK104.out 3).trans rfl; have hcz17_4 : w16.cell? ⟨gb104, 4, none⟩ = some (.int .u8 a3_4) := (blk_cell BK104.out 4).trans rfl; have hfz17_0 := blk_frozen BK104.out 0; have hfz17_1 := blk_frozen BK104.out 1; have hfz17_2 := blk_frozen BK104.out 2; have hfz17_3 := blk_frozen BK104.out 3; have hfz17_4 := blk_frozen BK104.out 4) | ((with_reducible refine gate_callee (f := 75) rfl ?_); refine goesL_ (some 28) rfl rfl Tryd.func75 (by kernel_rfl) rfl #[.string t105, .int .u8 a3_1, .int .i64 a2] rfl (by (try simp only [List.map_toArray, List.map_cons, List.map_nil]); first | done | rfl | (simp only [List.length_drop, List.length_take]; rfl)) ?_; (with_reducible refine (segment_nth.calls t105 a3_1 a2 t107 t108 _ ?side1 A7.out).mono ?_); (case side1 => exact GlobA.below HG.out (by repeat (first | (with_reducible first | exact HB.out | apply below_alloc | apply pw_below_drewN | apply below_drew1 | refine below_set ?_ GE104.out) | exact HB.out))); rintro e w18 ⟨rfl, hb⟩; refine ⟨_, rfl, ?_⟩; have n0_ := Aside0.mk (blk_below (g := gb104) (o := .cells #[.int .u8 a3_0, .int .u8 a3_1, .int .u8 a3_2, .int .u8 a3_3, .int .u8 a3_4] 23 (0, 0)) (by (with_reducible repeat (first | refine blk_drewN ?_ _ | refine blk_drew ?_ | refine blk_alloc ?_ _)); exact BK104.out) hb); have n1_ := Aside0.mk (below_step (by repeat (first | (with_reducible first | exact HB.out | apply below_alloc | apply pw_below_drewN | apply below_drew1 | refine below_set ?_ GE104.out) | exact HB.out)) hb); clear BK104; clear HB; have BK104 := n0_; have HB := n1_; clear n0_ n1_; (try clear hb); (try clear hb2); (try clear hk); (try clear hi)))
      go_ret2
      exact ⟨by first | rfl | (simp [errW_none, errW_some] <;> rfl) | (simp [*, errW_none, errW_some] <;> rfl), by repeat (first | (with_reducible first | exact HB.out | apply below_alloc | apply pw_below_drewN | apply below_drew1 | refine below_set ?_ GE104.out) | exact HB.out)⟩
  · replace c6 := Bool.eq_false_iff.mpr c6
    subst c6
    have H1 : (some ((⟨#[]⟩ : ByteArray), false)) = some (r1, r2) := by rw [if_neg (show ¬ (false = true) by decide)] at H; exact H
    clear H
    have H := H1
    clear H1
    simp only [Option.some.injEq, Prod.mk.injEq] at H
    obtain ⟨rfl, rfl⟩ := H
    go_enter Tryd.func58, Tryd.ntmps58
    go_wp2_with (first | ((with_reducible refine gate_dst (N := 7) rfl ?_); refine box_event ?hg (N := 7) ?hd (cs := #[.int .u8 a3_0, .int .u8 a3_1, .int .u8 a3_2, .int .u8 a3_3, .int .u8 a3_4]) (t := 23) ?hr ?_; (case hd => rfl); (case hg => rfl); (case hr => first | (go_simp; done) | (go_simp; rfl)); intro gb104 hg w19 hbox hb; have n0_ := Aside0.mk (below_step (by repeat (first | (with_reducible first | exact HB.out | apply below_alloc | apply pw_below_drewN | apply below_drew1) | exact HB.out)) hb); have n1_ := Aside0.mk (hbox); have n2_ := Aside0.mk ((by rw [hg]; exact (below_size (by repeat (first | (with_reducible first | exact HB.out | apply below_alloc | apply pw_below_drewN | apply below_drew1) | exact HB.out))) : w.heap.size ≤ gb104)); have n3_ := Aside0.mk ((by rw [hg]; exact (below_size (by repeat (first | (with_reducible first | exact HB.out | apply below_alloc | apply pw_below_drewN | apply below_drew1) | exact HB.out))) : w.heap.size ≤ gb104)); clear HB; have HB := n0_; have BK104 := n1_; have GW104 := n2_; have GE104 := n3_; clear n0_ n1_ n2_ n3_; clear hb hbox hg; have hcz20_0 : w19.cell? ⟨gb104, 0, none⟩ = some (.int .u8 a3_0) := (blk_cell BK104.out 0).trans rfl; have hcz20_1 : w19.cell? ⟨gb104, 1, none⟩ = some (.int .u8 a3_1) := (blk_cell BK104.out 1).trans rfl; have hcz20_2 : w19.cell? ⟨gb104, 2, none⟩ = some (.int .u8 a3_2) := (blk_cell BK104.out 2).trans rfl; have hcz20_3 : w19.cell? ⟨gb104, 3, none⟩ = some (.int .u8 a3_3) := (blk_cell BK104.out 3).trans rfl; have hcz20_4 : w19.cell? ⟨gb104, 4, none⟩ = some (.int .u8 a3_4) := (blk_cell BK104.out 4).trans rfl; have hfz20_0 := blk_frozen BK104.out 0; have hfz20_1 := blk_frozen BK104.out 1; have hfz20_2 := blk_frozen BK104.out 2; have hfz20_3 := blk_frozen BK104.out 3; have hfz20_4 := blk_frozen BK104.out 4) | ((with_reducible refine gate_callee (f := 74) rfl ?_); refine goesL_ (some 18) rfl rfl Tryd.func74 (by kernel_rfl) rfl #[.string a0, .int .i64 a1, .agg #[.int .u8 a3_0, .int .u8 a3_1, .int .u8 a3_2, .int .u8 a3_3, .int .u8 a3_4]] rfl (by (try simp only [List.map_toArray, List.map_cons, List.map_nil]); first | done | rfl | (simp only [List.length_drop, List.length_take]; rfl)) ?_; (with_reducible refine (segment_again.calls a0 a1 a3_0 a3_1 a3_2 a3_3 a3_4 t105 false _ ?side1 A5.out).mono ?_); (case side1 => exact GlobA.below HG.out (by repeat (first | (with_reducible first | exact HB.out | apply below_alloc | apply pw_below_drewN | apply below_drew1 | refine below_set ?_ GE104.out) | exact HB.out))); rintro e w21 ⟨rfl, hb⟩; refine ⟨_, rfl, ?_⟩; have n0_ := Aside0.mk (blk_below (g := gb104) (o := .cells #[.int .u8 a3_0, .int .u8 a3_1, .int .u8 a3_2, .int .u8 a3_3, .int .u8 a3_4] 23 (0, 0)) (by (with_reducible repeat (first | refine blk_drewN ?_ _ | refine blk_drew ?_ | refine blk_alloc ?_ _)); exact BK104.out) hb); have n1_ := Aside0.mk (below_step (by repeat (first | (with_reducible first | exact HB.out | apply below_alloc | apply pw_below_drewN | apply below_drew1 | refine below_set ?_ GE104.out) | exact HB.out)) hb); clear BK104; clear HB; have BK104 := n0_; have HB := n1_; clear n0_ n1_; (try clear hb); (try clear hb2); (try clear hk); (try clear hi)))
    go_ret2
    exact ⟨by first | rfl | (simp [errW_none, errW_some] <;> rfl) | (simp [*, errW_none, errW_some] <;> rfl), by repeat (first | (with_reducible first | exact HB.out | apply below_alloc | apply pw_below_drewN | apply below_drew1 | refine below_set ?_ GE104.out) | exact HB.out)⟩

def msh_first.f (a0 : ByteArray) (a1_0 : Int) (a1_1 : Int) (a1_2 : Int) (a1_3 : Int) (a1_4 : Int) : Option (ByteArray) := (segment_Part.f a0 1 1 a1_0 a1_1 a1_2 a1_3 a1_4).bind fun bt110 => (some bt110.1)
set_option maxHeartbeats 8000000 in
set_option maxRecDepth 100000 in
theorem msh_first.calls (a0 : ByteArray) (a1_0 : Int) (a1_1 : Int) (a1_2 : Int) (a1_3 : Int) (a1_4 : Int) (r : ByteArray) (w : World) (hG : GlobA w) (h : msh_first.f a0 a1_0 a1_1 a1_2 a1_3 a1_4 = some r) :
    Calls Tryd.prog 28 #[.string a0, .agg #[.int .u8 a1_0, .int .u8 a1_1, .int .u8 a1_2, .int .u8 a1_3, .int .u8 a1_4]] w fun e w' => e = .returned (.string r) ∧ Below w.heap.size w w' := by
  have hu23 := Tryd.underlying23
  have HG := Aside0.mk hG
  clear hG
  have HB := Aside0.mk (Below.refl w.heap.size w)
  have H : ((segment_Part.f a0 1 1 a1_0 a1_1 a1_2 a1_3 a1_4).bind fun bt110 => (some bt110.1)) = some r := h
  clear h
  replace H := Option.bind_eq_some_iff.mp H
  obtain ⟨⟨t110, t111⟩, A30, H⟩ := H
  replace H : (some t110) = some r := H
  have A3 := Aside0.mk A30
  clear A30
  obtain rfl := Option.some.inj H
  go_enter Tryd.func28, Tryd.ntmps28
  go_wp2_with (first | ((with_reducible refine gate_dst (N := 3) rfl ?_); refine box_event ?hg (N := 3) ?hd (cs := #[.int .u8 a1_0, .int .u8 a1_1, .int .u8 a1_2, .int .u8 a1_3, .int .u8 a1_4]) (t := 23) ?hr ?_; (case hd => rfl); (case hg => rfl); (case hr => first | (go_simp; done) | (go_simp; rfl)); intro gb109 hg w4 hbox hb; have n0_ := Aside0.mk (below_step (by repeat (first | (with_reducible first | exact HB.out | apply below_alloc | apply pw_below_drewN | apply below_drew1) | exact HB.out)) hb); have n1_ := Aside0.mk (hbox); have n2_ := Aside0.mk ((by rw [hg]; exact (below_size (by repeat (first | (with_reducible first | exact HB.out | apply below_alloc | apply pw_below_drewN | apply below_drew1) | exact HB.out))) : w.heap.size ≤ gb109)); have n3_ := Aside0.mk ((by rw [hg]; exact (below_size (by repeat (first | (with_reducible first | exact HB.out | apply below_alloc | apply pw_below_drewN | apply below_drew1) | exact HB.out))) : w.heap.size ≤ gb109)); clear HB; have HB := n0_; have BK109 := n1_; have GW109 := n2_; have GE109 := n3_; clear n0_ n1_ n2_ n3_; clear hb hbox hg; have hcz5_0 : w4.cell? ⟨gb109, 0, none⟩ = some (.int .u8 a1_0) := (blk_cell BK109.out 0).trans rfl; have hcz5_1 : w4.cell? ⟨gb109, 1, none⟩ = some (.int .u8 a1_1) := (blk_cell BK109.out 1).trans rfl; have hcz5_2 : w4.cell? ⟨gb109, 2, none⟩ = some (.int .u8 a1_2) := (blk_cell BK109.out 2).trans rfl; have hcz5_3 : w4.cell? ⟨gb109, 3, none⟩ = some (.int .u8 a1_3) := (blk_cell BK109.out 3).trans rfl; have hcz5_4 : w4.cell? ⟨gb109, 4, none⟩ = some (.int .u8 a1_4) := (blk_cell BK109.out 4).trans rfl; have hfz5_0 := blk_frozen BK109.out 0; have hfz5_1 := blk_frozen BK109.out 1; have hfz5_2 := blk_frozen BK109.out 2; have hfz5_3 := blk_frozen BK109.out 3; have hfz5_4 := blk_frozen BK109.out 4) | ((with_reducible refine gate_callee (f := 58) rfl ?_); refine goesL_ (some 10) rfl rfl Tryd.func58 (by kernel_rfl) rfl #[.string a0, .int .i64 1, .int .i64 1, .agg #[.int .u8 a1_0, .int .u8 a1_1, .int .u8 a1_2, .int .u8 a1_3, .int .u8 a1_4]] rfl (by (try simp only [List.map_toArray, List.map_cons, List.map_nil]); first | done | rfl | (simp only [List.length_drop, List.length_take]; rfl)) ?_; (with_reducible refine (segment_Part.calls a0 1 1 a1_0 a1_1 a1_2 a1_3 a1_4 t110 t111 _ ?side1 A3.out).mono ?_); (case side1 => exact GlobA.below HG.out (by repeat (first | (with_reducible first | exact HB.out | apply below_alloc | apply pw_below_drewN | apply below_drew1 | refine below_set ?_ GE109.out) | exact HB.out))); rintro e w6 ⟨rfl, hb⟩; refine ⟨_, rfl, ?_⟩; have n0_ := Aside0.mk (blk_below (g := gb109) (o := .cells #[.int .u8 a1_0, .int .u8 a1_1, .int .u8 a1_2, .int .u8 a1_3, .int .u8 a1_4] 23 (0, 0)) (by (with_reducible repeat (first | refine blk_drewN ?_ _ | refine blk_drew ?_ | refine blk_alloc ?_ _)); exact BK109.out) hb); have n1_ := Aside0.mk (below_step (by repeat (first | (with_reducible first | exact HB.out | apply below_alloc | apply pw_below_drewN | apply below_drew1 | refine below_set ?_ GE109.out) | exact HB.out)) hb); clear BK109; clear HB; have BK109 := n0_; have HB := n1_; clear n0_ n1_; (try clear hb); (try clear hb2); (try clear hk); (try clear hi)))
  go_ret
  exact ⟨by first | rfl | (simp [errW_none, errW_some] <;> rfl) | (simp [*, errW_none, errW_some] <;> rfl), by repeat (first | (with_reducible first | exact HB.out | apply below_alloc | apply pw_below_drewN | apply below_drew1 | refine below_set ?_ GE109.out) | exact HB.out)⟩

end Go.Proofs.YtciagecaegoppaaDoor.Qfirst
end
section
namespace Go.Proofs.YtciagecaegoppaaDoor
set_option linter.unusedVariables false
set_option linter.unusedSimpArgs false
set_option maxRecDepth 100000
open Go.RowKit Go.Proofs.YtciagecaegoppaaDoorW.PrintWords Go.Proofs.YtciagecaegoppaaDoorW.PrintLast Go.Proofs.YtciagecaegoppaaDoorW.PrintMore

def processL : List ByteArray := [⟨#[80]⟩, ⟨#[68]⟩, ⟨#[84]⟩]
def msh_Check.f (d0 d1 d2 d3 d4 : Int) (s5 s6 s7 s8 s9 s10 s11 s12 s13 s14 : ByteArray) : Option Int :=
  if s11.toList.isEmpty = true ∨ s12.toList.isEmpty = true ∨ 50 < s12.size then some 14
  else (Qfirst.msh_first.f s14 d0 d1 d2 d3 d4).bind fun v =>
    if Lib.containsS versionsL v = false then some 12
    else (Qfirst.msh_first.f s13 d0 d1 d2 d3 d4).bind fun p => if Lib.containsS processL p = false then some 13 else some 0

theorem versions_contains (w : World) (hG : GlobA w) (v : ByteArray) : Calls Tryd.prog 27 #[.slice (some ⟨0, 0, none⟩) 10 10, .string v] w fun e w' => e = .returned (.bool (Lib.containsS versionsL v)) ∧ w' = w :=
  Tryd.slices_Contains_string 0 0 10 10 versionsL v w (Nat.le_refl _) (by omega) (fun j hj => by rw [Nat.zero_add]; exact hG.versions j hj)

theorem process_cells {w w' : World} (hb : Below (w.alloc (.cells #[.string ⟨#[80]⟩, .string ⟨#[68]⟩, .string ⟨#[84]⟩] 9)).heap.size (w.alloc (.cells #[.string ⟨#[80]⟩, .string ⟨#[68]⟩, .string ⟨#[84]⟩] 9)) w') :
    ∀ j, j < processL.length → w'.cell? ⟨w.heap.size, 0 + j, none⟩ = some (.string (processL.getD j ByteArray.empty)) := by
  intro j hj
  have h := blk_below (blk_new w (.cells #[.string ⟨#[80]⟩, .string ⟨#[68]⟩, .string ⟨#[84]⟩] 9)) hb
  rw [Nat.zero_add, blk_cell h]
  have hj : j < 3 := hj
  rcases j with _ | _ | _ | j
  · rfl
  · rfl
  · rfl
  · omega
section
variable (d0 d1 d2 d3 d4 : Int) (s5 s6 s7 s8 s9 s10 s11 s12 s13 s14 : ByteArray) (w : World)
abbrev headV (d0 d1 d2 d3 d4 : Int) (s5 s6 s7 s8 s9 s10 s11 s12 s13 s14 : ByteArray) : Array Value := #[.int .u8 d0, .int .u8 d1, .int .u8 d2, .int .u8 d3, .int .u8 d4, .string s5, .string s6, .string s7, .string s8, .string s9, .string s10, .string s11, .string s12, .string s13, .string s14]

set_option maxHeartbeats 2000000 in
theorem check_field (h : s11.toList.isEmpty = true ∨ s12.toList.isEmpty = true ∨ 50 < s12.size) :
    Calls Tryd.prog 11 #[.agg (headV d0 d1 d2 d3 d4 s5 s6 s7 s8 s9 s10 s11 s12 s13 s14)] w fun e w' => e = .returned (.int .i64 14) ∧ Below w.heap.size w w' := by
  unfold headV
  by_cases h1 : s11.toList.isEmpty = true
  · clear h
    go_enter Tryd.func11, Tryd.ntmps11
    go_wp2
    go_ret
    exact ⟨rfl, below_alloc (Below.refl _ _) _⟩
  · have h1 : s11.toList.isEmpty = false := by simpa using h1
    by_cases h2 : s12.toList.isEmpty = true
    · clear h
      go_enter Tryd.func11, Tryd.ntmps11
      go_wp2
      go_ret
      exact ⟨rfl, below_alloc (Below.refl _ _) _⟩
    · have h2 : s12.toList.isEmpty = false := by simpa using h2
      have h3 : 50 < s12.size := by rcases h with h | h | h <;> simp_all
      have h3' : decide (50 < (s12.size : Int)) = true := decide_eq_true (by omega)
      have h3'' : decide (50 < s12.size) = true := decide_eq_true h3
      clear h h3
      go_enter Tryd.func11, Tryd.ntmps11
      go_wp2
      go_ret
      exact ⟨rfl, below_alloc (Below.refl _ _) _⟩

set_option maxHeartbeats 4000000 in
theorem check_rest (hG : GlobA w) (h1 : s11.toList.isEmpty = false) (h2 : s12.toList.isEmpty = false) (h3 : ¬ 50 < s12.size) (v : ByteArray) (hv : Qfirst.msh_first.f s14 d0 d1 d2 d3 d4 = some v) (bv : Bool) (hbv : Lib.containsS versionsL v = bv) (p : ByteArray) (hp : bv = true → Qfirst.msh_first.f s13 d0 d1 d2 d3 d4 = some p) (bp : Bool) (hbp : Lib.containsS processL p = bp) :
    Calls Tryd.prog 11 #[.agg (headV d0 d1 d2 d3 d4 s5 s6 s7 s8 s9 s10 s11 s12 s13 s14)] w fun e w' => e = .returned (.int .i64 (if bv = true then if bp = true then 0 else 13 else 12)) ∧ Below w.heap.size w w' := by
  unfold headV
  have h3' : decide (50 < (s12.size : Int)) = false := decide_eq_false (by omega)
  have h3'' : decide (50 < s12.size) = false := decide_eq_false h3
  have HG := Aside0.mk hG; have HV := Aside0.mk hv; have HBV := Aside0.mk hbv; have HP := Aside0.mk hp; have HBP := Aside0.mk hbp
  clear h3 hG hv hbv hp hbp
  go_enter Tryd.func11, Tryd.ntmps11
  go_wp2_with fail
  obtain ⟨W, hW⟩ : ∃ x, x = w.alloc (.cells #[.int .u8 d0, .int .u8 d1, .int .u8 d2, .int .u8 d3, .int .u8 d4, .string s5, .string s6, .string s7, .string s8, .string s9, .string s10, .string s11, .string s12, .string s13, .string s14] 25) := ⟨_, rfl⟩
  rw [← hW]
  have hB : Below w.heap.size w W := by rw [hW]; exact below_alloc (Below.refl _ _) _
  have hblk : W.heap[w.heap.size]? = some (.cells #[.int .u8 d0, .int .u8 d1, .int .u8 d2, .int .u8 d3, .int .u8 d4, .string s5, .string s6, .string s7, .string s8, .string s9, .string s10, .string s11, .string s12, .string s13, .string s14] 25 (0, 0)) := by rw [hW]; exact blk_new w _
  have HB := Aside0.mk hB; have HBLK := Aside0.mk hblk
  have g0 := (blk_cell hblk 0).trans rfl; have g1 := (blk_cell hblk 1).trans rfl; have g2 := (blk_cell hblk 2).trans rfl; have g3 := (blk_cell hblk 3).trans rfl; have g4 := (blk_cell hblk 4).trans rfl; have g14 := (blk_cell hblk 14).trans rfl
  clear hW hB hblk
  go_region_held3 (fun w' => w'.cell? ⟨w.heap.size, 0, none⟩ = some (.int .u8 d0) ∧ w'.cell? ⟨w.heap.size, 1, none⟩ = some (.int .u8 d1) ∧ w'.cell? ⟨w.heap.size, 2, none⟩ = some (.int .u8 d2) ∧ w'.cell? ⟨w.heap.size, 3, none⟩ = some (.int .u8 d3) ∧ w'.cell? ⟨w.heap.size, 4, none⟩ = some (.int .u8 d4) ∧ w'.cell? ⟨w.heap.size, 14, none⟩ = some (.string s14))
    (first | go_keep | (go_split_ands; refine ⟨?_, ?_, ?_, ?_, ?_, ?_⟩ <;> (refine pw_cell_below HB3.out ?_; assumption)))
    (first
      | (go_at_call 28; refine (Qfirst.msh_first.calls s14 d0 d1 d2 d3 d4 v _ ?hg HV.out).mono ?_; (case hg => exact HG.out.below (below_drew1 HB.out)); rintro e w3 ⟨rfl, hb3⟩; have HB3 := Aside0.mk hb3; clear hb3)
      | (go_at_call 27; refine (versions_contains _ (HG.out.below (below_step (below_drew1 HB.out) HB3.out)) v).mono ?_; rw [HBV.out]; rintro e w4 ⟨rfl, hw4⟩; have hw4' := hw4.symm; subst hw4'; clear hw4))
  rename_i hHeld
  clear hHeld g0 g1 g2 g3 g4 g14
  have hB3 : Below w.heap.size w w3 := below_step (below_drew1 HB.out) HB3.out
  have hblk3 := blk_below (blk_drew HBLK.out) HB3.out
  have HB3' := Aside0.mk hB3; have HBLK3 := Aside0.mk hblk3
  have g0 : w3.cell? ⟨w.heap.size, 0, none⟩ = some (.int .u8 d0) := blk_cell hblk3 0; have g1 : w3.cell? ⟨w.heap.size, 1, none⟩ = some (.int .u8 d1) := blk_cell hblk3 1; have g2 : w3.cell? ⟨w.heap.size, 2, none⟩ = some (.int .u8 d2) := blk_cell hblk3 2; have g3 : w3.cell? ⟨w.heap.size, 3, none⟩ = some (.int .u8 d3) := blk_cell hblk3 3; have g4 : w3.cell? ⟨w.heap.size, 4, none⟩ = some (.int .u8 d4) := blk_cell hblk3 4; have g13 : w3.cell? ⟨w.heap.size, 13, none⟩ = some (.string s13) := blk_cell hblk3 13
  have hlt1 : w.heap.size < w3.heap.size := blk_lt hblk3
  clear hB3 hblk3 HB HBLK HB3
  cases bv
  · go_wp2
    go_ret
    exact ⟨rfl, HB3'.out⟩
  · have hfst := HP.out rfl
    have HF := Aside0.mk hfst
    clear hfst HP
    go_wp2_with (first
      | (go_at_call 28; refine (Qfirst.msh_first.calls s13 d0 d1 d2 d3 d4 p _ ?hg HF.out).mono ?_; (case hg => exact HG.out.below (below_alloc HB3'.out _)); rintro e w5 ⟨rfl, hb5⟩; have HB5 := Aside0.mk hb5; clear hb5)
      | (go_at_call 27; refine (Tryd.slices_Contains_string w3.heap.size 0 3 3 processL p _ (Nat.le_refl _) (by omega) ?hc).mono ?_; (case hc => exact process_cells HB5.out); rw [show List.take 3 processL = processL from rfl, HBP.out]; rintro e w4 ⟨rfl, hw4⟩; have hw4' := hw4.symm; subst hw4'; clear hw4))
    all_goals go_ret
    all_goals (refine ⟨?_, below_step (below_alloc HB3'.out _) HB5.out⟩; cases bp <;> simp_all)
end

theorem msh_Check.calls (d0 d1 d2 d3 d4 : Int) (s5 s6 s7 s8 s9 s10 s11 s12 s13 s14 : ByteArray) (r : Int) (w : World) (hG : GlobA w) (h : msh_Check.f d0 d1 d2 d3 d4 s5 s6 s7 s8 s9 s10 s11 s12 s13 s14 = some r) :
    Calls Tryd.prog 11 #[.agg #[.int .u8 d0, .int .u8 d1, .int .u8 d2, .int .u8 d3, .int .u8 d4, .string s5, .string s6, .string s7, .string s8, .string s9, .string s10, .string s11, .string s12, .string s13, .string s14]] w fun e w' => e = .returned (.int .i64 r) ∧ Below w.heap.size w w' := by
  unfold msh_Check.f at h
  by_cases hf : s11.toList.isEmpty = true ∨ s12.toList.isEmpty = true ∨ 50 < s12.size
  · rw [if_pos hf] at h
    obtain rfl := Option.some.inj h
    exact check_field d0 d1 d2 d3 d4 s5 s6 s7 s8 s9 s10 s11 s12 s13 s14 w hf
  · rw [if_neg hf] at h
    obtain ⟨v, hv, h⟩ := Option.bind_eq_some_iff.1 h
    have h1 : s11.toList.isEmpty = false := by simpa using fun e => hf (.inl e)
    have h2 : s12.toList.isEmpty = false := by simpa using fun e => hf (.inr (.inl e))
    have h3 : ¬ 50 < s12.size := fun e => hf (.inr (.inr e))
    by_cases hbv : Lib.containsS versionsL v = false
    · rw [if_pos hbv] at h
      obtain rfl := Option.some.inj h
      exact check_rest d0 d1 d2 d3 d4 s5 s6 s7 s8 s9 s10 s11 s12 s13 s14 w hG h1 h2 h3 v hv false hbv ByteArray.empty (fun e => by cases e) _ rfl
    · rw [if_neg hbv] at h
      obtain ⟨p, hp, h⟩ := Option.bind_eq_some_iff.1 h
      have hbv' : Lib.containsS versionsL v = true := by simpa using hbv
      have := check_rest d0 d1 d2 d3 d4 s5 s6 s7 s8 s9 s10 s11 s12 s13 s14 w hG h1 h2 h3 v hv true hbv' p (fun _ => hp) _ rfl
      refine this.mono fun e w' ⟨he, hb⟩ => ⟨?_, hb⟩
      rw [he]
      by_cases hbp : Lib.containsS processL p = false
      · rw [if_pos hbp] at h
        obtain rfl := Option.some.inj h
        simp [hbp]
      · rw [if_neg hbp] at h
        obtain rfl := Option.some.inj h
        simp [hbp]
end Go.Proofs.YtciagecaegoppaaDoor
end
section
namespace Go.Proofs.YtciagecaegoppaaDoor
set_option linter.unusedVariables false
set_option linter.unusedSimpArgs false
set_option maxRecDepth 100000
open Go.RowKit Go.Proofs.YtciagecaegoppaaDoorW.PrintWords Go.Proofs.YtciagecaegoppaaDoorW.PrintLast Go.Proofs.YtciagecaegoppaaDoorW.PrintMore

theorem insert_law {P : Program} {W : World} {ops : Array Oper} {rest : List Oper} {o : Oper} {a : Act} {Q : Exit → Act → World → Prop} {es : Array MapEntry} {clock r : Nat} {kt et : TypeId} (hg : o.guard = none) (m x v : Operand) (t : TypeId) (hop : o.op = .insert t m x v) (hd : o.dst = none)
    (key : Int) (val : Value) (hm : a.eval m = .map (some r)) (hx : a.eval x = .int .i64 key) (hv : a.eval v = val) (ht : P.underlying t = some (.map kt et)) (hk : P.underlying kt = some (.int .i64)) (hb : W.heap[r]? = some (.map es clock))
    (hf : Instr.findNow (.int .i64) (.int .i64 key) es.toList 0 = some none)
    (hK : ∀ w', w'.heap[r]? = some (.map (es.push { key := .int .i64 key, val := val, born := clock }) (clock + 1)) → W.grownBy w' (some r) → wpList P ops Q rest a w') : wpList P ops Q (o :: rest) a W := by
  refine wpList_plain hg fun K hK' => ?_
  have hc : (Instr.checkKey false 10000 kt (.int .i64 key)).run P W = .ok () W := MapKept.run_checkKey (k := .int .i64 key) hk (by simp [MapKept.IsKey]) false 9999
  have hrun : (Instr.mapUpdate t (.map (some r)) (.int .i64 key) val).run P W = .ok () { W with heap := W.heap.setIfInBounds r (.map (es.push { key := .int .i64 key, val := val, born := clock }) (clock + 1)) } := by
    simp [Instr.mapUpdate, run_underlying ht, MapKept.run_getObj_map hb, hc, MapKept.run_findKey hk hf, MapKept.run_setObj_map _ hb, Result.andThen]
  have hex : (execOp a.eval o).run P W = .ok .skip { W with heap := W.heap.setIfInBounds r (.map (es.push { key := .int .i64 key, val := val, born := clock }) (clock + 1)) } := by
    simp [execOp, hop, hm, hx, hv, hrun, Result.andThen]
  unfold Oper.wp
  rw [hex]
  show K (a.put o.dst undef) _
  have hh := MapKept.heap_set (o' := .map (es.push { key := .int .i64 key, val := val, born := clock }) (clock + 1)) hb
  rw [hd]
  exact hK' _ _ (hK _ hh.1 ⟨rfl, rfl, rfl, by simp, fun i _ hi => hh.2 i (fun e => hi (by rw [e]))⟩)

def ansEs : Array MapEntry := #[{ key := .int .i64 0, val := .string ⟨#[65, 65]⟩, born := 0 }, { key := .int .i64 14, val := .string ⟨#[65, 69]⟩, born := 1 }, { key := .int .i64 12, val := .string ⟨#[65, 82]⟩, born := 2 }, { key := .int .i64 13, val := .string ⟨#[65, 82]⟩, born := 3 }]
def codeOf (e : Int) : ByteArray := if e = 0 then ⟨#[65, 65]⟩ else if e = 14 then ⟨#[65, 69]⟩ else ⟨#[65, 82]⟩

theorem ans_below {w w1 w2 w3 w4 : World} (g1 : (w.alloc (.map #[] 0)).grownBy w1 (some w.heap.size)) (g2 : w1.grownBy w2 (some w.heap.size)) (g3 : w2.grownBy w3 (some w.heap.size)) (g4 : w3.grownBy w4 (some w.heap.size)) : Below w.heap.size w w4 := by
  have b0 : Below w.heap.size w (w.alloc (.map #[] 0)) := below_alloc (Below.refl _ _) _
  have b1 := below_grown b0 g1 b0.size (fun r e => by cases e; exact Nat.le_refl _)
  have b2 := below_grown b1 g2 b1.size (fun r e => by cases e; exact Nat.le_refl _)
  have b3 := below_grown b2 g3 b2.size (fun r e => by cases e; exact Nat.le_refl _)
  exact below_grown b3 g4 b3.size (fun r e => by cases e; exact Nat.le_refl _)
theorem answers_calls (w : World) : Calls Tryd.prog 26 #[] w fun e w' => ∃ r, e = .returned (.map (some r)) ∧ w'.heap[r]? = some (.map ansEs 4) ∧ Below w.heap.size w w' := by
  have hmm := @run_makeMap Tryd.prog
  go_enter Tryd.func26, Tryd.ntmps26
  go_wp2_with (first
    | (refine insert_law (r := w.heap.size) (es := #[]) (clock := 0) rfl (.tmp 1) (.const (.int .i64 0)) (.const (.string ⟨#[65, 65]⟩)) 66 rfl rfl 0 (.string ⟨#[65, 65]⟩) rfl rfl rfl Tryd.underlying66 Tryd.underlying27 (blk_new w _) rfl ?_; intro w1 h1 g1)
    | (refine insert_law (r := w.heap.size) rfl (.tmp 1) (.const (.int .i64 14)) (.const (.string ⟨#[65, 69]⟩)) 66 rfl rfl 14 (.string ⟨#[65, 69]⟩) rfl rfl rfl Tryd.underlying66 Tryd.underlying27 h1 rfl ?_; intro w2 h2 g2)
    | (refine insert_law (r := w.heap.size) rfl (.tmp 1) (.const (.int .i64 12)) (.const (.string ⟨#[65, 82]⟩)) 66 rfl rfl 12 (.string ⟨#[65, 82]⟩) rfl rfl rfl Tryd.underlying66 Tryd.underlying27 h2 rfl ?_; intro w3 h3 g3)
    | (refine insert_law (r := w.heap.size) rfl (.tmp 1) (.const (.int .i64 13)) (.const (.string ⟨#[65, 82]⟩)) 66 rfl rfl 13 (.string ⟨#[65, 82]⟩) rfl rfl rfl Tryd.underlying66 Tryd.underlying27 h3 rfl ?_; intro w4 h4 g4; have HH := Aside0.mk h4; have HB := Aside0.mk (ans_below g1 g2 g3 g4); clear h1 h2 h3 h4 g1 g2 g3 g4))
  go_ret
  exact ⟨_, rfl, HH.out, HB.out⟩

theorem answers_look (e : Int) (he : e = 0 ∨ e = 12 ∨ e = 13 ∨ e = 14) (r : Nat) (W : World) (hb : W.heap[r]? = some (.map ansEs 4)) :
    (Instr.lookup 66 (.map (some r)) (.int .i64 e) false).run Tryd.prog W = .ok (.string (codeOf e)) W := by
  have hk : Tryd.prog.underlying 27 = some (.int .i64) := Tryd.underlying27
  have hc : (Instr.checkKey ansEs.isEmpty 10000 27 (.int .i64 e)).run Tryd.prog W = .ok () W := MapKept.run_checkKey (k := .int .i64 e) hk (by simp [MapKept.IsKey]) _ 9999
  rcases he with rfl | rfl | rfl | rfl
  · have hf : Instr.findNow (.int .i64) (.int .i64 0) ansEs.toList 0 = some (some (0, .string ⟨#[65, 65]⟩)) := rfl
    simp [Instr.lookup, run_underlying Tryd.underlying66, MapKept.run_getObj_map hb, hc, MapKept.run_findKey hk hf, Result.andThen, codeOf]
  · have hf : Instr.findNow (.int .i64) (.int .i64 12) ansEs.toList 0 = some (some (2, .string ⟨#[65, 82]⟩)) := rfl
    simp [Instr.lookup, run_underlying Tryd.underlying66, MapKept.run_getObj_map hb, hc, MapKept.run_findKey hk hf, Result.andThen, codeOf]
  · have hf : Instr.findNow (.int .i64) (.int .i64 13) ansEs.toList 0 = some (some (3, .string ⟨#[65, 82]⟩)) := rfl
    simp [Instr.lookup, run_underlying Tryd.underlying66, MapKept.run_getObj_map hb, hc, MapKept.run_findKey hk hf, Result.andThen, codeOf]
  · have hf : Instr.findNow (.int .i64) (.int .i64 14) ansEs.toList 0 = some (some (1, .string ⟨#[65, 69]⟩)) := rfl
    simp [Instr.lookup, run_underlying Tryd.underlying66, MapKept.run_getObj_map hb, hc, MapKept.run_findKey hk hf, Result.andThen, codeOf]
end Go.Proofs.YtciagecaegoppaaDoor
end
