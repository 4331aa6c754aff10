/- The law AcceptCodes: every input's call returns true and leaves its arguments as they were: the row, and its card, out of the walk and the plain law. Conditions: the row's own. -/
import Derived.Test.YtciagecaegoppaaDoorKAcceptCodes3
import Derived.Test.YtciagecaegoppaaDoorProg
import Derived.Test.YtciagecaegoppaaDoorKAcceptCodes1
import Derived.Test.YtciagecaegoppaaDoorRows
import Derived.Test.YtciagecaegoppaaDoorCards
import Derived.Test.YtciagecaegoppaaDoorTie
import Derived.Lib.SlBytesConst
import Derived.Below
import Derived.Deep.Draws
import Derived.Deep.AppendLies
import Derived.Maps.AppendAt
import Derived.OwnWalk
import Derived.Laws.BytesArg
import Derived.Laws.MakeOwn
import Derived.Laws.OwnMore
import Derived.Deep.OwnRows
import Derived.Tactics
import Derived.Lib.ConvBytes
import Derived.Laws.Slices
import Derived.WalkKit
import Derived.KernelRfl
import Derived.RowKit3
import Derived.Deep.LoopGhost
import Derived.Deep.QuietTactic
import Derived.BigQuiet
import Derived.WideLaws
import Derived.Deep.DeepCutAuto
import Derived.Deep.CutBlock
import Derived.Deep.RegionHeld3
import Derived.Laws.Rows
import Derived.Lib.AppendStr
import Derived.ArgAppend
import Derived.Laws.IdiomCopy
import Derived.OrdersHeld
import Derived.Laws.BitsLemmas
import Derived.RowKit
import Derived.Lib.LaidTab
import Derived.LaidSub
import Derived.SizedLaws
import Derived.ChangeSlices
import Derived.ProofKit
import Derived.OpenShut
import Derived.ShutString
import Derived.ChangeOld
import Derived.Deep.DeepHandedRow
section
namespace Go.Proofs.YtciagecaegoppaaDoor.QReply
open Go.RowKit Go.Proofs.YtciagecaegoppaaDoorW.PrintWords Go.Proofs.YtciagecaegoppaaDoorW.PrintLast Go.Proofs.YtciagecaegoppaaDoorW.PrintMore
attribute [local go_sem] max2_int min2_int max_two min_two max_three min_three max_four min_four   -- for this text's walks alone
set_option linter.unusedVariables false
set_option linter.unusedSimpArgs false

mutual
def accept_Reply.j0 : Nat → Bool → ByteArray → Bool → Int → Int → Int → Int → Int → ByteArray → ByteArray → ByteArray → ByteArray → ByteArray → ByteArray → ByteArray → ByteArray → ByteArray → ByteArray → Option (List Int × Bool)
  | 0, _, _, _, _, _, _, _, _, _, _, _, _, _, _, _, _, _, _ => none
  | k + 1, x1, x7, x24, x134000, x134001, x134002, x134003, x134004, x134005, x134006, x134007, x134008, x134009, x134010, x134011, x134012, x134013, x134014 => if x24 = true then (some (([] : List Int), false)) else (if x7.toList = ([65, 65] : List UInt8) then (accept_Reply.j1 k x7 (!x1) x134000 x134001 x134002 x134003 x134004 x134005 x134006 x134007 x134008 x134009 x134010 x134011 x134012 x134013 x134014) else (accept_Reply.j1 k x7 false x134000 x134001 x134002 x134003 x134004 x134005 x134006 x134007 x134008 x134009 x134010 x134011 x134012 x134013 x134014))
def accept_Reply.j1 : Nat → ByteArray → Bool → Int → Int → Int → Int → Int → ByteArray → ByteArray → ByteArray → ByteArray → ByteArray → ByteArray → ByteArray → ByteArray → ByteArray → ByteArray → Option (List Int × Bool)
  | 0, _, _, _, _, _, _, _, _, _, _, _, _, _, _, _, _, _ => none
  | k + 1, x7, x30, x134000, x134001, x134002, x134003, x134004, x134005, x134006, x134007, x134008, x134009, x134010, x134011, x134012, x134013, x134014 => if x30 = true then (accept_Reply.j2 k (⟨#[65, 69]⟩ : ByteArray) x134000 x134001 x134002 x134003 x134004 x134005 x134006 x134007 x134008 x134009 x134010 x134011 x134012 x134013 x134014) else (accept_Reply.j2 k x7 x134000 x134001 x134002 x134003 x134004 x134005 x134006 x134007 x134008 x134009 x134010 x134011 x134012 x134013 x134014)
def accept_Reply.j2 : Nat → ByteArray → Int → Int → Int → Int → Int → ByteArray → ByteArray → ByteArray → ByteArray → ByteArray → ByteArray → ByteArray → ByteArray → ByteArray → ByteArray → Option (List Int × Bool)
  | 0, _, _, _, _, _, _, _, _, _, _, _, _, _, _, _, _ => none
  | k + 1, x7, x134000, x134001, x134002, x134003, x134004, x134005, x134006, x134007, x134008, x134009, x134010, x134011, x134012, x134013, x134014 => (ack_Build.f k x134000 x134001 x134002 x134003 x134004 x134005 x134006 x134007 x134008 x134009 x134010 x134011 x134012 x134013 x134014 x7).bind fun bt135 => (if bt135.2 = 0 then ((frameA_Wrap.f bt135.1).bind fun bt139 => (some (bt139.1, (bt139.2 == 0)))) else (some (([] : List Int), false)))
end
def accept_Reply.f (k : Nat) (l0 : List Int) (a1 : Bool) : Option (List Int × Bool) := (accept_Verdict.f l0).bind fun bt116 => (if bt116.2.2.2.2.2.2.2.2.2.2.2.2.2.2.2.1.toList = ([] : List UInt8) then (accept_Reply.j0 k a1 bt116.2.2.2.2.2.2.2.2.2.2.2.2.2.2.2.1 true bt116.1 bt116.2.1 bt116.2.2.1 bt116.2.2.2.1 bt116.2.2.2.2.1 bt116.2.2.2.2.2.1 bt116.2.2.2.2.2.2.1 bt116.2.2.2.2.2.2.2.1 bt116.2.2.2.2.2.2.2.2.1 bt116.2.2.2.2.2.2.2.2.2.1 bt116.2.2.2.2.2.2.2.2.2.2.1 bt116.2.2.2.2.2.2.2.2.2.2.2.1 bt116.2.2.2.2.2.2.2.2.2.2.2.2.1 bt116.2.2.2.2.2.2.2.2.2.2.2.2.2.1 bt116.2.2.2.2.2.2.2.2.2.2.2.2.2.2.1) else ((frameA_Good.f l0).bind fun t134 => (accept_Reply.j0 k a1 bt116.2.2.2.2.2.2.2.2.2.2.2.2.2.2.2.1 (!t134) bt116.1 bt116.2.1 bt116.2.2.1 bt116.2.2.2.1 bt116.2.2.2.2.1 bt116.2.2.2.2.2.1 bt116.2.2.2.2.2.2.1 bt116.2.2.2.2.2.2.2.1 bt116.2.2.2.2.2.2.2.2.1 bt116.2.2.2.2.2.2.2.2.2.1 bt116.2.2.2.2.2.2.2.2.2.2.1 bt116.2.2.2.2.2.2.2.2.2.2.2.1 bt116.2.2.2.2.2.2.2.2.2.2.2.2.1 bt116.2.2.2.2.2.2.2.2.2.2.2.2.2.1 bt116.2.2.2.2.2.2.2.2.2.2.2.2.2.2.1)))
theorem accept_Reply.mono_l : ∀ k, (∀ y0 y1 y2 y3 y4 y5 y6 y7 y8 y9 y10 y11 y12 y13 y14 y15 y16 y17, LeO (accept_Reply.j0 k y0 y1 y2 y3 y4 y5 y6 y7 y8 y9 y10 y11 y12 y13 y14 y15 y16 y17) (accept_Reply.j0 (k + 1) y0 y1 y2 y3 y4 y5 y6 y7 y8 y9 y10 y11 y12 y13 y14 y15 y16 y17)) ∧ (∀ y0 y1 y2 y3 y4 y5 y6 y7 y8 y9 y10 y11 y12 y13 y14 y15 y16, LeO (accept_Reply.j1 k y0 y1 y2 y3 y4 y5 y6 y7 y8 y9 y10 y11 y12 y13 y14 y15 y16) (accept_Reply.j1 (k + 1) y0 y1 y2 y3 y4 y5 y6 y7 y8 y9 y10 y11 y12 y13 y14 y15 y16)) ∧ (∀ y0 y1 y2 y3 y4 y5 y6 y7 y8 y9 y10 y11 y12 y13 y14 y15, LeO (accept_Reply.j2 k y0 y1 y2 y3 y4 y5 y6 y7 y8 y9 y10 y11 y12 y13 y14 y15) (accept_Reply.j2 (k + 1) y0 y1 y2 y3 y4 y5 y6 y7 y8 y9 y10 y11 y12 y13 y14 y15))
  | 0 => ⟨fun _ _ _ _ _ _ _ _ _ _ _ _ _ _ _ _ _ _ r h => by simp [accept_Reply.j0] at h, fun _ _ _ _ _ _ _ _ _ _ _ _ _ _ _ _ _ r h => by simp [accept_Reply.j1] at h, fun _ _ _ _ _ _ _ _ _ _ _ _ _ _ _ _ r h => by simp [accept_Reply.j2] at h⟩
  | k + 1 => by
    obtain ⟨ih0, ih1, ih2⟩ := accept_Reply.mono_l k
    refine ⟨?_, ?_, ?_⟩
    · intro y0 y1 y2 y3 y4 y5 y6 y7 y8 y9 y10 y11 y12 y13 y14 y15 y16 y17
      unfold accept_Reply.j0
      repeat' first
      | (with_reducible exact ih0 _ _ _ _ _ _ _ _ _ _ _ _ _ _ _ _ _ _)
      | (with_reducible exact ih1 _ _ _ _ _ _ _ _ _ _ _ _ _ _ _ _ _)
      | (with_reducible exact ih2 _ _ _ _ _ _ _ _ _ _ _ _ _ _ _ _)
      | (with_reducible exact ack_Build.mono _ _ _ _ _ _ _ _ _ _ _ _ _ _ _ _ _)
      | (with_reducible exact LeO.refl _)
      | (with_reducible exact LeO.none _)
      | (with_reducible refine LeO.ite ?_ ?_)
      | (with_reducible refine LeO.bind ?_ (fun _ => ?_))
      | exact ih0 _ _ _ _ _ _ _ _ _ _ _ _ _ _ _ _ _ _
      | exact ih1 _ _ _ _ _ _ _ _ _ _ _ _ _ _ _ _ _
      | exact ih2 _ _ _ _ _ _ _ _ _ _ _ _ _ _ _ _
      | exact ack_Build.mono _ _ _ _ _ _ _ _ _ _ _ _ _ _ _ _ _
      | exact LeO.none _
      | refine LeO.ite ?_ ?_
      | refine LeO.bind ?_ (fun _ => ?_)
    · intro y0 y1 y2 y3 y4 y5 y6 y7 y8 y9 y10 y11 y12 y13 y14 y15 y16
      unfold accept_Reply.j1
      repeat' first
      | (with_reducible exact ih0 _ _ _ _ _ _ _ _ _ _ _ _ _ _ _ _ _ _)
      | (with_reducible exact ih1 _ _ _ _ _ _ _ _ _ _ _ _ _ _ _ _ _)
      | (with_reducible exact ih2 _ _ _ _ _ _ _ _ _ _ _ _ _ _ _ _)
      | (with_reducible exact ack_Build.mono _ _ _ _ _ _ _ _ _ _ _ _ _ _ _ _ _)
      | (with_reducible exact LeO.refl _)
      | (with_reducible exact LeO.none _)
      | (with_reducible refine LeO.ite ?_ ?_)
      | (with_reducible refine LeO.bind ?_ (fun _ => ?_))
      | exact ih0 _ _ _ _ _ _ _ _ _ _ _ _ _ _ _ _ _ _
      | exact ih1 _ _ _ _ _ _ _ _ _ _ _ _ _ _ _ _ _
      | exact ih2 _ _ _ _ _ _ _ _ _ _ _ _ _ _ _ _
      | exact ack_Build.mono _ _ _ _ _ _ _ _ _ _ _ _ _ _ _ _ _
      | exact LeO.none _
      | refine LeO.ite ?_ ?_
      | refine LeO.bind ?_ (fun _ => ?_)
    · intro y0 y1 y2 y3 y4 y5 y6 y7 y8 y9 y10 y11 y12 y13 y14 y15
      unfold accept_Reply.j2
      repeat' first
      | (with_reducible exact ih0 _ _ _ _ _ _ _ _ _ _ _ _ _ _ _ _ _ _)
      | (with_reducible exact ih1 _ _ _ _ _ _ _ _ _ _ _ _ _ _ _ _ _)
      | (with_reducible exact ih2 _ _ _ _ _ _ _ _ _ _ _ _ _ _ _ _)
      | (with_reducible exact ack_Build.mono _ _ _ _ _ _ _ _ _ _ _ _ _ _ _ _ _)
      | (with_reducible exact LeO.refl _)
      | (with_reducible exact LeO.none _)
      | (with_reducible refine LeO.ite ?_ ?_)
      | (with_reducible refine LeO.bind ?_ (fun _ => ?_))
      | exact ih0 _ _ _ _ _ _ _ _ _ _ _ _ _ _ _ _ _ _
      | exact ih1 _ _ _ _ _ _ _ _ _ _ _ _ _ _ _ _ _
      | exact ih2 _ _ _ _ _ _ _ _ _ _ _ _ _ _ _ _
      | exact ack_Build.mono _ _ _ _ _ _ _ _ _ _ _ _ _ _ _ _ _
      | exact LeO.none _
      | refine LeO.ite ?_ ?_
      | refine LeO.bind ?_ (fun _ => ?_)
theorem accept_Reply.mono : ∀ a0 a1 k, LeO (accept_Reply.f k a0 a1) (accept_Reply.f (k + 1) a0 a1) := by
  intro a0 a1 k
  obtain ⟨ih0, ih1, ih2⟩ := accept_Reply.mono_l k
  unfold accept_Reply.f
  repeat' first
      | (with_reducible exact ih0 _ _ _ _ _ _ _ _ _ _ _ _ _ _ _ _ _ _)
      | (with_reducible exact ih1 _ _ _ _ _ _ _ _ _ _ _ _ _ _ _ _ _)
      | (with_reducible exact ih2 _ _ _ _ _ _ _ _ _ _ _ _ _ _ _ _)
      | (with_reducible exact ack_Build.mono _ _ _ _ _ _ _ _ _ _ _ _ _ _ _ _ _)
      | (with_reducible exact LeO.refl _)
      | (with_reducible exact LeO.none _)
      | (with_reducible refine LeO.ite ?_ ?_)
      | (with_reducible refine LeO.bind ?_ (fun _ => ?_))
      | exact ih0 _ _ _ _ _ _ _ _ _ _ _ _ _ _ _ _ _ _
      | exact ih1 _ _ _ _ _ _ _ _ _ _ _ _ _ _ _ _ _
      | exact ih2 _ _ _ _ _ _ _ _ _ _ _ _ _ _ _ _
      | exact ack_Build.mono _ _ _ _ _ _ _ _ _ _ _ _ _ _ _ _ _
      | exact LeO.none _
      | refine LeO.ite ?_ ?_
      | refine LeO.bind ?_ (fun _ => ?_)
set_option maxHeartbeats 8000000 in
set_option maxRecDepth 100000 in
theorem accept_Reply.calls (k : Nat) (A0 : Option Addr) (c0 : Nat) (l0 : List Int) (a1 : Bool) (r1 : List Int) (r2 : Bool) (w : World) (hG : GlobA w) (hr0 : Kd.C (Kd.int .u8) w A0 l0.length l0) (hc0 : l0.length ≤ c0) (h : accept_Reply.f k l0 a1 = some (r1, r2)) :
    Calls Tryd.prog 12 #[.slice A0 l0.length c0, .bool a1] w fun e w' => ∃ v0_ : Value, e = .returned (.tuple #[v0_, .bool r2]) ∧ Kd.R (Kd.int .u8) 5 w' w.heap.size (fun _ => True) v0_ r1 ∧ Below w.heap.size w w' := by
  have hu25 := Tryd.underlying25
  have HR0 := Aside0.mk hr0
  have HC0 := Aside0.mk hc0
  clear hr0 hc0
  have HG := Aside0.mk hG
  clear hG
  have HB := Aside0.mk (Below.refl w.heap.size w)
  have H : ((accept_Verdict.f l0).bind fun bt116 => (if bt116.2.2.2.2.2.2.2.2.2.2.2.2.2.2.2.1.toList = ([] : List UInt8) then (accept_Reply.j0 k a1 bt116.2.2.2.2.2.2.2.2.2.2.2.2.2.2.2.1 true bt116.1 bt116.2.1 bt116.2.2.1 bt116.2.2.2.1 bt116.2.2.2.2.1 bt116.2.2.2.2.2.1 bt116.2.2.2.2.2.2.1 bt116.2.2.2.2.2.2.2.1 bt116.2.2.2.2.2.2.2.2.1 bt116.2.2.2.2.2.2.2.2.2.1 bt116.2.2.2.2.2.2.2.2.2.2.1 bt116.2.2.2.2.2.2.2.2.2.2.2.1 bt116.2.2.2.2.2.2.2.2.2.2.2.2.1 bt116.2.2.2.2.2.2.2.2.2.2.2.2.2.1 bt116.2.2.2.2.2.2.2.2.2.2.2.2.2.2.1) else ((frameA_Good.f l0).bind fun t134 => (accept_Reply.j0 k a1 bt116.2.2.2.2.2.2.2.2.2.2.2.2.2.2.2.1 (!t134) bt116.1 bt116.2.1 bt116.2.2.1 bt116.2.2.2.1 bt116.2.2.2.2.1 bt116.2.2.2.2.2.1 bt116.2.2.2.2.2.2.1 bt116.2.2.2.2.2.2.2.1 bt116.2.2.2.2.2.2.2.2.1 bt116.2.2.2.2.2.2.2.2.2.1 bt116.2.2.2.2.2.2.2.2.2.2.1 bt116.2.2.2.2.2.2.2.2.2.2.2.1 bt116.2.2.2.2.2.2.2.2.2.2.2.2.1 bt116.2.2.2.2.2.2.2.2.2.2.2.2.2.1 bt116.2.2.2.2.2.2.2.2.2.2.2.2.2.2.1)))) = some (r1, r2) := h
  clear h
  replace H := Option.bind_eq_some_iff.mp H
  obtain ⟨⟨t116, t117, t118, t119, t120, t121, t122, t123, t124, t125, t126, t127, t128, t129, t130, t131, t132⟩, A30, H⟩ := H
  replace H : (if t131.toList = ([] : List UInt8) then (accept_Reply.j0 k a1 t131 true t116 t117 t118 t119 t120 t121 t122 t123 t124 t125 t126 t127 t128 t129 t130) else ((frameA_Good.f l0).bind fun t134 => (accept_Reply.j0 k a1 t131 (!t134) t116 t117 t118 t119 t120 t121 t122 t123 t124 t125 t126 t127 t128 t129 t130))) = some (r1, r2) := H
  have A3 := Aside0.mk A30
  clear A30
  have HC4 := Aside0.mk H
  clear H
  go_enter Tryd.func12, Tryd.ntmps12
  go_upto_region 2 with (first | ((with_reducible refine gate_callee (f := 10) rfl ?_); refine goesL_ (some 14) rfl rfl Tryd.func10 (by kernel_rfl) rfl #[.slice A0 l0.length c0] rfl (by (try simp only [List.map_toArray, List.map_cons, List.map_nil]); first | done | rfl | (simp only [List.length_drop, List.length_take]; rfl)) ?_; (with_reducible refine (accept_Verdict.calls _ _ l0 t116 t117 t118 t119 t120 t121 t122 t123 t124 t125 t126 t127 t128 t129 t130 t131 t132 _ ?side3 ?side1 ?side2 A3.out).mono ?_); (case side1 => repeat (first | exact HR0.out | (with_reducible refine Kd.C_alloc ?_ _) | (with_reducible refine Kd.C_drewN ?_ _) | (with_reducible refine Kd.C_drew ?_))); (case side2 => exact HC0.out); (case side3 => exact GlobA.below HG.out (by repeat (first | (with_reducible first | exact HB.out | apply below_alloc | apply pw_below_drewN | apply below_drew1) | exact HB.out))); rintro e w5 ⟨rfl, hb⟩; refine ⟨_, rfl, ?_⟩; have n0_ := Aside0.mk (below_step (by repeat (first | (with_reducible first | exact HB.out | apply below_alloc | apply pw_below_drewN | apply below_drew1) | exact HB.out)) hb); clear HB; have HB := n0_; clear n0_; (try clear hb); (try clear hb2); (try clear hk); (try clear hi)) | ((with_reducible refine gate_dst (N := 6) rfl ?_); refine box_event ?hg (N := 6) ?hd (cs := #[.int .u8 0, .int .u8 0, .int .u8 0, .int .u8 0, .int .u8 0, .string (⟨#[]⟩ : ByteArray), .string (⟨#[]⟩ : ByteArray), .string (⟨#[]⟩ : ByteArray), .string (⟨#[]⟩ : ByteArray), .string (⟨#[]⟩ : ByteArray), .string (⟨#[]⟩ : ByteArray), .string (⟨#[]⟩ : ByteArray), .string (⟨#[]⟩ : ByteArray), .string (⟨#[]⟩ : ByteArray), .string (⟨#[]⟩ : ByteArray)]) (t := 25) ?hr ?_; (case hd => rfl); (case hg => rfl); (case hr => first | (go_simp; done) | (go_simp; rfl)); intro gb133 hg w6 hbox hb; have n0_ := Aside0.mk (below_step (by repeat (first | (with_reducible first | exact HB.out | apply below_alloc | apply pw_below_drewN | apply below_drew1) | exact HB.out)) hb); have n1_ := Aside0.mk (hbox); have n2_ := Aside0.mk ((by rw [hg]; exact (below_size (by repeat (first | (with_reducible first | exact HB.out | apply below_alloc | apply pw_below_drewN | apply below_drew1) | exact HB.out))) : w.heap.size ≤ gb133)); have n3_ := Aside0.mk ((by rw [hg]; exact (below_size (by repeat (first | (with_reducible first | exact HB.out | apply below_alloc | apply pw_below_drewN | apply below_drew1) | exact HB.out))) : w.heap.size ≤ gb133)); clear HB; have HB := n0_; have BK133 := n1_; have GW133 := n2_; have GE133 := n3_; clear n0_ n1_ n2_ n3_; clear hb hbox hg; have hcz7_0 : w6.cell? ⟨gb133, 0, none⟩ = some (.int .u8 0) := (blk_cell BK133.out 0).trans rfl; have hcz7_1 : w6.cell? ⟨gb133, 1, none⟩ = some (.int .u8 0) := (blk_cell BK133.out 1).trans rfl; have hcz7_2 : w6.cell? ⟨gb133, 2, none⟩ = some (.int .u8 0) := (blk_cell BK133.out 2).trans rfl; have hcz7_3 : w6.cell? ⟨gb133, 3, none⟩ = some (.int .u8 0) := (blk_cell BK133.out 3).trans rfl; have hcz7_4 : w6.cell? ⟨gb133, 4, none⟩ = some (.int .u8 0) := (blk_cell BK133.out 4).trans rfl; have hcz7_5 : w6.cell? ⟨gb133, 5, none⟩ = some (.string (⟨#[]⟩ : ByteArray)) := (blk_cell BK133.out 5).trans rfl; have hcz7_6 : w6.cell? ⟨gb133, 6, none⟩ = some (.string (⟨#[]⟩ : ByteArray)) := (blk_cell BK133.out 6).trans rfl; have hcz7_7 : w6.cell? ⟨gb133, 7, none⟩ = some (.string (⟨#[]⟩ : ByteArray)) := (blk_cell BK133.out 7).trans rfl; have hcz7_8 : w6.cell? ⟨gb133, 8, none⟩ = some (.string (⟨#[]⟩ : ByteArray)) := (blk_cell BK133.out 8).trans rfl; have hcz7_9 : w6.cell? ⟨gb133, 9, none⟩ = some (.string (⟨#[]⟩ : ByteArray)) := (blk_cell BK133.out 9).trans rfl; have hcz7_10 : w6.cell? ⟨gb133, 10, none⟩ = some (.string (⟨#[]⟩ : ByteArray)) := (blk_cell BK133.out 10).trans rfl; have hcz7_11 : w6.cell? ⟨gb133, 11, none⟩ = some (.string (⟨#[]⟩ : ByteArray)) := (blk_cell BK133.out 11).trans rfl; have hcz7_12 : w6.cell? ⟨gb133, 12, none⟩ = some (.string (⟨#[]⟩ : ByteArray)) := (blk_cell BK133.out 12).trans rfl; have hcz7_13 : w6.cell? ⟨gb133, 13, none⟩ = some (.string (⟨#[]⟩ : ByteArray)) := (blk_cell BK133.out 13).trans rfl; have hcz7_14 : w6.cell? ⟨gb133, 14, none⟩ = some (.string (⟨#[]⟩ : ByteArray)) := (blk_cell BK133.out 14).trans rfl; have hfz7_0 := blk_frozen BK133.out 0; have hfz7_1 := blk_frozen BK133.out 1; have hfz7_2 := blk_frozen BK133.out 2; have hfz7_3 := blk_frozen BK133.out 3; have hfz7_4 := blk_frozen BK133.out 4; have hfz7_5 := blk_frozen BK133.out 5; have hfz7_6 := blk_frozen BK133.out 6; have hfz7_7 := blk_frozen BK133.out 7; have hfz7_8 := blk_frozen BK133.out 8; have hfz7_9 := blk_frozen BK133.out 9; have hfz7_10 := blk_frozen BK133.out 10; have hfz7_11 := blk_frozen BK133.out 11; have hfz7_12 := blk_frozen BK133.out 12; have hfz7_13 := blk_frozen BK133.out 13; have hfz7_14 := blk_frozen BK133.out 14))
  (try simp only [Act.put, List.setIfInBounds_toArray, List.set_cons_zero, List.set_cons_succ])
  go_cut [24] (fun v24 wc => ∃ (kq : Nat) (x24_3 : Bool), v24 = .bool x24_3 ∧ Aside0 (accept_Reply.j0 kq a1 t131 x24_3 t116 t117 t118 t119 t120 t121 t122 t123 t124 t125 t126 t127 t128 t129 t130 = some (r1, r2)) ∧ Aside0 (kq ≤ k) ∧ Aside0 (wc.heap[gb133]? = some (.cells #[.int .u8 t116, .int .u8 t117, .int .u8 t118, .int .u8 t119, .int .u8 t120, .string t121, .string t122, .string t123, .string t124, .string t125, .string t126, .string t127, .string t128, .string t129, .string t130] 25 (0, 0))) ∧ Aside0 (Below w.heap.size w wc))
  case first =>
    have H := HC4.out
    clear HC4
    by_cases c8 : t131.toList = ([] : List UInt8)
    · rw [if_pos c8] at H
      have c8b0 : (t131.toList == ([] : List UInt8)) = true := beq_iff_eq.mpr c8
      have c8b1 : (t131.toList != ([] : List UInt8)) = false := bne_eq_false_iff_eq.mpr c8
      clear c8
      (first | rw [c8b0] | (simp only [i64_w, i32_w]; rw [c8b0]) | skip)
      have H' := Aside0.mk H
      clear H
      go_wp2
      go_meet
      case rel => exact ⟨_, (true), (by first | rfl | (simp; done) | (simp [*]; done)), H', ⟨by first | omega | exact Nat.le_refl _⟩, ⟨by (with_reducible repeat (first | refine blk_drewN ?_ _ | refine blk_drew ?_ | refine blk_alloc ?_ _)); refine blk_put (cs := #[.int .u8 t116, .int .u8 t117, .int .u8 t118, .int .u8 t119, .int .u8 t120, .string t121, .string t122, .string t123, .string t124, .string t125, .string t126, .string t127, .string t128, .string t129, .string (⟨#[]⟩ : ByteArray)]) ?_ 14 _ rfl; (with_reducible repeat (first | refine blk_drewN ?_ _ | refine blk_drew ?_ | refine blk_alloc ?_ _)); refine blk_put (cs := #[.int .u8 t116, .int .u8 t117, .int .u8 t118, .int .u8 t119, .int .u8 t120, .string t121, .string t122, .string t123, .string t124, .string t125, .string t126, .string t127, .string t128, .string (⟨#[]⟩ : ByteArray), .string (⟨#[]⟩ : ByteArray)]) ?_ 13 _ rfl; (with_reducible repeat (first | refine blk_drewN ?_ _ | refine blk_drew ?_ | refine blk_alloc ?_ _)); refine blk_put (cs := #[.int .u8 t116, .int .u8 t117, .int .u8 t118, .int .u8 t119, .int .u8 t120, .string t121, .string t122, .string t123, .string t124, .string t125, .string t126, .string t127, .string (⟨#[]⟩ : ByteArray), .string (⟨#[]⟩ : ByteArray), .string (⟨#[]⟩ : ByteArray)]) ?_ 12 _ rfl; (with_reducible repeat (first | refine blk_drewN ?_ _ | refine blk_drew ?_ | refine blk_alloc ?_ _)); refine blk_put (cs := #[.int .u8 t116, .int .u8 t117, .int .u8 t118, .int .u8 t119, .int .u8 t120, .string t121, .string t122, .string t123, .string t124, .string t125, .string t126, .string (⟨#[]⟩ : ByteArray), .string (⟨#[]⟩ : ByteArray), .string (⟨#[]⟩ : ByteArray), .string (⟨#[]⟩ : ByteArray)]) ?_ 11 _ rfl; (with_reducible repeat (first | refine blk_drewN ?_ _ | refine blk_drew ?_ | refine blk_alloc ?_ _)); refine blk_put (cs := #[.int .u8 t116, .int .u8 t117, .int .u8 t118, .int .u8 t119, .int .u8 t120, .string t121, .string t122, .string t123, .string t124, .string t125, .string (⟨#[]⟩ : ByteArray), .string (⟨#[]⟩ : ByteArray), .string (⟨#[]⟩ : ByteArray), .string (⟨#[]⟩ : ByteArray), .string (⟨#[]⟩ : ByteArray)]) ?_ 10 _ rfl; (with_reducible repeat (first | refine blk_drewN ?_ _ | refine blk_drew ?_ | refine blk_alloc ?_ _)); refine blk_put (cs := #[.int .u8 t116, .int .u8 t117, .int .u8 t118, .int .u8 t119, .int .u8 t120, .string t121, .string t122, .string t123, .string t124, .string (⟨#[]⟩ : ByteArray), .string (⟨#[]⟩ : ByteArray), .string (⟨#[]⟩ : ByteArray), .string (⟨#[]⟩ : ByteArray), .string (⟨#[]⟩ : ByteArray), .string (⟨#[]⟩ : ByteArray)]) ?_ 9 _ rfl; (with_reducible repeat (first | refine blk_drewN ?_ _ | refine blk_drew ?_ | refine blk_alloc ?_ _)); refine blk_put (cs := #[.int .u8 t116, .int .u8 t117, .int .u8 t118, .int .u8 t119, .int .u8 t120, .string t121, .string t122, .string t123, .string (⟨#[]⟩ : ByteArray), .string (⟨#[]⟩ : ByteArray), .string (⟨#[]⟩ : ByteArray), .string (⟨#[]⟩ : ByteArray), .string (⟨#[]⟩ : ByteArray), .string (⟨#[]⟩ : ByteArray), .string (⟨#[]⟩ : ByteArray)]) ?_ 8 _ rfl; (with_reducible repeat (first | refine blk_drewN ?_ _ | refine blk_drew ?_ | refine blk_alloc ?_ _)); refine blk_put (cs := #[.int .u8 t116, .int .u8 t117, .int .u8 t118, .int .u8 t119, .int .u8 t120, .string t121, .string t122, .string (⟨#[]⟩ : ByteArray), .string (⟨#[]⟩ : ByteArray), .string (⟨#[]⟩ : ByteArray), .string (⟨#[]⟩ : ByteArray), .string (⟨#[]⟩ : ByteArray), .string (⟨#[]⟩ : ByteArray), .string (⟨#[]⟩ : ByteArray), .string (⟨#[]⟩ : ByteArray)]) ?_ 7 _ rfl; (with_reducible repeat (first | refine blk_drewN ?_ _ | refine blk_drew ?_ | refine blk_alloc ?_ _)); refine blk_put (cs := #[.int .u8 t116, .int .u8 t117, .int .u8 t118, .int .u8 t119, .int .u8 t120, .string t121, .string (⟨#[]⟩ : ByteArray), .string (⟨#[]⟩ : ByteArray), .string (⟨#[]⟩ : ByteArray), .string (⟨#[]⟩ : ByteArray), .string (⟨#[]⟩ : ByteArray), .string (⟨#[]⟩ : ByteArray), .string (⟨#[]⟩ : ByteArray), .string (⟨#[]⟩ : ByteArray), .string (⟨#[]⟩ : ByteArray)]) ?_ 6 _ rfl; (with_reducible repeat (first | refine blk_drewN ?_ _ | refine blk_drew ?_ | refine blk_alloc ?_ _)); refine blk_put (cs := #[.int .u8 t116, .int .u8 t117, .int .u8 t118, .int .u8 t119, .int .u8 t120, .string (⟨#[]⟩ : ByteArray), .string (⟨#[]⟩ : ByteArray), .string (⟨#[]⟩ : ByteArray), .string (⟨#[]⟩ : ByteArray), .string (⟨#[]⟩ : ByteArray), .string (⟨#[]⟩ : ByteArray), .string (⟨#[]⟩ : ByteArray), .string (⟨#[]⟩ : ByteArray), .string (⟨#[]⟩ : ByteArray), .string (⟨#[]⟩ : ByteArray)]) ?_ 5 _ rfl; (with_reducible repeat (first | refine blk_drewN ?_ _ | refine blk_drew ?_ | refine blk_alloc ?_ _)); refine blk_put (cs := #[.int .u8 t116, .int .u8 t117, .int .u8 t118, .int .u8 t119, .int .u8 0, .string (⟨#[]⟩ : ByteArray), .string (⟨#[]⟩ : ByteArray), .string (⟨#[]⟩ : ByteArray), .string (⟨#[]⟩ : ByteArray), .string (⟨#[]⟩ : ByteArray), .string (⟨#[]⟩ : ByteArray), .string (⟨#[]⟩ : ByteArray), .string (⟨#[]⟩ : ByteArray), .string (⟨#[]⟩ : ByteArray), .string (⟨#[]⟩ : ByteArray)]) ?_ 4 _ rfl; (with_reducible repeat (first | refine blk_drewN ?_ _ | refine blk_drew ?_ | refine blk_alloc ?_ _)); refine blk_put (cs := #[.int .u8 t116, .int .u8 t117, .int .u8 t118, .int .u8 0, .int .u8 0, .string (⟨#[]⟩ : ByteArray), .string (⟨#[]⟩ : ByteArray), .string (⟨#[]⟩ : ByteArray), .string (⟨#[]⟩ : ByteArray), .string (⟨#[]⟩ : ByteArray), .string (⟨#[]⟩ : ByteArray), .string (⟨#[]⟩ : ByteArray), .string (⟨#[]⟩ : ByteArray), .string (⟨#[]⟩ : ByteArray), .string (⟨#[]⟩ : ByteArray)]) ?_ 3 _ rfl; (with_reducible repeat (first | refine blk_drewN ?_ _ | refine blk_drew ?_ | refine blk_alloc ?_ _)); refine blk_put (cs := #[.int .u8 t116, .int .u8 t117, .int .u8 0, .int .u8 0, .int .u8 0, .string (⟨#[]⟩ : ByteArray), .string (⟨#[]⟩ : ByteArray), .string (⟨#[]⟩ : ByteArray), .string (⟨#[]⟩ : ByteArray), .string (⟨#[]⟩ : ByteArray), .string (⟨#[]⟩ : ByteArray), .string (⟨#[]⟩ : ByteArray), .string (⟨#[]⟩ : ByteArray), .string (⟨#[]⟩ : ByteArray), .string (⟨#[]⟩ : ByteArray)]) ?_ 2 _ rfl; (with_reducible repeat (first | refine blk_drewN ?_ _ | refine blk_drew ?_ | refine blk_alloc ?_ _)); refine blk_put (cs := #[.int .u8 t116, .int .u8 0, .int .u8 0, .int .u8 0, .int .u8 0, .string (⟨#[]⟩ : ByteArray), .string (⟨#[]⟩ : ByteArray), .string (⟨#[]⟩ : ByteArray), .string (⟨#[]⟩ : ByteArray), .string (⟨#[]⟩ : ByteArray), .string (⟨#[]⟩ : ByteArray), .string (⟨#[]⟩ : ByteArray), .string (⟨#[]⟩ : ByteArray), .string (⟨#[]⟩ : ByteArray), .string (⟨#[]⟩ : ByteArray)]) ?_ 1 _ rfl; (with_reducible repeat (first | refine blk_drewN ?_ _ | refine blk_drew ?_ | refine blk_alloc ?_ _)); refine blk_put (cs := #[.int .u8 0, .int .u8 0, .int .u8 0, .int .u8 0, .int .u8 0, .string (⟨#[]⟩ : ByteArray), .string (⟨#[]⟩ : ByteArray), .string (⟨#[]⟩ : ByteArray), .string (⟨#[]⟩ : ByteArray), .string (⟨#[]⟩ : ByteArray), .string (⟨#[]⟩ : ByteArray), .string (⟨#[]⟩ : ByteArray), .string (⟨#[]⟩ : ByteArray), .string (⟨#[]⟩ : ByteArray), .string (⟨#[]⟩ : ByteArray)]) ?_ 0 _ rfl; (with_reducible repeat (first | refine blk_drewN ?_ _ | refine blk_drew ?_ | refine blk_alloc ?_ _)); exact BK133.out⟩, ⟨by repeat (first | (with_reducible first | exact HB.out | apply below_alloc | apply pw_below_drewN | apply below_drew1 | refine below_set ?_ GE133.out) | exact HB.out)⟩⟩
    · rw [if_neg c8] at H
      have c8b0 : (t131.toList == ([] : List UInt8)) = false := beq_eq_false_iff_ne.mpr c8
      have c8b1 : (t131.toList != ([] : List UInt8)) = true := bne_iff_ne.mpr c8
      (first | rw [c8b0] | (simp only [i64_w, i32_w]; rw [c8b0]) | skip)
      replace H := Option.bind_eq_some_iff.mp H
      obtain ⟨t134, A90, H⟩ := H
      replace H : (accept_Reply.j0 k a1 t131 (!t134) t116 t117 t118 t119 t120 t121 t122 t123 t124 t125 t126 t127 t128 t129 t130) = some (r1, r2) := H
      have A9 := Aside0.mk A90
      clear A90
      have H' := Aside0.mk H
      clear H
      go_wp2_with (first | (go_at_call 29; (with_reducible refine (frameA_Good.calls _ _ l0 t134 _ ?side3 ?side1 ?side2 A9.out).mono ?_); (case side1 => exact Kd.C_below HR0.out (by repeat (first | (with_reducible first | exact HB.out | apply below_alloc | apply pw_below_drewN | apply below_drew1 | refine below_set ?_ GE133.out) | exact HB.out))); (case side2 => exact HC0.out); (case side3 => exact GlobA.below HG.out (by repeat (first | (with_reducible first | exact HB.out | apply below_alloc | apply pw_below_drewN | apply below_drew1 | refine below_set ?_ GE133.out) | exact HB.out))); rintro e w10 ⟨rfl, hb⟩; have n0_ := Aside0.mk (blk_below (g := gb133) (o := .cells #[.int .u8 t116, .int .u8 t117, .int .u8 t118, .int .u8 t119, .int .u8 t120, .string t121, .string t122, .string t123, .string t124, .string t125, .string t126, .string t127, .string t128, .string t129, .string t130] 25 (0, 0)) (by (with_reducible repeat (first | refine blk_drewN ?_ _ | refine blk_drew ?_ | refine blk_alloc ?_ _)); refine blk_put (cs := #[.int .u8 t116, .int .u8 t117, .int .u8 t118, .int .u8 t119, .int .u8 t120, .string t121, .string t122, .string t123, .string t124, .string t125, .string t126, .string t127, .string t128, .string t129, .string (⟨#[]⟩ : ByteArray)]) ?_ 14 _ rfl; (with_reducible repeat (first | refine blk_drewN ?_ _ | refine blk_drew ?_ | refine blk_alloc ?_ _)); refine blk_put (cs := #[.int .u8 t116, .int .u8 t117, .int .u8 t118, .int .u8 t119, .int .u8 t120, .string t121, .string t122, .string t123, .string t124, .string t125, .string t126, .string t127, .string t128, .string (⟨#[]⟩ : ByteArray), .string (⟨#[]⟩ : ByteArray)]) ?_ 13 _ rfl; (with_reducible repeat (first | refine blk_drewN ?_ _ | refine blk_drew ?_ | refine blk_alloc ?_ _)); refine blk_put (cs := #[.int .u8 t116, .int .u8 t117, .int .u8 t118, .int .u8 t119, .int .u8 t120, .string t121, .string t122, .string t123, .string t124, .string t125, .string t126, .string t127, .string (⟨#[]⟩ : ByteArray), .string (⟨#[]⟩ : ByteArray), .string (⟨#[]⟩ : ByteArray)]) ?_ 12 _ rfl; (with_reducible repeat (first | refine blk_drewN ?_ _ | refine blk_drew ?_ | refine blk_alloc ?_ _)); refine blk_put (cs := #[.int .u8 t116, .int .u8 t117, .int .u8 t118, .int .u8 t119, .int .u8 t120, .string t121, .string t122, .string t123, .string t124, .string t125, .string t126, .string (⟨#[]⟩ : ByteArray), .string (⟨#[]⟩ : ByteArray), .string (⟨#[]⟩ : ByteArray), .string (⟨#[]⟩ : ByteArray)]) ?_ 11 _ rfl; (with_reducible repeat (first | refine blk_drewN ?_ _ | refine blk_drew ?_ | refine blk_alloc ?_ _)); refine blk_put (cs := #[.int .u8 t116, .int .u8 t117, .int .u8 t118, .int .u8 t119, .int .u8 t120, .string t121, .string t122, .string t123, .string t124, .string t125, .string (⟨#[]⟩ : ByteArray), .string (⟨#[]⟩ : ByteArray), .string (⟨#[]⟩ : ByteArray), .string (⟨#[]⟩ : ByteArray), .string (⟨#[]⟩ : ByteArray)]) ?_ 10 _ rfl; (with_reducible repeat (first | refine blk_drewN ?_ _ | refine blk_drew ?_ | refine blk_alloc ?_ _)); refine blk_put (cs := #[.int .u8 t116, .int .u8 t117, .int .u8 t118, .int .u8 t119, .int .u8 t120, .string t121, .string t122, .string t123, .string t124, .string (⟨#[]⟩ : ByteArray), .string (⟨#[]⟩ : ByteArray), .string (⟨#[]⟩ : ByteArray), .string (⟨#[]⟩ : ByteArray), .string (⟨#[]⟩ : ByteArray), .string (⟨#[]⟩ : ByteArray)]) ?_ 9 _ rfl; (with_reducible repeat (first | refine blk_drewN ?_ _ | refine blk_drew ?_ | refine blk_alloc ?_ _)); refine blk_put (cs := #[.int .u8 t116, .int .u8 t117, .int .u8 t118, .int .u8 t119, .int .u8 t120, .string t121, .string t122, .string t123, .string (⟨#[]⟩ : ByteArray), .string (⟨#[]⟩ : ByteArray), .string (⟨#[]⟩ : ByteArray), .string (⟨#[]⟩ : ByteArray), .string (⟨#[]⟩ : ByteArray), .string (⟨#[]⟩ : ByteArray), .string (⟨#[]⟩ : ByteArray)]) ?_ 8 _ rfl; (with_reducible repeat (first | refine blk_drewN ?_ _ | refine blk_drew ?_ | refine blk_alloc ?_ _)); refine blk_put (cs := #[.int .u8 t116, .int .u8 t117, .int .u8 t118, .int .u8 t119, .int .u8 t120, .string t121, .string t122, .string (⟨#[]⟩ : ByteArray), .string (⟨#[]⟩ : ByteArray), .string (⟨#[]⟩ : ByteArray), .string (⟨#[]⟩ : ByteArray), .string (⟨#[]⟩ : ByteArray), .string (⟨#[]⟩ : ByteArray), .string (⟨#[]⟩ : ByteArray), .string (⟨#[]⟩ : ByteArray)]) ?_ 7 _ rfl; (with_reducible repeat (first | refine blk_drewN ?_ _ | refine blk_drew ?_ | refine blk_alloc ?_ _)); refine blk_put (cs := #[.int .u8 t116, .int .u8 t117, .int .u8 t118, .int .u8 t119, .int .u8 t120, .string t121, .string (⟨#[]⟩ : ByteArray), .string (⟨#[]⟩ : ByteArray), .string (⟨#[]⟩ : ByteArray), .string (⟨#[]⟩ : ByteArray), .string (⟨#[]⟩ : ByteArray), .string (⟨#[]⟩ : ByteArray), .string (⟨#[]⟩ : ByteArray), .string (⟨#[]⟩ : ByteArray), .string (⟨#[]⟩ : ByteArray)]) ?_ 6 _ rfl; (with_reducible repeat (first | refine blk_drewN ?_ _ | refine blk_drew ?_ | refine blk_alloc ?_ _)); refine blk_put (cs := #[.int .u8 t116, .int .u8 t117, .int .u8 t118, .int .u8 t119, .int .u8 t120, .string (⟨#[]⟩ : ByteArray), .string (⟨#[]⟩ : ByteArray), .string (⟨#[]⟩ : ByteArray), .string (⟨#[]⟩ : ByteArray), .string (⟨#[]⟩ : ByteArray), .string (⟨#[]⟩ : ByteArray), .string (⟨#[]⟩ : ByteArray), .string (⟨#[]⟩ : ByteArray), .string (⟨#[]⟩ : ByteArray), .string (⟨#[]⟩ : ByteArray)]) ?_ 5 _ rfl; (with_reducible repeat (first | refine blk_drewN ?_ _ | refine blk_drew ?_ | refine blk_alloc ?_ _)); refine blk_put (cs := #[.int .u8 t116, .int .u8 t117, .int .u8 t118, .int .u8 t119, .int .u8 0, .string (⟨#[]⟩ : ByteArray), .string (⟨#[]⟩ : ByteArray), .string (⟨#[]⟩ : ByteArray), .string (⟨#[]⟩ : ByteArray), .string (⟨#[]⟩ : ByteArray), .string (⟨#[]⟩ : ByteArray), .string (⟨#[]⟩ : ByteArray), .string (⟨#[]⟩ : ByteArray), .string (⟨#[]⟩ : ByteArray), .string (⟨#[]⟩ : ByteArray)]) ?_ 4 _ rfl; (with_reducible repeat (first | refine blk_drewN ?_ _ | refine blk_drew ?_ | refine blk_alloc ?_ _)); refine blk_put (cs := #[.int .u8 t116, .int .u8 t117, .int .u8 t118, .int .u8 0, .int .u8 0, .string (⟨#[]⟩ : ByteArray), .string (⟨#[]⟩ : ByteArray), .string (⟨#[]⟩ : ByteArray), .string (⟨#[]⟩ : ByteArray), .string (⟨#[]⟩ : ByteArray), .string (⟨#[]⟩ : ByteArray), .string (⟨#[]⟩ : ByteArray), .string (⟨#[]⟩ : ByteArray), .string (⟨#[]⟩ : ByteArray), .string (⟨#[]⟩ : ByteArray)]) ?_ 3 _ rfl; (with_reducible repeat (first | refine blk_drewN ?_ _ | refine blk_drew ?_ | refine blk_alloc ?_ _)); refine blk_put (cs := #[.int .u8 t116, .int .u8 t117, .int .u8 0, .int .u8 0, .int .u8 0, .string (⟨#[]⟩ : ByteArray), .string (⟨#[]⟩ : ByteArray), .string (⟨#[]⟩ : ByteArray), .string (⟨#[]⟩ : ByteArray), .string (⟨#[]⟩ : ByteArray), .string (⟨#[]⟩ : ByteArray), .string (⟨#[]⟩ : ByteArray), .string (⟨#[]⟩ : ByteArray), .string (⟨#[]⟩ : ByteArray), .string (⟨#[]⟩ : ByteArray)]) ?_ 2 _ rfl; (with_reducible repeat (first | refine blk_drewN ?_ _ | refine blk_drew ?_ | refine blk_alloc ?_ _)); refine blk_put (cs := #[.int .u8 t116, .int .u8 0, .int .u8 0, .int .u8 0, .int .u8 0, .string (⟨#[]⟩ : ByteArray), .string (⟨#[]⟩ : ByteArray), .string (⟨#[]⟩ : ByteArray), .string (⟨#[]⟩ : ByteArray), .string (⟨#[]⟩ : ByteArray), .string (⟨#[]⟩ : ByteArray), .string (⟨#[]⟩ : ByteArray), .string (⟨#[]⟩ : ByteArray), .string (⟨#[]⟩ : ByteArray), .string (⟨#[]⟩ : ByteArray)]) ?_ 1 _ rfl; (with_reducible repeat (first | refine blk_drewN ?_ _ | refine blk_drew ?_ | refine blk_alloc ?_ _)); refine blk_put (cs := #[.int .u8 0, .int .u8 0, .int .u8 0, .int .u8 0, .int .u8 0, .string (⟨#[]⟩ : ByteArray), .string (⟨#[]⟩ : ByteArray), .string (⟨#[]⟩ : ByteArray), .string (⟨#[]⟩ : ByteArray), .string (⟨#[]⟩ : ByteArray), .string (⟨#[]⟩ : ByteArray), .string (⟨#[]⟩ : ByteArray), .string (⟨#[]⟩ : ByteArray), .string (⟨#[]⟩ : ByteArray), .string (⟨#[]⟩ : ByteArray)]) ?_ 0 _ rfl; (with_reducible repeat (first | refine blk_drewN ?_ _ | refine blk_drew ?_ | refine blk_alloc ?_ _)); exact BK133.out) hb); have n1_ := Aside0.mk (below_step (by repeat (first | (with_reducible first | exact HB.out | apply below_alloc | apply pw_below_drewN | apply below_drew1 | refine below_set ?_ GE133.out) | exact HB.out)) hb); clear BK133; clear HB; have BK133 := n0_; have HB := n1_; clear n0_ n1_; (try clear hb); (try clear hb2); (try clear hk); (try clear hi)))
      go_meet
      case rel => exact ⟨_, (!t134), (by first | rfl | (simp; done) | (simp [*]; done)), H', ⟨by first | omega | exact Nat.le_refl _⟩, ⟨by (with_reducible repeat (first | refine blk_drewN ?_ _ | refine blk_drew ?_ | refine blk_alloc ?_ _)); exact BK133.out⟩, ⟨by repeat (first | (with_reducible first | exact HB.out | apply below_alloc | apply pw_below_drewN | apply below_drew1 | refine below_set ?_ GE133.out) | exact HB.out)⟩⟩
  case rest =>
    clear HC4
    try clear c1
    try clear p2
    try clear c8
    try clear c8b0
    try clear c8b1
    try clear c10
    try clear hcz7_0
    try clear hcz7_1
    try clear hcz7_10
    try clear hcz7_11
    try clear hcz7_12
    try clear hcz7_13
    try clear hcz7_14
    try clear hcz7_2
    try clear hcz7_3
    try clear hcz7_4
    try clear hcz7_5
    try clear hcz7_6
    try clear hcz7_7
    try clear hcz7_8
    try clear hcz7_9
    try clear hfz7_0
    try clear hfz7_1
    try clear hfz7_10
    try clear hfz7_11
    try clear hfz7_12
    try clear hfz7_13
    try clear hfz7_14
    try clear hfz7_2
    try clear hfz7_3
    try clear hfz7_4
    try clear hfz7_5
    try clear hfz7_6
    try clear hfz7_7
    try clear hfz7_8
    try clear hfz7_9
    obtain ⟨kq, x24_3, rfl, HA, HJ3, BK133, HB⟩ := hcut
    cases kq with
    | zero => exact absurd HA.out (by simp [accept_Reply.j0])
    | succ kj3 =>
      have H := HA.out
      clear HA
      simp only [accept_Reply.j0] at H
      by_cases c11 : x24_3 = true
      · subst c11
        have H1 : (some (([] : List Int), false)) = some (r1, r2) := by rw [if_pos rfl] at H; exact H
        clear H
        have H := H1
        clear H1
        simp only [Option.some.injEq, Prod.mk.injEq] at H
        obtain ⟨rfl, rfl⟩ := H
        go_wp2
        go_ret2
        exact ⟨_, by first | rfl | (simp [errW_none, errW_some] <;> rfl) | (simp [*, errW_none, errW_some] <;> rfl), by first | exact Kd.R_nil _ _ _ _ _ | exact Kd.N_nil _ _ _ _ _ | exact Kd.V_nil _ _ _ _ _ | exact Kd.Q_nil _ _ _ _ _ | exact Kd.S_nil _ _ _ _ _, by repeat (first | (with_reducible first | exact HB.out | apply below_alloc | apply pw_below_drewN | apply below_drew1 | refine below_set ?_ GE133.out) | exact HB.out)⟩
      · replace c11 := Bool.eq_false_iff.mpr c11
        subst c11
        have H1 : (if t131.toList = ([65, 65] : List UInt8) then (accept_Reply.j1 kj3 t131 (!a1) t116 t117 t118 t119 t120 t121 t122 t123 t124 t125 t126 t127 t128 t129 t130) else (accept_Reply.j1 kj3 t131 false t116 t117 t118 t119 t120 t121 t122 t123 t124 t125 t126 t127 t128 t129 t130)) = some (r1, r2) := by rw [if_neg (show ¬ (false = true) by decide)] at H; exact H
        clear H
        have H := H1
        clear H1
        have HC12 := Aside0.mk H
        clear H
        go_upto_region 4 with (fail)
        go_cut [30] (fun v30 wc => ∃ (kq : Nat) (x30_11 : Bool), v30 = .bool x30_11 ∧ Aside0 (accept_Reply.j1 kq t131 x30_11 t116 t117 t118 t119 t120 t121 t122 t123 t124 t125 t126 t127 t128 t129 t130 = some (r1, r2)) ∧ Aside0 (kq ≤ kj3) ∧ Aside0 (wc.heap[gb133]? = some (.cells #[.int .u8 t116, .int .u8 t117, .int .u8 t118, .int .u8 t119, .int .u8 t120, .string t121, .string t122, .string t123, .string t124, .string t125, .string t126, .string t127, .string t128, .string t129, .string t130] 25 (0, 0))) ∧ Aside0 (Below w.heap.size w wc))
        case first =>
          have H := HC12.out
          clear HC12
          by_cases c13 : t131.toList = ([65, 65] : List UInt8)
          · rw [if_pos c13] at H
            have c13b0 : (t131.toList == ([65, 65] : List UInt8)) = true := beq_iff_eq.mpr c13
            have c13b1 : (t131.toList != ([65, 65] : List UInt8)) = false := bne_eq_false_iff_eq.mpr c13
            clear c13
            (first | rw [c13b0] | (simp only [i64_w, i32_w]; rw [c13b0]) | skip)
            have H' := Aside0.mk H
            clear H
            go_wp2
            go_meet
            case rel => exact ⟨_, (!a1), (by first | rfl | (simp; done) | (simp [*]; done)), H', ⟨by have := HJ3.out; first | omega | exact Nat.le_refl _⟩, ⟨by (with_reducible repeat (first | refine blk_drewN ?_ _ | refine blk_drew ?_ | refine blk_alloc ?_ _)); exact BK133.out⟩, ⟨by repeat (first | (with_reducible first | exact HB.out | apply below_alloc | apply pw_below_drewN | apply below_drew1 | refine below_set ?_ GE133.out) | exact HB.out)⟩⟩
          · rw [if_neg c13] at H
            have c13b0 : (t131.toList == ([65, 65] : List UInt8)) = false := beq_eq_false_iff_ne.mpr c13
            have c13b1 : (t131.toList != ([65, 65] : List UInt8)) = true := bne_iff_ne.mpr c13
            (first | rw [c13b0] | (simp only [i64_w, i32_w]; rw [c13b0]) | skip)
            have H' := Aside0.mk H
            clear H
            go_wp2
            go_meet
            case rel => exact ⟨_, (false), (by first | rfl | (simp; done) | (simp [*]; done)), H', ⟨by have := HJ3.out; first | omega | exact Nat.le_refl _⟩, ⟨by (with_reducible repeat (first | refine blk_drewN ?_ _ | refine blk_drew ?_ | refine blk_alloc ?_ _)); exact BK133.out⟩, ⟨by repeat (first | (with_reducible first | exact HB.out | apply below_alloc | apply pw_below_drewN | apply below_drew1 | refine below_set ?_ GE133.out) | exact HB.out)⟩⟩
        case rest =>
          clear HC12
          try clear c1
          try clear p2
          try clear c8
          try clear c8b0
          try clear c8b1
          try clear c10
          try clear c11
          try clear c12
          try clear c13
          try clear c13b0
          try clear c13b1
          try clear hcz7_0
          try clear hcz7_1
          try clear hcz7_10
          try clear hcz7_11
          try clear hcz7_12
          try clear hcz7_13
          try clear hcz7_14
          try clear hcz7_2
          try clear hcz7_3
          try clear hcz7_4
          try clear hcz7_5
          try clear hcz7_6
          try clear hcz7_7
          try clear hcz7_8
          try clear hcz7_9
          try clear hfz7_0
          try clear hfz7_1
          try clear hfz7_10
          try clear hfz7_11
          try clear hfz7_12
          try clear hfz7_13
          try clear hfz7_14
          try clear hfz7_2
          try clear hfz7_3
          try clear hfz7_4
          try clear hfz7_5
          try clear hfz7_6
          try clear hfz7_7
          try clear hfz7_8
          try clear hfz7_9
          try clear p2
          obtain ⟨kq, x30_11, rfl, HA, HJ11, BK133, HB⟩ := hcut
          cases kq with
          | zero => exact absurd HA.out (by simp [accept_Reply.j1])
          | succ kj11 =>
            have H := HA.out
            clear HA
            simp only [accept_Reply.j1] at H
            have HC14 := Aside0.mk H
            clear H
            go_upto_if 30 with (fail)
            go_cut [7] (fun v7 wc => ∃ (kq : Nat) (x7_13 : ByteArray), v7 = .string x7_13 ∧ Aside0 (accept_Reply.j2 kq x7_13 t116 t117 t118 t119 t120 t121 t122 t123 t124 t125 t126 t127 t128 t129 t130 = some (r1, r2)) ∧ Aside0 (kq ≤ kj11) ∧ Aside0 (wc.heap[gb133]? = some (.cells #[.int .u8 t116, .int .u8 t117, .int .u8 t118, .int .u8 t119, .int .u8 t120, .string t121, .string t122, .string t123, .string t124, .string t125, .string t126, .string t127, .string t128, .string t129, .string t130] 25 (0, 0))) ∧ Aside0 (Below w.heap.size w wc))
            case first =>
              have H := HC14.out
              clear HC14
              by_cases c15 : x30_11 = true
              · subst c15
                have H1 : (accept_Reply.j2 kj11 (⟨#[65, 69]⟩ : ByteArray) t116 t117 t118 t119 t120 t121 t122 t123 t124 t125 t126 t127 t128 t129 t130) = some (r1, r2) := by rw [if_pos rfl] at H; exact H
                clear H
                have H := H1
                clear H1
                have H' := Aside0.mk H
                clear H
                go_wp2
                go_meet
                case rel => exact ⟨_, ((⟨#[65, 69]⟩ : ByteArray)), (by first | rfl | (simp; done) | (simp [*]; done)), H', ⟨by have := HJ3.out; have := HJ11.out; first | omega | exact Nat.le_refl _⟩, ⟨by (with_reducible repeat (first | refine blk_drewN ?_ _ | refine blk_drew ?_ | refine blk_alloc ?_ _)); exact BK133.out⟩, ⟨by repeat (first | (with_reducible first | exact HB.out | apply below_alloc | apply pw_below_drewN | apply below_drew1 | refine below_set ?_ GE133.out) | exact HB.out)⟩⟩
              · replace c15 := Bool.eq_false_iff.mpr c15
                subst c15
                have H1 : (accept_Reply.j2 kj11 t131 t116 t117 t118 t119 t120 t121 t122 t123 t124 t125 t126 t127 t128 t129 t130) = some (r1, r2) := by rw [if_neg (show ¬ (false = true) by decide)] at H; exact H
                clear H
                have H := H1
                clear H1
                have H' := Aside0.mk H
                clear H
                go_wp2
                go_meet
                case rel => exact ⟨_, (t131), (by first | rfl | (simp; done) | (simp [*]; done)), H', ⟨by have := HJ3.out; have := HJ11.out; first | omega | exact Nat.le_refl _⟩, ⟨by (with_reducible repeat (first | refine blk_drewN ?_ _ | refine blk_drew ?_ | refine blk_alloc ?_ _)); exact BK133.out⟩, ⟨by repeat (first | (with_reducible first | exact HB.out | apply below_alloc | apply pw_below_drewN | apply below_drew1 | refine below_set ?_ GE133.out) | exact HB.out)⟩⟩
            case rest =>
              clear HC14
              try clear c1
              try clear p2
              try clear c8
              try clear c8b0
              try clear c8b1
              try clear c10
              try clear c11
              try clear c12
              try clear c13
              try clear c13b0
              try clear c13b1
              try clear c15
              try clear hcz7_0
              try clear hcz7_1
              try clear hcz7_10
              try clear hcz7_11
              try clear hcz7_12
              try clear hcz7_13
              try clear hcz7_14
              try clear hcz7_2
              try clear hcz7_3
              try clear hcz7_4
              try clear hcz7_5
              try clear hcz7_6
              try clear hcz7_7
              try clear hcz7_8
              try clear hcz7_9
              try clear hfz7_0
              try clear hfz7_1
              try clear hfz7_10
              try clear hfz7_11
              try clear hfz7_12
              try clear hfz7_13
              try clear hfz7_14
              try clear hfz7_2
              try clear hfz7_3
              try clear hfz7_4
              try clear hfz7_5
              try clear hfz7_6
              try clear hfz7_7
              try clear hfz7_8
              try clear hfz7_9
              try clear p2
              obtain ⟨kq, x7_13, rfl, HA, HJ13, BK133, HB⟩ := hcut
              cases kq with
              | zero => exact absurd HA.out (by simp [accept_Reply.j2])
              | succ kj13 =>
                have H := HA.out
                clear HA
                simp only [accept_Reply.j2] at H
                replace H := Option.bind_eq_some_iff.mp H
                obtain ⟨⟨t135, t138⟩, A160, H⟩ := H
                replace H : (if t138 = 0 then ((frameA_Wrap.f t135).bind fun bt139 => (some (bt139.1, (bt139.2 == 0)))) else (some (([] : List Int), false))) = some (r1, r2) := H
                have A16 := Aside0.mk A160
                clear A160
                by_cases c17 : t138 = 0
                · rw [if_pos c17] at H
                  have c17b0 : (t138 == 0) = true := beq_iff_eq.mpr c17
                  have c17b1 : (t138 != 0) = false := bne_eq_false_iff_eq.mpr c17
                  clear c17
                  replace H := Option.bind_eq_some_iff.mp H
                  obtain ⟨⟨t139, t140⟩, A180, H⟩ := H
                  replace H : (some (t139, (t140 == 0))) = some (r1, r2) := H
                  have A18 := Aside0.mk A180
                  clear A180
                  simp only [Option.some.injEq, Prod.mk.injEq] at H
                  obtain ⟨rfl, rfl⟩ := H
                  have hcz19_0 : wc.cell? ⟨gb133, 0, none⟩ = some (.int .u8 t116) := (blk_cell BK133.out 0).trans rfl
                  have hcz19_1 : wc.cell? ⟨gb133, 1, none⟩ = some (.int .u8 t117) := (blk_cell BK133.out 1).trans rfl
                  have hcz19_2 : wc.cell? ⟨gb133, 2, none⟩ = some (.int .u8 t118) := (blk_cell BK133.out 2).trans rfl
                  have hcz19_3 : wc.cell? ⟨gb133, 3, none⟩ = some (.int .u8 t119) := (blk_cell BK133.out 3).trans rfl
                  have hcz19_4 : wc.cell? ⟨gb133, 4, none⟩ = some (.int .u8 t120) := (blk_cell BK133.out 4).trans rfl
                  have hcz19_5 : wc.cell? ⟨gb133, 5, none⟩ = some (.string t121) := (blk_cell BK133.out 5).trans rfl
                  have hcz19_6 : wc.cell? ⟨gb133, 6, none⟩ = some (.string t122) := (blk_cell BK133.out 6).trans rfl
                  have hcz19_7 : wc.cell? ⟨gb133, 7, none⟩ = some (.string t123) := (blk_cell BK133.out 7).trans rfl
                  have hcz19_8 : wc.cell? ⟨gb133, 8, none⟩ = some (.string t124) := (blk_cell BK133.out 8).trans rfl
                  have hcz19_9 : wc.cell? ⟨gb133, 9, none⟩ = some (.string t125) := (blk_cell BK133.out 9).trans rfl
                  have hcz19_10 : wc.cell? ⟨gb133, 10, none⟩ = some (.string t126) := (blk_cell BK133.out 10).trans rfl
                  have hcz19_11 : wc.cell? ⟨gb133, 11, none⟩ = some (.string t127) := (blk_cell BK133.out 11).trans rfl
                  have hcz19_12 : wc.cell? ⟨gb133, 12, none⟩ = some (.string t128) := (blk_cell BK133.out 12).trans rfl
                  have hcz19_13 : wc.cell? ⟨gb133, 13, none⟩ = some (.string t129) := (blk_cell BK133.out 13).trans rfl
                  have hcz19_14 : wc.cell? ⟨gb133, 14, none⟩ = some (.string t130) := (blk_cell BK133.out 14).trans rfl
                  have hfz19_0 := blk_frozen BK133.out 0
                  have hfz19_1 := blk_frozen BK133.out 1
                  have hfz19_2 := blk_frozen BK133.out 2
                  have hfz19_3 := blk_frozen BK133.out 3
                  have hfz19_4 := blk_frozen BK133.out 4
                  have hfz19_5 := blk_frozen BK133.out 5
                  have hfz19_6 := blk_frozen BK133.out 6
                  have hfz19_7 := blk_frozen BK133.out 7
                  have hfz19_8 := blk_frozen BK133.out 8
                  have hfz19_9 := blk_frozen BK133.out 9
                  have hfz19_10 := blk_frozen BK133.out 10
                  have hfz19_11 := blk_frozen BK133.out 11
                  have hfz19_12 := blk_frozen BK133.out 12
                  have hfz19_13 := blk_frozen BK133.out 13
                  have hfz19_14 := blk_frozen BK133.out 14
                  go_wp2_with (first | ((with_reducible refine gate_callee (f := 30) rfl ?_); refine goesL_ (some 34) rfl rfl Tryd.func30 (by kernel_rfl) rfl #[.agg #[.int .u8 t116, .int .u8 t117, .int .u8 t118, .int .u8 t119, .int .u8 t120, .string t121, .string t122, .string t123, .string t124, .string t125, .string t126, .string t127, .string t128, .string t129, .string t130], .string x7_13] rfl (by (try simp only [List.map_toArray, List.map_cons, List.map_nil]); first | done | rfl | (simp only [List.length_drop, List.length_take]; rfl)) ?_; (with_reducible refine (ack_Build.calls kj13 t116 t117 t118 t119 t120 t121 t122 t123 t124 t125 t126 t127 t128 t129 t130 x7_13 t135 t138 _ ?side1 A16.out).mono ?_); (case side1 => exact GlobA.below HG.out (by repeat (first | (with_reducible first | exact HB.out | apply below_alloc | apply pw_below_drewN | apply below_drew1 | refine below_set ?_ GE133.out) | exact HB.out))); rintro e w20 ⟨v136, rfl, ho0, hb⟩; refine ⟨_, rfl, ?_⟩; have n0_ := Aside0.mk (Kd.R_lower ho0 (below_size (by repeat (first | (with_reducible first | exact HB.out | apply below_alloc | apply pw_below_drewN | apply below_drew1 | refine below_set ?_ GE133.out) | exact HB.out)))); have n1_ := Aside0.mk (blk_below (g := gb133) (o := .cells #[.int .u8 t116, .int .u8 t117, .int .u8 t118, .int .u8 t119, .int .u8 t120, .string t121, .string t122, .string t123, .string t124, .string t125, .string t126, .string t127, .string t128, .string t129, .string t130] 25 (0, 0)) (by (with_reducible repeat (first | refine blk_drewN ?_ _ | refine blk_drew ?_ | refine blk_alloc ?_ _)); exact BK133.out) hb); have n2_ := Aside0.mk (below_step (by repeat (first | (with_reducible first | exact HB.out | apply below_alloc | apply pw_below_drewN | apply below_drew1 | refine below_set ?_ GE133.out) | exact HB.out)) hb); clear BK133; clear HB; have HO137 := n0_; have BK133 := n1_; have HB := n2_; clear n0_ n1_ n2_; (try clear hb); (try clear hb2); (try clear hk); (try clear hi); (try clear ho0); obtain ⟨Ao21, co21, eo21⟩ := Kd.R_slice HO137.out; subst eo21) | ((with_reducible refine gate_callee (f := 31) rfl ?_); refine goesL_ (some 41) rfl rfl Tryd.func31 (by kernel_rfl) rfl #[.slice Ao21 t135.length co21] rfl (by (try simp only [List.map_toArray, List.map_cons, List.map_nil]); first | done | rfl | (simp only [List.length_drop, List.length_take]; rfl)) ?_; (with_reducible refine (frameA_Wrap.calls _ _ t135 t139 t140 _ ?side3 ?side1 ?side2 A18.out).mono ?_); (case side1 => repeat (first | exact (Kd.R_reads' HO137.out).2.2 | (with_reducible refine Kd.C_alloc ?_ _) | (with_reducible refine Kd.C_drewN ?_ _) | (with_reducible refine Kd.C_drew ?_))); (case side2 => exact (Kd.R_reads' HO137.out).2.1); (case side3 => exact GlobA.below HG.out (by repeat (first | (with_reducible first | exact HB.out | apply below_alloc | apply pw_below_drewN | apply below_drew1 | refine below_set ?_ GE133.out) | exact HB.out))); rintro e w22 ⟨v141, rfl, ho0, hb⟩; refine ⟨_, rfl, ?_⟩; have n0_ := Aside0.mk (Kd.R_elder' (by (with_reducible repeat (first | apply Kd.R_alloc | apply Kd.R_drewN | apply Kd.R_drew)); exact HO137.out) (Kd.R_base ho0) hb); have n1_ := Aside0.mk (Kd.R_lower (Kd.R_new' ho0 (Kd.R_lt (by (with_reducible repeat (first | apply Kd.R_alloc | apply Kd.R_drewN | apply Kd.R_drew)); exact HO137.out))) (below_size (by repeat (first | (with_reducible first | exact HB.out | apply below_alloc | apply pw_below_drewN | apply below_drew1 | refine below_set ?_ GE133.out) | exact HB.out)))); have n2_ := Aside0.mk (blk_below (g := gb133) (o := .cells #[.int .u8 t116, .int .u8 t117, .int .u8 t118, .int .u8 t119, .int .u8 t120, .string t121, .string t122, .string t123, .string t124, .string t125, .string t126, .string t127, .string t128, .string t129, .string t130] 25 (0, 0)) (by (with_reducible repeat (first | refine blk_drewN ?_ _ | refine blk_drew ?_ | refine blk_alloc ?_ _)); exact BK133.out) hb); have n3_ := Aside0.mk (below_step (by repeat (first | (with_reducible first | exact HB.out | apply below_alloc | apply pw_below_drewN | apply below_drew1 | refine below_set ?_ GE133.out) | exact HB.out)) hb); clear HO137; clear BK133; clear HB; have HO137 := n0_; have HO142 := n1_; have BK133 := n2_; have HB := n3_; clear n0_ n1_ n2_ n3_; (try clear hb); (try clear hb2); (try clear hk); (try clear hi); (try clear ho0)))
                  go_ret2
                  exact ⟨_, by first | rfl | (simp [errW_none, errW_some] <;> rfl) | (simp [*, errW_none, errW_some] <;> rfl), by (with_reducible repeat (first | apply Kd.R_alloc | apply Kd.R_drewN | apply Kd.R_drew)); exact Kd.R_mono HO142.out (fun _ hk => trivial), by repeat (first | (with_reducible first | exact HB.out | apply below_alloc | apply pw_below_drewN | apply below_drew1 | refine below_set ?_ GE133.out) | exact HB.out)⟩
                · rw [if_neg c17] at H
                  have c17b0 : (t138 == 0) = false := beq_eq_false_iff_ne.mpr c17
                  have c17b1 : (t138 != 0) = true := bne_iff_ne.mpr c17
                  simp only [Option.some.injEq, Prod.mk.injEq] at H
                  obtain ⟨rfl, rfl⟩ := H
                  have hcz23_0 : wc.cell? ⟨gb133, 0, none⟩ = some (.int .u8 t116) := (blk_cell BK133.out 0).trans rfl
                  have hcz23_1 : wc.cell? ⟨gb133, 1, none⟩ = some (.int .u8 t117) := (blk_cell BK133.out 1).trans rfl
                  have hcz23_2 : wc.cell? ⟨gb133, 2, none⟩ = some (.int .u8 t118) := (blk_cell BK133.out 2).trans rfl
                  have hcz23_3 : wc.cell? ⟨gb133, 3, none⟩ = some (.int .u8 t119) := (blk_cell BK133.out 3).trans rfl
                  have hcz23_4 : wc.cell? ⟨gb133, 4, none⟩ = some (.int .u8 t120) := (blk_cell BK133.out 4).trans rfl
                  have hcz23_5 : wc.cell? ⟨gb133, 5, none⟩ = some (.string t121) := (blk_cell BK133.out 5).trans rfl
                  have hcz23_6 : wc.cell? ⟨gb133, 6, none⟩ = some (.string t122) := (blk_cell BK133.out 6).trans rfl
                  have hcz23_7 : wc.cell? ⟨gb133, 7, none⟩ = some (.string t123) := (blk_cell BK133.out 7).trans rfl
                  have hcz23_8 : wc.cell? ⟨gb133, 8, none⟩ = some (.string t124) := (blk_cell BK133.out 8).trans rfl
                  have hcz23_9 : wc.cell? ⟨gb133, 9, none⟩ = some (.string t125) := (blk_cell BK133.out 9).trans rfl
                  have hcz23_10 : wc.cell? ⟨gb133, 10, none⟩ = some (.string t126) := (blk_cell BK133.out 10).trans rfl
                  have hcz23_11 : wc.cell? ⟨gb133, 11, none⟩ = some (.string t127) := (blk_cell BK133.out 11).trans rfl
                  have hcz23_12 : wc.cell? ⟨gb133, 12, none⟩ = some (.string t128) := (blk_cell BK133.out 12).trans rfl
                  have hcz23_13 : wc.cell? ⟨gb133, 13, none⟩ = some (.string t129) := (blk_cell BK133.out 13).trans rfl
                  have hcz23_14 : wc.cell? ⟨gb133, 14, none⟩ = some (.string t130) := (blk_cell BK133.out 14).trans rfl
                  have hfz23_0 := blk_frozen BK133.out 0
                  have hfz23_1 := blk_frozen BK133.out 1
                  have hfz23_2 := blk_frozen BK133.out 2
                  have hfz23_3 := blk_frozen BK133.out 3
                  have hfz23_4 := blk_frozen BK133.out 4
                  have hfz23_5 := blk_frozen BK133.out 5
                  have hfz23_6 := blk_frozen BK133.out 6
                  have hfz23_7 := blk_frozen BK133.out 7
                  have hfz23_8 := blk_frozen BK133.out 8
                  have hfz23_9 := blk_frozen BK133.out 9
                  have hfz23_10 := blk_frozen BK133.out 10
                  have hfz23_11 := blk_frozen BK133.out 11
                  have hfz23_12 := blk_frozen BK133.out 12
                  have hfz23_13 := blk_frozen BK133.out 13
                  have hfz23_14 := blk_frozen BK133.out 14
                  go_wp2_with (first | ((with_reducible refine gate_callee (f := 30) rfl ?_); refine goesL_ (some 34) rfl rfl Tryd.func30 (by kernel_rfl) rfl #[.agg #[.int .u8 t116, .int .u8 t117, .int .u8 t118, .int .u8 t119, .int .u8 t120, .string t121, .string t122, .string t123, .string t124, .string t125, .string t126, .string t127, .string t128, .string t129, .string t130], .string x7_13] rfl (by (try simp only [List.map_toArray, List.map_cons, List.map_nil]); first | done | rfl | (simp only [List.length_drop, List.length_take]; rfl)) ?_; (with_reducible refine (ack_Build.calls kj13 t116 t117 t118 t119 t120 t121 t122 t123 t124 t125 t126 t127 t128 t129 t130 x7_13 t135 t138 _ ?side1 A16.out).mono ?_); (case side1 => exact GlobA.below HG.out (by repeat (first | (with_reducible first | exact HB.out | apply below_alloc | apply pw_below_drewN | apply below_drew1 | refine below_set ?_ GE133.out) | exact HB.out))); rintro e w24 ⟨v136, rfl, ho0, hb⟩; refine ⟨_, rfl, ?_⟩; have n0_ := Aside0.mk (Kd.R_lower ho0 (below_size (by repeat (first | (with_reducible first | exact HB.out | apply below_alloc | apply pw_below_drewN | apply below_drew1 | refine below_set ?_ GE133.out) | exact HB.out)))); have n1_ := Aside0.mk (blk_below (g := gb133) (o := .cells #[.int .u8 t116, .int .u8 t117, .int .u8 t118, .int .u8 t119, .int .u8 t120, .string t121, .string t122, .string t123, .string t124, .string t125, .string t126, .string t127, .string t128, .string t129, .string t130] 25 (0, 0)) (by (with_reducible repeat (first | refine blk_drewN ?_ _ | refine blk_drew ?_ | refine blk_alloc ?_ _)); exact BK133.out) hb); have n2_ := Aside0.mk (below_step (by repeat (first | (with_reducible first | exact HB.out | apply below_alloc | apply pw_below_drewN | apply below_drew1 | refine below_set ?_ GE133.out) | exact HB.out)) hb); clear BK133; clear HB; have HO137 := n0_; have BK133 := n1_; have HB := n2_; clear n0_ n1_ n2_; (try clear hb); (try clear hb2); (try clear hk); (try clear hi); (try clear ho0)))
                  go_ret2
                  exact ⟨_, by first | rfl | (simp [errW_none, errW_some] <;> rfl) | (simp [*, errW_none, errW_some] <;> rfl), by first | exact Kd.R_nil _ _ _ _ _ | exact Kd.N_nil _ _ _ _ _ | exact Kd.V_nil _ _ _ _ _ | exact Kd.Q_nil _ _ _ _ _ | exact Kd.S_nil _ _ _ _ _, by repeat (first | (with_reducible first | exact HB.out | apply below_alloc | apply pw_below_drewN | apply below_drew1 | refine below_set ?_ GE133.out) | exact HB.out)⟩

end Go.Proofs.YtciagecaegoppaaDoor.QReply
end
section
namespace Go.Proofs.YtciagecaegoppaaDoor
set_option linter.unusedVariables false
set_option linter.unusedSimpArgs false
set_option maxRecDepth 100000
open Go.RowKit Go.Proofs.YtciagecaegoppaaDoorW.PrintWords Go.Proofs.YtciagecaegoppaaDoorW.PrintLast Go.Proofs.YtciagecaegoppaaDoorW.PrintMore

def msgA : List Int := [77, 83, 72, 124, 94, 126, 92, 38, 124, 124, 124, 124, 124, 124, 124, 65, 68, 84, 124, 55, 124, 80, 124, 50, 46, 53]
def msgB : List Int := [77, 83, 72, 124, 94, 126, 92, 38, 124, 124, 124, 124, 124, 124, 124, 65, 68, 84, 124, 55, 124, 80, 124, 57]
def ansA : List Int := [11, 77, 83, 72, 124, 94, 126, 92, 38, 124, 124, 124, 124, 124, 124, 124, 65, 67, 75, 124, 55, 124, 80, 124, 50, 46, 53, 13, 77, 83, 65, 124, 65, 69, 124, 55, 13, 28, 13]
theorem verdict_A : accept_Verdict.f msgA = some (124, 94, 126, 92, 38, ⟨#[]⟩, ⟨#[]⟩, ⟨#[]⟩, ⟨#[]⟩, ⟨#[]⟩, ⟨#[]⟩, ⟨#[65, 68, 84]⟩, ⟨#[55]⟩, ⟨#[80]⟩, ⟨#[50, 46, 53]⟩, ⟨#[65, 65]⟩, 0) := by kernel_rfl
theorem verdict_B : accept_Verdict.f msgB = some (124, 94, 126, 92, 38, ⟨#[]⟩, ⟨#[]⟩, ⟨#[]⟩, ⟨#[]⟩, ⟨#[]⟩, ⟨#[]⟩, ⟨#[65, 68, 84]⟩, ⟨#[55]⟩, ⟨#[80]⟩, ⟨#[57]⟩, ⟨#[65, 82]⟩, 12) := by kernel_rfl
theorem reply_A : QReply.accept_Reply.f 20 msgA false = some (ansA, true) := by kernel_rfl

theorem const_cells (w : World) (cs : Array Value) (xs : List Int) (c : Nat × Nat) (hl : xs.length ≤ 9223372036854775807) (h : cs.toList = xs.map (Value.int .u8)) : Kd.C (Kd.int .u8) (w.alloc (.cells cs 5 c)) (some ⟨w.heap.size, 0, none⟩) xs.length xs := by
  refine Kd.C_of_reads (d := (0 : Int)) (enc := Value.int .u8) (h1 := fun _ => rfl) ⟨rfl, hl, fun hp => ⟨_, rfl, fun j hj => ?_⟩⟩
  rw [add_plain, World.cell?_alloc_mark, ← Array.getElem?_toList, h, List.getElem?_map, List.getElem?_eq_getElem hj, List.getD_eq_getElem?_getD, List.getElem?_eq_getElem hj]
  rfl
def law_alive.f : Option Bool := some true
theorem verdict_callA (b : Nat) (W : World) (hG : GlobA W) (h : Kd.C (Kd.int .u8) W (some ⟨b, 0, none⟩) 26 msgA) : Calls Tryd.prog 10 #[.slice (some ⟨b, 0, none⟩) 26 26] W fun e w' => e = .returned (.tuple #[.agg #[.int .u8 124, .int .u8 94, .int .u8 126, .int .u8 92, .int .u8 38, .string ⟨#[]⟩, .string ⟨#[]⟩, .string ⟨#[]⟩, .string ⟨#[]⟩, .string ⟨#[]⟩, .string ⟨#[]⟩, .string ⟨#[65, 68, 84]⟩, .string ⟨#[55]⟩, .string ⟨#[80]⟩, .string ⟨#[50, 46, 53]⟩], .string ⟨#[65, 65]⟩, .int .i64 0]) ∧ Below W.heap.size W w' :=
  accept_Verdict.calls (some ⟨b, 0, none⟩) 26 msgA 124 94 126 92 38 ⟨#[]⟩ ⟨#[]⟩ ⟨#[]⟩ ⟨#[]⟩ ⟨#[]⟩ ⟨#[]⟩ ⟨#[65, 68, 84]⟩ ⟨#[55]⟩ ⟨#[80]⟩ ⟨#[50, 46, 53]⟩ ⟨#[65, 65]⟩ 0 W hG h (by decide) verdict_A
theorem verdict_callB (b : Nat) (W : World) (hG : GlobA W) (h : Kd.C (Kd.int .u8) W (some ⟨b, 0, none⟩) 24 msgB) : Calls Tryd.prog 10 #[.slice (some ⟨b, 0, none⟩) 24 24] W fun e w' => e = .returned (.tuple #[.agg #[.int .u8 124, .int .u8 94, .int .u8 126, .int .u8 92, .int .u8 38, .string ⟨#[]⟩, .string ⟨#[]⟩, .string ⟨#[]⟩, .string ⟨#[]⟩, .string ⟨#[]⟩, .string ⟨#[]⟩, .string ⟨#[65, 68, 84]⟩, .string ⟨#[55]⟩, .string ⟨#[80]⟩, .string ⟨#[57]⟩], .string ⟨#[65, 82]⟩, .int .i64 12]) ∧ Below W.heap.size W w' :=
  accept_Verdict.calls (some ⟨b, 0, none⟩) 24 msgB 124 94 126 92 38 ⟨#[]⟩ ⟨#[]⟩ ⟨#[]⟩ ⟨#[]⟩ ⟨#[]⟩ ⟨#[]⟩ ⟨#[65, 68, 84]⟩ ⟨#[55]⟩ ⟨#[80]⟩ ⟨#[57]⟩ ⟨#[65, 82]⟩ 12 W hG h (by decide) verdict_B
theorem reply_callA (b : Nat) (W : World) (hG : GlobA W) (h : Kd.C (Kd.int .u8) W (some ⟨b, 0, none⟩) 26 msgA) : Calls Tryd.prog 12 #[.slice (some ⟨b, 0, none⟩) 26 26, .bool false] W fun e w' => ∃ v0 : Value, e = .returned (.tuple #[v0, .bool true]) ∧ Kd.R (Kd.int .u8) 5 w' W.heap.size (fun _ => True) v0 ansA ∧ Below W.heap.size W w' :=
  QReply.accept_Reply.calls 20 (some ⟨b, 0, none⟩) 26 msgA false ansA true W hG h (by decide) reply_A
set_option maxHeartbeats 2000000 in
theorem law_alive.calls (r : Bool) (w : World) (hG : GlobA w) (h : law_alive.f = some r) :
    Calls Tryd.prog 9 #[] w fun e w' => e = .returned (.bool r) ∧ Below w.heap.size w w' := by
  obtain rfl := Option.some.inj h
  have HG := Aside0.mk hG
  have HA := Aside0.mk (const_cells w #[.int .u8 77, .int .u8 83, .int .u8 72, .int .u8 124, .int .u8 94, .int .u8 126, .int .u8 92, .int .u8 38, .int .u8 124, .int .u8 124, .int .u8 124, .int .u8 124, .int .u8 124, .int .u8 124, .int .u8 124, .int .u8 65, .int .u8 68, .int .u8 84, .int .u8 124, .int .u8 55, .int .u8 124, .int .u8 80, .int .u8 124, .int .u8 50, .int .u8 46, .int .u8 53] msgA (26, 27) (by decide) rfl)
  have hc1 := Lib.run_convert_bytes_const (P := Tryd.prog) w 26 5 #[.int .u8 77, .int .u8 83, .int .u8 72, .int .u8 124, .int .u8 94, .int .u8 126, .int .u8 92, .int .u8 38, .int .u8 124, .int .u8 124, .int .u8 124, .int .u8 124, .int .u8 124, .int .u8 124, .int .u8 124, .int .u8 65, .int .u8 68, .int .u8 84, .int .u8 124, .int .u8 55, .int .u8 124, .int .u8 80, .int .u8 124, .int .u8 50, .int .u8 46, .int .u8 53] 26 26 Tryd.underlying26 Tryd.underlying5
  have heq : ((strOfNums ansA).toList == ([11, 77, 83, 72, 124, 94, 126, 92, 38, 124, 124, 124, 124, 124, 124, 124, 65, 67, 75, 124, 55, 124, 80, 124, 50, 46, 53, 13, 77, 83, 65, 124, 65, 69, 124, 55, 13, 28, 13] : List UInt8)) = true := by kernel_rfl
  clear hG h
  go_enter Tryd.func9, Tryd.ntmps9
  go_wp2_with (first
    | (go_at_call 10; refine (verdict_callB (w2.heap.size + 1) _ ?g2 ?r2).mono ?_; (case g2 => exact HG.out.below (below_alloc (below_alloc HB2.out _) _)); (case r2 => (have h := const_cells (w2.alloc (.cells #[.int .u8 124, .int .u8 94, .int .u8 126, .int .u8 92, .int .u8 38, .string ⟨#[]⟩, .string ⟨#[]⟩, .string ⟨#[]⟩, .string ⟨#[]⟩, .string ⟨#[]⟩, .string ⟨#[]⟩, .string ⟨#[65, 68, 84]⟩, .string ⟨#[55]⟩, .string ⟨#[80]⟩, .string ⟨#[50, 46, 53]⟩] 25)) #[.int .u8 77, .int .u8 83, .int .u8 72, .int .u8 124, .int .u8 94, .int .u8 126, .int .u8 92, .int .u8 38, .int .u8 124, .int .u8 124, .int .u8 124, .int .u8 124, .int .u8 124, .int .u8 124, .int .u8 124, .int .u8 65, .int .u8 68, .int .u8 84, .int .u8 124, .int .u8 55, .int .u8 124, .int .u8 80, .int .u8 124, .int .u8 57] msgB (24, 25) (by decide) rfl; rw [World.size_alloc] at h; exact h)); rintro e w4 ⟨rfl, hb4⟩; have HB4 := Aside0.mk (below_step (below_alloc (below_alloc HB2.out _) _) hb4); have HA4 := Aside0.mk (Kd.C_below (Kd.C_below HA2.out (below_alloc (below_alloc (Below.refl _ _) _) _)) hb4); clear hb4 hc2)
    | (go_at_call 10; refine (verdict_callA w.heap.size _ ?g1 ?r1).mono ?_; (case g1 => exact HG.out.below (below_alloc (Below.refl _ _) _)); (case r1 => exact HA.out); rintro e w2 ⟨rfl, hb2⟩; have HB2 := Aside0.mk (below_step (below_alloc (Below.refl _ _) _) hb2); have HA2 := Aside0.mk (Kd.C_below HA.out hb2); have hc2 := Lib.run_convert_bytes_const (P := Tryd.prog) (w2.alloc (.cells #[.int .u8 124, .int .u8 94, .int .u8 126, .int .u8 92, .int .u8 38, .string ⟨#[]⟩, .string ⟨#[]⟩, .string ⟨#[]⟩, .string ⟨#[]⟩, .string ⟨#[]⟩, .string ⟨#[]⟩, .string ⟨#[65, 68, 84]⟩, .string ⟨#[55]⟩, .string ⟨#[80]⟩, .string ⟨#[50, 46, 53]⟩] 25)) 26 5 #[.int .u8 77, .int .u8 83, .int .u8 72, .int .u8 124, .int .u8 94, .int .u8 126, .int .u8 92, .int .u8 38, .int .u8 124, .int .u8 124, .int .u8 124, .int .u8 124, .int .u8 124, .int .u8 124, .int .u8 124, .int .u8 65, .int .u8 68, .int .u8 84, .int .u8 124, .int .u8 55, .int .u8 124, .int .u8 80, .int .u8 124, .int .u8 57] 24 24 Tryd.underlying26 Tryd.underlying5; rw [World.size_alloc] at hc2; clear hb2 hc1)
    | (go_at_call 12; refine (reply_callA w.heap.size _ ?g3 ?r3).mono ?_; (case g3 => exact HG.out.below (below_alloc HB4.out _)); (case r3 => exact Kd.C_below HA4.out (below_alloc (Below.refl _ _) _)); rintro e w6 ⟨v0, rfl, hR, hb6⟩; have HB6 := Aside0.mk (below_step (below_alloc HB4.out _) hb6); have hcv := own_string (P := Tryd.prog) Tryd.underlying26 Tryd.underlying5 Tryd.underlying9 (Kd.own_of_R hR); clear hb6 hR))
  go_ret
  exact ⟨rfl, HB6.out⟩
end Go.Proofs.YtciagecaegoppaaDoor
end
section
namespace Go.Proofs.YtciagecaegoppaaDoor
set_option linter.unusedVariables false
set_option linter.unusedSimpArgs false
open Go.RowKit Go.Proofs.YtciagecaegoppaaDoorW.PrintWords Go.Proofs.YtciagecaegoppaaDoorW.PrintLast Go.Proofs.YtciagecaegoppaaDoorW.PrintMore

theorem size_strOf (l : List UInt8) : (strOf l).size = l.length := by simp [strOf, ByteArray.size]
theorem pieces_pos (c : UInt8) (l : List UInt8) : 0 < (pieces c l).length := by
  rw [(cut_pieces c l).1]
  simp
theorem pieces_one (c : UInt8) (l : List UInt8) (h : (pieces c l).length = 1) : pieces c l = [l] := by
  induction l with
  | nil => rfl
  | cons b r ih =>
    rw [pieces] at h ⊢
    have hp := pieces_pos c r
    by_cases hb : b = c
    · rw [if_pos hb] at h
      simp at h
      rw [h] at hp
      simp at hp
    · rw [if_neg hb] at h ⊢
      cases hq : pieces c r with
      | nil => rw [hq] at hp; simp at hp
      | cons q qs =>
        rw [hq] at h ih
        simp at h
        subst h
        have := ih rfl
        simp at this
        subst this
        rfl
theorem nth_tot (s : ByteArray) (c n : Int) (h : s.size < 4294967281) : segment_nth.f s c n = some (foundIn n (piecesS c s), ((piecesS c s).length : Int)) := if_pos h
theorem splitS_pos (l : List Int) (hl : 0 < l.length) : 0 < (splitS l).length := by
  unfold splitS
  have hp := pieces_pos (13 : Int).toNat.toUInt8 (strOfNums l).data.toList
  have hlen : (piecesS 13 (strOfNums l)).length = (pieces (13 : Int).toNat.toUInt8 (strOfNums l).data.toList).length := by simp [piecesS]
  split
  · rename_i he
    rw [List.length_dropLast]
    rcases Nat.lt_or_ge 1 (piecesS 13 (strOfNums l)).length with h1 | h1
    · omega
    · exfalso
      have h2 := pieces_one _ _ (show (pieces (13 : Int).toNat.toUInt8 (strOfNums l).data.toList).length = 1 by omega)
      unfold piecesS at he
      rw [h2] at he
      simp [strOf, Lib.toList_data, strOfNums] at he
      subst he
      simp at hl
  · omega
end Go.Proofs.YtciagecaegoppaaDoor
end
section
namespace Go.Proofs.YtciagecaegoppaaDoor
set_option linter.unusedVariables false
set_option linter.unusedSimpArgs false
set_option maxRecDepth 20000
open Go.RowKit Go.Proofs.YtciagecaegoppaaDoorW.PrintWords Go.Proofs.YtciagecaegoppaaDoorW.PrintLast Go.Proofs.YtciagecaegoppaaDoorW.PrintMore

end Go.Proofs.YtciagecaegoppaaDoor
end
section
namespace Go.Proofs.YtciagecaegoppaaDoor
set_option linter.unusedVariables false
set_option linter.unusedSimpArgs false
set_option maxRecDepth 20000
open Go.RowKit Go.Proofs.YtciagecaegoppaaDoorW.PrintWords Go.Proofs.YtciagecaegoppaaDoorW.PrintLast Go.Proofs.YtciagecaegoppaaDoorW.PrintMore

/-- The numbers of bytes. -/
def numsB (l : List UInt8) : List Int := l.map fun b => (b.toNat : Int)
theorem bytes_numsB (l : List UInt8) : Lib.bytesOf (numsB l) = l := by
  unfold Lib.bytesOf numsB
  rw [List.map_map]
  conv => rhs; rw [← List.map_id l]
  apply List.map_congr_left
  intro b _
  simp
theorem str_numsB (l : List UInt8) : strOfNums (numsB l) = strOf l := by
  unfold strOf
  rw [← Lib.mk_data (strOfNums (numsB l)), ← Lib.toList_data, Lib.strOfNums_toList, bytes_numsB]
theorem Bytes_numsB (l : List UInt8) : Bytes (numsB l) := by
  intro x hx
  obtain ⟨b, _, rfl⟩ := List.mem_map.1 hx
  have := b.toNat_lt
  omega
/-- Texts, each with a sign ahead. -/
def cat (c : UInt8) : List (List UInt8) → List UInt8
  | [] => []
  | f :: fs => c :: (f ++ cat c fs)
theorem pieces_free (c : UInt8) (a : List UInt8) (h : c ∉ a) : pieces c a = [a] := by
  induction a with
  | nil => rfl
  | cons b r ih =>
    have hb : b ≠ c := fun e => h (e ▸ List.mem_cons_self)
    rw [pieces, if_neg hb, ih (fun hm => h (List.mem_cons_of_mem _ hm))]
theorem pieces_sep (c : UInt8) (a r : List UInt8) (h : c ∉ a) : pieces c (a ++ c :: r) = a :: pieces c r := by
  induction a with
  | nil => rw [List.nil_append, pieces, if_pos rfl]
  | cons b a ih =>
    have hb : b ≠ c := fun e => h (e ▸ List.mem_cons_self)
    rw [List.cons_append, pieces, if_neg hb, ih (fun hm => h (List.mem_cons_of_mem _ hm))]
theorem pieces_cat (c : UInt8) : ∀ (a : List UInt8) (fs : List (List UInt8)), c ∉ a → (∀ f ∈ fs, c ∉ f) → pieces c (a ++ cat c fs) = a :: fs
  | a, [], h, _ => by rw [cat, List.append_nil, pieces_free c a h]
  | a, f :: fs, h, hf => by
    rw [cat, pieces_sep c a _ h, pieces_cat c f fs (hf f List.mem_cons_self) (fun g hg => hf g (List.mem_cons_of_mem _ hg))]
theorem mem_cat {c x : UInt8} : ∀ {fs : List (List UInt8)}, x ∈ cat c fs → x = c ∨ ∃ f ∈ fs, x ∈ f
  | [], h => by simp [cat] at h
  | f :: fs, h => by
    rw [cat] at h
    rcases List.mem_cons.1 h with rfl | h
    · exact .inl rfl
    · rcases List.mem_append.1 h with h | h
      · exact .inr ⟨f, List.mem_cons_self, h⟩
      · rcases mem_cat h with h | ⟨g, hg, hx⟩
        · exact .inl h
        · exact .inr ⟨g, List.mem_cons_of_mem _ hg, hx⟩

section
variable (F o1 o2 o3 o4 : UInt8) (fs : List (List UInt8)) (R : List UInt8)
def headB : List UInt8 := 77 :: 83 :: 72 :: F :: o1 :: o2 :: o3 :: o4 :: cat F fs
def osB : List UInt8 := [o1, o2, o3, o4]

theorem first_seg (h13 : (13 : UInt8) ∉ headB F o1 o2 o3 o4 fs) (hR : R = [] ∨ ∃ R', R = 13 :: R') : rdOf ByteArray.empty (splitS (numsB (headB F o1 o2 o3 o4 fs ++ R))) 0 = strOf (headB F o1 o2 o3 o4 fs) := by
  have hc : (13 : Int).toNat.toUInt8 = (13 : UInt8) := rfl
  have hd : (strOf (headB F o1 o2 o3 o4 fs ++ R)).data.toList = headB F o1 o2 o3 o4 fs ++ R := by simp [strOf]
  unfold rdOf splitS piecesS
  rw [str_numsB, hd, hc]
  rcases hR with rfl | ⟨R', rfl⟩
  · rw [List.append_nil, pieces_free _ _ h13, if_neg (by simp [strOf, headB, Lib.toList_data])]
    rfl
  · rw [pieces_sep _ _ _ h13]
    have hp := pieces_pos 13 R'
    split
    · cases hq : pieces 13 R' with
      | nil => rw [hq] at hp; simp at hp
      | cons q qs => simp [List.dropLast]
    · rfl

theorem name_head : QField.segment_Name.f (strOf (headB F o1 o2 o3 o4 fs)) = some ⟨#[77, 83, 72]⟩ := by
  have hs : (strOf (headB F o1 o2 o3 o4 fs)).size = (headB F o1 o2 o3 o4 fs).length := size_strOf _
  have hl : 8 ≤ (headB F o1 o2 o3 o4 fs).length := by simp [headB]
  have hm : mn ((strOf (headB F o1 o2 o3 o4 fs)).size : Int) 3 = 3 := by unfold mn; rw [if_pos (by omega)]
  unfold QField.segment_Name.f
  rw [hm, if_pos (by omega), if_pos (by omega)]
  rfl

theorem field_head (k : Int) (hk : 2 ≤ k ∧ k < 1000) (hF : ∀ f ∈ fs, F ∉ f) (hO : F ∉ osB o1 o2 o3 o4) (hsz : (headB F o1 o2 o3 o4 fs).length < 4294967281) (d1 d2 d3 d4 : Int) :
    ∃ b, QField.segment_Field.f (strOf (headB F o1 o2 o3 o4 fs)) k (F.toNat : Int) d1 d2 d3 d4 = some (foundIn (k - 1) ((osB o1 o2 o3 o4 :: fs).map strOf), b) := by
  have hsF : strOfNums [((F.toNat : Nat) : Int)] = strOf [F] := str_numsB [F]
  have hpre : QField.strings_CutPrefix.f (strOf (headB F o1 o2 o3 o4 fs)) ((⟨#[77, 83, 72]⟩ : ByteArray) ++ strOf [F]) = some (strOf (osB o1 o2 o3 o4 ++ cat F fs), true) := by
    have hp4 : ((⟨#[77, 83, 72]⟩ : ByteArray) ++ strOf [F]).size = 4 := by rw [ByteArray.size_append]; rfl
    have hpd : ((⟨#[77, 83, 72]⟩ : ByteArray) ++ strOf [F]).toList = [77, 83, 72, F] := by
      rw [Lib.toList_data, ByteArray.data_append]
      simp [strOf]
    have hs : (strOf (headB F o1 o2 o3 o4 fs)).size = (headB F o1 o2 o3 o4 fs).length := size_strOf _
    have hl : 8 ≤ (headB F o1 o2 o3 o4 fs).length := by simp [headB]
    unfold QField.strings_CutPrefix.f QField.stringslite_CutPrefix.f QField.stringslite_HasPrefix.f
    rw [hp4, if_pos (by omega), if_pos (by omega), if_pos (by omega)]
    have hex : ((strOf (headB F o1 o2 o3 o4 fs)).extract 0 ((4 : Nat) : Int).toNat).toList = [77, 83, 72, F] := by
      rw [Lib.toList_data, Lib.extract_data]
      simp [strOf, headB]
    rw [hex, hpd]
    simp only [Option.bind_some]
    rw [if_pos (by simp), if_pos (by omega), if_pos (by omega)]
    simp only [Option.bind_some]
    congr 2
    apply WideShapes.bytes_inj
    rw [Lib.extract_data, hs]
    have e : (strOf (headB F o1 o2 o3 o4 fs)).data.toList = headB F o1 o2 o3 o4 fs := by simp [strOf]
    rw [e]
    simp [headB, osB, strOf]
  unfold QField.segment_Field.f QField.segment_field.f
  rw [if_neg (by omega), name_head]
  simp only [Option.bind_some]
  rw [if_pos (by rw [Lib.toList_data]), hsF, if_pos (by rw [size_strOf]; simp), hpre]
  simp only [Option.bind_some]
  rw [if_pos trivial]
  have hw : wrap64 (k - 1) = k - 1 := by unfold wrap64; omega
  have hn := nth_tot (strOf (osB o1 o2 o3 o4 ++ cat F fs)) ((F.toNat : Nat) : Int) (k - 1) (by rw [size_strOf]; simp [headB, osB] at hsz ⊢; omega)
  rw [hw, hn]
  simp only [Option.bind_some]
  rw [if_neg (by omega)]
  have hpc : piecesS ((F.toNat : Nat) : Int) (strOf (osB o1 o2 o3 o4 ++ cat F fs)) = (osB o1 o2 o3 o4 :: fs).map strOf := by
    unfold piecesS
    have e : (strOf (osB o1 o2 o3 o4 ++ cat F fs)).data.toList = osB o1 o2 o3 o4 ++ cat F fs := by simp [strOf]
    have ec : ((F.toNat : Nat) : Int).toNat.toUInt8 = F := by simp
    rw [e, ec, pieces_cat F _ fs hO hF]
  rw [hpc]
  exact ⟨_, rfl⟩

theorem found_field (i : Nat) : foundIn (((3 + i : Nat) : Int) - 1) ((osB o1 o2 o3 o4 :: fs).map strOf) = strOf (fs.getD i []) := by
  unfold foundIn
  rw [show (((3 + i : Nat) : Int) - 1 - 1).toNat = i + 1 by omega]
  by_cases h : i < fs.length
  · rw [if_pos (by simp; omega)]
    simp [List.getD, h]
  · rw [if_neg (by simp; omega)]
    rw [List.getD_eq_getElem?_getD, List.getElem?_eq_none (by omega)]
    rfl

/-- What is written out is read back. -/
theorem parse (hF : ∀ f ∈ fs, F ∉ f) (hO : F ∉ osB o1 o2 o3 o4) (h13 : (13 : UInt8) ∉ headB F o1 o2 o3 o4 fs) (hR : R = [] ∨ ∃ R', R = 13 :: R') (hne : fs ≠ [] ∨ R ≠ [])
    (hr : QRight.delim_Right.f 10 (F.toNat : Int) (o1.toNat : Int) (o2.toNat : Int) (o3.toNat : Int) (o4.toNat : Int) = some true) (hsz : (headB F o1 o2 o3 o4 fs ++ R).length < 4294967281) :
    msh_Read.f (numsB (headB F o1 o2 o3 o4 fs ++ R)) = some ((F.toNat : Int), (o1.toNat : Int), (o2.toNat : Int), (o3.toNat : Int), (o4.toNat : Int), strOf (fs.getD 0 []), strOf (fs.getD 1 []), strOf (fs.getD 2 []), strOf (fs.getD 3 []), strOf (fs.getD 4 []), strOf (fs.getD 5 []), strOf (fs.getD 6 []), strOf (fs.getD 7 []), strOf (fs.getD 8 []), strOf (fs.getD 9 []), 0) := by
  have hlen : (numsB (headB F o1 o2 o3 o4 fs ++ R)).length = (headB F o1 o2 o3 o4 fs ++ R).length := by simp [numsB]
  have hszS : (headB F o1 o2 o3 o4 fs).length < 4294967281 := by simp at hsz ⊢; omega
  -- the byte behind the signs
  obtain ⟨z, zs, hz, hz8⟩ : ∃ z zs, cat F fs ++ R = z :: zs ∧ (z = F ∨ z = 13) := by
    cases fs with
    | cons f fs => exact ⟨F, _, rfl, .inl rfl⟩
    | nil =>
      rcases hR with rfl | ⟨R', rfl⟩
      · simp at hne
      · exact ⟨13, R', rfl, .inr rfl⟩
  have hdr : delim_Read.f (numsB (headB F o1 o2 o3 o4 fs ++ R)) = some ((F.toNat : Int), (o1.toNat : Int), (o2.toNat : Int), (o3.toNat : Int), (o4.toNat : Int), 0) := by
    have hsh : numsB (headB F o1 o2 o3 o4 fs ++ R) = 77 :: 83 :: 72 :: (F.toNat : Int) :: (o1.toNat : Int) :: (o2.toNat : Int) :: (o3.toNat : Int) :: (o4.toNat : Int) :: (z.toNat : Int) :: numsB zs := by
      have : headB F o1 o2 o3 o4 fs ++ R = 77 :: 83 :: 72 :: F :: o1 :: o2 :: o3 :: o4 :: (cat F fs ++ R) := rfl
      rw [this, hz]
      rfl
    rw [hsh]
    unfold delim_Read.f
    rw [if_neg (by simp), if_neg (by simp [Lib.bytesOf, Lib.hasPrefix, List.isPrefixOf])]
    simp only [List.getD_cons_succ, List.getD_cons_zero]
    rw [hr]
    simp only [Option.map_some]
    rw [if_neg]
    rintro (h | ⟨h1, h2⟩)
    · cases h
    · rcases hz8 with rfl | rfl
      · exact h1 rfl
      · exact h2 rfl
  unfold msh_Read.f
  rw [hdr]
  simp only [Option.bind_some]
  rw [if_neg (by simp), show segment_Split.f (numsB (headB F o1 o2 o3 o4 fs ++ R)) = some (splitS (numsB (headB F o1 o2 o3 o4 fs ++ R))) from if_pos (by rw [hlen]; exact hsz)]
  simp only [Option.bind_some]
  rw [if_pos (splitS_pos _ (by rw [hlen]; simp [headB])), first_seg F o1 o2 o3 o4 fs R h13 hR]
  obtain ⟨b2, h2⟩ := field_head F o1 o2 o3 o4 fs 2 (by omega) hF hO hszS (o1.toNat : Int) (o2.toNat : Int) (o3.toNat : Int) (o4.toNat : Int)
  rw [h2]
  simp only [Option.bind_some]
  have hoth : strOfNums [((o1.toNat : Nat) : Int), ((o2.toNat : Nat) : Int), ((o3.toNat : Nat) : Int), ((o4.toNat : Nat) : Int)] = strOf (osB o1 o2 o3 o4) := str_numsB [o1, o2, o3, o4]
  have hf2 : foundIn ((2 : Int) - 1) ((osB o1 o2 o3 o4 :: fs).map strOf) = strOf (osB o1 o2 o3 o4) := by
    unfold foundIn
    rw [if_pos (by simp; omega)]
    rfl
  rw [hoth, hf2, if_neg (by simp)]
  unfold msh_Read.rest
  have hfo : ∀ i : Nat, i < 10 → fieldOf (strOf (headB F o1 o2 o3 o4 fs)) (F.toNat : Int) (o1.toNat : Int) (o2.toNat : Int) (o3.toNat : Int) (o4.toNat : Int) ((3 + i : Nat) : Int) = some (strOf (fs.getD i [])) := fun i hi => by
    obtain ⟨b, hb⟩ := field_head F o1 o2 o3 o4 fs ((3 + i : Nat) : Int) (by omega) hF hO hszS (o1.toNat : Int) (o2.toNat : Int) (o3.toNat : Int) (o4.toNat : Int)
    unfold fieldOf
    rw [hb, found_field]
    rfl
  rw [show fieldOf (strOf (headB F o1 o2 o3 o4 fs)) (F.toNat : Int) (o1.toNat : Int) (o2.toNat : Int) (o3.toNat : Int) (o4.toNat : Int) 3 = _ from hfo 0 (by decide), show fieldOf (strOf (headB F o1 o2 o3 o4 fs)) (F.toNat : Int) (o1.toNat : Int) (o2.toNat : Int) (o3.toNat : Int) (o4.toNat : Int) 4 = _ from hfo 1 (by decide), show fieldOf (strOf (headB F o1 o2 o3 o4 fs)) (F.toNat : Int) (o1.toNat : Int) (o2.toNat : Int) (o3.toNat : Int) (o4.toNat : Int) 5 = _ from hfo 2 (by decide), show fieldOf (strOf (headB F o1 o2 o3 o4 fs)) (F.toNat : Int) (o1.toNat : Int) (o2.toNat : Int) (o3.toNat : Int) (o4.toNat : Int) 6 = _ from hfo 3 (by decide), show fieldOf (strOf (headB F o1 o2 o3 o4 fs)) (F.toNat : Int) (o1.toNat : Int) (o2.toNat : Int) (o3.toNat : Int) (o4.toNat : Int) 7 = _ from hfo 4 (by decide), show fieldOf (strOf (headB F o1 o2 o3 o4 fs)) (F.toNat : Int) (o1.toNat : Int) (o2.toNat : Int) (o3.toNat : Int) (o4.toNat : Int) 8 = _ from hfo 5 (by decide), show fieldOf (strOf (headB F o1 o2 o3 o4 fs)) (F.toNat : Int) (o1.toNat : Int) (o2.toNat : Int) (o3.toNat : Int) (o4.toNat : Int) 9 = _ from hfo 6 (by decide), show fieldOf (strOf (headB F o1 o2 o3 o4 fs)) (F.toNat : Int) (o1.toNat : Int) (o2.toNat : Int) (o3.toNat : Int) (o4.toNat : Int) 10 = _ from hfo 7 (by decide), show fieldOf (strOf (headB F o1 o2 o3 o4 fs)) (F.toNat : Int) (o1.toNat : Int) (o2.toNat : Int) (o3.toNat : Int) (o4.toNat : Int) 11 = _ from hfo 8 (by decide), show fieldOf (strOf (headB F o1 o2 o3 o4 fs)) (F.toNat : Int) (o1.toNat : Int) (o2.toNat : Int) (o3.toNat : Int) (o4.toNat : Int) 12 = _ from hfo 9 (by decide)]
  simp only [Option.bind_some]
end
end Go.Proofs.YtciagecaegoppaaDoor
end
section
namespace Go.Proofs.YtciagecaegoppaaDoor
set_option linter.unusedVariables false
set_option linter.unusedSimpArgs false
set_option maxRecDepth 20000
open Go.RowKit Go.Proofs.YtciagecaegoppaaDoorW.PrintWords Go.Proofs.YtciagecaegoppaaDoorW.PrintLast Go.Proofs.YtciagecaegoppaaDoorW.PrintMore

theorem indexByte_mem : ∀ (l : List UInt8) (c : UInt8), 0 ≤ Lib.indexByte l c ↔ c ∈ l
  | [], c => by simp [Lib.indexByte]
  | b :: l, c => by
    have ih := indexByte_mem l c
    unfold Lib.indexByte
    by_cases hb : b = c
    · subst hb; simp
    · rw [if_neg (by simpa using hb)]
      split
      · rename_i h1
        have h1 : Lib.indexByte l c = -1 := by simpa using h1
        rw [h1] at ih
        simp only [List.mem_cons]
        constructor
        · intro h; omega
        · rintro (h | h)
          · exact absurd h.symm hb
          · exact absurd (ih.2 h) (by omega)
      · rename_i h1
        have := Lib.indexByte_ge l c
        have h1 : Lib.indexByte l c ≠ -1 := by simpa using h1
        have hm := ih.1 (by omega)
        simp only [List.mem_cons]
        exact ⟨fun _ => .inr hm, fun _ => by omega⟩
theorem strOf_toList (s : ByteArray) : strOf s.data.toList = s := by unfold strOf; exact Lib.mk_data s

end Go.Proofs.YtciagecaegoppaaDoor
end
section
namespace Go.Proofs.YtciagecaegoppaaDoor
set_option linter.unusedVariables false
set_option linter.unusedSimpArgs false
set_option maxRecDepth 20000
open Go.RowKit Go.Proofs.YtciagecaegoppaaDoorW.PrintWords Go.Proofs.YtciagecaegoppaaDoorW.PrintLast Go.Proofs.YtciagecaegoppaaDoorW.PrintMore

theorem indexByte_cut (a r : List UInt8) (c : UInt8) (h : c ∉ a) : Lib.indexByte (a ++ c :: r) c = (a.length : Nat) := by
  induction a with
  | nil => simp [Lib.indexByte]
  | cons b a ih =>
    have hb : b ≠ c := fun e => h (e ▸ List.mem_cons_self)
    have ih := ih (fun hm => h (List.mem_cons_of_mem _ hm))
    rw [List.cons_append, Lib.indexByte, if_neg (by simpa using hb), ih, if_neg (by simp)]
    (try simp)
theorem numsB_take (a : List UInt8) (n : Nat) : (numsB a).take n = numsB (a.take n) := by unfold numsB; rw [List.map_take]
theorem numsB_len (a : List UInt8) : (numsB a).length = a.length := by unfold numsB; rw [List.length_map]
theorem firstSeg_numsB (a r : List UInt8) (h : (13 : UInt8) ∉ a) : firstSeg (numsB (a ++ 13 :: r)) = numsB a := by
  have e : Lib.bytesOf [13] = [(13 : UInt8)] := rfl
  unfold firstSeg
  rw [bytes_numsB, e, Lib.index_one, indexByte_cut a r 13 h, if_pos (by omega), Int.toNat_natCast, numsB_take, List.take_left]

end Go.Proofs.YtciagecaegoppaaDoor
end
section
namespace Go.Proofs.YtciagecaegoppaaDoor.QStored
open Go.RowKit Go.Proofs.YtciagecaegoppaaDoorW.PrintWords Go.Proofs.YtciagecaegoppaaDoorW.PrintLast Go.Proofs.YtciagecaegoppaaDoorW.PrintMore
attribute [local go_sem] max2_int min2_int max_two min_two max_three min_three max_four min_four   -- for this text's walks alone
set_option linter.unusedVariables false
set_option linter.unusedSimpArgs false

def errW : Option Int → Value
  | none => .nilIface
  | some c => .iface 0 (.int .i64 c)
theorem errW_none : errW none = .nilIface := rfl
theorem errW_some (c : Int) : errW (some c) = .iface 0 (.int .i64 c) := rfl

-- the values' own types
end Go.Proofs.YtciagecaegoppaaDoor.QStored
end
section
namespace Go.Proofs.YtciagecaegoppaaDoor.QStored
open Go.RowKit Go.Proofs.YtciagecaegoppaaDoorW.PrintWords Go.Proofs.YtciagecaegoppaaDoorW.PrintLast Go.Proofs.YtciagecaegoppaaDoorW.PrintMore
attribute [local go_sem] max2_int min2_int max_two min_two max_three min_three max_four min_four   -- for this text's walks alone
set_option linter.unusedVariables false
set_option linter.unusedSimpArgs false

def accept_Stored.f (l0 : List Int) : Option (Bool) := (accept_Verdict.f l0).bind fun bt101 => (some (bt101.2.2.2.2.2.2.2.2.2.2.2.2.2.2.2.1.toList == ([65, 65] : List UInt8)))
set_option maxHeartbeats 8000000 in
set_option maxRecDepth 100000 in
theorem accept_Stored.calls (A0 : Option Addr) (c0 : Nat) (l0 : List Int) (r : Bool) (w : World) (hG : GlobA w) (hr0 : Kd.C (Kd.int .u8) w A0 l0.length l0) (hc0 : l0.length ≤ c0) (h : accept_Stored.f l0 = some r) :
    Calls Tryd.prog 13 #[.slice A0 l0.length c0] w fun e w' => e = .returned (.bool r) ∧ Below w.heap.size w w' := by
  have hu25 := Tryd.underlying25
  have HR0 := Aside0.mk hr0
  have HC0 := Aside0.mk hc0
  clear hr0 hc0
  have HG := Aside0.mk hG
  clear hG
  have HB := Aside0.mk (Below.refl w.heap.size w)
  have H : ((accept_Verdict.f l0).bind fun bt101 => (some (bt101.2.2.2.2.2.2.2.2.2.2.2.2.2.2.2.1.toList == ([65, 65] : List UInt8)))) = some r := h
  clear h
  replace H := Option.bind_eq_some_iff.mp H
  obtain ⟨⟨t101, t102, t103, t104, t105, t106, t107, t108, t109, t110, t111, t112, t113, t114, t115, t116, t117⟩, A20, H⟩ := H
  replace H : (some (t116.toList == ([65, 65] : List UInt8))) = some r := H
  have A2 := Aside0.mk A20
  clear A20
  obtain rfl := Option.some.inj H
  go_enter Tryd.func13, Tryd.ntmps13
  go_wp2_with (first | ((with_reducible refine gate_callee (f := 10) rfl ?_); refine goesL_ (some 8) rfl rfl Tryd.func10 (by kernel_rfl) rfl #[.slice A0 l0.length c0] rfl (by (try simp only [List.map_toArray, List.map_cons, List.map_nil]); first | done | rfl | (simp only [List.length_drop, List.length_take]; rfl)) ?_; (with_reducible refine (accept_Verdict.calls _ _ l0 t101 t102 t103 t104 t105 t106 t107 t108 t109 t110 t111 t112 t113 t114 t115 t116 t117 _ ?side3 ?side1 ?side2 A2.out).mono ?_); (case side1 => repeat (first | exact HR0.out | (with_reducible refine Kd.C_alloc ?_ _) | (with_reducible refine Kd.C_drewN ?_ _) | (with_reducible refine Kd.C_drew ?_))); (case side2 => exact HC0.out); (case side3 => exact GlobA.below HG.out (by repeat (first | (with_reducible first | exact HB.out | apply below_alloc | apply pw_below_drewN | apply below_drew1) | exact HB.out))); rintro e w3 ⟨rfl, hb⟩; refine ⟨_, rfl, ?_⟩; have n0_ := Aside0.mk (below_step (by repeat (first | (with_reducible first | exact HB.out | apply below_alloc | apply pw_below_drewN | apply below_drew1) | exact HB.out)) hb); clear HB; have HB := n0_; clear n0_; (try clear hb); (try clear hb2); (try clear hk); (try clear hi)) | ((with_reducible refine gate_dst (N := 3) rfl ?_); refine box_event ?hg (N := 3) ?hd (cs := #[.int .u8 0, .int .u8 0, .int .u8 0, .int .u8 0, .int .u8 0, .string (⟨#[]⟩ : ByteArray), .string (⟨#[]⟩ : ByteArray), .string (⟨#[]⟩ : ByteArray), .string (⟨#[]⟩ : ByteArray), .string (⟨#[]⟩ : ByteArray), .string (⟨#[]⟩ : ByteArray), .string (⟨#[]⟩ : ByteArray), .string (⟨#[]⟩ : ByteArray), .string (⟨#[]⟩ : ByteArray), .string (⟨#[]⟩ : ByteArray)]) (t := 25) ?hr ?_; (case hd => rfl); (case hg => rfl); (case hr => first | (go_simp; done) | (go_simp; rfl)); intro gb118 hg w4 hbox hb; have n0_ := Aside0.mk (below_step (by repeat (first | (with_reducible first | exact HB.out | apply below_alloc | apply pw_below_drewN | apply below_drew1) | exact HB.out)) hb); have n1_ := Aside0.mk (hbox); have n2_ := Aside0.mk ((by rw [hg]; exact (below_size (by repeat (first | (with_reducible first | exact HB.out | apply below_alloc | apply pw_below_drewN | apply below_drew1) | exact HB.out))) : w.heap.size ≤ gb118)); have n3_ := Aside0.mk ((by rw [hg]; exact (below_size (by repeat (first | (with_reducible first | exact HB.out | apply below_alloc | apply pw_below_drewN | apply below_drew1) | exact HB.out))) : w.heap.size ≤ gb118)); clear HB; have HB := n0_; have BK118 := n1_; have GW118 := n2_; have GE118 := n3_; clear n0_ n1_ n2_ n3_; clear hb hbox hg; have hcz5_0 : w4.cell? ⟨gb118, 0, none⟩ = some (.int .u8 0) := (blk_cell BK118.out 0).trans rfl; have hcz5_1 : w4.cell? ⟨gb118, 1, none⟩ = some (.int .u8 0) := (blk_cell BK118.out 1).trans rfl; have hcz5_2 : w4.cell? ⟨gb118, 2, none⟩ = some (.int .u8 0) := (blk_cell BK118.out 2).trans rfl; have hcz5_3 : w4.cell? ⟨gb118, 3, none⟩ = some (.int .u8 0) := (blk_cell BK118.out 3).trans rfl; have hcz5_4 : w4.cell? ⟨gb118, 4, none⟩ = some (.int .u8 0) := (blk_cell BK118.out 4).trans rfl; have hcz5_5 : w4.cell? ⟨gb118, 5, none⟩ = some (.string (⟨#[]⟩ : ByteArray)) := (blk_cell BK118.out 5).trans rfl; have hcz5_6 : w4.cell? ⟨gb118, 6, none⟩ = some (.string (⟨#[]⟩ : ByteArray)) := (blk_cell BK118.out 6).trans rfl; have hcz5_7 : w4.cell? ⟨gb118, 7, none⟩ = some (.string (⟨#[]⟩ : ByteArray)) := (blk_cell BK118.out 7).trans rfl; have hcz5_8 : w4.cell? ⟨gb118, 8, none⟩ = some (.string (⟨#[]⟩ : ByteArray)) := (blk_cell BK118.out 8).trans rfl; have hcz5_9 : w4.cell? ⟨gb118, 9, none⟩ = some (.string (⟨#[]⟩ : ByteArray)) := (blk_cell BK118.out 9).trans rfl; have hcz5_10 : w4.cell? ⟨gb118, 10, none⟩ = some (.string (⟨#[]⟩ : ByteArray)) := (blk_cell BK118.out 10).trans rfl; have hcz5_11 : w4.cell? ⟨gb118, 11, none⟩ = some (.string (⟨#[]⟩ : ByteArray)) := (blk_cell BK118.out 11).trans rfl; have hcz5_12 : w4.cell? ⟨gb118, 12, none⟩ = some (.string (⟨#[]⟩ : ByteArray)) := (blk_cell BK118.out 12).trans rfl; have hcz5_13 : w4.cell? ⟨gb118, 13, none⟩ = some (.string (⟨#[]⟩ : ByteArray)) := (blk_cell BK118.out 13).trans rfl; have hcz5_14 : w4.cell? ⟨gb118, 14, none⟩ = some (.string (⟨#[]⟩ : ByteArray)) := (blk_cell BK118.out 14).trans rfl; have hfz5_0 := blk_frozen BK118.out 0; have hfz5_1 := blk_frozen BK118.out 1; have hfz5_2 := blk_frozen BK118.out 2; have hfz5_3 := blk_frozen BK118.out 3; have hfz5_4 := blk_frozen BK118.out 4; have hfz5_5 := blk_frozen BK118.out 5; have hfz5_6 := blk_frozen BK118.out 6; have hfz5_7 := blk_frozen BK118.out 7; have hfz5_8 := blk_frozen BK118.out 8; have hfz5_9 := blk_frozen BK118.out 9; have hfz5_10 := blk_frozen BK118.out 10; have hfz5_11 := blk_frozen BK118.out 11; have hfz5_12 := blk_frozen BK118.out 12; have hfz5_13 := blk_frozen BK118.out 13; have hfz5_14 := blk_frozen BK118.out 14))
  go_ret
  exact ⟨by first | rfl | (simp [errW_none, errW_some] <;> rfl) | (simp [*, errW_none, errW_some] <;> rfl), by repeat (first | (with_reducible first | exact HB.out | apply below_alloc | apply pw_below_drewN | apply below_drew1 | refine below_set ?_ GE118.out) | exact HB.out)⟩

end Go.Proofs.YtciagecaegoppaaDoor.QStored
end
section
namespace Go.Proofs.YtciagecaegoppaaDoor
set_option linter.unusedVariables false
set_option linter.unusedSimpArgs false
set_option maxRecDepth 20000
open Go.RowKit Go.Proofs.YtciagecaegoppaaDoorW.PrintWords Go.Proofs.YtciagecaegoppaaDoorW.PrintLast Go.Proofs.YtciagecaegoppaaDoorW.PrintMore

theorem piecesS_free (c : Int) (s : ByteArray) (h : c.toNat.toUInt8 ∉ s.data.toList) : piecesS c s = [s] := by
  unfold piecesS
  rw [pieces_free _ _ h, List.map_singleton, strOf_toList]
theorem first_free (s : ByteArray) (hs : s.size < 4294967281) (h1 : (94 : UInt8) ∉ s.data.toList) (h2 : (126 : UInt8) ∉ s.data.toList) : Qfirst.msh_first.f s 124 94 126 92 38 = some s := by
  have e1 : piecesS 94 s = [s] := piecesS_free 94 s h1
  have e2 : piecesS 126 s = [s] := piecesS_free 126 s h2
  have ef : foundIn 1 [s] = s := rfl
  unfold Qfirst.msh_first.f Qfirst.segment_Part.f Qfirst.segment_again.f
  rw [nth_tot _ _ _ hs, e2, ef]
  simp only [Option.bind_some]
  rw [if_pos (by omega)]
  simp only [Option.bind_some]
  rw [if_pos (by simp), nth_tot _ _ _ hs, e1, ef]
  simp only [Option.bind_some]
  rw [if_pos (by omega)]
  rfl

/-- The fields of AcceptCodes' head. -/
def fsC (id p v : List UInt8) : List (List UInt8) := [[], [], [], [], [], [], [65, 68, 84], id, p, v]
/-- Bytes that may stand in AcceptCodes' version and processing id. -/
def okC (c : UInt8) : Bool := !(c == 124 || c == 13 || c == 28 || c == 11 || c == 94 || c == 126)
structure OkC (l : List UInt8) : Prop where
  len : l.length ≤ 100
  all : ∀ c ∈ l, okC c = true
theorem OkC.no {l : List UInt8} (h : OkC l) (c : UInt8) (hc : okC c = false) : c ∉ l := fun hm => by
  have := h.all c hm
  rw [hc] at this
  cases this
def idC (some : Bool) : List UInt8 := if some then [55] else []
theorem idC_ok (b : Bool) : OkC (idC b) := by
  cases b
  · exact ⟨by decide, fun c hc => by simp [idC] at hc⟩
  · exact ⟨by decide, fun c hc => by rw [List.mem_singleton.1 hc]; rfl⟩
def headCd (b : Bool) (p v : List UInt8) : List UInt8 := headB 124 94 126 92 38 (fsC (idC b) p v)
theorem headCd_len (b : Bool) (p v : List UInt8) (hp : OkC p) (hv : OkC v) : (headCd b p v).length ≤ 300 := by
  have h1 := hp.len
  have h2 := hv.len
  have h3 := (idC_ok b).len
  cases b <;> simp [headCd, headB, fsC, cat, idC] <;> omega
theorem fsC_mem (b : Bool) (p v : List UInt8) (hp : OkC p) (hv : OkC v) (c : UInt8) (hc : okC c = false) (h : c ≠ 65 ∧ c ≠ 68 ∧ c ≠ 84) : ∀ f ∈ fsC (idC b) p v, c ∉ f := by
  intro f hf
  simp only [fsC, List.mem_cons, List.not_mem_nil, or_false] at hf
  rcases hf with rfl | rfl | rfl | rfl | rfl | rfl | rfl | rfl | rfl | rfl
  all_goals first
    | exact (idC_ok b).no c hc
    | exact hp.no c hc
    | exact hv.no c hc
    | simp [h.1, h.2.1, h.2.2]
theorem headCd_free (b : Bool) (p v : List UInt8) (hp : OkC p) (hv : OkC v) (c : UInt8) (hc : okC c = false) (h : c ∉ [77, 83, 72, 124, 94, 126, 92, 38, 65, 68, 84]) : c ∉ headCd b p v := by
  simp only [List.mem_cons, List.not_mem_nil, or_false, not_or] at h
  obtain ⟨h0, h1, h2, h3, h4, h5, h6, h7, h8, h9, h10⟩ := h
  unfold headCd headB
  intro hm
  simp only [List.mem_cons] at hm
  rcases hm with h | h | h | h | h | h | h | h | hm
  · exact h0 h
  · exact h1 h
  · exact h2 h
  · exact h3 h
  · exact h4 h
  · exact h5 h
  · exact h6 h
  · exact h7 h
  · rcases mem_cat hm with h | ⟨f, hf, hx⟩
    · exact h3 h
    · exact fsC_mem b p v hp hv c hc ⟨h8, h9, h10⟩ f hf hx

/-- What is wrong with such a head. -/
def errC (some known right : Bool) : Int := if some then if known then if right then 0 else 13 else 12 else 14
theorem check_codes (b : Bool) (p v : List UInt8) (hp : OkC p) (hv : OkC v) :
    msh_Check.f 124 94 126 92 38 ⟨#[]⟩ ⟨#[]⟩ ⟨#[]⟩ ⟨#[]⟩ ⟨#[]⟩ ⟨#[]⟩ ⟨#[65, 68, 84]⟩ (strOf (idC b)) (strOf p) (strOf v) = some (errC b (Lib.containsS versionsL (strOf v)) (Lib.containsS processL (strOf p))) := by
  have hpl := hp.len
  have hvl := hv.len
  have ep : (strOf p).data.toList = p := by simp [strOf]
  have ev : (strOf v).data.toList = v := by simp [strOf]
  have fv := first_free (strOf v) (by rw [size_strOf]; omega) (by rw [ev]; exact hv.no _ rfl) (by rw [ev]; exact hv.no _ rfl)
  have fp := first_free (strOf p) (by rw [size_strOf]; omega) (by rw [ep]; exact hp.no _ rfl) (by rw [ep]; exact hp.no _ rfl)
  unfold msh_Check.f errC
  cases b
  · rw [if_pos (.inr (.inl (by rw [Lib.toList_data]; rfl)))]
    rfl
  · rw [if_neg (by
      rintro (h | h | h)
      · rw [Lib.toList_data] at h; exact absurd h (by decide)
      · rw [Lib.toList_data] at h; exact absurd h (by decide)
      · exact absurd h (by decide)), fv, fp]
    simp only [Option.bind_some]
    generalize Lib.containsS versionsL (strOf v) = k1
    generalize Lib.containsS processL (strOf p) = k2
    cases k1 <;> cases k2 <;> rfl
theorem verdict_codes (b : Bool) (p v : List UInt8) (hp : OkC p) (hv : OkC v) (e : Int) (he : e = errC b (Lib.containsS versionsL (strOf v)) (Lib.containsS processL (strOf p))) :
    accept_Verdict.f (numsB (headCd b p v ++ [13])) = some (124, 94, 126, 92, 38, ⟨#[]⟩, ⟨#[]⟩, ⟨#[]⟩, ⟨#[]⟩, ⟨#[]⟩, ⟨#[]⟩, ⟨#[65, 68, 84]⟩, strOf (idC b), strOf p, strOf v, codeOf e, e) := by
  have hl := headCd_len b p v hp hv
  have h13 : (13 : UInt8) ∉ headCd b p v := headCd_free b p v hp hv 13 rfl (by decide)
  have h28 : (28 : UInt8) ∉ headCd b p v := headCd_free b p v hp hv 28 rfl (by decide)
  have hsz : (headCd b p v ++ [13]).length < 4294967281 := by simp; omega
  have hpar : msh_Read.f (numsB (headCd b p v ++ [13])) = some (124, 94, 126, 92, 38, ⟨#[]⟩, ⟨#[]⟩, ⟨#[]⟩, ⟨#[]⟩, ⟨#[]⟩, ⟨#[]⟩, ⟨#[65, 68, 84]⟩, strOf (idC b), strOf p, strOf v, 0) :=
    parse 124 94 126 92 38 (fsC (idC b) p v) [13] (fsC_mem b p v hp hv 124 rfl (by decide)) (by decide) h13 (.inr ⟨[], rfl⟩) (.inr (by simp)) (by kernel_rfl) hsz
  have hck := check_codes b p v hp hv
  rw [← he] at hck
  unfold accept_Verdict.f
  rw [if_pos ⟨Bytes_numsB _, by rw [numsB_len]; exact hsz⟩, hpar]
  simp only [Option.bind_some]
  rw [if_neg (by simp), firstSeg_numsB _ _ h13, bytes_numsB, if_neg (fun h => h28 ((indexByte_mem _ _).1 h)), hck]
  rfl
theorem stored_codes (b : Bool) (p v : List UInt8) (hp : OkC p) (hv : OkC v) (e : Int) (he : e = errC b (Lib.containsS versionsL (strOf v)) (Lib.containsS processL (strOf p))) :
    QStored.accept_Stored.f (numsB (headCd b p v ++ [13])) = some ((codeOf e).toList == ([65, 65] : List UInt8)) := by
  unfold QStored.accept_Stored.f
  rw [verdict_codes b p v hp hv e he]
  rfl
theorem process_codes (p : ByteArray) : Lib.containsS processL p = (p.toList == ([80] : List UInt8) || p.toList == ([68] : List UInt8) || p.toList == ([84] : List UInt8)) := by
  have h : ∀ q : ByteArray, (p = q) ↔ p.toList = q.toList := fun q => ⟨fun e => by rw [e], fun e => by
    rw [Lib.toList_data, Lib.toList_data] at e
    exact WideShapes.bytes_inj e⟩
  rw [Bool.eq_iff_iff, Lib.containsS_iff]
  unfold processL
  simp only [Bool.or_eq_true, beq_iff_eq, List.mem_cons, List.not_mem_nil, or_false]
  have e1 : (⟨#[80]⟩ : ByteArray).toList = [80] := by rw [Lib.toList_data]
  have e2 : (⟨#[68]⟩ : ByteArray).toList = [68] := by rw [Lib.toList_data]
  have e3 : (⟨#[84]⟩ : ByteArray).toList = [84] := by rw [Lib.toList_data]
  rw [h, h, h, e1, e2, e3]
  constructor
  · rintro (h | h | h) <;> simp [h]
  · rintro ((h | h) | h) <;> simp [h]
end Go.Proofs.YtciagecaegoppaaDoor
end
section
namespace Go.Proofs.YtciagecaegoppaaDoor
set_option linter.unusedVariables false
set_option linter.unusedSimpArgs false
set_option maxRecDepth 20000
open Go.RowKit Go.Proofs.YtciagecaegoppaaDoorW.PrintWords Go.Proofs.YtciagecaegoppaaDoorW.PrintLast Go.Proofs.YtciagecaegoppaaDoorW.PrintMore

theorem conv_C (W : World) (s : ByteArray) (hs : s.size ≤ 9223372036854775807) : Kd.C (Kd.int .u8) (Lib.bytesWorld W 5 s) (some ⟨W.heap.size, 0, none⟩) s.size (bytesOf s) :=
  Kd.C_of_reads (d := (0 : Int)) (enc := Value.int .u8) (h1 := fun _ => rfl) (bytes_reads W 5 s hs)

end Go.Proofs.YtciagecaegoppaaDoor
end
section
namespace Go.Proofs.YtciagecaegoppaaDoor
set_option linter.unusedVariables false
set_option linter.unusedSimpArgs false
set_option maxRecDepth 100000
open Go.RowKit Go.Proofs.YtciagecaegoppaaDoorW.PrintWords Go.Proofs.YtciagecaegoppaaDoorW.PrintLast Go.Proofs.YtciagecaegoppaaDoorW.PrintMore

theorem msh_Versions.calls (w : World) (hG : GlobA w) :
    Calls Tryd.prog 14 #[] w fun e w' => ∃ v0 : Value, e = .returned v0 ∧ Kd.R Kd.string 9 w' w.heap.size (fun _ => True) v0 versionsL ∧ Below w.heap.size w w' := by
  have hC := Tryd.slices_Clone_string 0 0 10 10 versionsL w (Nat.le_refl _) (by decide) (fun j hj => by rw [Nat.zero_add]; exact hG.versions j hj)
  have HB := Aside0.mk (Below.refl w.heap.size w)
  clear hG
  go_enter Tryd.func14, Tryd.ntmps14
  go_wp2_with (go_at_call 32; refine hC.mono ?_; rintro e w' ⟨v', rfl, hown, _, hb⟩; have HO := Aside0.mk hown; have HB2 := Aside0.mk hb; clear hown hb)
  go_ret
  exact ⟨v', rfl, Kd.R_of_own (enc := Value.string) (h1 := fun _ => rfl) HO.out (fun _ _ => trivial), HB2.out⟩

def okI (x : Int) : Bool := !(x == 124 || x == 13 || x == 28 || x == 11 || x == 94 || x == 126)
/-- A text that the law lets in. -/
structure OkS (s : ByteArray) : Prop where
  len : s.size ≤ 100
  all : ∀ j, j < s.size → okI (bt s (j : Nat)) = true
def mesC (n : Nat) (v : Value) : Nat := n - (intOf v).toNat
theorem mesC_lt (n k : Nat) (a : Int) (h : k < n) (ha : a = (k : Int) + 1) : mesC n (.int .i64 a) < mesC n (.int .i64 (k : Nat)) := by
  show n - a.toNat < n - ((k : Nat) : Int).toNat
  subst ha
  omega
theorem index_btC (s : ByteArray) (k : Nat) (hk : k < s.size) (W : World) : (Instr.index 9 (.string s) (.int .i64 (k : Nat))).run Tryd.prog W = .ok (.int .u8 (bt s (k : Nat))) W := by
  rw [run_index_string W 9 s .i64 (k : Nat) Tryd.underlying9]
  have h1 : ((k : Nat) : Int).toNat < s.size := by simpa using hk
  simp [bt, hk]
theorem okI_not {x : Int} (h : okI x = false) : x = 124 ∨ x = 13 ∨ x = 28 ∨ x = 11 ∨ x = 94 ∨ x = 126 := by
  simp [okI] at h
  omega
theorem okI_ne {x : Int} (h : okI x = true) : (x == 124) = false ∧ (x == 13) = false ∧ (x == 28) = false ∧ (x == 11) = false ∧ (x == 94) = false ∧ (x == 126) = false := by
  simp [okI] at h
  simp [h]
theorem OkS.okC {s : ByteArray} (h : OkS s) : OkC s.data.toList := by
  refine ⟨by rw [data_length]; exact h.len, fun c hc => ?_⟩
  obtain ⟨j, hj, e⟩ := List.getElem_of_mem hc
  have hjs : j < s.size := by rw [← data_length]; exact hj
  have hx := h.all j hjs
  have hb : bt s (j : Nat) = (c.toNat : Int) := by
    rw [← e]
    simp [bt, hjs]
    rfl
  rw [hb] at hx
  have key : ∀ n : Nat, n < 256 → ((c.toNat : Int) == (n : Int)) = (c == n.toUInt8) := by
    intro n hn
    rw [Bool.eq_iff_iff, beq_iff_eq, beq_iff_eq]
    constructor
    · intro h
      apply UInt8.toNat_inj.1
      rw [show n.toUInt8.toNat = n by simp; omega]
      omega
    · intro h
      rw [h, show n.toUInt8.toNat = n by simp; omega]
  have k1 := key 124 (by decide)
  have k2 := key 13 (by decide)
  have k3 := key 28 (by decide)
  have k4 := key 11 (by decide)
  have k5 := key 94 (by decide)
  have k6 := key 126 (by decide)
  unfold okI at hx
  unfold Go.Proofs.YtciagecaegoppaaDoor.okC
  rw [show ((c.toNat : Int) == 124) = (c == 124) from k1, show ((c.toNat : Int) == 13) = (c == 13) from k2, show ((c.toNat : Int) == 28) = (c == 28) from k3, show ((c.toNat : Int) == 11) = (c == 11) from k4, show ((c.toNat : Int) == 94) = (c == 94) from k5, show ((c.toNat : Int) == 126) = (c == 126) from k6] at hx
  exact hx
theorem versions_succ (s : ByteArray) (k : Nat) (hk : k < 10) : Lib.containsS (versionsL.take (k + 1)) s = (Lib.containsS (versionsL.take k) s || ((versionsL.getD k ByteArray.empty).toList == s.toList)) := by
  have hl : k < versionsL.length := hk
  rw [List.take_succ_eq_append_getElem hl, Bool.eq_iff_iff, Bool.or_eq_true, Lib.containsS_iff, Lib.containsS_iff, List.mem_append, List.mem_singleton, beq_iff_eq]
  rw [List.getD_eq_getElem?_getD, List.getElem?_eq_getElem hl]
  simp only [Option.getD_some]
  have e : (s = versionsL[k]) ↔ (versionsL[k].toList = s.toList) := ⟨fun e => by rw [e], fun e => by
    rw [Lib.toList_data, Lib.toList_data] at e
    exact (WideShapes.bytes_inj e).symm⟩
  rw [e]

section
variable (sv sp : ByteArray) (so : Bool) (w : World)
set_option maxHeartbeats 4000000 in
theorem codes_bad (hG : GlobA w) (hok : ¬ (OkS sv ∧ OkS sp)) :
    Calls Tryd.prog 6 #[.string sv, .string sp, .bool so] w fun e w' => e = .returned (.bool true) ∧ Below w.heap.size w w' := by
  have HG := Aside0.mk hG; have HOK := Aside0.mk hok
  clear hG hok
  go_enter Tryd.func6, Tryd.ntmps6
  go_wp2
  obtain ⟨Wf, hWf⟩ : ∃ Wf, Wf = w.alloc (.cells #[.string sv, .string sp] 9) := ⟨_, rfl⟩
  have HWB : Aside0 (Below w.heap.size w Wf) := ⟨by rw [hWf]; exact below_alloc (Below.refl _ _) _⟩
  have HBLK : Aside0 (Wf.heap[w.heap.size]? = some (.cells #[.string sv, .string sp] 9 (0, 0))) := ⟨by rw [hWf]; exact blk_new w _⟩
  rw [← hWf]
  clear hWf
  go_loopw [24] (fun v24 W => ∃ k : Nat, k ≤ 2 ∧ v24 = .int .i64 (k : Nat) ∧ Aside0 (W = Wf) ∧ Aside0 (∀ j, j < k → OkS ([sv, sp].getD j ByteArray.empty))) (fun v24 _ => mesC 2 v24)
  case atStart => exact ⟨0, Nat.zero_le _, rfl, ⟨rfl⟩, ⟨fun j hj => absurd hj (Nat.not_lt_zero _)⟩⟩
  case round =>
    obtain ⟨k, hk, rfl, HWW, HJ⟩ := hrel
    obtain hWW := HWW.out
    subst hWW
    clear HWW
    rcases Nat.lt_or_ge k 2 with hk2 | hk2
    · have hwk : wrap64 ((k : Int) + 1) = (k : Int) + 1 := by unfold wrap64; omega
      have hlt : decide ((k : Int) < 2) = true := decide_eq_true (by omega)
      have hlt' : decide (k < 2) = true := decide_eq_true hk2
      obtain ⟨s, hs⟩ : ∃ s, s = [sv, sp].getD k ByteArray.empty := ⟨_, rfl⟩
      have hcell : wr.cell? ⟨w.heap.size, k, none⟩ = some (.string s) := by
        rw [blk_cell HBLK.out]
        rcases k with _ | _ | k
        · rw [hs]; rfl
        · rw [hs]; rfl
        · omega
      have HS := Aside0.mk hs; have HK2 := Aside0.mk hk2
      clear hs
      by_cases hlen : s.size > 100
      · have g : decide ((s.size : Int) > 100) = true := decide_eq_true (by omega)
        have g' : decide (100 < (s.size : Int)) = true := g
        have g'' : decide (100 < s.size) = true := decide_eq_true hlen
        clear hlen
        go_wp2_with (go_at_call 9; refine (law_alive.calls true _ (HG.out.below HWB.out) rfl).mono ?_; rintro e w9 ⟨rfl, hb9⟩; have HB9 := Aside0.mk (below_step HWB.out hb9); clear hb9)
        go_ret
        exact ⟨rfl, HB9.out⟩
      · have g : decide ((s.size : Int) > 100) = false := decide_eq_false (by omega)
        have g' : decide (100 < (s.size : Int)) = false := g
        have g'' : decide (100 < s.size) = false := decide_eq_false hlen
        have HL := Aside0.mk hlen
        clear hlen
        go_wp2
        obtain ⟨wo, hwo⟩ : ∃ wo : World, wo = wr := ⟨_, rfl⟩
        rw [← hwo] at hcell HBLK HWB ⊢
        have HWO := Aside0.mk hwo
        clear hwo
        go_loopw [34] (fun v34 W => ∃ i : Nat, i ≤ s.size ∧ v34 = .int .i64 (i : Nat) ∧ Aside0 (W = wo) ∧ Aside0 (∀ j, j < i → okI (bt s (j : Nat)) = true)) (fun v34 _ => mesC s.size v34)
        case atStart => exact ⟨0, Nat.zero_le _, rfl, ⟨rfl⟩, ⟨fun j hj => absurd hj (Nat.not_lt_zero _)⟩⟩
        case round =>
          obtain ⟨i, hi, rfl, HWI, HI⟩ := hrel
          obtain hWI := HWI.out
          subst hWI
          clear HWI
          rcases Nat.lt_or_ge i s.size with his | his
          · have hwi : wrap64 ((i : Int) + 1) = (i : Int) + 1 := by have := HL.out; unfold wrap64; omega
            have hil : decide ((i : Int) < (s.size : Int)) = true := decide_eq_true (by omega)
            have hil' : decide (i < s.size) = true := decide_eq_true his
            obtain ⟨x, hx⟩ : ∃ x, x = bt s (i : Nat) := ⟨_, rfl⟩
            have hidx : ∀ W : World, (Instr.index 9 (.string s) (.int .i64 (i : Nat))).run Tryd.prog W = .ok (.int .u8 x) W := fun W => by rw [hx]; exact index_btC s i his W
            have HX := Aside0.mk hx; have HIS := Aside0.mk his
            clear hx his hi hwk
            by_cases hok : okI x = true
            · obtain ⟨n1, n2, n3, n4, n5, n6⟩ := okI_ne hok
              have HO := Aside0.mk hok
              clear hok
              go_wp2
              go_roundw
              case rel => exact ⟨i + 1, HIS.out, by go_num, ⟨by first | rfl | trivial⟩, ⟨fun j hj => by rcases Nat.lt_or_ge j i with hji | hji; exact HI.out j hji; (obtain rfl : j = i := by omega); rw [← HX.out]; exact HO.out⟩⟩
              case measure => exact mesC_lt s.size i _ HIS.out hwi
            · rcases okI_not (by simpa using hok) with rfl | rfl | rfl | rfl | rfl | rfl
              all_goals
                clear hok HX
                go_wp2_with (go_at_call 9; refine (law_alive.calls true _ (HG.out.below HWB.out) rfl).mono ?_; rintro e w9 ⟨rfl, hb9⟩; have HB9 := Aside0.mk (below_step HWB.out hb9); clear hb9)
                go_ret
                exact ⟨rfl, HB9.out⟩
          · have hil : decide ((i : Int) < (s.size : Int)) = false := decide_eq_false (by omega)
            have hil' : decide (i < s.size) = false := decide_eq_false (by omega)
            have HDONE : Aside0 (OkS s) := ⟨⟨by have := HL.out; omega, fun j hj => HI.out j (by omega)⟩⟩
            clear his hi
            go_wp2
            go_roundw
            case rel => exact ⟨k + 1, HK2.out, by go_num, ⟨by first | exact HWO.out | rfl | trivial⟩, ⟨fun j hj => by rcases Nat.lt_or_ge j k with hjk | hjk; exact HJ.out j hjk; (obtain rfl : j = k := by omega); rw [← HS.out]; exact HDONE.out⟩⟩
            case measure => exact mesC_lt 2 k _ HK2.out (by first | exact hwk | rfl)
    · obtain rfl : k = 2 := Nat.le_antisymm hk hk2
      exact absurd ⟨HJ.out 0 (by decide), HJ.out 1 (by decide)⟩ HOK.out
end
end Go.Proofs.YtciagecaegoppaaDoor
end
section
namespace Go.Proofs.YtciagecaegoppaaDoor
set_option linter.unusedVariables false
set_option linter.unusedSimpArgs false
set_option maxRecDepth 100000
open Go.RowKit Go.Proofs.YtciagecaegoppaaDoorW.PrintWords Go.Proofs.YtciagecaegoppaaDoorW.PrintLast Go.Proofs.YtciagecaegoppaaDoorW.PrintMore
theorem verdict_lenC (v0 v1 v2 v3 v4 : Int) (t5 t6 t7 t8 t9 t10 t11 t12 t13 t14 cd : ByteArray) (f : Int) (A : Option Addr) (n c : Nat) (l : List Int) (hl : l.length = n) (W : World) (hG : GlobA W) (hC : Kd.C (Kd.int .u8) W A n l) (hc : n ≤ c) (h : accept_Verdict.f l = some (v0, v1, v2, v3, v4, t5, t6, t7, t8, t9, t10, t11, t12, t13, t14, cd, f)) :
    Calls Tryd.prog 10 #[.slice A n c] W fun e w' => e = .returned (.tuple #[.agg #[.int .u8 v0, .int .u8 v1, .int .u8 v2, .int .u8 v3, .int .u8 v4, .string t5, .string t6, .string t7, .string t8, .string t9, .string t10, .string t11, .string t12, .string t13, .string t14], .string cd, .int .i64 f]) ∧ Below W.heap.size W w' := by
  subst hl
  exact accept_Verdict.calls A c l v0 v1 v2 v3 v4 t5 t6 t7 t8 t9 t10 t11 t12 t13 t14 cd f W hG hC hc h
theorem stored_lenC (r : Bool) (A : Option Addr) (n c : Nat) (l : List Int) (hl : l.length = n) (W : World) (hG : GlobA W) (hC : Kd.C (Kd.int .u8) W A n l) (hc : n ≤ c) (h : QStored.accept_Stored.f l = some r) : Calls Tryd.prog 13 #[.slice A n c] W fun e w' => e = .returned (.bool r) ∧ Below W.heap.size W w' := by
  subst hl
  exact QStored.accept_Stored.calls A c l r W hG hC hc h
theorem concat_gen (b : Bool) (idl sv sp : ByteArray) (hid : idl.data.toList = idC b) : bytesOf (({ data := #[77, 83, 72, 124, 94, 126, 92, 38, 124, 124, 124, 124, 124, 124, 124, 65, 68, 84, 124] } : ByteArray) ++ idl ++ { data := #[124] } ++ sp ++ { data := #[124] } ++ sv ++ { data := #[13] }) = numsB (headCd b sp.data.toList sv.data.toList ++ [13]) := by
  unfold bytesOf numsB headCd headB fsC
  congr 1
  simp only [ByteArray.data_append, Array.toList_append, hid, cat, List.nil_append, List.append_nil, List.cons_append, List.append_assoc]
theorem concat_yes (sv sp : ByteArray) : bytesOf (({ data := #[77, 83, 72, 124, 94, 126, 92, 38, 124, 124, 124, 124, 124, 124, 124, 65, 68, 84, 124] } : ByteArray) ++ { data := #[55] } ++ { data := #[124] } ++ sp ++ { data := #[124] } ++ sv ++ { data := #[13] }) = numsB (headCd true sp.data.toList sv.data.toList ++ [13]) := concat_gen true _ sv sp rfl
theorem concat_no (sv sp : ByteArray) : bytesOf (({ data := #[77, 83, 72, 124, 94, 126, 92, 38, 124, 124, 124, 124, 124, 124, 124, 65, 68, 84, 124] } : ByteArray) ++ { data := #[] } ++ { data := #[124] } ++ sp ++ { data := #[124] } ++ sv ++ { data := #[13] }) = numsB (headCd false sp.data.toList sv.data.toList ++ [13]) := concat_gen false _ sv sp rfl
section
variable (sv sp : ByteArray) (w : World)
set_option maxHeartbeats 8000000 in
theorem codes_good_yes (hG : GlobA w) (hok : ∀ k, k < 2 → OkS ([sv, sp].getD k ByteArray.empty)) :
    Calls Tryd.prog 6 #[.string sv, .string sp, .bool true] w fun e w' => e = .returned (.bool true) ∧ Below w.heap.size w w' := by
  have HG := Aside0.mk hG; have HOK := Aside0.mk hok
  clear hG hok
  go_enter Tryd.func6, Tryd.ntmps6
  go_wp2
  obtain ⟨Wf, hWf⟩ : ∃ Wf, Wf = w.alloc (.cells #[.string sv, .string sp] 9) := ⟨_, rfl⟩
  have HWB : Aside0 (Below w.heap.size w Wf) := ⟨by rw [hWf]; exact below_alloc (Below.refl _ _) _⟩
  have HBLK : Aside0 (Wf.heap[w.heap.size]? = some (.cells #[.string sv, .string sp] 9 (0, 0))) := ⟨by rw [hWf]; exact blk_new w _⟩
  rw [← hWf]
  clear hWf
  go_loopw [24] (fun v24 W => ∃ k : Nat, k ≤ 2 ∧ v24 = .int .i64 (k : Nat) ∧ Aside0 (W = Wf) ∧ Aside0 (∀ j, j < k → OkS ([sv, sp].getD j ByteArray.empty))) (fun v24 _ => mesC 2 v24)
  case atStart => exact ⟨0, Nat.zero_le _, rfl, ⟨rfl⟩, ⟨fun j hj => absurd hj (Nat.not_lt_zero _)⟩⟩
  case round =>
    obtain ⟨k, hk, rfl, HWW, HJ⟩ := hrel
    obtain hWW := HWW.out
    subst hWW
    clear HWW
    rcases Nat.lt_or_ge k 2 with hk2 | hk2
    · have hwk : wrap64 ((k : Int) + 1) = (k : Int) + 1 := by unfold wrap64; omega
      have hlt : decide ((k : Int) < 2) = true := decide_eq_true (by omega)
      have hlt' : decide (k < 2) = true := decide_eq_true hk2
      obtain ⟨s, hs⟩ : ∃ s, s = [sv, sp].getD k ByteArray.empty := ⟨_, rfl⟩
      have hcell : wr.cell? ⟨w.heap.size, k, none⟩ = some (.string s) := by
        rw [blk_cell HBLK.out]
        rcases k with _ | _ | k
        · rw [hs]; rfl
        · rw [hs]; rfl
        · omega
      have HS := Aside0.mk hs; have HK2 := Aside0.mk hk2
      clear hs
      by_cases hlen : s.size > 100
      · exact absurd (HOK.out k HK2.out).len (by rw [← HS.out]; omega)
      · have g : decide ((s.size : Int) > 100) = false := decide_eq_false (by omega)
        have g' : decide (100 < (s.size : Int)) = false := g
        have g'' : decide (100 < s.size) = false := decide_eq_false hlen
        have HL := Aside0.mk hlen
        clear hlen
        go_wp2
        obtain ⟨wo, hwo⟩ : ∃ wo : World, wo = wr := ⟨_, rfl⟩
        rw [← hwo] at hcell HBLK HWB ⊢
        have HWO := Aside0.mk hwo
        clear hwo
        go_loopw [34] (fun v34 W => ∃ i : Nat, i ≤ s.size ∧ v34 = .int .i64 (i : Nat) ∧ Aside0 (W = wo) ∧ Aside0 (∀ j, j < i → okI (bt s (j : Nat)) = true)) (fun v34 _ => mesC s.size v34)
        case atStart => exact ⟨0, Nat.zero_le _, rfl, ⟨rfl⟩, ⟨fun j hj => absurd hj (Nat.not_lt_zero _)⟩⟩
        case round =>
          obtain ⟨i, hi, rfl, HWI, HI⟩ := hrel
          obtain hWI := HWI.out
          subst hWI
          clear HWI
          rcases Nat.lt_or_ge i s.size with his | his
          · have hwi : wrap64 ((i : Int) + 1) = (i : Int) + 1 := by have := HL.out; unfold wrap64; omega
            have hil : decide ((i : Int) < (s.size : Int)) = true := decide_eq_true (by omega)
            have hil' : decide (i < s.size) = true := decide_eq_true his
            obtain ⟨x, hx⟩ : ∃ x, x = bt s (i : Nat) := ⟨_, rfl⟩
            have hidx : ∀ W : World, (Instr.index 9 (.string s) (.int .i64 (i : Nat))).run Tryd.prog W = .ok (.int .u8 x) W := fun W => by rw [hx]; exact index_btC s i his W
            have HX := Aside0.mk hx; have HIS := Aside0.mk his
            clear hx his hi hwk
            by_cases hok : okI x = true
            · obtain ⟨n1, n2, n3, n4, n5, n6⟩ := okI_ne hok
              have HO := Aside0.mk hok
              clear hok
              go_wp2
              go_roundw
              case rel => exact ⟨i + 1, HIS.out, by go_num, ⟨by first | rfl | trivial⟩, ⟨fun j hj => by rcases Nat.lt_or_ge j i with hji | hji; exact HI.out j hji; (obtain rfl : j = i := by omega); rw [← HX.out]; exact HO.out⟩⟩
              case measure => exact mesC_lt s.size i _ HIS.out hwi
            · exact absurd ((HOK.out k HK2.out).all i (by rw [← HS.out]; exact HIS.out)) (by rw [← HS.out, ← HX.out]; exact hok)
          · have hil : decide ((i : Int) < (s.size : Int)) = false := decide_eq_false (by omega)
            have hil' : decide (i < s.size) = false := decide_eq_false (by omega)
            have HDONE : Aside0 (OkS s) := ⟨⟨by have := HL.out; omega, fun j hj => HI.out j (by omega)⟩⟩
            clear his hi
            go_wp2
            go_roundw
            case rel => exact ⟨k + 1, HK2.out, by go_num, ⟨by first | exact HWO.out | rfl | trivial⟩, ⟨fun j hj => by rcases Nat.lt_or_ge j k with hjk | hjk; exact HJ.out j hjk; (obtain rfl : j = k := by omega); rw [← HS.out]; exact HDONE.out⟩⟩
            case measure => exact mesC_lt 2 k _ HK2.out (by first | exact hwk | rfl)
    · obtain rfl : k = 2 := Nat.le_antisymm hk hk2
      have hsv : sv.size ≤ 100 := (HOK.out 0 (by decide)).len
      have hsp : sp.size ≤ 100 := (HOK.out 1 (by decide)).len
      obtain ⟨S, hS⟩ : ∃ S : ByteArray, ({ data := #[77, 83, 72, 124, 94, 126, 92, 38, 124, 124, 124, 124, 124, 124, 124, 65, 68, 84, 124] } : ByteArray) ++ { data := #[55] } ++ { data := #[124] } ++ sp ++ { data := #[124] } ++ sv ++ { data := #[13] } = S := ⟨_, rfl⟩
      have hSC : bytesOf S = numsB (headCd true sp.data.toList sv.data.toList ++ [13]) := by rw [← hS]; exact concat_yes sv sp
      have hOKv : OkC sv.data.toList := OkS.okC (HOK.out 0 (by decide))
      have hOKp : OkC sp.data.toList := OkS.okC (HOK.out 1 (by decide))
      have hSsz : S.size ≤ 1000 := by have h1 := bytesOf_length S; rw [hSC, numsB_len] at h1; have h2 := headCd_len true sp.data.toList sv.data.toList hOKp hOKv; simp at h1; omega
      have HSC := Aside0.mk hSC; have HSZ := Aside0.mk hSsz; have HOKV := Aside0.mk hOKv; have HOKP := Aside0.mk hOKp
      have kb := fun W : World => print_bytes (P := Tryd.prog) 9 26 5 Tryd.underlying9 Tryd.underlying26 Tryd.underlying5 S W
      clear hk hk2 hSC hSsz hOKv hOKp
      obtain ⟨wn, hwn⟩ : ∃ wn : World, wn = wr := ⟨_, rfl⟩
      rw [← hwn] at HWB HBLK ⊢
      clear hwn
      go_wp2_with (go_at_call 14; refine (msh_Versions.calls _ ?g).mono ?_; (case g => exact HG.out.below (bytes_below HWB.out HWB.out.size _ _)); rintro e w3 ⟨v0, rfl, hR, hb3⟩; obtain ⟨A3, c3, hv3⟩ := Kd.R_slice hR; (have hv3' : v0 = .slice A3 10 c3 := hv3); subst hv3'; (have hC3 := (Kd.R_reads' hR).2.2); (have HC3 : Aside0 (Kd.string.C w3 A3 10 versionsL) := ⟨hC3⟩); (have HB3 := Aside0.mk (below_step (bytes_below HWB.out HWB.out.size _ _) hb3)); (have HX3 := Aside0.mk (Kd.C_below (conv_C wn S (by have := HSZ.out; omega)) hb3)); clear hR hv3 hC3 hb3)
      obtain ⟨ad3, rfl, hjunk⟩ := Kd.at_string HC3.out 0 (by decide) (by decide)
      clear hjunk
      have HWB' := HWB; clear kb hS
      obtain ⟨wv, hwv⟩ : ∃ wv : World, wv = w3 := ⟨_, rfl⟩
      rw [← hwv] at HC3 HB3 HX3 ⊢
      clear hwv
      go_loopw [13, 78] (fun v13 v78 W => ∃ q : Nat, q ≤ 10 ∧ v78 = .int .i64 (q : Nat) ∧ v13 = .bool (Lib.containsS (versionsL.take q) sv) ∧ Aside0 (W = wv)) (fun _ v78 _ => mesC 10 v78)
      case atStart => exact ⟨0, Nat.zero_le _, rfl, rfl, ⟨rfl⟩⟩
      case round =>
        obtain ⟨q, hq, rfl, rfl, HWV⟩ := hrel
        obtain hWV := HWV.out
        subst hWV
        clear HWV
        rcases Nat.lt_or_ge q 10 with hq2 | hq2
        · have hsucc := versions_succ sv q hq2
          obtain ⟨kb, hkb⟩ : ∃ kb, kb = Lib.containsS (versionsL.take q) sv := ⟨_, rfl⟩
          obtain ⟨y, hy⟩ : ∃ y, y = versionsL.getD q ByteArray.empty := ⟨_, rfl⟩
          rw [← hkb, ← hy] at hsucc
          rw [← hkb]
          obtain ⟨ad', e', hcv⟩ := Kd.at_string HC3.out (q : Int) (by omega) (by omega)
          cases e'
          rw [Int.toNat_natCast, show rdOf ByteArray.empty versionsL (q : Int) = y by rw [hy]; rfl] at hcv
          have hlt : decide ((q : Int) < 10) = true := decide_eq_true (by omega)
          have hlt' : decide (q < 10) = true := decide_eq_true hq2
          have hwq : wrap64 ((q : Int) + 1) = (q : Int) + 1 := by unfold wrap64; omega
          obtain ⟨b2, hb2⟩ : ∃ b2, (y.toList == sv.toList) = b2 := ⟨_, rfl⟩
          rw [hb2] at hsucc
          have HS := Aside0.mk hsucc; have HQ := Aside0.mk hq2
          clear hsucc hq hkb hy
          cases kb
          · cases b2
            all_goals
              go_wp2
              go_roundw
              case rel => exact ⟨q + 1, HQ.out, by go_num, by rw [HS.out]; rfl, ⟨by first | rfl | trivial⟩⟩
              case measure => exact mesC_lt 10 q _ HQ.out (by first | exact hwq | rfl)
          · go_wp2
            go_roundw
            case rel => exact ⟨q + 1, HQ.out, by go_num, by rw [HS.out]; rfl, ⟨by first | rfl | trivial⟩⟩
            case measure => exact mesC_lt 10 q _ HQ.out (by first | exact hwq | rfl)
        · obtain rfl : q = 10 := Nat.le_antisymm hq hq2
          rw [show versionsL.take 10 = versionsL from rfl]
          clear hq hq2
          obtain ⟨er, her⟩ : ∃ er, er = errC true (Lib.containsS versionsL (strOf sv.data.toList)) (Lib.containsS processL (strOf sp.data.toList)) := ⟨_, rfl⟩
          have HV := Aside0.mk (verdict_codes true sp.data.toList sv.data.toList HOKP.out HOKV.out er her)
          have HT := Aside0.mk (stored_codes true sp.data.toList sv.data.toList HOKP.out HOKV.out er her)
          rw [strOf_toList, strOf_toList, process_codes] at her
          rw [← HSC.out] at HV HT
          obtain ⟨kn, hkn⟩ : ∃ kn, Lib.containsS versionsL sv = kn := ⟨_, rfl⟩
          rw [hkn] at her ⊢
          clear hkn
          obtain ⟨b1, h1⟩ : ∃ b1, (sp.toList == ([80] : List UInt8)) = b1 := ⟨_, rfl⟩
          obtain ⟨b2, h2⟩ : ∃ b2, (sp.toList == ([68] : List UInt8)) = b2 := ⟨_, rfl⟩
          obtain ⟨b3, h3⟩ : ∃ b3, (sp.toList == ([84] : List UInt8)) = b3 := ⟨_, rfl⟩
          have h1' : (sp.toList != ([80] : List UInt8)) = !b1 := by rw [← h1]; rfl
          have h2' : (sp.toList != ([68] : List UInt8)) = !b2 := by rw [← h2]; rfl
          have h3' : (sp.toList != ([84] : List UInt8)) = !b3 := by rw [← h3]; rfl
          rw [h1, h2, h3] at her
          have HER := Aside0.mk her; clear her
          cases kn
          · obtain rfl : er = 12 := HER.out
            clear HER h1 h2 h3 h1' h2' h3'
            have HV2 : Aside0 (accept_Verdict.f (bytesOf S) = some (124, 94, 126, 92, 38, ⟨#[]⟩, ⟨#[]⟩, ⟨#[]⟩, ⟨#[]⟩, ⟨#[]⟩, ⟨#[]⟩, ⟨#[65, 68, 84]⟩, strOf (idC true), sp, sv, ⟨#[65, 82]⟩, 12)) := ⟨HV.out⟩
            have HT2 : Aside0 (QStored.accept_Stored.f (bytesOf S) = some false) := ⟨by rw [HT.out, Lib.toList_data]; rfl⟩
            clear HV HT
            go_wp2_with (first
              | (go_at_call 13; refine (stored_lenC false (some ⟨wn.heap.size, 0, none⟩) S.size _ (bytesOf S) (bytesOf_length S) _ (HG.out.below HB5.out) HX5.out (grownCap_ge _ _ _ _) HT2.out).mono ?_; rintro e w6 ⟨rfl, hb6⟩; have HB6 := Aside0.mk (below_step HB5.out hb6); clear hb6)
              | (go_at_call 9; refine (law_alive.calls true _ (HG.out.below (below_alloc HB4.out _)) rfl).mono ?_; rintro e w5 ⟨rfl, hb5⟩; have HB5 := Aside0.mk (below_step (below_alloc HB4.out _) hb5); have HX5 := Aside0.mk (Kd.C_below (Kd.C_below HX4.out (below_alloc (Below.refl _ _) _)) hb5); clear hb5)
              | (go_at_call 10; refine (verdict_lenC 124 94 126 92 38 ⟨#[]⟩ ⟨#[]⟩ ⟨#[]⟩ ⟨#[]⟩ ⟨#[]⟩ ⟨#[]⟩ ⟨#[65, 68, 84]⟩ (strOf (idC true)) sp sv ⟨#[65, 82]⟩ 12 (some ⟨wn.heap.size, 0, none⟩) S.size _ (bytesOf S) (bytesOf_length S) _ (HG.out.below HB3.out) HX3.out (grownCap_ge _ _ _ _) HV2.out).mono ?_; rintro e w4 ⟨rfl, hb4⟩; have HB4 := Aside0.mk (below_step HB3.out hb4); have HX4 := Aside0.mk (Kd.C_below HX3.out hb4); clear hb4))
            go_ret
            exact ⟨rfl, HB6.out⟩
          · cases b1
            · cases b2
              · cases b3
                · obtain rfl : er = 13 := HER.out
                  clear HER
                  simp only [Bool.not_false] at h1' h2' h3'
                  have HV2 : Aside0 (accept_Verdict.f (bytesOf S) = some (124, 94, 126, 92, 38, ⟨#[]⟩, ⟨#[]⟩, ⟨#[]⟩, ⟨#[]⟩, ⟨#[]⟩, ⟨#[]⟩, ⟨#[65, 68, 84]⟩, strOf (idC true), sp, sv, ⟨#[65, 82]⟩, 13)) := ⟨HV.out⟩
                  have HT2 : Aside0 (QStored.accept_Stored.f (bytesOf S) = some false) := ⟨by rw [HT.out, Lib.toList_data]; rfl⟩
                  clear HV HT
                  go_wp2_with (first
                    | (go_at_call 13; refine (stored_lenC false (some ⟨wn.heap.size, 0, none⟩) S.size _ (bytesOf S) (bytesOf_length S) _ (HG.out.below HB5.out) HX5.out (grownCap_ge _ _ _ _) HT2.out).mono ?_; rintro e w6 ⟨rfl, hb6⟩; have HB6 := Aside0.mk (below_step HB5.out hb6); clear hb6)
                    | (go_at_call 9; refine (law_alive.calls true _ (HG.out.below (below_alloc HB4.out _)) rfl).mono ?_; rintro e w5 ⟨rfl, hb5⟩; have HB5 := Aside0.mk (below_step (below_alloc HB4.out _) hb5); have HX5 := Aside0.mk (Kd.C_below (Kd.C_below HX4.out (below_alloc (Below.refl _ _) _)) hb5); clear hb5)
                    | (go_at_call 10; refine (verdict_lenC 124 94 126 92 38 ⟨#[]⟩ ⟨#[]⟩ ⟨#[]⟩ ⟨#[]⟩ ⟨#[]⟩ ⟨#[]⟩ ⟨#[65, 68, 84]⟩ (strOf (idC true)) sp sv ⟨#[65, 82]⟩ 13 (some ⟨wn.heap.size, 0, none⟩) S.size _ (bytesOf S) (bytesOf_length S) _ (HG.out.below HB3.out) HX3.out (grownCap_ge _ _ _ _) HV2.out).mono ?_; rintro e w4 ⟨rfl, hb4⟩; have HB4 := Aside0.mk (below_step HB3.out hb4); have HX4 := Aside0.mk (Kd.C_below HX3.out hb4); clear hb4))
                  go_ret
                  exact ⟨rfl, HB6.out⟩
                · obtain rfl : er = 0 := HER.out
                  clear HER
                  simp only [Bool.not_false, Bool.not_true] at h1' h2' h3'
                  have HV2 : Aside0 (accept_Verdict.f (bytesOf S) = some (124, 94, 126, 92, 38, ⟨#[]⟩, ⟨#[]⟩, ⟨#[]⟩, ⟨#[]⟩, ⟨#[]⟩, ⟨#[]⟩, ⟨#[65, 68, 84]⟩, strOf (idC true), sp, sv, ⟨#[65, 65]⟩, 0)) := ⟨HV.out⟩
                  have HT2 : Aside0 (QStored.accept_Stored.f (bytesOf S) = some true) := ⟨by rw [HT.out, Lib.toList_data]; rfl⟩
                  clear HV HT
                  go_wp2_with (first
                    | (go_at_call 13; refine (stored_lenC true (some ⟨wn.heap.size, 0, none⟩) S.size _ (bytesOf S) (bytesOf_length S) _ (HG.out.below HB5.out) HX5.out (grownCap_ge _ _ _ _) HT2.out).mono ?_; rintro e w6 ⟨rfl, hb6⟩; have HB6 := Aside0.mk (below_step HB5.out hb6); clear hb6)
                    | (go_at_call 9; refine (law_alive.calls true _ (HG.out.below (below_alloc HB4.out _)) rfl).mono ?_; rintro e w5 ⟨rfl, hb5⟩; have HB5 := Aside0.mk (below_step (below_alloc HB4.out _) hb5); have HX5 := Aside0.mk (Kd.C_below (Kd.C_below HX4.out (below_alloc (Below.refl _ _) _)) hb5); clear hb5)
                    | (go_at_call 10; refine (verdict_lenC 124 94 126 92 38 ⟨#[]⟩ ⟨#[]⟩ ⟨#[]⟩ ⟨#[]⟩ ⟨#[]⟩ ⟨#[]⟩ ⟨#[65, 68, 84]⟩ (strOf (idC true)) sp sv ⟨#[65, 65]⟩ 0 (some ⟨wn.heap.size, 0, none⟩) S.size _ (bytesOf S) (bytesOf_length S) _ (HG.out.below HB3.out) HX3.out (grownCap_ge _ _ _ _) HV2.out).mono ?_; rintro e w4 ⟨rfl, hb4⟩; have HB4 := Aside0.mk (below_step HB3.out hb4); have HX4 := Aside0.mk (Kd.C_below HX3.out hb4); clear hb4))
                  go_ret
                  exact ⟨rfl, HB6.out⟩
              · obtain rfl : er = 0 := by have := HER.out; cases b3 <;> exact this
                clear HER h3 h3'
                simp only [Bool.not_false, Bool.not_true] at h1' h2'
                have HV2 : Aside0 (accept_Verdict.f (bytesOf S) = some (124, 94, 126, 92, 38, ⟨#[]⟩, ⟨#[]⟩, ⟨#[]⟩, ⟨#[]⟩, ⟨#[]⟩, ⟨#[]⟩, ⟨#[65, 68, 84]⟩, strOf (idC true), sp, sv, ⟨#[65, 65]⟩, 0)) := ⟨HV.out⟩
                have HT2 : Aside0 (QStored.accept_Stored.f (bytesOf S) = some true) := ⟨by rw [HT.out, Lib.toList_data]; rfl⟩
                clear HV HT
                go_wp2_with (first
                  | (go_at_call 13; refine (stored_lenC true (some ⟨wn.heap.size, 0, none⟩) S.size _ (bytesOf S) (bytesOf_length S) _ (HG.out.below HB5.out) HX5.out (grownCap_ge _ _ _ _) HT2.out).mono ?_; rintro e w6 ⟨rfl, hb6⟩; have HB6 := Aside0.mk (below_step HB5.out hb6); clear hb6)
                  | (go_at_call 9; refine (law_alive.calls true _ (HG.out.below (below_alloc HB4.out _)) rfl).mono ?_; rintro e w5 ⟨rfl, hb5⟩; have HB5 := Aside0.mk (below_step (below_alloc HB4.out _) hb5); have HX5 := Aside0.mk (Kd.C_below (Kd.C_below HX4.out (below_alloc (Below.refl _ _) _)) hb5); clear hb5)
                  | (go_at_call 10; refine (verdict_lenC 124 94 126 92 38 ⟨#[]⟩ ⟨#[]⟩ ⟨#[]⟩ ⟨#[]⟩ ⟨#[]⟩ ⟨#[]⟩ ⟨#[65, 68, 84]⟩ (strOf (idC true)) sp sv ⟨#[65, 65]⟩ 0 (some ⟨wn.heap.size, 0, none⟩) S.size _ (bytesOf S) (bytesOf_length S) _ (HG.out.below HB3.out) HX3.out (grownCap_ge _ _ _ _) HV2.out).mono ?_; rintro e w4 ⟨rfl, hb4⟩; have HB4 := Aside0.mk (below_step HB3.out hb4); have HX4 := Aside0.mk (Kd.C_below HX3.out hb4); clear hb4))
                go_ret
                exact ⟨rfl, HB6.out⟩
            · obtain rfl : er = 0 := by have := HER.out; cases b2 <;> cases b3 <;> exact this
              clear HER h2 h2' h3 h3'
              simp only [Bool.not_true] at h1'
              have HV2 : Aside0 (accept_Verdict.f (bytesOf S) = some (124, 94, 126, 92, 38, ⟨#[]⟩, ⟨#[]⟩, ⟨#[]⟩, ⟨#[]⟩, ⟨#[]⟩, ⟨#[]⟩, ⟨#[65, 68, 84]⟩, strOf (idC true), sp, sv, ⟨#[65, 65]⟩, 0)) := ⟨HV.out⟩
              have HT2 : Aside0 (QStored.accept_Stored.f (bytesOf S) = some true) := ⟨by rw [HT.out, Lib.toList_data]; rfl⟩
              clear HV HT
              go_wp2_with (first
                | (go_at_call 13; refine (stored_lenC true (some ⟨wn.heap.size, 0, none⟩) S.size _ (bytesOf S) (bytesOf_length S) _ (HG.out.below HB5.out) HX5.out (grownCap_ge _ _ _ _) HT2.out).mono ?_; rintro e w6 ⟨rfl, hb6⟩; have HB6 := Aside0.mk (below_step HB5.out hb6); clear hb6)
                | (go_at_call 9; refine (law_alive.calls true _ (HG.out.below (below_alloc HB4.out _)) rfl).mono ?_; rintro e w5 ⟨rfl, hb5⟩; have HB5 := Aside0.mk (below_step (below_alloc HB4.out _) hb5); have HX5 := Aside0.mk (Kd.C_below (Kd.C_below HX4.out (below_alloc (Below.refl _ _) _)) hb5); clear hb5)
                | (go_at_call 10; refine (verdict_lenC 124 94 126 92 38 ⟨#[]⟩ ⟨#[]⟩ ⟨#[]⟩ ⟨#[]⟩ ⟨#[]⟩ ⟨#[]⟩ ⟨#[65, 68, 84]⟩ (strOf (idC true)) sp sv ⟨#[65, 65]⟩ 0 (some ⟨wn.heap.size, 0, none⟩) S.size _ (bytesOf S) (bytesOf_length S) _ (HG.out.below HB3.out) HX3.out (grownCap_ge _ _ _ _) HV2.out).mono ?_; rintro e w4 ⟨rfl, hb4⟩; have HB4 := Aside0.mk (below_step HB3.out hb4); have HX4 := Aside0.mk (Kd.C_below HX3.out hb4); clear hb4))
              go_ret
              exact ⟨rfl, HB6.out⟩
set_option maxHeartbeats 8000000 in
theorem codes_good_no (hG : GlobA w) (hok : ∀ k, k < 2 → OkS ([sv, sp].getD k ByteArray.empty)) :
    Calls Tryd.prog 6 #[.string sv, .string sp, .bool false] w fun e w' => e = .returned (.bool true) ∧ Below w.heap.size w w' := by
  have HG := Aside0.mk hG; have HOK := Aside0.mk hok
  clear hG hok
  go_enter Tryd.func6, Tryd.ntmps6
  go_wp2
  obtain ⟨Wf, hWf⟩ : ∃ Wf, Wf = w.alloc (.cells #[.string sv, .string sp] 9) := ⟨_, rfl⟩
  have HWB : Aside0 (Below w.heap.size w Wf) := ⟨by rw [hWf]; exact below_alloc (Below.refl _ _) _⟩
  have HBLK : Aside0 (Wf.heap[w.heap.size]? = some (.cells #[.string sv, .string sp] 9 (0, 0))) := ⟨by rw [hWf]; exact blk_new w _⟩
  rw [← hWf]
  clear hWf
  go_loopw [24] (fun v24 W => ∃ k : Nat, k ≤ 2 ∧ v24 = .int .i64 (k : Nat) ∧ Aside0 (W = Wf) ∧ Aside0 (∀ j, j < k → OkS ([sv, sp].getD j ByteArray.empty))) (fun v24 _ => mesC 2 v24)
  case atStart => exact ⟨0, Nat.zero_le _, rfl, ⟨rfl⟩, ⟨fun j hj => absurd hj (Nat.not_lt_zero _)⟩⟩
  case round =>
    obtain ⟨k, hk, rfl, HWW, HJ⟩ := hrel
    obtain hWW := HWW.out
    subst hWW
    clear HWW
    rcases Nat.lt_or_ge k 2 with hk2 | hk2
    · have hwk : wrap64 ((k : Int) + 1) = (k : Int) + 1 := by unfold wrap64; omega
      have hlt : decide ((k : Int) < 2) = true := decide_eq_true (by omega)
      have hlt' : decide (k < 2) = true := decide_eq_true hk2
      obtain ⟨s, hs⟩ : ∃ s, s = [sv, sp].getD k ByteArray.empty := ⟨_, rfl⟩
      have hcell : wr.cell? ⟨w.heap.size, k, none⟩ = some (.string s) := by
        rw [blk_cell HBLK.out]
        rcases k with _ | _ | k
        · rw [hs]; rfl
        · rw [hs]; rfl
        · omega
      have HS := Aside0.mk hs; have HK2 := Aside0.mk hk2
      clear hs
      by_cases hlen : s.size > 100
      · exact absurd (HOK.out k HK2.out).len (by rw [← HS.out]; omega)
      · have g : decide ((s.size : Int) > 100) = false := decide_eq_false (by omega)
        have g' : decide (100 < (s.size : Int)) = false := g
        have g'' : decide (100 < s.size) = false := decide_eq_false hlen
        have HL := Aside0.mk hlen
        clear hlen
        go_wp2
        obtain ⟨wo, hwo⟩ : ∃ wo : World, wo = wr := ⟨_, rfl⟩
        rw [← hwo] at hcell HBLK HWB ⊢
        have HWO := Aside0.mk hwo
        clear hwo
        go_loopw [34] (fun v34 W => ∃ i : Nat, i ≤ s.size ∧ v34 = .int .i64 (i : Nat) ∧ Aside0 (W = wo) ∧ Aside0 (∀ j, j < i → okI (bt s (j : Nat)) = true)) (fun v34 _ => mesC s.size v34)
        case atStart => exact ⟨0, Nat.zero_le _, rfl, ⟨rfl⟩, ⟨fun j hj => absurd hj (Nat.not_lt_zero _)⟩⟩
        case round =>
          obtain ⟨i, hi, rfl, HWI, HI⟩ := hrel
          obtain hWI := HWI.out
          subst hWI
          clear HWI
          rcases Nat.lt_or_ge i s.size with his | his
          · have hwi : wrap64 ((i : Int) + 1) = (i : Int) + 1 := by have := HL.out; unfold wrap64; omega
            have hil : decide ((i : Int) < (s.size : Int)) = true := decide_eq_true (by omega)
            have hil' : decide (i < s.size) = true := decide_eq_true his
            obtain ⟨x, hx⟩ : ∃ x, x = bt s (i : Nat) := ⟨_, rfl⟩
            have hidx : ∀ W : World, (Instr.index 9 (.string s) (.int .i64 (i : Nat))).run Tryd.prog W = .ok (.int .u8 x) W := fun W => by rw [hx]; exact index_btC s i his W
            have HX := Aside0.mk hx; have HIS := Aside0.mk his
            clear hx his hi hwk
            by_cases hok : okI x = true
            · obtain ⟨n1, n2, n3, n4, n5, n6⟩ := okI_ne hok
              have HO := Aside0.mk hok
              clear hok
              go_wp2
              go_roundw
              case rel => exact ⟨i + 1, HIS.out, by go_num, ⟨by first | rfl | trivial⟩, ⟨fun j hj => by rcases Nat.lt_or_ge j i with hji | hji; exact HI.out j hji; (obtain rfl : j = i := by omega); rw [← HX.out]; exact HO.out⟩⟩
              case measure => exact mesC_lt s.size i _ HIS.out hwi
            · exact absurd ((HOK.out k HK2.out).all i (by rw [← HS.out]; exact HIS.out)) (by rw [← HS.out, ← HX.out]; exact hok)
          · have hil : decide ((i : Int) < (s.size : Int)) = false := decide_eq_false (by omega)
            have hil' : decide (i < s.size) = false := decide_eq_false (by omega)
            have HDONE : Aside0 (OkS s) := ⟨⟨by have := HL.out; omega, fun j hj => HI.out j (by omega)⟩⟩
            clear his hi
            go_wp2
            go_roundw
            case rel => exact ⟨k + 1, HK2.out, by go_num, ⟨by first | exact HWO.out | rfl | trivial⟩, ⟨fun j hj => by rcases Nat.lt_or_ge j k with hjk | hjk; exact HJ.out j hjk; (obtain rfl : j = k := by omega); rw [← HS.out]; exact HDONE.out⟩⟩
            case measure => exact mesC_lt 2 k _ HK2.out (by first | exact hwk | rfl)
    · obtain rfl : k = 2 := Nat.le_antisymm hk hk2
      have hsv : sv.size ≤ 100 := (HOK.out 0 (by decide)).len
      have hsp : sp.size ≤ 100 := (HOK.out 1 (by decide)).len
      obtain ⟨S, hS⟩ : ∃ S : ByteArray, ({ data := #[77, 83, 72, 124, 94, 126, 92, 38, 124, 124, 124, 124, 124, 124, 124, 65, 68, 84, 124] } : ByteArray) ++ { data := #[] } ++ { data := #[124] } ++ sp ++ { data := #[124] } ++ sv ++ { data := #[13] } = S := ⟨_, rfl⟩
      have hSC : bytesOf S = numsB (headCd false sp.data.toList sv.data.toList ++ [13]) := by rw [← hS]; exact concat_no sv sp
      have hOKv : OkC sv.data.toList := OkS.okC (HOK.out 0 (by decide))
      have hOKp : OkC sp.data.toList := OkS.okC (HOK.out 1 (by decide))
      have hSsz : S.size ≤ 1000 := by have h1 := bytesOf_length S; rw [hSC, numsB_len] at h1; have h2 := headCd_len false sp.data.toList sv.data.toList hOKp hOKv; simp at h1; omega
      have HSC := Aside0.mk hSC; have HSZ := Aside0.mk hSsz; have HOKV := Aside0.mk hOKv; have HOKP := Aside0.mk hOKp
      have kb := fun W : World => print_bytes (P := Tryd.prog) 9 26 5 Tryd.underlying9 Tryd.underlying26 Tryd.underlying5 S W
      clear hk hk2 hSC hSsz hOKv hOKp
      obtain ⟨wn, hwn⟩ : ∃ wn : World, wn = wr := ⟨_, rfl⟩
      rw [← hwn] at HWB HBLK ⊢
      clear hwn
      go_wp2_with (go_at_call 14; refine (msh_Versions.calls _ ?g).mono ?_; (case g => exact HG.out.below (bytes_below HWB.out HWB.out.size _ _)); rintro e w3 ⟨v0, rfl, hR, hb3⟩; obtain ⟨A3, c3, hv3⟩ := Kd.R_slice hR; (have hv3' : v0 = .slice A3 10 c3 := hv3); subst hv3'; (have hC3 := (Kd.R_reads' hR).2.2); (have HC3 : Aside0 (Kd.string.C w3 A3 10 versionsL) := ⟨hC3⟩); (have HB3 := Aside0.mk (below_step (bytes_below HWB.out HWB.out.size _ _) hb3)); (have HX3 := Aside0.mk (Kd.C_below (conv_C wn S (by have := HSZ.out; omega)) hb3)); clear hR hv3 hC3 hb3)
      obtain ⟨ad3, rfl, hjunk⟩ := Kd.at_string HC3.out 0 (by decide) (by decide)
      clear hjunk
      have HWB' := HWB; clear kb hS
      obtain ⟨wv, hwv⟩ : ∃ wv : World, wv = w3 := ⟨_, rfl⟩
      rw [← hwv] at HC3 HB3 HX3 ⊢
      clear hwv
      go_loopw [13, 78] (fun v13 v78 W => ∃ q : Nat, q ≤ 10 ∧ v78 = .int .i64 (q : Nat) ∧ v13 = .bool (Lib.containsS (versionsL.take q) sv) ∧ Aside0 (W = wv)) (fun _ v78 _ => mesC 10 v78)
      case atStart => exact ⟨0, Nat.zero_le _, rfl, rfl, ⟨rfl⟩⟩
      case round =>
        obtain ⟨q, hq, rfl, rfl, HWV⟩ := hrel
        obtain hWV := HWV.out
        subst hWV
        clear HWV
        rcases Nat.lt_or_ge q 10 with hq2 | hq2
        · have hsucc := versions_succ sv q hq2
          obtain ⟨kb, hkb⟩ : ∃ kb, kb = Lib.containsS (versionsL.take q) sv := ⟨_, rfl⟩
          obtain ⟨y, hy⟩ : ∃ y, y = versionsL.getD q ByteArray.empty := ⟨_, rfl⟩
          rw [← hkb, ← hy] at hsucc
          rw [← hkb]
          obtain ⟨ad', e', hcv⟩ := Kd.at_string HC3.out (q : Int) (by omega) (by omega)
          cases e'
          rw [Int.toNat_natCast, show rdOf ByteArray.empty versionsL (q : Int) = y by rw [hy]; rfl] at hcv
          have hlt : decide ((q : Int) < 10) = true := decide_eq_true (by omega)
          have hlt' : decide (q < 10) = true := decide_eq_true hq2
          have hwq : wrap64 ((q : Int) + 1) = (q : Int) + 1 := by unfold wrap64; omega
          obtain ⟨b2, hb2⟩ : ∃ b2, (y.toList == sv.toList) = b2 := ⟨_, rfl⟩
          rw [hb2] at hsucc
          have HS := Aside0.mk hsucc; have HQ := Aside0.mk hq2
          clear hsucc hq hkb hy
          cases kb
          · cases b2
            all_goals
              go_wp2
              go_roundw
              case rel => exact ⟨q + 1, HQ.out, by go_num, by rw [HS.out]; rfl, ⟨by first | rfl | trivial⟩⟩
              case measure => exact mesC_lt 10 q _ HQ.out (by first | exact hwq | rfl)
          · go_wp2
            go_roundw
            case rel => exact ⟨q + 1, HQ.out, by go_num, by rw [HS.out]; rfl, ⟨by first | rfl | trivial⟩⟩
            case measure => exact mesC_lt 10 q _ HQ.out (by first | exact hwq | rfl)
        · obtain rfl : q = 10 := Nat.le_antisymm hq hq2
          rw [show versionsL.take 10 = versionsL from rfl]
          clear hq hq2
          obtain ⟨er, her⟩ : ∃ er, er = errC false (Lib.containsS versionsL (strOf sv.data.toList)) (Lib.containsS processL (strOf sp.data.toList)) := ⟨_, rfl⟩
          have HV := Aside0.mk (verdict_codes false sp.data.toList sv.data.toList HOKP.out HOKV.out er her)
          have HT := Aside0.mk (stored_codes false sp.data.toList sv.data.toList HOKP.out HOKV.out er her)
          rw [strOf_toList, strOf_toList, process_codes] at her
          rw [← HSC.out] at HV HT
          obtain ⟨kn, hkn⟩ : ∃ kn, Lib.containsS versionsL sv = kn := ⟨_, rfl⟩
          rw [hkn] at her ⊢
          clear hkn
          obtain rfl : er = 14 := her
          have HV2 : Aside0 (accept_Verdict.f (bytesOf S) = some (124, 94, 126, 92, 38, ⟨#[]⟩, ⟨#[]⟩, ⟨#[]⟩, ⟨#[]⟩, ⟨#[]⟩, ⟨#[]⟩, ⟨#[65, 68, 84]⟩, strOf (idC false), sp, sv, ⟨#[65, 69]⟩, 14)) := ⟨HV.out⟩
          have HT2 : Aside0 (QStored.accept_Stored.f (bytesOf S) = some false) := ⟨by rw [HT.out, Lib.toList_data]; rfl⟩
          clear HV HT
          go_wp2_with (first
            | (go_at_call 13; refine (stored_lenC false (some ⟨wn.heap.size, 0, none⟩) S.size _ (bytesOf S) (bytesOf_length S) _ (HG.out.below HB5.out) HX5.out (grownCap_ge _ _ _ _) HT2.out).mono ?_; rintro e w6 ⟨rfl, hb6⟩; have HB6 := Aside0.mk (below_step HB5.out hb6); clear hb6)
            | (go_at_call 9; refine (law_alive.calls true _ (HG.out.below (below_alloc HB4.out _)) rfl).mono ?_; rintro e w5 ⟨rfl, hb5⟩; have HB5 := Aside0.mk (below_step (below_alloc HB4.out _) hb5); have HX5 := Aside0.mk (Kd.C_below (Kd.C_below HX4.out (below_alloc (Below.refl _ _) _)) hb5); clear hb5)
            | (go_at_call 10; refine (verdict_lenC 124 94 126 92 38 ⟨#[]⟩ ⟨#[]⟩ ⟨#[]⟩ ⟨#[]⟩ ⟨#[]⟩ ⟨#[]⟩ ⟨#[65, 68, 84]⟩ (strOf (idC false)) sp sv ⟨#[65, 69]⟩ 14 (some ⟨wn.heap.size, 0, none⟩) S.size _ (bytesOf S) (bytesOf_length S) _ (HG.out.below HB3.out) HX3.out (grownCap_ge _ _ _ _) HV2.out).mono ?_; rintro e w4 ⟨rfl, hb4⟩; have HB4 := Aside0.mk (below_step HB3.out hb4); have HX4 := Aside0.mk (Kd.C_below HX3.out hb4); clear hb4))
          go_ret
          exact ⟨rfl, HB6.out⟩
end
end Go.Proofs.YtciagecaegoppaaDoor
end
section
namespace Go.Proofs.YtciagecaegoppaaDoor
set_option linter.unusedVariables false
set_option linter.unusedSimpArgs false
set_option maxRecDepth 20000
open Go.RowKit Go.Proofs.YtciagecaegoppaaDoorW.PrintWords Go.Proofs.YtciagecaegoppaaDoorW.PrintLast Go.Proofs.YtciagecaegoppaaDoorW.PrintMore
theorem acceptCodes_walk (sv sp : ByteArray) (so : Bool) (w : World) (hG : GlobA w) (w0 : sv.size ≤ 140737488351232) (w1 : sp.size ≤ 140737488351232) :
    Calls Tryd.prog 6 #[.string sv, .string sp, .bool so] w fun e w' => e = .returned (.bool true) ∧ Below w.heap.size w w' := by
  by_cases h : OkS sv ∧ OkS sp
  · have hok : ∀ k, k < 2 → OkS ([sv, sp].getD k ByteArray.empty) := by
      intro k hk
      rcases k with _ | _ | k
      · exact h.1
      · exact h.2
      · omega
    cases so
    · exact codes_good_no sv sp w hG hok
    · exact codes_good_yes sv sp w hG hok
  · exact codes_bad sv sp so w hG h
end Go.Proofs.YtciagecaegoppaaDoor
end
section
namespace Go.Proofs.YtciagecaegoppaaDoor
set_option linter.unusedVariables false
open Go.RowKit

def strData {H : Type} (zs : List ByteArray) : DataW H := .agg (zs.map fun z => .lit (.string z.data.toList))
theorem cells_of_strs {H : Type} {enc : TypeId × Value → H} {P : Program} {w : World} {base : Nat} {sp : Nat → Bool} {held : Bool} {fuel : Nat} {t e : TypeId} {n : Nat} {cs : List Value} {zs : List ByteArray} {p : List MemPlace}
    (ht : P.underlying t = some (.array n e)) (he : P.underlying e = some .string) (hce : P.cellsOf e = 1) (hct : P.cellsOf t = n)
    (h : DataW.trod enc P w base sp held fuel t cs = some (strData zs, p)) : cs = zs.map fun z => Value.string z := by
  cases fuel with
  | zero => simp [DataW.trod] at h
  | succ fuel =>
    simp only [DataW.trod, ht, hce, hct, Nat.mul_one] at h
    split at h
    · rename_i hl
      obtain ⟨xs, hm, hx⟩ := Option.map_eq_some_iff.1 h
      have hxs : xs.map (·.1) = zs.map fun z => (DataW.lit (.string z.data.toList) : DataW H) := by
        have := congrArg Prod.fst hx
        simpa [strData] using this
      have hxl : xs.length = n := by simpa using Lib.mapM_length hm
      have hzl : zs.length = n := by
        have := congrArg List.length hxs
        simp at this
        omega
      apply List.ext_getElem?
      intro i
      by_cases hi : i < n
      · obtain ⟨b, hb, hf⟩ := Lib.mapM_at hm i i (by simp [hi])
        obtain ⟨s, hc, rfl, _⟩ := DataW.trod_string he hf
        have h1 : cs[i]? = some (.string s) := by
          have := congrArg (·[0]?) hc
          simpa [List.getElem?_take, List.getElem?_drop] using this
        have h2 : (xs.map (·.1))[i]? = some (DataW.lit (.string s.data.toList) : DataW H) := by simp [hb]
        rw [hxs] at h2
        simp only [List.getElem?_map, Option.map_eq_some_iff, DataW.lit.injEq, Lit.string.injEq] at h2
        obtain ⟨z', hz', hzz⟩ := h2
        have e : z' = s := WideShapes.bytes_inj hzz
        subst e
        simp [h1, hz']
      · rw [List.getElem?_eq_none (by omega), List.getElem?_eq_none (by simp; omega)]
    · cases h
theorem strs_of_head {P : Program} {W : World} {name : String} {zs : List ByteArray} {rest : List (String × DataW Unit)} {g : Nat} {t e : TypeId} {n : Nat}
    (hg : P.globalNamed name = some g) (hty : (P.globals[g]?).map (·.type) = some t) (ht : P.underlying t = some (.array n e)) (he : P.underlying e = some .string) (hce : P.cellsOf e = 1) (hct : P.cellsOf t = n)
    (h : laidMet P ((name, strData zs) :: rest) W) (i : Nat) (hi : i < zs.length) : W.cell? ⟨g, i, none⟩ = some (.string (zs.getD i ByteArray.empty)) := by
  obtain ⟨ps, ⟨g', t', cs, fuel, p, q, hg', ht', hvar, hd, _, _⟩, _⟩ := h
  obtain rfl := Option.some.inj (hg.symm.trans hg')
  obtain rfl := Option.some.inj (hty.symm.trans ht')
  have hc := cells_of_strs ht he hce hct hd
  have hv := World.var?_cell hg hvar i
  rw [hv, ← Array.getElem?_toList, hc]
  simp [List.getD, hi]

theorem glob_of {l : List (String × DataW Unit)} (hl : l = [("lamplighter/frame.ends", Rows.laid_lamplighter_frame_ends), ("lamplighter/msh.versions", Rows.laid_lamplighter_msh_versions), ("lamplighter/ack.codes", Rows.laid_lamplighter_ack_codes)]) {W : World} (h : laidMetH Tryd.prog l W) (hs : W.ShapedOpen Tryd.prog) : GlobA W := by
  subst hl
  have h1 : laidMet Tryd.prog [("lamplighter/frame.ends", Rows.laid_lamplighter_frame_ends), ("lamplighter/msh.versions", Rows.laid_lamplighter_msh_versions), ("lamplighter/ack.codes", Rows.laid_lamplighter_ack_codes)] W := h
  have h2 : laidMet Tryd.prog [("lamplighter/msh.versions", Rows.laid_lamplighter_msh_versions), ("lamplighter/ack.codes", Rows.laid_lamplighter_ack_codes)] W := h1.filter (fun x => x.1 != "lamplighter/frame.ends")
  have h3 : laidMet Tryd.prog [("lamplighter/ack.codes", Rows.laid_lamplighter_ack_codes)] W := h1.filter (fun x => x.1 == "lamplighter/ack.codes")
  have ht : Lib.TabIs Tryd.prog W "lamplighter/frame.ends" .u8 [28, 13] := Lib.tabIs_of_head (g := 1) (t := 73) (by kernel_rfl) (by kernel_rfl) Tryd.underlying73 Tryd.underlying5 (by kernel_rfl) (by kernel_rfl) h1
  refine ⟨⟨ht.cell (g := 1) (by kernel_rfl) 0 (by decide), ht.cell (g := 1) (by kernel_rfl) 1 (by decide), Tryd.laysM185.s1_3 W hs⟩, ?_, ?_⟩
  · exact fun j hj => strs_of_head (g := 2) (t := 99) (zs := codesL) (by kernel_rfl) (by kernel_rfl) Tryd.underlying99 Tryd.underlying9 (by kernel_rfl) (by kernel_rfl) h3 j hj
  · exact fun j hj => strs_of_head (g := 0) (t := 69) (zs := versionsL) (by kernel_rfl) (by kernel_rfl) Tryd.underlying69 Tryd.underlying9 (by kernel_rfl) (by kernel_rfl) h2 j hj
end Go.Proofs.YtciagecaegoppaaDoor
end
section
-- PRINTED WORDS (module Derived/Print/Sized.lean): go-gate-2's, for the rows of laws over slices: an AI agent of Go's test side, Tue Nov 17 2026; no person has read it. Lean checks it.
namespace Go.Proofs.YtciagecaegoppaaDoorW.PrintWords
open Go.ChangeShapes Go.WideShapes
end Go.Proofs.YtciagecaegoppaaDoorW.PrintWords
end
section
namespace Go.Proofs.YtciagecaegoppaaDoor.acceptCodes
open Go.ChangeShapes Go.WideShapes Go.ChangeAt Go.RowKit
open Go.ChangeMaps (open_string shut_string)
set_option linter.unusedVariables false
set_option linter.unusedSimpArgs false
theorem own : ownKnob Tryd.prog.godebug = none := by kernel_rfl
theorem laidOut : laidOutB Tryd.prog = true := by kernel_rfl
theorem glob {W : World} (h : laidMetH Tryd.prog Rows.acceptCodesRow.laid W) (hs : W.ShapedOpen Tryd.prog) : GlobA W := glob_of rfl h hs
set_option maxRecDepth 100000 in
theorem contract (H : Type) (enc : TypeId × Value → H) (W : World) (base : Nat) (args : Array Value) (ds gs : List (DataW H)) (before : List MemPlace)
    (hval0 : ∀ (j : Nat) t v, Tryd.f6.params[j]? = some t → args[j]? = some v → Value.okWide Tryd.prog W .any base t v)
    (hW : DataW.Whole enc Tryd.prog Tryd.f6.params.toList Rows.acceptCodesSpec.vars false W args.toList ds gs before)
    (hsz0 : (DataW.weightsEach Tryd.prog (Tryd.f6.params.toList ++ Rows.acceptCodesSpec.plain.varTypes Tryd.prog) (ds ++ gs)).all (· ≤ reachBytes) = true)
    (hG : GlobA W) :
    Calls Tryd.prog 6 args W fun e W' => ∃ v, e = .returned v ∧ Rows.acceptCodesSpec.post enc Tryd.prog Tryd.f6 false true false false W args v W' := by
  have hval : ∀ (j : Nat) t v, Tryd.f6.params[j]? = some t → args[j]? = some v → Value.okWide Tryd.prog W .any base t v := hval0
  have hsz : (DataW.weightsEach Tryd.prog (Tryd.f6.params.toList ++ Rows.acceptCodesSpec.plain.varTypes Tryd.prog) (ds ++ gs)).all (· ≤ reachBytes) = true := hsz0
  have hW' := hW
  obtain ⟨p, q, hA0, hV, rfl, hfz, hnd⟩ := hW
  have hA : DataW.TrodAll enc Tryd.prog W 0 (fun _ => true) true Tryd.f6.params.toList args.toList ds p := hA0
  rw [Tryd.params6] at hA hval hsz
  obtain ⟨v0, vs0, d0, ds0, p0, q0, hargs, rfl, rfl, h0, r0⟩ := trodAll_cons hA
  obtain ⟨v1, vs1, d1, ds1, p1, q1, rfl, rfl, rfl, h1, r1⟩ := trodAll_cons r0
  obtain ⟨v2, vs2, d2, ds2, p2, q2, rfl, rfl, rfl, h2, r2⟩ := trodAll_cons r1
  obtain ⟨rfl, rfl, rfl⟩ := trodAll_nil r2
  obtain rfl : args = #[v0, v1, v2] := by cases args; simp_all
  obtain ⟨rfl, rfl⟩ := trodVars_none hV
  obtain ⟨a0, rfl, rfl, rfl, y0⟩ := open_string Tryd.underlying9 (hval 0 9 v0 rfl rfl) h0
  have w0 : a0.size ≤ 140737488351232 := by
    have z := sized_string hsz (j := 0) (t := 9) rfl rfl
    rw [Array.length_toList] at z
    exact z
  obtain ⟨a1, rfl, rfl, rfl, y1⟩ := open_string Tryd.underlying9 (hval 1 9 v1 rfl rfl) h1
  have w1 : a1.size ≤ 140737488351232 := by
    have z := sized_string hsz (j := 1) (t := 9) rfl rfl
    rw [Array.length_toList] at z
    exact z
  obtain ⟨a2, rfl, rfl, rfl⟩ := open_bool Tryd.underlying4 (hval 2 4 v2 rfl rfl) h2
  clear hA0 hval0 hsz0 hsz
  refine (acceptCodes_walk a0 a1 a2 W hG w0 w1).mono fun e W' ⟨he, bel⟩ => ?_
  subst he
  exact ⟨_, rfl, _, _, _, [], _, [], hW', trodAll_mk1 (shut_bool Tryd.underlying4 _), (trodAll_cons_mk (shut_string Tryd.underlying9 y0) (trodAll_cons_mk (shut_string Tryd.underlying9 y1) (trodAll_cons_mk (shut_bool Tryd.underlying4 _) trodAll_mk0))), rfl, bel.frame _, fun h => by cases h⟩
/-- A world for the witness: the settled one, the listed variables holding what their initialisers lay. -/
noncomputable def laidWorld (os : Os) : World :=
  { World.holding Tryd.prog os ⟨#[], #[], []⟩ with heap := ((((World.holding Tryd.prog os ⟨#[], #[], []⟩).heap.modify 0 fun
      | .cells _ t frozen => .cells #[.string ⟨#[50, 46, 49]⟩, .string ⟨#[50, 46, 50]⟩, .string ⟨#[50, 46, 51]⟩, .string ⟨#[50, 46, 51, 46, 49]⟩, .string ⟨#[50, 46, 52]⟩, .string ⟨#[50, 46, 53]⟩, .string ⟨#[50, 46, 53, 46, 49]⟩, .string ⟨#[50, 46, 54]⟩, .string ⟨#[50, 46, 55]⟩, .string ⟨#[50, 46, 56]⟩] t frozen
      | o => o).modify 1 fun
      | .cells _ t frozen => .cells #[.int .u8 28, .int .u8 13] t frozen
      | o => o).modify 2 fun
      | .cells _ t frozen => .cells #[.string ⟨#[65, 65]⟩, .string ⟨#[65, 69]⟩, .string ⟨#[65, 82]⟩] t frozen
      | o => o) }
theorem laid_met (os : Os) : laidMet Tryd.prog Rows.acceptCodesRow.laid ((laidWorld os).forCall (fun _ _ => 0) ⟨#[], #[.string ByteArray.empty, .string ByteArray.empty, .bool false], []⟩).memory :=
  laidMet_of_run' 8 (by kernel_rfl) (by kernel_rfl)
theorem reads (os : Os) {H : Type} (enc : TypeId × Value → H) : ∃ places, DataW.whole enc Tryd.prog ((laidWorld os).forCall (fun _ _ => 0) ⟨#[], #[.string ByteArray.empty, .string ByteArray.empty, .bool false], []⟩).memory Tryd.f6.params.toList Rows.acceptCodesSpec.vars false (#[.string ByteArray.empty, .string ByteArray.empty, .bool false] : Array Value).toList 8 = some ([.lit (.string []), .lit (.string []), .lit (.bool false)], [], places) :=
  ⟨[], by kernel_rfl⟩
set_option maxRecDepth 100000 in
theorem lifted (os : Os) (started : os.Started) (H : Type) (enc : TypeId × Value → H) (F : Stop.Interp) :
    ReturnsInHanded {} Tryd.checked os 6 .any ((OpenSpec.ofChange Rows.acceptCodesSpec).preRow enc Tryd.prog Tryd.f6 Rows.acceptCodesRow.domain false Rows.acceptCodesRow.laid) (((OpenSpec.ofChange Rows.acceptCodesSpec).at F).post enc Tryd.prog Tryd.f6 false true false false) := by
  obtain ⟨places, hx⟩ := reads os enc
  refine returnsInHanded_of_row (C := Tryd.checked) (s := OpenSpec.ofChange Rows.acceptCodesSpec) own started (by kernel_rfl) Tryd.func6
    (witness_row_at (enc := enc) (C := Tryd.checked) false (laidWorld os) #[.string ByteArray.empty, .string ByteArray.empty, .bool false] rfl (by kernel_rfl) (by kernel_rfl) (by kernel_rfl)
      (OpenSpec.preRow_of_cond 8 hx (by kernel_rfl) (fun k hk => by cases hk) (by kernel_rfl) (laid_met os))) ?_
  intro W base args ds gs before hval hW _ hcond hsz hL hsh _
  exact contract H enc W base args ds gs before hval hW hsz (glob hL hsh)
theorem said : Rows.AcceptCodesSaid :=
  OpenClaim.holds_of_cond 6 Tryd.f6 rfl rfl rfl rfl rfl rfl rfl ⟨rfl, rfl, rfl, rfl, rfl⟩ rfl rfl rfl rfl rfl (by kernel_rfl) Tryd.func6 (by kernel_rfl)
    (of_decide_eq_true (by kernel_rfl)) (by unfold Func.isWrapper; rw [if_neg (of_decide_eq_false (by kernel_rfl))]; exact ⟨rfl, rfl⟩)
    (fun os started H enc _ F => by rw [OpenClaim.pre_eq_preRow]; exact lifted os started H enc F)
theorem plain (f : FuncId) (fn : Func) (hf : Tryd.pinned.checked.prog.funcNamed "lamplighter/lamplighterlaw11.AcceptCodes" = some f) (hfn : Tryd.pinned.checked.prog.funcs[f]? = some fn) :
    false = Tryd.pinned.checked.prog.looks [] ∧ ∀ (j : Nat) t, fn.params[j]? = some t → Tryd.pinned.checked.prog.wantsStandIn t = false := by
  obtain rfl : f = 6 := Option.some.inj ((show Tryd.prog.funcNamed "lamplighter/lamplighterlaw11.AcceptCodes" = some 6 by kernel_rfl).symm.trans hf) |>.symm
  obtain rfl : fn = Tryd.f6 := (Option.some.inj (Tryd.func6.symm.trans hfn)).symm
  refine ⟨by kernel_rfl, fun j t ht => ?_⟩
  rw [Tryd.params6] at ht
  have hm := Array.mem_of_getElem? ht
  have hm' : t = 9 ∨ t = 9 ∨ t = 4 := by simpa using hm
  rcases hm' with rfl | rfl | rfl
  · exact (show Tryd.prog.wantsStandIn 9 = false by kernel_rfl)
  · exact (show Tryd.prog.wantsStandIn 9 = false by kernel_rfl)
  · exact (show Tryd.prog.wantsStandIn 4 = false by kernel_rfl)
theorem card : Rows.AcceptCodesCardSaid :=
  Claim7.holds_tied_plain_at .later [] _ _ _ _ said (fun _ h => by cases h) (by kernel_rfl) (fun _ h => by cases h) acceptCodes_row_tie rfl ⟨rfl, rfl⟩ (by kernel_rfl) rfl plain (by kernel_rfl)
#print axioms card
end Go.Proofs.YtciagecaegoppaaDoor.acceptCodes
namespace Go.Proofs.YtciagecaegoppaaDoor
/-- The card, under a short name, for the claim. -/
theorem acceptCodes_card : Rows.AcceptCodesCardSaid := acceptCodes.card
end Go.Proofs.YtciagecaegoppaaDoor
end
