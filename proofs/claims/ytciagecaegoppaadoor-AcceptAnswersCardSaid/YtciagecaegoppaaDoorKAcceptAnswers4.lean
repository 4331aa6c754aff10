/- A part of what the law AcceptAnswers rests on: QReplyx2, Alive, Tot, Tot2, QStoredx0, QStoredx1, QReadx0, QReadx1, QAcceptAnswersx0, QAcceptAnswersx1. Conditions: each theorem's own. -/
import Derived.Test.YtciagecaegoppaaDoorKAcceptAnswers3
import Derived.Test.YtciagecaegoppaaDoorProg
import Derived.Test.YtciagecaegoppaaDoorKAcceptAnswers1
import Derived.Lib.SlBytesConst
import Derived.Below
import Derived.Deep.Draws
import Derived.Deep.AppendLies
import Derived.Maps.AppendAt
import Derived.OwnWalk
import Derived.Laws.BytesArg
import Derived.Laws.MakeOwn
import Derived.Laws.OwnMore
import Derived.Deep.OwnRows
import Derived.Tactics
import Derived.Lib.ConvBytes
import Derived.Laws.Slices
import Derived.WalkKit
import Derived.KernelRfl
import Derived.RowKit3
import Derived.Deep.LoopGhost
import Derived.Deep.QuietTactic
import Derived.BigQuiet
import Derived.WideLaws
import Derived.Deep.DeepCutAuto
import Derived.Deep.CutBlock
import Derived.Deep.RegionHeld3
import Derived.Laws.Rows
import Derived.Lib.AppendStr
import Derived.ArgAppend
import Derived.Laws.IdiomCopy
import Derived.OrdersHeld
import Derived.Laws.BitsLemmas
import Derived.RowKit
section
namespace Go.Proofs.YtciagecaegoppaaDoor.QReply
open Go.RowKit Go.Proofs.YtciagecaegoppaaDoorW.PrintWords Go.Proofs.YtciagecaegoppaaDoorW.PrintLast Go.Proofs.YtciagecaegoppaaDoorW.PrintMore
attribute [local go_sem] max2_int min2_int max_two min_two max_three min_three max_four min_four   -- for this text's walks alone
set_option linter.unusedVariables false
set_option linter.unusedSimpArgs false

mutual
def accept_Reply.j0 : Nat → Bool → ByteArray → Bool → Int → Int → Int → Int → Int → ByteArray → ByteArray → ByteArray → ByteArray → ByteArray → ByteArray → ByteArray → ByteArray → ByteArray → ByteArray → Option (List Int × Bool)
  | 0, _, _, _, _, _, _, _, _, _, _, _, _, _, _, _, _, _, _ => none
  | k + 1, x1, x7, x24, x134000, x134001, x134002, x134003, x134004, x134005, x134006, x134007, x134008, x134009, x134010, x134011, x134012, x134013, x134014 => if x24 = true then (some (([] : List Int), false)) else (if x7.toList = ([65, 65] : List UInt8) then (accept_Reply.j1 k x7 (!x1) x134000 x134001 x134002 x134003 x134004 x134005 x134006 x134007 x134008 x134009 x134010 x134011 x134012 x134013 x134014) else (accept_Reply.j1 k x7 false x134000 x134001 x134002 x134003 x134004 x134005 x134006 x134007 x134008 x134009 x134010 x134011 x134012 x134013 x134014))
def accept_Reply.j1 : Nat → ByteArray → Bool → Int → Int → Int → Int → Int → ByteArray → ByteArray → ByteArray → ByteArray → ByteArray → ByteArray → ByteArray → ByteArray → ByteArray → ByteArray → Option (List Int × Bool)
  | 0, _, _, _, _, _, _, _, _, _, _, _, _, _, _, _, _, _ => none
  | k + 1, x7, x30, x134000, x134001, x134002, x134003, x134004, x134005, x134006, x134007, x134008, x134009, x134010, x134011, x134012, x134013, x134014 => if x30 = true then (accept_Reply.j2 k (⟨#[65, 69]⟩ : ByteArray) x134000 x134001 x134002 x134003 x134004 x134005 x134006 x134007 x134008 x134009 x134010 x134011 x134012 x134013 x134014) else (accept_Reply.j2 k x7 x134000 x134001 x134002 x134003 x134004 x134005 x134006 x134007 x134008 x134009 x134010 x134011 x134012 x134013 x134014)
def accept_Reply.j2 : Nat → ByteArray → Int → Int → Int → Int → Int → ByteArray → ByteArray → ByteArray → ByteArray → ByteArray → ByteArray → ByteArray → ByteArray → ByteArray → ByteArray → Option (List Int × Bool)
  | 0, _, _, _, _, _, _, _, _, _, _, _, _, _, _, _, _ => none
  | k + 1, x7, x134000, x134001, x134002, x134003, x134004, x134005, x134006, x134007, x134008, x134009, x134010, x134011, x134012, x134013, x134014 => (ack_Build.f k x134000 x134001 x134002 x134003 x134004 x134005 x134006 x134007 x134008 x134009 x134010 x134011 x134012 x134013 x134014 x7).bind fun bt135 => (if bt135.2 = 0 then ((frameA_Wrap.f bt135.1).bind fun bt139 => (some (bt139.1, (bt139.2 == 0)))) else (some (([] : List Int), false)))
end
def accept_Reply.f (k : Nat) (l0 : List Int) (a1 : Bool) : Option (List Int × Bool) := (accept_Verdict.f l0).bind fun bt116 => (if bt116.2.2.2.2.2.2.2.2.2.2.2.2.2.2.2.1.toList = ([] : List UInt8) then (accept_Reply.j0 k a1 bt116.2.2.2.2.2.2.2.2.2.2.2.2.2.2.2.1 true bt116.1 bt116.2.1 bt116.2.2.1 bt116.2.2.2.1 bt116.2.2.2.2.1 bt116.2.2.2.2.2.1 bt116.2.2.2.2.2.2.1 bt116.2.2.2.2.2.2.2.1 bt116.2.2.2.2.2.2.2.2.1 bt116.2.2.2.2.2.2.2.2.2.1 bt116.2.2.2.2.2.2.2.2.2.2.1 bt116.2.2.2.2.2.2.2.2.2.2.2.1 bt116.2.2.2.2.2.2.2.2.2.2.2.2.1 bt116.2.2.2.2.2.2.2.2.2.2.2.2.2.1 bt116.2.2.2.2.2.2.2.2.2.2.2.2.2.2.1) else ((frameA_Good.f l0).bind fun t134 => (accept_Reply.j0 k a1 bt116.2.2.2.2.2.2.2.2.2.2.2.2.2.2.2.1 (!t134) bt116.1 bt116.2.1 bt116.2.2.1 bt116.2.2.2.1 bt116.2.2.2.2.1 bt116.2.2.2.2.2.1 bt116.2.2.2.2.2.2.1 bt116.2.2.2.2.2.2.2.1 bt116.2.2.2.2.2.2.2.2.1 bt116.2.2.2.2.2.2.2.2.2.1 bt116.2.2.2.2.2.2.2.2.2.2.1 bt116.2.2.2.2.2.2.2.2.2.2.2.1 bt116.2.2.2.2.2.2.2.2.2.2.2.2.1 bt116.2.2.2.2.2.2.2.2.2.2.2.2.2.1 bt116.2.2.2.2.2.2.2.2.2.2.2.2.2.2.1)))
theorem accept_Reply.mono_l : ∀ k, (∀ y0 y1 y2 y3 y4 y5 y6 y7 y8 y9 y10 y11 y12 y13 y14 y15 y16 y17, LeO (accept_Reply.j0 k y0 y1 y2 y3 y4 y5 y6 y7 y8 y9 y10 y11 y12 y13 y14 y15 y16 y17) (accept_Reply.j0 (k + 1) y0 y1 y2 y3 y4 y5 y6 y7 y8 y9 y10 y11 y12 y13 y14 y15 y16 y17)) ∧ (∀ y0 y1 y2 y3 y4 y5 y6 y7 y8 y9 y10 y11 y12 y13 y14 y15 y16, LeO (accept_Reply.j1 k y0 y1 y2 y3 y4 y5 y6 y7 y8 y9 y10 y11 y12 y13 y14 y15 y16) (accept_Reply.j1 (k + 1) y0 y1 y2 y3 y4 y5 y6 y7 y8 y9 y10 y11 y12 y13 y14 y15 y16)) ∧ (∀ y0 y1 y2 y3 y4 y5 y6 y7 y8 y9 y10 y11 y12 y13 y14 y15, LeO (accept_Reply.j2 k y0 y1 y2 y3 y4 y5 y6 y7 y8 y9 y10 y11 y12 y13 y14 y15) (accept_Reply.j2 (k + 1) y0 y1 y2 y3 y4 y5 y6 y7 y8 y9 y10 y11 y12 y13 y14 y15))
  | 0 => ⟨fun _ _ _ _ _ _ _ _ _ _ _ _ _ _ _ _ _ _ r h => by simp [accept_Reply.j0] at h, fun _ _ _ _ _ _ _ _ _ _ _ _ _ _ _ _ _ r h => by simp [accept_Reply.j1] at h, fun _ _ _ _ _ _ _ _ _ _ _ _ _ _ _ _ r h => by simp [accept_Reply.j2] at h⟩
  | k + 1 => by
    obtain ⟨ih0, ih1, ih2⟩ := accept_Reply.mono_l k
    refine ⟨?_, ?_, ?_⟩
    · intro y0 y1 y2 y3 y4 y5 y6 y7 y8 y9 y10 y11 y12 y13 y14 y15 y16 y17
      unfold accept_Reply.j0
      repeat' first
      | (with_reducible exact ih0 _ _ _ _ _ _ _ _ _ _ _ _ _ _ _ _ _ _)
      | (with_reducible exact ih1 _ _ _ _ _ _ _ _ _ _ _ _ _ _ _ _ _)
      | (with_reducible exact ih2 _ _ _ _ _ _ _ _ _ _ _ _ _ _ _ _)
      | (with_reducible exact ack_Build.mono _ _ _ _ _ _ _ _ _ _ _ _ _ _ _ _ _)
      | (with_reducible exact LeO.refl _)
      | (with_reducible exact LeO.none _)
      | (with_reducible refine LeO.ite ?_ ?_)
      | (with_reducible refine LeO.bind ?_ (fun _ => ?_))
      | exact ih0 _ _ _ _ _ _ _ _ _ _ _ _ _ _ _ _ _ _
      | exact ih1 _ _ _ _ _ _ _ _ _ _ _ _ _ _ _ _ _
      | exact ih2 _ _ _ _ _ _ _ _ _ _ _ _ _ _ _ _
      | exact ack_Build.mono _ _ _ _ _ _ _ _ _ _ _ _ _ _ _ _ _
      | exact LeO.none _
      | refine LeO.ite ?_ ?_
      | refine LeO.bind ?_ (fun _ => ?_)
    · intro y0 y1 y2 y3 y4 y5 y6 y7 y8 y9 y10 y11 y12 y13 y14 y15 y16
      unfold accept_Reply.j1
      repeat' first
      | (with_reducible exact ih0 _ _ _ _ _ _ _ _ _ _ _ _ _ _ _ _ _ _)
      | (with_reducible exact ih1 _ _ _ _ _ _ _ _ _ _ _ _ _ _ _ _ _)
      | (with_reducible exact ih2 _ _ _ _ _ _ _ _ _ _ _ _ _ _ _ _)
      | (with_reducible exact ack_Build.mono _ _ _ _ _ _ _ _ _ _ _ _ _ _ _ _ _)
      | (with_reducible exact LeO.refl _)
      | (with_reducible exact LeO.none _)
      | (with_reducible refine LeO.ite ?_ ?_)
      | (with_reducible refine LeO.bind ?_ (fun _ => ?_))
      | exact ih0 _ _ _ _ _ _ _ _ _ _ _ _ _ _ _ _ _ _
      | exact ih1 _ _ _ _ _ _ _ _ _ _ _ _ _ _ _ _ _
      | exact ih2 _ _ _ _ _ _ _ _ _ _ _ _ _ _ _ _
      | exact ack_Build.mono _ _ _ _ _ _ _ _ _ _ _ _ _ _ _ _ _
      | exact LeO.none _
      | refine LeO.ite ?_ ?_
      | refine LeO.bind ?_ (fun _ => ?_)
    · intro y0 y1 y2 y3 y4 y5 y6 y7 y8 y9 y10 y11 y12 y13 y14 y15
      unfold accept_Reply.j2
      repeat' first
      | (with_reducible exact ih0 _ _ _ _ _ _ _ _ _ _ _ _ _ _ _ _ _ _)
      | (with_reducible exact ih1 _ _ _ _ _ _ _ _ _ _ _ _ _ _ _ _ _)
      | (with_reducible exact ih2 _ _ _ _ _ _ _ _ _ _ _ _ _ _ _ _)
      | (with_reducible exact ack_Build.mono _ _ _ _ _ _ _ _ _ _ _ _ _ _ _ _ _)
      | (with_reducible exact LeO.refl _)
      | (with_reducible exact LeO.none _)
      | (with_reducible refine LeO.ite ?_ ?_)
      | (with_reducible refine LeO.bind ?_ (fun _ => ?_))
      | exact ih0 _ _ _ _ _ _ _ _ _ _ _ _ _ _ _ _ _ _
      | exact ih1 _ _ _ _ _ _ _ _ _ _ _ _ _ _ _ _ _
      | exact ih2 _ _ _ _ _ _ _ _ _ _ _ _ _ _ _ _
      | exact ack_Build.mono _ _ _ _ _ _ _ _ _ _ _ _ _ _ _ _ _
      | exact LeO.none _
      | refine LeO.ite ?_ ?_
      | refine LeO.bind ?_ (fun _ => ?_)
theorem accept_Reply.mono : ∀ a0 a1 k, LeO (accept_Reply.f k a0 a1) (accept_Reply.f (k + 1) a0 a1) := by
  intro a0 a1 k
  obtain ⟨ih0, ih1, ih2⟩ := accept_Reply.mono_l k
  unfold accept_Reply.f
  repeat' first
      | (with_reducible exact ih0 _ _ _ _ _ _ _ _ _ _ _ _ _ _ _ _ _ _)
      | (with_reducible exact ih1 _ _ _ _ _ _ _ _ _ _ _ _ _ _ _ _ _)
      | (with_reducible exact ih2 _ _ _ _ _ _ _ _ _ _ _ _ _ _ _ _)
      | (with_reducible exact ack_Build.mono _ _ _ _ _ _ _ _ _ _ _ _ _ _ _ _ _)
      | (with_reducible exact LeO.refl _)
      | (with_reducible exact LeO.none _)
      | (with_reducible refine LeO.ite ?_ ?_)
      | (with_reducible refine LeO.bind ?_ (fun _ => ?_))
      | exact ih0 _ _ _ _ _ _ _ _ _ _ _ _ _ _ _ _ _ _
      | exact ih1 _ _ _ _ _ _ _ _ _ _ _ _ _ _ _ _ _
      | exact ih2 _ _ _ _ _ _ _ _ _ _ _ _ _ _ _ _
      | exact ack_Build.mono _ _ _ _ _ _ _ _ _ _ _ _ _ _ _ _ _
      | exact LeO.none _
      | refine LeO.ite ?_ ?_
      | refine LeO.bind ?_ (fun _ => ?_)
set_option maxHeartbeats 8000000 in
set_option maxRecDepth 100000 in
theorem accept_Reply.calls (k : Nat) (A0 : Option Addr) (c0 : Nat) (l0 : List Int) (a1 : Bool) (r1 : List Int) (r2 : Bool) (w : World) (hG : GlobA w) (hr0 : Kd.C (Kd.int .u8) w A0 l0.length l0) (hc0 : l0.length ≤ c0) (h : accept_Reply.f k l0 a1 = some (r1, r2)) :
    Calls Tryd.prog 12 #[.slice A0 l0.length c0, .bool a1] w fun e w' => ∃ v0_ : Value, e = .returned (.tuple #[v0_, .bool r2]) ∧ Kd.R (Kd.int .u8) 5 w' w.heap.size (fun _ => True) v0_ r1 ∧ Below w.heap.size w w' := by
  have hu25 := Tryd.underlying25
  have HR0 := Aside0.mk hr0
  have HC0 := Aside0.mk hc0
  clear hr0 hc0
  have HG := Aside0.mk hG
  clear hG
  have HB := Aside0.mk (Below.refl w.heap.size w)
  have H : ((accept_Verdict.f l0).bind fun bt116 => (if bt116.2.2.2.2.2.2.2.2.2.2.2.2.2.2.2.1.toList = ([] : List UInt8) then (accept_Reply.j0 k a1 bt116.2.2.2.2.2.2.2.2.2.2.2.2.2.2.2.1 true bt116.1 bt116.2.1 bt116.2.2.1 bt116.2.2.2.1 bt116.2.2.2.2.1 bt116.2.2.2.2.2.1 bt116.2.2.2.2.2.2.1 bt116.2.2.2.2.2.2.2.1 bt116.2.2.2.2.2.2.2.2.1 bt116.2.2.2.2.2.2.2.2.2.1 bt116.2.2.2.2.2.2.2.2.2.2.1 bt116.2.2.2.2.2.2.2.2.2.2.2.1 bt116.2.2.2.2.2.2.2.2.2.2.2.2.1 bt116.2.2.2.2.2.2.2.2.2.2.2.2.2.1 bt116.2.2.2.2.2.2.2.2.2.2.2.2.2.2.1) else ((frameA_Good.f l0).bind fun t134 => (accept_Reply.j0 k a1 bt116.2.2.2.2.2.2.2.2.2.2.2.2.2.2.2.1 (!t134) bt116.1 bt116.2.1 bt116.2.2.1 bt116.2.2.2.1 bt116.2.2.2.2.1 bt116.2.2.2.2.2.1 bt116.2.2.2.2.2.2.1 bt116.2.2.2.2.2.2.2.1 bt116.2.2.2.2.2.2.2.2.1 bt116.2.2.2.2.2.2.2.2.2.1 bt116.2.2.2.2.2.2.2.2.2.2.1 bt116.2.2.2.2.2.2.2.2.2.2.2.1 bt116.2.2.2.2.2.2.2.2.2.2.2.2.1 bt116.2.2.2.2.2.2.2.2.2.2.2.2.2.1 bt116.2.2.2.2.2.2.2.2.2.2.2.2.2.2.1)))) = some (r1, r2) := h
  clear h
  replace H := Option.bind_eq_some_iff.mp H
  obtain ⟨⟨t116, t117, t118, t119, t120, t121, t122, t123, t124, t125, t126, t127, t128, t129, t130, t131, t132⟩, A30, H⟩ := H
  replace H : (if t131.toList = ([] : List UInt8) then (accept_Reply.j0 k a1 t131 true t116 t117 t118 t119 t120 t121 t122 t123 t124 t125 t126 t127 t128 t129 t130) else ((frameA_Good.f l0).bind fun t134 => (accept_Reply.j0 k a1 t131 (!t134) t116 t117 t118 t119 t120 t121 t122 t123 t124 t125 t126 t127 t128 t129 t130))) = some (r1, r2) := H
  have A3 := Aside0.mk A30
  clear A30
  have HC4 := Aside0.mk H
  clear H
  go_enter Tryd.func12, Tryd.ntmps12
  go_upto_region 2 with (first | ((with_reducible refine gate_callee (f := 10) rfl ?_); refine goesL_ (some 14) rfl rfl Tryd.func10 (by kernel_rfl) rfl #[.slice A0 l0.length c0] rfl (by (try simp only [List.map_toArray, List.map_cons, List.map_nil]); first | done | rfl | (simp only [List.length_drop, List.length_take]; rfl)) ?_; (with_reducible refine (accept_Verdict.calls _ _ l0 t116 t117 t118 t119 t120 t121 t122 t123 t124 t125 t126 t127 t128 t129 t130 t131 t132 _ ?side3 ?side1 ?side2 A3.out).mono ?_); (case side1 => repeat (first | exact HR0.out | (with_reducible refine Kd.C_alloc ?_ _) | (with_reducible refine Kd.C_drewN ?_ _) | (with_reducible refine Kd.C_drew ?_))); (case side2 => exact HC0.out); (case side3 => exact GlobA.below HG.out (by repeat (first | (with_reducible first | exact HB.out | apply below_alloc | apply pw_below_drewN | apply below_drew1) | exact HB.out))); rintro e w5 ⟨rfl, hb⟩; refine ⟨_, rfl, ?_⟩; have n0_ := Aside0.mk (below_step (by repeat (first | (with_reducible first | exact HB.out | apply below_alloc | apply pw_below_drewN | apply below_drew1) | exact HB.out)) hb); clear HB; have HB := n0_; clear n0_; (try clear hb); (try clear hb2); (try clear hk); (try clear hi)) | ((with_reducible refine gate_dst (N := 6) rfl ?_); refine box_event ?hg (N := 6) ?hd (cs := #[.int .u8 0, .int .u8 0, .int .u8 0, .int .u8 0, .int .u8 0, .string (⟨#[]⟩ : ByteArray), .string (⟨#[]⟩ : ByteArray), .string (⟨#[]⟩ : ByteArray), .string (⟨#[]⟩ : ByteArray), .string (⟨#[]⟩ : ByteArray), .string (⟨#[]⟩ : ByteArray), .string (⟨#[]⟩ : ByteArray), .string (⟨#[]⟩ : ByteArray), .string (⟨#[]⟩ : ByteArray), .string (⟨#[]⟩ : ByteArray)]) (t := 25) ?hr ?_; (case hd => rfl); (case hg => rfl); (case hr => first | (go_simp; done) | (go_simp; rfl)); intro gb133 hg w6 hbox hb; have n0_ := Aside0.mk (below_step (by repeat (first | (with_reducible first | exact HB.out | apply below_alloc | apply pw_below_drewN | apply below_drew1) | exact HB.out)) hb); have n1_ := Aside0.mk (hbox); have n2_ := Aside0.mk ((by rw [hg]; exact (below_size (by repeat (first | (with_reducible first | exact HB.out | apply below_alloc | apply pw_below_drewN | apply below_drew1) | exact HB.out))) : w.heap.size ≤ gb133)); have n3_ := Aside0.mk ((by rw [hg]; exact (below_size (by repeat (first | (with_reducible first | exact HB.out | apply below_alloc | apply pw_below_drewN | apply below_drew1) | exact HB.out))) : w.heap.size ≤ gb133)); clear HB; have HB := n0_; have BK133 := n1_; have GW133 := n2_; have GE133 := n3_; clear n0_ n1_ n2_ n3_; clear hb hbox hg; have hcz7_0 : w6.cell? ⟨gb133, 0, none⟩ = some (.int .u8 0) := (blk_cell BK133.out 0).trans rfl; have hcz7_1 : w6.cell? ⟨gb133, 1, none⟩ = some (.int .u8 0) := (blk_cell BK133.out 1).trans rfl; have hcz7_2 : w6.cell? ⟨gb133, 2, none⟩ = some (.int .u8 0) := (blk_cell BK133.out 2).trans rfl; have hcz7_3 : w6.cell? ⟨gb133, 3, none⟩ = some (.int .u8 0) := (blk_cell BK133.out 3).trans rfl; have hcz7_4 : w6.cell? ⟨gb133, 4, none⟩ = some (.int .u8 0) := (blk_cell BK133.out 4).trans rfl; have hcz7_5 : w6.cell? ⟨gb133, 5, none⟩ = some (.string (⟨#[]⟩ : ByteArray)) := (blk_cell BK133.out 5).trans rfl; have hcz7_6 : w6.cell? ⟨gb133, 6, none⟩ = some (.string (⟨#[]⟩ : ByteArray)) := (blk_cell BK133.out 6).trans rfl; have hcz7_7 : w6.cell? ⟨gb133, 7, none⟩ = some (.string (⟨#[]⟩ : ByteArray)) := (blk_cell BK133.out 7).trans rfl; have hcz7_8 : w6.cell? ⟨gb133, 8, none⟩ = some (.string (⟨#[]⟩ : ByteArray)) := (blk_cell BK133.out 8).trans rfl; have hcz7_9 : w6.cell? ⟨gb133, 9, none⟩ = some (.string (⟨#[]⟩ : ByteArray)) := (blk_cell BK133.out 9).trans rfl; have hcz7_10 : w6.cell? ⟨gb133, 10, none⟩ = some (.string (⟨#[]⟩ : ByteArray)) := (blk_cell BK133.out 10).trans rfl; have hcz7_11 : w6.cell? ⟨gb133, 11, none⟩ = some (.string (⟨#[]⟩ : ByteArray)) := (blk_cell BK133.out 11).trans rfl; have hcz7_12 : w6.cell? ⟨gb133, 12, none⟩ = some (.string (⟨#[]⟩ : ByteArray)) := (blk_cell BK133.out 12).trans rfl; have hcz7_13 : w6.cell? ⟨gb133, 13, none⟩ = some (.string (⟨#[]⟩ : ByteArray)) := (blk_cell BK133.out 13).trans rfl; have hcz7_14 : w6.cell? ⟨gb133, 14, none⟩ = some (.string (⟨#[]⟩ : ByteArray)) := (blk_cell BK133.out 14).trans rfl; have hfz7_0 := blk_frozen BK133.out 0; have hfz7_1 := blk_frozen BK133.out 1; have hfz7_2 := blk_frozen BK133.out 2; have hfz7_3 := blk_frozen BK133.out 3; have hfz7_4 := blk_frozen BK133.out 4; have hfz7_5 := blk_frozen BK133.out 5; have hfz7_6 := blk_frozen BK133.out 6; have hfz7_7 := blk_frozen BK133.out 7; have hfz7_8 := blk_frozen BK133.out 8; have hfz7_9 := blk_frozen BK133.out 9; have hfz7_10 := blk_frozen BK133.out 10; have hfz7_11 := blk_frozen BK133.out 11; have hfz7_12 := blk_frozen BK133.out 12; have hfz7_13 := blk_frozen BK133.out 13; have hfz7_14 := blk_frozen BK133.out 14))
  (try simp only [Act.put, List.setIfInBounds_toArray, List.set_cons_zero, List.set_cons_succ])
  go_cut [24] (fun v24 wc => ∃ (kq : Nat) (x24_3 : Bool), v24 = .bool x24_3 ∧ Aside0 (accept_Reply.j0 kq a1 t131 x24_3 t116 t117 t118 t119 t120 t121 t122 t123 t124 t125 t126 t127 t128 t129 t130 = some (r1, r2)) ∧ Aside0 (kq ≤ k) ∧ Aside0 (wc.heap[gb133]? = some (.cells #[.int .u8 t116, .int .u8 t117, .int .u8 t118, .int .u8 t119, .int .u8 t120, .string t121, .string t122, .string t123, .string t124, .string t125, .string t126, .string t127, .string t128, .string t129, .string t130] 25 (0, 0))) ∧ Aside0 (Below w.heap.size w wc))
  case first =>
    have H := HC4.out
    clear HC4
    by_cases c8 : t131.toList = ([] : List UInt8)
    · rw [if_pos c8] at H
      have c8b0 : (t131.toList == ([] : List UInt8)) = true := beq_iff_eq.mpr c8
      have c8b1 : (t131.toList != ([] : List UInt8)) = false := bne_eq_false_iff_eq.mpr c8
      clear c8
      (first | rw [c8b0] | (simp only [i64_w, i32_w]; rw [c8b0]) | skip)
      have H' := Aside0.mk H
      clear H
      go_wp2
      go_meet
      case rel => exact ⟨_, (true), (by first | rfl | (simp; done) | (simp [*]; done)), H', ⟨by first | omega | exact Nat.le_refl _⟩, ⟨by (with_reducible repeat (first | refine blk_drewN ?_ _ | refine blk_drew ?_ | refine blk_alloc ?_ _)); refine blk_put (cs := #[.int .u8 t116, .int .u8 t117, .int .u8 t118, .int .u8 t119, .int .u8 t120, .string t121, .string t122, .string t123, .string t124, .string t125, .string t126, .string t127, .string t128, .string t129, .string (⟨#[]⟩ : ByteArray)]) ?_ 14 _ rfl; (with_reducible repeat (first | refine blk_drewN ?_ _ | refine blk_drew ?_ | refine blk_alloc ?_ _)); refine blk_put (cs := #[.int .u8 t116, .int .u8 t117, .int .u8 t118, .int .u8 t119, .int .u8 t120, .string t121, .string t122, .string t123, .string t124, .string t125, .string t126, .string t127, .string t128, .string (⟨#[]⟩ : ByteArray), .string (⟨#[]⟩ : ByteArray)]) ?_ 13 _ rfl; (with_reducible repeat (first | refine blk_drewN ?_ _ | refine blk_drew ?_ | refine blk_alloc ?_ _)); refine blk_put (cs := #[.int .u8 t116, .int .u8 t117, .int .u8 t118, .int .u8 t119, .int .u8 t120, .string t121, .string t122, .string t123, .string t124, .string t125, .string t126, .string t127, .string (⟨#[]⟩ : ByteArray), .string (⟨#[]⟩ : ByteArray), .string (⟨#[]⟩ : ByteArray)]) ?_ 12 _ rfl; (with_reducible repeat (first | refine blk_drewN ?_ _ | refine blk_drew ?_ | refine blk_alloc ?_ _)); refine blk_put (cs := #[.int .u8 t116, .int .u8 t117, .int .u8 t118, .int .u8 t119, .int .u8 t120, .string t121, .string t122, .string t123, .string t124, .string t125, .string t126, .string (⟨#[]⟩ : ByteArray), .string (⟨#[]⟩ : ByteArray), .string (⟨#[]⟩ : ByteArray), .string (⟨#[]⟩ : ByteArray)]) ?_ 11 _ rfl; (with_reducible repeat (first | refine blk_drewN ?_ _ | refine blk_drew ?_ | refine blk_alloc ?_ _)); refine blk_put (cs := #[.int .u8 t116, .int .u8 t117, .int .u8 t118, .int .u8 t119, .int .u8 t120, .string t121, .string t122, .string t123, .string t124, .string t125, .string (⟨#[]⟩ : ByteArray), .string (⟨#[]⟩ : ByteArray), .string (⟨#[]⟩ : ByteArray), .string (⟨#[]⟩ : ByteArray), .string (⟨#[]⟩ : ByteArray)]) ?_ 10 _ rfl; (with_reducible repeat (first | refine blk_drewN ?_ _ | refine blk_drew ?_ | refine blk_alloc ?_ _)); refine blk_put (cs := #[.int .u8 t116, .int .u8 t117, .int .u8 t118, .int .u8 t119, .int .u8 t120, .string t121, .string t122, .string t123, .string t124, .string (⟨#[]⟩ : ByteArray), .string (⟨#[]⟩ : ByteArray), .string (⟨#[]⟩ : ByteArray), .string (⟨#[]⟩ : ByteArray), .string (⟨#[]⟩ : ByteArray), .string (⟨#[]⟩ : ByteArray)]) ?_ 9 _ rfl; (with_reducible repeat (first | refine blk_drewN ?_ _ | refine blk_drew ?_ | refine blk_alloc ?_ _)); refine blk_put (cs := #[.int .u8 t116, .int .u8 t117, .int .u8 t118, .int .u8 t119, .int .u8 t120, .string t121, .string t122, .string t123, .string (⟨#[]⟩ : ByteArray), .string (⟨#[]⟩ : ByteArray), .string (⟨#[]⟩ : ByteArray), .string (⟨#[]⟩ : ByteArray), .string (⟨#[]⟩ : ByteArray), .string (⟨#[]⟩ : ByteArray), .string (⟨#[]⟩ : ByteArray)]) ?_ 8 _ rfl; (with_reducible repeat (first | refine blk_drewN ?_ _ | refine blk_drew ?_ | refine blk_alloc ?_ _)); refine blk_put (cs := #[.int .u8 t116, .int .u8 t117, .int .u8 t118, .int .u8 t119, .int .u8 t120, .string t121, .string t122, .string (⟨#[]⟩ : ByteArray), .string (⟨#[]⟩ : ByteArray), .string (⟨#[]⟩ : ByteArray), .string (⟨#[]⟩ : ByteArray), .string (⟨#[]⟩ : ByteArray), .string (⟨#[]⟩ : ByteArray), .string (⟨#[]⟩ : ByteArray), .string (⟨#[]⟩ : ByteArray)]) ?_ 7 _ rfl; (with_reducible repeat (first | refine blk_drewN ?_ _ | refine blk_drew ?_ | refine blk_alloc ?_ _)); refine blk_put (cs := #[.int .u8 t116, .int .u8 t117, .int .u8 t118, .int .u8 t119, .int .u8 t120, .string t121, .string (⟨#[]⟩ : ByteArray), .string (⟨#[]⟩ : ByteArray), .string (⟨#[]⟩ : ByteArray), .string (⟨#[]⟩ : ByteArray), .string (⟨#[]⟩ : ByteArray), .string (⟨#[]⟩ : ByteArray), .string (⟨#[]⟩ : ByteArray), .string (⟨#[]⟩ : ByteArray), .string (⟨#[]⟩ : ByteArray)]) ?_ 6 _ rfl; (with_reducible repeat (first | refine blk_drewN ?_ _ | refine blk_drew ?_ | refine blk_alloc ?_ _)); refine blk_put (cs := #[.int .u8 t116, .int .u8 t117, .int .u8 t118, .int .u8 t119, .int .u8 t120, .string (⟨#[]⟩ : ByteArray), .string (⟨#[]⟩ : ByteArray), .string (⟨#[]⟩ : ByteArray), .string (⟨#[]⟩ : ByteArray), .string (⟨#[]⟩ : ByteArray), .string (⟨#[]⟩ : ByteArray), .string (⟨#[]⟩ : ByteArray), .string (⟨#[]⟩ : ByteArray), .string (⟨#[]⟩ : ByteArray), .string (⟨#[]⟩ : ByteArray)]) ?_ 5 _ rfl; (with_reducible repeat (first | refine blk_drewN ?_ _ | refine blk_drew ?_ | refine blk_alloc ?_ _)); refine blk_put (cs := #[.int .u8 t116, .int .u8 t117, .int .u8 t118, .int .u8 t119, .int .u8 0, .string (⟨#[]⟩ : ByteArray), .string (⟨#[]⟩ : ByteArray), .string (⟨#[]⟩ : ByteArray), .string (⟨#[]⟩ : ByteArray), .string (⟨#[]⟩ : ByteArray), .string (⟨#[]⟩ : ByteArray), .string (⟨#[]⟩ : ByteArray), .string (⟨#[]⟩ : ByteArray), .string (⟨#[]⟩ : ByteArray), .string (⟨#[]⟩ : ByteArray)]) ?_ 4 _ rfl; (with_reducible repeat (first | refine blk_drewN ?_ _ | refine blk_drew ?_ | refine blk_alloc ?_ _)); refine blk_put (cs := #[.int .u8 t116, .int .u8 t117, .int .u8 t118, .int .u8 0, .int .u8 0, .string (⟨#[]⟩ : ByteArray), .string (⟨#[]⟩ : ByteArray), .string (⟨#[]⟩ : ByteArray), .string (⟨#[]⟩ : ByteArray), .string (⟨#[]⟩ : ByteArray), .string (⟨#[]⟩ : ByteArray), .string (⟨#[]⟩ : ByteArray), .string (⟨#[]⟩ : ByteArray), .string (⟨#[]⟩ : ByteArray), .string (⟨#[]⟩ : ByteArray)]) ?_ 3 _ rfl; (with_reducible repeat (first | refine blk_drewN ?_ _ | refine blk_drew ?_ | refine blk_alloc ?_ _)); refine blk_put (cs := #[.int .u8 t116, .int .u8 t117, .int .u8 0, .int .u8 0, .int .u8 0, .string (⟨#[]⟩ : ByteArray), .string (⟨#[]⟩ : ByteArray), .string (⟨#[]⟩ : ByteArray), .string (⟨#[]⟩ : ByteArray), .string (⟨#[]⟩ : ByteArray), .string (⟨#[]⟩ : ByteArray), .string (⟨#[]⟩ : ByteArray), .string (⟨#[]⟩ : ByteArray), .string (⟨#[]⟩ : ByteArray), .string (⟨#[]⟩ : ByteArray)]) ?_ 2 _ rfl; (with_reducible repeat (first | refine blk_drewN ?_ _ | refine blk_drew ?_ | refine blk_alloc ?_ _)); refine blk_put (cs := #[.int .u8 t116, .int .u8 0, .int .u8 0, .int .u8 0, .int .u8 0, .string (⟨#[]⟩ : ByteArray), .string (⟨#[]⟩ : ByteArray), .string (⟨#[]⟩ : ByteArray), .string (⟨#[]⟩ : ByteArray), .string (⟨#[]⟩ : ByteArray), .string (⟨#[]⟩ : ByteArray), .string (⟨#[]⟩ : ByteArray), .string (⟨#[]⟩ : ByteArray), .string (⟨#[]⟩ : ByteArray), .string (⟨#[]⟩ : ByteArray)]) ?_ 1 _ rfl; (with_reducible repeat (first | refine blk_drewN ?_ _ | refine blk_drew ?_ | refine blk_alloc ?_ _)); refine blk_put (cs := #[.int .u8 0, .int .u8 0, .int .u8 0, .int .u8 0, .int .u8 0, .string (⟨#[]⟩ : ByteArray), .string (⟨#[]⟩ : ByteArray), .string (⟨#[]⟩ : ByteArray), .string (⟨#[]⟩ : ByteArray), .string (⟨#[]⟩ : ByteArray), .string (⟨#[]⟩ : ByteArray), .string (⟨#[]⟩ : ByteArray), .string (⟨#[]⟩ : ByteArray), .string (⟨#[]⟩ : ByteArray), .string (⟨#[]⟩ : ByteArray)]) ?_ 0 _ rfl; (with_reducible repeat (first | refine blk_drewN ?_ _ | refine blk_drew ?_ | refine blk_alloc ?_ _)); exact BK133.out⟩, ⟨by repeat (first | (with_reducible first | exact HB.out | apply below_alloc | apply pw_below_drewN | apply below_drew1 | refine below_set ?_ GE133.out) | exact HB.out)⟩⟩
    · rw [if_neg c8] at H
      have c8b0 : (t131.toList == ([] : List UInt8)) = false := beq_eq_false_iff_ne.mpr c8
      have c8b1 : (t131.toList != ([] : List UInt8)) = true := bne_iff_ne.mpr c8
      (first | rw [c8b0] | (simp only [i64_w, i32_w]; rw [c8b0]) | skip)
      replace H := Option.bind_eq_some_iff.mp H
      obtain ⟨t134, A90, H⟩ := H
      replace H : (accept_Reply.j0 k a1 t131 (!t134) t116 t117 t118 t119 t120 t121 t122 t123 t124 t125 t126 t127 t128 t129 t130) = some (r1, r2) := H
      have A9 := Aside0.mk A90
      clear A90
      have H' := Aside0.mk H
      clear H
      go_wp2_with (first | (go_at_call 29; (with_reducible refine (frameA_Good.calls _ _ l0 t134 _ ?side3 ?side1 ?side2 A9.out).mono ?_); (case side1 => exact Kd.C_below HR0.out (by repeat (first | (with_reducible first | exact HB.out | apply below_alloc | apply pw_below_drewN | apply below_drew1 | refine below_set ?_ GE133.out) | exact HB.out))); (case side2 => exact HC0.out); (case side3 => exact GlobA.below HG.out (by repeat (first | (with_reducible first | exact HB.out | apply below_alloc | apply pw_below_drewN | apply below_drew1 | refine below_set ?_ GE133.out) | exact HB.out))); rintro e w10 ⟨rfl, hb⟩; have n0_ := Aside0.mk (blk_below (g := gb133) (o := .cells #[.int .u8 t116, .int .u8 t117, .int .u8 t118, .int .u8 t119, .int .u8 t120, .string t121, .string t122, .string t123, .string t124, .string t125, .string t126, .string t127, .string t128, .string t129, .string t130] 25 (0, 0)) (by (with_reducible repeat (first | refine blk_drewN ?_ _ | refine blk_drew ?_ | refine blk_alloc ?_ _)); refine blk_put (cs := #[.int .u8 t116, .int .u8 t117, .int .u8 t118, .int .u8 t119, .int .u8 t120, .string t121, .string t122, .string t123, .string t124, .string t125, .string t126, .string t127, .string t128, .string t129, .string (⟨#[]⟩ : ByteArray)]) ?_ 14 _ rfl; (with_reducible repeat (first | refine blk_drewN ?_ _ | refine blk_drew ?_ | refine blk_alloc ?_ _)); refine blk_put (cs := #[.int .u8 t116, .int .u8 t117, .int .u8 t118, .int .u8 t119, .int .u8 t120, .string t121, .string t122, .string t123, .string t124, .string t125, .string t126, .string t127, .string t128, .string (⟨#[]⟩ : ByteArray), .string (⟨#[]⟩ : ByteArray)]) ?_ 13 _ rfl; (with_reducible repeat (first | refine blk_drewN ?_ _ | refine blk_drew ?_ | refine blk_alloc ?_ _)); refine blk_put (cs := #[.int .u8 t116, .int .u8 t117, .int .u8 t118, .int .u8 t119, .int .u8 t120, .string t121, .string t122, .string t123, .string t124, .string t125, .string t126, .string t127, .string (⟨#[]⟩ : ByteArray), .string (⟨#[]⟩ : ByteArray), .string (⟨#[]⟩ : ByteArray)]) ?_ 12 _ rfl; (with_reducible repeat (first | refine blk_drewN ?_ _ | refine blk_drew ?_ | refine blk_alloc ?_ _)); refine blk_put (cs := #[.int .u8 t116, .int .u8 t117, .int .u8 t118, .int .u8 t119, .int .u8 t120, .string t121, .string t122, .string t123, .string t124, .string t125, .string t126, .string (⟨#[]⟩ : ByteArray), .string (⟨#[]⟩ : ByteArray), .string (⟨#[]⟩ : ByteArray), .string (⟨#[]⟩ : ByteArray)]) ?_ 11 _ rfl; (with_reducible repeat (first | refine blk_drewN ?_ _ | refine blk_drew ?_ | refine blk_alloc ?_ _)); refine blk_put (cs := #[.int .u8 t116, .int .u8 t117, .int .u8 t118, .int .u8 t119, .int .u8 t120, .string t121, .string t122, .string t123, .string t124, .string t125, .string (⟨#[]⟩ : ByteArray), .string (⟨#[]⟩ : ByteArray), .string (⟨#[]⟩ : ByteArray), .string (⟨#[]⟩ : ByteArray), .string (⟨#[]⟩ : ByteArray)]) ?_ 10 _ rfl; (with_reducible repeat (first | refine blk_drewN ?_ _ | refine blk_drew ?_ | refine blk_alloc ?_ _)); refine blk_put (cs := #[.int .u8 t116, .int .u8 t117, .int .u8 t118, .int .u8 t119, .int .u8 t120, .string t121, .string t122, .string t123, .string t124, .string (⟨#[]⟩ : ByteArray), .string (⟨#[]⟩ : ByteArray), .string (⟨#[]⟩ : ByteArray), .string (⟨#[]⟩ : ByteArray), .string (⟨#[]⟩ : ByteArray), .string (⟨#[]⟩ : ByteArray)]) ?_ 9 _ rfl; (with_reducible repeat (first | refine blk_drewN ?_ _ | refine blk_drew ?_ | refine blk_alloc ?_ _)); refine blk_put (cs := #[.int .u8 t116, .int .u8 t117, .int .u8 t118, .int .u8 t119, .int .u8 t120, .string t121, .string t122, .string t123, .string (⟨#[]⟩ : ByteArray), .string (⟨#[]⟩ : ByteArray), .string (⟨#[]⟩ : ByteArray), .string (⟨#[]⟩ : ByteArray), .string (⟨#[]⟩ : ByteArray), .string (⟨#[]⟩ : ByteArray), .string (⟨#[]⟩ : ByteArray)]) ?_ 8 _ rfl; (with_reducible repeat (first | refine blk_drewN ?_ _ | refine blk_drew ?_ | refine blk_alloc ?_ _)); refine blk_put (cs := #[.int .u8 t116, .int .u8 t117, .int .u8 t118, .int .u8 t119, .int .u8 t120, .string t121, .string t122, .string (⟨#[]⟩ : ByteArray), .string (⟨#[]⟩ : ByteArray), .string (⟨#[]⟩ : ByteArray), .string (⟨#[]⟩ : ByteArray), .string (⟨#[]⟩ : ByteArray), .string (⟨#[]⟩ : ByteArray), .string (⟨#[]⟩ : ByteArray), .string (⟨#[]⟩ : ByteArray)]) ?_ 7 _ rfl; (with_reducible repeat (first | refine blk_drewN ?_ _ | refine blk_drew ?_ | refine blk_alloc ?_ _)); refine blk_put (cs := #[.int .u8 t116, .int .u8 t117, .int .u8 t118, .int .u8 t119, .int .u8 t120, .string t121, .string (⟨#[]⟩ : ByteArray), .string (⟨#[]⟩ : ByteArray), .string (⟨#[]⟩ : ByteArray), .string (⟨#[]⟩ : ByteArray), .string (⟨#[]⟩ : ByteArray), .string (⟨#[]⟩ : ByteArray), .string (⟨#[]⟩ : ByteArray), .string (⟨#[]⟩ : ByteArray), .string (⟨#[]⟩ : ByteArray)]) ?_ 6 _ rfl; (with_reducible repeat (first | refine blk_drewN ?_ _ | refine blk_drew ?_ | refine blk_alloc ?_ _)); refine blk_put (cs := #[.int .u8 t116, .int .u8 t117, .int .u8 t118, .int .u8 t119, .int .u8 t120, .string (⟨#[]⟩ : ByteArray), .string (⟨#[]⟩ : ByteArray), .string (⟨#[]⟩ : ByteArray), .string (⟨#[]⟩ : ByteArray), .string (⟨#[]⟩ : ByteArray), .string (⟨#[]⟩ : ByteArray), .string (⟨#[]⟩ : ByteArray), .string (⟨#[]⟩ : ByteArray), .string (⟨#[]⟩ : ByteArray), .string (⟨#[]⟩ : ByteArray)]) ?_ 5 _ rfl; (with_reducible repeat (first | refine blk_drewN ?_ _ | refine blk_drew ?_ | refine blk_alloc ?_ _)); refine blk_put (cs := #[.int .u8 t116, .int .u8 t117, .int .u8 t118, .int .u8 t119, .int .u8 0, .string (⟨#[]⟩ : ByteArray), .string (⟨#[]⟩ : ByteArray), .string (⟨#[]⟩ : ByteArray), .string (⟨#[]⟩ : ByteArray), .string (⟨#[]⟩ : ByteArray), .string (⟨#[]⟩ : ByteArray), .string (⟨#[]⟩ : ByteArray), .string (⟨#[]⟩ : ByteArray), .string (⟨#[]⟩ : ByteArray), .string (⟨#[]⟩ : ByteArray)]) ?_ 4 _ rfl; (with_reducible repeat (first | refine blk_drewN ?_ _ | refine blk_drew ?_ | refine blk_alloc ?_ _)); refine blk_put (cs := #[.int .u8 t116, .int .u8 t117, .int .u8 t118, .int .u8 0, .int .u8 0, .string (⟨#[]⟩ : ByteArray), .string (⟨#[]⟩ : ByteArray), .string (⟨#[]⟩ : ByteArray), .string (⟨#[]⟩ : ByteArray), .string (⟨#[]⟩ : ByteArray), .string (⟨#[]⟩ : ByteArray), .string (⟨#[]⟩ : ByteArray), .string (⟨#[]⟩ : ByteArray), .string (⟨#[]⟩ : ByteArray), .string (⟨#[]⟩ : ByteArray)]) ?_ 3 _ rfl; (with_reducible repeat (first | refine blk_drewN ?_ _ | refine blk_drew ?_ | refine blk_alloc ?_ _)); refine blk_put (cs := #[.int .u8 t116, .int .u8 t117, .int .u8 0, .int .u8 0, .int .u8 0, .string (⟨#[]⟩ : ByteArray), .string (⟨#[]⟩ : ByteArray), .string (⟨#[]⟩ : ByteArray), .string (⟨#[]⟩ : ByteArray), .string (⟨#[]⟩ : ByteArray), .string (⟨#[]⟩ : ByteArray), .string (⟨#[]⟩ : ByteArray), .string (⟨#[]⟩ : ByteArray), .string (⟨#[]⟩ : ByteArray), .string (⟨#[]⟩ : ByteArray)]) ?_ 2 _ rfl; (with_reducible repeat (first | refine blk_drewN ?_ _ | refine blk_drew ?_ | refine blk_alloc ?_ _)); refine blk_put (cs := #[.int .u8 t116, .int .u8 0, .int .u8 0, .int .u8 0, .int .u8 0, .string (⟨#[]⟩ : ByteArray), .string (⟨#[]⟩ : ByteArray), .string (⟨#[]⟩ : ByteArray), .string (⟨#[]⟩ : ByteArray), .string (⟨#[]⟩ : ByteArray), .string (⟨#[]⟩ : ByteArray), .string (⟨#[]⟩ : ByteArray), .string (⟨#[]⟩ : ByteArray), .string (⟨#[]⟩ : ByteArray), .string (⟨#[]⟩ : ByteArray)]) ?_ 1 _ rfl; (with_reducible repeat (first | refine blk_drewN ?_ _ | refine blk_drew ?_ | refine blk_alloc ?_ _)); refine blk_put (cs := #[.int .u8 0, .int .u8 0, .int .u8 0, .int .u8 0, .int .u8 0, .string (⟨#[]⟩ : ByteArray), .string (⟨#[]⟩ : ByteArray), .string (⟨#[]⟩ : ByteArray), .string (⟨#[]⟩ : ByteArray), .string (⟨#[]⟩ : ByteArray), .string (⟨#[]⟩ : ByteArray), .string (⟨#[]⟩ : ByteArray), .string (⟨#[]⟩ : ByteArray), .string (⟨#[]⟩ : ByteArray), .string (⟨#[]⟩ : ByteArray)]) ?_ 0 _ rfl; (with_reducible repeat (first | refine blk_drewN ?_ _ | refine blk_drew ?_ | refine blk_alloc ?_ _)); exact BK133.out) hb); have n1_ := Aside0.mk (below_step (by repeat (first | (with_reducible first | exact HB.out | apply below_alloc | apply pw_below_drewN | apply below_drew1 | refine below_set ?_ GE133.out) | exact HB.out)) hb); clear BK133; clear HB; have BK133 := n0_; have HB := n1_; clear n0_ n1_; (try clear hb); (try clear hb2); (try clear hk); (try clear hi)))
      go_meet
      case rel => exact ⟨_, (!t134), (by first | rfl | (simp; done) | (simp [*]; done)), H', ⟨by first | omega | exact Nat.le_refl _⟩, ⟨by (with_reducible repeat (first | refine blk_drewN ?_ _ | refine blk_drew ?_ | refine blk_alloc ?_ _)); exact BK133.out⟩, ⟨by repeat (first | (with_reducible first | exact HB.out | apply below_alloc | apply pw_below_drewN | apply below_drew1 | refine below_set ?_ GE133.out) | exact HB.out)⟩⟩
  case rest =>
    clear HC4
    try clear c1
    try clear p2
    try clear c8
    try clear c8b0
    try clear c8b1
    try clear c10
    try clear hcz7_0
    try clear hcz7_1
    try clear hcz7_10
    try clear hcz7_11
    try clear hcz7_12
    try clear hcz7_13
    try clear hcz7_14
    try clear hcz7_2
    try clear hcz7_3
    try clear hcz7_4
    try clear hcz7_5
    try clear hcz7_6
    try clear hcz7_7
    try clear hcz7_8
    try clear hcz7_9
    try clear hfz7_0
    try clear hfz7_1
    try clear hfz7_10
    try clear hfz7_11
    try clear hfz7_12
    try clear hfz7_13
    try clear hfz7_14
    try clear hfz7_2
    try clear hfz7_3
    try clear hfz7_4
    try clear hfz7_5
    try clear hfz7_6
    try clear hfz7_7
    try clear hfz7_8
    try clear hfz7_9
    obtain ⟨kq, x24_3, rfl, HA, HJ3, BK133, HB⟩ := hcut
    cases kq with
    | zero => exact absurd HA.out (by simp [accept_Reply.j0])
    | succ kj3 =>
      have H := HA.out
      clear HA
      simp only [accept_Reply.j0] at H
      by_cases c11 : x24_3 = true
      · subst c11
        have H1 : (some (([] : List Int), false)) = some (r1, r2) := by rw [if_pos rfl] at H; exact H
        clear H
        have H := H1
        clear H1
        simp only [Option.some.injEq, Prod.mk.injEq] at H
        obtain ⟨rfl, rfl⟩ := H
        go_wp2
        go_ret2
        exact ⟨_, by first | rfl | (simp [errW_none, errW_some] <;> rfl) | (simp [*, errW_none, errW_some] <;> rfl), by first | exact Kd.R_nil _ _ _ _ _ | exact Kd.N_nil _ _ _ _ _ | exact Kd.V_nil _ _ _ _ _ | exact Kd.Q_nil _ _ _ _ _ | exact Kd.S_nil _ _ _ _ _, by repeat (first | (with_reducible first | exact HB.out | apply below_alloc | apply pw_below_drewN | apply below_drew1 | refine below_set ?_ GE133.out) | exact HB.out)⟩
      · replace c11 := Bool.eq_false_iff.mpr c11
        subst c11
        have H1 : (if t131.toList = ([65, 65] : List UInt8) then (accept_Reply.j1 kj3 t131 (!a1) t116 t117 t118 t119 t120 t121 t122 t123 t124 t125 t126 t127 t128 t129 t130) else (accept_Reply.j1 kj3 t131 false t116 t117 t118 t119 t120 t121 t122 t123 t124 t125 t126 t127 t128 t129 t130)) = some (r1, r2) := by rw [if_neg (show ¬ (false = true) by decide)] at H; exact H
        clear H
        have H := H1
        clear H1
        have HC12 := Aside0.mk H
        clear H
        go_upto_region 4 with (fail)
        go_cut [30] (fun v30 wc => ∃ (kq : Nat) (x30_11 : Bool), v30 = .bool x30_11 ∧ Aside0 (accept_Reply.j1 kq t131 x30_11 t116 t117 t118 t119 t120 t121 t122 t123 t124 t125 t126 t127 t128 t129 t130 = some (r1, r2)) ∧ Aside0 (kq ≤ kj3) ∧ Aside0 (wc.heap[gb133]? = some (.cells #[.int .u8 t116, .int .u8 t117, .int .u8 t118, .int .u8 t119, .int .u8 t120, .string t121, .string t122, .string t123, .string t124, .string t125, .string t126, .string t127, .string t128, .string t129, .string t130] 25 (0, 0))) ∧ Aside0 (Below w.heap.size w wc))
        case first =>
          have H := HC12.out
          clear HC12
          by_cases c13 : t131.toList = ([65, 65] : List UInt8)
          · rw [if_pos c13] at H
            have c13b0 : (t131.toList == ([65, 65] : List UInt8)) = true := beq_iff_eq.mpr c13
            have c13b1 : (t131.toList != ([65, 65] : List UInt8)) = false := bne_eq_false_iff_eq.mpr c13
            clear c13
            (first | rw [c13b0] | (simp only [i64_w, i32_w]; rw [c13b0]) | skip)
            have H' := Aside0.mk H
            clear H
            go_wp2
            go_meet
            case rel => exact ⟨_, (!a1), (by first | rfl | (simp; done) | (simp [*]; done)), H', ⟨by have := HJ3.out; first | omega | exact Nat.le_refl _⟩, ⟨by (with_reducible repeat (first | refine blk_drewN ?_ _ | refine blk_drew ?_ | refine blk_alloc ?_ _)); exact BK133.out⟩, ⟨by repeat (first | (with_reducible first | exact HB.out | apply below_alloc | apply pw_below_drewN | apply below_drew1 | refine below_set ?_ GE133.out) | exact HB.out)⟩⟩
          · rw [if_neg c13] at H
            have c13b0 : (t131.toList == ([65, 65] : List UInt8)) = false := beq_eq_false_iff_ne.mpr c13
            have c13b1 : (t131.toList != ([65, 65] : List UInt8)) = true := bne_iff_ne.mpr c13
            (first | rw [c13b0] | (simp only [i64_w, i32_w]; rw [c13b0]) | skip)
            have H' := Aside0.mk H
            clear H
            go_wp2
            go_meet
            case rel => exact ⟨_, (false), (by first | rfl | (simp; done) | (simp [*]; done)), H', ⟨by have := HJ3.out; first | omega | exact Nat.le_refl _⟩, ⟨by (with_reducible repeat (first | refine blk_drewN ?_ _ | refine blk_drew ?_ | refine blk_alloc ?_ _)); exact BK133.out⟩, ⟨by repeat (first | (with_reducible first | exact HB.out | apply below_alloc | apply pw_below_drewN | apply below_drew1 | refine below_set ?_ GE133.out) | exact HB.out)⟩⟩
        case rest =>
          clear HC12
          try clear c1
          try clear p2
          try clear c8
          try clear c8b0
          try clear c8b1
          try clear c10
          try clear c11
          try clear c12
          try clear c13
          try clear c13b0
          try clear c13b1
          try clear hcz7_0
          try clear hcz7_1
          try clear hcz7_10
          try clear hcz7_11
          try clear hcz7_12
          try clear hcz7_13
          try clear hcz7_14
          try clear hcz7_2
          try clear hcz7_3
          try clear hcz7_4
          try clear hcz7_5
          try clear hcz7_6
          try clear hcz7_7
          try clear hcz7_8
          try clear hcz7_9
          try clear hfz7_0
          try clear hfz7_1
          try clear hfz7_10
          try clear hfz7_11
          try clear hfz7_12
          try clear hfz7_13
          try clear hfz7_14
          try clear hfz7_2
          try clear hfz7_3
          try clear hfz7_4
          try clear hfz7_5
          try clear hfz7_6
          try clear hfz7_7
          try clear hfz7_8
          try clear hfz7_9
          try clear p2
          obtain ⟨kq, x30_11, rfl, HA, HJ11, BK133, HB⟩ := hcut
          cases kq with
          | zero => exact absurd HA.out (by simp [accept_Reply.j1])
          | succ kj11 =>
            have H := HA.out
            clear HA
            simp only [accept_Reply.j1] at H
            have HC14 := Aside0.mk H
            clear H
            go_upto_if 30 with (fail)
            go_cut [7] (fun v7 wc => ∃ (kq : Nat) (x7_13 : ByteArray), v7 = .string x7_13 ∧ Aside0 (accept_Reply.j2 kq x7_13 t116 t117 t118 t119 t120 t121 t122 t123 t124 t125 t126 t127 t128 t129 t130 = some (r1, r2)) ∧ Aside0 (kq ≤ kj11) ∧ Aside0 (wc.heap[gb133]? = some (.cells #[.int .u8 t116, .int .u8 t117, .int .u8 t118, .int .u8 t119, .int .u8 t120, .string t121, .string t122, .string t123, .string t124, .string t125, .string t126, .string t127, .string t128, .string t129, .string t130] 25 (0, 0))) ∧ Aside0 (Below w.heap.size w wc))
            case first =>
              have H := HC14.out
              clear HC14
              by_cases c15 : x30_11 = true
              · subst c15
                have H1 : (accept_Reply.j2 kj11 (⟨#[65, 69]⟩ : ByteArray) t116 t117 t118 t119 t120 t121 t122 t123 t124 t125 t126 t127 t128 t129 t130) = some (r1, r2) := by rw [if_pos rfl] at H; exact H
                clear H
                have H := H1
                clear H1
                have H' := Aside0.mk H
                clear H
                go_wp2
                go_meet
                case rel => exact ⟨_, ((⟨#[65, 69]⟩ : ByteArray)), (by first | rfl | (simp; done) | (simp [*]; done)), H', ⟨by have := HJ3.out; have := HJ11.out; first | omega | exact Nat.le_refl _⟩, ⟨by (with_reducible repeat (first | refine blk_drewN ?_ _ | refine blk_drew ?_ | refine blk_alloc ?_ _)); exact BK133.out⟩, ⟨by repeat (first | (with_reducible first | exact HB.out | apply below_alloc | apply pw_below_drewN | apply below_drew1 | refine below_set ?_ GE133.out) | exact HB.out)⟩⟩
              · replace c15 := Bool.eq_false_iff.mpr c15
                subst c15
                have H1 : (accept_Reply.j2 kj11 t131 t116 t117 t118 t119 t120 t121 t122 t123 t124 t125 t126 t127 t128 t129 t130) = some (r1, r2) := by rw [if_neg (show ¬ (false = true) by decide)] at H; exact H
                clear H
                have H := H1
                clear H1
                have H' := Aside0.mk H
                clear H
                go_wp2
                go_meet
                case rel => exact ⟨_, (t131), (by first | rfl | (simp; done) | (simp [*]; done)), H', ⟨by have := HJ3.out; have := HJ11.out; first | omega | exact Nat.le_refl _⟩, ⟨by (with_reducible repeat (first | refine blk_drewN ?_ _ | refine blk_drew ?_ | refine blk_alloc ?_ _)); exact BK133.out⟩, ⟨by repeat (first | (with_reducible first | exact HB.out | apply below_alloc | apply pw_below_drewN | apply below_drew1 | refine below_set ?_ GE133.out) | exact HB.out)⟩⟩
            case rest =>
              clear HC14
              try clear c1
              try clear p2
              try clear c8
              try clear c8b0
              try clear c8b1
              try clear c10
              try clear c11
              try clear c12
              try clear c13
              try clear c13b0
              try clear c13b1
              try clear c15
              try clear hcz7_0
              try clear hcz7_1
              try clear hcz7_10
              try clear hcz7_11
              try clear hcz7_12
              try clear hcz7_13
              try clear hcz7_14
              try clear hcz7_2
              try clear hcz7_3
              try clear hcz7_4
              try clear hcz7_5
              try clear hcz7_6
              try clear hcz7_7
              try clear hcz7_8
              try clear hcz7_9
              try clear hfz7_0
              try clear hfz7_1
              try clear hfz7_10
              try clear hfz7_11
              try clear hfz7_12
              try clear hfz7_13
              try clear hfz7_14
              try clear hfz7_2
              try clear hfz7_3
              try clear hfz7_4
              try clear hfz7_5
              try clear hfz7_6
              try clear hfz7_7
              try clear hfz7_8
              try clear hfz7_9
              try clear p2
              obtain ⟨kq, x7_13, rfl, HA, HJ13, BK133, HB⟩ := hcut
              cases kq with
              | zero => exact absurd HA.out (by simp [accept_Reply.j2])
              | succ kj13 =>
                have H := HA.out
                clear HA
                simp only [accept_Reply.j2] at H
                replace H := Option.bind_eq_some_iff.mp H
                obtain ⟨⟨t135, t138⟩, A160, H⟩ := H
                replace H : (if t138 = 0 then ((frameA_Wrap.f t135).bind fun bt139 => (some (bt139.1, (bt139.2 == 0)))) else (some (([] : List Int), false))) = some (r1, r2) := H
                have A16 := Aside0.mk A160
                clear A160
                by_cases c17 : t138 = 0
                · rw [if_pos c17] at H
                  have c17b0 : (t138 == 0) = true := beq_iff_eq.mpr c17
                  have c17b1 : (t138 != 0) = false := bne_eq_false_iff_eq.mpr c17
                  clear c17
                  replace H := Option.bind_eq_some_iff.mp H
                  obtain ⟨⟨t139, t140⟩, A180, H⟩ := H
                  replace H : (some (t139, (t140 == 0))) = some (r1, r2) := H
                  have A18 := Aside0.mk A180
                  clear A180
                  simp only [Option.some.injEq, Prod.mk.injEq] at H
                  obtain ⟨rfl, rfl⟩ := H
                  have hcz19_0 : wc.cell? ⟨gb133, 0, none⟩ = some (.int .u8 t116) := (blk_cell BK133.out 0).trans rfl
                  have hcz19_1 : wc.cell? ⟨gb133, 1, none⟩ = some (.int .u8 t117) := (blk_cell BK133.out 1).trans rfl
                  have hcz19_2 : wc.cell? ⟨gb133, 2, none⟩ = some (.int .u8 t118) := (blk_cell BK133.out 2).trans rfl
                  have hcz19_3 : wc.cell? ⟨gb133, 3, none⟩ = some (.int .u8 t119) := (blk_cell BK133.out 3).trans rfl
                  have hcz19_4 : wc.cell? ⟨gb133, 4, none⟩ = some (.int .u8 t120) := (blk_cell BK133.out 4).trans rfl
                  have hcz19_5 : wc.cell? ⟨gb133, 5, none⟩ = some (.string t121) := (blk_cell BK133.out 5).trans rfl
                  have hcz19_6 : wc.cell? ⟨gb133, 6, none⟩ = some (.string t122) := (blk_cell BK133.out 6).trans rfl
                  have hcz19_7 : wc.cell? ⟨gb133, 7, none⟩ = some (.string t123) := (blk_cell BK133.out 7).trans rfl
                  have hcz19_8 : wc.cell? ⟨gb133, 8, none⟩ = some (.string t124) := (blk_cell BK133.out 8).trans rfl
                  have hcz19_9 : wc.cell? ⟨gb133, 9, none⟩ = some (.string t125) := (blk_cell BK133.out 9).trans rfl
                  have hcz19_10 : wc.cell? ⟨gb133, 10, none⟩ = some (.string t126) := (blk_cell BK133.out 10).trans rfl
                  have hcz19_11 : wc.cell? ⟨gb133, 11, none⟩ = some (.string t127) := (blk_cell BK133.out 11).trans rfl
                  have hcz19_12 : wc.cell? ⟨gb133, 12, none⟩ = some (.string t128) := (blk_cell BK133.out 12).trans rfl
                  have hcz19_13 : wc.cell? ⟨gb133, 13, none⟩ = some (.string t129) := (blk_cell BK133.out 13).trans rfl
                  have hcz19_14 : wc.cell? ⟨gb133, 14, none⟩ = some (.string t130) := (blk_cell BK133.out 14).trans rfl
                  have hfz19_0 := blk_frozen BK133.out 0
                  have hfz19_1 := blk_frozen BK133.out 1
                  have hfz19_2 := blk_frozen BK133.out 2
                  have hfz19_3 := blk_frozen BK133.out 3
                  have hfz19_4 := blk_frozen BK133.out 4
                  have hfz19_5 := blk_frozen BK133.out 5
                  have hfz19_6 := blk_frozen BK133.out 6
                  have hfz19_7 := blk_frozen BK133.out 7
                  have hfz19_8 := blk_frozen BK133.out 8
                  have hfz19_9 := blk_frozen BK133.out 9
                  have hfz19_10 := blk_frozen BK133.out 10
                  have hfz19_11 := blk_frozen BK133.out 11
                  have hfz19_12 := blk_frozen BK133.out 12
                  have hfz19_13 := blk_frozen BK133.out 13
                  have hfz19_14 := blk_frozen BK133.out 14
                  go_wp2_with (first | ((with_reducible refine gate_callee (f := 30) rfl ?_); refine goesL_ (some 34) rfl rfl Tryd.func30 (by kernel_rfl) rfl #[.agg #[.int .u8 t116, .int .u8 t117, .int .u8 t118, .int .u8 t119, .int .u8 t120, .string t121, .string t122, .string t123, .string t124, .string t125, .string t126, .string t127, .string t128, .string t129, .string t130], .string x7_13] rfl (by (try simp only [List.map_toArray, List.map_cons, List.map_nil]); first | done | rfl | (simp only [List.length_drop, List.length_take]; rfl)) ?_; (with_reducible refine (ack_Build.calls kj13 t116 t117 t118 t119 t120 t121 t122 t123 t124 t125 t126 t127 t128 t129 t130 x7_13 t135 t138 _ ?side1 A16.out).mono ?_); (case side1 => exact GlobA.below HG.out (by repeat (first | (with_reducible first | exact HB.out | apply below_alloc | apply pw_below_drewN | apply below_drew1 | refine below_set ?_ GE133.out) | exact HB.out))); rintro e w20 ⟨v136, rfl, ho0, hb⟩; refine ⟨_, rfl, ?_⟩; have n0_ := Aside0.mk (Kd.R_lower ho0 (below_size (by repeat (first | (with_reducible first | exact HB.out | apply below_alloc | apply pw_below_drewN | apply below_drew1 | refine below_set ?_ GE133.out) | exact HB.out)))); have n1_ := Aside0.mk (blk_below (g := gb133) (o := .cells #[.int .u8 t116, .int .u8 t117, .int .u8 t118, .int .u8 t119, .int .u8 t120, .string t121, .string t122, .string t123, .string t124, .string t125, .string t126, .string t127, .string t128, .string t129, .string t130] 25 (0, 0)) (by (with_reducible repeat (first | refine blk_drewN ?_ _ | refine blk_drew ?_ | refine blk_alloc ?_ _)); exact BK133.out) hb); have n2_ := Aside0.mk (below_step (by repeat (first | (with_reducible first | exact HB.out | apply below_alloc | apply pw_below_drewN | apply below_drew1 | refine below_set ?_ GE133.out) | exact HB.out)) hb); clear BK133; clear HB; have HO137 := n0_; have BK133 := n1_; have HB := n2_; clear n0_ n1_ n2_; (try clear hb); (try clear hb2); (try clear hk); (try clear hi); (try clear ho0); obtain ⟨Ao21, co21, eo21⟩ := Kd.R_slice HO137.out; subst eo21) | ((with_reducible refine gate_callee (f := 31) rfl ?_); refine goesL_ (some 41) rfl rfl Tryd.func31 (by kernel_rfl) rfl #[.slice Ao21 t135.length co21] rfl (by (try simp only [List.map_toArray, List.map_cons, List.map_nil]); first | done | rfl | (simp only [List.length_drop, List.length_take]; rfl)) ?_; (with_reducible refine (frameA_Wrap.calls _ _ t135 t139 t140 _ ?side3 ?side1 ?side2 A18.out).mono ?_); (case side1 => repeat (first | exact (Kd.R_reads' HO137.out).2.2 | (with_reducible refine Kd.C_alloc ?_ _) | (with_reducible refine Kd.C_drewN ?_ _) | (with_reducible refine Kd.C_drew ?_))); (case side2 => exact (Kd.R_reads' HO137.out).2.1); (case side3 => exact GlobA.below HG.out (by repeat (first | (with_reducible first | exact HB.out | apply below_alloc | apply pw_below_drewN | apply below_drew1 | refine below_set ?_ GE133.out) | exact HB.out))); rintro e w22 ⟨v141, rfl, ho0, hb⟩; refine ⟨_, rfl, ?_⟩; have n0_ := Aside0.mk (Kd.R_elder' (by (with_reducible repeat (first | apply Kd.R_alloc | apply Kd.R_drewN | apply Kd.R_drew)); exact HO137.out) (Kd.R_base ho0) hb); have n1_ := Aside0.mk (Kd.R_lower (Kd.R_new' ho0 (Kd.R_lt (by (with_reducible repeat (first | apply Kd.R_alloc | apply Kd.R_drewN | apply Kd.R_drew)); exact HO137.out))) (below_size (by repeat (first | (with_reducible first | exact HB.out | apply below_alloc | apply pw_below_drewN | apply below_drew1 | refine below_set ?_ GE133.out) | exact HB.out)))); have n2_ := Aside0.mk (blk_below (g := gb133) (o := .cells #[.int .u8 t116, .int .u8 t117, .int .u8 t118, .int .u8 t119, .int .u8 t120, .string t121, .string t122, .string t123, .string t124, .string t125, .string t126, .string t127, .string t128, .string t129, .string t130] 25 (0, 0)) (by (with_reducible repeat (first | refine blk_drewN ?_ _ | refine blk_drew ?_ | refine blk_alloc ?_ _)); exact BK133.out) hb); have n3_ := Aside0.mk (below_step (by repeat (first | (with_reducible first | exact HB.out | apply below_alloc | apply pw_below_drewN | apply below_drew1 | refine below_set ?_ GE133.out) | exact HB.out)) hb); clear HO137; clear BK133; clear HB; have HO137 := n0_; have HO142 := n1_; have BK133 := n2_; have HB := n3_; clear n0_ n1_ n2_ n3_; (try clear hb); (try clear hb2); (try clear hk); (try clear hi); (try clear ho0)))
                  go_ret2
                  exact ⟨_, by first | rfl | (simp [errW_none, errW_some] <;> rfl) | (simp [*, errW_none, errW_some] <;> rfl), by (with_reducible repeat (first | apply Kd.R_alloc | apply Kd.R_drewN | apply Kd.R_drew)); exact Kd.R_mono HO142.out (fun _ hk => trivial), by repeat (first | (with_reducible first | exact HB.out | apply below_alloc | apply pw_below_drewN | apply below_drew1 | refine below_set ?_ GE133.out) | exact HB.out)⟩
                · rw [if_neg c17] at H
                  have c17b0 : (t138 == 0) = false := beq_eq_false_iff_ne.mpr c17
                  have c17b1 : (t138 != 0) = true := bne_iff_ne.mpr c17
                  simp only [Option.some.injEq, Prod.mk.injEq] at H
                  obtain ⟨rfl, rfl⟩ := H
                  have hcz23_0 : wc.cell? ⟨gb133, 0, none⟩ = some (.int .u8 t116) := (blk_cell BK133.out 0).trans rfl
                  have hcz23_1 : wc.cell? ⟨gb133, 1, none⟩ = some (.int .u8 t117) := (blk_cell BK133.out 1).trans rfl
                  have hcz23_2 : wc.cell? ⟨gb133, 2, none⟩ = some (.int .u8 t118) := (blk_cell BK133.out 2).trans rfl
                  have hcz23_3 : wc.cell? ⟨gb133, 3, none⟩ = some (.int .u8 t119) := (blk_cell BK133.out 3).trans rfl
                  have hcz23_4 : wc.cell? ⟨gb133, 4, none⟩ = some (.int .u8 t120) := (blk_cell BK133.out 4).trans rfl
                  have hcz23_5 : wc.cell? ⟨gb133, 5, none⟩ = some (.string t121) := (blk_cell BK133.out 5).trans rfl
                  have hcz23_6 : wc.cell? ⟨gb133, 6, none⟩ = some (.string t122) := (blk_cell BK133.out 6).trans rfl
                  have hcz23_7 : wc.cell? ⟨gb133, 7, none⟩ = some (.string t123) := (blk_cell BK133.out 7).trans rfl
                  have hcz23_8 : wc.cell? ⟨gb133, 8, none⟩ = some (.string t124) := (blk_cell BK133.out 8).trans rfl
                  have hcz23_9 : wc.cell? ⟨gb133, 9, none⟩ = some (.string t125) := (blk_cell BK133.out 9).trans rfl
                  have hcz23_10 : wc.cell? ⟨gb133, 10, none⟩ = some (.string t126) := (blk_cell BK133.out 10).trans rfl
                  have hcz23_11 : wc.cell? ⟨gb133, 11, none⟩ = some (.string t127) := (blk_cell BK133.out 11).trans rfl
                  have hcz23_12 : wc.cell? ⟨gb133, 12, none⟩ = some (.string t128) := (blk_cell BK133.out 12).trans rfl
                  have hcz23_13 : wc.cell? ⟨gb133, 13, none⟩ = some (.string t129) := (blk_cell BK133.out 13).trans rfl
                  have hcz23_14 : wc.cell? ⟨gb133, 14, none⟩ = some (.string t130) := (blk_cell BK133.out 14).trans rfl
                  have hfz23_0 := blk_frozen BK133.out 0
                  have hfz23_1 := blk_frozen BK133.out 1
                  have hfz23_2 := blk_frozen BK133.out 2
                  have hfz23_3 := blk_frozen BK133.out 3
                  have hfz23_4 := blk_frozen BK133.out 4
                  have hfz23_5 := blk_frozen BK133.out 5
                  have hfz23_6 := blk_frozen BK133.out 6
                  have hfz23_7 := blk_frozen BK133.out 7
                  have hfz23_8 := blk_frozen BK133.out 8
                  have hfz23_9 := blk_frozen BK133.out 9
                  have hfz23_10 := blk_frozen BK133.out 10
                  have hfz23_11 := blk_frozen BK133.out 11
                  have hfz23_12 := blk_frozen BK133.out 12
                  have hfz23_13 := blk_frozen BK133.out 13
                  have hfz23_14 := blk_frozen BK133.out 14
                  go_wp2_with (first | ((with_reducible refine gate_callee (f := 30) rfl ?_); refine goesL_ (some 34) rfl rfl Tryd.func30 (by kernel_rfl) rfl #[.agg #[.int .u8 t116, .int .u8 t117, .int .u8 t118, .int .u8 t119, .int .u8 t120, .string t121, .string t122, .string t123, .string t124, .string t125, .string t126, .string t127, .string t128, .string t129, .string t130], .string x7_13] rfl (by (try simp only [List.map_toArray, List.map_cons, List.map_nil]); first | done | rfl | (simp only [List.length_drop, List.length_take]; rfl)) ?_; (with_reducible refine (ack_Build.calls kj13 t116 t117 t118 t119 t120 t121 t122 t123 t124 t125 t126 t127 t128 t129 t130 x7_13 t135 t138 _ ?side1 A16.out).mono ?_); (case side1 => exact GlobA.below HG.out (by repeat (first | (with_reducible first | exact HB.out | apply below_alloc | apply pw_below_drewN | apply below_drew1 | refine below_set ?_ GE133.out) | exact HB.out))); rintro e w24 ⟨v136, rfl, ho0, hb⟩; refine ⟨_, rfl, ?_⟩; have n0_ := Aside0.mk (Kd.R_lower ho0 (below_size (by repeat (first | (with_reducible first | exact HB.out | apply below_alloc | apply pw_below_drewN | apply below_drew1 | refine below_set ?_ GE133.out) | exact HB.out)))); have n1_ := Aside0.mk (blk_below (g := gb133) (o := .cells #[.int .u8 t116, .int .u8 t117, .int .u8 t118, .int .u8 t119, .int .u8 t120, .string t121, .string t122, .string t123, .string t124, .string t125, .string t126, .string t127, .string t128, .string t129, .string t130] 25 (0, 0)) (by (with_reducible repeat (first | refine blk_drewN ?_ _ | refine blk_drew ?_ | refine blk_alloc ?_ _)); exact BK133.out) hb); have n2_ := Aside0.mk (below_step (by repeat (first | (with_reducible first | exact HB.out | apply below_alloc | apply pw_below_drewN | apply below_drew1 | refine below_set ?_ GE133.out) | exact HB.out)) hb); clear BK133; clear HB; have HO137 := n0_; have BK133 := n1_; have HB := n2_; clear n0_ n1_ n2_; (try clear hb); (try clear hb2); (try clear hk); (try clear hi); (try clear ho0)))
                  go_ret2
                  exact ⟨_, by first | rfl | (simp [errW_none, errW_some] <;> rfl) | (simp [*, errW_none, errW_some] <;> rfl), by first | exact Kd.R_nil _ _ _ _ _ | exact Kd.N_nil _ _ _ _ _ | exact Kd.V_nil _ _ _ _ _ | exact Kd.Q_nil _ _ _ _ _ | exact Kd.S_nil _ _ _ _ _, by repeat (first | (with_reducible first | exact HB.out | apply below_alloc | apply pw_below_drewN | apply below_drew1 | refine below_set ?_ GE133.out) | exact HB.out)⟩

end Go.Proofs.YtciagecaegoppaaDoor.QReply
end
section
namespace Go.Proofs.YtciagecaegoppaaDoor
set_option linter.unusedVariables false
set_option linter.unusedSimpArgs false
set_option maxRecDepth 100000
open Go.RowKit Go.Proofs.YtciagecaegoppaaDoorW.PrintWords Go.Proofs.YtciagecaegoppaaDoorW.PrintLast Go.Proofs.YtciagecaegoppaaDoorW.PrintMore

def msgA : List Int := [77, 83, 72, 124, 94, 126, 92, 38, 124, 124, 124, 124, 124, 124, 124, 65, 68, 84, 124, 55, 124, 80, 124, 50, 46, 53]
def msgB : List Int := [77, 83, 72, 124, 94, 126, 92, 38, 124, 124, 124, 124, 124, 124, 124, 65, 68, 84, 124, 55, 124, 80, 124, 57]
def ansA : List Int := [11, 77, 83, 72, 124, 94, 126, 92, 38, 124, 124, 124, 124, 124, 124, 124, 65, 67, 75, 124, 55, 124, 80, 124, 50, 46, 53, 13, 77, 83, 65, 124, 65, 69, 124, 55, 13, 28, 13]
theorem verdict_A : accept_Verdict.f msgA = some (124, 94, 126, 92, 38, ⟨#[]⟩, ⟨#[]⟩, ⟨#[]⟩, ⟨#[]⟩, ⟨#[]⟩, ⟨#[]⟩, ⟨#[65, 68, 84]⟩, ⟨#[55]⟩, ⟨#[80]⟩, ⟨#[50, 46, 53]⟩, ⟨#[65, 65]⟩, 0) := by kernel_rfl
theorem verdict_B : accept_Verdict.f msgB = some (124, 94, 126, 92, 38, ⟨#[]⟩, ⟨#[]⟩, ⟨#[]⟩, ⟨#[]⟩, ⟨#[]⟩, ⟨#[]⟩, ⟨#[65, 68, 84]⟩, ⟨#[55]⟩, ⟨#[80]⟩, ⟨#[57]⟩, ⟨#[65, 82]⟩, 12) := by kernel_rfl
theorem reply_A : QReply.accept_Reply.f 20 msgA false = some (ansA, true) := by kernel_rfl

theorem const_cells (w : World) (cs : Array Value) (xs : List Int) (c : Nat × Nat) (hl : xs.length ≤ 9223372036854775807) (h : cs.toList = xs.map (Value.int .u8)) : Kd.C (Kd.int .u8) (w.alloc (.cells cs 5 c)) (some ⟨w.heap.size, 0, none⟩) xs.length xs := by
  refine Kd.C_of_reads (d := (0 : Int)) (enc := Value.int .u8) (h1 := fun _ => rfl) ⟨rfl, hl, fun hp => ⟨_, rfl, fun j hj => ?_⟩⟩
  rw [add_plain, World.cell?_alloc_mark, ← Array.getElem?_toList, h, List.getElem?_map, List.getElem?_eq_getElem hj, List.getD_eq_getElem?_getD, List.getElem?_eq_getElem hj]
  rfl
def law_alive.f : Option Bool := some true
theorem verdict_callA (b : Nat) (W : World) (hG : GlobA W) (h : Kd.C (Kd.int .u8) W (some ⟨b, 0, none⟩) 26 msgA) : Calls Tryd.prog 10 #[.slice (some ⟨b, 0, none⟩) 26 26] W fun e w' => e = .returned (.tuple #[.agg #[.int .u8 124, .int .u8 94, .int .u8 126, .int .u8 92, .int .u8 38, .string ⟨#[]⟩, .string ⟨#[]⟩, .string ⟨#[]⟩, .string ⟨#[]⟩, .string ⟨#[]⟩, .string ⟨#[]⟩, .string ⟨#[65, 68, 84]⟩, .string ⟨#[55]⟩, .string ⟨#[80]⟩, .string ⟨#[50, 46, 53]⟩], .string ⟨#[65, 65]⟩, .int .i64 0]) ∧ Below W.heap.size W w' :=
  accept_Verdict.calls (some ⟨b, 0, none⟩) 26 msgA 124 94 126 92 38 ⟨#[]⟩ ⟨#[]⟩ ⟨#[]⟩ ⟨#[]⟩ ⟨#[]⟩ ⟨#[]⟩ ⟨#[65, 68, 84]⟩ ⟨#[55]⟩ ⟨#[80]⟩ ⟨#[50, 46, 53]⟩ ⟨#[65, 65]⟩ 0 W hG h (by decide) verdict_A
theorem verdict_callB (b : Nat) (W : World) (hG : GlobA W) (h : Kd.C (Kd.int .u8) W (some ⟨b, 0, none⟩) 24 msgB) : Calls Tryd.prog 10 #[.slice (some ⟨b, 0, none⟩) 24 24] W fun e w' => e = .returned (.tuple #[.agg #[.int .u8 124, .int .u8 94, .int .u8 126, .int .u8 92, .int .u8 38, .string ⟨#[]⟩, .string ⟨#[]⟩, .string ⟨#[]⟩, .string ⟨#[]⟩, .string ⟨#[]⟩, .string ⟨#[]⟩, .string ⟨#[65, 68, 84]⟩, .string ⟨#[55]⟩, .string ⟨#[80]⟩, .string ⟨#[57]⟩], .string ⟨#[65, 82]⟩, .int .i64 12]) ∧ Below W.heap.size W w' :=
  accept_Verdict.calls (some ⟨b, 0, none⟩) 24 msgB 124 94 126 92 38 ⟨#[]⟩ ⟨#[]⟩ ⟨#[]⟩ ⟨#[]⟩ ⟨#[]⟩ ⟨#[]⟩ ⟨#[65, 68, 84]⟩ ⟨#[55]⟩ ⟨#[80]⟩ ⟨#[57]⟩ ⟨#[65, 82]⟩ 12 W hG h (by decide) verdict_B
theorem reply_callA (b : Nat) (W : World) (hG : GlobA W) (h : Kd.C (Kd.int .u8) W (some ⟨b, 0, none⟩) 26 msgA) : Calls Tryd.prog 12 #[.slice (some ⟨b, 0, none⟩) 26 26, .bool false] W fun e w' => ∃ v0 : Value, e = .returned (.tuple #[v0, .bool true]) ∧ Kd.R (Kd.int .u8) 5 w' W.heap.size (fun _ => True) v0 ansA ∧ Below W.heap.size W w' :=
  QReply.accept_Reply.calls 20 (some ⟨b, 0, none⟩) 26 msgA false ansA true W hG h (by decide) reply_A
set_option maxHeartbeats 2000000 in
theorem law_alive.calls (r : Bool) (w : World) (hG : GlobA w) (h : law_alive.f = some r) :
    Calls Tryd.prog 9 #[] w fun e w' => e = .returned (.bool r) ∧ Below w.heap.size w w' := by
  obtain rfl := Option.some.inj h
  have HG := Aside0.mk hG
  have HA := Aside0.mk (const_cells w #[.int .u8 77, .int .u8 83, .int .u8 72, .int .u8 124, .int .u8 94, .int .u8 126, .int .u8 92, .int .u8 38, .int .u8 124, .int .u8 124, .int .u8 124, .int .u8 124, .int .u8 124, .int .u8 124, .int .u8 124, .int .u8 65, .int .u8 68, .int .u8 84, .int .u8 124, .int .u8 55, .int .u8 124, .int .u8 80, .int .u8 124, .int .u8 50, .int .u8 46, .int .u8 53] msgA (26, 27) (by decide) rfl)
  have hc1 := Lib.run_convert_bytes_const (P := Tryd.prog) w 26 5 #[.int .u8 77, .int .u8 83, .int .u8 72, .int .u8 124, .int .u8 94, .int .u8 126, .int .u8 92, .int .u8 38, .int .u8 124, .int .u8 124, .int .u8 124, .int .u8 124, .int .u8 124, .int .u8 124, .int .u8 124, .int .u8 65, .int .u8 68, .int .u8 84, .int .u8 124, .int .u8 55, .int .u8 124, .int .u8 80, .int .u8 124, .int .u8 50, .int .u8 46, .int .u8 53] 26 26 Tryd.underlying26 Tryd.underlying5
  have heq : ((strOfNums ansA).toList == ([11, 77, 83, 72, 124, 94, 126, 92, 38, 124, 124, 124, 124, 124, 124, 124, 65, 67, 75, 124, 55, 124, 80, 124, 50, 46, 53, 13, 77, 83, 65, 124, 65, 69, 124, 55, 13, 28, 13] : List UInt8)) = true := by kernel_rfl
  clear hG h
  go_enter Tryd.func9, Tryd.ntmps9
  go_wp2_with (first
    | (go_at_call 10; refine (verdict_callB (w2.heap.size + 1) _ ?g2 ?r2).mono ?_; (case g2 => exact HG.out.below (below_alloc (below_alloc HB2.out _) _)); (case r2 => (have h := const_cells (w2.alloc (.cells #[.int .u8 124, .int .u8 94, .int .u8 126, .int .u8 92, .int .u8 38, .string ⟨#[]⟩, .string ⟨#[]⟩, .string ⟨#[]⟩, .string ⟨#[]⟩, .string ⟨#[]⟩, .string ⟨#[]⟩, .string ⟨#[65, 68, 84]⟩, .string ⟨#[55]⟩, .string ⟨#[80]⟩, .string ⟨#[50, 46, 53]⟩] 25)) #[.int .u8 77, .int .u8 83, .int .u8 72, .int .u8 124, .int .u8 94, .int .u8 126, .int .u8 92, .int .u8 38, .int .u8 124, .int .u8 124, .int .u8 124, .int .u8 124, .int .u8 124, .int .u8 124, .int .u8 124, .int .u8 65, .int .u8 68, .int .u8 84, .int .u8 124, .int .u8 55, .int .u8 124, .int .u8 80, .int .u8 124, .int .u8 57] msgB (24, 25) (by decide) rfl; rw [World.size_alloc] at h; exact h)); rintro e w4 ⟨rfl, hb4⟩; have HB4 := Aside0.mk (below_step (below_alloc (below_alloc HB2.out _) _) hb4); have HA4 := Aside0.mk (Kd.C_below (Kd.C_below HA2.out (below_alloc (below_alloc (Below.refl _ _) _) _)) hb4); clear hb4 hc2)
    | (go_at_call 10; refine (verdict_callA w.heap.size _ ?g1 ?r1).mono ?_; (case g1 => exact HG.out.below (below_alloc (Below.refl _ _) _)); (case r1 => exact HA.out); rintro e w2 ⟨rfl, hb2⟩; have HB2 := Aside0.mk (below_step (below_alloc (Below.refl _ _) _) hb2); have HA2 := Aside0.mk (Kd.C_below HA.out hb2); have hc2 := Lib.run_convert_bytes_const (P := Tryd.prog) (w2.alloc (.cells #[.int .u8 124, .int .u8 94, .int .u8 126, .int .u8 92, .int .u8 38, .string ⟨#[]⟩, .string ⟨#[]⟩, .string ⟨#[]⟩, .string ⟨#[]⟩, .string ⟨#[]⟩, .string ⟨#[]⟩, .string ⟨#[65, 68, 84]⟩, .string ⟨#[55]⟩, .string ⟨#[80]⟩, .string ⟨#[50, 46, 53]⟩] 25)) 26 5 #[.int .u8 77, .int .u8 83, .int .u8 72, .int .u8 124, .int .u8 94, .int .u8 126, .int .u8 92, .int .u8 38, .int .u8 124, .int .u8 124, .int .u8 124, .int .u8 124, .int .u8 124, .int .u8 124, .int .u8 124, .int .u8 65, .int .u8 68, .int .u8 84, .int .u8 124, .int .u8 55, .int .u8 124, .int .u8 80, .int .u8 124, .int .u8 57] 24 24 Tryd.underlying26 Tryd.underlying5; rw [World.size_alloc] at hc2; clear hb2 hc1)
    | (go_at_call 12; refine (reply_callA w.heap.size _ ?g3 ?r3).mono ?_; (case g3 => exact HG.out.below (below_alloc HB4.out _)); (case r3 => exact Kd.C_below HA4.out (below_alloc (Below.refl _ _) _)); rintro e w6 ⟨v0, rfl, hR, hb6⟩; have HB6 := Aside0.mk (below_step (below_alloc HB4.out _) hb6); have hcv := own_string (P := Tryd.prog) Tryd.underlying26 Tryd.underlying5 Tryd.underlying9 (Kd.own_of_R hR); clear hb6 hR))
  go_ret
  exact ⟨rfl, HB6.out⟩
end Go.Proofs.YtciagecaegoppaaDoor
end
section
namespace Go.Proofs.YtciagecaegoppaaDoor
set_option linter.unusedVariables false
set_option linter.unusedSimpArgs false
open Go.RowKit Go.Proofs.YtciagecaegoppaaDoorW.PrintWords Go.Proofs.YtciagecaegoppaaDoorW.PrintLast Go.Proofs.YtciagecaegoppaaDoorW.PrintMore

theorem size_strOf (l : List UInt8) : (strOf l).size = l.length := by simp [strOf, ByteArray.size]
theorem size_strOfNums (l : List Int) : (strOfNums l).size = l.length := by simp [strOfNums, ByteArray.size]
theorem pieces_le (c : UInt8) (l : List UInt8) : ∀ p ∈ pieces c l, p.length ≤ l.length := by
  induction l with
  | nil => simp [pieces]
  | cons b r ih =>
    rw [pieces]
    by_cases h : b = c
    · rw [if_pos h]
      intro p hp
      rcases List.mem_cons.1 hp with rfl | hp
      · simp
      · have := ih p hp
        simp
        omega
    · rw [if_neg h]
      cases hq : pieces c r with
      | nil => intro p hp; simp at hp; subst hp; simp
      | cons q qs =>
        rw [hq] at ih
        intro p hp
        rcases List.mem_cons.1 hp with rfl | hp
        · have := ih q List.mem_cons_self
          simp
          omega
        · have := ih p (List.mem_cons_of_mem _ hp)
          simp
          omega
theorem pieces_pos (c : UInt8) (l : List UInt8) : 0 < (pieces c l).length := by
  rw [(cut_pieces c l).1]
  simp
theorem pieces_one (c : UInt8) (l : List UInt8) (h : (pieces c l).length = 1) : pieces c l = [l] := by
  induction l with
  | nil => rfl
  | cons b r ih =>
    rw [pieces] at h ⊢
    have hp := pieces_pos c r
    by_cases hb : b = c
    · rw [if_pos hb] at h
      simp at h
      rw [h] at hp
      simp at hp
    · rw [if_neg hb] at h ⊢
      cases hq : pieces c r with
      | nil => rw [hq] at hp; simp at hp
      | cons q qs =>
        rw [hq] at h ih
        simp at h
        subst h
        have := ih rfl
        simp at this
        subst this
        rfl
theorem piecesS_le (c : Int) (s : ByteArray) : ∀ p ∈ piecesS c s, p.size ≤ s.size := by
  intro p hp
  obtain ⟨q, hq, rfl⟩ := List.mem_map.1 hp
  rw [size_strOf, ← data_length]
  exact pieces_le _ _ q hq
theorem getD_mem_or {α : Type} (l : List α) (i : Nat) (d : α) : l.getD i d ∈ l ∨ l.getD i d = d := by
  rw [List.getD_eq_getElem?_getD]
  cases h : l[i]? with
  | none => exact .inr rfl
  | some x => exact .inl (List.mem_of_getElem? h)
theorem foundIn_size (n : Int) (l : List ByteArray) (m : Nat) (h : ∀ p ∈ l, p.size ≤ m) : (foundIn n l).size ≤ m := by
  unfold foundIn
  split
  · rcases getD_mem_or l (n - 1).toNat ByteArray.empty with hm | hm
    · exact h _ hm
    · rw [hm]; exact Nat.zero_le _
  · exact Nat.zero_le _
theorem nth_tot (s : ByteArray) (c n : Int) (h : s.size < 4294967281) : segment_nth.f s c n = some (foundIn n (piecesS c s), ((piecesS c s).length : Int)) := if_pos h
theorem splitS_le (l : List Int) : ∀ p ∈ splitS l, p.size ≤ l.length := by
  have h := piecesS_le 13 (strOfNums l)
  rw [size_strOfNums] at h
  unfold splitS
  split
  · exact fun p hp => h p (List.dropLast_sublist _ |>.mem hp)
  · exact h
theorem splitS_pos (l : List Int) (hl : 0 < l.length) : 0 < (splitS l).length := by
  unfold splitS
  have hp := pieces_pos (13 : Int).toNat.toUInt8 (strOfNums l).data.toList
  have hlen : (piecesS 13 (strOfNums l)).length = (pieces (13 : Int).toNat.toUInt8 (strOfNums l).data.toList).length := by simp [piecesS]
  split
  · rename_i he
    rw [List.length_dropLast]
    rcases Nat.lt_or_ge 1 (piecesS 13 (strOfNums l)).length with h1 | h1
    · omega
    · exfalso
      have h2 := pieces_one _ _ (show (pieces (13 : Int).toNat.toUInt8 (strOfNums l).data.toList).length = 1 by omega)
      unfold piecesS at he
      rw [h2] at he
      simp [strOf, Lib.toList_data, strOfNums] at he
      subst he
      simp at hl
  · omega
theorem right_l0 : ∀ (k : Nat) (x3 x12 : List Int) (i : Int), 0 ≤ i → i ≤ (x12.length : Int) → (x12.length : Int) - i < k → x12.length < 1000 → ∃ r, QRight.delim_Right.l0 k x3 x12 (x12.length : Int) i = some r
  | 0, _, _, _, _, _, h, _ => by exfalso; omega
  | k + 1, x3, x12, i, h0, h1, h2, h3 => by
    unfold QRight.delim_Right.l0
    by_cases hi : i < (x12.length : Int)
    · have ih := right_l0 k x3 x12 (i + 1) (by omega) (by omega) (by omega) h3
      have hw : wrap64 (i + 1) = i + 1 := by unfold wrap64; omega
      rw [if_pos hi, if_pos h0, if_pos hi]
      simp only [bytes_IndexByte.f, Option.bind_some, hw]
      repeat' split
      all_goals first | exact ⟨_, rfl⟩ | exact ih
    · rw [if_neg hi]
      exact ⟨_, rfl⟩
theorem right_tot (d0 d1 d2 d3 d4 : Int) : ∃ r, QRight.delim_Right.f 10 d0 d1 d2 d3 d4 = some r := by
  unfold QRight.delim_Right.f
  simp only [QRight.delim_Plain.f, QRight.delim_five.f, Option.bind_some]
  split
  · exact ⟨_, rfl⟩
  · exact right_l0 10 _ [d0, d1, d2, d3, d4] 0 (Int.le_refl _) (by simp) (by simp) (by simp)
theorem read_tot (l : List Int) : ∃ r, delim_Read.f l = some r := by
  unfold delim_Read.f
  split
  · exact ⟨_, rfl⟩
  · split
    · exact ⟨_, rfl⟩
    · obtain ⟨r, hr⟩ := right_tot (l.getD 3 0) (l.getD 4 0) (l.getD 5 0) (l.getD 6 0) (l.getD 7 0)
      rw [hr]
      exact ⟨_, rfl⟩
theorem read_ok_len {l : List Int} {d0 d1 d2 d3 d4 : Int} (h : delim_Read.f l = some (d0, d1, d2, d3, d4, 0)) : 9 ≤ l.length := by
  rcases Nat.lt_or_ge l.length 9 with hl | hl
  · unfold delim_Read.f at h
    rw [if_pos hl] at h
    simp at h
  · exact hl
theorem mn_le (a : Int) (h : 0 ≤ a) : 0 ≤ mn a 3 ∧ mn a 3 ≤ a := by unfold mn; split <;> omega
theorem name_tot (s : ByteArray) : ∃ t, QField.segment_Name.f s = some t := by
  unfold QField.segment_Name.f
  have := mn_le (s.size : Int) (by omega)
  rw [if_pos this.1, if_pos this.2]
  exact ⟨_, rfl⟩
theorem size_extract (s : ByteArray) (a b : Nat) : (s.extract a b).size ≤ s.size := by
  rw [← data_length, ← data_length, Lib.extract_data, List.length_take, List.length_drop]
  omega
theorem cutPrefix_tot (a p : ByteArray) : ∃ x ok, QField.strings_CutPrefix.f a p = some (x, ok) ∧ x.size ≤ a.size := by
  unfold QField.strings_CutPrefix.f QField.stringslite_CutPrefix.f QField.stringslite_HasPrefix.f
  by_cases h : (a.size : Int) ≥ (p.size : Int)
  · rw [if_pos h, if_pos (by omega), if_pos (by omega)]
    simp only [Option.bind_some]
    split
    · (try rw [if_pos (by omega), if_pos (by omega)])
      exact ⟨_, _, rfl, size_extract _ _ _⟩
    · exact ⟨_, _, rfl, Nat.le_refl _⟩
  · rw [if_neg h]
    exact ⟨_, _, rfl, Nat.le_refl _⟩
theorem cut_rest_le (l : List UInt8) (c : UInt8) (h : (Lib.cut l [c]).2.2 = true) : (Lib.cut l [c]).2.1.length ≤ l.length := Nat.le_of_lt ((cut_pieces c l).2 h)
theorem field_tot (s : ByteArray) (d0 d1 d2 d3 d4 k : Int) (h : s.size < 4294967281) (hk : 2 ≤ k ∧ k < 1000) : ∃ x b, QField.segment_Field.f s k d0 d1 d2 d3 d4 = some (x, b) ∧ x.size ≤ s.size := by
  unfold QField.segment_Field.f
  rw [if_neg (by omega)]
  have key : ∃ x n, QField.segment_field.f s k d0 d1 d2 d3 d4 = some (x, n) ∧ x.size ≤ s.size := by
    unfold QField.segment_field.f
    obtain ⟨t, ht⟩ := name_tot s
    rw [ht]
    simp only [Option.bind_some]
    split
    · rw [if_pos (by rw [size_strOfNums]; simp)]
      obtain ⟨x, ok, hx, hle⟩ := cutPrefix_tot s ((⟨#[77, 83, 72]⟩ : ByteArray) ++ strOfNums [d0])
      rw [hx]
      simp only [Option.bind_some]
      split
      · rw [nth_tot _ _ _ (by omega)]
        simp only [Option.bind_some]
        rw [if_neg (by omega)]
        exact ⟨_, _, rfl, Nat.le_trans (foundIn_size _ _ x.size (piecesS_le _ _)) hle⟩
      · exact ⟨_, _, rfl, Nat.zero_le _⟩
    · unfold strings_Cut.f
      rw [if_pos h]
      simp only [Option.bind_some]
      split
      · rename_i hc
        have hd : (strOfNums [d0]).data.toList = [UInt8.ofNat d0.toNat] := rfl
        rw [hd] at hc ⊢
        have hle := cut_rest_le _ _ hc
        have hsz : (⟨(Lib.cut s.data.toList [UInt8.ofNat d0.toNat]).2.1.toArray⟩ : ByteArray).size ≤ s.size := by
          rw [data_length] at hle
          show (List.toArray _).size ≤ s.size
          rw [List.size_toArray]
          exact hle
        rw [nth_tot _ _ _ (by omega)]
        simp only [Option.bind_some]
        exact ⟨_, _, rfl, Nat.le_trans (foundIn_size _ _ _ (piecesS_le _ _)) hsz⟩
      · exact ⟨_, _, rfl, Nat.zero_le _⟩
  obtain ⟨x, n, hx, hle⟩ := key
  rw [hx]
  exact ⟨_, _, rfl, hle⟩
theorem fieldOf_tot (s : ByteArray) (d0 d1 d2 d3 d4 k : Int) (h : s.size < 4294967281) (hk : 2 ≤ k ∧ k < 1000) : ∃ x, fieldOf s d0 d1 d2 d3 d4 k = some x ∧ x.size ≤ s.size := by
  obtain ⟨x, b, hx, hle⟩ := field_tot s d0 d1 d2 d3 d4 k h hk
  exact ⟨x, by unfold fieldOf; rw [hx]; rfl, hle⟩
/-- Ten texts that are no longer than n. -/
def headFit (n : Nat) (h : HeadT) : Prop := ∀ k, k < 10 → (vOf h.2.2.2.2.2.1 h.2.2.2.2.2.2.1 h.2.2.2.2.2.2.2.1 h.2.2.2.2.2.2.2.2.1 h.2.2.2.2.2.2.2.2.2.1 h.2.2.2.2.2.2.2.2.2.2.1 h.2.2.2.2.2.2.2.2.2.2.2.1 h.2.2.2.2.2.2.2.2.2.2.2.2.1 h.2.2.2.2.2.2.2.2.2.2.2.2.2.1 h.2.2.2.2.2.2.2.2.2.2.2.2.2.2.1 k).size ≤ n
theorem headFit_Z (n : Nat) (e : Int) : headFit n (headZ e) := by
  intro k hk
  rcases k with _ | _ | _ | _ | _ | _ | _ | _ | _ | _ | k
  all_goals first | exact Nat.zero_le _ | omega
theorem vOf_le (v0 v1 v2 v3 v4 v5 v6 v7 v8 v9 : ByteArray) (n : Nat) (h : v0.size ≤ n ∧ v1.size ≤ n ∧ v2.size ≤ n ∧ v3.size ≤ n ∧ v4.size ≤ n ∧ v5.size ≤ n ∧ v6.size ≤ n ∧ v7.size ≤ n ∧ v8.size ≤ n ∧ v9.size ≤ n) (k : Nat) (hk : k < 10) : (vOf v0 v1 v2 v3 v4 v5 v6 v7 v8 v9 k).size ≤ n := by
  obtain ⟨h0, h1, h2, h3, h4, h5, h6, h7, h8, h9⟩ := h
  rcases k with _ | _ | _ | _ | _ | _ | _ | _ | _ | _ | k
  · exact h0
  · exact h1
  · exact h2
  · exact h3
  · exact h4
  · exact h5
  · exact h6
  · exact h7
  · exact h8
  · exact h9
  · omega
theorem mshRead_tot (l : List Int) (hl : l.length < 4294967281) : ∃ r, msh_Read.f l = some r ∧ headFit l.length r := by
  unfold msh_Read.f
  obtain ⟨⟨d0, d1, d2, d3, d4, e0⟩, hd⟩ := read_tot l
  rw [hd]
  simp only [Option.bind_some]
  split
  · exact ⟨_, rfl, headFit_Z _ _⟩
  · rename_i he
    have he0 : e0 = 0 := by simpa using he
    subst he0
    have h9 := read_ok_len hd
    rw [show segment_Split.f l = some (splitS l) from if_pos hl]
    simp only [Option.bind_some]
    have hp := splitS_pos l (by omega)
    rw [if_pos hp]
    have hs : (rdOf ByteArray.empty (splitS l) 0).size ≤ l.length := by
      rcases getD_mem_or (splitS l) (0 : Int).toNat ByteArray.empty with hm | hm
      · exact splitS_le l _ hm
      · unfold rdOf; rw [hm]; exact Nat.zero_le _
    generalize rdOf ByteArray.empty (splitS l) 0 = s at hs ⊢
    obtain ⟨f, b, hf, hfs⟩ := field_tot s d0 d1 d2 d3 d4 2 (by omega) (by omega)
    rw [hf]
    simp only [Option.bind_some]
    split
    · exact ⟨_, rfl, headFit_Z _ _⟩
    · unfold msh_Read.rest
      obtain ⟨v0, h0, z0⟩ := fieldOf_tot s d0 d1 d2 d3 d4 3 (by omega) (by omega)
      obtain ⟨v1, h1, z1⟩ := fieldOf_tot s d0 d1 d2 d3 d4 4 (by omega) (by omega)
      obtain ⟨v2, h2, z2⟩ := fieldOf_tot s d0 d1 d2 d3 d4 5 (by omega) (by omega)
      obtain ⟨v3, h3, z3⟩ := fieldOf_tot s d0 d1 d2 d3 d4 6 (by omega) (by omega)
      obtain ⟨v4, h4, z4⟩ := fieldOf_tot s d0 d1 d2 d3 d4 7 (by omega) (by omega)
      obtain ⟨v5, h5, z5⟩ := fieldOf_tot s d0 d1 d2 d3 d4 8 (by omega) (by omega)
      obtain ⟨v6, h6, z6⟩ := fieldOf_tot s d0 d1 d2 d3 d4 9 (by omega) (by omega)
      obtain ⟨v7, h7, z7⟩ := fieldOf_tot s d0 d1 d2 d3 d4 10 (by omega) (by omega)
      obtain ⟨v8, h8, z8⟩ := fieldOf_tot s d0 d1 d2 d3 d4 11 (by omega) (by omega)
      obtain ⟨v9, h9', z9⟩ := fieldOf_tot s d0 d1 d2 d3 d4 12 (by omega) (by omega)
      rw [h0, h1, h2, h3, h4, h5, h6, h7, h8, h9']
      simp only [Option.bind_some]
      exact ⟨_, rfl, fun k hk => vOf_le v0 v1 v2 v3 v4 v5 v6 v7 v8 v9 l.length ⟨by omega, by omega, by omega, by omega, by omega, by omega, by omega, by omega, by omega, by omega⟩ k hk⟩
theorem first_tot (s : ByteArray) (d0 d1 d2 d3 d4 : Int) (h : s.size < 4294967281) : ∃ x, Qfirst.msh_first.f s d0 d1 d2 d3 d4 = some x := by
  unfold Qfirst.msh_first.f Qfirst.segment_Part.f Qfirst.segment_again.f
  rw [nth_tot _ _ _ h]
  simp only [Option.bind_some]
  rw [if_pos (by omega)]
  simp only [Option.bind_some]
  split
  · rw [nth_tot _ _ _ (Nat.lt_of_le_of_lt (foundIn_size _ _ s.size (piecesS_le _ _)) h)]
    simp only [Option.bind_some]
    rw [if_pos (by omega)]
    exact ⟨_, rfl⟩
  · exact ⟨_, rfl⟩
theorem check_tot (d0 d1 d2 d3 d4 : Int) (s5 s6 s7 s8 s9 s10 s11 s12 s13 s14 : ByteArray) (h13 : s13.size < 4294967281) (h14 : s14.size < 4294967281) : ∃ r, msh_Check.f d0 d1 d2 d3 d4 s5 s6 s7 s8 s9 s10 s11 s12 s13 s14 = some r := by
  unfold msh_Check.f
  split
  · exact ⟨_, rfl⟩
  · obtain ⟨v, hv⟩ := first_tot s14 d0 d1 d2 d3 d4 h14
    obtain ⟨p, hp⟩ := first_tot s13 d0 d1 d2 d3 d4 h13
    rw [hv, hp]
    simp only [Option.bind_some]
    split
    · exact ⟨_, rfl⟩
    · split <;> exact ⟨_, rfl⟩
end Go.Proofs.YtciagecaegoppaaDoor
end
section
namespace Go.Proofs.YtciagecaegoppaaDoor
set_option linter.unusedVariables false
set_option linter.unusedSimpArgs false
set_option maxRecDepth 20000
open Go.RowKit Go.Proofs.YtciagecaegoppaaDoorW.PrintWords Go.Proofs.YtciagecaegoppaaDoorW.PrintLast Go.Proofs.YtciagecaegoppaaDoorW.PrintMore

theorem joinTail_le (sep : List UInt8) (r : List (List UInt8)) (n : Nat) (h : ∀ x ∈ r, x.length ≤ n) : (Lib.joinTail sep r).length ≤ r.length * (n + sep.length) := by
  induction r with
  | nil => simp [Lib.joinTail]
  | cons x r ih =>
    have h1 := h x List.mem_cons_self
    have h2 := ih (fun y hy => h y (List.mem_cons_of_mem _ hy))
    unfold Lib.joinTail at h2 ⊢
    simp only [List.map_cons, List.flatten_cons, List.length_append, List.length_cons, Nat.succ_mul]
    omega
theorem join_le (xs : List (List UInt8)) (sep : List UInt8) (n : Nat) (h : ∀ x ∈ xs, x.length ≤ n) : (Lib.join xs sep).length ≤ xs.length * (n + sep.length) := by
  cases xs with
  | nil => simp [Lib.join_nil]
  | cons x r =>
    rw [Lib.join_cons]
    have h1 := h x List.mem_cons_self
    have h2 := joinTail_le sep r n (fun y hy => h y (List.mem_cons_of_mem _ hy))
    simp only [List.length_append, List.length_cons, Nat.succ_mul]
    omega
theorem joinS_le (l : List ByteArray) (sep : ByteArray) (n : Nat) (h : ∀ x ∈ l, x.size ≤ n) : (joinS l sep).length ≤ l.length * (n + sep.size) := by
  have := join_le (l.map (·.data.toList)) sep.data.toList n (fun x hx => by
    obtain ⟨y, hy, rfl⟩ := List.mem_map.1 hx
    rw [data_length]
    exact h y hy)
  rw [List.length_map, data_length] at this
  exact this
theorem size_mk (l : List UInt8) : (⟨l.toArray⟩ : ByteArray).size = l.length := by
  show (List.toArray _).size = _
  rw [List.size_toArray]
theorem join_tot (l : List ByteArray) (sep : ByteArray) (n : Nat) (h : ∀ x ∈ l, x.size ≤ n) (hl : l.length ≤ 100) (hn : n ≤ 1000000) (hs : sep.size ≤ 10) : strings_Join.f l sep = some ⟨(joinS l sep).toArray⟩ ∧ (⟨(joinS l sep).toArray⟩ : ByteArray).size ≤ l.length * (n + sep.size) := by
  have hj := joinS_le l sep n h
  have hb : l.length * (n + sep.size) ≤ 100 * (1000000 + 10) := Nat.mul_le_mul hl (by omega)
  exact ⟨by unfold strings_Join.f; rw [if_pos ⟨by omega, by omega⟩], by rw [size_mk]; exact hj⟩

/-- segment.Make answers; its text is no longer than its parts, and a sign more each. -/
theorem make_tot (d0 d1 d2 d3 d4 : Int) (nm : ByteArray) (l : List ByteArray) (n : Nat) (h : ∀ x ∈ l, x.size ≤ n) (hl : l.length ≤ 20) (hn : n ≤ 10000) (hnm : nm.size ≤ 10) : ∃ s, QMake.segment_Make.f d0 d1 d2 d3 d4 nm l = some s ∧ s.size ≤ 1000000 := by
  have hsep : (strOfNums [d0]).size = 1 := by rw [size_strOfNums]; rfl
  unfold QMake.segment_Make.f QMake.delim_Join.f
  have hmn : 0 ≤ mn (l.length : Int) 2 ∧ mn (l.length : Int) 2 ≤ l.length ∧ mn (l.length : Int) 2 ≤ 2 := by unfold mn; split <;> omega
  split
  · rw [if_pos hmn.1, if_pos hmn.2.1]
    obtain ⟨e1, b1⟩ := join_tot (l.take (mn (l.length : Int) 2).toNat) ⟨#[]⟩ n (fun x hx => h x (List.mem_of_mem_take hx)) (by rw [List.length_take]; omega) (by omega) (by decide)
    rw [e1]
    simp only [Option.bind_some]
    generalize (⟨(joinS (l.take (mn (l.length : Int) 2).toNat) ⟨#[]⟩).toArray⟩ : ByteArray) = t at b1
    have ht : t.size ≤ 20 * 10000 := Nat.le_trans b1 (Nat.mul_le_mul (by rw [List.length_take]; omega) (show n + 0 ≤ 10000 by omega))
    have hap : (nm ++ t).size = nm.size + t.size := ByteArray.size_append
    rw [if_pos (by omega), if_pos (by simp; omega)]
    obtain ⟨e2, b2⟩ := join_tot ([nm ++ t] ++ l.drop (mn (l.length : Int) 2).toNat) (strOfNums [d0]) 300000 (fun x hx => by
      rcases List.mem_append.1 hx with hx | hx
      · rw [List.mem_singleton.1 hx]; omega
      · have := h x (List.mem_of_mem_drop hx); omega) (by simp; omega) (by omega) (by omega)
    rw [e2]
    simp only [Option.bind_some]
    refine ⟨_, rfl, Nat.le_trans ?_ (show 100 * 10000 ≤ 1000000 by decide)⟩
    have hj := joinS_le ([nm ++ t] ++ l.drop (mn (l.length : Int) 2).toNat) (strOfNums [d0]) 300000
    rw [size_mk]
    have hx := join_le (([nm ++ t] ++ l.drop (mn (l.length : Int) 2).toNat).map (·.data.toList)) (strOfNums [d0]).data.toList
    have hh : (joinS ([nm ++ t] ++ l.drop (mn (l.length : Int) 2).toNat) (strOfNums [d0])).length ≤ (nm ++ t).size + (l.drop (mn (l.length : Int) 2).toNat).length * (n + 1) := by
      unfold joinS
      rw [List.singleton_append, List.map_cons, Lib.join_cons, List.length_append, data_length]
      have := joinTail_le (strOfNums [d0]).data.toList ((l.drop (mn (l.length : Int) 2).toNat).map (·.data.toList)) n (fun x hx => by
        obtain ⟨y, hy, rfl⟩ := List.mem_map.1 hx
        rw [data_length]
        exact h y (List.mem_of_mem_drop hy))
      rw [List.length_map, data_length, hsep] at this
      omega
    have hm : (l.drop (mn (l.length : Int) 2).toNat).length * (n + 1) ≤ 20 * 10001 := Nat.mul_le_mul (by rw [List.length_drop]; omega) (by omega)
    omega
  · simp only [Option.bind_some]
    rw [if_pos (by simp; omega)]
    obtain ⟨e2, b2⟩ := join_tot ([nm] ++ l) (strOfNums [d0]) 10000 (fun x hx => by
      rcases List.mem_append.1 hx with hx | hx
      · rw [List.mem_singleton.1 hx]; omega
      · have := h x hx; omega) (by simp; omega) (by omega) (by omega)
    rw [e2]
    simp only [Option.bind_some]
    refine ⟨_, rfl, Nat.le_trans b2 ?_⟩
    rw [hsep]
    have : ([nm] ++ l).length * (10000 + 1) ≤ 21 * 10001 := Nat.mul_le_mul (by simp; omega) (Nat.le_refl _)
    omega

theorem scan_tot (fl : ByteArray) (v : Nat → ByteArray) (hv : ∀ k, k < 10 → (v k).size < 4294967281) : ∀ m k, k + m = 10 → ∃ n, wScan fl v m k = some n
  | 0, k, h => ⟨k, rfl⟩
  | m + 1, k, h => by
    unfold wScan strings_Contains.f
    have hk := hv k (by omega)
    rw [if_pos hk, if_pos hk]
    simp only [Option.bind_some]
    split
    · exact ⟨_, rfl⟩
    · split
      · exact ⟨_, rfl⟩
      · exact scan_tot fl v hv m (k + 1) (by omega)
theorem write_tot (d0 d1 d2 d3 d4 : Int) (s5 s6 s7 s8 s9 s10 s11 s12 s13 s14 : ByteArray) (n : Nat) (hv : ∀ k, k < 10 → (vOf s5 s6 s7 s8 s9 s10 s11 s12 s13 s14 k).size ≤ n) (hn : n ≤ 9000) :
    ∃ s e, msh_Write.f d0 d1 d2 d3 d4 s5 s6 s7 s8 s9 s10 s11 s12 s13 s14 = some (s, e) ∧ s.size ≤ 1000000 := by
  unfold msh_Write.f
  obtain ⟨rt, hrt⟩ := right_tot d0 d1 d2 d3 d4
  rw [hrt]
  simp only [Option.bind_some]
  split
  · exact ⟨_, _, rfl, Nat.zero_le _⟩
  · obtain ⟨m, hm⟩ := scan_tot (strOfNums [d0]) (vOf s5 s6 s7 s8 s9 s10 s11 s12 s13 s14) (fun k hk => by have := hv k hk; omega) 10 0 rfl
    rw [hm]
    simp only [Option.bind_some]
    split
    · exact ⟨_, _, rfl, Nat.zero_le _⟩
    · have hin : ∀ x ∈ (wL (strOfNums [d0]) (strOfNums [d1, d2, d3, d4]) (vOf s5 s6 s7 s8 s9 s10 s11 s12 s13 s14) 10).take (wFull (vOf s5 s6 s7 s8 s9 s10 s11 s12 s13 s14) 10), x.size ≤ n + 4 := by
        intro x hx
        have hx := List.mem_of_mem_take hx
        unfold wL at hx
        rcases List.mem_append.1 hx with hx | hx
        · rcases List.mem_cons.1 hx with rfl | hx
          · rw [size_strOfNums]; simp
          · rw [List.mem_singleton.1 hx, size_strOfNums]; simp
        · obtain ⟨k, hk, rfl⟩ := List.mem_map.1 hx
          have := hv k (List.mem_range.1 hk)
          omega
      have hlen : ((wL (strOfNums [d0]) (strOfNums [d1, d2, d3, d4]) (vOf s5 s6 s7 s8 s9 s10 s11 s12 s13 s14) 10).take (wFull (vOf s5 s6 s7 s8 s9 s10 s11 s12 s13 s14) 10)).length ≤ 20 := by
        rw [List.length_take, wL_len]
        omega
      obtain ⟨s, hs, hle⟩ := make_tot d0 d1 d2 d3 d4 ⟨#[77, 83, 72]⟩ _ (n + 4) hin hlen (by omega) (by decide)
      rw [hs]
      exact ⟨s, 0, rfl, hle⟩

/-- segment.Join of two. -/
theorem join2 (k : Nat) (s t : ByteArray) (hs : s.size ≤ 1000000) (ht : t.size ≤ 1000000) : QJoin.segment_Join.f (k + 3) [s, t] = some (bytesOf s ++ [13] ++ bytesOf t ++ [13]) := by
  have e0 : rdOf ByteArray.empty [s, t] 0 = s := rfl
  have e1 : rdOf ByteArray.empty [s, t] 1 = t := rfl
  have w1 : wrap64 (0 + 1) = 1 := by unfold wrap64; omega
  have w2 : wrap64 (1 + 1) = 2 := by unfold wrap64; omega
  have l1 := bytesOf_length s
  have l2 := bytesOf_length t
  unfold QJoin.segment_Join.f
  rw [QJoin.segment_Join.l0]
  simp only [List.length_cons, List.length_nil]
  rw [if_pos (by omega), if_pos (by omega), if_pos (by omega), e0, if_pos (by simp; omega)]
  simp only [Option.bind_some]
  rw [if_pos (by simp; omega), w1, QJoin.segment_Join.l0]
  simp only [List.length_cons, List.length_nil]
  rw [if_pos (by omega), if_pos (by omega), if_pos (by omega), e1, if_pos (by simp; omega)]
  simp only [Option.bind_some]
  rw [if_pos (by simp; omega), w2, QJoin.segment_Join.l0]
  rw [if_neg (by omega)]
  simp
theorem verdict_tot (l : List Int) (h : Bytes l) (hl : l.length < 4294967281) : ∃ d0 d1 d2 d3 d4 s5 s6 s7 s8 s9 s10 s11 s12 s13 s14 c e, accept_Verdict.f l = some (d0, d1, d2, d3, d4, s5, s6, s7, s8, s9, s10, s11, s12, s13, s14, c, e) ∧
    (∀ k, k < 10 → (vOf s5 s6 s7 s8 s9 s10 s11 s12 s13 s14 k).size ≤ l.length) ∧ c.size ≤ 2 := by
  unfold accept_Verdict.f
  rw [if_pos ⟨h, hl⟩]
  obtain ⟨⟨d0, d1, d2, d3, d4, s5, s6, s7, s8, s9, s10, s11, s12, s13, s14, e0⟩, hr, hfit⟩ := mshRead_tot l hl
  rw [hr]
  simp only [Option.bind_some]
  split
  · exact ⟨_, _, _, _, _, _, _, _, _, _, _, _, _, _, _, _, _, rfl, headFit_Z _ 0, Nat.zero_le _⟩
  · split
    · exact ⟨_, _, _, _, _, _, _, _, _, _, _, _, _, _, _, _, _, rfl, headFit_Z _ 0, Nat.zero_le _⟩
    · have h13 : s13.size ≤ l.length := hfit 8 (by decide)
      have h14 : s14.size ≤ l.length := hfit 9 (by decide)
      obtain ⟨c, hc⟩ := check_tot d0 d1 d2 d3 d4 s5 s6 s7 s8 s9 s10 s11 s12 s13 s14 (by omega) (by omega)
      rw [hc]
      refine ⟨_, _, _, _, _, _, _, _, _, _, _, _, _, _, _, _, _, rfl, hfit, ?_⟩
      unfold codeOf
      split
      · decide
      · split <;> decide
end Go.Proofs.YtciagecaegoppaaDoor
end
section
namespace Go.Proofs.YtciagecaegoppaaDoor.QStored
open Go.RowKit Go.Proofs.YtciagecaegoppaaDoorW.PrintWords Go.Proofs.YtciagecaegoppaaDoorW.PrintLast Go.Proofs.YtciagecaegoppaaDoorW.PrintMore
attribute [local go_sem] max2_int min2_int max_two min_two max_three min_three max_four min_four   -- for this text's walks alone
set_option linter.unusedVariables false
set_option linter.unusedSimpArgs false

def errW : Option Int → Value
  | none => .nilIface
  | some c => .iface 0 (.int .i64 c)
theorem errW_none : errW none = .nilIface := rfl
theorem errW_some (c : Int) : errW (some c) = .iface 0 (.int .i64 c) := rfl

-- the values' own types
end Go.Proofs.YtciagecaegoppaaDoor.QStored
end
section
namespace Go.Proofs.YtciagecaegoppaaDoor.QStored
open Go.RowKit Go.Proofs.YtciagecaegoppaaDoorW.PrintWords Go.Proofs.YtciagecaegoppaaDoorW.PrintLast Go.Proofs.YtciagecaegoppaaDoorW.PrintMore
attribute [local go_sem] max2_int min2_int max_two min_two max_three min_three max_four min_four   -- for this text's walks alone
set_option linter.unusedVariables false
set_option linter.unusedSimpArgs false

def accept_Stored.f (l0 : List Int) : Option (Bool) := (accept_Verdict.f l0).bind fun bt101 => (some (bt101.2.2.2.2.2.2.2.2.2.2.2.2.2.2.2.1.toList == ([65, 65] : List UInt8)))
set_option maxHeartbeats 8000000 in
set_option maxRecDepth 100000 in
theorem accept_Stored.calls (A0 : Option Addr) (c0 : Nat) (l0 : List Int) (r : Bool) (w : World) (hG : GlobA w) (hr0 : Kd.C (Kd.int .u8) w A0 l0.length l0) (hc0 : l0.length ≤ c0) (h : accept_Stored.f l0 = some r) :
    Calls Tryd.prog 13 #[.slice A0 l0.length c0] w fun e w' => e = .returned (.bool r) ∧ Below w.heap.size w w' := by
  have hu25 := Tryd.underlying25
  have HR0 := Aside0.mk hr0
  have HC0 := Aside0.mk hc0
  clear hr0 hc0
  have HG := Aside0.mk hG
  clear hG
  have HB := Aside0.mk (Below.refl w.heap.size w)
  have H : ((accept_Verdict.f l0).bind fun bt101 => (some (bt101.2.2.2.2.2.2.2.2.2.2.2.2.2.2.2.1.toList == ([65, 65] : List UInt8)))) = some r := h
  clear h
  replace H := Option.bind_eq_some_iff.mp H
  obtain ⟨⟨t101, t102, t103, t104, t105, t106, t107, t108, t109, t110, t111, t112, t113, t114, t115, t116, t117⟩, A20, H⟩ := H
  replace H : (some (t116.toList == ([65, 65] : List UInt8))) = some r := H
  have A2 := Aside0.mk A20
  clear A20
  obtain rfl := Option.some.inj H
  go_enter Tryd.func13, Tryd.ntmps13
  go_wp2_with (first | ((with_reducible refine gate_callee (f := 10) rfl ?_); refine goesL_ (some 8) rfl rfl Tryd.func10 (by kernel_rfl) rfl #[.slice A0 l0.length c0] rfl (by (try simp only [List.map_toArray, List.map_cons, List.map_nil]); first | done | rfl | (simp only [List.length_drop, List.length_take]; rfl)) ?_; (with_reducible refine (accept_Verdict.calls _ _ l0 t101 t102 t103 t104 t105 t106 t107 t108 t109 t110 t111 t112 t113 t114 t115 t116 t117 _ ?side3 ?side1 ?side2 A2.out).mono ?_); (case side1 => repeat (first | exact HR0.out | (with_reducible refine Kd.C_alloc ?_ _) | (with_reducible refine Kd.C_drewN ?_ _) | (with_reducible refine Kd.C_drew ?_))); (case side2 => exact HC0.out); (case side3 => exact GlobA.below HG.out (by repeat (first | (with_reducible first | exact HB.out | apply below_alloc | apply pw_below_drewN | apply below_drew1) | exact HB.out))); rintro e w3 ⟨rfl, hb⟩; refine ⟨_, rfl, ?_⟩; have n0_ := Aside0.mk (below_step (by repeat (first | (with_reducible first | exact HB.out | apply below_alloc | apply pw_below_drewN | apply below_drew1) | exact HB.out)) hb); clear HB; have HB := n0_; clear n0_; (try clear hb); (try clear hb2); (try clear hk); (try clear hi)) | ((with_reducible refine gate_dst (N := 3) rfl ?_); refine box_event ?hg (N := 3) ?hd (cs := #[.int .u8 0, .int .u8 0, .int .u8 0, .int .u8 0, .int .u8 0, .string (⟨#[]⟩ : ByteArray), .string (⟨#[]⟩ : ByteArray), .string (⟨#[]⟩ : ByteArray), .string (⟨#[]⟩ : ByteArray), .string (⟨#[]⟩ : ByteArray), .string (⟨#[]⟩ : ByteArray), .string (⟨#[]⟩ : ByteArray), .string (⟨#[]⟩ : ByteArray), .string (⟨#[]⟩ : ByteArray), .string (⟨#[]⟩ : ByteArray)]) (t := 25) ?hr ?_; (case hd => rfl); (case hg => rfl); (case hr => first | (go_simp; done) | (go_simp; rfl)); intro gb118 hg w4 hbox hb; have n0_ := Aside0.mk (below_step (by repeat (first | (with_reducible first | exact HB.out | apply below_alloc | apply pw_below_drewN | apply below_drew1) | exact HB.out)) hb); have n1_ := Aside0.mk (hbox); have n2_ := Aside0.mk ((by rw [hg]; exact (below_size (by repeat (first | (with_reducible first | exact HB.out | apply below_alloc | apply pw_below_drewN | apply below_drew1) | exact HB.out))) : w.heap.size ≤ gb118)); have n3_ := Aside0.mk ((by rw [hg]; exact (below_size (by repeat (first | (with_reducible first | exact HB.out | apply below_alloc | apply pw_below_drewN | apply below_drew1) | exact HB.out))) : w.heap.size ≤ gb118)); clear HB; have HB := n0_; have BK118 := n1_; have GW118 := n2_; have GE118 := n3_; clear n0_ n1_ n2_ n3_; clear hb hbox hg; have hcz5_0 : w4.cell? ⟨gb118, 0, none⟩ = some (.int .u8 0) := (blk_cell BK118.out 0).trans rfl; have hcz5_1 : w4.cell? ⟨gb118, 1, none⟩ = some (.int .u8 0) := (blk_cell BK118.out 1).trans rfl; have hcz5_2 : w4.cell? ⟨gb118, 2, none⟩ = some (.int .u8 0) := (blk_cell BK118.out 2).trans rfl; have hcz5_3 : w4.cell? ⟨gb118, 3, none⟩ = some (.int .u8 0) := (blk_cell BK118.out 3).trans rfl; have hcz5_4 : w4.cell? ⟨gb118, 4, none⟩ = some (.int .u8 0) := (blk_cell BK118.out 4).trans rfl; have hcz5_5 : w4.cell? ⟨gb118, 5, none⟩ = some (.string (⟨#[]⟩ : ByteArray)) := (blk_cell BK118.out 5).trans rfl; have hcz5_6 : w4.cell? ⟨gb118, 6, none⟩ = some (.string (⟨#[]⟩ : ByteArray)) := (blk_cell BK118.out 6).trans rfl; have hcz5_7 : w4.cell? ⟨gb118, 7, none⟩ = some (.string (⟨#[]⟩ : ByteArray)) := (blk_cell BK118.out 7).trans rfl; have hcz5_8 : w4.cell? ⟨gb118, 8, none⟩ = some (.string (⟨#[]⟩ : ByteArray)) := (blk_cell BK118.out 8).trans rfl; have hcz5_9 : w4.cell? ⟨gb118, 9, none⟩ = some (.string (⟨#[]⟩ : ByteArray)) := (blk_cell BK118.out 9).trans rfl; have hcz5_10 : w4.cell? ⟨gb118, 10, none⟩ = some (.string (⟨#[]⟩ : ByteArray)) := (blk_cell BK118.out 10).trans rfl; have hcz5_11 : w4.cell? ⟨gb118, 11, none⟩ = some (.string (⟨#[]⟩ : ByteArray)) := (blk_cell BK118.out 11).trans rfl; have hcz5_12 : w4.cell? ⟨gb118, 12, none⟩ = some (.string (⟨#[]⟩ : ByteArray)) := (blk_cell BK118.out 12).trans rfl; have hcz5_13 : w4.cell? ⟨gb118, 13, none⟩ = some (.string (⟨#[]⟩ : ByteArray)) := (blk_cell BK118.out 13).trans rfl; have hcz5_14 : w4.cell? ⟨gb118, 14, none⟩ = some (.string (⟨#[]⟩ : ByteArray)) := (blk_cell BK118.out 14).trans rfl; have hfz5_0 := blk_frozen BK118.out 0; have hfz5_1 := blk_frozen BK118.out 1; have hfz5_2 := blk_frozen BK118.out 2; have hfz5_3 := blk_frozen BK118.out 3; have hfz5_4 := blk_frozen BK118.out 4; have hfz5_5 := blk_frozen BK118.out 5; have hfz5_6 := blk_frozen BK118.out 6; have hfz5_7 := blk_frozen BK118.out 7; have hfz5_8 := blk_frozen BK118.out 8; have hfz5_9 := blk_frozen BK118.out 9; have hfz5_10 := blk_frozen BK118.out 10; have hfz5_11 := blk_frozen BK118.out 11; have hfz5_12 := blk_frozen BK118.out 12; have hfz5_13 := blk_frozen BK118.out 13; have hfz5_14 := blk_frozen BK118.out 14))
  go_ret
  exact ⟨by first | rfl | (simp [errW_none, errW_some] <;> rfl) | (simp [*, errW_none, errW_some] <;> rfl), by repeat (first | (with_reducible first | exact HB.out | apply below_alloc | apply pw_below_drewN | apply below_drew1 | refine below_set ?_ GE118.out) | exact HB.out)⟩

/-- THE ONE PURE STATEMENT of accept_Stored: yours. -/
def accept_Stored.Pure : Prop := ∀ (l0 : List Int), l0.length ≤ maxLen → l0.length * 1 ≤ 140737488351232 → (∀ x ∈ l0, (Lit.int .u8 x).wf = true) → accept_Stored.f l0 = some true
theorem accept_Stored.walk (P : accept_Stored.Pure) (a0 : Option Addr) (len0 cap0 : Nat) (z0 : List Int) (w : World) (hG : GlobA w) (w0 : (a0 = none ∧ len0 = 0 ∧ cap0 = 0 ∧ z0 = []) ∨ ∃ x, a0 = some x ∧ len0 ≤ cap0 ∧ cap0 ≤ maxLen ∧ z0.length = cap0 ∧ (∀ i, i < z0.length → w.cell? (x.add i) = some (.int .u8 (z0.getD i 0))) ∧ ∀ n ∈ z0, (Lit.int .u8 n).wf = true) (y0 : len0 * 1 ≤ 140737488351232) :
    Calls Tryd.prog 13 #[.slice a0 len0 cap0] w fun e w' => e = .returned (.bool true) ∧ Below w.heap.size w w' := by
  obtain ⟨l0, rfl, hr0, hm0, hw0, hc0⟩ := ReadsInt.ofRowC w0
  have h := P l0 hm0 y0 hw0
  refine (accept_Stored.calls _ _ l0 true w hG (Kd.C_of_reads (d := (0 : Int)) (h1 := fun _ => rfl) hr0) hc0 h).mono ?_
  rintro e w' ⟨rfl, hd⟩
  exact ⟨rfl, hd⟩

end Go.Proofs.YtciagecaegoppaaDoor.QStored
end
section
namespace Go.Proofs.YtciagecaegoppaaDoor.QRead
open Go.RowKit Go.Proofs.YtciagecaegoppaaDoorW.PrintWords Go.Proofs.YtciagecaegoppaaDoorW.PrintLast Go.Proofs.YtciagecaegoppaaDoorW.PrintMore
attribute [local go_sem] max2_int min2_int max_two min_two max_three min_three max_four min_four   -- for this text's walks alone
set_option linter.unusedVariables false
set_option linter.unusedSimpArgs false

def errW : Option Int → Value
  | none => .nilIface
  | some c => .iface 0 (.int .i64 c)
theorem errW_none : errW none = .nilIface := rfl
theorem errW_some (c : Int) : errW (some c) = .iface 0 (.int .i64 c) := rfl

-- the values' own types
end Go.Proofs.YtciagecaegoppaaDoor.QRead
end
section
namespace Go.Proofs.YtciagecaegoppaaDoor.QRead
open Go.RowKit Go.Proofs.YtciagecaegoppaaDoorW.PrintWords Go.Proofs.YtciagecaegoppaaDoorW.PrintLast Go.Proofs.YtciagecaegoppaaDoorW.PrintMore
attribute [local go_sem] max2_int min2_int max_two min_two max_three min_three max_four min_four   -- for this text's walks alone
set_option linter.unusedVariables false
set_option linter.unusedSimpArgs false

def ack_Read.j0 : Nat → List ByteArray → Bool → Int → Int → Int → Int → Int → ByteArray → ByteArray → ByteArray → ByteArray → ByteArray → ByteArray → ByteArray → ByteArray → ByteArray → ByteArray → Option (ByteArray × ByteArray × Int)
  | 0, _, _, _, _, _, _, _, _, _, _, _, _, _, _, _, _, _ => none
  | k + 1, x6, x28, x119000, x119001, x119002, x119003, x119004, x119005, x119006, x119007, x119008, x119009, x119010, x119011, x119012, x119013, x119014 => if x28 = true then (some ((⟨#[]⟩ : ByteArray), (⟨#[]⟩ : ByteArray), 10)) else (if 1 < (x6.length : Int) then ((QField.segment_Field.f (rdOf ByteArray.empty x6 1) 1 x119000 x119001 x119002 x119003 x119004).bind fun bt126 => ((QField.segment_Field.f (rdOf ByteArray.empty x6 1) 2 x119000 x119001 x119002 x119003 x119004).bind fun bt129 => ((ack_Known.f bt126.1).bind fun t131 => (if t131 = true then (some (bt126.1, bt129.1, 0)) else (some ((⟨#[]⟩ : ByteArray), (⟨#[]⟩ : ByteArray), 17)))))) else (none))
def ack_Read.f (k : Nat) (l0 : List Int) : Option (ByteArray × ByteArray × Int) := (msh_Read.f l0).bind fun bt102 => (if bt102.2.2.2.2.2.2.2.2.2.2.2.2.2.2.2 = 0 then ((segment_Split.f l0).bind fun t119 => (if (t119.length : Int) < 2 then (ack_Read.j0 k t119 true bt102.1 bt102.2.1 bt102.2.2.1 bt102.2.2.2.1 bt102.2.2.2.2.1 bt102.2.2.2.2.2.1 bt102.2.2.2.2.2.2.1 bt102.2.2.2.2.2.2.2.1 bt102.2.2.2.2.2.2.2.2.1 bt102.2.2.2.2.2.2.2.2.2.1 bt102.2.2.2.2.2.2.2.2.2.2.1 bt102.2.2.2.2.2.2.2.2.2.2.2.1 bt102.2.2.2.2.2.2.2.2.2.2.2.2.1 bt102.2.2.2.2.2.2.2.2.2.2.2.2.2.1 bt102.2.2.2.2.2.2.2.2.2.2.2.2.2.2.1) else (if 1 < (t119.length : Int) then ((QField.segment_Name.f (rdOf ByteArray.empty t119 1)).bind fun t123 => (ack_Read.j0 k t119 (t123.toList != ([77, 83, 65] : List UInt8)) bt102.1 bt102.2.1 bt102.2.2.1 bt102.2.2.2.1 bt102.2.2.2.2.1 bt102.2.2.2.2.2.1 bt102.2.2.2.2.2.2.1 bt102.2.2.2.2.2.2.2.1 bt102.2.2.2.2.2.2.2.2.1 bt102.2.2.2.2.2.2.2.2.2.1 bt102.2.2.2.2.2.2.2.2.2.2.1 bt102.2.2.2.2.2.2.2.2.2.2.2.1 bt102.2.2.2.2.2.2.2.2.2.2.2.2.1 bt102.2.2.2.2.2.2.2.2.2.2.2.2.2.1 bt102.2.2.2.2.2.2.2.2.2.2.2.2.2.2.1)) else (none)))) else (some ((⟨#[]⟩ : ByteArray), (⟨#[]⟩ : ByteArray), bt102.2.2.2.2.2.2.2.2.2.2.2.2.2.2.2)))
theorem ack_Read.mono_l : ∀ k, (∀ y0 y1 y2 y3 y4 y5 y6 y7 y8 y9 y10 y11 y12 y13 y14 y15 y16, LeO (ack_Read.j0 k y0 y1 y2 y3 y4 y5 y6 y7 y8 y9 y10 y11 y12 y13 y14 y15 y16) (ack_Read.j0 (k + 1) y0 y1 y2 y3 y4 y5 y6 y7 y8 y9 y10 y11 y12 y13 y14 y15 y16))
  | 0 => fun _ _ _ _ _ _ _ _ _ _ _ _ _ _ _ _ _ r h => by simp [ack_Read.j0] at h
  | k + 1 => by
    have ih0 := ack_Read.mono_l k
    · intro y0 y1 y2 y3 y4 y5 y6 y7 y8 y9 y10 y11 y12 y13 y14 y15 y16
      unfold ack_Read.j0
      repeat' first
      | (with_reducible exact ih0 _ _ _ _ _ _ _ _ _ _ _ _ _ _ _ _ _)
      | (with_reducible exact LeO.refl _)
      | (with_reducible exact LeO.none _)
      | (with_reducible refine LeO.ite ?_ ?_)
      | (with_reducible refine LeO.bind ?_ (fun _ => ?_))
      | exact ih0 _ _ _ _ _ _ _ _ _ _ _ _ _ _ _ _ _
      | exact LeO.none _
      | refine LeO.ite ?_ ?_
      | refine LeO.bind ?_ (fun _ => ?_)
theorem ack_Read.mono : ∀ a0 k, LeO (ack_Read.f k a0) (ack_Read.f (k + 1) a0) := by
  intro a0 k
  have ih0 := ack_Read.mono_l k
  unfold ack_Read.f
  repeat' first
      | (with_reducible exact ih0 _ _ _ _ _ _ _ _ _ _ _ _ _ _ _ _ _)
      | (with_reducible exact LeO.refl _)
      | (with_reducible exact LeO.none _)
      | (with_reducible refine LeO.ite ?_ ?_)
      | (with_reducible refine LeO.bind ?_ (fun _ => ?_))
      | exact ih0 _ _ _ _ _ _ _ _ _ _ _ _ _ _ _ _ _
      | exact LeO.none _
      | refine LeO.ite ?_ ?_
      | refine LeO.bind ?_ (fun _ => ?_)
def ack_Read.T8 : Bool × List (List Nat × List Nat) := (true, [([], []), ([0], [0]), ([1], [1]), ([], []), ([3], [3]), ([2, 4], [2, 4]), ([5], [5]), ([6], [6]), ([6], [6]), ([0, 1, 2, 3, 4, 5, 6, 7], []), ([9, 7, 5, 0, 1, 2, 3, 4, 5, 6, 7], [7, 9])])
def ack_Read.B8 : List Nat := [0, 1, 3, 0, 8, 31, 63, 127, 127, 255, 767]
theorem ack_Read.tab8 : rtab .any (opsOf Tryd.f17 8) = ack_Read.T8 := by kernel_rfl
theorem ack_Read.bits8 : waitsOk ack_Read.T8.2 ack_Read.B8 = true := by kernel_rfl
def ack_Read.T9 : Bool × List (List Nat × List Nat) := (true, [([], []), ([0], [0]), ([1], [1]), ([], []), ([3], [3]), ([2, 4], [2, 4]), ([5], [5]), ([6], [6]), ([6], [6]), ([0, 1, 2, 3, 4, 5, 6, 7], []), ([9, 7, 5, 0, 1, 2, 3, 4, 5, 6, 7], [7, 9])])
def ack_Read.B9 : List Nat := [0, 1, 3, 0, 8, 31, 63, 127, 127, 255, 767]
theorem ack_Read.tab9 : rtab .any (opsOf Tryd.f17 9) = ack_Read.T9 := by kernel_rfl
theorem ack_Read.bits9 : waitsOk ack_Read.T9.2 ack_Read.B9 = true := by kernel_rfl
set_option maxHeartbeats 8000000 in
set_option maxRecDepth 100000 in
theorem ack_Read.calls (k : Nat) (A0 : Option Addr) (c0 : Nat) (l0 : List Int) (r1 : ByteArray) (r2 : ByteArray) (r3 : Int) (w : World) (hG : GlobA w) (hr0 : Kd.C (Kd.int .u8) w A0 l0.length l0) (hc0 : l0.length ≤ c0) (h : ack_Read.f k l0 = some (r1, r2, r3)) :
    Calls Tryd.prog 17 #[.slice A0 l0.length c0] w fun e w' => e = .returned (.tuple #[.agg #[.string r1, .string r2], .int .i64 r3]) ∧ Below w.heap.size w w' := by
  have hu47 := Tryd.underlying47
  have hu25 := Tryd.underlying25
  have hu23 := Tryd.underlying23
  have HR0 := Aside0.mk hr0
  have HC0 := Aside0.mk hc0
  clear hr0 hc0
  have HG := Aside0.mk hG
  clear hG
  have HB := Aside0.mk (Below.refl w.heap.size w)
  have H : ((msh_Read.f l0).bind fun bt102 => (if bt102.2.2.2.2.2.2.2.2.2.2.2.2.2.2.2 = 0 then ((segment_Split.f l0).bind fun t119 => (if (t119.length : Int) < 2 then (ack_Read.j0 k t119 true bt102.1 bt102.2.1 bt102.2.2.1 bt102.2.2.2.1 bt102.2.2.2.2.1 bt102.2.2.2.2.2.1 bt102.2.2.2.2.2.2.1 bt102.2.2.2.2.2.2.2.1 bt102.2.2.2.2.2.2.2.2.1 bt102.2.2.2.2.2.2.2.2.2.1 bt102.2.2.2.2.2.2.2.2.2.2.1 bt102.2.2.2.2.2.2.2.2.2.2.2.1 bt102.2.2.2.2.2.2.2.2.2.2.2.2.1 bt102.2.2.2.2.2.2.2.2.2.2.2.2.2.1 bt102.2.2.2.2.2.2.2.2.2.2.2.2.2.2.1) else (if 1 < (t119.length : Int) then ((QField.segment_Name.f (rdOf ByteArray.empty t119 1)).bind fun t123 => (ack_Read.j0 k t119 (t123.toList != ([77, 83, 65] : List UInt8)) bt102.1 bt102.2.1 bt102.2.2.1 bt102.2.2.2.1 bt102.2.2.2.2.1 bt102.2.2.2.2.2.1 bt102.2.2.2.2.2.2.1 bt102.2.2.2.2.2.2.2.1 bt102.2.2.2.2.2.2.2.2.1 bt102.2.2.2.2.2.2.2.2.2.1 bt102.2.2.2.2.2.2.2.2.2.2.1 bt102.2.2.2.2.2.2.2.2.2.2.2.1 bt102.2.2.2.2.2.2.2.2.2.2.2.2.1 bt102.2.2.2.2.2.2.2.2.2.2.2.2.2.1 bt102.2.2.2.2.2.2.2.2.2.2.2.2.2.2.1)) else (none)))) else (some ((⟨#[]⟩ : ByteArray), (⟨#[]⟩ : ByteArray), bt102.2.2.2.2.2.2.2.2.2.2.2.2.2.2.2)))) = some (r1, r2, r3) := h
  clear h
  replace H := Option.bind_eq_some_iff.mp H
  obtain ⟨⟨t102, t103, t104, t105, t106, t107, t108, t109, t110, t111, t112, t113, t114, t115, t116, t117⟩, A20, H⟩ := H
  replace H : (if t117 = 0 then ((segment_Split.f l0).bind fun t119 => (if (t119.length : Int) < 2 then (ack_Read.j0 k t119 true t102 t103 t104 t105 t106 t107 t108 t109 t110 t111 t112 t113 t114 t115 t116) else (if 1 < (t119.length : Int) then ((QField.segment_Name.f (rdOf ByteArray.empty t119 1)).bind fun t123 => (ack_Read.j0 k t119 (t123.toList != ([77, 83, 65] : List UInt8)) t102 t103 t104 t105 t106 t107 t108 t109 t110 t111 t112 t113 t114 t115 t116)) else (none)))) else (some ((⟨#[]⟩ : ByteArray), (⟨#[]⟩ : ByteArray), t117))) = some (r1, r2, r3) := H
  have A2 := Aside0.mk A20
  clear A20
  by_cases c3 : t117 = 0
  · rw [if_pos c3] at H
    have c3b0 : (t117 == 0) = true := beq_iff_eq.mpr c3
    have c3b1 : (t117 != 0) = false := bne_eq_false_iff_eq.mpr c3
    clear c3
    replace H := Option.bind_eq_some_iff.mp H
    obtain ⟨t119, A40, H⟩ := H
    replace H : (if (t119.length : Int) < 2 then (ack_Read.j0 k t119 true t102 t103 t104 t105 t106 t107 t108 t109 t110 t111 t112 t113 t114 t115 t116) else (if 1 < (t119.length : Int) then ((QField.segment_Name.f (rdOf ByteArray.empty t119 1)).bind fun t123 => (ack_Read.j0 k t119 (t123.toList != ([77, 83, 65] : List UInt8)) t102 t103 t104 t105 t106 t107 t108 t109 t110 t111 t112 t113 t114 t115 t116)) else (none))) = some (r1, r2, r3) := H
    have A4 := Aside0.mk A40
    clear A40
    have HC5 := Aside0.mk H
    clear H
    go_enter Tryd.func17, Tryd.ntmps17
    go_upto_region 5 with (first | ((with_reducible refine gate_dst (N := 2) rfl ?_); refine box_event ?hg (N := 2) ?hd (cs := #[.string (⟨#[]⟩ : ByteArray), .string (⟨#[]⟩ : ByteArray)]) (t := 47) ?hr ?_; (case hd => rfl); (case hg => rfl); (case hr => first | (go_simp; done) | (go_simp; rfl)); intro gb101 hg w6 hbox hb; have n0_ := Aside0.mk (below_step (by repeat (first | (with_reducible first | exact HB.out | apply below_alloc | apply pw_below_drewN | apply below_drew1) | exact HB.out)) hb); have n1_ := Aside0.mk (hbox); have n2_ := Aside0.mk ((by rw [hg]; exact (below_size (by repeat (first | (with_reducible first | exact HB.out | apply below_alloc | apply pw_below_drewN | apply below_drew1) | exact HB.out))) : w.heap.size ≤ gb101)); have n3_ := Aside0.mk ((by rw [hg]; exact (below_size (by repeat (first | (with_reducible first | exact HB.out | apply below_alloc | apply pw_below_drewN | apply below_drew1) | exact HB.out))) : w.heap.size ≤ gb101)); clear HB; have HB := n0_; have BK101 := n1_; have GW101 := n2_; have GE101 := n3_; clear n0_ n1_ n2_ n3_; clear hb hbox hg) | ((with_reducible refine gate_callee (f := 23) rfl ?_); refine goesL_ (some 10) rfl rfl Tryd.func23 (by kernel_rfl) rfl #[.slice A0 l0.length c0] rfl (by (try simp only [List.map_toArray, List.map_cons, List.map_nil]); first | done | rfl | (simp only [List.length_drop, List.length_take]; rfl)) ?_; (with_reducible refine (msh_Read.calls _ _ l0 t102 t103 t104 t105 t106 t107 t108 t109 t110 t111 t112 t113 t114 t115 t116 t117 _ ?side3 ?side1 ?side2 A2.out).mono ?_); (case side1 => repeat (first | exact (Kd.C_below HR0.out HB.out) | (with_reducible refine Kd.C_alloc ?_ _) | (with_reducible refine Kd.C_drewN ?_ _) | (with_reducible refine Kd.C_drew ?_))); (case side2 => exact HC0.out); (case side3 => exact GlobA.below HG.out (by repeat (first | (with_reducible first | exact HB.out | apply below_alloc | apply pw_below_drewN | apply below_drew1 | refine below_set ?_ GE101.out) | exact HB.out))); rintro e w7 ⟨rfl, hb⟩; refine ⟨_, rfl, ?_⟩; have n0_ := Aside0.mk (blk_below (g := gb101) (o := .cells #[.string (⟨#[]⟩ : ByteArray), .string (⟨#[]⟩ : ByteArray)] 47 (0, 0)) (by (with_reducible repeat (first | refine blk_drewN ?_ _ | refine blk_drew ?_ | refine blk_alloc ?_ _)); exact BK101.out) hb); have n1_ := Aside0.mk (below_step (by repeat (first | (with_reducible first | exact HB.out | apply below_alloc | apply pw_below_drewN | apply below_drew1 | refine below_set ?_ GE101.out) | exact HB.out)) hb); clear BK101; clear HB; have BK101 := n0_; have HB := n1_; clear n0_ n1_; (try clear hb); (try clear hb2); (try clear hk); (try clear hi)) | ((with_reducible refine gate_dst (N := 4) rfl ?_); refine box_event ?hg (N := 4) ?hd (cs := #[.int .u8 0, .int .u8 0, .int .u8 0, .int .u8 0, .int .u8 0, .string (⟨#[]⟩ : ByteArray), .string (⟨#[]⟩ : ByteArray), .string (⟨#[]⟩ : ByteArray), .string (⟨#[]⟩ : ByteArray), .string (⟨#[]⟩ : ByteArray), .string (⟨#[]⟩ : ByteArray), .string (⟨#[]⟩ : ByteArray), .string (⟨#[]⟩ : ByteArray), .string (⟨#[]⟩ : ByteArray), .string (⟨#[]⟩ : ByteArray)]) (t := 25) ?hr ?_; (case hd => rfl); (case hg => rfl); (case hr => first | (go_simp; done) | (go_simp; rfl)); intro gb118 hg w8 hbox hb; have n0_ := Aside0.mk (blk_below (g := gb101) (o := .cells #[.string (⟨#[]⟩ : ByteArray), .string (⟨#[]⟩ : ByteArray)] 47 (0, 0)) (by (with_reducible repeat (first | refine blk_drewN ?_ _ | refine blk_drew ?_ | refine blk_alloc ?_ _)); exact BK101.out) hb); have n1_ := Aside0.mk (below_step (by repeat (first | (with_reducible first | exact HB.out | apply below_alloc | apply pw_below_drewN | apply below_drew1 | refine below_set ?_ GE101.out) | exact HB.out)) hb); have n2_ := Aside0.mk (hbox); have n3_ := Aside0.mk ((by rw [hg]; exact (below_size (by repeat (first | (with_reducible first | exact HB.out | apply below_alloc | apply pw_below_drewN | apply below_drew1 | refine below_set ?_ GE101.out) | exact HB.out))) : w.heap.size ≤ gb118)); have n4_ := Aside0.mk ((by rw [hg]; exact (below_size (by repeat (first | (with_reducible first | exact HB.out | apply below_alloc | apply pw_below_drewN | apply below_drew1 | refine below_set ?_ GE101.out) | exact HB.out))) : w.heap.size ≤ gb118)); have n5_ := Aside0.mk ((by rw [hg]; exact Nat.ne_of_lt (blk_lt (g := gb101) (o := .cells #[.string (⟨#[]⟩ : ByteArray), .string (⟨#[]⟩ : ByteArray)] 47 (0, 0)) (by (with_reducible repeat (first | refine blk_drewN ?_ _ | refine blk_drew ?_ | refine blk_alloc ?_ _)); exact BK101.out)) : gb101 ≠ gb118)); have n6_ := Aside0.mk ((by rw [hg]; exact Nat.ne_of_gt (blk_lt (g := gb101) (o := .cells #[.string (⟨#[]⟩ : ByteArray), .string (⟨#[]⟩ : ByteArray)] 47 (0, 0)) (by (with_reducible repeat (first | refine blk_drewN ?_ _ | refine blk_drew ?_ | refine blk_alloc ?_ _)); exact BK101.out)) : gb118 ≠ gb101)); clear BK101; clear HB; have BK101 := n0_; have HB := n1_; have BK118 := n2_; have GW118 := n3_; have GE118 := n4_; have NB101_118 := n5_; have NB118_101 := n6_; clear n0_ n1_ n2_ n3_ n4_ n5_ n6_; clear hb hbox hg; have hnb9 := NB118_101.out; have hnc9 := NB101_118.out; have hcz10_0 : w8.cell? ⟨gb118, 0, none⟩ = some (.int .u8 0) := (blk_cell BK118.out 0).trans rfl; have hcz10_1 : w8.cell? ⟨gb118, 1, none⟩ = some (.int .u8 0) := (blk_cell BK118.out 1).trans rfl; have hcz10_2 : w8.cell? ⟨gb118, 2, none⟩ = some (.int .u8 0) := (blk_cell BK118.out 2).trans rfl; have hcz10_3 : w8.cell? ⟨gb118, 3, none⟩ = some (.int .u8 0) := (blk_cell BK118.out 3).trans rfl; have hcz10_4 : w8.cell? ⟨gb118, 4, none⟩ = some (.int .u8 0) := (blk_cell BK118.out 4).trans rfl; have hcz10_5 : w8.cell? ⟨gb118, 5, none⟩ = some (.string (⟨#[]⟩ : ByteArray)) := (blk_cell BK118.out 5).trans rfl; have hcz10_6 : w8.cell? ⟨gb118, 6, none⟩ = some (.string (⟨#[]⟩ : ByteArray)) := (blk_cell BK118.out 6).trans rfl; have hcz10_7 : w8.cell? ⟨gb118, 7, none⟩ = some (.string (⟨#[]⟩ : ByteArray)) := (blk_cell BK118.out 7).trans rfl; have hcz10_8 : w8.cell? ⟨gb118, 8, none⟩ = some (.string (⟨#[]⟩ : ByteArray)) := (blk_cell BK118.out 8).trans rfl; have hcz10_9 : w8.cell? ⟨gb118, 9, none⟩ = some (.string (⟨#[]⟩ : ByteArray)) := (blk_cell BK118.out 9).trans rfl; have hcz10_10 : w8.cell? ⟨gb118, 10, none⟩ = some (.string (⟨#[]⟩ : ByteArray)) := (blk_cell BK118.out 10).trans rfl; have hcz10_11 : w8.cell? ⟨gb118, 11, none⟩ = some (.string (⟨#[]⟩ : ByteArray)) := (blk_cell BK118.out 11).trans rfl; have hcz10_12 : w8.cell? ⟨gb118, 12, none⟩ = some (.string (⟨#[]⟩ : ByteArray)) := (blk_cell BK118.out 12).trans rfl; have hcz10_13 : w8.cell? ⟨gb118, 13, none⟩ = some (.string (⟨#[]⟩ : ByteArray)) := (blk_cell BK118.out 13).trans rfl; have hcz10_14 : w8.cell? ⟨gb118, 14, none⟩ = some (.string (⟨#[]⟩ : ByteArray)) := (blk_cell BK118.out 14).trans rfl; have hfz10_0 := blk_frozen BK118.out 0; have hfz10_1 := blk_frozen BK118.out 1; have hfz10_2 := blk_frozen BK118.out 2; have hfz10_3 := blk_frozen BK118.out 3; have hfz10_4 := blk_frozen BK118.out 4; have hfz10_5 := blk_frozen BK118.out 5; have hfz10_6 := blk_frozen BK118.out 6; have hfz10_7 := blk_frozen BK118.out 7; have hfz10_8 := blk_frozen BK118.out 8; have hfz10_9 := blk_frozen BK118.out 9; have hfz10_10 := blk_frozen BK118.out 10; have hfz10_11 := blk_frozen BK118.out 11; have hfz10_12 := blk_frozen BK118.out 12; have hfz10_13 := blk_frozen BK118.out 13; have hfz10_14 := blk_frozen BK118.out 14) | ((with_reducible refine gate_callee (f := 35) rfl ?_); refine goesL_ (some 18) rfl rfl Tryd.func35 (by kernel_rfl) rfl #[.slice A0 l0.length c0] rfl (by (try simp only [List.map_toArray, List.map_cons, List.map_nil]); first | done | rfl | (simp only [List.length_drop, List.length_take]; rfl)) ?_; (with_reducible refine (segment_Split.calls _ _ l0 t119 _ ?side3 ?side1 ?side2 A4.out).mono ?_); (case side1 => exact Kd.C_below HR0.out (by repeat (first | (with_reducible first | exact HB.out | apply below_alloc | apply pw_below_drewN | apply below_drew1 | refine below_set ?_ GE101.out | refine below_set ?_ GE118.out) | exact HB.out))); (case side2 => exact HC0.out); (case side3 => exact GlobA.below HG.out (by repeat (first | (with_reducible first | exact HB.out | apply below_alloc | apply pw_below_drewN | apply below_drew1 | refine below_set ?_ GE101.out | refine below_set ?_ GE118.out) | exact HB.out))); rintro e w11 ⟨v120, rfl, ho0, hb⟩; refine ⟨_, rfl, ?_⟩; have n0_ := Aside0.mk (Kd.R_lower ho0 (below_size (by repeat (first | (with_reducible first | exact HB.out | apply below_alloc | apply pw_below_drewN | apply below_drew1 | refine below_set ?_ GE101.out | refine below_set ?_ GE118.out) | exact HB.out)))); have n1_ := Aside0.mk (blk_below (g := gb101) (o := .cells #[.string (⟨#[]⟩ : ByteArray), .string (⟨#[]⟩ : ByteArray)] 47 (0, 0)) (by (with_reducible repeat (first | refine blk_drewN ?_ _ | refine blk_drew ?_ | refine blk_alloc ?_ _)); refine blk_far ?_ NB101_118.out _; (with_reducible repeat (first | refine blk_drewN ?_ _ | refine blk_drew ?_ | refine blk_alloc ?_ _)); refine blk_far ?_ NB101_118.out _; (with_reducible repeat (first | refine blk_drewN ?_ _ | refine blk_drew ?_ | refine blk_alloc ?_ _)); refine blk_far ?_ NB101_118.out _; (with_reducible repeat (first | refine blk_drewN ?_ _ | refine blk_drew ?_ | refine blk_alloc ?_ _)); refine blk_far ?_ NB101_118.out _; (with_reducible repeat (first | refine blk_drewN ?_ _ | refine blk_drew ?_ | refine blk_alloc ?_ _)); refine blk_far ?_ NB101_118.out _; (with_reducible repeat (first | refine blk_drewN ?_ _ | refine blk_drew ?_ | refine blk_alloc ?_ _)); refine blk_far ?_ NB101_118.out _; (with_reducible repeat (first | refine blk_drewN ?_ _ | refine blk_drew ?_ | refine blk_alloc ?_ _)); refine blk_far ?_ NB101_118.out _; (with_reducible repeat (first | refine blk_drewN ?_ _ | refine blk_drew ?_ | refine blk_alloc ?_ _)); refine blk_far ?_ NB101_118.out _; (with_reducible repeat (first | refine blk_drewN ?_ _ | refine blk_drew ?_ | refine blk_alloc ?_ _)); refine blk_far ?_ NB101_118.out _; (with_reducible repeat (first | refine blk_drewN ?_ _ | refine blk_drew ?_ | refine blk_alloc ?_ _)); refine blk_far ?_ NB101_118.out _; (with_reducible repeat (first | refine blk_drewN ?_ _ | refine blk_drew ?_ | refine blk_alloc ?_ _)); refine blk_far ?_ NB101_118.out _; (with_reducible repeat (first | refine blk_drewN ?_ _ | refine blk_drew ?_ | refine blk_alloc ?_ _)); refine blk_far ?_ NB101_118.out _; (with_reducible repeat (first | refine blk_drewN ?_ _ | refine blk_drew ?_ | refine blk_alloc ?_ _)); refine blk_far ?_ NB101_118.out _; (with_reducible repeat (first | refine blk_drewN ?_ _ | refine blk_drew ?_ | refine blk_alloc ?_ _)); refine blk_far ?_ NB101_118.out _; (with_reducible repeat (first | refine blk_drewN ?_ _ | refine blk_drew ?_ | refine blk_alloc ?_ _)); refine blk_far ?_ NB101_118.out _; (with_reducible repeat (first | refine blk_drewN ?_ _ | refine blk_drew ?_ | refine blk_alloc ?_ _)); exact BK101.out) hb); have n2_ := Aside0.mk (blk_below (g := gb118) (o := .cells #[.int .u8 t102, .int .u8 t103, .int .u8 t104, .int .u8 t105, .int .u8 t106, .string t107, .string t108, .string t109, .string t110, .string t111, .string t112, .string t113, .string t114, .string t115, .string t116] 25 (0, 0)) (by (with_reducible repeat (first | refine blk_drewN ?_ _ | refine blk_drew ?_ | refine blk_alloc ?_ _)); refine blk_put (cs := #[.int .u8 t102, .int .u8 t103, .int .u8 t104, .int .u8 t105, .int .u8 t106, .string t107, .string t108, .string t109, .string t110, .string t111, .string t112, .string t113, .string t114, .string t115, .string (⟨#[]⟩ : ByteArray)]) ?_ 14 _ rfl; (with_reducible repeat (first | refine blk_drewN ?_ _ | refine blk_drew ?_ | refine blk_alloc ?_ _)); refine blk_put (cs := #[.int .u8 t102, .int .u8 t103, .int .u8 t104, .int .u8 t105, .int .u8 t106, .string t107, .string t108, .string t109, .string t110, .string t111, .string t112, .string t113, .string t114, .string (⟨#[]⟩ : ByteArray), .string (⟨#[]⟩ : ByteArray)]) ?_ 13 _ rfl; (with_reducible repeat (first | refine blk_drewN ?_ _ | refine blk_drew ?_ | refine blk_alloc ?_ _)); refine blk_put (cs := #[.int .u8 t102, .int .u8 t103, .int .u8 t104, .int .u8 t105, .int .u8 t106, .string t107, .string t108, .string t109, .string t110, .string t111, .string t112, .string t113, .string (⟨#[]⟩ : ByteArray), .string (⟨#[]⟩ : ByteArray), .string (⟨#[]⟩ : ByteArray)]) ?_ 12 _ rfl; (with_reducible repeat (first | refine blk_drewN ?_ _ | refine blk_drew ?_ | refine blk_alloc ?_ _)); refine blk_put (cs := #[.int .u8 t102, .int .u8 t103, .int .u8 t104, .int .u8 t105, .int .u8 t106, .string t107, .string t108, .string t109, .string t110, .string t111, .string t112, .string (⟨#[]⟩ : ByteArray), .string (⟨#[]⟩ : ByteArray), .string (⟨#[]⟩ : ByteArray), .string (⟨#[]⟩ : ByteArray)]) ?_ 11 _ rfl; (with_reducible repeat (first | refine blk_drewN ?_ _ | refine blk_drew ?_ | refine blk_alloc ?_ _)); refine blk_put (cs := #[.int .u8 t102, .int .u8 t103, .int .u8 t104, .int .u8 t105, .int .u8 t106, .string t107, .string t108, .string t109, .string t110, .string t111, .string (⟨#[]⟩ : ByteArray), .string (⟨#[]⟩ : ByteArray), .string (⟨#[]⟩ : ByteArray), .string (⟨#[]⟩ : ByteArray), .string (⟨#[]⟩ : ByteArray)]) ?_ 10 _ rfl; (with_reducible repeat (first | refine blk_drewN ?_ _ | refine blk_drew ?_ | refine blk_alloc ?_ _)); refine blk_put (cs := #[.int .u8 t102, .int .u8 t103, .int .u8 t104, .int .u8 t105, .int .u8 t106, .string t107, .string t108, .string t109, .string t110, .string (⟨#[]⟩ : ByteArray), .string (⟨#[]⟩ : ByteArray), .string (⟨#[]⟩ : ByteArray), .string (⟨#[]⟩ : ByteArray), .string (⟨#[]⟩ : ByteArray), .string (⟨#[]⟩ : ByteArray)]) ?_ 9 _ rfl; (with_reducible repeat (first | refine blk_drewN ?_ _ | refine blk_drew ?_ | refine blk_alloc ?_ _)); refine blk_put (cs := #[.int .u8 t102, .int .u8 t103, .int .u8 t104, .int .u8 t105, .int .u8 t106, .string t107, .string t108, .string t109, .string (⟨#[]⟩ : ByteArray), .string (⟨#[]⟩ : ByteArray), .string (⟨#[]⟩ : ByteArray), .string (⟨#[]⟩ : ByteArray), .string (⟨#[]⟩ : ByteArray), .string (⟨#[]⟩ : ByteArray), .string (⟨#[]⟩ : ByteArray)]) ?_ 8 _ rfl; (with_reducible repeat (first | refine blk_drewN ?_ _ | refine blk_drew ?_ | refine blk_alloc ?_ _)); refine blk_put (cs := #[.int .u8 t102, .int .u8 t103, .int .u8 t104, .int .u8 t105, .int .u8 t106, .string t107, .string t108, .string (⟨#[]⟩ : ByteArray), .string (⟨#[]⟩ : ByteArray), .string (⟨#[]⟩ : ByteArray), .string (⟨#[]⟩ : ByteArray), .string (⟨#[]⟩ : ByteArray), .string (⟨#[]⟩ : ByteArray), .string (⟨#[]⟩ : ByteArray), .string (⟨#[]⟩ : ByteArray)]) ?_ 7 _ rfl; (with_reducible repeat (first | refine blk_drewN ?_ _ | refine blk_drew ?_ | refine blk_alloc ?_ _)); refine blk_put (cs := #[.int .u8 t102, .int .u8 t103, .int .u8 t104, .int .u8 t105, .int .u8 t106, .string t107, .string (⟨#[]⟩ : ByteArray), .string (⟨#[]⟩ : ByteArray), .string (⟨#[]⟩ : ByteArray), .string (⟨#[]⟩ : ByteArray), .string (⟨#[]⟩ : ByteArray), .string (⟨#[]⟩ : ByteArray), .string (⟨#[]⟩ : ByteArray), .string (⟨#[]⟩ : ByteArray), .string (⟨#[]⟩ : ByteArray)]) ?_ 6 _ rfl; (with_reducible repeat (first | refine blk_drewN ?_ _ | refine blk_drew ?_ | refine blk_alloc ?_ _)); refine blk_put (cs := #[.int .u8 t102, .int .u8 t103, .int .u8 t104, .int .u8 t105, .int .u8 t106, .string (⟨#[]⟩ : ByteArray), .string (⟨#[]⟩ : ByteArray), .string (⟨#[]⟩ : ByteArray), .string (⟨#[]⟩ : ByteArray), .string (⟨#[]⟩ : ByteArray), .string (⟨#[]⟩ : ByteArray), .string (⟨#[]⟩ : ByteArray), .string (⟨#[]⟩ : ByteArray), .string (⟨#[]⟩ : ByteArray), .string (⟨#[]⟩ : ByteArray)]) ?_ 5 _ rfl; (with_reducible repeat (first | refine blk_drewN ?_ _ | refine blk_drew ?_ | refine blk_alloc ?_ _)); refine blk_put (cs := #[.int .u8 t102, .int .u8 t103, .int .u8 t104, .int .u8 t105, .int .u8 0, .string (⟨#[]⟩ : ByteArray), .string (⟨#[]⟩ : ByteArray), .string (⟨#[]⟩ : ByteArray), .string (⟨#[]⟩ : ByteArray), .string (⟨#[]⟩ : ByteArray), .string (⟨#[]⟩ : ByteArray), .string (⟨#[]⟩ : ByteArray), .string (⟨#[]⟩ : ByteArray), .string (⟨#[]⟩ : ByteArray), .string (⟨#[]⟩ : ByteArray)]) ?_ 4 _ rfl; (with_reducible repeat (first | refine blk_drewN ?_ _ | refine blk_drew ?_ | refine blk_alloc ?_ _)); refine blk_put (cs := #[.int .u8 t102, .int .u8 t103, .int .u8 t104, .int .u8 0, .int .u8 0, .string (⟨#[]⟩ : ByteArray), .string (⟨#[]⟩ : ByteArray), .string (⟨#[]⟩ : ByteArray), .string (⟨#[]⟩ : ByteArray), .string (⟨#[]⟩ : ByteArray), .string (⟨#[]⟩ : ByteArray), .string (⟨#[]⟩ : ByteArray), .string (⟨#[]⟩ : ByteArray), .string (⟨#[]⟩ : ByteArray), .string (⟨#[]⟩ : ByteArray)]) ?_ 3 _ rfl; (with_reducible repeat (first | refine blk_drewN ?_ _ | refine blk_drew ?_ | refine blk_alloc ?_ _)); refine blk_put (cs := #[.int .u8 t102, .int .u8 t103, .int .u8 0, .int .u8 0, .int .u8 0, .string (⟨#[]⟩ : ByteArray), .string (⟨#[]⟩ : ByteArray), .string (⟨#[]⟩ : ByteArray), .string (⟨#[]⟩ : ByteArray), .string (⟨#[]⟩ : ByteArray), .string (⟨#[]⟩ : ByteArray), .string (⟨#[]⟩ : ByteArray), .string (⟨#[]⟩ : ByteArray), .string (⟨#[]⟩ : ByteArray), .string (⟨#[]⟩ : ByteArray)]) ?_ 2 _ rfl; (with_reducible repeat (first | refine blk_drewN ?_ _ | refine blk_drew ?_ | refine blk_alloc ?_ _)); refine blk_put (cs := #[.int .u8 t102, .int .u8 0, .int .u8 0, .int .u8 0, .int .u8 0, .string (⟨#[]⟩ : ByteArray), .string (⟨#[]⟩ : ByteArray), .string (⟨#[]⟩ : ByteArray), .string (⟨#[]⟩ : ByteArray), .string (⟨#[]⟩ : ByteArray), .string (⟨#[]⟩ : ByteArray), .string (⟨#[]⟩ : ByteArray), .string (⟨#[]⟩ : ByteArray), .string (⟨#[]⟩ : ByteArray), .string (⟨#[]⟩ : ByteArray)]) ?_ 1 _ rfl; (with_reducible repeat (first | refine blk_drewN ?_ _ | refine blk_drew ?_ | refine blk_alloc ?_ _)); refine blk_put (cs := #[.int .u8 0, .int .u8 0, .int .u8 0, .int .u8 0, .int .u8 0, .string (⟨#[]⟩ : ByteArray), .string (⟨#[]⟩ : ByteArray), .string (⟨#[]⟩ : ByteArray), .string (⟨#[]⟩ : ByteArray), .string (⟨#[]⟩ : ByteArray), .string (⟨#[]⟩ : ByteArray), .string (⟨#[]⟩ : ByteArray), .string (⟨#[]⟩ : ByteArray), .string (⟨#[]⟩ : ByteArray), .string (⟨#[]⟩ : ByteArray)]) ?_ 0 _ rfl; (with_reducible repeat (first | refine blk_drewN ?_ _ | refine blk_drew ?_ | refine blk_alloc ?_ _)); exact BK118.out) hb); have n3_ := Aside0.mk (below_step (by repeat (first | (with_reducible first | exact HB.out | apply below_alloc | apply pw_below_drewN | apply below_drew1 | refine below_set ?_ GE101.out | refine below_set ?_ GE118.out) | exact HB.out)) hb); clear BK101; clear BK118; clear HB; have HO121 := n0_; have BK101 := n1_; have BK118 := n2_; have HB := n3_; clear n0_ n1_ n2_ n3_; (try clear hb); (try clear hb2); (try clear hk); (try clear hi); (try clear ho0)))
    (try simp only [Act.put, List.setIfInBounds_toArray, List.set_cons_zero, List.set_cons_succ])
    go_cut [28] (fun v28 wc => ∃ (kq : Nat) (x28_4 : Bool), v28 = .bool x28_4 ∧ Aside0 (ack_Read.j0 kq t119 x28_4 t102 t103 t104 t105 t106 t107 t108 t109 t110 t111 t112 t113 t114 t115 t116 = some (r1, r2, r3)) ∧ Aside0 (kq ≤ k) ∧ Aside0 (Kd.R Kd.string 9 wc w.heap.size (fun _ => True) v120 t119) ∧ Aside0 (wc.heap[gb101]? = some (.cells #[.string (⟨#[]⟩ : ByteArray), .string (⟨#[]⟩ : ByteArray)] 47 (0, 0))) ∧ Aside0 (wc.heap[gb118]? = some (.cells #[.int .u8 t102, .int .u8 t103, .int .u8 t104, .int .u8 t105, .int .u8 t106, .string t107, .string t108, .string t109, .string t110, .string t111, .string t112, .string t113, .string t114, .string t115, .string t116] 25 (0, 0))) ∧ Aside0 (Below w.heap.size w wc))
    case first =>
      have H := HC5.out
      clear HC5
      by_cases c12 : (t119.length : Int) < 2
      · rw [if_pos c12] at H
        have c12b0 : decide ((t119.length : Int) < 2) = true := decide_eq_true c12
        have c12b1 : decide (t119.length < 2) = true := decide_eq_true (by omega)
        clear c12
        (first | rw [c12b0] | (simp only [i64_w, i32_w]; rw [c12b0]) | skip)
        have H' := Aside0.mk H
        clear H
        obtain ⟨Ao13, co13, eo13⟩ := Kd.R_slice HO121.out
        subst eo13
        go_wp2
        go_meet
        case rel => exact ⟨_, (true), (by first | rfl | (simp; done) | (simp [*]; done)), H', ⟨by first | omega | exact Nat.le_refl _⟩, ⟨by (with_reducible repeat (first | apply Kd.R_alloc | apply Kd.R_drewN | apply Kd.R_drew)); exact HO121.out⟩, ⟨by (with_reducible repeat (first | refine blk_drewN ?_ _ | refine blk_drew ?_ | refine blk_alloc ?_ _)); exact BK101.out⟩, ⟨by (with_reducible repeat (first | refine blk_drewN ?_ _ | refine blk_drew ?_ | refine blk_alloc ?_ _)); exact BK118.out⟩, ⟨by repeat (first | (with_reducible first | exact HB.out | apply below_alloc | apply pw_below_drewN | apply below_drew1 | refine below_set ?_ GE101.out | refine below_set ?_ GE118.out) | exact HB.out)⟩⟩
      · rw [if_neg c12] at H
        have c12b0 : decide ((t119.length : Int) < 2) = false := decide_eq_false c12
        have c12b1 : decide (t119.length < 2) = false := decide_eq_false (by omega)
        clear c12
        (first | rw [c12b0] | (simp only [i64_w, i32_w]; rw [c12b0]) | skip)
        by_cases c14 : 1 < (t119.length : Int)
        · rw [if_pos c14] at H
          have c14b0 : decide (1 < (t119.length : Int)) = true := decide_eq_true c14
          have c14b1 : decide (1 < t119.length) = true := decide_eq_true (by omega)
          clear c14
          replace H := Option.bind_eq_some_iff.mp H
          obtain ⟨t123, A150, H⟩ := H
          replace H : (ack_Read.j0 k t119 (t123.toList != ([77, 83, 65] : List UInt8)) t102 t103 t104 t105 t106 t107 t108 t109 t110 t111 t112 t113 t114 t115 t116) = some (r1, r2, r3) := H
          have A15 := Aside0.mk A150
          clear A150
          have H' := Aside0.mk H
          clear H
          obtain ⟨Ao16, co16, eo16⟩ := Kd.R_slice HO121.out
          subst eo16
          have p122 : 0 ≤ (1 : Int) := (by omega)
          have q122 : 1 < (t119.length : Int) := of_decide_eq_true (by first | (with_reducible assumption) | assumption)
          obtain ⟨ad122, e122, hx122_0⟩ := Kd.at_string (Kd.R_reads' HO121.out).2.2 1 p122 q122
          cases e122
          (try simp only [show (1 : Int).toNat = 1 from rfl, Nat.reduceMul, Nat.reduceEqDiff, Go.Addr.add, ↓reduceIte] at hx122_0)
          have qi122 : (1 < t119.length) = True := eq_true (by omega)
          (try rw [show ((1 : Int)).toNat = 1 from rfl] at hx122_0)
          replace p122 := eq_true p122
          replace q122 := eq_true q122
          go_wp2_with (first | (go_at_call 36; (with_reducible refine (QField.segment_Name.calls (rdOf ByteArray.empty t119 1) t123 _ A15.out).mono ?_); rintro e w17 ⟨rfl, hb⟩; have n0_ := Aside0.mk (Kd.R_below (by (with_reducible repeat (first | apply Kd.R_alloc | apply Kd.R_drewN | apply Kd.R_drew)); exact HO121.out) hb); have n1_ := Aside0.mk (blk_below (g := gb101) (o := .cells #[.string (⟨#[]⟩ : ByteArray), .string (⟨#[]⟩ : ByteArray)] 47 (0, 0)) (by (with_reducible repeat (first | refine blk_drewN ?_ _ | refine blk_drew ?_ | refine blk_alloc ?_ _)); exact BK101.out) hb); have n2_ := Aside0.mk (blk_below (g := gb118) (o := .cells #[.int .u8 t102, .int .u8 t103, .int .u8 t104, .int .u8 t105, .int .u8 t106, .string t107, .string t108, .string t109, .string t110, .string t111, .string t112, .string t113, .string t114, .string t115, .string t116] 25 (0, 0)) (by (with_reducible repeat (first | refine blk_drewN ?_ _ | refine blk_drew ?_ | refine blk_alloc ?_ _)); exact BK118.out) hb); have n3_ := Aside0.mk (below_step (by repeat (first | (with_reducible first | exact HB.out | apply below_alloc | apply pw_below_drewN | apply below_drew1 | refine below_set ?_ GE101.out | refine below_set ?_ GE118.out) | exact HB.out)) hb); clear HO121; clear BK101; clear BK118; clear HB; have HO121 := n0_; have BK101 := n1_; have BK118 := n2_; have HB := n3_; clear n0_ n1_ n2_ n3_; (try clear hb); (try clear hb2); (try clear hk); (try clear hi)))
          go_meet
          case rel => exact ⟨_, ((t123.toList != ([77, 83, 65] : List UInt8))), (by first | rfl | (simp; done) | (simp [*]; done)), H', ⟨by first | omega | exact Nat.le_refl _⟩, ⟨by (with_reducible repeat (first | apply Kd.R_alloc | apply Kd.R_drewN | apply Kd.R_drew)); exact HO121.out⟩, ⟨by (with_reducible repeat (first | refine blk_drewN ?_ _ | refine blk_drew ?_ | refine blk_alloc ?_ _)); exact BK101.out⟩, ⟨by (with_reducible repeat (first | refine blk_drewN ?_ _ | refine blk_drew ?_ | refine blk_alloc ?_ _)); exact BK118.out⟩, ⟨by repeat (first | (with_reducible first | exact HB.out | apply below_alloc | apply pw_below_drewN | apply below_drew1 | refine below_set ?_ GE101.out | refine below_set ?_ GE118.out) | exact HB.out)⟩⟩
        · rw [if_neg c14] at H
          exact absurd H (by simp)
    case rest =>
      clear HC5
      try clear c1
      try clear p1
      try clear q1
      try clear hx1
      try clear qi1
      try clear c2
      try clear p2
      try clear c3
      try clear c3b0
      try clear c3b1
      try clear c9
      try clear c12
      try clear c12b0
      try clear c12b1
      try clear p12
      try clear q12
      try clear hx12
      try clear qi12
      try clear c14
      try clear c14b0
      try clear c14b1
      try clear c17
      try clear hcz10_0
      try clear hcz10_1
      try clear hcz10_10
      try clear hcz10_11
      try clear hcz10_12
      try clear hcz10_13
      try clear hcz10_14
      try clear hcz10_2
      try clear hcz10_3
      try clear hcz10_4
      try clear hcz10_5
      try clear hcz10_6
      try clear hcz10_7
      try clear hcz10_8
      try clear hcz10_9
      try clear hfz10_0
      try clear hfz10_1
      try clear hfz10_10
      try clear hfz10_11
      try clear hfz10_12
      try clear hfz10_13
      try clear hfz10_14
      try clear hfz10_2
      try clear hfz10_3
      try clear hfz10_4
      try clear hfz10_5
      try clear hfz10_6
      try clear hfz10_7
      try clear hfz10_8
      try clear hfz10_9
      try clear hx122_0
      try clear p122
      try clear q122
      obtain ⟨kq, x28_4, rfl, HA, HJ4, HO_6, BK101, BK118, HB⟩ := hcut
      cases kq with
      | zero => exact absurd HA.out (by simp [ack_Read.j0])
      | succ kj4 =>
        have H := HA.out
        clear HA
        simp only [ack_Read.j0] at H
        by_cases c18 : x28_4 = true
        · subst c18
          have H1 : (some ((⟨#[]⟩ : ByteArray), (⟨#[]⟩ : ByteArray), 10)) = some (r1, r2, r3) := by rw [if_pos rfl] at H; exact H
          clear H
          have H := H1
          clear H1
          simp only [Option.some.injEq, Prod.mk.injEq] at H
          obtain ⟨rfl, rfl, rfl⟩ := H
          have hnb19 := NB101_118.out
          have hnc19 := NB118_101.out
          have hcz20_0 : wc.cell? ⟨gb101, 0, none⟩ = some (.string (⟨#[]⟩ : ByteArray)) := (blk_cell BK101.out 0).trans rfl
          have hcz20_1 : wc.cell? ⟨gb101, 1, none⟩ = some (.string (⟨#[]⟩ : ByteArray)) := (blk_cell BK101.out 1).trans rfl
          have hfz20_0 := blk_frozen BK101.out 0
          have hfz20_1 := blk_frozen BK101.out 1
          go_wp2
          refine bodyPost_ret (results_ct rfl _ _ gb101 47 #[.string (⟨#[]⟩ : ByteArray), .string (⟨#[]⟩ : ByteArray)] (0, 0) _ rfl (by (with_reducible repeat (first | refine blk_drewN ?_ _ | refine blk_drew ?_ | refine blk_alloc ?_ _)); refine blk_put (cs := #[.string (⟨#[]⟩ : ByteArray), .string (⟨#[]⟩ : ByteArray)]) ?_ 1 _ rfl; (with_reducible repeat (first | refine blk_drewN ?_ _ | refine blk_drew ?_ | refine blk_alloc ?_ _)); refine blk_put (cs := #[.string (⟨#[]⟩ : ByteArray), .string (⟨#[]⟩ : ByteArray)]) ?_ 0 _ rfl; (with_reducible repeat (first | refine blk_drewN ?_ _ | refine blk_drew ?_ | refine blk_alloc ?_ _)); exact BK101.out) Tryd.underlying47 rfl (by kernel_rfl)) rfl ?_
          exact ⟨by first | rfl | (simp [errW_none, errW_some] <;> rfl) | (simp [*, errW_none, errW_some] <;> rfl), by repeat (first | (with_reducible first | exact HB.out | apply below_alloc | apply pw_below_drewN | apply below_drew1 | refine below_set ?_ GE101.out | refine below_set ?_ GE118.out) | exact HB.out)⟩
        · replace c18 := Bool.eq_false_iff.mpr c18
          subst c18
          have H1 : (if 1 < (t119.length : Int) then ((QField.segment_Field.f (rdOf ByteArray.empty t119 1) 1 t102 t103 t104 t105 t106).bind fun bt126 => ((QField.segment_Field.f (rdOf ByteArray.empty t119 1) 2 t102 t103 t104 t105 t106).bind fun bt129 => ((ack_Known.f bt126.1).bind fun t131 => (if t131 = true then (some (bt126.1, bt129.1, 0)) else (some ((⟨#[]⟩ : ByteArray), (⟨#[]⟩ : ByteArray), 17)))))) else (none)) = some (r1, r2, r3) := by rw [if_neg (show ¬ (false = true) by decide)] at H; exact H
          clear H
          have H := H1
          clear H1
          by_cases c21 : 1 < (t119.length : Int)
          · rw [if_pos c21] at H
            have c21b0 : decide (1 < (t119.length : Int)) = true := decide_eq_true c21
            have c21b1 : decide (1 < t119.length) = true := decide_eq_true (by omega)
            clear c21
            replace H := Option.bind_eq_some_iff.mp H
            obtain ⟨⟨t126, t127⟩, A220, H⟩ := H
            replace H : ((QField.segment_Field.f (rdOf ByteArray.empty t119 1) 2 t102 t103 t104 t105 t106).bind fun bt129 => ((ack_Known.f t126).bind fun t131 => (if t131 = true then (some (t126, bt129.1, 0)) else (some ((⟨#[]⟩ : ByteArray), (⟨#[]⟩ : ByteArray), 17))))) = some (r1, r2, r3) := H
            have A22 := Aside0.mk A220
            clear A220
            replace H := Option.bind_eq_some_iff.mp H
            obtain ⟨⟨t129, t130⟩, A230, H⟩ := H
            replace H : ((ack_Known.f t126).bind fun t131 => (if t131 = true then (some (t126, t129, 0)) else (some ((⟨#[]⟩ : ByteArray), (⟨#[]⟩ : ByteArray), 17)))) = some (r1, r2, r3) := H
            have A23 := Aside0.mk A230
            clear A230
            replace H := Option.bind_eq_some_iff.mp H
            obtain ⟨t131, A240, H⟩ := H
            replace H : (if t131 = true then (some (t126, t129, 0)) else (some ((⟨#[]⟩ : ByteArray), (⟨#[]⟩ : ByteArray), 17))) = some (r1, r2, r3) := H
            have A24 := Aside0.mk A240
            clear A240
            by_cases c25 : t131 = true
            · subst c25
              have H1 : (some (t126, t129, 0)) = some (r1, r2, r3) := by rw [if_pos rfl] at H; exact H
              clear H
              have H := H1
              clear H1
              simp only [Option.some.injEq, Prod.mk.injEq] at H
              obtain ⟨rfl, rfl, rfl⟩ := H
              try go_wp2_with (first | ((with_reducible refine gate_dst (N := 7) rfl ?_); refine box_event ?hg (N := 7) ?hd (cs := #[.string (⟨#[]⟩ : ByteArray), .string (⟨#[]⟩ : ByteArray)]) (t := 47) ?hr ?_; (case hd => rfl); (case hg => rfl); (case hr => first | (go_simp; done) | (go_simp; rfl)); intro gb124 hg w26 hbox hb; have n0_ := Aside0.mk (Kd.R_below (by (with_reducible repeat (first | apply Kd.R_alloc | apply Kd.R_drewN | apply Kd.R_drew)); exact HO_6.out) hb); have n1_ := Aside0.mk (blk_below (g := gb101) (o := .cells #[.string (⟨#[]⟩ : ByteArray), .string (⟨#[]⟩ : ByteArray)] 47 (0, 0)) (by (with_reducible repeat (first | refine blk_drewN ?_ _ | refine blk_drew ?_ | refine blk_alloc ?_ _)); exact BK101.out) hb); have n2_ := Aside0.mk (blk_below (g := gb118) (o := .cells #[.int .u8 t102, .int .u8 t103, .int .u8 t104, .int .u8 t105, .int .u8 t106, .string t107, .string t108, .string t109, .string t110, .string t111, .string t112, .string t113, .string t114, .string t115, .string t116] 25 (0, 0)) (by (with_reducible repeat (first | refine blk_drewN ?_ _ | refine blk_drew ?_ | refine blk_alloc ?_ _)); exact BK118.out) hb); have n3_ := Aside0.mk (below_step (by repeat (first | (with_reducible first | exact HB.out | apply below_alloc | apply pw_below_drewN | apply below_drew1 | refine below_set ?_ GE101.out | refine below_set ?_ GE118.out) | exact HB.out)) hb); have n4_ := Aside0.mk (hbox); have n5_ := Aside0.mk ((by rw [hg]; exact (below_size (by repeat (first | (with_reducible first | exact HB.out | apply below_alloc | apply pw_below_drewN | apply below_drew1 | refine below_set ?_ GE101.out | refine below_set ?_ GE118.out) | exact HB.out))) : w.heap.size ≤ gb124)); have n6_ := Aside0.mk ((by rw [hg]; exact (below_size (by repeat (first | (with_reducible first | exact HB.out | apply below_alloc | apply pw_below_drewN | apply below_drew1 | refine below_set ?_ GE101.out | refine below_set ?_ GE118.out) | exact HB.out))) : w.heap.size ≤ gb124)); have n7_ := Aside0.mk ((by rw [hg]; exact Nat.ne_of_lt (blk_lt (g := gb101) (o := .cells #[.string (⟨#[]⟩ : ByteArray), .string (⟨#[]⟩ : ByteArray)] 47 (0, 0)) (by (with_reducible repeat (first | refine blk_drewN ?_ _ | refine blk_drew ?_ | refine blk_alloc ?_ _)); exact BK101.out)) : gb101 ≠ gb124)); have n8_ := Aside0.mk ((by rw [hg]; exact Nat.ne_of_gt (blk_lt (g := gb101) (o := .cells #[.string (⟨#[]⟩ : ByteArray), .string (⟨#[]⟩ : ByteArray)] 47 (0, 0)) (by (with_reducible repeat (first | refine blk_drewN ?_ _ | refine blk_drew ?_ | refine blk_alloc ?_ _)); exact BK101.out)) : gb124 ≠ gb101)); have n9_ := Aside0.mk ((by rw [hg]; exact Nat.ne_of_lt (blk_lt (g := gb118) (o := .cells #[.int .u8 t102, .int .u8 t103, .int .u8 t104, .int .u8 t105, .int .u8 t106, .string t107, .string t108, .string t109, .string t110, .string t111, .string t112, .string t113, .string t114, .string t115, .string t116] 25 (0, 0)) (by (with_reducible repeat (first | refine blk_drewN ?_ _ | refine blk_drew ?_ | refine blk_alloc ?_ _)); exact BK118.out)) : gb118 ≠ gb124)); have n10_ := Aside0.mk ((by rw [hg]; exact Nat.ne_of_gt (blk_lt (g := gb118) (o := .cells #[.int .u8 t102, .int .u8 t103, .int .u8 t104, .int .u8 t105, .int .u8 t106, .string t107, .string t108, .string t109, .string t110, .string t111, .string t112, .string t113, .string t114, .string t115, .string t116] 25 (0, 0)) (by (with_reducible repeat (first | refine blk_drewN ?_ _ | refine blk_drew ?_ | refine blk_alloc ?_ _)); exact BK118.out)) : gb124 ≠ gb118)); clear HO_6; clear BK101; clear BK118; clear HB; have HO_6 := n0_; have BK101 := n1_; have BK118 := n2_; have HB := n3_; have BK124 := n4_; have GW124 := n5_; have GE124 := n6_; have NB101_124 := n7_; have NB124_101 := n8_; have NB118_124 := n9_; have NB124_118 := n10_; clear n0_ n1_ n2_ n3_ n4_ n5_ n6_ n7_ n8_ n9_ n10_; clear hb hbox hg))
              have n0_ := Aside0.mk (Kd.R_drew HO_6.out)
              have n1_ := Aside0.mk (blk_drew BK101.out)
              have n2_ := Aside0.mk (blk_drew BK118.out)
              have n3_ := Aside0.mk (blk_drew BK124.out)
              have n4_ := Aside0.mk (below_drew1 HB.out)
              clear HO_6
              clear BK101
              clear BK118
              clear BK124
              clear HB
              have HO_6 := n0_
              have BK101 := n1_
              have BK118 := n2_
              have BK124 := n3_
              have HB := n4_
              clear n0_ n1_ n2_ n3_ n4_
              obtain ⟨Ao28, co28, eo28⟩ := Kd.R_slice HO_6.out
              (first | subst eo28 | (injection eo28 with f1_ f2_ f3_; have f4_ := f1_.symm; have f5_ := f3_.symm; clear f1_ f2_ f3_; subst f4_; subst f5_))
              have p125 : 0 ≤ (1 : Int) := (by omega)
              have q125 : 1 < (t119.length : Int) := of_decide_eq_true (by first | (with_reducible assumption) | assumption)
              obtain ⟨ad125, e125, hx125_0⟩ := Kd.at_string (Kd.R_reads' HO_6.out).2.2 1 p125 q125
              cases e125
              (try simp only [show (1 : Int).toNat = 1 from rfl, Nat.reduceMul, Nat.reduceEqDiff, Go.Addr.add, ↓reduceIte] at hx125_0)
              have qi125 : (1 < t119.length) = True := eq_true (by omega)
              (try rw [show ((1 : Int)).toNat = 1 from rfl] at hx125_0)
              replace p125 := eq_true p125
              replace q125 := eq_true q125
              refine start_ (n := 11) (S := fun w' => w'.cell? ⟨gb118, 0, none⟩ = some (.int .u8 t102) ∧ w'.cell? ⟨gb118, 1, none⟩ = some (.int .u8 t103) ∧ w'.cell? ⟨gb118, 2, none⟩ = some (.int .u8 t104) ∧ w'.cell? ⟨gb118, 3, none⟩ = some (.int .u8 t105) ∧ w'.cell? ⟨gb118, 4, none⟩ = some (.int .u8 t106) ∧ w'.cell? ⟨gb118, 5, none⟩ = some (.string t107) ∧ w'.cell? ⟨gb118, 6, none⟩ = some (.string t108) ∧ w'.cell? ⟨gb118, 7, none⟩ = some (.string t109) ∧ w'.cell? ⟨gb118, 8, none⟩ = some (.string t110) ∧ w'.cell? ⟨gb118, 9, none⟩ = some (.string t111) ∧ w'.cell? ⟨gb118, 10, none⟩ = some (.string t112) ∧ w'.cell? ⟨gb118, 11, none⟩ = some (.string t113) ∧ w'.cell? ⟨gb118, 12, none⟩ = some (.string t114) ∧ w'.cell? ⟨gb118, 13, none⟩ = some (.string t115) ∧ w'.cell? ⟨gb118, 14, none⟩ = some (.string t116) ∧ w'.cell? ⟨ad125.block, ad125.off + 1, none⟩ = some (.string (rdOf ByteArray.empty t119 1))) (ds := []) #[false, false, false, false, false, false, false, false, false, false, false] (by kernel_rfl) rfl rfl ⟨(blk_cell BK118.out 0).trans rfl, (blk_cell BK118.out 1).trans rfl, (blk_cell BK118.out 2).trans rfl, (blk_cell BK118.out 3).trans rfl, (blk_cell BK118.out 4).trans rfl, (blk_cell BK118.out 5).trans rfl, (blk_cell BK118.out 6).trans rfl, (blk_cell BK118.out 7).trans rfl, (blk_cell BK118.out 8).trans rfl, (blk_cell BK118.out 9).trans rfl, (blk_cell BK118.out 10).trans rfl, (blk_cell BK118.out 11).trans rfl, (blk_cell BK118.out 12).trans rfl, (blk_cell BK118.out 13).trans rfl, (blk_cell BK118.out 14).trans rfl, hx125_0⟩ (fun hHeld => ?_); refine with_tabW ack_Read.tab8 ack_Read.bits8 (fun HT_ HW_ => ?_)
              generalize w26.drew = w27 at HO_6 BK101 BK118 BK124 HB hx125_0 hHeld ⊢
              refine pure_ (i := 0) (N := some 31) (v := ?_) (a' := ?_) #[true, false, false, false, false, false, false, false, false, false, false] rfl rfl (any_of HT_.out (by kernel_rfl)) (fun _ _ _ h => h) (Or.inl ⟨by rfl, ?_⟩) ?_ ?_
              rotate_left
              · intro w'
                go_simp
                with_reducible rfl
              rotate_left
              · simp only [Act.put, List.setIfInBounds_toArray, List.set_cons_zero, List.set_cons_succ, i64_w, i32_w]
                rfl
              refine pure_ (i := 1) (N := some 32) (v := ?_) (a' := ?_) #[true, true, false, false, false, false, false, false, false, false, false] rfl rfl (any_of HT_.out (by kernel_rfl)) (fun _ _ _ h => h) (Or.inl ⟨by rfl, ?_⟩) ?_ ?_
              rotate_left
              · intro w'
                go_simp
                with_reducible rfl
              rotate_left
              · simp only [Act.put, List.setIfInBounds_toArray, List.set_cons_zero, List.set_cons_succ, i64_w, i32_w]
                rfl
              refine pure_ (i := 3) (N := some 34) (v := ?_) (a' := ?_) #[true, true, false, true, false, false, false, false, false, false, false] rfl rfl (any_of HT_.out (by kernel_rfl)) (fun _ _ _ h => h) (Or.inl ⟨by rfl, ?_⟩) ?_ ?_
              rotate_left
              · intro w'
                go_simp
                with_reducible rfl
              rotate_left
              · simp only [Act.put, List.setIfInBounds_toArray, List.set_cons_zero, List.set_cons_succ, i64_w, i32_w]
                rfl
              refine take_ (i := 2) (N := some 33) (v := ?_) (a' := ?_) #[true, true, true, true, false, false, false, false, false, false, false] rfl rfl (take_ofW HT_.out HW_.out (by kernel_rfl)) (fun _ _ _ h => h) (Or.inl ⟨by rfl, ?_⟩) hHeld ?_ ?_
              rotate_left
              · rintro w' ⟨s0, s1, s2, s3, s4, s5, s6, s7, s8, s9, s10, s11, s12, s13, s14, s15⟩
                go_simp
                with_reducible rfl
              rotate_left
              · simp only [Act.put, List.setIfInBounds_toArray, List.set_cons_zero, List.set_cons_succ, i64_w, i32_w]
                rfl
              refine take_ (i := 4) (N := some 35) (v := ?_) (a' := ?_) #[true, true, true, true, true, false, false, false, false, false, false] rfl rfl (take_ofW HT_.out HW_.out (by kernel_rfl)) (fun _ _ _ h => h) (Or.inl ⟨by rfl, ?_⟩) hHeld ?_ ?_
              rotate_left
              · rintro w' ⟨s0, s1, s2, s3, s4, s5, s6, s7, s8, s9, s10, s11, s12, s13, s14, s15⟩
                go_simp
                with_reducible rfl
              rotate_left
              · simp only [Act.put, List.setIfInBounds_toArray, List.set_cons_zero, List.set_cons_succ, i64_w, i32_w]
                rfl
              refine one_ (i := 5) (N := some 36) #[true, true, true, true, true, true, false, false, false, false, false] rfl rfl (one_of HT_.out (by kernel_rfl)) (by decide) (fun K hK => ?_)
              refine goes_ Tryd.func37 (by kernel_rfl) rfl #[.string (rdOf ByteArray.empty t119 1), .int .i64 1, .agg #[.int .u8 t102, .int .u8 t103, .int .u8 t104, .int .u8 t105, .int .u8 t106]] (by rfl) rfl rfl (by (try simp only [List.map_toArray, List.map_cons, List.map_nil]); first | done | rfl | (simp only [List.length_drop, List.length_take]; rfl)) ?_
              with_reducible refine (QField.segment_Field.calls (rdOf ByteArray.empty t119 1) 1 t102 t103 t104 t105 t106 t126 t127 _ ?side1 A22.out).mono ?_
              (case side1 => exact GlobA.below HG.out (by repeat (first | (with_reducible first | exact HB.out | apply below_alloc | apply pw_below_drewN | apply below_drew1 | refine below_set ?_ GE101.out | refine below_set ?_ GE118.out | refine below_set ?_ GE124.out) | exact HB.out)))
              rintro e w29 ⟨rfl, hb⟩
              have HS15_ := (hb.cell (World.block_lt_of_cell? _ _ (hHeld.2.2.2.2.2.2.2.2.2.2.2.2.2.2.2))).trans (hHeld.2.2.2.2.2.2.2.2.2.2.2.2.2.2.2)
              refine ⟨_, rfl, ?_⟩
              have n0_ := Aside0.mk (Kd.R_below (by (with_reducible repeat (first | apply Kd.R_alloc | apply Kd.R_drewN | apply Kd.R_drew)); exact HO_6.out) hb)
              have n1_ := Aside0.mk (blk_below (g := gb101) (o := .cells #[.string (⟨#[]⟩ : ByteArray), .string (⟨#[]⟩ : ByteArray)] 47 (0, 0)) (by (with_reducible repeat (first | refine blk_drewN ?_ _ | refine blk_drew ?_ | refine blk_alloc ?_ _)); exact BK101.out) hb)
              have n2_ := Aside0.mk (blk_below (g := gb118) (o := .cells #[.int .u8 t102, .int .u8 t103, .int .u8 t104, .int .u8 t105, .int .u8 t106, .string t107, .string t108, .string t109, .string t110, .string t111, .string t112, .string t113, .string t114, .string t115, .string t116] 25 (0, 0)) (by (with_reducible repeat (first | refine blk_drewN ?_ _ | refine blk_drew ?_ | refine blk_alloc ?_ _)); exact BK118.out) hb)
              have n3_ := Aside0.mk (blk_below (g := gb124) (o := .cells #[.string (⟨#[]⟩ : ByteArray), .string (⟨#[]⟩ : ByteArray)] 47 (0, 0)) (by (with_reducible repeat (first | refine blk_drewN ?_ _ | refine blk_drew ?_ | refine blk_alloc ?_ _)); exact BK124.out) hb)
              have n4_ := Aside0.mk (below_step (by repeat (first | (with_reducible first | exact HB.out | apply below_alloc | apply pw_below_drewN | apply below_drew1 | refine below_set ?_ GE101.out | refine below_set ?_ GE118.out | refine below_set ?_ GE124.out) | exact HB.out)) hb)
              clear HO_6
              clear BK101
              clear BK118
              clear BK124
              clear HB
              have HO_6 := n0_
              have BK101 := n1_
              have BK118 := n2_
              have BK124 := n3_
              have HB := n4_
              clear n0_ n1_ n2_ n3_ n4_
              (try clear hb)
              (try clear hb2)
              (try clear hk)
              (try clear hi)
              refine hK.out _ _ ⟨(blk_cell BK118.out 0).trans rfl, (blk_cell BK118.out 1).trans rfl, (blk_cell BK118.out 2).trans rfl, (blk_cell BK118.out 3).trans rfl, (blk_cell BK118.out 4).trans rfl, (blk_cell BK118.out 5).trans rfl, (blk_cell BK118.out 6).trans rfl, (blk_cell BK118.out 7).trans rfl, (blk_cell BK118.out 8).trans rfl, (blk_cell BK118.out 9).trans rfl, (blk_cell BK118.out 10).trans rfl, (blk_cell BK118.out 11).trans rfl, (blk_cell BK118.out 12).trans rfl, (blk_cell BK118.out 13).trans rfl, (blk_cell BK118.out 14).trans rfl, HS15_⟩ (fun hHeld => ?_)
              clear hK K
              refine norm_ (a' := ?_) ?_ ?_
              rotate_left
              · show Act.put _ (some 36) _ = _
                simp only [Act.put, List.setIfInBounds_toArray, List.set_cons_zero, List.set_cons_succ, i64_w, i32_w]
                rfl
              refine pure_ (i := 6) (N := some 30) (v := ?_) (a' := ?_) #[true, true, true, true, true, true, true, false, false, false, false] rfl rfl (any_of HT_.out (by kernel_rfl)) (fun _ _ _ h => h) (Or.inl ⟨by rfl, ?_⟩) ?_ ?_
              rotate_left
              · intro w'
                go_simp
                with_reducible rfl
              rotate_left
              · simp only [Act.put, List.setIfInBounds_toArray, List.set_cons_zero, List.set_cons_succ, i64_w, i32_w]
                rfl
              refine pure_ (i := 7) (N := some 37) (v := ?_) (a' := ?_) #[true, true, true, true, true, true, true, true, false, false, false] rfl rfl (any_of HT_.out (by kernel_rfl)) (fun _ _ _ h => h) (Or.inl ⟨by rfl, ?_⟩) ?_ ?_
              rotate_left
              · intro w'
                go_simp
                with_reducible rfl
              rotate_left
              · simp only [Act.put, List.setIfInBounds_toArray, List.set_cons_zero, List.set_cons_succ, i64_w, i32_w]
                rfl
              refine pure_ (i := 8) (N := some 38) (v := ?_) (a' := ?_) #[true, true, true, true, true, true, true, true, true, false, false] rfl rfl (any_of HT_.out (by kernel_rfl)) (fun _ _ _ h => h) (Or.inl ⟨by rfl, ?_⟩) ?_ ?_
              rotate_left
              · intro w'
                go_simp
                with_reducible rfl
              rotate_left
              · simp only [Act.put, List.setIfInBounds_toArray, List.set_cons_zero, List.set_cons_succ, i64_w, i32_w]
                rfl
              refine pure_ (i := 9) (N := some 39) (v := ?_) (a' := ?_) #[true, true, true, true, true, true, true, true, true, true, false] rfl rfl (any_of HT_.out (by kernel_rfl)) (fun _ _ _ h => h) (Or.inl ⟨by rfl, ?_⟩) ?_ ?_
              rotate_left
              · intro w'
                go_simp
                with_reducible rfl
              rotate_left
              · simp only [Act.put, List.setIfInBounds_toArray, List.set_cons_zero, List.set_cons_succ, i64_w, i32_w]
                rfl
              refine one_ (i := 10) (N := none) #[true, true, true, true, true, true, true, true, true, true, true] rfl rfl (one_of HT_.out (by kernel_rfl)) (by decide) (fun K hK => ?_)
              have hs30 : w29.cell? ⟨gb124, 0, none⟩ = some (.string (⟨#[]⟩ : ByteArray)) := (blk_cell BK124.out 0).trans rfl
              have hfs30 := blk_frozen BK124.out 0
              have hns30_0 := NB101_124.out
              have hns30_1 := NB118_124.out
              have hms30_0 := NB124_101.out
              have hms30_1 := NB124_118.out
              refine skip_ (w1 := ?_) (by rfl) rfl ?_ ?_
              rotate_left
              · go_simp
                rfl
              refine hK.out _ _ ⟨((cell_far (p := ⟨gb124, _, none⟩) NB118_124.out _).trans (hHeld.1)), ((cell_far (p := ⟨gb124, _, none⟩) NB118_124.out _).trans (hHeld.2.1)), ((cell_far (p := ⟨gb124, _, none⟩) NB118_124.out _).trans (hHeld.2.2.1)), ((cell_far (p := ⟨gb124, _, none⟩) NB118_124.out _).trans (hHeld.2.2.2.1)), ((cell_far (p := ⟨gb124, _, none⟩) NB118_124.out _).trans (hHeld.2.2.2.2.1)), ((cell_far (p := ⟨gb124, _, none⟩) NB118_124.out _).trans (hHeld.2.2.2.2.2.1)), ((cell_far (p := ⟨gb124, _, none⟩) NB118_124.out _).trans (hHeld.2.2.2.2.2.2.1)), ((cell_far (p := ⟨gb124, _, none⟩) NB118_124.out _).trans (hHeld.2.2.2.2.2.2.2.1)), ((cell_far (p := ⟨gb124, _, none⟩) NB118_124.out _).trans (hHeld.2.2.2.2.2.2.2.2.1)), ((cell_far (p := ⟨gb124, _, none⟩) NB118_124.out _).trans (hHeld.2.2.2.2.2.2.2.2.2.1)), ((cell_far (p := ⟨gb124, _, none⟩) NB118_124.out _).trans (hHeld.2.2.2.2.2.2.2.2.2.2.1)), ((cell_far (p := ⟨gb124, _, none⟩) NB118_124.out _).trans (hHeld.2.2.2.2.2.2.2.2.2.2.2.1)), ((cell_far (p := ⟨gb124, _, none⟩) NB118_124.out _).trans (hHeld.2.2.2.2.2.2.2.2.2.2.2.2.1)), ((cell_far (p := ⟨gb124, _, none⟩) NB118_124.out _).trans (hHeld.2.2.2.2.2.2.2.2.2.2.2.2.2.1)), ((cell_far (p := ⟨gb124, _, none⟩) NB118_124.out _).trans (hHeld.2.2.2.2.2.2.2.2.2.2.2.2.2.2.1)), ((cell_far (p := ⟨gb124, _, none⟩) (by first | exact Kd.own_blk (Kd.R_ne HO_6.out BK124.out (by decide)) | (rw [add_block]; exact Kd.own_blk (Kd.R_ne HO_6.out BK124.out (by decide))) | (show (Addr.add _ _).block ≠ _; rw [add_block]; exact Kd.own_blk (Kd.R_ne HO_6.out BK124.out (by decide))) | (dsimp only; exact Kd.own_blk (Kd.R_ne HO_6.out BK124.out (by decide)))) _).trans (hHeld.2.2.2.2.2.2.2.2.2.2.2.2.2.2.2))⟩ (fun hHeld => ?_)
              clear hK K
              refine done_ (done_of HT_.out (by kernel_rfl)) ?_
              try go_wp2
              have n0_ : Aside0 (Kd.R Kd.string 9 (w29.setCell ⟨gb124, 0, none⟩ (.string t126)) w.heap.size (fun _ => True) (.slice (some ad125) t119.length co28) t119) := ⟨by (with_reducible repeat (first | apply Kd.R_alloc | apply Kd.R_drewN | apply Kd.R_drew)); exact Kd.R_mono (Kd.R_far (p := ⟨gb124, 0, none⟩) (Kd.R_types HO_6.out BK124.out (by decide)) (fun _ hk => hk.2) (.string t126)) (fun _ hk => trivial)⟩
              have n1_ : Aside0 ((w29.setCell ⟨gb124, 0, none⟩ (.string t126)).heap[gb101]? = some (.cells #[.string (⟨#[]⟩ : ByteArray), .string (⟨#[]⟩ : ByteArray)] 47 (0, 0))) := ⟨by (with_reducible repeat (first | refine blk_drewN ?_ _ | refine blk_drew ?_ | refine blk_alloc ?_ _)); refine blk_far ?_ NB101_124.out _; (with_reducible repeat (first | refine blk_drewN ?_ _ | refine blk_drew ?_ | refine blk_alloc ?_ _)); exact BK101.out⟩
              have n2_ : Aside0 ((w29.setCell ⟨gb124, 0, none⟩ (.string t126)).heap[gb118]? = some (.cells #[.int .u8 t102, .int .u8 t103, .int .u8 t104, .int .u8 t105, .int .u8 t106, .string t107, .string t108, .string t109, .string t110, .string t111, .string t112, .string t113, .string t114, .string t115, .string t116] 25 (0, 0))) := ⟨by (with_reducible repeat (first | refine blk_drewN ?_ _ | refine blk_drew ?_ | refine blk_alloc ?_ _)); refine blk_far ?_ NB118_124.out _; (with_reducible repeat (first | refine blk_drewN ?_ _ | refine blk_drew ?_ | refine blk_alloc ?_ _)); exact BK118.out⟩
              have n3_ : Aside0 ((w29.setCell ⟨gb124, 0, none⟩ (.string t126)).heap[gb124]? = some (.cells #[.string t126, .string (⟨#[]⟩ : ByteArray)] 47 (0, 0))) := ⟨by (with_reducible repeat (first | refine blk_drewN ?_ _ | refine blk_drew ?_ | refine blk_alloc ?_ _)); refine blk_put (cs := #[.string (⟨#[]⟩ : ByteArray), .string (⟨#[]⟩ : ByteArray)]) ?_ 0 _ rfl; (with_reducible repeat (first | refine blk_drewN ?_ _ | refine blk_drew ?_ | refine blk_alloc ?_ _)); exact BK124.out⟩
              have n4_ : Aside0 (Below w.heap.size w (w29.setCell ⟨gb124, 0, none⟩ (.string t126))) := ⟨by repeat (first | (with_reducible first | exact HB.out | apply below_alloc | apply pw_below_drewN | apply below_drew1 | refine below_set ?_ GE101.out | refine below_set ?_ GE118.out | refine below_set ?_ GE124.out) | exact HB.out)⟩
              (try clear HO_6)
              (try clear BK101)
              (try clear BK118)
              (try clear BK124)
              (try clear HB)
              generalize (w29.setCell ⟨gb124, 0, none⟩ (.string t126)) = w31 at n0_ n1_ n2_ n3_ n4_ ⊢
              have HO_6 := n0_
              have BK101 := n1_
              have BK118 := n2_
              have BK124 := n3_
              have HB := n4_
              clear n0_ n1_ n2_ n3_ n4_
              have n0_ := Aside0.mk (Kd.R_drew HO_6.out)
              have n1_ := Aside0.mk (blk_drew BK101.out)
              have n2_ := Aside0.mk (blk_drew BK118.out)
              have n3_ := Aside0.mk (blk_drew BK124.out)
              have n4_ := Aside0.mk (below_drew1 HB.out)
              clear HO_6
              clear BK101
              clear BK118
              clear BK124
              clear HB
              have HO_6 := n0_
              have BK101 := n1_
              have BK118 := n2_
              have BK124 := n3_
              have HB := n4_
              clear n0_ n1_ n2_ n3_ n4_
              have p128 : 0 ≤ (1 : Int) := (by omega)
              have q128 : 1 < (t119.length : Int) := of_decide_eq_true (by first | (with_reducible assumption) | assumption)
              obtain ⟨ad128, e128, hx128_0⟩ := Kd.at_string (Kd.R_reads' HO_6.out).2.2 1 p128 q128
              obtain rfl : ad125 = ad128 := (by injection e128)
              (try simp only [show (1 : Int).toNat = 1 from rfl, Nat.reduceMul, Nat.reduceEqDiff, Go.Addr.add, ↓reduceIte] at hx128_0)
              have qi128 : (1 < t119.length) = True := eq_true (by omega)
              (try rw [show ((1 : Int)).toNat = 1 from rfl] at hx128_0)
              replace p128 := eq_true p128
              replace q128 := eq_true q128
              refine start_ (n := 11) (S := fun w' => w'.cell? ⟨gb118, 0, none⟩ = some (.int .u8 t102) ∧ w'.cell? ⟨gb118, 1, none⟩ = some (.int .u8 t103) ∧ w'.cell? ⟨gb118, 2, none⟩ = some (.int .u8 t104) ∧ w'.cell? ⟨gb118, 3, none⟩ = some (.int .u8 t105) ∧ w'.cell? ⟨gb118, 4, none⟩ = some (.int .u8 t106) ∧ w'.cell? ⟨gb118, 5, none⟩ = some (.string t107) ∧ w'.cell? ⟨gb118, 6, none⟩ = some (.string t108) ∧ w'.cell? ⟨gb118, 7, none⟩ = some (.string t109) ∧ w'.cell? ⟨gb118, 8, none⟩ = some (.string t110) ∧ w'.cell? ⟨gb118, 9, none⟩ = some (.string t111) ∧ w'.cell? ⟨gb118, 10, none⟩ = some (.string t112) ∧ w'.cell? ⟨gb118, 11, none⟩ = some (.string t113) ∧ w'.cell? ⟨gb118, 12, none⟩ = some (.string t114) ∧ w'.cell? ⟨gb118, 13, none⟩ = some (.string t115) ∧ w'.cell? ⟨gb118, 14, none⟩ = some (.string t116) ∧ w'.cell? ⟨ad125.block, ad125.off + 1, none⟩ = some (.string (rdOf ByteArray.empty t119 1))) (ds := []) #[false, false, false, false, false, false, false, false, false, false, false] (by kernel_rfl) rfl rfl ⟨(blk_cell BK118.out 0).trans rfl, (blk_cell BK118.out 1).trans rfl, (blk_cell BK118.out 2).trans rfl, (blk_cell BK118.out 3).trans rfl, (blk_cell BK118.out 4).trans rfl, (blk_cell BK118.out 5).trans rfl, (blk_cell BK118.out 6).trans rfl, (blk_cell BK118.out 7).trans rfl, (blk_cell BK118.out 8).trans rfl, (blk_cell BK118.out 9).trans rfl, (blk_cell BK118.out 10).trans rfl, (blk_cell BK118.out 11).trans rfl, (blk_cell BK118.out 12).trans rfl, (blk_cell BK118.out 13).trans rfl, (blk_cell BK118.out 14).trans rfl, hx128_0⟩ (fun hHeld => ?_); refine with_tabW ack_Read.tab9 ack_Read.bits9 (fun HT_ HW_ => ?_)
              generalize w31.drew = w32 at HO_6 BK101 BK118 BK124 HB hx128_0 hHeld ⊢
              refine pure_ (i := 0) (N := some 41) (v := ?_) (a' := ?_) #[true, false, false, false, false, false, false, false, false, false, false] rfl rfl (any_of HT_.out (by kernel_rfl)) (fun _ _ _ h => h) (Or.inl ⟨by rfl, ?_⟩) ?_ ?_
              rotate_left
              · intro w'
                go_simp
                with_reducible rfl
              rotate_left
              · simp only [Act.put, List.setIfInBounds_toArray, List.set_cons_zero, List.set_cons_succ, i64_w, i32_w]
                rfl
              refine pure_ (i := 1) (N := some 42) (v := ?_) (a' := ?_) #[true, true, false, false, false, false, false, false, false, false, false] rfl rfl (any_of HT_.out (by kernel_rfl)) (fun _ _ _ h => h) (Or.inl ⟨by rfl, ?_⟩) ?_ ?_
              rotate_left
              · intro w'
                go_simp
                with_reducible rfl
              rotate_left
              · simp only [Act.put, List.setIfInBounds_toArray, List.set_cons_zero, List.set_cons_succ, i64_w, i32_w]
                rfl
              refine pure_ (i := 3) (N := some 44) (v := ?_) (a' := ?_) #[true, true, false, true, false, false, false, false, false, false, false] rfl rfl (any_of HT_.out (by kernel_rfl)) (fun _ _ _ h => h) (Or.inl ⟨by rfl, ?_⟩) ?_ ?_
              rotate_left
              · intro w'
                go_simp
                with_reducible rfl
              rotate_left
              · simp only [Act.put, List.setIfInBounds_toArray, List.set_cons_zero, List.set_cons_succ, i64_w, i32_w]
                rfl
              refine take_ (i := 2) (N := some 43) (v := ?_) (a' := ?_) #[true, true, true, true, false, false, false, false, false, false, false] rfl rfl (take_ofW HT_.out HW_.out (by kernel_rfl)) (fun _ _ _ h => h) (Or.inl ⟨by rfl, ?_⟩) hHeld ?_ ?_
              rotate_left
              · rintro w' ⟨s0, s1, s2, s3, s4, s5, s6, s7, s8, s9, s10, s11, s12, s13, s14, s15⟩
                go_simp
                with_reducible rfl
              rotate_left
              · simp only [Act.put, List.setIfInBounds_toArray, List.set_cons_zero, List.set_cons_succ, i64_w, i32_w]
                rfl
              refine take_ (i := 4) (N := some 45) (v := ?_) (a' := ?_) #[true, true, true, true, true, false, false, false, false, false, false] rfl rfl (take_ofW HT_.out HW_.out (by kernel_rfl)) (fun _ _ _ h => h) (Or.inl ⟨by rfl, ?_⟩) hHeld ?_ ?_
              rotate_left
              · rintro w' ⟨s0, s1, s2, s3, s4, s5, s6, s7, s8, s9, s10, s11, s12, s13, s14, s15⟩
                go_simp
                with_reducible rfl
              rotate_left
              · simp only [Act.put, List.setIfInBounds_toArray, List.set_cons_zero, List.set_cons_succ, i64_w, i32_w]
                rfl
              refine one_ (i := 5) (N := some 46) #[true, true, true, true, true, true, false, false, false, false, false] rfl rfl (one_of HT_.out (by kernel_rfl)) (by decide) (fun K hK => ?_)
              refine goes_ Tryd.func37 (by kernel_rfl) rfl #[.string (rdOf ByteArray.empty t119 1), .int .i64 2, .agg #[.int .u8 t102, .int .u8 t103, .int .u8 t104, .int .u8 t105, .int .u8 t106]] (by rfl) rfl rfl (by (try simp only [List.map_toArray, List.map_cons, List.map_nil]); first | done | rfl | (simp only [List.length_drop, List.length_take]; rfl)) ?_
              with_reducible refine (QField.segment_Field.calls (rdOf ByteArray.empty t119 1) 2 t102 t103 t104 t105 t106 t129 t130 _ ?side1 A23.out).mono ?_
              (case side1 => exact GlobA.below HG.out (by repeat (first | (with_reducible first | exact HB.out | apply below_alloc | apply pw_below_drewN | apply below_drew1 | refine below_set ?_ GE101.out | refine below_set ?_ GE118.out | refine below_set ?_ GE124.out) | exact HB.out)))
              rintro e w33 ⟨rfl, hb⟩
              have HS15_ := (hb.cell (World.block_lt_of_cell? _ _ (hHeld.2.2.2.2.2.2.2.2.2.2.2.2.2.2.2))).trans (hHeld.2.2.2.2.2.2.2.2.2.2.2.2.2.2.2)
              refine ⟨_, rfl, ?_⟩
              have n0_ := Aside0.mk (Kd.R_below (by (with_reducible repeat (first | apply Kd.R_alloc | apply Kd.R_drewN | apply Kd.R_drew)); exact HO_6.out) hb)
              have n1_ := Aside0.mk (blk_below (g := gb101) (o := .cells #[.string (⟨#[]⟩ : ByteArray), .string (⟨#[]⟩ : ByteArray)] 47 (0, 0)) (by (with_reducible repeat (first | refine blk_drewN ?_ _ | refine blk_drew ?_ | refine blk_alloc ?_ _)); exact BK101.out) hb)
              have n2_ := Aside0.mk (blk_below (g := gb118) (o := .cells #[.int .u8 t102, .int .u8 t103, .int .u8 t104, .int .u8 t105, .int .u8 t106, .string t107, .string t108, .string t109, .string t110, .string t111, .string t112, .string t113, .string t114, .string t115, .string t116] 25 (0, 0)) (by (with_reducible repeat (first | refine blk_drewN ?_ _ | refine blk_drew ?_ | refine blk_alloc ?_ _)); exact BK118.out) hb)
              have n3_ := Aside0.mk (blk_below (g := gb124) (o := .cells #[.string t126, .string (⟨#[]⟩ : ByteArray)] 47 (0, 0)) (by (with_reducible repeat (first | refine blk_drewN ?_ _ | refine blk_drew ?_ | refine blk_alloc ?_ _)); exact BK124.out) hb)
              have n4_ := Aside0.mk (below_step (by repeat (first | (with_reducible first | exact HB.out | apply below_alloc | apply pw_below_drewN | apply below_drew1 | refine below_set ?_ GE101.out | refine below_set ?_ GE118.out | refine below_set ?_ GE124.out) | exact HB.out)) hb)
              clear HO_6
              clear BK101
              clear BK118
              clear BK124
              clear HB
              have HO_6 := n0_
              have BK101 := n1_
              have BK118 := n2_
              have BK124 := n3_
              have HB := n4_
              clear n0_ n1_ n2_ n3_ n4_
              (try clear hb)
              (try clear hb2)
              (try clear hk)
              (try clear hi)
              refine hK.out _ _ ⟨(blk_cell BK118.out 0).trans rfl, (blk_cell BK118.out 1).trans rfl, (blk_cell BK118.out 2).trans rfl, (blk_cell BK118.out 3).trans rfl, (blk_cell BK118.out 4).trans rfl, (blk_cell BK118.out 5).trans rfl, (blk_cell BK118.out 6).trans rfl, (blk_cell BK118.out 7).trans rfl, (blk_cell BK118.out 8).trans rfl, (blk_cell BK118.out 9).trans rfl, (blk_cell BK118.out 10).trans rfl, (blk_cell BK118.out 11).trans rfl, (blk_cell BK118.out 12).trans rfl, (blk_cell BK118.out 13).trans rfl, (blk_cell BK118.out 14).trans rfl, HS15_⟩ (fun hHeld => ?_)
              clear hK K
              refine norm_ (a' := ?_) ?_ ?_
              rotate_left
              · show Act.put _ (some 46) _ = _
                simp only [Act.put, List.setIfInBounds_toArray, List.set_cons_zero, List.set_cons_succ, i64_w, i32_w]
                rfl
              refine pure_ (i := 6) (N := some 40) (v := ?_) (a' := ?_) #[true, true, true, true, true, true, true, false, false, false, false] rfl rfl (any_of HT_.out (by kernel_rfl)) (fun _ _ _ h => h) (Or.inl ⟨by rfl, ?_⟩) ?_ ?_
              rotate_left
              · intro w'
                go_simp
                with_reducible rfl
              rotate_left
              · simp only [Act.put, List.setIfInBounds_toArray, List.set_cons_zero, List.set_cons_succ, i64_w, i32_w]
                rfl
              refine pure_ (i := 7) (N := some 47) (v := ?_) (a' := ?_) #[true, true, true, true, true, true, true, true, false, false, false] rfl rfl (any_of HT_.out (by kernel_rfl)) (fun _ _ _ h => h) (Or.inl ⟨by rfl, ?_⟩) ?_ ?_
              rotate_left
              · intro w'
                go_simp
                with_reducible rfl
              rotate_left
              · simp only [Act.put, List.setIfInBounds_toArray, List.set_cons_zero, List.set_cons_succ, i64_w, i32_w]
                rfl
              refine pure_ (i := 8) (N := some 48) (v := ?_) (a' := ?_) #[true, true, true, true, true, true, true, true, true, false, false] rfl rfl (any_of HT_.out (by kernel_rfl)) (fun _ _ _ h => h) (Or.inl ⟨by rfl, ?_⟩) ?_ ?_
              rotate_left
              · intro w'
                go_simp
                with_reducible rfl
              rotate_left
              · simp only [Act.put, List.setIfInBounds_toArray, List.set_cons_zero, List.set_cons_succ, i64_w, i32_w]
                rfl
              refine pure_ (i := 9) (N := some 49) (v := ?_) (a' := ?_) #[true, true, true, true, true, true, true, true, true, true, false] rfl rfl (any_of HT_.out (by kernel_rfl)) (fun _ _ _ h => h) (Or.inl ⟨by rfl, ?_⟩) ?_ ?_
              rotate_left
              · intro w'
                go_simp
                with_reducible rfl
              rotate_left
              · simp only [Act.put, List.setIfInBounds_toArray, List.set_cons_zero, List.set_cons_succ, i64_w, i32_w]
                rfl
              refine one_ (i := 10) (N := none) #[true, true, true, true, true, true, true, true, true, true, true] rfl rfl (one_of HT_.out (by kernel_rfl)) (by decide) (fun K hK => ?_)
              have hs34 : w33.cell? ⟨gb124, 1, none⟩ = some (.string (⟨#[]⟩ : ByteArray)) := (blk_cell BK124.out 1).trans rfl
              have hfs34 := blk_frozen BK124.out 1
              have hns34_0 := NB101_124.out
              have hns34_1 := NB118_124.out
              have hms34_0 := NB124_101.out
              have hms34_1 := NB124_118.out
              refine skip_ (w1 := ?_) (by rfl) rfl ?_ ?_
              rotate_left
              · go_simp
                rfl
              refine hK.out _ _ ⟨((cell_far (p := ⟨gb124, _, none⟩) NB118_124.out _).trans (hHeld.1)), ((cell_far (p := ⟨gb124, _, none⟩) NB118_124.out _).trans (hHeld.2.1)), ((cell_far (p := ⟨gb124, _, none⟩) NB118_124.out _).trans (hHeld.2.2.1)), ((cell_far (p := ⟨gb124, _, none⟩) NB118_124.out _).trans (hHeld.2.2.2.1)), ((cell_far (p := ⟨gb124, _, none⟩) NB118_124.out _).trans (hHeld.2.2.2.2.1)), ((cell_far (p := ⟨gb124, _, none⟩) NB118_124.out _).trans (hHeld.2.2.2.2.2.1)), ((cell_far (p := ⟨gb124, _, none⟩) NB118_124.out _).trans (hHeld.2.2.2.2.2.2.1)), ((cell_far (p := ⟨gb124, _, none⟩) NB118_124.out _).trans (hHeld.2.2.2.2.2.2.2.1)), ((cell_far (p := ⟨gb124, _, none⟩) NB118_124.out _).trans (hHeld.2.2.2.2.2.2.2.2.1)), ((cell_far (p := ⟨gb124, _, none⟩) NB118_124.out _).trans (hHeld.2.2.2.2.2.2.2.2.2.1)), ((cell_far (p := ⟨gb124, _, none⟩) NB118_124.out _).trans (hHeld.2.2.2.2.2.2.2.2.2.2.1)), ((cell_far (p := ⟨gb124, _, none⟩) NB118_124.out _).trans (hHeld.2.2.2.2.2.2.2.2.2.2.2.1)), ((cell_far (p := ⟨gb124, _, none⟩) NB118_124.out _).trans (hHeld.2.2.2.2.2.2.2.2.2.2.2.2.1)), ((cell_far (p := ⟨gb124, _, none⟩) NB118_124.out _).trans (hHeld.2.2.2.2.2.2.2.2.2.2.2.2.2.1)), ((cell_far (p := ⟨gb124, _, none⟩) NB118_124.out _).trans (hHeld.2.2.2.2.2.2.2.2.2.2.2.2.2.2.1)), ((cell_far (p := ⟨gb124, _, none⟩) (by first | exact Kd.own_blk (Kd.R_ne HO_6.out BK124.out (by decide)) | (rw [add_block]; exact Kd.own_blk (Kd.R_ne HO_6.out BK124.out (by decide))) | (show (Addr.add _ _).block ≠ _; rw [add_block]; exact Kd.own_blk (Kd.R_ne HO_6.out BK124.out (by decide))) | (dsimp only; exact Kd.own_blk (Kd.R_ne HO_6.out BK124.out (by decide)))) _).trans (hHeld.2.2.2.2.2.2.2.2.2.2.2.2.2.2.2))⟩ (fun hHeld => ?_)
              clear hK K
              refine done_ (done_of HT_.out (by kernel_rfl)) ?_
              have hnb35 := NB124_101.out
              have hnc35 := NB101_124.out
              have hnb36 := NB124_118.out
              have hnc36 := NB118_124.out
              have hcz37_0 : w33.cell? ⟨gb124, 0, none⟩ = some (.string t126) := (blk_cell BK124.out 0).trans rfl
              have hcz37_1 : w33.cell? ⟨gb124, 1, none⟩ = some (.string (⟨#[]⟩ : ByteArray)) := (blk_cell BK124.out 1).trans rfl
              have hfz37_0 := blk_frozen BK124.out 0
              have hfz37_1 := blk_frozen BK124.out 1
              try go_wp2_with (first | ((with_reducible refine gate_callee (f := 38) rfl ?_); refine goesL_ (some 52) rfl rfl Tryd.func38 (by kernel_rfl) rfl #[.string t126] rfl (by (try simp only [List.map_toArray, List.map_cons, List.map_nil]); first | done | rfl | (simp only [List.length_drop, List.length_take]; rfl)) ?_; (with_reducible refine (ack_Known.calls t126 true _ ?side1 A24.out).mono ?_); (case side1 => exact GlobA.below HG.out (by repeat (first | (with_reducible first | exact HB.out | apply below_alloc | apply pw_below_drewN | apply below_drew1 | refine below_set ?_ GE101.out | refine below_set ?_ GE118.out | refine below_set ?_ GE124.out) | exact HB.out))); rintro e w38 ⟨rfl, hb⟩; refine ⟨_, rfl, ?_⟩; have n0_ := Aside0.mk (Kd.R_below (by (with_reducible repeat (first | apply Kd.R_alloc | apply Kd.R_drewN | apply Kd.R_drew)); exact (Kd.R_mono (Kd.R_far (p := ⟨gb124, 1, none⟩) (Kd.R_types HO_6.out BK124.out (by decide)) (fun _ hk => hk.2) (.string t129)) (fun _ h_ => h_.1))) hb); have n1_ := Aside0.mk (blk_below (g := gb101) (o := .cells #[.string (⟨#[]⟩ : ByteArray), .string (⟨#[]⟩ : ByteArray)] 47 (0, 0)) (by (with_reducible repeat (first | refine blk_drewN ?_ _ | refine blk_drew ?_ | refine blk_alloc ?_ _)); refine blk_far ?_ NB101_124.out _; (with_reducible repeat (first | refine blk_drewN ?_ _ | refine blk_drew ?_ | refine blk_alloc ?_ _)); exact BK101.out) hb); have n2_ := Aside0.mk (blk_below (g := gb118) (o := .cells #[.int .u8 t102, .int .u8 t103, .int .u8 t104, .int .u8 t105, .int .u8 t106, .string t107, .string t108, .string t109, .string t110, .string t111, .string t112, .string t113, .string t114, .string t115, .string t116] 25 (0, 0)) (by (with_reducible repeat (first | refine blk_drewN ?_ _ | refine blk_drew ?_ | refine blk_alloc ?_ _)); refine blk_far ?_ NB118_124.out _; (with_reducible repeat (first | refine blk_drewN ?_ _ | refine blk_drew ?_ | refine blk_alloc ?_ _)); exact BK118.out) hb); have n3_ := Aside0.mk (blk_below (g := gb124) (o := .cells #[.string t126, .string t129] 47 (0, 0)) (by (with_reducible repeat (first | refine blk_drewN ?_ _ | refine blk_drew ?_ | refine blk_alloc ?_ _)); refine blk_put (cs := #[.string t126, .string (⟨#[]⟩ : ByteArray)]) ?_ 1 _ rfl; (with_reducible repeat (first | refine blk_drewN ?_ _ | refine blk_drew ?_ | refine blk_alloc ?_ _)); exact BK124.out) hb); have n4_ := Aside0.mk (below_step (by repeat (first | (with_reducible first | exact HB.out | apply below_alloc | apply pw_below_drewN | apply below_drew1 | refine below_set ?_ GE101.out | refine below_set ?_ GE118.out | refine below_set ?_ GE124.out) | exact HB.out)) hb); clear HO_6; clear BK101; clear BK118; clear BK124; clear HB; have HO_6 := n0_; have BK101 := n1_; have BK118 := n2_; have BK124 := n3_; have HB := n4_; clear n0_ n1_ n2_ n3_ n4_; (try clear hb); (try clear hb2); (try clear hk); (try clear hi); have hcz39_0 : w38.cell? ⟨gb124, 0, none⟩ = some (.string t126) := (blk_cell BK124.out 0).trans rfl; have hcz39_1 : w38.cell? ⟨gb124, 1, none⟩ = some (.string t129) := (blk_cell BK124.out 1).trans rfl; have hfz39_0 := blk_frozen BK124.out 0; have hfz39_1 := blk_frozen BK124.out 1; have hnb40 := NB101_118.out; have hnc40 := NB118_101.out; have hcz41_0 : w38.cell? ⟨gb101, 0, none⟩ = some (.string (⟨#[]⟩ : ByteArray)) := (blk_cell BK101.out 0).trans rfl; have hcz41_1 : w38.cell? ⟨gb101, 1, none⟩ = some (.string (⟨#[]⟩ : ByteArray)) := (blk_cell BK101.out 1).trans rfl; have hfz41_0 := blk_frozen BK101.out 0; have hfz41_1 := blk_frozen BK101.out 1))
              refine bodyPost_ret (results_ct rfl _ _ gb101 47 #[.string t126, .string t129] (0, 0) _ rfl (by (with_reducible repeat (first | refine blk_drewN ?_ _ | refine blk_drew ?_ | refine blk_alloc ?_ _)); refine blk_put (cs := #[.string t126, .string (⟨#[]⟩ : ByteArray)]) ?_ 1 _ rfl; (with_reducible repeat (first | refine blk_drewN ?_ _ | refine blk_drew ?_ | refine blk_alloc ?_ _)); refine blk_put (cs := #[.string (⟨#[]⟩ : ByteArray), .string (⟨#[]⟩ : ByteArray)]) ?_ 0 _ rfl; (with_reducible repeat (first | refine blk_drewN ?_ _ | refine blk_drew ?_ | refine blk_alloc ?_ _)); exact BK101.out) Tryd.underlying47 rfl (by kernel_rfl)) rfl ?_
              exact ⟨by first | rfl | (simp [errW_none, errW_some] <;> rfl) | (simp [*, errW_none, errW_some] <;> rfl), by repeat (first | (with_reducible first | exact HB.out | apply below_alloc | apply pw_below_drewN | apply below_drew1 | refine below_set ?_ GE101.out | refine below_set ?_ GE118.out | refine below_set ?_ GE124.out) | exact HB.out)⟩
            · replace c25 := Bool.eq_false_iff.mpr c25
              subst c25
              have H1 : (some ((⟨#[]⟩ : ByteArray), (⟨#[]⟩ : ByteArray), 17)) = some (r1, r2, r3) := by rw [if_neg (show ¬ (false = true) by decide)] at H; exact H
              clear H
              have H := H1
              clear H1
              simp only [Option.some.injEq, Prod.mk.injEq] at H
              obtain ⟨rfl, rfl, rfl⟩ := H
              try go_wp2_with (first | ((with_reducible refine gate_dst (N := 7) rfl ?_); refine box_event ?hg (N := 7) ?hd (cs := #[.string (⟨#[]⟩ : ByteArray), .string (⟨#[]⟩ : ByteArray)]) (t := 47) ?hr ?_; (case hd => rfl); (case hg => rfl); (case hr => first | (go_simp; done) | (go_simp; rfl)); intro gb124 hg w42 hbox hb; have n0_ := Aside0.mk (Kd.R_below (by (with_reducible repeat (first | apply Kd.R_alloc | apply Kd.R_drewN | apply Kd.R_drew)); exact HO_6.out) hb); have n1_ := Aside0.mk (blk_below (g := gb101) (o := .cells #[.string (⟨#[]⟩ : ByteArray), .string (⟨#[]⟩ : ByteArray)] 47 (0, 0)) (by (with_reducible repeat (first | refine blk_drewN ?_ _ | refine blk_drew ?_ | refine blk_alloc ?_ _)); exact BK101.out) hb); have n2_ := Aside0.mk (blk_below (g := gb118) (o := .cells #[.int .u8 t102, .int .u8 t103, .int .u8 t104, .int .u8 t105, .int .u8 t106, .string t107, .string t108, .string t109, .string t110, .string t111, .string t112, .string t113, .string t114, .string t115, .string t116] 25 (0, 0)) (by (with_reducible repeat (first | refine blk_drewN ?_ _ | refine blk_drew ?_ | refine blk_alloc ?_ _)); exact BK118.out) hb); have n3_ := Aside0.mk (below_step (by repeat (first | (with_reducible first | exact HB.out | apply below_alloc | apply pw_below_drewN | apply below_drew1 | refine below_set ?_ GE101.out | refine below_set ?_ GE118.out) | exact HB.out)) hb); have n4_ := Aside0.mk (hbox); have n5_ := Aside0.mk ((by rw [hg]; exact (below_size (by repeat (first | (with_reducible first | exact HB.out | apply below_alloc | apply pw_below_drewN | apply below_drew1 | refine below_set ?_ GE101.out | refine below_set ?_ GE118.out) | exact HB.out))) : w.heap.size ≤ gb124)); have n6_ := Aside0.mk ((by rw [hg]; exact (below_size (by repeat (first | (with_reducible first | exact HB.out | apply below_alloc | apply pw_below_drewN | apply below_drew1 | refine below_set ?_ GE101.out | refine below_set ?_ GE118.out) | exact HB.out))) : w.heap.size ≤ gb124)); have n7_ := Aside0.mk ((by rw [hg]; exact Nat.ne_of_lt (blk_lt (g := gb101) (o := .cells #[.string (⟨#[]⟩ : ByteArray), .string (⟨#[]⟩ : ByteArray)] 47 (0, 0)) (by (with_reducible repeat (first | refine blk_drewN ?_ _ | refine blk_drew ?_ | refine blk_alloc ?_ _)); exact BK101.out)) : gb101 ≠ gb124)); have n8_ := Aside0.mk ((by rw [hg]; exact Nat.ne_of_gt (blk_lt (g := gb101) (o := .cells #[.string (⟨#[]⟩ : ByteArray), .string (⟨#[]⟩ : ByteArray)] 47 (0, 0)) (by (with_reducible repeat (first | refine blk_drewN ?_ _ | refine blk_drew ?_ | refine blk_alloc ?_ _)); exact BK101.out)) : gb124 ≠ gb101)); have n9_ := Aside0.mk ((by rw [hg]; exact Nat.ne_of_lt (blk_lt (g := gb118) (o := .cells #[.int .u8 t102, .int .u8 t103, .int .u8 t104, .int .u8 t105, .int .u8 t106, .string t107, .string t108, .string t109, .string t110, .string t111, .string t112, .string t113, .string t114, .string t115, .string t116] 25 (0, 0)) (by (with_reducible repeat (first | refine blk_drewN ?_ _ | refine blk_drew ?_ | refine blk_alloc ?_ _)); exact BK118.out)) : gb118 ≠ gb124)); have n10_ := Aside0.mk ((by rw [hg]; exact Nat.ne_of_gt (blk_lt (g := gb118) (o := .cells #[.int .u8 t102, .int .u8 t103, .int .u8 t104, .int .u8 t105, .int .u8 t106, .string t107, .string t108, .string t109, .string t110, .string t111, .string t112, .string t113, .string t114, .string t115, .string t116] 25 (0, 0)) (by (with_reducible repeat (first | refine blk_drewN ?_ _ | refine blk_drew ?_ | refine blk_alloc ?_ _)); exact BK118.out)) : gb124 ≠ gb118)); clear HO_6; clear BK101; clear BK118; clear HB; have HO_6 := n0_; have BK101 := n1_; have BK118 := n2_; have HB := n3_; have BK124 := n4_; have GW124 := n5_; have GE124 := n6_; have NB101_124 := n7_; have NB124_101 := n8_; have NB118_124 := n9_; have NB124_118 := n10_; clear n0_ n1_ n2_ n3_ n4_ n5_ n6_ n7_ n8_ n9_ n10_; clear hb hbox hg))
              have n0_ := Aside0.mk (Kd.R_drew HO_6.out)
              have n1_ := Aside0.mk (blk_drew BK101.out)
              have n2_ := Aside0.mk (blk_drew BK118.out)
              have n3_ := Aside0.mk (blk_drew BK124.out)
              have n4_ := Aside0.mk (below_drew1 HB.out)
              clear HO_6
              clear BK101
              clear BK118
              clear BK124
              clear HB
              have HO_6 := n0_
              have BK101 := n1_
              have BK118 := n2_
              have BK124 := n3_
              have HB := n4_
              clear n0_ n1_ n2_ n3_ n4_
              obtain ⟨Ao44, co44, eo44⟩ := Kd.R_slice HO_6.out
              (first | subst eo44 | (injection eo44 with f1_ f2_ f3_; have f4_ := f1_.symm; have f5_ := f3_.symm; clear f1_ f2_ f3_; subst f4_; subst f5_))
              have p125 : 0 ≤ (1 : Int) := (by omega)
              have q125 : 1 < (t119.length : Int) := of_decide_eq_true (by first | (with_reducible assumption) | assumption)
              obtain ⟨ad125, e125, hx125_0⟩ := Kd.at_string (Kd.R_reads' HO_6.out).2.2 1 p125 q125
              cases e125
              (try simp only [show (1 : Int).toNat = 1 from rfl, Nat.reduceMul, Nat.reduceEqDiff, Go.Addr.add, ↓reduceIte] at hx125_0)
              have qi125 : (1 < t119.length) = True := eq_true (by omega)
              (try rw [show ((1 : Int)).toNat = 1 from rfl] at hx125_0)
              replace p125 := eq_true p125
              replace q125 := eq_true q125
              refine start_ (n := 11) (S := fun w' => w'.cell? ⟨gb118, 0, none⟩ = some (.int .u8 t102) ∧ w'.cell? ⟨gb118, 1, none⟩ = some (.int .u8 t103) ∧ w'.cell? ⟨gb118, 2, none⟩ = some (.int .u8 t104) ∧ w'.cell? ⟨gb118, 3, none⟩ = some (.int .u8 t105) ∧ w'.cell? ⟨gb118, 4, none⟩ = some (.int .u8 t106) ∧ w'.cell? ⟨gb118, 5, none⟩ = some (.string t107) ∧ w'.cell? ⟨gb118, 6, none⟩ = some (.string t108) ∧ w'.cell? ⟨gb118, 7, none⟩ = some (.string t109) ∧ w'.cell? ⟨gb118, 8, none⟩ = some (.string t110) ∧ w'.cell? ⟨gb118, 9, none⟩ = some (.string t111) ∧ w'.cell? ⟨gb118, 10, none⟩ = some (.string t112) ∧ w'.cell? ⟨gb118, 11, none⟩ = some (.string t113) ∧ w'.cell? ⟨gb118, 12, none⟩ = some (.string t114) ∧ w'.cell? ⟨gb118, 13, none⟩ = some (.string t115) ∧ w'.cell? ⟨gb118, 14, none⟩ = some (.string t116) ∧ w'.cell? ⟨ad125.block, ad125.off + 1, none⟩ = some (.string (rdOf ByteArray.empty t119 1))) (ds := []) #[false, false, false, false, false, false, false, false, false, false, false] (by kernel_rfl) rfl rfl ⟨(blk_cell BK118.out 0).trans rfl, (blk_cell BK118.out 1).trans rfl, (blk_cell BK118.out 2).trans rfl, (blk_cell BK118.out 3).trans rfl, (blk_cell BK118.out 4).trans rfl, (blk_cell BK118.out 5).trans rfl, (blk_cell BK118.out 6).trans rfl, (blk_cell BK118.out 7).trans rfl, (blk_cell BK118.out 8).trans rfl, (blk_cell BK118.out 9).trans rfl, (blk_cell BK118.out 10).trans rfl, (blk_cell BK118.out 11).trans rfl, (blk_cell BK118.out 12).trans rfl, (blk_cell BK118.out 13).trans rfl, (blk_cell BK118.out 14).trans rfl, hx125_0⟩ (fun hHeld => ?_); refine with_tabW ack_Read.tab8 ack_Read.bits8 (fun HT_ HW_ => ?_)
              generalize w42.drew = w43 at HO_6 BK101 BK118 BK124 HB hx125_0 hHeld ⊢
              refine pure_ (i := 0) (N := some 31) (v := ?_) (a' := ?_) #[true, false, false, false, false, false, false, false, false, false, false] rfl rfl (any_of HT_.out (by kernel_rfl)) (fun _ _ _ h => h) (Or.inl ⟨by rfl, ?_⟩) ?_ ?_
              rotate_left
              · intro w'
                go_simp
                with_reducible rfl
              rotate_left
              · simp only [Act.put, List.setIfInBounds_toArray, List.set_cons_zero, List.set_cons_succ, i64_w, i32_w]
                rfl
              refine pure_ (i := 1) (N := some 32) (v := ?_) (a' := ?_) #[true, true, false, false, false, false, false, false, false, false, false] rfl rfl (any_of HT_.out (by kernel_rfl)) (fun _ _ _ h => h) (Or.inl ⟨by rfl, ?_⟩) ?_ ?_
              rotate_left
              · intro w'
                go_simp
                with_reducible rfl
              rotate_left
              · simp only [Act.put, List.setIfInBounds_toArray, List.set_cons_zero, List.set_cons_succ, i64_w, i32_w]
                rfl
              refine pure_ (i := 3) (N := some 34) (v := ?_) (a' := ?_) #[true, true, false, true, false, false, false, false, false, false, false] rfl rfl (any_of HT_.out (by kernel_rfl)) (fun _ _ _ h => h) (Or.inl ⟨by rfl, ?_⟩) ?_ ?_
              rotate_left
              · intro w'
                go_simp
                with_reducible rfl
              rotate_left
              · simp only [Act.put, List.setIfInBounds_toArray, List.set_cons_zero, List.set_cons_succ, i64_w, i32_w]
                rfl
              refine take_ (i := 2) (N := some 33) (v := ?_) (a' := ?_) #[true, true, true, true, false, false, false, false, false, false, false] rfl rfl (take_ofW HT_.out HW_.out (by kernel_rfl)) (fun _ _ _ h => h) (Or.inl ⟨by rfl, ?_⟩) hHeld ?_ ?_
              rotate_left
              · rintro w' ⟨s0, s1, s2, s3, s4, s5, s6, s7, s8, s9, s10, s11, s12, s13, s14, s15⟩
                go_simp
                with_reducible rfl
              rotate_left
              · simp only [Act.put, List.setIfInBounds_toArray, List.set_cons_zero, List.set_cons_succ, i64_w, i32_w]
                rfl
              refine take_ (i := 4) (N := some 35) (v := ?_) (a' := ?_) #[true, true, true, true, true, false, false, false, false, false, false] rfl rfl (take_ofW HT_.out HW_.out (by kernel_rfl)) (fun _ _ _ h => h) (Or.inl ⟨by rfl, ?_⟩) hHeld ?_ ?_
              rotate_left
              · rintro w' ⟨s0, s1, s2, s3, s4, s5, s6, s7, s8, s9, s10, s11, s12, s13, s14, s15⟩
                go_simp
                with_reducible rfl
              rotate_left
              · simp only [Act.put, List.setIfInBounds_toArray, List.set_cons_zero, List.set_cons_succ, i64_w, i32_w]
                rfl
              refine one_ (i := 5) (N := some 36) #[true, true, true, true, true, true, false, false, false, false, false] rfl rfl (one_of HT_.out (by kernel_rfl)) (by decide) (fun K hK => ?_)
              refine goes_ Tryd.func37 (by kernel_rfl) rfl #[.string (rdOf ByteArray.empty t119 1), .int .i64 1, .agg #[.int .u8 t102, .int .u8 t103, .int .u8 t104, .int .u8 t105, .int .u8 t106]] (by rfl) rfl rfl (by (try simp only [List.map_toArray, List.map_cons, List.map_nil]); first | done | rfl | (simp only [List.length_drop, List.length_take]; rfl)) ?_
              with_reducible refine (QField.segment_Field.calls (rdOf ByteArray.empty t119 1) 1 t102 t103 t104 t105 t106 t126 t127 _ ?side1 A22.out).mono ?_
              (case side1 => exact GlobA.below HG.out (by repeat (first | (with_reducible first | exact HB.out | apply below_alloc | apply pw_below_drewN | apply below_drew1 | refine below_set ?_ GE101.out | refine below_set ?_ GE118.out | refine below_set ?_ GE124.out) | exact HB.out)))
              rintro e w45 ⟨rfl, hb⟩
              have HS15_ := (hb.cell (World.block_lt_of_cell? _ _ (hHeld.2.2.2.2.2.2.2.2.2.2.2.2.2.2.2))).trans (hHeld.2.2.2.2.2.2.2.2.2.2.2.2.2.2.2)
              refine ⟨_, rfl, ?_⟩
              have n0_ := Aside0.mk (Kd.R_below (by (with_reducible repeat (first | apply Kd.R_alloc | apply Kd.R_drewN | apply Kd.R_drew)); exact HO_6.out) hb)
              have n1_ := Aside0.mk (blk_below (g := gb101) (o := .cells #[.string (⟨#[]⟩ : ByteArray), .string (⟨#[]⟩ : ByteArray)] 47 (0, 0)) (by (with_reducible repeat (first | refine blk_drewN ?_ _ | refine blk_drew ?_ | refine blk_alloc ?_ _)); exact BK101.out) hb)
              have n2_ := Aside0.mk (blk_below (g := gb118) (o := .cells #[.int .u8 t102, .int .u8 t103, .int .u8 t104, .int .u8 t105, .int .u8 t106, .string t107, .string t108, .string t109, .string t110, .string t111, .string t112, .string t113, .string t114, .string t115, .string t116] 25 (0, 0)) (by (with_reducible repeat (first | refine blk_drewN ?_ _ | refine blk_drew ?_ | refine blk_alloc ?_ _)); exact BK118.out) hb)
              have n3_ := Aside0.mk (blk_below (g := gb124) (o := .cells #[.string (⟨#[]⟩ : ByteArray), .string (⟨#[]⟩ : ByteArray)] 47 (0, 0)) (by (with_reducible repeat (first | refine blk_drewN ?_ _ | refine blk_drew ?_ | refine blk_alloc ?_ _)); exact BK124.out) hb)
              have n4_ := Aside0.mk (below_step (by repeat (first | (with_reducible first | exact HB.out | apply below_alloc | apply pw_below_drewN | apply below_drew1 | refine below_set ?_ GE101.out | refine below_set ?_ GE118.out | refine below_set ?_ GE124.out) | exact HB.out)) hb)
              clear HO_6
              clear BK101
              clear BK118
              clear BK124
              clear HB
              have HO_6 := n0_
              have BK101 := n1_
              have BK118 := n2_
              have BK124 := n3_
              have HB := n4_
              clear n0_ n1_ n2_ n3_ n4_
              (try clear hb)
              (try clear hb2)
              (try clear hk)
              (try clear hi)
              refine hK.out _ _ ⟨(blk_cell BK118.out 0).trans rfl, (blk_cell BK118.out 1).trans rfl, (blk_cell BK118.out 2).trans rfl, (blk_cell BK118.out 3).trans rfl, (blk_cell BK118.out 4).trans rfl, (blk_cell BK118.out 5).trans rfl, (blk_cell BK118.out 6).trans rfl, (blk_cell BK118.out 7).trans rfl, (blk_cell BK118.out 8).trans rfl, (blk_cell BK118.out 9).trans rfl, (blk_cell BK118.out 10).trans rfl, (blk_cell BK118.out 11).trans rfl, (blk_cell BK118.out 12).trans rfl, (blk_cell BK118.out 13).trans rfl, (blk_cell BK118.out 14).trans rfl, HS15_⟩ (fun hHeld => ?_)
              clear hK K
              refine norm_ (a' := ?_) ?_ ?_
              rotate_left
              · show Act.put _ (some 36) _ = _
                simp only [Act.put, List.setIfInBounds_toArray, List.set_cons_zero, List.set_cons_succ, i64_w, i32_w]
                rfl
              refine pure_ (i := 6) (N := some 30) (v := ?_) (a' := ?_) #[true, true, true, true, true, true, true, false, false, false, false] rfl rfl (any_of HT_.out (by kernel_rfl)) (fun _ _ _ h => h) (Or.inl ⟨by rfl, ?_⟩) ?_ ?_
              rotate_left
              · intro w'
                go_simp
                with_reducible rfl
              rotate_left
              · simp only [Act.put, List.setIfInBounds_toArray, List.set_cons_zero, List.set_cons_succ, i64_w, i32_w]
                rfl
              refine pure_ (i := 7) (N := some 37) (v := ?_) (a' := ?_) #[true, true, true, true, true, true, true, true, false, false, false] rfl rfl (any_of HT_.out (by kernel_rfl)) (fun _ _ _ h => h) (Or.inl ⟨by rfl, ?_⟩) ?_ ?_
              rotate_left
              · intro w'
                go_simp
                with_reducible rfl
              rotate_left
              · simp only [Act.put, List.setIfInBounds_toArray, List.set_cons_zero, List.set_cons_succ, i64_w, i32_w]
                rfl
              refine pure_ (i := 8) (N := some 38) (v := ?_) (a' := ?_) #[true, true, true, true, true, true, true, true, true, false, false] rfl rfl (any_of HT_.out (by kernel_rfl)) (fun _ _ _ h => h) (Or.inl ⟨by rfl, ?_⟩) ?_ ?_
              rotate_left
              · intro w'
                go_simp
                with_reducible rfl
              rotate_left
              · simp only [Act.put, List.setIfInBounds_toArray, List.set_cons_zero, List.set_cons_succ, i64_w, i32_w]
                rfl
              refine pure_ (i := 9) (N := some 39) (v := ?_) (a' := ?_) #[true, true, true, true, true, true, true, true, true, true, false] rfl rfl (any_of HT_.out (by kernel_rfl)) (fun _ _ _ h => h) (Or.inl ⟨by rfl, ?_⟩) ?_ ?_
              rotate_left
              · intro w'
                go_simp
                with_reducible rfl
              rotate_left
              · simp only [Act.put, List.setIfInBounds_toArray, List.set_cons_zero, List.set_cons_succ, i64_w, i32_w]
                rfl
              refine one_ (i := 10) (N := none) #[true, true, true, true, true, true, true, true, true, true, true] rfl rfl (one_of HT_.out (by kernel_rfl)) (by decide) (fun K hK => ?_)
              have hs46 : w45.cell? ⟨gb124, 0, none⟩ = some (.string (⟨#[]⟩ : ByteArray)) := (blk_cell BK124.out 0).trans rfl
              have hfs46 := blk_frozen BK124.out 0
              have hns46_0 := NB101_124.out
              have hns46_1 := NB118_124.out
              have hms46_0 := NB124_101.out
              have hms46_1 := NB124_118.out
              refine skip_ (w1 := ?_) (by rfl) rfl ?_ ?_
              rotate_left
              · go_simp
                rfl
              refine hK.out _ _ ⟨((cell_far (p := ⟨gb124, _, none⟩) NB118_124.out _).trans (hHeld.1)), ((cell_far (p := ⟨gb124, _, none⟩) NB118_124.out _).trans (hHeld.2.1)), ((cell_far (p := ⟨gb124, _, none⟩) NB118_124.out _).trans (hHeld.2.2.1)), ((cell_far (p := ⟨gb124, _, none⟩) NB118_124.out _).trans (hHeld.2.2.2.1)), ((cell_far (p := ⟨gb124, _, none⟩) NB118_124.out _).trans (hHeld.2.2.2.2.1)), ((cell_far (p := ⟨gb124, _, none⟩) NB118_124.out _).trans (hHeld.2.2.2.2.2.1)), ((cell_far (p := ⟨gb124, _, none⟩) NB118_124.out _).trans (hHeld.2.2.2.2.2.2.1)), ((cell_far (p := ⟨gb124, _, none⟩) NB118_124.out _).trans (hHeld.2.2.2.2.2.2.2.1)), ((cell_far (p := ⟨gb124, _, none⟩) NB118_124.out _).trans (hHeld.2.2.2.2.2.2.2.2.1)), ((cell_far (p := ⟨gb124, _, none⟩) NB118_124.out _).trans (hHeld.2.2.2.2.2.2.2.2.2.1)), ((cell_far (p := ⟨gb124, _, none⟩) NB118_124.out _).trans (hHeld.2.2.2.2.2.2.2.2.2.2.1)), ((cell_far (p := ⟨gb124, _, none⟩) NB118_124.out _).trans (hHeld.2.2.2.2.2.2.2.2.2.2.2.1)), ((cell_far (p := ⟨gb124, _, none⟩) NB118_124.out _).trans (hHeld.2.2.2.2.2.2.2.2.2.2.2.2.1)), ((cell_far (p := ⟨gb124, _, none⟩) NB118_124.out _).trans (hHeld.2.2.2.2.2.2.2.2.2.2.2.2.2.1)), ((cell_far (p := ⟨gb124, _, none⟩) NB118_124.out _).trans (hHeld.2.2.2.2.2.2.2.2.2.2.2.2.2.2.1)), ((cell_far (p := ⟨gb124, _, none⟩) (by first | exact Kd.own_blk (Kd.R_ne HO_6.out BK124.out (by decide)) | (rw [add_block]; exact Kd.own_blk (Kd.R_ne HO_6.out BK124.out (by decide))) | (show (Addr.add _ _).block ≠ _; rw [add_block]; exact Kd.own_blk (Kd.R_ne HO_6.out BK124.out (by decide))) | (dsimp only; exact Kd.own_blk (Kd.R_ne HO_6.out BK124.out (by decide)))) _).trans (hHeld.2.2.2.2.2.2.2.2.2.2.2.2.2.2.2))⟩ (fun hHeld => ?_)
              clear hK K
              refine done_ (done_of HT_.out (by kernel_rfl)) ?_
              try go_wp2
              have n0_ : Aside0 (Kd.R Kd.string 9 (w45.setCell ⟨gb124, 0, none⟩ (.string t126)) w.heap.size (fun _ => True) (.slice (some ad125) t119.length co44) t119) := ⟨by (with_reducible repeat (first | apply Kd.R_alloc | apply Kd.R_drewN | apply Kd.R_drew)); exact Kd.R_mono (Kd.R_far (p := ⟨gb124, 0, none⟩) (Kd.R_types HO_6.out BK124.out (by decide)) (fun _ hk => hk.2) (.string t126)) (fun _ hk => trivial)⟩
              have n1_ : Aside0 ((w45.setCell ⟨gb124, 0, none⟩ (.string t126)).heap[gb101]? = some (.cells #[.string (⟨#[]⟩ : ByteArray), .string (⟨#[]⟩ : ByteArray)] 47 (0, 0))) := ⟨by (with_reducible repeat (first | refine blk_drewN ?_ _ | refine blk_drew ?_ | refine blk_alloc ?_ _)); refine blk_far ?_ NB101_124.out _; (with_reducible repeat (first | refine blk_drewN ?_ _ | refine blk_drew ?_ | refine blk_alloc ?_ _)); exact BK101.out⟩
              have n2_ : Aside0 ((w45.setCell ⟨gb124, 0, none⟩ (.string t126)).heap[gb118]? = some (.cells #[.int .u8 t102, .int .u8 t103, .int .u8 t104, .int .u8 t105, .int .u8 t106, .string t107, .string t108, .string t109, .string t110, .string t111, .string t112, .string t113, .string t114, .string t115, .string t116] 25 (0, 0))) := ⟨by (with_reducible repeat (first | refine blk_drewN ?_ _ | refine blk_drew ?_ | refine blk_alloc ?_ _)); refine blk_far ?_ NB118_124.out _; (with_reducible repeat (first | refine blk_drewN ?_ _ | refine blk_drew ?_ | refine blk_alloc ?_ _)); exact BK118.out⟩
              have n3_ : Aside0 ((w45.setCell ⟨gb124, 0, none⟩ (.string t126)).heap[gb124]? = some (.cells #[.string t126, .string (⟨#[]⟩ : ByteArray)] 47 (0, 0))) := ⟨by (with_reducible repeat (first | refine blk_drewN ?_ _ | refine blk_drew ?_ | refine blk_alloc ?_ _)); refine blk_put (cs := #[.string (⟨#[]⟩ : ByteArray), .string (⟨#[]⟩ : ByteArray)]) ?_ 0 _ rfl; (with_reducible repeat (first | refine blk_drewN ?_ _ | refine blk_drew ?_ | refine blk_alloc ?_ _)); exact BK124.out⟩
              have n4_ : Aside0 (Below w.heap.size w (w45.setCell ⟨gb124, 0, none⟩ (.string t126))) := ⟨by repeat (first | (with_reducible first | exact HB.out | apply below_alloc | apply pw_below_drewN | apply below_drew1 | refine below_set ?_ GE101.out | refine below_set ?_ GE118.out | refine below_set ?_ GE124.out) | exact HB.out)⟩
              (try clear HO_6)
              (try clear BK101)
              (try clear BK118)
              (try clear BK124)
              (try clear HB)
              generalize (w45.setCell ⟨gb124, 0, none⟩ (.string t126)) = w47 at n0_ n1_ n2_ n3_ n4_ ⊢
              have HO_6 := n0_
              have BK101 := n1_
              have BK118 := n2_
              have BK124 := n3_
              have HB := n4_
              clear n0_ n1_ n2_ n3_ n4_
              have n0_ := Aside0.mk (Kd.R_drew HO_6.out)
              have n1_ := Aside0.mk (blk_drew BK101.out)
              have n2_ := Aside0.mk (blk_drew BK118.out)
              have n3_ := Aside0.mk (blk_drew BK124.out)
              have n4_ := Aside0.mk (below_drew1 HB.out)
              clear HO_6
              clear BK101
              clear BK118
              clear BK124
              clear HB
              have HO_6 := n0_
              have BK101 := n1_
              have BK118 := n2_
              have BK124 := n3_
              have HB := n4_
              clear n0_ n1_ n2_ n3_ n4_
              have p128 : 0 ≤ (1 : Int) := (by omega)
              have q128 : 1 < (t119.length : Int) := of_decide_eq_true (by first | (with_reducible assumption) | assumption)
              obtain ⟨ad128, e128, hx128_0⟩ := Kd.at_string (Kd.R_reads' HO_6.out).2.2 1 p128 q128
              obtain rfl : ad125 = ad128 := (by injection e128)
              (try simp only [show (1 : Int).toNat = 1 from rfl, Nat.reduceMul, Nat.reduceEqDiff, Go.Addr.add, ↓reduceIte] at hx128_0)
              have qi128 : (1 < t119.length) = True := eq_true (by omega)
              (try rw [show ((1 : Int)).toNat = 1 from rfl] at hx128_0)
              replace p128 := eq_true p128
              replace q128 := eq_true q128
              refine start_ (n := 11) (S := fun w' => w'.cell? ⟨gb118, 0, none⟩ = some (.int .u8 t102) ∧ w'.cell? ⟨gb118, 1, none⟩ = some (.int .u8 t103) ∧ w'.cell? ⟨gb118, 2, none⟩ = some (.int .u8 t104) ∧ w'.cell? ⟨gb118, 3, none⟩ = some (.int .u8 t105) ∧ w'.cell? ⟨gb118, 4, none⟩ = some (.int .u8 t106) ∧ w'.cell? ⟨gb118, 5, none⟩ = some (.string t107) ∧ w'.cell? ⟨gb118, 6, none⟩ = some (.string t108) ∧ w'.cell? ⟨gb118, 7, none⟩ = some (.string t109) ∧ w'.cell? ⟨gb118, 8, none⟩ = some (.string t110) ∧ w'.cell? ⟨gb118, 9, none⟩ = some (.string t111) ∧ w'.cell? ⟨gb118, 10, none⟩ = some (.string t112) ∧ w'.cell? ⟨gb118, 11, none⟩ = some (.string t113) ∧ w'.cell? ⟨gb118, 12, none⟩ = some (.string t114) ∧ w'.cell? ⟨gb118, 13, none⟩ = some (.string t115) ∧ w'.cell? ⟨gb118, 14, none⟩ = some (.string t116) ∧ w'.cell? ⟨ad125.block, ad125.off + 1, none⟩ = some (.string (rdOf ByteArray.empty t119 1))) (ds := []) #[false, false, false, false, false, false, false, false, false, false, false] (by kernel_rfl) rfl rfl ⟨(blk_cell BK118.out 0).trans rfl, (blk_cell BK118.out 1).trans rfl, (blk_cell BK118.out 2).trans rfl, (blk_cell BK118.out 3).trans rfl, (blk_cell BK118.out 4).trans rfl, (blk_cell BK118.out 5).trans rfl, (blk_cell BK118.out 6).trans rfl, (blk_cell BK118.out 7).trans rfl, (blk_cell BK118.out 8).trans rfl, (blk_cell BK118.out 9).trans rfl, (blk_cell BK118.out 10).trans rfl, (blk_cell BK118.out 11).trans rfl, (blk_cell BK118.out 12).trans rfl, (blk_cell BK118.out 13).trans rfl, (blk_cell BK118.out 14).trans rfl, hx128_0⟩ (fun hHeld => ?_); refine with_tabW ack_Read.tab9 ack_Read.bits9 (fun HT_ HW_ => ?_)
              generalize w47.drew = w48 at HO_6 BK101 BK118 BK124 HB hx128_0 hHeld ⊢
              refine pure_ (i := 0) (N := some 41) (v := ?_) (a' := ?_) #[true, false, false, false, false, false, false, false, false, false, false] rfl rfl (any_of HT_.out (by kernel_rfl)) (fun _ _ _ h => h) (Or.inl ⟨by rfl, ?_⟩) ?_ ?_
              rotate_left
              · intro w'
                go_simp
                with_reducible rfl
              rotate_left
              · simp only [Act.put, List.setIfInBounds_toArray, List.set_cons_zero, List.set_cons_succ, i64_w, i32_w]
                rfl
              refine pure_ (i := 1) (N := some 42) (v := ?_) (a' := ?_) #[true, true, false, false, false, false, false, false, false, false, false] rfl rfl (any_of HT_.out (by kernel_rfl)) (fun _ _ _ h => h) (Or.inl ⟨by rfl, ?_⟩) ?_ ?_
              rotate_left
              · intro w'
                go_simp
                with_reducible rfl
              rotate_left
              · simp only [Act.put, List.setIfInBounds_toArray, List.set_cons_zero, List.set_cons_succ, i64_w, i32_w]
                rfl
              refine pure_ (i := 3) (N := some 44) (v := ?_) (a' := ?_) #[true, true, false, true, false, false, false, false, false, false, false] rfl rfl (any_of HT_.out (by kernel_rfl)) (fun _ _ _ h => h) (Or.inl ⟨by rfl, ?_⟩) ?_ ?_
              rotate_left
              · intro w'
                go_simp
                with_reducible rfl
              rotate_left
              · simp only [Act.put, List.setIfInBounds_toArray, List.set_cons_zero, List.set_cons_succ, i64_w, i32_w]
                rfl
              refine take_ (i := 2) (N := some 43) (v := ?_) (a' := ?_) #[true, true, true, true, false, false, false, false, false, false, false] rfl rfl (take_ofW HT_.out HW_.out (by kernel_rfl)) (fun _ _ _ h => h) (Or.inl ⟨by rfl, ?_⟩) hHeld ?_ ?_
              rotate_left
              · rintro w' ⟨s0, s1, s2, s3, s4, s5, s6, s7, s8, s9, s10, s11, s12, s13, s14, s15⟩
                go_simp
                with_reducible rfl
              rotate_left
              · simp only [Act.put, List.setIfInBounds_toArray, List.set_cons_zero, List.set_cons_succ, i64_w, i32_w]
                rfl
              refine take_ (i := 4) (N := some 45) (v := ?_) (a' := ?_) #[true, true, true, true, true, false, false, false, false, false, false] rfl rfl (take_ofW HT_.out HW_.out (by kernel_rfl)) (fun _ _ _ h => h) (Or.inl ⟨by rfl, ?_⟩) hHeld ?_ ?_
              rotate_left
              · rintro w' ⟨s0, s1, s2, s3, s4, s5, s6, s7, s8, s9, s10, s11, s12, s13, s14, s15⟩
                go_simp
                with_reducible rfl
              rotate_left
              · simp only [Act.put, List.setIfInBounds_toArray, List.set_cons_zero, List.set_cons_succ, i64_w, i32_w]
                rfl
              refine one_ (i := 5) (N := some 46) #[true, true, true, true, true, true, false, false, false, false, false] rfl rfl (one_of HT_.out (by kernel_rfl)) (by decide) (fun K hK => ?_)
              refine goes_ Tryd.func37 (by kernel_rfl) rfl #[.string (rdOf ByteArray.empty t119 1), .int .i64 2, .agg #[.int .u8 t102, .int .u8 t103, .int .u8 t104, .int .u8 t105, .int .u8 t106]] (by rfl) rfl rfl (by (try simp only [List.map_toArray, List.map_cons, List.map_nil]); first | done | rfl | (simp only [List.length_drop, List.length_take]; rfl)) ?_
              with_reducible refine (QField.segment_Field.calls (rdOf ByteArray.empty t119 1) 2 t102 t103 t104 t105 t106 t129 t130 _ ?side1 A23.out).mono ?_
              (case side1 => exact GlobA.below HG.out (by repeat (first | (with_reducible first | exact HB.out | apply below_alloc | apply pw_below_drewN | apply below_drew1 | refine below_set ?_ GE101.out | refine below_set ?_ GE118.out | refine below_set ?_ GE124.out) | exact HB.out)))
              rintro e w49 ⟨rfl, hb⟩
              have HS15_ := (hb.cell (World.block_lt_of_cell? _ _ (hHeld.2.2.2.2.2.2.2.2.2.2.2.2.2.2.2))).trans (hHeld.2.2.2.2.2.2.2.2.2.2.2.2.2.2.2)
              refine ⟨_, rfl, ?_⟩
              have n0_ := Aside0.mk (Kd.R_below (by (with_reducible repeat (first | apply Kd.R_alloc | apply Kd.R_drewN | apply Kd.R_drew)); exact HO_6.out) hb)
              have n1_ := Aside0.mk (blk_below (g := gb101) (o := .cells #[.string (⟨#[]⟩ : ByteArray), .string (⟨#[]⟩ : ByteArray)] 47 (0, 0)) (by (with_reducible repeat (first | refine blk_drewN ?_ _ | refine blk_drew ?_ | refine blk_alloc ?_ _)); exact BK101.out) hb)
              have n2_ := Aside0.mk (blk_below (g := gb118) (o := .cells #[.int .u8 t102, .int .u8 t103, .int .u8 t104, .int .u8 t105, .int .u8 t106, .string t107, .string t108, .string t109, .string t110, .string t111, .string t112, .string t113, .string t114, .string t115, .string t116] 25 (0, 0)) (by (with_reducible repeat (first | refine blk_drewN ?_ _ | refine blk_drew ?_ | refine blk_alloc ?_ _)); exact BK118.out) hb)
              have n3_ := Aside0.mk (blk_below (g := gb124) (o := .cells #[.string t126, .string (⟨#[]⟩ : ByteArray)] 47 (0, 0)) (by (with_reducible repeat (first | refine blk_drewN ?_ _ | refine blk_drew ?_ | refine blk_alloc ?_ _)); exact BK124.out) hb)
              have n4_ := Aside0.mk (below_step (by repeat (first | (with_reducible first | exact HB.out | apply below_alloc | apply pw_below_drewN | apply below_drew1 | refine below_set ?_ GE101.out | refine below_set ?_ GE118.out | refine below_set ?_ GE124.out) | exact HB.out)) hb)
              clear HO_6
              clear BK101
              clear BK118
              clear BK124
              clear HB
              have HO_6 := n0_
              have BK101 := n1_
              have BK118 := n2_
              have BK124 := n3_
              have HB := n4_
              clear n0_ n1_ n2_ n3_ n4_
              (try clear hb)
              (try clear hb2)
              (try clear hk)
              (try clear hi)
              refine hK.out _ _ ⟨(blk_cell BK118.out 0).trans rfl, (blk_cell BK118.out 1).trans rfl, (blk_cell BK118.out 2).trans rfl, (blk_cell BK118.out 3).trans rfl, (blk_cell BK118.out 4).trans rfl, (blk_cell BK118.out 5).trans rfl, (blk_cell BK118.out 6).trans rfl, (blk_cell BK118.out 7).trans rfl, (blk_cell BK118.out 8).trans rfl, (blk_cell BK118.out 9).trans rfl, (blk_cell BK118.out 10).trans rfl, (blk_cell BK118.out 11).trans rfl, (blk_cell BK118.out 12).trans rfl, (blk_cell BK118.out 13).trans rfl, (blk_cell BK118.out 14).trans rfl, HS15_⟩ (fun hHeld => ?_)
              clear hK K
              refine norm_ (a' := ?_) ?_ ?_
              rotate_left
              · show Act.put _ (some 46) _ = _
                simp only [Act.put, List.setIfInBounds_toArray, List.set_cons_zero, List.set_cons_succ, i64_w, i32_w]
                rfl
              refine pure_ (i := 6) (N := some 40) (v := ?_) (a' := ?_) #[true, true, true, true, true, true, true, false, false, false, false] rfl rfl (any_of HT_.out (by kernel_rfl)) (fun _ _ _ h => h) (Or.inl ⟨by rfl, ?_⟩) ?_ ?_
              rotate_left
              · intro w'
                go_simp
                with_reducible rfl
              rotate_left
              · simp only [Act.put, List.setIfInBounds_toArray, List.set_cons_zero, List.set_cons_succ, i64_w, i32_w]
                rfl
              refine pure_ (i := 7) (N := some 47) (v := ?_) (a' := ?_) #[true, true, true, true, true, true, true, true, false, false, false] rfl rfl (any_of HT_.out (by kernel_rfl)) (fun _ _ _ h => h) (Or.inl ⟨by rfl, ?_⟩) ?_ ?_
              rotate_left
              · intro w'
                go_simp
                with_reducible rfl
              rotate_left
              · simp only [Act.put, List.setIfInBounds_toArray, List.set_cons_zero, List.set_cons_succ, i64_w, i32_w]
                rfl
              refine pure_ (i := 8) (N := some 48) (v := ?_) (a' := ?_) #[true, true, true, true, true, true, true, true, true, false, false] rfl rfl (any_of HT_.out (by kernel_rfl)) (fun _ _ _ h => h) (Or.inl ⟨by rfl, ?_⟩) ?_ ?_
              rotate_left
              · intro w'
                go_simp
                with_reducible rfl
              rotate_left
              · simp only [Act.put, List.setIfInBounds_toArray, List.set_cons_zero, List.set_cons_succ, i64_w, i32_w]
                rfl
              refine pure_ (i := 9) (N := some 49) (v := ?_) (a' := ?_) #[true, true, true, true, true, true, true, true, true, true, false] rfl rfl (any_of HT_.out (by kernel_rfl)) (fun _ _ _ h => h) (Or.inl ⟨by rfl, ?_⟩) ?_ ?_
              rotate_left
              · intro w'
                go_simp
                with_reducible rfl
              rotate_left
              · simp only [Act.put, List.setIfInBounds_toArray, List.set_cons_zero, List.set_cons_succ, i64_w, i32_w]
                rfl
              refine one_ (i := 10) (N := none) #[true, true, true, true, true, true, true, true, true, true, true] rfl rfl (one_of HT_.out (by kernel_rfl)) (by decide) (fun K hK => ?_)
              have hs50 : w49.cell? ⟨gb124, 1, none⟩ = some (.string (⟨#[]⟩ : ByteArray)) := (blk_cell BK124.out 1).trans rfl
              have hfs50 := blk_frozen BK124.out 1
              have hns50_0 := NB101_124.out
              have hns50_1 := NB118_124.out
              have hms50_0 := NB124_101.out
              have hms50_1 := NB124_118.out
              refine skip_ (w1 := ?_) (by rfl) rfl ?_ ?_
              rotate_left
              · go_simp
                rfl
              refine hK.out _ _ ⟨((cell_far (p := ⟨gb124, _, none⟩) NB118_124.out _).trans (hHeld.1)), ((cell_far (p := ⟨gb124, _, none⟩) NB118_124.out _).trans (hHeld.2.1)), ((cell_far (p := ⟨gb124, _, none⟩) NB118_124.out _).trans (hHeld.2.2.1)), ((cell_far (p := ⟨gb124, _, none⟩) NB118_124.out _).trans (hHeld.2.2.2.1)), ((cell_far (p := ⟨gb124, _, none⟩) NB118_124.out _).trans (hHeld.2.2.2.2.1)), ((cell_far (p := ⟨gb124, _, none⟩) NB118_124.out _).trans (hHeld.2.2.2.2.2.1)), ((cell_far (p := ⟨gb124, _, none⟩) NB118_124.out _).trans (hHeld.2.2.2.2.2.2.1)), ((cell_far (p := ⟨gb124, _, none⟩) NB118_124.out _).trans (hHeld.2.2.2.2.2.2.2.1)), ((cell_far (p := ⟨gb124, _, none⟩) NB118_124.out _).trans (hHeld.2.2.2.2.2.2.2.2.1)), ((cell_far (p := ⟨gb124, _, none⟩) NB118_124.out _).trans (hHeld.2.2.2.2.2.2.2.2.2.1)), ((cell_far (p := ⟨gb124, _, none⟩) NB118_124.out _).trans (hHeld.2.2.2.2.2.2.2.2.2.2.1)), ((cell_far (p := ⟨gb124, _, none⟩) NB118_124.out _).trans (hHeld.2.2.2.2.2.2.2.2.2.2.2.1)), ((cell_far (p := ⟨gb124, _, none⟩) NB118_124.out _).trans (hHeld.2.2.2.2.2.2.2.2.2.2.2.2.1)), ((cell_far (p := ⟨gb124, _, none⟩) NB118_124.out _).trans (hHeld.2.2.2.2.2.2.2.2.2.2.2.2.2.1)), ((cell_far (p := ⟨gb124, _, none⟩) NB118_124.out _).trans (hHeld.2.2.2.2.2.2.2.2.2.2.2.2.2.2.1)), ((cell_far (p := ⟨gb124, _, none⟩) (by first | exact Kd.own_blk (Kd.R_ne HO_6.out BK124.out (by decide)) | (rw [add_block]; exact Kd.own_blk (Kd.R_ne HO_6.out BK124.out (by decide))) | (show (Addr.add _ _).block ≠ _; rw [add_block]; exact Kd.own_blk (Kd.R_ne HO_6.out BK124.out (by decide))) | (dsimp only; exact Kd.own_blk (Kd.R_ne HO_6.out BK124.out (by decide)))) _).trans (hHeld.2.2.2.2.2.2.2.2.2.2.2.2.2.2.2))⟩ (fun hHeld => ?_)
              clear hK K
              refine done_ (done_of HT_.out (by kernel_rfl)) ?_
              have hnb51 := NB124_101.out
              have hnc51 := NB101_124.out
              have hnb52 := NB124_118.out
              have hnc52 := NB118_124.out
              have hcz53_0 : w49.cell? ⟨gb124, 0, none⟩ = some (.string t126) := (blk_cell BK124.out 0).trans rfl
              have hcz53_1 : w49.cell? ⟨gb124, 1, none⟩ = some (.string (⟨#[]⟩ : ByteArray)) := (blk_cell BK124.out 1).trans rfl
              have hfz53_0 := blk_frozen BK124.out 0
              have hfz53_1 := blk_frozen BK124.out 1
              try go_wp2_with (first | ((with_reducible refine gate_callee (f := 38) rfl ?_); refine goesL_ (some 52) rfl rfl Tryd.func38 (by kernel_rfl) rfl #[.string t126] rfl (by (try simp only [List.map_toArray, List.map_cons, List.map_nil]); first | done | rfl | (simp only [List.length_drop, List.length_take]; rfl)) ?_; (with_reducible refine (ack_Known.calls t126 false _ ?side1 A24.out).mono ?_); (case side1 => exact GlobA.below HG.out (by repeat (first | (with_reducible first | exact HB.out | apply below_alloc | apply pw_below_drewN | apply below_drew1 | refine below_set ?_ GE101.out | refine below_set ?_ GE118.out | refine below_set ?_ GE124.out) | exact HB.out))); rintro e w54 ⟨rfl, hb⟩; refine ⟨_, rfl, ?_⟩; have n0_ := Aside0.mk (Kd.R_below (by (with_reducible repeat (first | apply Kd.R_alloc | apply Kd.R_drewN | apply Kd.R_drew)); exact (Kd.R_mono (Kd.R_far (p := ⟨gb124, 1, none⟩) (Kd.R_types HO_6.out BK124.out (by decide)) (fun _ hk => hk.2) (.string t129)) (fun _ h_ => h_.1))) hb); have n1_ := Aside0.mk (blk_below (g := gb101) (o := .cells #[.string (⟨#[]⟩ : ByteArray), .string (⟨#[]⟩ : ByteArray)] 47 (0, 0)) (by (with_reducible repeat (first | refine blk_drewN ?_ _ | refine blk_drew ?_ | refine blk_alloc ?_ _)); refine blk_far ?_ NB101_124.out _; (with_reducible repeat (first | refine blk_drewN ?_ _ | refine blk_drew ?_ | refine blk_alloc ?_ _)); exact BK101.out) hb); have n2_ := Aside0.mk (blk_below (g := gb118) (o := .cells #[.int .u8 t102, .int .u8 t103, .int .u8 t104, .int .u8 t105, .int .u8 t106, .string t107, .string t108, .string t109, .string t110, .string t111, .string t112, .string t113, .string t114, .string t115, .string t116] 25 (0, 0)) (by (with_reducible repeat (first | refine blk_drewN ?_ _ | refine blk_drew ?_ | refine blk_alloc ?_ _)); refine blk_far ?_ NB118_124.out _; (with_reducible repeat (first | refine blk_drewN ?_ _ | refine blk_drew ?_ | refine blk_alloc ?_ _)); exact BK118.out) hb); have n3_ := Aside0.mk (blk_below (g := gb124) (o := .cells #[.string t126, .string t129] 47 (0, 0)) (by (with_reducible repeat (first | refine blk_drewN ?_ _ | refine blk_drew ?_ | refine blk_alloc ?_ _)); refine blk_put (cs := #[.string t126, .string (⟨#[]⟩ : ByteArray)]) ?_ 1 _ rfl; (with_reducible repeat (first | refine blk_drewN ?_ _ | refine blk_drew ?_ | refine blk_alloc ?_ _)); exact BK124.out) hb); have n4_ := Aside0.mk (below_step (by repeat (first | (with_reducible first | exact HB.out | apply below_alloc | apply pw_below_drewN | apply below_drew1 | refine below_set ?_ GE101.out | refine below_set ?_ GE118.out | refine below_set ?_ GE124.out) | exact HB.out)) hb); clear HO_6; clear BK101; clear BK118; clear BK124; clear HB; have HO_6 := n0_; have BK101 := n1_; have BK118 := n2_; have BK124 := n3_; have HB := n4_; clear n0_ n1_ n2_ n3_ n4_; (try clear hb); (try clear hb2); (try clear hk); (try clear hi); have hnb55 := NB101_118.out; have hnc55 := NB118_101.out; have hcz56_0 : w54.cell? ⟨gb101, 0, none⟩ = some (.string (⟨#[]⟩ : ByteArray)) := (blk_cell BK101.out 0).trans rfl; have hcz56_1 : w54.cell? ⟨gb101, 1, none⟩ = some (.string (⟨#[]⟩ : ByteArray)) := (blk_cell BK101.out 1).trans rfl; have hfz56_0 := blk_frozen BK101.out 0; have hfz56_1 := blk_frozen BK101.out 1))
              refine bodyPost_ret (results_ct rfl _ _ gb101 47 #[.string (⟨#[]⟩ : ByteArray), .string (⟨#[]⟩ : ByteArray)] (0, 0) _ rfl (by (with_reducible repeat (first | refine blk_drewN ?_ _ | refine blk_drew ?_ | refine blk_alloc ?_ _)); refine blk_put (cs := #[.string (⟨#[]⟩ : ByteArray), .string (⟨#[]⟩ : ByteArray)]) ?_ 1 _ rfl; (with_reducible repeat (first | refine blk_drewN ?_ _ | refine blk_drew ?_ | refine blk_alloc ?_ _)); refine blk_put (cs := #[.string (⟨#[]⟩ : ByteArray), .string (⟨#[]⟩ : ByteArray)]) ?_ 0 _ rfl; (with_reducible repeat (first | refine blk_drewN ?_ _ | refine blk_drew ?_ | refine blk_alloc ?_ _)); exact BK101.out) Tryd.underlying47 rfl (by kernel_rfl)) rfl ?_
              exact ⟨by first | rfl | (simp [errW_none, errW_some] <;> rfl) | (simp [*, errW_none, errW_some] <;> rfl), by repeat (first | (with_reducible first | exact HB.out | apply below_alloc | apply pw_below_drewN | apply below_drew1 | refine below_set ?_ GE101.out | refine below_set ?_ GE118.out | refine below_set ?_ GE124.out) | exact HB.out)⟩
          · rw [if_neg c21] at H
            exact absurd H (by simp)
  · rw [if_neg c3] at H
    have c3b0 : (t117 == 0) = false := beq_eq_false_iff_ne.mpr c3
    have c3b1 : (t117 != 0) = true := bne_iff_ne.mpr c3
    simp only [Option.some.injEq, Prod.mk.injEq] at H
    obtain ⟨rfl, rfl, rfl⟩ := H
    go_enter Tryd.func17, Tryd.ntmps17
    go_wp2_with (first | ((with_reducible refine gate_dst (N := 2) rfl ?_); refine box_event ?hg (N := 2) ?hd (cs := #[.string (⟨#[]⟩ : ByteArray), .string (⟨#[]⟩ : ByteArray)]) (t := 47) ?hr ?_; (case hd => rfl); (case hg => rfl); (case hr => first | (go_simp; done) | (go_simp; rfl)); intro gb101 hg w57 hbox hb; have n0_ := Aside0.mk (below_step (by repeat (first | (with_reducible first | exact HB.out | apply below_alloc | apply pw_below_drewN | apply below_drew1) | exact HB.out)) hb); have n1_ := Aside0.mk (hbox); have n2_ := Aside0.mk ((by rw [hg]; exact (below_size (by repeat (first | (with_reducible first | exact HB.out | apply below_alloc | apply pw_below_drewN | apply below_drew1) | exact HB.out))) : w.heap.size ≤ gb101)); have n3_ := Aside0.mk ((by rw [hg]; exact (below_size (by repeat (first | (with_reducible first | exact HB.out | apply below_alloc | apply pw_below_drewN | apply below_drew1) | exact HB.out))) : w.heap.size ≤ gb101)); clear HB; have HB := n0_; have BK101 := n1_; have GW101 := n2_; have GE101 := n3_; clear n0_ n1_ n2_ n3_; clear hb hbox hg) | ((with_reducible refine gate_callee (f := 23) rfl ?_); refine goesL_ (some 10) rfl rfl Tryd.func23 (by kernel_rfl) rfl #[.slice A0 l0.length c0] rfl (by (try simp only [List.map_toArray, List.map_cons, List.map_nil]); first | done | rfl | (simp only [List.length_drop, List.length_take]; rfl)) ?_; (with_reducible refine (msh_Read.calls _ _ l0 t102 t103 t104 t105 t106 t107 t108 t109 t110 t111 t112 t113 t114 t115 t116 t117 _ ?side3 ?side1 ?side2 A2.out).mono ?_); (case side1 => repeat (first | exact (Kd.C_below HR0.out HB.out) | (with_reducible refine Kd.C_alloc ?_ _) | (with_reducible refine Kd.C_drewN ?_ _) | (with_reducible refine Kd.C_drew ?_))); (case side2 => exact HC0.out); (case side3 => exact GlobA.below HG.out (by repeat (first | (with_reducible first | exact HB.out | apply below_alloc | apply pw_below_drewN | apply below_drew1 | refine below_set ?_ GE101.out) | exact HB.out))); rintro e w58 ⟨rfl, hb⟩; refine ⟨_, rfl, ?_⟩; have n0_ := Aside0.mk (blk_below (g := gb101) (o := .cells #[.string (⟨#[]⟩ : ByteArray), .string (⟨#[]⟩ : ByteArray)] 47 (0, 0)) (by (with_reducible repeat (first | refine blk_drewN ?_ _ | refine blk_drew ?_ | refine blk_alloc ?_ _)); exact BK101.out) hb); have n1_ := Aside0.mk (below_step (by repeat (first | (with_reducible first | exact HB.out | apply below_alloc | apply pw_below_drewN | apply below_drew1 | refine below_set ?_ GE101.out) | exact HB.out)) hb); clear BK101; clear HB; have BK101 := n0_; have HB := n1_; clear n0_ n1_; (try clear hb); (try clear hb2); (try clear hk); (try clear hi)) | ((with_reducible refine gate_dst (N := 4) rfl ?_); refine box_event ?hg (N := 4) ?hd (cs := #[.int .u8 0, .int .u8 0, .int .u8 0, .int .u8 0, .int .u8 0, .string (⟨#[]⟩ : ByteArray), .string (⟨#[]⟩ : ByteArray), .string (⟨#[]⟩ : ByteArray), .string (⟨#[]⟩ : ByteArray), .string (⟨#[]⟩ : ByteArray), .string (⟨#[]⟩ : ByteArray), .string (⟨#[]⟩ : ByteArray), .string (⟨#[]⟩ : ByteArray), .string (⟨#[]⟩ : ByteArray), .string (⟨#[]⟩ : ByteArray)]) (t := 25) ?hr ?_; (case hd => rfl); (case hg => rfl); (case hr => first | (go_simp; done) | (go_simp; rfl)); intro gb118 hg w59 hbox hb; have n0_ := Aside0.mk (blk_below (g := gb101) (o := .cells #[.string (⟨#[]⟩ : ByteArray), .string (⟨#[]⟩ : ByteArray)] 47 (0, 0)) (by (with_reducible repeat (first | refine blk_drewN ?_ _ | refine blk_drew ?_ | refine blk_alloc ?_ _)); exact BK101.out) hb); have n1_ := Aside0.mk (below_step (by repeat (first | (with_reducible first | exact HB.out | apply below_alloc | apply pw_below_drewN | apply below_drew1 | refine below_set ?_ GE101.out) | exact HB.out)) hb); have n2_ := Aside0.mk (hbox); have n3_ := Aside0.mk ((by rw [hg]; exact (below_size (by repeat (first | (with_reducible first | exact HB.out | apply below_alloc | apply pw_below_drewN | apply below_drew1 | refine below_set ?_ GE101.out) | exact HB.out))) : w.heap.size ≤ gb118)); have n4_ := Aside0.mk ((by rw [hg]; exact (below_size (by repeat (first | (with_reducible first | exact HB.out | apply below_alloc | apply pw_below_drewN | apply below_drew1 | refine below_set ?_ GE101.out) | exact HB.out))) : w.heap.size ≤ gb118)); have n5_ := Aside0.mk ((by rw [hg]; exact Nat.ne_of_lt (blk_lt (g := gb101) (o := .cells #[.string (⟨#[]⟩ : ByteArray), .string (⟨#[]⟩ : ByteArray)] 47 (0, 0)) (by (with_reducible repeat (first | refine blk_drewN ?_ _ | refine blk_drew ?_ | refine blk_alloc ?_ _)); exact BK101.out)) : gb101 ≠ gb118)); have n6_ := Aside0.mk ((by rw [hg]; exact Nat.ne_of_gt (blk_lt (g := gb101) (o := .cells #[.string (⟨#[]⟩ : ByteArray), .string (⟨#[]⟩ : ByteArray)] 47 (0, 0)) (by (with_reducible repeat (first | refine blk_drewN ?_ _ | refine blk_drew ?_ | refine blk_alloc ?_ _)); exact BK101.out)) : gb118 ≠ gb101)); clear BK101; clear HB; have BK101 := n0_; have HB := n1_; have BK118 := n2_; have GW118 := n3_; have GE118 := n4_; have NB101_118 := n5_; have NB118_101 := n6_; clear n0_ n1_ n2_ n3_ n4_ n5_ n6_; clear hb hbox hg; have hnb60 := NB118_101.out; have hnc60 := NB101_118.out; have hcz61_0 : w59.cell? ⟨gb118, 0, none⟩ = some (.int .u8 0) := (blk_cell BK118.out 0).trans rfl; have hcz61_1 : w59.cell? ⟨gb118, 1, none⟩ = some (.int .u8 0) := (blk_cell BK118.out 1).trans rfl; have hcz61_2 : w59.cell? ⟨gb118, 2, none⟩ = some (.int .u8 0) := (blk_cell BK118.out 2).trans rfl; have hcz61_3 : w59.cell? ⟨gb118, 3, none⟩ = some (.int .u8 0) := (blk_cell BK118.out 3).trans rfl; have hcz61_4 : w59.cell? ⟨gb118, 4, none⟩ = some (.int .u8 0) := (blk_cell BK118.out 4).trans rfl; have hcz61_5 : w59.cell? ⟨gb118, 5, none⟩ = some (.string (⟨#[]⟩ : ByteArray)) := (blk_cell BK118.out 5).trans rfl; have hcz61_6 : w59.cell? ⟨gb118, 6, none⟩ = some (.string (⟨#[]⟩ : ByteArray)) := (blk_cell BK118.out 6).trans rfl; have hcz61_7 : w59.cell? ⟨gb118, 7, none⟩ = some (.string (⟨#[]⟩ : ByteArray)) := (blk_cell BK118.out 7).trans rfl; have hcz61_8 : w59.cell? ⟨gb118, 8, none⟩ = some (.string (⟨#[]⟩ : ByteArray)) := (blk_cell BK118.out 8).trans rfl; have hcz61_9 : w59.cell? ⟨gb118, 9, none⟩ = some (.string (⟨#[]⟩ : ByteArray)) := (blk_cell BK118.out 9).trans rfl; have hcz61_10 : w59.cell? ⟨gb118, 10, none⟩ = some (.string (⟨#[]⟩ : ByteArray)) := (blk_cell BK118.out 10).trans rfl; have hcz61_11 : w59.cell? ⟨gb118, 11, none⟩ = some (.string (⟨#[]⟩ : ByteArray)) := (blk_cell BK118.out 11).trans rfl; have hcz61_12 : w59.cell? ⟨gb118, 12, none⟩ = some (.string (⟨#[]⟩ : ByteArray)) := (blk_cell BK118.out 12).trans rfl; have hcz61_13 : w59.cell? ⟨gb118, 13, none⟩ = some (.string (⟨#[]⟩ : ByteArray)) := (blk_cell BK118.out 13).trans rfl; have hcz61_14 : w59.cell? ⟨gb118, 14, none⟩ = some (.string (⟨#[]⟩ : ByteArray)) := (blk_cell BK118.out 14).trans rfl; have hfz61_0 := blk_frozen BK118.out 0; have hfz61_1 := blk_frozen BK118.out 1; have hfz61_2 := blk_frozen BK118.out 2; have hfz61_3 := blk_frozen BK118.out 3; have hfz61_4 := blk_frozen BK118.out 4; have hfz61_5 := blk_frozen BK118.out 5; have hfz61_6 := blk_frozen BK118.out 6; have hfz61_7 := blk_frozen BK118.out 7; have hfz61_8 := blk_frozen BK118.out 8; have hfz61_9 := blk_frozen BK118.out 9; have hfz61_10 := blk_frozen BK118.out 10; have hfz61_11 := blk_frozen BK118.out 11; have hfz61_12 := blk_frozen BK118.out 12; have hfz61_13 := blk_frozen BK118.out 13; have hfz61_14 := blk_frozen BK118.out 14; have hcz62_0 : w59.cell? ⟨gb101, 0, none⟩ = some (.string (⟨#[]⟩ : ByteArray)) := (blk_cell BK101.out 0).trans rfl; have hcz62_1 : w59.cell? ⟨gb101, 1, none⟩ = some (.string (⟨#[]⟩ : ByteArray)) := (blk_cell BK101.out 1).trans rfl; have hfz62_0 := blk_frozen BK101.out 0; have hfz62_1 := blk_frozen BK101.out 1))
    refine bodyPost_ret (results_ct rfl _ _ gb101 47 #[.string (⟨#[]⟩ : ByteArray), .string (⟨#[]⟩ : ByteArray)] (0, 0) _ rfl (by (with_reducible repeat (first | refine blk_drewN ?_ _ | refine blk_drew ?_ | refine blk_alloc ?_ _)); refine blk_put (cs := #[.string (⟨#[]⟩ : ByteArray), .string (⟨#[]⟩ : ByteArray)]) ?_ 1 _ rfl; (with_reducible repeat (first | refine blk_drewN ?_ _ | refine blk_drew ?_ | refine blk_alloc ?_ _)); refine blk_put (cs := #[.string (⟨#[]⟩ : ByteArray), .string (⟨#[]⟩ : ByteArray)]) ?_ 0 _ rfl; (with_reducible repeat (first | refine blk_drewN ?_ _ | refine blk_drew ?_ | refine blk_alloc ?_ _)); refine blk_far ?_ NB101_118.out _; (with_reducible repeat (first | refine blk_drewN ?_ _ | refine blk_drew ?_ | refine blk_alloc ?_ _)); refine blk_far ?_ NB101_118.out _; (with_reducible repeat (first | refine blk_drewN ?_ _ | refine blk_drew ?_ | refine blk_alloc ?_ _)); refine blk_far ?_ NB101_118.out _; (with_reducible repeat (first | refine blk_drewN ?_ _ | refine blk_drew ?_ | refine blk_alloc ?_ _)); refine blk_far ?_ NB101_118.out _; (with_reducible repeat (first | refine blk_drewN ?_ _ | refine blk_drew ?_ | refine blk_alloc ?_ _)); refine blk_far ?_ NB101_118.out _; (with_reducible repeat (first | refine blk_drewN ?_ _ | refine blk_drew ?_ | refine blk_alloc ?_ _)); refine blk_far ?_ NB101_118.out _; (with_reducible repeat (first | refine blk_drewN ?_ _ | refine blk_drew ?_ | refine blk_alloc ?_ _)); refine blk_far ?_ NB101_118.out _; (with_reducible repeat (first | refine blk_drewN ?_ _ | refine blk_drew ?_ | refine blk_alloc ?_ _)); refine blk_far ?_ NB101_118.out _; (with_reducible repeat (first | refine blk_drewN ?_ _ | refine blk_drew ?_ | refine blk_alloc ?_ _)); refine blk_far ?_ NB101_118.out _; (with_reducible repeat (first | refine blk_drewN ?_ _ | refine blk_drew ?_ | refine blk_alloc ?_ _)); refine blk_far ?_ NB101_118.out _; (with_reducible repeat (first | refine blk_drewN ?_ _ | refine blk_drew ?_ | refine blk_alloc ?_ _)); refine blk_far ?_ NB101_118.out _; (with_reducible repeat (first | refine blk_drewN ?_ _ | refine blk_drew ?_ | refine blk_alloc ?_ _)); refine blk_far ?_ NB101_118.out _; (with_reducible repeat (first | refine blk_drewN ?_ _ | refine blk_drew ?_ | refine blk_alloc ?_ _)); refine blk_far ?_ NB101_118.out _; (with_reducible repeat (first | refine blk_drewN ?_ _ | refine blk_drew ?_ | refine blk_alloc ?_ _)); refine blk_far ?_ NB101_118.out _; (with_reducible repeat (first | refine blk_drewN ?_ _ | refine blk_drew ?_ | refine blk_alloc ?_ _)); refine blk_far ?_ NB101_118.out _; (with_reducible repeat (first | refine blk_drewN ?_ _ | refine blk_drew ?_ | refine blk_alloc ?_ _)); exact BK101.out) Tryd.underlying47 rfl (by kernel_rfl)) rfl ?_
    exact ⟨by first | rfl | (simp [errW_none, errW_some] <;> rfl) | (simp [*, errW_none, errW_some] <;> rfl), by repeat (first | (with_reducible first | exact HB.out | apply below_alloc | apply pw_below_drewN | apply below_drew1 | refine below_set ?_ GE101.out | refine below_set ?_ GE118.out) | exact HB.out)⟩

end Go.Proofs.YtciagecaegoppaaDoor.QRead
end
section
namespace Go.Proofs.YtciagecaegoppaaDoor.QAcceptAnswers
open Go.RowKit Go.Proofs.YtciagecaegoppaaDoorW.PrintWords Go.Proofs.YtciagecaegoppaaDoorW.PrintLast Go.Proofs.YtciagecaegoppaaDoorW.PrintMore
attribute [local go_sem] max2_int min2_int max_two min_two max_three min_three max_four min_four   -- for this text's walks alone
set_option linter.unusedVariables false
set_option linter.unusedSimpArgs false

def errW : Option Int → Value
  | none => .nilIface
  | some c => .iface 0 (.int .i64 c)
theorem errW_none : errW none = .nilIface := rfl
theorem errW_some (c : Int) : errW (some c) = .iface 0 (.int .i64 c) := rfl

-- the values' own types
end Go.Proofs.YtciagecaegoppaaDoor.QAcceptAnswers
end
section
namespace Go.Proofs.YtciagecaegoppaaDoor.QAcceptAnswers
open Go.RowKit Go.Proofs.YtciagecaegoppaaDoorW.PrintWords Go.Proofs.YtciagecaegoppaaDoorW.PrintLast Go.Proofs.YtciagecaegoppaaDoorW.PrintMore
attribute [local go_sem] max2_int min2_int max_two min_two max_three min_three max_four min_four   -- for this text's walks alone
set_option linter.unusedVariables false
set_option linter.unusedSimpArgs false

def lamplighterref04_Good.l0 : Nat → List Int → Int → Option (Bool)
  | 0, _, _ => none
  | k + 1, x0, x3 => if x3 < (x0.length : Int) then (if 0 ≤ x3 then (if (rd x0 x3) = 11 then (some false) else (if (rd x0 x3) = 28 then (if (wrap64 (x3 + 1)) = (x0.length : Int) then (some false) else (if 0 ≤ (wrap64 (x3 + 1)) then (if (wrap64 (x3 + 1)) < (x0.length : Int) then (if (rd x0 (wrap64 (x3 + 1))) = 13 then (some false) else (lamplighterref04_Good.l0 k x0 (wrap64 (x3 + 1)))) else (none)) else (none))) else (lamplighterref04_Good.l0 k x0 (wrap64 (x3 + 1))))) else (none)) else (some true)
def lamplighterref04_Good.f (k : Nat) (l0 : List Int) : Option (Bool) := lamplighterref04_Good.l0 k l0 0
theorem lamplighterref04_Good.mono_l : ∀ k, (∀ y0 y1, LeO (lamplighterref04_Good.l0 k y0 y1) (lamplighterref04_Good.l0 (k + 1) y0 y1))
  | 0 => fun _ _ r h => by simp [lamplighterref04_Good.l0] at h
  | k + 1 => by
    have ih0 := lamplighterref04_Good.mono_l k
    · intro y0 y1
      unfold lamplighterref04_Good.l0
      repeat' first
      | (with_reducible exact ih0 _ _)
      | (with_reducible exact LeO.refl _)
      | (with_reducible exact LeO.none _)
      | (with_reducible refine LeO.ite ?_ ?_)
      | (with_reducible refine LeO.bind ?_ (fun _ => ?_))
      | exact ih0 _ _
      | exact LeO.none _
      | refine LeO.ite ?_ ?_
      | refine LeO.bind ?_ (fun _ => ?_)
theorem lamplighterref04_Good.mono : ∀ a0 k, LeO (lamplighterref04_Good.f k a0) (lamplighterref04_Good.f (k + 1) a0) := by
  intro a0 k
  have ih0 := lamplighterref04_Good.mono_l k
  unfold lamplighterref04_Good.f
  repeat' first
      | (with_reducible exact ih0 _ _)
      | (with_reducible exact LeO.refl _)
      | (with_reducible exact LeO.none _)
      | (with_reducible refine LeO.ite ?_ ?_)
      | (with_reducible refine LeO.bind ?_ (fun _ => ?_))
      | exact ih0 _ _
      | exact LeO.none _
      | refine LeO.ite ?_ ?_
      | refine LeO.bind ?_ (fun _ => ?_)
set_option maxHeartbeats 8000000 in
set_option maxRecDepth 100000 in
theorem lamplighterref04_Good.calls (k : Nat) (A0 : Option Addr) (c0 : Nat) (l0 : List Int) (r : Bool) (w : World) (hr0 : Kd.C (Kd.int .u8) w A0 l0.length l0) (hc0 : l0.length ≤ c0) (h : lamplighterref04_Good.f k l0 = some r) :
    Calls Tryd.prog 15 #[.slice A0 l0.length c0] w fun e w' => e = .returned (.bool r) ∧ Drawn0 w w' := by
  have HR0 := Aside0.mk hr0
  have HC0 := Aside0.mk hc0
  clear hr0 hc0
  have H : (lamplighterref04_Good.l0 k l0 0) = some r := h
  clear h
  have H' := Aside0.mk H
  clear H
  go_enter Tryd.func15, Tryd.ntmps15
  go_wp2
  go_loopg [3] k (fun kq v3 w' => ∃ (x3_1 : Int), v3 = .int .i64 x3_1 ∧ Aside0 (lamplighterref04_Good.l0 kq l0 x3_1 = some r) ∧ Aside0 (kq ≤ k) ∧ Drawn0 w w')
  case atStart => exact ⟨(0), (by first | rfl | (simp; done) | (simp [*]; done)), H', ⟨Nat.le_refl _⟩, by repeat (first | exact Drawn0.refl _ | apply Drawn0.step)⟩
  case round =>
    clear H'
    try clear c1
    obtain ⟨x3_1, rfl, HA, HK1, ⟨m1, rfl⟩⟩ := hrel
    cases gk with
    | zero => exact absurd HA.out (by simp [lamplighterref04_Good.l0])
    | succ k1 =>
      have H := HA.out
      clear HA
      simp only [lamplighterref04_Good.l0] at H
      by_cases c2 : x3_1 < (l0.length : Int)
      · rw [if_pos c2] at H
        have c2b0 : decide (x3_1 < (l0.length : Int)) = true := decide_eq_true c2
        clear c2
        by_cases c3 : 0 ≤ x3_1
        · rw [if_pos c3] at H
          have c3b0 : decide (0 ≤ x3_1) = true := decide_eq_true c3
          clear c3
          by_cases c4 : (rd l0 x3_1) = 11
          · rw [if_pos c4] at H
            have c4b0 : ((rd l0 x3_1) == 11) = true := beq_iff_eq.mpr c4
            have c4b1 : ((rd l0 x3_1) != 11) = false := bne_eq_false_iff_eq.mpr c4
            clear c4
            obtain rfl := Option.some.inj H
            have p101 : 0 ≤ (x3_1 : Int) := of_decide_eq_true (by first | (with_reducible assumption) | assumption)
            have q101 : x3_1 < (l0.length : Int) := of_decide_eq_true (by first | (with_reducible assumption) | assumption)
            obtain ⟨ad101, e101, hx101_0⟩ := Kd.at_int HR0.out x3_1 p101 q101
            cases e101
            replace p101 := eq_true p101
            replace q101 := eq_true q101
            go_wp2
            go_ret
            exact ⟨by first | rfl | (simp; done) | (simp [*]; done), by repeat (first | exact Drawn0.refl _ | apply Drawn0.step)⟩
          · rw [if_neg c4] at H
            have c4b0 : ((rd l0 x3_1) == 11) = false := beq_eq_false_iff_ne.mpr c4
            have c4b1 : ((rd l0 x3_1) != 11) = true := bne_iff_ne.mpr c4
            by_cases c5 : (rd l0 x3_1) = 28
            · rw [if_pos c5] at H
              have c5b0 : ((rd l0 x3_1) == 28) = true := beq_iff_eq.mpr c5
              have c5b1 : ((rd l0 x3_1) != 28) = false := bne_eq_false_iff_eq.mpr c5
              clear c5
              by_cases c6 : (wrap64 (x3_1 + 1)) = (l0.length : Int)
              · rw [if_pos c6] at H
                have c6b0 : ((wrap64 (x3_1 + 1)) == (l0.length : Int)) = true := beq_iff_eq.mpr c6
                have c6b1 : ((wrap64 (x3_1 + 1)) != (l0.length : Int)) = false := bne_eq_false_iff_eq.mpr c6
                clear c6
                obtain rfl := Option.some.inj H
                have p101 : 0 ≤ (x3_1 : Int) := of_decide_eq_true (by first | (with_reducible assumption) | assumption)
                have q101 : x3_1 < (l0.length : Int) := of_decide_eq_true (by first | (with_reducible assumption) | assumption)
                obtain ⟨ad101, e101, hx101_0⟩ := Kd.at_int HR0.out x3_1 p101 q101
                cases e101
                replace p101 := eq_true p101
                replace q101 := eq_true q101
                have p102 : 0 ≤ (x3_1 : Int) := of_decide_eq_true (by first | (with_reducible assumption) | assumption)
                have q102 : x3_1 < (l0.length : Int) := of_decide_eq_true (by first | (with_reducible assumption) | assumption)
                obtain ⟨ad102, e102, hx102_0⟩ := Kd.at_int HR0.out x3_1 p102 q102
                obtain rfl : ad101 = ad102 := (by injection e102)
                replace p102 := eq_true p102
                replace q102 := eq_true q102
                go_wp2
                go_ret
                exact ⟨by first | rfl | (simp; done) | (simp [*]; done), by repeat (first | exact Drawn0.refl _ | apply Drawn0.step)⟩
              · rw [if_neg c6] at H
                have c6b0 : ((wrap64 (x3_1 + 1)) == (l0.length : Int)) = false := beq_eq_false_iff_ne.mpr c6
                have c6b1 : ((wrap64 (x3_1 + 1)) != (l0.length : Int)) = true := bne_iff_ne.mpr c6
                obtain ⟨ji7, hji7⟩ : ∃ j_ : Int, (wrap64 (x3_1 + 1)) = j_ := ⟨_, rfl⟩
                replace H : (if 0 ≤ (ji7) then (if (ji7) < (l0.length : Int) then (if (rd l0 (ji7)) = 13 then (some false) else (lamplighterref04_Good.l0 k1 l0 ji7)) else (none)) else (none)) = some r := by first | (rw [hji7] at H; exact H) | (simp only [hji7] at H ⊢; exact H)
                (try rw [hji7] at c6b0)
                (try rw [hji7] at c6b1)
                have hji7w : (IntKind.i64.wrap (x3_1 + 1)) = ji7 := (i64_w _).trans hji7
                by_cases c8 : 0 ≤ (ji7)
                · rw [if_pos c8] at H
                  have c8b0 : decide (0 ≤ (ji7)) = true := decide_eq_true c8
                  clear c8
                  by_cases c9 : (ji7) < (l0.length : Int)
                  · rw [if_pos c9] at H
                    have c9b0 : decide ((ji7) < (l0.length : Int)) = true := decide_eq_true c9
                    clear c9
                    by_cases c10 : (rd l0 (ji7)) = 13
                    · rw [if_pos c10] at H
                      have c10b0 : ((rd l0 (ji7)) == 13) = true := beq_iff_eq.mpr c10
                      have c10b1 : ((rd l0 (ji7)) != 13) = false := bne_eq_false_iff_eq.mpr c10
                      clear c10
                      obtain rfl := Option.some.inj H
                      have p101 : 0 ≤ (x3_1 : Int) := of_decide_eq_true (by first | (with_reducible assumption) | assumption)
                      have q101 : x3_1 < (l0.length : Int) := of_decide_eq_true (by first | (with_reducible assumption) | assumption)
                      obtain ⟨ad101, e101, hx101_0⟩ := Kd.at_int HR0.out x3_1 p101 q101
                      cases e101
                      replace p101 := eq_true p101
                      replace q101 := eq_true q101
                      have p102 : 0 ≤ (x3_1 : Int) := of_decide_eq_true (by first | (with_reducible assumption) | assumption)
                      have q102 : x3_1 < (l0.length : Int) := of_decide_eq_true (by first | (with_reducible assumption) | assumption)
                      obtain ⟨ad102, e102, hx102_0⟩ := Kd.at_int HR0.out x3_1 p102 q102
                      obtain rfl : ad101 = ad102 := (by injection e102)
                      replace p102 := eq_true p102
                      replace q102 := eq_true q102
                      have p103 : 0 ≤ ((ji7) : Int) := of_decide_eq_true (by first | (with_reducible assumption) | assumption)
                      have q103 : (ji7) < (l0.length : Int) := of_decide_eq_true (by first | (with_reducible assumption) | assumption)
                      obtain ⟨ad103, e103, hx103_0⟩ := Kd.at_int HR0.out (ji7) p103 q103
                      obtain rfl : ad101 = ad103 := (by injection e103)
                      replace p103 := eq_true p103
                      replace q103 := eq_true q103
                      go_wp2
                      go_ret
                      exact ⟨by first | rfl | (simp; done) | (simp only [← hji7] <;> (first | rfl | simp)) | (simp [*]; done), by repeat (first | exact Drawn0.refl _ | apply Drawn0.step)⟩
                    · rw [if_neg c10] at H
                      have c10b0 : ((rd l0 (ji7)) == 13) = false := beq_eq_false_iff_ne.mpr c10
                      have c10b1 : ((rd l0 (ji7)) != 13) = true := bne_iff_ne.mpr c10
                      have H' := Aside0.mk H
                      clear H
                      have p101 : 0 ≤ (x3_1 : Int) := of_decide_eq_true (by first | (with_reducible assumption) | assumption)
                      have q101 : x3_1 < (l0.length : Int) := of_decide_eq_true (by first | (with_reducible assumption) | assumption)
                      obtain ⟨ad101, e101, hx101_0⟩ := Kd.at_int HR0.out x3_1 p101 q101
                      cases e101
                      replace p101 := eq_true p101
                      replace q101 := eq_true q101
                      have p102 : 0 ≤ (x3_1 : Int) := of_decide_eq_true (by first | (with_reducible assumption) | assumption)
                      have q102 : x3_1 < (l0.length : Int) := of_decide_eq_true (by first | (with_reducible assumption) | assumption)
                      obtain ⟨ad102, e102, hx102_0⟩ := Kd.at_int HR0.out x3_1 p102 q102
                      obtain rfl : ad101 = ad102 := (by injection e102)
                      replace p102 := eq_true p102
                      replace q102 := eq_true q102
                      have p103 : 0 ≤ ((ji7) : Int) := of_decide_eq_true (by first | (with_reducible assumption) | assumption)
                      have q103 : (ji7) < (l0.length : Int) := of_decide_eq_true (by first | (with_reducible assumption) | assumption)
                      obtain ⟨ad103, e103, hx103_0⟩ := Kd.at_int HR0.out (ji7) p103 q103
                      obtain rfl : ad101 = ad103 := (by injection e103)
                      replace p103 := eq_true p103
                      replace q103 := eq_true q103
                      go_wp2
                      go_roundg k1
                      case measure => have := HK1.out; omega
                      case rel => exact ⟨(ji7), (by first | rfl | (simp; done) | (simp only [← hji7] <;> (first | rfl | simp)) | (simp [*]; done)), H', ⟨by have := HK1.out; omega⟩, by repeat (first | exact Drawn0.refl _ | apply Drawn0.step)⟩
                  · rw [if_neg c9] at H
                    exact absurd H (by simp)
                · rw [if_neg c8] at H
                  exact absurd H (by simp)
            · rw [if_neg c5] at H
              have c5b0 : ((rd l0 x3_1) == 28) = false := beq_eq_false_iff_ne.mpr c5
              have c5b1 : ((rd l0 x3_1) != 28) = true := bne_iff_ne.mpr c5
              have H' := Aside0.mk H
              clear H
              have p101 : 0 ≤ (x3_1 : Int) := of_decide_eq_true (by first | (with_reducible assumption) | assumption)
              have q101 : x3_1 < (l0.length : Int) := of_decide_eq_true (by first | (with_reducible assumption) | assumption)
              obtain ⟨ad101, e101, hx101_0⟩ := Kd.at_int HR0.out x3_1 p101 q101
              cases e101
              replace p101 := eq_true p101
              replace q101 := eq_true q101
              have p102 : 0 ≤ (x3_1 : Int) := of_decide_eq_true (by first | (with_reducible assumption) | assumption)
              have q102 : x3_1 < (l0.length : Int) := of_decide_eq_true (by first | (with_reducible assumption) | assumption)
              obtain ⟨ad102, e102, hx102_0⟩ := Kd.at_int HR0.out x3_1 p102 q102
              obtain rfl : ad101 = ad102 := (by injection e102)
              replace p102 := eq_true p102
              replace q102 := eq_true q102
              go_wp2
              go_roundg k1
              case measure => have := HK1.out; omega
              case rel => exact ⟨(wrap64 (x3_1 + 1)), (by first | rfl | (simp; done) | (simp [*]; done)), H', ⟨by have := HK1.out; omega⟩, by repeat (first | exact Drawn0.refl _ | apply Drawn0.step)⟩
        · rw [if_neg c3] at H
          exact absurd H (by simp)
      · rw [if_neg c2] at H
        have c2b0 : decide (x3_1 < (l0.length : Int)) = false := decide_eq_false c2
        clear c2
        obtain rfl := Option.some.inj H
        go_wp2
        go_ret
        exact ⟨by first | rfl | (simp; done) | (simp [*]; done), by repeat (first | exact Drawn0.refl _ | apply Drawn0.step)⟩

end Go.Proofs.YtciagecaegoppaaDoor.QAcceptAnswers
end
