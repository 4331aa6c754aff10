/- A part of what the law AcceptAnswers rests on: QAcceptAnswersx2, Parse, WriteP, HeadsP, WriteQ. Conditions: each theorem's own. -/
import Derived.Test.YtciagecaegoppaaDoorKAcceptAnswers4
section
namespace Go.Proofs.YtciagecaegoppaaDoor.QAcceptAnswers
open Go.RowKit Go.Proofs.YtciagecaegoppaaDoorW.PrintWords Go.Proofs.YtciagecaegoppaaDoorW.PrintLast Go.Proofs.YtciagecaegoppaaDoorW.PrintMore
attribute [local go_sem] max2_int min2_int max_two min_two max_three min_three max_four min_four   -- for this text's walks alone
set_option linter.unusedVariables false
set_option linter.unusedSimpArgs false

def lamplighterlaw11_AcceptAnswers.j0 : Nat → List Int → ByteArray → Int → Bool → ByteArray → ByteArray → Option (Bool)
  | 0, _, _, _, _, _, _ => none
  | k + 1, x0, x6, x7, x80, x137000, x137001 => if x80 = true then (some false) else ((law_alive.f).bind fun t138 => (if t138 = true then ((QStored.accept_Stored.f x0).bind fun t139 => (if (t139 == (x7 == 0)) = true then (if x6.toList = x137000.toList then (some true) else (if x6.toList = ([65, 65] : List UInt8) then (some (x137000.toList == ([65, 69] : List UInt8))) else (some false))) else (some false))) else (some false)))
def lamplighterlaw11_AcceptAnswers.f (k : Nat) (l0 : List Int) (a1 : Bool) : Option (Bool) := if (l0.length : Int) > 3000 then ((law_alive.f).bind fun t104 => (some t104)) else ((accept_Verdict.f l0).bind fun bt105 => ((QReply.accept_Reply.f k l0 a1).bind fun bt123 => (if bt123.2 = true then ((frameA_Unwrap.f bt123.1).bind fun bt129 => ((QRead.ack_Read.f k bt129.1).bind fun bt133 => (if bt129.2 = 0 then (if bt133.2.2 = 0 then (if bt133.2.1.toList = bt105.2.2.2.2.2.2.2.2.2.2.2.2.1.toList then (if a1 = true then ((QStored.accept_Stored.f l0).bind fun t137 => (lamplighterlaw11_AcceptAnswers.j0 k l0 bt105.2.2.2.2.2.2.2.2.2.2.2.2.2.2.2.1 bt105.2.2.2.2.2.2.2.2.2.2.2.2.2.2.2.2 ((bt133.1.toList == ([65, 65] : List UInt8)) != t137) bt133.1 bt133.2.1)) else (lamplighterlaw11_AcceptAnswers.j0 k l0 bt105.2.2.2.2.2.2.2.2.2.2.2.2.2.2.2.1 bt105.2.2.2.2.2.2.2.2.2.2.2.2.2.2.2.2 ((bt133.1.toList == ([65, 65] : List UInt8)) != false) bt133.1 bt133.2.1)) else (lamplighterlaw11_AcceptAnswers.j0 k l0 bt105.2.2.2.2.2.2.2.2.2.2.2.2.2.2.2.1 bt105.2.2.2.2.2.2.2.2.2.2.2.2.2.2.2.2 true bt133.1 bt133.2.1)) else (lamplighterlaw11_AcceptAnswers.j0 k l0 bt105.2.2.2.2.2.2.2.2.2.2.2.2.2.2.2.1 bt105.2.2.2.2.2.2.2.2.2.2.2.2.2.2.2.2 true bt133.1 bt133.2.1)) else (lamplighterlaw11_AcceptAnswers.j0 k l0 bt105.2.2.2.2.2.2.2.2.2.2.2.2.2.2.2.1 bt105.2.2.2.2.2.2.2.2.2.2.2.2.2.2.2.2 true bt133.1 bt133.2.1)))) else ((law_alive.f).bind fun t127 => (if t127 = true then (if (bt123.1.length : Int) = 0 then (if bt105.2.2.2.2.2.2.2.2.2.2.2.2.2.2.2.1.toList = ([] : List UInt8) then (some true) else ((lamplighterref04_Good.f k l0).bind fun t128 => (some (!t128)))) else (some false)) else (some false))))))
theorem lamplighterlaw11_AcceptAnswers.mono_l : ∀ k, (∀ y0 y1 y2 y3 y4 y5, LeO (lamplighterlaw11_AcceptAnswers.j0 k y0 y1 y2 y3 y4 y5) (lamplighterlaw11_AcceptAnswers.j0 (k + 1) y0 y1 y2 y3 y4 y5))
  | 0 => fun _ _ _ _ _ _ r h => by simp [lamplighterlaw11_AcceptAnswers.j0] at h
  | k + 1 => by
    have ih0 := lamplighterlaw11_AcceptAnswers.mono_l k
    · intro y0 y1 y2 y3 y4 y5
      unfold lamplighterlaw11_AcceptAnswers.j0
      repeat' first
      | (with_reducible exact ih0 _ _ _ _ _ _)
      | (with_reducible exact QRead.ack_Read.mono _ _)
      | (with_reducible exact QReply.accept_Reply.mono _ _ _)
      | (with_reducible exact lamplighterref04_Good.mono _ _)
      | (with_reducible exact LeO.refl _)
      | (with_reducible exact LeO.none _)
      | (with_reducible refine LeO.ite ?_ ?_)
      | (with_reducible refine LeO.bind ?_ (fun _ => ?_))
      | exact ih0 _ _ _ _ _ _
      | exact QRead.ack_Read.mono _ _
      | exact QReply.accept_Reply.mono _ _ _
      | exact lamplighterref04_Good.mono _ _
      | exact LeO.none _
      | refine LeO.ite ?_ ?_
      | refine LeO.bind ?_ (fun _ => ?_)
theorem lamplighterlaw11_AcceptAnswers.mono : ∀ a0 a1 k, LeO (lamplighterlaw11_AcceptAnswers.f k a0 a1) (lamplighterlaw11_AcceptAnswers.f (k + 1) a0 a1) := by
  intro a0 a1 k
  have ih0 := lamplighterlaw11_AcceptAnswers.mono_l k
  unfold lamplighterlaw11_AcceptAnswers.f
  repeat' first
      | (with_reducible exact ih0 _ _ _ _ _ _)
      | (with_reducible exact QRead.ack_Read.mono _ _)
      | (with_reducible exact QReply.accept_Reply.mono _ _ _)
      | (with_reducible exact lamplighterref04_Good.mono _ _)
      | (with_reducible exact LeO.refl _)
      | (with_reducible exact LeO.none _)
      | (with_reducible refine LeO.ite ?_ ?_)
      | (with_reducible refine LeO.bind ?_ (fun _ => ?_))
      | exact ih0 _ _ _ _ _ _
      | exact QRead.ack_Read.mono _ _
      | exact QReply.accept_Reply.mono _ _ _
      | exact lamplighterref04_Good.mono _ _
      | exact LeO.none _
      | refine LeO.ite ?_ ?_
      | refine LeO.bind ?_ (fun _ => ?_)
def lamplighterlaw11_AcceptAnswers.T9 : Bool × List (List Nat × List Nat) := (true, [([], []), ([0], [0]), ([1], [1]), ([2], [2]), ([3, 2], [2, 3]), ([2, 4], [2, 4]), ([5, 2], [5]), ([6], [6]), ([7, 6], [6, 7]), ([6], [6]), ([9, 6], [6, 9]), ([8, 10, 6], [6, 8, 10]), ([6, 11], [6, 11]), ([12, 6], [12]), ([13], [13]), ([14, 13], [13, 14]), ([15, 13], [13, 15]), ([13], [13]), ([17, 13, 13], [13, 17]), ([18], [18]), ([19, 18, 18], [18, 19]), ([18, 20, 13], [13, 18, 20]), ([16, 21, 13], [13, 16, 21]), ([13, 22], [13, 22])])
def lamplighterlaw11_AcceptAnswers.B9 : List Nat := [0, 1, 3, 7, 15, 31, 63, 127, 255, 127, 639, 2047, 4095, 8191, 16383, 32767, 65535, 16383, 147455, 409599, 933887, 1982463, 4194303, 8388607]
theorem lamplighterlaw11_AcceptAnswers.tab9 : rtab .any (opsOf Tryd.f7 9) = lamplighterlaw11_AcceptAnswers.T9 := by kernel_rfl
theorem lamplighterlaw11_AcceptAnswers.bits9 : waitsOk lamplighterlaw11_AcceptAnswers.T9.2 lamplighterlaw11_AcceptAnswers.B9 = true := by kernel_rfl
set_option maxHeartbeats 8000000 in
set_option maxRecDepth 100000 in
theorem lamplighterlaw11_AcceptAnswers.calls (k : Nat) (A0 : Option Addr) (c0 : Nat) (l0 : List Int) (a1 : Bool) (r : Bool) (w : World) (hG : GlobA w) (hr0 : Kd.C (Kd.int .u8) w A0 l0.length l0) (hc0 : l0.length ≤ c0) (h : lamplighterlaw11_AcceptAnswers.f k l0 a1 = some r) :
    Calls Tryd.prog 7 #[.slice A0 l0.length c0, .bool a1] w fun e w' => e = .returned (.bool r) ∧ Below w.heap.size w w' := by
  have hu25 := Tryd.underlying25
  have hu47 := Tryd.underlying47
  have HR0 := Aside0.mk hr0
  have HC0 := Aside0.mk hc0
  clear hr0 hc0
  have HG := Aside0.mk hG
  clear hG
  have HB := Aside0.mk (Below.refl w.heap.size w)
  have H : (if (l0.length : Int) > 3000 then ((law_alive.f).bind fun t104 => (some t104)) else ((accept_Verdict.f l0).bind fun bt105 => ((QReply.accept_Reply.f k l0 a1).bind fun bt123 => (if bt123.2 = true then ((frameA_Unwrap.f bt123.1).bind fun bt129 => ((QRead.ack_Read.f k bt129.1).bind fun bt133 => (if bt129.2 = 0 then (if bt133.2.2 = 0 then (if bt133.2.1.toList = bt105.2.2.2.2.2.2.2.2.2.2.2.2.1.toList then (if a1 = true then ((QStored.accept_Stored.f l0).bind fun t137 => (lamplighterlaw11_AcceptAnswers.j0 k l0 bt105.2.2.2.2.2.2.2.2.2.2.2.2.2.2.2.1 bt105.2.2.2.2.2.2.2.2.2.2.2.2.2.2.2.2 ((bt133.1.toList == ([65, 65] : List UInt8)) != t137) bt133.1 bt133.2.1)) else (lamplighterlaw11_AcceptAnswers.j0 k l0 bt105.2.2.2.2.2.2.2.2.2.2.2.2.2.2.2.1 bt105.2.2.2.2.2.2.2.2.2.2.2.2.2.2.2.2 ((bt133.1.toList == ([65, 65] : List UInt8)) != false) bt133.1 bt133.2.1)) else (lamplighterlaw11_AcceptAnswers.j0 k l0 bt105.2.2.2.2.2.2.2.2.2.2.2.2.2.2.2.1 bt105.2.2.2.2.2.2.2.2.2.2.2.2.2.2.2.2 true bt133.1 bt133.2.1)) else (lamplighterlaw11_AcceptAnswers.j0 k l0 bt105.2.2.2.2.2.2.2.2.2.2.2.2.2.2.2.1 bt105.2.2.2.2.2.2.2.2.2.2.2.2.2.2.2.2 true bt133.1 bt133.2.1)) else (lamplighterlaw11_AcceptAnswers.j0 k l0 bt105.2.2.2.2.2.2.2.2.2.2.2.2.2.2.2.1 bt105.2.2.2.2.2.2.2.2.2.2.2.2.2.2.2.2 true bt133.1 bt133.2.1)))) else ((law_alive.f).bind fun t127 => (if t127 = true then (if (bt123.1.length : Int) = 0 then (if bt105.2.2.2.2.2.2.2.2.2.2.2.2.2.2.2.1.toList = ([] : List UInt8) then (some true) else ((lamplighterref04_Good.f k l0).bind fun t128 => (some (!t128)))) else (some false)) else (some false))))))) = some r := h
  clear h
  by_cases c3 : (l0.length : Int) > 3000
  · rw [if_pos c3] at H
    have c3b0 : decide (3000 < (l0.length : Int)) = true := decide_eq_true c3
    have c3b1 : decide (3000 < l0.length) = true := decide_eq_true (by omega)
    clear c3
    replace H := Option.bind_eq_some_iff.mp H
    obtain ⟨t104, A40, H⟩ := H
    replace H : (some t104) = some r := H
    have A4 := Aside0.mk A40
    clear A40
    obtain rfl := Option.some.inj H
    go_enter Tryd.func7, Tryd.ntmps7
    go_wp2_with (first | ((with_reducible refine gate_callee (f := 9) rfl ?_); refine goesL_ (some 17) rfl rfl Tryd.func9 (by kernel_rfl) rfl #[] rfl (by (try simp only [List.map_toArray, List.map_cons, List.map_nil]); first | done | rfl | (simp only [List.length_drop, List.length_take]; rfl)) ?_; (with_reducible refine (law_alive.calls  t104 _ ?side1 A4.out).mono ?_); (case side1 => exact GlobA.below HG.out (by repeat (first | (with_reducible first | exact HB.out | apply below_alloc | apply pw_below_drewN | apply below_drew1) | exact HB.out))); rintro e w5 ⟨rfl, hb⟩; refine ⟨_, rfl, ?_⟩; have n0_ := Aside0.mk (below_step (by repeat (first | (with_reducible first | exact HB.out | apply below_alloc | apply pw_below_drewN | apply below_drew1) | exact HB.out)) hb); clear HB; have HB := n0_; clear n0_; (try clear hb); (try clear hb2); (try clear hk); (try clear hi)))
    go_ret
    exact ⟨by first | rfl | (simp [errW_none, errW_some] <;> rfl) | (simp [*, errW_none, errW_some] <;> rfl), by repeat (first | (with_reducible first | exact HB.out | apply below_alloc | apply pw_below_drewN | apply below_drew1) | exact HB.out)⟩
  · rw [if_neg c3] at H
    have c3b0 : decide (3000 < (l0.length : Int)) = false := decide_eq_false c3
    have c3b1 : decide (3000 < l0.length) = false := decide_eq_false (by omega)
    clear c3
    replace H := Option.bind_eq_some_iff.mp H
    obtain ⟨⟨t105, t106, t107, t108, t109, t110, t111, t112, t113, t114, t115, t116, t117, t118, t119, t120, t121⟩, A60, H⟩ := H
    replace H : ((QReply.accept_Reply.f k l0 a1).bind fun bt123 => (if bt123.2 = true then ((frameA_Unwrap.f bt123.1).bind fun bt129 => ((QRead.ack_Read.f k bt129.1).bind fun bt133 => (if bt129.2 = 0 then (if bt133.2.2 = 0 then (if bt133.2.1.toList = t117.toList then (if a1 = true then ((QStored.accept_Stored.f l0).bind fun t137 => (lamplighterlaw11_AcceptAnswers.j0 k l0 t120 t121 ((bt133.1.toList == ([65, 65] : List UInt8)) != t137) bt133.1 bt133.2.1)) else (lamplighterlaw11_AcceptAnswers.j0 k l0 t120 t121 ((bt133.1.toList == ([65, 65] : List UInt8)) != false) bt133.1 bt133.2.1)) else (lamplighterlaw11_AcceptAnswers.j0 k l0 t120 t121 true bt133.1 bt133.2.1)) else (lamplighterlaw11_AcceptAnswers.j0 k l0 t120 t121 true bt133.1 bt133.2.1)) else (lamplighterlaw11_AcceptAnswers.j0 k l0 t120 t121 true bt133.1 bt133.2.1)))) else ((law_alive.f).bind fun t127 => (if t127 = true then (if (bt123.1.length : Int) = 0 then (if t120.toList = ([] : List UInt8) then (some true) else ((lamplighterref04_Good.f k l0).bind fun t128 => (some (!t128)))) else (some false)) else (some false))))) = some r := H
    have A6 := Aside0.mk A60
    clear A60
    replace H := Option.bind_eq_some_iff.mp H
    obtain ⟨⟨t123, t124⟩, A70, H⟩ := H
    replace H : (if t124 = true then ((frameA_Unwrap.f t123).bind fun bt129 => ((QRead.ack_Read.f k bt129.1).bind fun bt133 => (if bt129.2 = 0 then (if bt133.2.2 = 0 then (if bt133.2.1.toList = t117.toList then (if a1 = true then ((QStored.accept_Stored.f l0).bind fun t137 => (lamplighterlaw11_AcceptAnswers.j0 k l0 t120 t121 ((bt133.1.toList == ([65, 65] : List UInt8)) != t137) bt133.1 bt133.2.1)) else (lamplighterlaw11_AcceptAnswers.j0 k l0 t120 t121 ((bt133.1.toList == ([65, 65] : List UInt8)) != false) bt133.1 bt133.2.1)) else (lamplighterlaw11_AcceptAnswers.j0 k l0 t120 t121 true bt133.1 bt133.2.1)) else (lamplighterlaw11_AcceptAnswers.j0 k l0 t120 t121 true bt133.1 bt133.2.1)) else (lamplighterlaw11_AcceptAnswers.j0 k l0 t120 t121 true bt133.1 bt133.2.1)))) else ((law_alive.f).bind fun t127 => (if t127 = true then (if (t123.length : Int) = 0 then (if t120.toList = ([] : List UInt8) then (some true) else ((lamplighterref04_Good.f k l0).bind fun t128 => (some (!t128)))) else (some false)) else (some false)))) = some r := H
    have A7 := Aside0.mk A70
    clear A70
    by_cases c8 : t124 = true
    · subst c8
      have H1 : ((frameA_Unwrap.f t123).bind fun bt129 => ((QRead.ack_Read.f k bt129.1).bind fun bt133 => (if bt129.2 = 0 then (if bt133.2.2 = 0 then (if bt133.2.1.toList = t117.toList then (if a1 = true then ((QStored.accept_Stored.f l0).bind fun t137 => (lamplighterlaw11_AcceptAnswers.j0 k l0 t120 t121 ((bt133.1.toList == ([65, 65] : List UInt8)) != t137) bt133.1 bt133.2.1)) else (lamplighterlaw11_AcceptAnswers.j0 k l0 t120 t121 ((bt133.1.toList == ([65, 65] : List UInt8)) != false) bt133.1 bt133.2.1)) else (lamplighterlaw11_AcceptAnswers.j0 k l0 t120 t121 true bt133.1 bt133.2.1)) else (lamplighterlaw11_AcceptAnswers.j0 k l0 t120 t121 true bt133.1 bt133.2.1)) else (lamplighterlaw11_AcceptAnswers.j0 k l0 t120 t121 true bt133.1 bt133.2.1)))) = some r := by rw [if_pos rfl] at H; exact H
      clear H
      have H := H1
      clear H1
      replace H := Option.bind_eq_some_iff.mp H
      obtain ⟨⟨t129, t130⟩, A90, H⟩ := H
      replace H : ((QRead.ack_Read.f k t129).bind fun bt133 => (if t130 = 0 then (if bt133.2.2 = 0 then (if bt133.2.1.toList = t117.toList then (if a1 = true then ((QStored.accept_Stored.f l0).bind fun t137 => (lamplighterlaw11_AcceptAnswers.j0 k l0 t120 t121 ((bt133.1.toList == ([65, 65] : List UInt8)) != t137) bt133.1 bt133.2.1)) else (lamplighterlaw11_AcceptAnswers.j0 k l0 t120 t121 ((bt133.1.toList == ([65, 65] : List UInt8)) != false) bt133.1 bt133.2.1)) else (lamplighterlaw11_AcceptAnswers.j0 k l0 t120 t121 true bt133.1 bt133.2.1)) else (lamplighterlaw11_AcceptAnswers.j0 k l0 t120 t121 true bt133.1 bt133.2.1)) else (lamplighterlaw11_AcceptAnswers.j0 k l0 t120 t121 true bt133.1 bt133.2.1))) = some r := H
      have A9 := Aside0.mk A90
      clear A90
      replace H := Option.bind_eq_some_iff.mp H
      obtain ⟨⟨t133, t134, t135⟩, A100, H⟩ := H
      replace H : (if t130 = 0 then (if t135 = 0 then (if t134.toList = t117.toList then (if a1 = true then ((QStored.accept_Stored.f l0).bind fun t137 => (lamplighterlaw11_AcceptAnswers.j0 k l0 t120 t121 ((t133.toList == ([65, 65] : List UInt8)) != t137) t133 t134)) else (lamplighterlaw11_AcceptAnswers.j0 k l0 t120 t121 ((t133.toList == ([65, 65] : List UInt8)) != false) t133 t134)) else (lamplighterlaw11_AcceptAnswers.j0 k l0 t120 t121 true t133 t134)) else (lamplighterlaw11_AcceptAnswers.j0 k l0 t120 t121 true t133 t134)) else (lamplighterlaw11_AcceptAnswers.j0 k l0 t120 t121 true t133 t134)) = some r := H
      have A10 := Aside0.mk A100
      clear A100
      have HC11 := Aside0.mk H
      clear H
      go_enter Tryd.func7, Tryd.ntmps7
      go_upto_region 9 with (first | ((with_reducible refine gate_callee (f := 10) rfl ?_); refine goesL_ (some 20) rfl rfl Tryd.func10 (by kernel_rfl) rfl #[.slice A0 l0.length c0] rfl (by (try simp only [List.map_toArray, List.map_cons, List.map_nil]); first | done | rfl | (simp only [List.length_drop, List.length_take]; rfl)) ?_; (with_reducible refine (accept_Verdict.calls _ _ l0 t105 t106 t107 t108 t109 t110 t111 t112 t113 t114 t115 t116 t117 t118 t119 t120 t121 _ ?side3 ?side1 ?side2 A6.out).mono ?_); (case side1 => repeat (first | exact HR0.out | (with_reducible refine Kd.C_alloc ?_ _) | (with_reducible refine Kd.C_drewN ?_ _) | (with_reducible refine Kd.C_drew ?_))); (case side2 => exact HC0.out); (case side3 => exact GlobA.below HG.out (by repeat (first | (with_reducible first | exact HB.out | apply below_alloc | apply pw_below_drewN | apply below_drew1) | exact HB.out))); rintro e w12 ⟨rfl, hb⟩; refine ⟨_, rfl, ?_⟩; have n0_ := Aside0.mk (below_step (by repeat (first | (with_reducible first | exact HB.out | apply below_alloc | apply pw_below_drewN | apply below_drew1) | exact HB.out)) hb); clear HB; have HB := n0_; clear n0_; (try clear hb); (try clear hb2); (try clear hk); (try clear hi)) | ((with_reducible refine gate_dst (N := 5) rfl ?_); (try (refine gate_guard (by rfl) ?_; dsimp only)); refine box_event ?hg (N := 5) ?hd (cs := #[.int .u8 0, .int .u8 0, .int .u8 0, .int .u8 0, .int .u8 0, .string (⟨#[]⟩ : ByteArray), .string (⟨#[]⟩ : ByteArray), .string (⟨#[]⟩ : ByteArray), .string (⟨#[]⟩ : ByteArray), .string (⟨#[]⟩ : ByteArray), .string (⟨#[]⟩ : ByteArray), .string (⟨#[]⟩ : ByteArray), .string (⟨#[]⟩ : ByteArray), .string (⟨#[]⟩ : ByteArray), .string (⟨#[]⟩ : ByteArray)]) (t := 25) ?hr ?_; (case hd => rfl); (case hg => rfl); (case hr => first | (go_simp; done) | (go_simp; rfl)); intro gb122 hg w13 hbox hb; have n0_ := Aside0.mk (below_step (by repeat (first | (with_reducible first | exact HB.out | apply below_alloc | apply pw_below_drewN | apply below_drew1) | exact HB.out)) hb); have n1_ := Aside0.mk (hbox); have n2_ := Aside0.mk ((by rw [hg]; exact (below_size (by repeat (first | (with_reducible first | exact HB.out | apply below_alloc | apply pw_below_drewN | apply below_drew1) | exact HB.out))) : w.heap.size ≤ gb122)); have n3_ := Aside0.mk ((by rw [hg]; exact (below_size (by repeat (first | (with_reducible first | exact HB.out | apply below_alloc | apply pw_below_drewN | apply below_drew1) | exact HB.out))) : w.heap.size ≤ gb122)); clear HB; have HB := n0_; have BK122 := n1_; have GW122 := n2_; have GE122 := n3_; clear n0_ n1_ n2_ n3_; clear hb hbox hg; have hcz14_0 : w13.cell? ⟨gb122, 0, none⟩ = some (.int .u8 0) := (blk_cell BK122.out 0).trans rfl; have hcz14_1 : w13.cell? ⟨gb122, 1, none⟩ = some (.int .u8 0) := (blk_cell BK122.out 1).trans rfl; have hcz14_2 : w13.cell? ⟨gb122, 2, none⟩ = some (.int .u8 0) := (blk_cell BK122.out 2).trans rfl; have hcz14_3 : w13.cell? ⟨gb122, 3, none⟩ = some (.int .u8 0) := (blk_cell BK122.out 3).trans rfl; have hcz14_4 : w13.cell? ⟨gb122, 4, none⟩ = some (.int .u8 0) := (blk_cell BK122.out 4).trans rfl; have hcz14_5 : w13.cell? ⟨gb122, 5, none⟩ = some (.string (⟨#[]⟩ : ByteArray)) := (blk_cell BK122.out 5).trans rfl; have hcz14_6 : w13.cell? ⟨gb122, 6, none⟩ = some (.string (⟨#[]⟩ : ByteArray)) := (blk_cell BK122.out 6).trans rfl; have hcz14_7 : w13.cell? ⟨gb122, 7, none⟩ = some (.string (⟨#[]⟩ : ByteArray)) := (blk_cell BK122.out 7).trans rfl; have hcz14_8 : w13.cell? ⟨gb122, 8, none⟩ = some (.string (⟨#[]⟩ : ByteArray)) := (blk_cell BK122.out 8).trans rfl; have hcz14_9 : w13.cell? ⟨gb122, 9, none⟩ = some (.string (⟨#[]⟩ : ByteArray)) := (blk_cell BK122.out 9).trans rfl; have hcz14_10 : w13.cell? ⟨gb122, 10, none⟩ = some (.string (⟨#[]⟩ : ByteArray)) := (blk_cell BK122.out 10).trans rfl; have hcz14_11 : w13.cell? ⟨gb122, 11, none⟩ = some (.string (⟨#[]⟩ : ByteArray)) := (blk_cell BK122.out 11).trans rfl; have hcz14_12 : w13.cell? ⟨gb122, 12, none⟩ = some (.string (⟨#[]⟩ : ByteArray)) := (blk_cell BK122.out 12).trans rfl; have hcz14_13 : w13.cell? ⟨gb122, 13, none⟩ = some (.string (⟨#[]⟩ : ByteArray)) := (blk_cell BK122.out 13).trans rfl; have hcz14_14 : w13.cell? ⟨gb122, 14, none⟩ = some (.string (⟨#[]⟩ : ByteArray)) := (blk_cell BK122.out 14).trans rfl; have hfz14_0 := blk_frozen BK122.out 0; have hfz14_1 := blk_frozen BK122.out 1; have hfz14_2 := blk_frozen BK122.out 2; have hfz14_3 := blk_frozen BK122.out 3; have hfz14_4 := blk_frozen BK122.out 4; have hfz14_5 := blk_frozen BK122.out 5; have hfz14_6 := blk_frozen BK122.out 6; have hfz14_7 := blk_frozen BK122.out 7; have hfz14_8 := blk_frozen BK122.out 8; have hfz14_9 := blk_frozen BK122.out 9; have hfz14_10 := blk_frozen BK122.out 10; have hfz14_11 := blk_frozen BK122.out 11; have hfz14_12 := blk_frozen BK122.out 12; have hfz14_13 := blk_frozen BK122.out 13; have hfz14_14 := blk_frozen BK122.out 14) | ((with_reducible refine gate_callee (f := 12) rfl ?_); refine goesL_ (some 27) rfl rfl Tryd.func12 (by kernel_rfl) rfl #[.slice A0 l0.length c0, .bool a1] rfl (by (try simp only [List.map_toArray, List.map_cons, List.map_nil]); first | done | rfl | (simp only [List.length_drop, List.length_take]; rfl)) ?_; (with_reducible refine (QReply.accept_Reply.calls k _ _ l0 a1 t123 true _ ?side3 ?side1 ?side2 A7.out).mono ?_); (case side1 => exact Kd.C_below HR0.out (by repeat (first | (with_reducible first | exact HB.out | apply below_alloc | apply pw_below_drewN | apply below_drew1 | refine below_set ?_ GE122.out) | exact HB.out))); (case side2 => exact HC0.out); (case side3 => exact GlobA.below HG.out (by repeat (first | (with_reducible first | exact HB.out | apply below_alloc | apply pw_below_drewN | apply below_drew1 | refine below_set ?_ GE122.out) | exact HB.out))); rintro e w15 ⟨v125, rfl, ho0, hb⟩; refine ⟨_, rfl, ?_⟩; have n0_ := Aside0.mk (Kd.R_lower ho0 (below_size (by repeat (first | (with_reducible first | exact HB.out | apply below_alloc | apply pw_below_drewN | apply below_drew1 | refine below_set ?_ GE122.out) | exact HB.out)))); have n1_ := Aside0.mk (blk_below (g := gb122) (o := .cells #[.int .u8 t105, .int .u8 t106, .int .u8 t107, .int .u8 t108, .int .u8 t109, .string t110, .string t111, .string t112, .string t113, .string t114, .string t115, .string t116, .string t117, .string t118, .string t119] 25 (0, 0)) (by (with_reducible repeat (first | refine blk_drewN ?_ _ | refine blk_drew ?_ | refine blk_alloc ?_ _)); refine blk_put (cs := #[.int .u8 t105, .int .u8 t106, .int .u8 t107, .int .u8 t108, .int .u8 t109, .string t110, .string t111, .string t112, .string t113, .string t114, .string t115, .string t116, .string t117, .string t118, .string (⟨#[]⟩ : ByteArray)]) ?_ 14 _ rfl; (with_reducible repeat (first | refine blk_drewN ?_ _ | refine blk_drew ?_ | refine blk_alloc ?_ _)); refine blk_put (cs := #[.int .u8 t105, .int .u8 t106, .int .u8 t107, .int .u8 t108, .int .u8 t109, .string t110, .string t111, .string t112, .string t113, .string t114, .string t115, .string t116, .string t117, .string (⟨#[]⟩ : ByteArray), .string (⟨#[]⟩ : ByteArray)]) ?_ 13 _ rfl; (with_reducible repeat (first | refine blk_drewN ?_ _ | refine blk_drew ?_ | refine blk_alloc ?_ _)); refine blk_put (cs := #[.int .u8 t105, .int .u8 t106, .int .u8 t107, .int .u8 t108, .int .u8 t109, .string t110, .string t111, .string t112, .string t113, .string t114, .string t115, .string t116, .string (⟨#[]⟩ : ByteArray), .string (⟨#[]⟩ : ByteArray), .string (⟨#[]⟩ : ByteArray)]) ?_ 12 _ rfl; (with_reducible repeat (first | refine blk_drewN ?_ _ | refine blk_drew ?_ | refine blk_alloc ?_ _)); refine blk_put (cs := #[.int .u8 t105, .int .u8 t106, .int .u8 t107, .int .u8 t108, .int .u8 t109, .string t110, .string t111, .string t112, .string t113, .string t114, .string t115, .string (⟨#[]⟩ : ByteArray), .string (⟨#[]⟩ : ByteArray), .string (⟨#[]⟩ : ByteArray), .string (⟨#[]⟩ : ByteArray)]) ?_ 11 _ rfl; (with_reducible repeat (first | refine blk_drewN ?_ _ | refine blk_drew ?_ | refine blk_alloc ?_ _)); refine blk_put (cs := #[.int .u8 t105, .int .u8 t106, .int .u8 t107, .int .u8 t108, .int .u8 t109, .string t110, .string t111, .string t112, .string t113, .string t114, .string (⟨#[]⟩ : ByteArray), .string (⟨#[]⟩ : ByteArray), .string (⟨#[]⟩ : ByteArray), .string (⟨#[]⟩ : ByteArray), .string (⟨#[]⟩ : ByteArray)]) ?_ 10 _ rfl; (with_reducible repeat (first | refine blk_drewN ?_ _ | refine blk_drew ?_ | refine blk_alloc ?_ _)); refine blk_put (cs := #[.int .u8 t105, .int .u8 t106, .int .u8 t107, .int .u8 t108, .int .u8 t109, .string t110, .string t111, .string t112, .string t113, .string (⟨#[]⟩ : ByteArray), .string (⟨#[]⟩ : ByteArray), .string (⟨#[]⟩ : ByteArray), .string (⟨#[]⟩ : ByteArray), .string (⟨#[]⟩ : ByteArray), .string (⟨#[]⟩ : ByteArray)]) ?_ 9 _ rfl; (with_reducible repeat (first | refine blk_drewN ?_ _ | refine blk_drew ?_ | refine blk_alloc ?_ _)); refine blk_put (cs := #[.int .u8 t105, .int .u8 t106, .int .u8 t107, .int .u8 t108, .int .u8 t109, .string t110, .string t111, .string t112, .string (⟨#[]⟩ : ByteArray), .string (⟨#[]⟩ : ByteArray), .string (⟨#[]⟩ : ByteArray), .string (⟨#[]⟩ : ByteArray), .string (⟨#[]⟩ : ByteArray), .string (⟨#[]⟩ : ByteArray), .string (⟨#[]⟩ : ByteArray)]) ?_ 8 _ rfl; (with_reducible repeat (first | refine blk_drewN ?_ _ | refine blk_drew ?_ | refine blk_alloc ?_ _)); refine blk_put (cs := #[.int .u8 t105, .int .u8 t106, .int .u8 t107, .int .u8 t108, .int .u8 t109, .string t110, .string t111, .string (⟨#[]⟩ : ByteArray), .string (⟨#[]⟩ : ByteArray), .string (⟨#[]⟩ : ByteArray), .string (⟨#[]⟩ : ByteArray), .string (⟨#[]⟩ : ByteArray), .string (⟨#[]⟩ : ByteArray), .string (⟨#[]⟩ : ByteArray), .string (⟨#[]⟩ : ByteArray)]) ?_ 7 _ rfl; (with_reducible repeat (first | refine blk_drewN ?_ _ | refine blk_drew ?_ | refine blk_alloc ?_ _)); refine blk_put (cs := #[.int .u8 t105, .int .u8 t106, .int .u8 t107, .int .u8 t108, .int .u8 t109, .string t110, .string (⟨#[]⟩ : ByteArray), .string (⟨#[]⟩ : ByteArray), .string (⟨#[]⟩ : ByteArray), .string (⟨#[]⟩ : ByteArray), .string (⟨#[]⟩ : ByteArray), .string (⟨#[]⟩ : ByteArray), .string (⟨#[]⟩ : ByteArray), .string (⟨#[]⟩ : ByteArray), .string (⟨#[]⟩ : ByteArray)]) ?_ 6 _ rfl; (with_reducible repeat (first | refine blk_drewN ?_ _ | refine blk_drew ?_ | refine blk_alloc ?_ _)); refine blk_put (cs := #[.int .u8 t105, .int .u8 t106, .int .u8 t107, .int .u8 t108, .int .u8 t109, .string (⟨#[]⟩ : ByteArray), .string (⟨#[]⟩ : ByteArray), .string (⟨#[]⟩ : ByteArray), .string (⟨#[]⟩ : ByteArray), .string (⟨#[]⟩ : ByteArray), .string (⟨#[]⟩ : ByteArray), .string (⟨#[]⟩ : ByteArray), .string (⟨#[]⟩ : ByteArray), .string (⟨#[]⟩ : ByteArray), .string (⟨#[]⟩ : ByteArray)]) ?_ 5 _ rfl; (with_reducible repeat (first | refine blk_drewN ?_ _ | refine blk_drew ?_ | refine blk_alloc ?_ _)); refine blk_put (cs := #[.int .u8 t105, .int .u8 t106, .int .u8 t107, .int .u8 t108, .int .u8 0, .string (⟨#[]⟩ : ByteArray), .string (⟨#[]⟩ : ByteArray), .string (⟨#[]⟩ : ByteArray), .string (⟨#[]⟩ : ByteArray), .string (⟨#[]⟩ : ByteArray), .string (⟨#[]⟩ : ByteArray), .string (⟨#[]⟩ : ByteArray), .string (⟨#[]⟩ : ByteArray), .string (⟨#[]⟩ : ByteArray), .string (⟨#[]⟩ : ByteArray)]) ?_ 4 _ rfl; (with_reducible repeat (first | refine blk_drewN ?_ _ | refine blk_drew ?_ | refine blk_alloc ?_ _)); refine blk_put (cs := #[.int .u8 t105, .int .u8 t106, .int .u8 t107, .int .u8 0, .int .u8 0, .string (⟨#[]⟩ : ByteArray), .string (⟨#[]⟩ : ByteArray), .string (⟨#[]⟩ : ByteArray), .string (⟨#[]⟩ : ByteArray), .string (⟨#[]⟩ : ByteArray), .string (⟨#[]⟩ : ByteArray), .string (⟨#[]⟩ : ByteArray), .string (⟨#[]⟩ : ByteArray), .string (⟨#[]⟩ : ByteArray), .string (⟨#[]⟩ : ByteArray)]) ?_ 3 _ rfl; (with_reducible repeat (first | refine blk_drewN ?_ _ | refine blk_drew ?_ | refine blk_alloc ?_ _)); refine blk_put (cs := #[.int .u8 t105, .int .u8 t106, .int .u8 0, .int .u8 0, .int .u8 0, .string (⟨#[]⟩ : ByteArray), .string (⟨#[]⟩ : ByteArray), .string (⟨#[]⟩ : ByteArray), .string (⟨#[]⟩ : ByteArray), .string (⟨#[]⟩ : ByteArray), .string (⟨#[]⟩ : ByteArray), .string (⟨#[]⟩ : ByteArray), .string (⟨#[]⟩ : ByteArray), .string (⟨#[]⟩ : ByteArray), .string (⟨#[]⟩ : ByteArray)]) ?_ 2 _ rfl; (with_reducible repeat (first | refine blk_drewN ?_ _ | refine blk_drew ?_ | refine blk_alloc ?_ _)); refine blk_put (cs := #[.int .u8 t105, .int .u8 0, .int .u8 0, .int .u8 0, .int .u8 0, .string (⟨#[]⟩ : ByteArray), .string (⟨#[]⟩ : ByteArray), .string (⟨#[]⟩ : ByteArray), .string (⟨#[]⟩ : ByteArray), .string (⟨#[]⟩ : ByteArray), .string (⟨#[]⟩ : ByteArray), .string (⟨#[]⟩ : ByteArray), .string (⟨#[]⟩ : ByteArray), .string (⟨#[]⟩ : ByteArray), .string (⟨#[]⟩ : ByteArray)]) ?_ 1 _ rfl; (with_reducible repeat (first | refine blk_drewN ?_ _ | refine blk_drew ?_ | refine blk_alloc ?_ _)); refine blk_put (cs := #[.int .u8 0, .int .u8 0, .int .u8 0, .int .u8 0, .int .u8 0, .string (⟨#[]⟩ : ByteArray), .string (⟨#[]⟩ : ByteArray), .string (⟨#[]⟩ : ByteArray), .string (⟨#[]⟩ : ByteArray), .string (⟨#[]⟩ : ByteArray), .string (⟨#[]⟩ : ByteArray), .string (⟨#[]⟩ : ByteArray), .string (⟨#[]⟩ : ByteArray), .string (⟨#[]⟩ : ByteArray), .string (⟨#[]⟩ : ByteArray)]) ?_ 0 _ rfl; (with_reducible repeat (first | refine blk_drewN ?_ _ | refine blk_drew ?_ | refine blk_alloc ?_ _)); exact BK122.out) hb); have n2_ := Aside0.mk (below_step (by repeat (first | (with_reducible first | exact HB.out | apply below_alloc | apply pw_below_drewN | apply below_drew1 | refine below_set ?_ GE122.out) | exact HB.out)) hb); clear BK122; clear HB; have HO126 := n0_; have BK122 := n1_; have HB := n2_; clear n0_ n1_ n2_; (try clear hb); (try clear hb2); (try clear hk); (try clear hi); (try clear ho0); obtain ⟨Ao16, co16, eo16⟩ := Kd.R_slice HO126.out; subst eo16) | ((with_reducible refine gate_callee (f := 16) rfl ?_); refine goesL_ (some 49) rfl rfl Tryd.func16 (by kernel_rfl) rfl #[.slice Ao16 t123.length co16] rfl (by (try simp only [List.map_toArray, List.map_cons, List.map_nil]); first | done | rfl | (simp only [List.length_drop, List.length_take]; rfl)) ?_; (with_reducible refine (frameA_Unwrap.calls _ _ t123 t129 t130 _ ?side3 ?side1 ?side2 A9.out).mono ?_); (case side1 => repeat (first | exact (Kd.R_reads' HO126.out).2.2 | (with_reducible refine Kd.C_alloc ?_ _) | (with_reducible refine Kd.C_drewN ?_ _) | (with_reducible refine Kd.C_drew ?_))); (case side2 => exact (Kd.R_reads' HO126.out).2.1); (case side3 => exact GlobA.below HG.out (by repeat (first | (with_reducible first | exact HB.out | apply below_alloc | apply pw_below_drewN | apply below_drew1 | refine below_set ?_ GE122.out) | exact HB.out))); rintro e w17 ⟨v131, rfl, ho0, hb⟩; refine ⟨_, rfl, ?_⟩; have n0_ := Aside0.mk (Kd.R_elder' (by (with_reducible repeat (first | apply Kd.R_alloc | apply Kd.R_drewN | apply Kd.R_drew)); exact HO126.out) (Kd.R_base ho0) hb); have n1_ := Aside0.mk (Kd.R_lower (Kd.R_new' ho0 (Kd.R_lt (by (with_reducible repeat (first | apply Kd.R_alloc | apply Kd.R_drewN | apply Kd.R_drew)); exact HO126.out))) (below_size (by repeat (first | (with_reducible first | exact HB.out | apply below_alloc | apply pw_below_drewN | apply below_drew1 | refine below_set ?_ GE122.out) | exact HB.out)))); have n2_ := Aside0.mk (blk_below (g := gb122) (o := .cells #[.int .u8 t105, .int .u8 t106, .int .u8 t107, .int .u8 t108, .int .u8 t109, .string t110, .string t111, .string t112, .string t113, .string t114, .string t115, .string t116, .string t117, .string t118, .string t119] 25 (0, 0)) (by (with_reducible repeat (first | refine blk_drewN ?_ _ | refine blk_drew ?_ | refine blk_alloc ?_ _)); exact BK122.out) hb); have n3_ := Aside0.mk (below_step (by repeat (first | (with_reducible first | exact HB.out | apply below_alloc | apply pw_below_drewN | apply below_drew1 | refine below_set ?_ GE122.out) | exact HB.out)) hb); clear HO126; clear BK122; clear HB; have HO126 := n0_; have HO132 := n1_; have BK122 := n2_; have HB := n3_; clear n0_ n1_ n2_ n3_; (try clear hb); (try clear hb2); (try clear hk); (try clear hi); (try clear ho0); obtain ⟨Ao18, co18, eo18⟩ := Kd.R_slice HO132.out; subst eo18) | ((with_reducible refine gate_callee (f := 17) rfl ?_); refine goesL_ (some 54) rfl rfl Tryd.func17 (by kernel_rfl) rfl #[.slice Ao18 t129.length co18] rfl (by (try simp only [List.map_toArray, List.map_cons, List.map_nil]); first | done | rfl | (simp only [List.length_drop, List.length_take]; rfl)) ?_; (with_reducible refine (QRead.ack_Read.calls k _ _ t129 t133 t134 t135 _ ?side3 ?side1 ?side2 A10.out).mono ?_); (case side1 => repeat (first | exact (Kd.R_reads' HO132.out).2.2 | (with_reducible refine Kd.C_alloc ?_ _) | (with_reducible refine Kd.C_drewN ?_ _) | (with_reducible refine Kd.C_drew ?_))); (case side2 => exact (Kd.R_reads' HO132.out).2.1); (case side3 => exact GlobA.below HG.out (by repeat (first | (with_reducible first | exact HB.out | apply below_alloc | apply pw_below_drewN | apply below_drew1 | refine below_set ?_ GE122.out) | exact HB.out))); rintro e w19 ⟨rfl, hb⟩; refine ⟨_, rfl, ?_⟩; have n0_ := Aside0.mk (Kd.R_below (by (with_reducible repeat (first | apply Kd.R_alloc | apply Kd.R_drewN | apply Kd.R_drew)); exact HO126.out) hb); have n1_ := Aside0.mk (Kd.R_below (by (with_reducible repeat (first | apply Kd.R_alloc | apply Kd.R_drewN | apply Kd.R_drew)); exact HO132.out) hb); have n2_ := Aside0.mk (blk_below (g := gb122) (o := .cells #[.int .u8 t105, .int .u8 t106, .int .u8 t107, .int .u8 t108, .int .u8 t109, .string t110, .string t111, .string t112, .string t113, .string t114, .string t115, .string t116, .string t117, .string t118, .string t119] 25 (0, 0)) (by (with_reducible repeat (first | refine blk_drewN ?_ _ | refine blk_drew ?_ | refine blk_alloc ?_ _)); exact BK122.out) hb); have n3_ := Aside0.mk (below_step (by repeat (first | (with_reducible first | exact HB.out | apply below_alloc | apply pw_below_drewN | apply below_drew1 | refine below_set ?_ GE122.out) | exact HB.out)) hb); clear HO126; clear HO132; clear BK122; clear HB; have HO126 := n0_; have HO132 := n1_; have BK122 := n2_; have HB := n3_; clear n0_ n1_ n2_ n3_; (try clear hb); (try clear hb2); (try clear hk); (try clear hi)) | ((with_reducible refine gate_dst (N := 12) rfl ?_); (try (refine gate_guard (by rfl) ?_; dsimp only)); refine box_event ?hg (N := 12) ?hd (cs := #[.string (⟨#[]⟩ : ByteArray), .string (⟨#[]⟩ : ByteArray)]) (t := 47) ?hr ?_; (case hd => rfl); (case hg => rfl); (case hr => first | (go_simp; done) | (go_simp; rfl)); intro gb136 hg w20 hbox hb; have n0_ := Aside0.mk (Kd.R_below (by (with_reducible repeat (first | apply Kd.R_alloc | apply Kd.R_drewN | apply Kd.R_drew)); exact HO126.out) hb); have n1_ := Aside0.mk (Kd.R_below (by (with_reducible repeat (first | apply Kd.R_alloc | apply Kd.R_drewN | apply Kd.R_drew)); exact HO132.out) hb); have n2_ := Aside0.mk (blk_below (g := gb122) (o := .cells #[.int .u8 t105, .int .u8 t106, .int .u8 t107, .int .u8 t108, .int .u8 t109, .string t110, .string t111, .string t112, .string t113, .string t114, .string t115, .string t116, .string t117, .string t118, .string t119] 25 (0, 0)) (by (with_reducible repeat (first | refine blk_drewN ?_ _ | refine blk_drew ?_ | refine blk_alloc ?_ _)); exact BK122.out) hb); have n3_ := Aside0.mk (below_step (by repeat (first | (with_reducible first | exact HB.out | apply below_alloc | apply pw_below_drewN | apply below_drew1 | refine below_set ?_ GE122.out) | exact HB.out)) hb); have n4_ := Aside0.mk (hbox); have n5_ := Aside0.mk ((by rw [hg]; exact (below_size (by repeat (first | (with_reducible first | exact HB.out | apply below_alloc | apply pw_below_drewN | apply below_drew1 | refine below_set ?_ GE122.out) | exact HB.out))) : w.heap.size ≤ gb136)); have n6_ := Aside0.mk ((by rw [hg]; exact (below_size (by repeat (first | (with_reducible first | exact HB.out | apply below_alloc | apply pw_below_drewN | apply below_drew1 | refine below_set ?_ GE122.out) | exact HB.out))) : w.heap.size ≤ gb136)); have n7_ := Aside0.mk ((by rw [hg]; exact Nat.ne_of_lt (blk_lt (g := gb122) (o := .cells #[.int .u8 t105, .int .u8 t106, .int .u8 t107, .int .u8 t108, .int .u8 t109, .string t110, .string t111, .string t112, .string t113, .string t114, .string t115, .string t116, .string t117, .string t118, .string t119] 25 (0, 0)) (by (with_reducible repeat (first | refine blk_drewN ?_ _ | refine blk_drew ?_ | refine blk_alloc ?_ _)); exact BK122.out)) : gb122 ≠ gb136)); have n8_ := Aside0.mk ((by rw [hg]; exact Nat.ne_of_gt (blk_lt (g := gb122) (o := .cells #[.int .u8 t105, .int .u8 t106, .int .u8 t107, .int .u8 t108, .int .u8 t109, .string t110, .string t111, .string t112, .string t113, .string t114, .string t115, .string t116, .string t117, .string t118, .string t119] 25 (0, 0)) (by (with_reducible repeat (first | refine blk_drewN ?_ _ | refine blk_drew ?_ | refine blk_alloc ?_ _)); exact BK122.out)) : gb136 ≠ gb122)); clear HO126; clear HO132; clear BK122; clear HB; have HO126 := n0_; have HO132 := n1_; have BK122 := n2_; have HB := n3_; have BK136 := n4_; have GW136 := n5_; have GE136 := n6_; have NB122_136 := n7_; have NB136_122 := n8_; clear n0_ n1_ n2_ n3_ n4_ n5_ n6_ n7_ n8_; clear hb hbox hg; have hnb21 := NB136_122.out; have hnc21 := NB122_136.out; have hcz22_0 : w20.cell? ⟨gb136, 0, none⟩ = some (.string (⟨#[]⟩ : ByteArray)) := (blk_cell BK136.out 0).trans rfl; have hcz22_1 : w20.cell? ⟨gb136, 1, none⟩ = some (.string (⟨#[]⟩ : ByteArray)) := (blk_cell BK136.out 1).trans rfl; have hfz22_0 := blk_frozen BK136.out 0; have hfz22_1 := blk_frozen BK136.out 1))
      (try simp only [Act.put, List.setIfInBounds_toArray, List.set_cons_zero, List.set_cons_succ])
      go_cut [80] (fun v80 wc => ∃ (kq : Nat) (x80_10 : Bool), v80 = .bool x80_10 ∧ Aside0 (lamplighterlaw11_AcceptAnswers.j0 kq l0 t120 t121 x80_10 t133 t134 = some r) ∧ Aside0 (kq ≤ k) ∧ Aside0 (wc.heap[gb122]? = some (.cells #[.int .u8 t105, .int .u8 t106, .int .u8 t107, .int .u8 t108, .int .u8 t109, .string t110, .string t111, .string t112, .string t113, .string t114, .string t115, .string t116, .string t117, .string t118, .string t119] 25 (0, 0))) ∧ Aside0 (wc.heap[gb136]? = some (.cells #[.string t133, .string t134] 47 (0, 0))) ∧ Aside0 (Below w.heap.size w wc))
      case first =>
        have H := HC11.out
        clear HC11
        by_cases c23 : t130 = 0
        · rw [if_pos c23] at H
          have c23b0 : (t130 == 0) = true := beq_iff_eq.mpr c23
          have c23b1 : (t130 != 0) = false := bne_eq_false_iff_eq.mpr c23
          clear c23
          (first | rw [c23b0] | (simp only [i64_w, i32_w]; rw [c23b0]) | skip)
          by_cases c24 : t135 = 0
          · rw [if_pos c24] at H
            have c24b0 : (t135 == 0) = true := beq_iff_eq.mpr c24
            have c24b1 : (t135 != 0) = false := bne_eq_false_iff_eq.mpr c24
            clear c24
            by_cases c25 : t134.toList = t117.toList
            · rw [if_pos c25] at H
              have c25b0 : (t134.toList == t117.toList) = true := beq_iff_eq.mpr c25
              have c25b1 : (t134.toList != t117.toList) = false := bne_eq_false_iff_eq.mpr c25
              clear c25
              by_cases c26 : a1 = true
              · subst c26
                have H1 : ((QStored.accept_Stored.f l0).bind fun t137 => (lamplighterlaw11_AcceptAnswers.j0 k l0 t120 t121 ((t133.toList == ([65, 65] : List UInt8)) != t137) t133 t134)) = some r := by rw [if_pos rfl] at H; exact H
                clear H
                have H := H1
                clear H1
                replace H := Option.bind_eq_some_iff.mp H
                obtain ⟨t137, A270, H⟩ := H
                replace H : (lamplighterlaw11_AcceptAnswers.j0 k l0 t120 t121 ((t133.toList == ([65, 65] : List UInt8)) != t137) t133 t134) = some r := H
                have A27 := Aside0.mk A270
                clear A270
                have H' := Aside0.mk H
                clear H
                try go_wp2
                have n0_ : Aside0 (Kd.R (Kd.int .u8) 5 ((w20.setCell ⟨gb136, 0, none⟩ (.string t133)).setCell ⟨gb136, 1, none⟩ (.string t134)) w.heap.size (fun k_ => some k_ ≠ (.slice Ao18 t129.length co18 : Value).ownBlock) (.slice Ao16 t123.length co16) t123) := ⟨by (with_reducible repeat (first | apply Kd.R_alloc | apply Kd.R_drewN | apply Kd.R_drew)); exact Kd.R_mono (Kd.R_far (p := ⟨gb136, 1, none⟩) (Kd.R_far (p := ⟨gb136, 0, none⟩) (Kd.R_types HO126.out BK136.out (by decide)) (fun _ hk => hk.2) (.string t133)) (fun _ hk => hk.2) (.string t134)) (fun _ hk => hk.1.2)⟩
                have n1_ : Aside0 (Kd.R (Kd.int .u8) 5 ((w20.setCell ⟨gb136, 0, none⟩ (.string t133)).setCell ⟨gb136, 1, none⟩ (.string t134)) w.heap.size (fun k_ => some k_ ≠ (.slice Ao16 t123.length co16 : Value).ownBlock) (.slice Ao18 t129.length co18) t129) := ⟨by (with_reducible repeat (first | apply Kd.R_alloc | apply Kd.R_drewN | apply Kd.R_drew)); exact Kd.R_mono (Kd.R_far (p := ⟨gb136, 1, none⟩) (Kd.R_far (p := ⟨gb136, 0, none⟩) (Kd.R_types HO132.out BK136.out (by decide)) (fun _ hk => hk.2) (.string t133)) (fun _ hk => hk.2) (.string t134)) (fun _ hk => hk.1.2)⟩
                have n2_ : Aside0 (((w20.setCell ⟨gb136, 0, none⟩ (.string t133)).setCell ⟨gb136, 1, none⟩ (.string t134)).heap[gb122]? = some (.cells #[.int .u8 t105, .int .u8 t106, .int .u8 t107, .int .u8 t108, .int .u8 t109, .string t110, .string t111, .string t112, .string t113, .string t114, .string t115, .string t116, .string t117, .string t118, .string t119] 25 (0, 0))) := ⟨by (with_reducible repeat (first | refine blk_drewN ?_ _ | refine blk_drew ?_ | refine blk_alloc ?_ _)); refine blk_far ?_ NB122_136.out _; (with_reducible repeat (first | refine blk_drewN ?_ _ | refine blk_drew ?_ | refine blk_alloc ?_ _)); refine blk_far ?_ NB122_136.out _; (with_reducible repeat (first | refine blk_drewN ?_ _ | refine blk_drew ?_ | refine blk_alloc ?_ _)); exact BK122.out⟩
                have n3_ : Aside0 (((w20.setCell ⟨gb136, 0, none⟩ (.string t133)).setCell ⟨gb136, 1, none⟩ (.string t134)).heap[gb136]? = some (.cells #[.string t133, .string t134] 47 (0, 0))) := ⟨by (with_reducible repeat (first | refine blk_drewN ?_ _ | refine blk_drew ?_ | refine blk_alloc ?_ _)); refine blk_put (cs := #[.string t133, .string (⟨#[]⟩ : ByteArray)]) ?_ 1 _ rfl; (with_reducible repeat (first | refine blk_drewN ?_ _ | refine blk_drew ?_ | refine blk_alloc ?_ _)); refine blk_put (cs := #[.string (⟨#[]⟩ : ByteArray), .string (⟨#[]⟩ : ByteArray)]) ?_ 0 _ rfl; (with_reducible repeat (first | refine blk_drewN ?_ _ | refine blk_drew ?_ | refine blk_alloc ?_ _)); exact BK136.out⟩
                have n4_ : Aside0 (Below w.heap.size w ((w20.setCell ⟨gb136, 0, none⟩ (.string t133)).setCell ⟨gb136, 1, none⟩ (.string t134))) := ⟨by repeat (first | (with_reducible first | exact HB.out | apply below_alloc | apply pw_below_drewN | apply below_drew1 | refine below_set ?_ GE122.out | refine below_set ?_ GE136.out) | exact HB.out)⟩
                (try clear HO126)
                (try clear HO132)
                (try clear BK122)
                (try clear BK136)
                (try clear HB)
                generalize ((w20.setCell ⟨gb136, 0, none⟩ (.string t133)).setCell ⟨gb136, 1, none⟩ (.string t134)) = w28 at n0_ n1_ n2_ n3_ n4_ ⊢
                have HO126 := n0_
                have HO132 := n1_
                have BK122 := n2_
                have BK136 := n3_
                have HB := n4_
                clear n0_ n1_ n2_ n3_ n4_
                have n0_ := Aside0.mk (Kd.R_drew HO126.out)
                have n1_ := Aside0.mk (Kd.R_drew HO132.out)
                have n2_ := Aside0.mk (blk_drew BK122.out)
                have n3_ := Aside0.mk (blk_drew BK136.out)
                have n4_ := Aside0.mk (below_drew1 HB.out)
                clear HO126
                clear HO132
                clear BK122
                clear BK136
                clear HB
                have HO126 := n0_
                have HO132 := n1_
                have BK122 := n2_
                have BK136 := n3_
                have HB := n4_
                clear n0_ n1_ n2_ n3_ n4_
                refine start_ (n := 24) (S := fun w' => w'.cell? ⟨gb136, 0, none⟩ = some (.string t133) ∧ w'.cell? ⟨gb136, 1, none⟩ = some (.string t134) ∧ w'.cell? ⟨gb122, 0, none⟩ = some (.int .u8 t105) ∧ w'.cell? ⟨gb122, 1, none⟩ = some (.int .u8 t106) ∧ w'.cell? ⟨gb122, 2, none⟩ = some (.int .u8 t107) ∧ w'.cell? ⟨gb122, 3, none⟩ = some (.int .u8 t108) ∧ w'.cell? ⟨gb122, 4, none⟩ = some (.int .u8 t109) ∧ w'.cell? ⟨gb122, 5, none⟩ = some (.string t110) ∧ w'.cell? ⟨gb122, 6, none⟩ = some (.string t111) ∧ w'.cell? ⟨gb122, 7, none⟩ = some (.string t112) ∧ w'.cell? ⟨gb122, 8, none⟩ = some (.string t113) ∧ w'.cell? ⟨gb122, 9, none⟩ = some (.string t114) ∧ w'.cell? ⟨gb122, 10, none⟩ = some (.string t115) ∧ w'.cell? ⟨gb122, 11, none⟩ = some (.string t116) ∧ w'.cell? ⟨gb122, 12, none⟩ = some (.string t117) ∧ w'.cell? ⟨gb122, 13, none⟩ = some (.string t118) ∧ w'.cell? ⟨gb122, 14, none⟩ = some (.string t119)) (ds := []) #[false, false, false, false, false, false, false, false, false, false, false, false, false, false, false, false, false, false, false, false, false, false, false, false] (by kernel_rfl) rfl rfl ⟨(blk_cell BK136.out 0).trans rfl, (blk_cell BK136.out 1).trans rfl, (blk_cell BK122.out 0).trans rfl, (blk_cell BK122.out 1).trans rfl, (blk_cell BK122.out 2).trans rfl, (blk_cell BK122.out 3).trans rfl, (blk_cell BK122.out 4).trans rfl, (blk_cell BK122.out 5).trans rfl, (blk_cell BK122.out 6).trans rfl, (blk_cell BK122.out 7).trans rfl, (blk_cell BK122.out 8).trans rfl, (blk_cell BK122.out 9).trans rfl, (blk_cell BK122.out 10).trans rfl, (blk_cell BK122.out 11).trans rfl, (blk_cell BK122.out 12).trans rfl, (blk_cell BK122.out 13).trans rfl, (blk_cell BK122.out 14).trans rfl⟩ (fun hHeld => ?_); refine with_tabW lamplighterlaw11_AcceptAnswers.tab9 lamplighterlaw11_AcceptAnswers.bits9 (fun HT_ HW_ => ?_)
                generalize w28.drew = w29 at HO126 HO132 BK122 BK136 HB hHeld ⊢
                refine pure_ (i := 0) (N := some 57) (v := ?_) (a' := ?_) #[true, false, false, false, false, false, false, false, false, false, false, false, false, false, false, false, false, false, false, false, false, false, false, false] rfl rfl (any_of HT_.out (by kernel_rfl)) (fun _ _ _ h => h) (Or.inl ⟨by rfl, ?_⟩) ?_ ?_
                rotate_left
                · intro w'
                  go_simp
                  with_reducible rfl
                rotate_left
                · simp only [Act.put, List.setIfInBounds_toArray, List.set_cons_zero, List.set_cons_succ, i64_w, i32_w]
                  rfl
                refine pure_ (i := 1) (N := some 58) (v := ?_) (a' := ?_) #[true, true, false, false, false, false, false, false, false, false, false, false, false, false, false, false, false, false, false, false, false, false, false, false] rfl rfl (any_of HT_.out (by kernel_rfl)) (fun _ _ _ h => h) (Or.inl ⟨by rfl, ?_⟩) ?_ ?_
                rotate_left
                · intro w'
                  go_simp
                  with_reducible rfl
                rotate_left
                · simp only [Act.put, List.setIfInBounds_toArray, List.set_cons_zero, List.set_cons_succ, i64_w, i32_w]
                  rfl
                refine pure_ (i := 2) (N := some 59) (v := ?_) (a' := ?_) #[true, true, true, false, false, false, false, false, false, false, false, false, false, false, false, false, false, false, false, false, false, false, false, false] rfl rfl (any_of HT_.out (by kernel_rfl)) (fun _ _ _ h => h) (Or.inl ⟨by rfl, ?_⟩) ?_ ?_
                rotate_left
                · intro w'
                  go_simp
                  with_reducible rfl
                rotate_left
                · simp only [Act.put, List.setIfInBounds_toArray, List.set_cons_zero, List.set_cons_succ, i64_w, i32_w]
                  rfl
                refine pure_ (i := 3) (N := some 60) (v := ?_) (a' := ?_) #[true, true, true, true, false, false, false, false, false, false, false, false, false, false, false, false, false, false, false, false, false, false, false, false] rfl rfl (any_of HT_.out (by kernel_rfl)) (fun _ _ _ h => h) (Or.inl ⟨by rfl, ?_⟩) ?_ ?_
                rotate_left
                · intro w'
                  go_simp
                  with_reducible rfl
                rotate_left
                · simp only [Act.put, List.setIfInBounds_toArray, List.set_cons_zero, List.set_cons_succ, i64_w, i32_w]
                  rfl
                refine pure_ (i := 4) (N := some 61) (v := ?_) (a' := ?_) #[true, true, true, true, true, false, false, false, false, false, false, false, false, false, false, false, false, false, false, false, false, false, false, false] rfl rfl (any_of HT_.out (by kernel_rfl)) (fun _ _ _ h => h) (Or.inl ⟨by rfl, ?_⟩) ?_ ?_
                rotate_left
                · intro w'
                  go_simp
                  with_reducible rfl
                rotate_left
                · simp only [Act.put, List.setIfInBounds_toArray, List.set_cons_zero, List.set_cons_succ, i64_w, i32_w]
                  rfl
                refine pure_ (i := 5) (N := some 62) (v := ?_) (a' := ?_) #[true, true, true, true, true, true, false, false, false, false, false, false, false, false, false, false, false, false, false, false, false, false, false, false] rfl rfl (any_of HT_.out (by kernel_rfl)) (fun _ _ _ h => h) (Or.inl ⟨by rfl, ?_⟩) ?_ ?_
                rotate_left
                · intro w'
                  go_simp
                  with_reducible rfl
                rotate_left
                · simp only [Act.put, List.setIfInBounds_toArray, List.set_cons_zero, List.set_cons_succ, i64_w, i32_w]
                  rfl
                refine pure_ (i := 6) (N := some 63) (v := ?_) (a' := ?_) #[true, true, true, true, true, true, true, false, false, false, false, false, false, false, false, false, false, false, false, false, false, false, false, false] rfl rfl (any_of HT_.out (by kernel_rfl)) (fun _ _ _ h => h) (Or.inl ⟨by rfl, ?_⟩) ?_ ?_
                rotate_left
                · intro w'
                  go_simp
                  with_reducible rfl
                rotate_left
                · simp only [Act.put, List.setIfInBounds_toArray, List.set_cons_zero, List.set_cons_succ, i64_w, i32_w]
                  rfl
                refine pure_ (i := 7) (N := some 64) (v := ?_) (a' := ?_) #[true, true, true, true, true, true, true, true, false, false, false, false, false, false, false, false, false, false, false, false, false, false, false, false] rfl rfl (any_of HT_.out (by kernel_rfl)) (fun _ _ _ h => h) (Or.inl ⟨by rfl, ?_⟩) ?_ ?_
                rotate_left
                · intro w'
                  go_simp
                  with_reducible rfl
                rotate_left
                · simp only [Act.put, List.setIfInBounds_toArray, List.set_cons_zero, List.set_cons_succ, i64_w, i32_w]
                  rfl
                refine pure_ (i := 9) (N := some 66) (v := ?_) (a' := ?_) #[true, true, true, true, true, true, true, true, false, true, false, false, false, false, false, false, false, false, false, false, false, false, false, false] rfl rfl (any_of HT_.out (by kernel_rfl)) (fun _ _ _ h => h) (Or.inl ⟨by rfl, ?_⟩) ?_ ?_
                rotate_left
                · intro w'
                  go_simp
                  with_reducible rfl
                rotate_left
                · simp only [Act.put, List.setIfInBounds_toArray, List.set_cons_zero, List.set_cons_succ, i64_w, i32_w]
                  rfl
                refine take_ (i := 8) (N := some 65) (v := ?_) (a' := ?_) #[true, true, true, true, true, true, true, true, true, true, false, false, false, false, false, false, false, false, false, false, false, false, false, false] rfl rfl (take_ofW HT_.out HW_.out (by kernel_rfl)) (fun _ _ _ h => h) (Or.inl ⟨by rfl, ?_⟩) hHeld ?_ ?_
                rotate_left
                · rintro w' ⟨s0, s1, s2, s3, s4, s5, s6, s7, s8, s9, s10, s11, s12, s13, s14, s15, s16⟩
                  go_simp
                  with_reducible rfl
                rotate_left
                · simp only [Act.put, List.setIfInBounds_toArray, List.set_cons_zero, List.set_cons_succ, i64_w, i32_w]
                  rfl
                refine take_ (i := 10) (N := some 67) (v := ?_) (a' := ?_) #[true, true, true, true, true, true, true, true, true, true, true, false, false, false, false, false, false, false, false, false, false, false, false, false] rfl rfl (take_ofW HT_.out HW_.out (by kernel_rfl)) (fun _ _ _ h => h) (Or.inl ⟨by rfl, ?_⟩) hHeld ?_ ?_
                rotate_left
                · rintro w' ⟨s0, s1, s2, s3, s4, s5, s6, s7, s8, s9, s10, s11, s12, s13, s14, s15, s16⟩
                  go_simp
                  with_reducible rfl
                rotate_left
                · simp only [Act.put, List.setIfInBounds_toArray, List.set_cons_zero, List.set_cons_succ, i64_w, i32_w]
                  rfl
                refine pure_ (i := 11) (N := some 68) (v := ?_) (a' := ?_) #[true, true, true, true, true, true, true, true, true, true, true, true, false, false, false, false, false, false, false, false, false, false, false, false] rfl rfl (any_of HT_.out (by kernel_rfl)) (fun _ _ _ h => h) (Or.inl ⟨by rfl, ?_⟩) ?_ ?_
                rotate_left
                · intro w'
                  go_simp
                  with_reducible rfl
                rotate_left
                · simp only [Act.put, List.setIfInBounds_toArray, List.set_cons_zero, List.set_cons_succ, i64_w, i32_w]
                  rfl
                refine pure_ (i := 12) (N := some 69) (v := ?_) (a' := ?_) #[true, true, true, true, true, true, true, true, true, true, true, true, true, false, false, false, false, false, false, false, false, false, false, false] rfl rfl (any_of HT_.out (by kernel_rfl)) (fun _ _ _ h => h) (Or.inl ⟨by rfl, ?_⟩) ?_ ?_
                rotate_left
                · intro w'
                  go_simp
                  with_reducible rfl
                rotate_left
                · simp only [Act.put, List.setIfInBounds_toArray, List.set_cons_zero, List.set_cons_succ, i64_w, i32_w]
                  rfl
                refine pure_ (i := 13) (N := some 70) (v := ?_) (a' := ?_) #[true, true, true, true, true, true, true, true, true, true, true, true, true, true, false, false, false, false, false, false, false, false, false, false] rfl rfl (any_of HT_.out (by kernel_rfl)) (fun _ _ _ h => h) (Or.inl ⟨by rfl, ?_⟩) ?_ ?_
                rotate_left
                · intro w'
                  go_simp
                  with_reducible rfl
                rotate_left
                · simp only [Act.put, List.setIfInBounds_toArray, List.set_cons_zero, List.set_cons_succ, i64_w, i32_w]
                  rfl
                refine pure_ (i := 14) (N := some 71) (v := ?_) (a' := ?_) #[true, true, true, true, true, true, true, true, true, true, true, true, true, true, true, false, false, false, false, false, false, false, false, false] rfl rfl (any_of HT_.out (by kernel_rfl)) (fun _ _ _ h => h) (Or.inl ⟨by rfl, ?_⟩) ?_ ?_
                rotate_left
                · intro w'
                  go_simp
                  with_reducible rfl
                rotate_left
                · simp only [Act.put, List.setIfInBounds_toArray, List.set_cons_zero, List.set_cons_succ, i64_w, i32_w]
                  rfl
                refine pure_ (i := 17) (N := some 74) (v := ?_) (a' := ?_) #[true, true, true, true, true, true, true, true, true, true, true, true, true, true, true, false, false, true, false, false, false, false, false, false] rfl rfl (any_of HT_.out (by kernel_rfl)) (fun _ _ _ h => h) (Or.inl ⟨by rfl, ?_⟩) ?_ ?_
                rotate_left
                · intro w'
                  go_simp
                  with_reducible rfl
                rotate_left
                · simp only [Act.put, List.setIfInBounds_toArray, List.set_cons_zero, List.set_cons_succ, i64_w, i32_w]
                  rfl
                refine pure_ (i := 18) (N := some 75) (v := ?_) (a' := ?_) #[true, true, true, true, true, true, true, true, true, true, true, true, true, true, true, false, false, true, true, false, false, false, false, false] rfl rfl (any_of HT_.out (by kernel_rfl)) (fun _ _ _ h => h) (Or.inl ⟨by rfl, ?_⟩) ?_ ?_
                rotate_left
                · intro w'
                  go_simp
                  with_reducible rfl
                rotate_left
                · simp only [Act.put, List.setIfInBounds_toArray, List.set_cons_zero, List.set_cons_succ, i64_w, i32_w]
                  rfl
                refine pure_ (i := 19) (N := some 76) (v := ?_) (a' := ?_) #[true, true, true, true, true, true, true, true, true, true, true, true, true, true, true, false, false, true, true, true, false, false, false, false] rfl rfl (any_of HT_.out (by kernel_rfl)) (fun _ _ _ h => h) (Or.inl ⟨by rfl, ?_⟩) ?_ ?_
                rotate_left
                · intro w'
                  go_simp
                  with_reducible rfl
                rotate_left
                · simp only [Act.put, List.setIfInBounds_toArray, List.set_cons_zero, List.set_cons_succ, i64_w, i32_w]
                  rfl
                refine take_ (i := 15) (N := some 72) (v := ?_) (a' := ?_) #[true, true, true, true, true, true, true, true, true, true, true, true, true, true, true, true, false, true, true, true, false, false, false, false] rfl rfl (take_ofW HT_.out HW_.out (by kernel_rfl)) (fun _ _ _ h => h) (Or.inl ⟨by rfl, ?_⟩) hHeld ?_ ?_
                rotate_left
                · rintro w' ⟨s0, s1, s2, s3, s4, s5, s6, s7, s8, s9, s10, s11, s12, s13, s14, s15, s16⟩
                  go_simp
                  with_reducible rfl
                rotate_left
                · simp only [Act.put, List.setIfInBounds_toArray, List.set_cons_zero, List.set_cons_succ, i64_w, i32_w]
                  rfl
                refine pure_ (i := 16) (N := some 73) (v := ?_) (a' := ?_) #[true, true, true, true, true, true, true, true, true, true, true, true, true, true, true, true, true, true, true, true, false, false, false, false] rfl rfl (any_of HT_.out (by kernel_rfl)) (fun _ _ _ h => h) (Or.inl ⟨by rfl, ?_⟩) ?_ ?_
                rotate_left
                · intro w'
                  go_simp
                  with_reducible rfl
                rotate_left
                · simp only [Act.put, List.setIfInBounds_toArray, List.set_cons_zero, List.set_cons_succ, i64_w, i32_w]
                  rfl
                refine one_ (i := 20) (N := some 77) #[true, true, true, true, true, true, true, true, true, true, true, true, true, true, true, true, true, true, true, true, true, false, false, false] rfl rfl (one_of HT_.out (by kernel_rfl)) (by decide) (fun K hK => ?_)
                refine goes_ Tryd.func13 (by kernel_rfl) rfl #[.slice A0 l0.length c0] (by rfl) rfl rfl (by (try simp only [List.map_toArray, List.map_cons, List.map_nil]); first | done | rfl | (simp only [List.length_drop, List.length_take]; rfl)) ?_
                with_reducible refine (QStored.accept_Stored.calls _ _ l0 t137 _ ?side3 ?side1 ?side2 A27.out).mono ?_
                (case side1 => repeat (first | exact (Kd.C_below HR0.out HB.out) | (with_reducible refine Kd.C_alloc ?_ _) | (with_reducible refine Kd.C_drewN ?_ _) | (with_reducible refine Kd.C_drew ?_)))
                (case side2 => exact HC0.out)
                (case side3 => exact GlobA.below HG.out (by repeat (first | (with_reducible first | exact HB.out | apply below_alloc | apply pw_below_drewN | apply below_drew1 | refine below_set ?_ GE122.out | refine below_set ?_ GE136.out) | exact HB.out)))
                rintro e w30 ⟨rfl, hb⟩
                refine ⟨_, rfl, ?_⟩
                have n0_ := Aside0.mk (Kd.R_below (by (with_reducible repeat (first | apply Kd.R_alloc | apply Kd.R_drewN | apply Kd.R_drew)); exact HO126.out) hb)
                have n1_ := Aside0.mk (Kd.R_below (by (with_reducible repeat (first | apply Kd.R_alloc | apply Kd.R_drewN | apply Kd.R_drew)); exact HO132.out) hb)
                have n2_ := Aside0.mk (blk_below (g := gb122) (o := .cells #[.int .u8 t105, .int .u8 t106, .int .u8 t107, .int .u8 t108, .int .u8 t109, .string t110, .string t111, .string t112, .string t113, .string t114, .string t115, .string t116, .string t117, .string t118, .string t119] 25 (0, 0)) (by (with_reducible repeat (first | refine blk_drewN ?_ _ | refine blk_drew ?_ | refine blk_alloc ?_ _)); exact BK122.out) hb)
                have n3_ := Aside0.mk (blk_below (g := gb136) (o := .cells #[.string t133, .string t134] 47 (0, 0)) (by (with_reducible repeat (first | refine blk_drewN ?_ _ | refine blk_drew ?_ | refine blk_alloc ?_ _)); exact BK136.out) hb)
                have n4_ := Aside0.mk (below_step (by repeat (first | (with_reducible first | exact HB.out | apply below_alloc | apply pw_below_drewN | apply below_drew1 | refine below_set ?_ GE122.out | refine below_set ?_ GE136.out) | exact HB.out)) hb)
                clear HO126
                clear HO132
                clear BK122
                clear BK136
                clear HB
                have HO126 := n0_
                have HO132 := n1_
                have BK122 := n2_
                have BK136 := n3_
                have HB := n4_
                clear n0_ n1_ n2_ n3_ n4_
                (try clear hb)
                (try clear hb2)
                (try clear hk)
                (try clear hi)
                refine hK.out _ _ ⟨(blk_cell BK136.out 0).trans rfl, (blk_cell BK136.out 1).trans rfl, (blk_cell BK122.out 0).trans rfl, (blk_cell BK122.out 1).trans rfl, (blk_cell BK122.out 2).trans rfl, (blk_cell BK122.out 3).trans rfl, (blk_cell BK122.out 4).trans rfl, (blk_cell BK122.out 5).trans rfl, (blk_cell BK122.out 6).trans rfl, (blk_cell BK122.out 7).trans rfl, (blk_cell BK122.out 8).trans rfl, (blk_cell BK122.out 9).trans rfl, (blk_cell BK122.out 10).trans rfl, (blk_cell BK122.out 11).trans rfl, (blk_cell BK122.out 12).trans rfl, (blk_cell BK122.out 13).trans rfl, (blk_cell BK122.out 14).trans rfl⟩ (fun hHeld => ?_)
                clear hK K
                refine norm_ (a' := ?_) ?_ ?_
                rotate_left
                · show Act.put _ (some 77) _ = _
                  simp only [Act.put, List.setIfInBounds_toArray, List.set_cons_zero, List.set_cons_succ, i64_w, i32_w]
                  rfl
                refine pure_ (i := 21) (N := some 78) (v := ?_) (a' := ?_) #[true, true, true, true, true, true, true, true, true, true, true, true, true, true, true, true, true, true, true, true, true, true, false, false] rfl rfl (any_of HT_.out (by kernel_rfl)) (fun _ _ _ h => h) (Or.inl ⟨by rfl, ?_⟩) ?_ ?_
                rotate_left
                · intro w'
                  go_simp
                  with_reducible rfl
                rotate_left
                · simp only [Act.put, List.setIfInBounds_toArray, List.set_cons_zero, List.set_cons_succ, i64_w, i32_w]
                  rfl
                refine pure_ (i := 22) (N := some 79) (v := ?_) (a' := ?_) #[true, true, true, true, true, true, true, true, true, true, true, true, true, true, true, true, true, true, true, true, true, true, true, false] rfl rfl (any_of HT_.out (by kernel_rfl)) (fun _ _ _ h => h) (Or.inl ⟨by rfl, ?_⟩) ?_ ?_
                rotate_left
                · intro w'
                  go_simp
                  with_reducible rfl
                rotate_left
                · simp only [Act.put, List.setIfInBounds_toArray, List.set_cons_zero, List.set_cons_succ, i64_w, i32_w]
                  rfl
                refine pure_ (i := 23) (N := some 80) (v := ?_) (a' := ?_) #[true, true, true, true, true, true, true, true, true, true, true, true, true, true, true, true, true, true, true, true, true, true, true, true] rfl rfl (any_of HT_.out (by kernel_rfl)) (fun _ _ _ h => h) (Or.inl ⟨by rfl, ?_⟩) ?_ ?_
                rotate_left
                · intro w'
                  go_simp
                  with_reducible rfl
                rotate_left
                · simp only [Act.put, List.setIfInBounds_toArray, List.set_cons_zero, List.set_cons_succ, i64_w, i32_w]
                  rfl
                refine done_ (done_of HT_.out (by kernel_rfl)) ?_
                try go_wp2
                go_meet
                case rel => exact ⟨_, (((t133.toList == ([65, 65] : List UInt8)) != t137)), (by first | rfl | (simp; done) | (simp [*]; done)), H', ⟨by first | omega | exact Nat.le_refl _⟩, ⟨by (with_reducible repeat (first | refine blk_drewN ?_ _ | refine blk_drew ?_ | refine blk_alloc ?_ _)); exact BK122.out⟩, ⟨by (with_reducible repeat (first | refine blk_drewN ?_ _ | refine blk_drew ?_ | refine blk_alloc ?_ _)); exact BK136.out⟩, ⟨by repeat (first | (with_reducible first | exact HB.out | apply below_alloc | apply pw_below_drewN | apply below_drew1 | refine below_set ?_ GE122.out | refine below_set ?_ GE136.out) | exact HB.out)⟩⟩
              · replace c26 := Bool.eq_false_iff.mpr c26
                subst c26
                have H1 : (lamplighterlaw11_AcceptAnswers.j0 k l0 t120 t121 ((t133.toList == ([65, 65] : List UInt8)) != false) t133 t134) = some r := by rw [if_neg (show ¬ (false = true) by decide)] at H; exact H
                clear H
                have H := H1
                clear H1
                have H' := Aside0.mk H
                clear H
                try go_wp2
                have n0_ : Aside0 (Kd.R (Kd.int .u8) 5 ((w20.setCell ⟨gb136, 0, none⟩ (.string t133)).setCell ⟨gb136, 1, none⟩ (.string t134)) w.heap.size (fun k_ => some k_ ≠ (.slice Ao18 t129.length co18 : Value).ownBlock) (.slice Ao16 t123.length co16) t123) := ⟨by (with_reducible repeat (first | apply Kd.R_alloc | apply Kd.R_drewN | apply Kd.R_drew)); exact Kd.R_mono (Kd.R_far (p := ⟨gb136, 1, none⟩) (Kd.R_far (p := ⟨gb136, 0, none⟩) (Kd.R_types HO126.out BK136.out (by decide)) (fun _ hk => hk.2) (.string t133)) (fun _ hk => hk.2) (.string t134)) (fun _ hk => hk.1.2)⟩
                have n1_ : Aside0 (Kd.R (Kd.int .u8) 5 ((w20.setCell ⟨gb136, 0, none⟩ (.string t133)).setCell ⟨gb136, 1, none⟩ (.string t134)) w.heap.size (fun k_ => some k_ ≠ (.slice Ao16 t123.length co16 : Value).ownBlock) (.slice Ao18 t129.length co18) t129) := ⟨by (with_reducible repeat (first | apply Kd.R_alloc | apply Kd.R_drewN | apply Kd.R_drew)); exact Kd.R_mono (Kd.R_far (p := ⟨gb136, 1, none⟩) (Kd.R_far (p := ⟨gb136, 0, none⟩) (Kd.R_types HO132.out BK136.out (by decide)) (fun _ hk => hk.2) (.string t133)) (fun _ hk => hk.2) (.string t134)) (fun _ hk => hk.1.2)⟩
                have n2_ : Aside0 (((w20.setCell ⟨gb136, 0, none⟩ (.string t133)).setCell ⟨gb136, 1, none⟩ (.string t134)).heap[gb122]? = some (.cells #[.int .u8 t105, .int .u8 t106, .int .u8 t107, .int .u8 t108, .int .u8 t109, .string t110, .string t111, .string t112, .string t113, .string t114, .string t115, .string t116, .string t117, .string t118, .string t119] 25 (0, 0))) := ⟨by (with_reducible repeat (first | refine blk_drewN ?_ _ | refine blk_drew ?_ | refine blk_alloc ?_ _)); refine blk_far ?_ NB122_136.out _; (with_reducible repeat (first | refine blk_drewN ?_ _ | refine blk_drew ?_ | refine blk_alloc ?_ _)); refine blk_far ?_ NB122_136.out _; (with_reducible repeat (first | refine blk_drewN ?_ _ | refine blk_drew ?_ | refine blk_alloc ?_ _)); exact BK122.out⟩
                have n3_ : Aside0 (((w20.setCell ⟨gb136, 0, none⟩ (.string t133)).setCell ⟨gb136, 1, none⟩ (.string t134)).heap[gb136]? = some (.cells #[.string t133, .string t134] 47 (0, 0))) := ⟨by (with_reducible repeat (first | refine blk_drewN ?_ _ | refine blk_drew ?_ | refine blk_alloc ?_ _)); refine blk_put (cs := #[.string t133, .string (⟨#[]⟩ : ByteArray)]) ?_ 1 _ rfl; (with_reducible repeat (first | refine blk_drewN ?_ _ | refine blk_drew ?_ | refine blk_alloc ?_ _)); refine blk_put (cs := #[.string (⟨#[]⟩ : ByteArray), .string (⟨#[]⟩ : ByteArray)]) ?_ 0 _ rfl; (with_reducible repeat (first | refine blk_drewN ?_ _ | refine blk_drew ?_ | refine blk_alloc ?_ _)); exact BK136.out⟩
                have n4_ : Aside0 (Below w.heap.size w ((w20.setCell ⟨gb136, 0, none⟩ (.string t133)).setCell ⟨gb136, 1, none⟩ (.string t134))) := ⟨by repeat (first | (with_reducible first | exact HB.out | apply below_alloc | apply pw_below_drewN | apply below_drew1 | refine below_set ?_ GE122.out | refine below_set ?_ GE136.out) | exact HB.out)⟩
                (try clear HO126)
                (try clear HO132)
                (try clear BK122)
                (try clear BK136)
                (try clear HB)
                generalize ((w20.setCell ⟨gb136, 0, none⟩ (.string t133)).setCell ⟨gb136, 1, none⟩ (.string t134)) = w31 at n0_ n1_ n2_ n3_ n4_ ⊢
                have HO126 := n0_
                have HO132 := n1_
                have BK122 := n2_
                have BK136 := n3_
                have HB := n4_
                clear n0_ n1_ n2_ n3_ n4_
                have n0_ := Aside0.mk (Kd.R_drew HO126.out)
                have n1_ := Aside0.mk (Kd.R_drew HO132.out)
                have n2_ := Aside0.mk (blk_drew BK122.out)
                have n3_ := Aside0.mk (blk_drew BK136.out)
                have n4_ := Aside0.mk (below_drew1 HB.out)
                clear HO126
                clear HO132
                clear BK122
                clear BK136
                clear HB
                have HO126 := n0_
                have HO132 := n1_
                have BK122 := n2_
                have BK136 := n3_
                have HB := n4_
                clear n0_ n1_ n2_ n3_ n4_
                refine start_ (n := 24) (S := fun w' => w'.cell? ⟨gb136, 0, none⟩ = some (.string t133) ∧ w'.cell? ⟨gb136, 1, none⟩ = some (.string t134) ∧ w'.cell? ⟨gb122, 0, none⟩ = some (.int .u8 t105) ∧ w'.cell? ⟨gb122, 1, none⟩ = some (.int .u8 t106) ∧ w'.cell? ⟨gb122, 2, none⟩ = some (.int .u8 t107) ∧ w'.cell? ⟨gb122, 3, none⟩ = some (.int .u8 t108) ∧ w'.cell? ⟨gb122, 4, none⟩ = some (.int .u8 t109) ∧ w'.cell? ⟨gb122, 5, none⟩ = some (.string t110) ∧ w'.cell? ⟨gb122, 6, none⟩ = some (.string t111) ∧ w'.cell? ⟨gb122, 7, none⟩ = some (.string t112) ∧ w'.cell? ⟨gb122, 8, none⟩ = some (.string t113) ∧ w'.cell? ⟨gb122, 9, none⟩ = some (.string t114) ∧ w'.cell? ⟨gb122, 10, none⟩ = some (.string t115) ∧ w'.cell? ⟨gb122, 11, none⟩ = some (.string t116) ∧ w'.cell? ⟨gb122, 12, none⟩ = some (.string t117) ∧ w'.cell? ⟨gb122, 13, none⟩ = some (.string t118) ∧ w'.cell? ⟨gb122, 14, none⟩ = some (.string t119)) (ds := []) #[false, false, false, false, false, false, false, false, false, false, false, false, false, false, false, false, false, false, false, false, false, false, false, false] (by kernel_rfl) rfl rfl ⟨(blk_cell BK136.out 0).trans rfl, (blk_cell BK136.out 1).trans rfl, (blk_cell BK122.out 0).trans rfl, (blk_cell BK122.out 1).trans rfl, (blk_cell BK122.out 2).trans rfl, (blk_cell BK122.out 3).trans rfl, (blk_cell BK122.out 4).trans rfl, (blk_cell BK122.out 5).trans rfl, (blk_cell BK122.out 6).trans rfl, (blk_cell BK122.out 7).trans rfl, (blk_cell BK122.out 8).trans rfl, (blk_cell BK122.out 9).trans rfl, (blk_cell BK122.out 10).trans rfl, (blk_cell BK122.out 11).trans rfl, (blk_cell BK122.out 12).trans rfl, (blk_cell BK122.out 13).trans rfl, (blk_cell BK122.out 14).trans rfl⟩ (fun hHeld => ?_); refine with_tabW lamplighterlaw11_AcceptAnswers.tab9 lamplighterlaw11_AcceptAnswers.bits9 (fun HT_ HW_ => ?_)
                generalize w31.drew = w32 at HO126 HO132 BK122 BK136 HB hHeld ⊢
                refine pure_ (i := 0) (N := some 57) (v := ?_) (a' := ?_) #[true, false, false, false, false, false, false, false, false, false, false, false, false, false, false, false, false, false, false, false, false, false, false, false] rfl rfl (any_of HT_.out (by kernel_rfl)) (fun _ _ _ h => h) (Or.inl ⟨by rfl, ?_⟩) ?_ ?_
                rotate_left
                · intro w'
                  go_simp
                  with_reducible rfl
                rotate_left
                · simp only [Act.put, List.setIfInBounds_toArray, List.set_cons_zero, List.set_cons_succ, i64_w, i32_w]
                  rfl
                refine pure_ (i := 1) (N := some 58) (v := ?_) (a' := ?_) #[true, true, false, false, false, false, false, false, false, false, false, false, false, false, false, false, false, false, false, false, false, false, false, false] rfl rfl (any_of HT_.out (by kernel_rfl)) (fun _ _ _ h => h) (Or.inl ⟨by rfl, ?_⟩) ?_ ?_
                rotate_left
                · intro w'
                  go_simp
                  with_reducible rfl
                rotate_left
                · simp only [Act.put, List.setIfInBounds_toArray, List.set_cons_zero, List.set_cons_succ, i64_w, i32_w]
                  rfl
                refine pure_ (i := 2) (N := some 59) (v := ?_) (a' := ?_) #[true, true, true, false, false, false, false, false, false, false, false, false, false, false, false, false, false, false, false, false, false, false, false, false] rfl rfl (any_of HT_.out (by kernel_rfl)) (fun _ _ _ h => h) (Or.inl ⟨by rfl, ?_⟩) ?_ ?_
                rotate_left
                · intro w'
                  go_simp
                  with_reducible rfl
                rotate_left
                · simp only [Act.put, List.setIfInBounds_toArray, List.set_cons_zero, List.set_cons_succ, i64_w, i32_w]
                  rfl
                refine pure_ (i := 3) (N := some 60) (v := ?_) (a' := ?_) #[true, true, true, true, false, false, false, false, false, false, false, false, false, false, false, false, false, false, false, false, false, false, false, false] rfl rfl (any_of HT_.out (by kernel_rfl)) (fun _ _ _ h => h) (Or.inl ⟨by rfl, ?_⟩) ?_ ?_
                rotate_left
                · intro w'
                  go_simp
                  with_reducible rfl
                rotate_left
                · simp only [Act.put, List.setIfInBounds_toArray, List.set_cons_zero, List.set_cons_succ, i64_w, i32_w]
                  rfl
                refine pure_ (i := 4) (N := some 61) (v := ?_) (a' := ?_) #[true, true, true, true, true, false, false, false, false, false, false, false, false, false, false, false, false, false, false, false, false, false, false, false] rfl rfl (any_of HT_.out (by kernel_rfl)) (fun _ _ _ h => h) (Or.inl ⟨by rfl, ?_⟩) ?_ ?_
                rotate_left
                · intro w'
                  go_simp
                  with_reducible rfl
                rotate_left
                · simp only [Act.put, List.setIfInBounds_toArray, List.set_cons_zero, List.set_cons_succ, i64_w, i32_w]
                  rfl
                refine pure_ (i := 5) (N := some 62) (v := ?_) (a' := ?_) #[true, true, true, true, true, true, false, false, false, false, false, false, false, false, false, false, false, false, false, false, false, false, false, false] rfl rfl (any_of HT_.out (by kernel_rfl)) (fun _ _ _ h => h) (Or.inl ⟨by rfl, ?_⟩) ?_ ?_
                rotate_left
                · intro w'
                  go_simp
                  with_reducible rfl
                rotate_left
                · simp only [Act.put, List.setIfInBounds_toArray, List.set_cons_zero, List.set_cons_succ, i64_w, i32_w]
                  rfl
                refine pure_ (i := 6) (N := some 63) (v := ?_) (a' := ?_) #[true, true, true, true, true, true, true, false, false, false, false, false, false, false, false, false, false, false, false, false, false, false, false, false] rfl rfl (any_of HT_.out (by kernel_rfl)) (fun _ _ _ h => h) (Or.inl ⟨by rfl, ?_⟩) ?_ ?_
                rotate_left
                · intro w'
                  go_simp
                  with_reducible rfl
                rotate_left
                · simp only [Act.put, List.setIfInBounds_toArray, List.set_cons_zero, List.set_cons_succ, i64_w, i32_w]
                  rfl
                refine pure_ (i := 7) (N := some 64) (v := ?_) (a' := ?_) #[true, true, true, true, true, true, true, true, false, false, false, false, false, false, false, false, false, false, false, false, false, false, false, false] rfl rfl (any_of HT_.out (by kernel_rfl)) (fun _ _ _ h => h) (Or.inl ⟨by rfl, ?_⟩) ?_ ?_
                rotate_left
                · intro w'
                  go_simp
                  with_reducible rfl
                rotate_left
                · simp only [Act.put, List.setIfInBounds_toArray, List.set_cons_zero, List.set_cons_succ, i64_w, i32_w]
                  rfl
                refine pure_ (i := 9) (N := some 66) (v := ?_) (a' := ?_) #[true, true, true, true, true, true, true, true, false, true, false, false, false, false, false, false, false, false, false, false, false, false, false, false] rfl rfl (any_of HT_.out (by kernel_rfl)) (fun _ _ _ h => h) (Or.inl ⟨by rfl, ?_⟩) ?_ ?_
                rotate_left
                · intro w'
                  go_simp
                  with_reducible rfl
                rotate_left
                · simp only [Act.put, List.setIfInBounds_toArray, List.set_cons_zero, List.set_cons_succ, i64_w, i32_w]
                  rfl
                refine take_ (i := 8) (N := some 65) (v := ?_) (a' := ?_) #[true, true, true, true, true, true, true, true, true, true, false, false, false, false, false, false, false, false, false, false, false, false, false, false] rfl rfl (take_ofW HT_.out HW_.out (by kernel_rfl)) (fun _ _ _ h => h) (Or.inl ⟨by rfl, ?_⟩) hHeld ?_ ?_
                rotate_left
                · rintro w' ⟨s0, s1, s2, s3, s4, s5, s6, s7, s8, s9, s10, s11, s12, s13, s14, s15, s16⟩
                  go_simp
                  with_reducible rfl
                rotate_left
                · simp only [Act.put, List.setIfInBounds_toArray, List.set_cons_zero, List.set_cons_succ, i64_w, i32_w]
                  rfl
                refine take_ (i := 10) (N := some 67) (v := ?_) (a' := ?_) #[true, true, true, true, true, true, true, true, true, true, true, false, false, false, false, false, false, false, false, false, false, false, false, false] rfl rfl (take_ofW HT_.out HW_.out (by kernel_rfl)) (fun _ _ _ h => h) (Or.inl ⟨by rfl, ?_⟩) hHeld ?_ ?_
                rotate_left
                · rintro w' ⟨s0, s1, s2, s3, s4, s5, s6, s7, s8, s9, s10, s11, s12, s13, s14, s15, s16⟩
                  go_simp
                  with_reducible rfl
                rotate_left
                · simp only [Act.put, List.setIfInBounds_toArray, List.set_cons_zero, List.set_cons_succ, i64_w, i32_w]
                  rfl
                refine pure_ (i := 11) (N := some 68) (v := ?_) (a' := ?_) #[true, true, true, true, true, true, true, true, true, true, true, true, false, false, false, false, false, false, false, false, false, false, false, false] rfl rfl (any_of HT_.out (by kernel_rfl)) (fun _ _ _ h => h) (Or.inl ⟨by rfl, ?_⟩) ?_ ?_
                rotate_left
                · intro w'
                  go_simp
                  with_reducible rfl
                rotate_left
                · simp only [Act.put, List.setIfInBounds_toArray, List.set_cons_zero, List.set_cons_succ, i64_w, i32_w]
                  rfl
                refine pure_ (i := 12) (N := some 69) (v := ?_) (a' := ?_) #[true, true, true, true, true, true, true, true, true, true, true, true, true, false, false, false, false, false, false, false, false, false, false, false] rfl rfl (any_of HT_.out (by kernel_rfl)) (fun _ _ _ h => h) (Or.inl ⟨by rfl, ?_⟩) ?_ ?_
                rotate_left
                · intro w'
                  go_simp
                  with_reducible rfl
                rotate_left
                · simp only [Act.put, List.setIfInBounds_toArray, List.set_cons_zero, List.set_cons_succ, i64_w, i32_w]
                  rfl
                refine pure_ (i := 13) (N := some 70) (v := ?_) (a' := ?_) #[true, true, true, true, true, true, true, true, true, true, true, true, true, true, false, false, false, false, false, false, false, false, false, false] rfl rfl (any_of HT_.out (by kernel_rfl)) (fun _ _ _ h => h) (Or.inl ⟨by rfl, ?_⟩) ?_ ?_
                rotate_left
                · intro w'
                  go_simp
                  with_reducible rfl
                rotate_left
                · simp only [Act.put, List.setIfInBounds_toArray, List.set_cons_zero, List.set_cons_succ, i64_w, i32_w]
                  rfl
                refine pure_ (i := 14) (N := some 71) (v := ?_) (a' := ?_) #[true, true, true, true, true, true, true, true, true, true, true, true, true, true, true, false, false, false, false, false, false, false, false, false] rfl rfl (any_of HT_.out (by kernel_rfl)) (fun _ _ _ h => h) (Or.inl ⟨by rfl, ?_⟩) ?_ ?_
                rotate_left
                · intro w'
                  go_simp
                  with_reducible rfl
                rotate_left
                · simp only [Act.put, List.setIfInBounds_toArray, List.set_cons_zero, List.set_cons_succ, i64_w, i32_w]
                  rfl
                refine pure_ (i := 17) (N := some 74) (v := ?_) (a' := ?_) #[true, true, true, true, true, true, true, true, true, true, true, true, true, true, true, false, false, true, false, false, false, false, false, false] rfl rfl (any_of HT_.out (by kernel_rfl)) (fun _ _ _ h => h) (Or.inl ⟨by rfl, ?_⟩) ?_ ?_
                rotate_left
                · intro w'
                  go_simp
                  with_reducible rfl
                rotate_left
                · simp only [Act.put, List.setIfInBounds_toArray, List.set_cons_zero, List.set_cons_succ, i64_w, i32_w]
                  rfl
                refine pure_ (i := 18) (N := some 75) (v := ?_) (a' := ?_) #[true, true, true, true, true, true, true, true, true, true, true, true, true, true, true, false, false, true, true, false, false, false, false, false] rfl rfl (any_of HT_.out (by kernel_rfl)) (fun _ _ _ h => h) (Or.inl ⟨by rfl, ?_⟩) ?_ ?_
                rotate_left
                · intro w'
                  go_simp
                  with_reducible rfl
                rotate_left
                · simp only [Act.put, List.setIfInBounds_toArray, List.set_cons_zero, List.set_cons_succ, i64_w, i32_w]
                  rfl
                refine pure_ (i := 19) (N := some 76) (v := undef) (a' := ?_) #[true, true, true, true, true, true, true, true, true, true, true, true, true, true, true, false, false, true, true, true, false, false, false, false] rfl rfl (any_of HT_.out (by kernel_rfl)) (fun _ _ _ h => h) (Or.inr ⟨by rfl, rfl⟩) ?_ ?_
                rotate_left
                · simp only [Act.put, List.setIfInBounds_toArray, List.set_cons_zero, List.set_cons_succ, i64_w, i32_w]
                  rfl
                refine pure_ (i := 20) (N := some 77) (v := undef) (a' := ?_) #[true, true, true, true, true, true, true, true, true, true, true, true, true, true, true, false, false, true, true, true, true, false, false, false] rfl rfl (any_of HT_.out (by kernel_rfl)) (fun _ _ _ h => h) (Or.inr ⟨by rfl, rfl⟩) ?_ ?_
                rotate_left
                · simp only [Act.put, List.setIfInBounds_toArray, List.set_cons_zero, List.set_cons_succ, i64_w, i32_w]
                  rfl
                refine pure_ (i := 21) (N := some 78) (v := ?_) (a' := ?_) #[true, true, true, true, true, true, true, true, true, true, true, true, true, true, true, false, false, true, true, true, true, true, false, false] rfl rfl (any_of HT_.out (by kernel_rfl)) (fun _ _ _ h => h) (Or.inl ⟨by rfl, ?_⟩) ?_ ?_
                rotate_left
                · intro w'
                  go_simp
                  with_reducible rfl
                rotate_left
                · simp only [Act.put, List.setIfInBounds_toArray, List.set_cons_zero, List.set_cons_succ, i64_w, i32_w]
                  rfl
                refine take_ (i := 15) (N := some 72) (v := ?_) (a' := ?_) #[true, true, true, true, true, true, true, true, true, true, true, true, true, true, true, true, false, true, true, true, true, true, false, false] rfl rfl (take_ofW HT_.out HW_.out (by kernel_rfl)) (fun _ _ _ h => h) (Or.inl ⟨by rfl, ?_⟩) hHeld ?_ ?_
                rotate_left
                · rintro w' ⟨s0, s1, s2, s3, s4, s5, s6, s7, s8, s9, s10, s11, s12, s13, s14, s15, s16⟩
                  go_simp
                  with_reducible rfl
                rotate_left
                · simp only [Act.put, List.setIfInBounds_toArray, List.set_cons_zero, List.set_cons_succ, i64_w, i32_w]
                  rfl
                refine pure_ (i := 16) (N := some 73) (v := ?_) (a' := ?_) #[true, true, true, true, true, true, true, true, true, true, true, true, true, true, true, true, true, true, true, true, true, true, false, false] rfl rfl (any_of HT_.out (by kernel_rfl)) (fun _ _ _ h => h) (Or.inl ⟨by rfl, ?_⟩) ?_ ?_
                rotate_left
                · intro w'
                  go_simp
                  with_reducible rfl
                rotate_left
                · simp only [Act.put, List.setIfInBounds_toArray, List.set_cons_zero, List.set_cons_succ, i64_w, i32_w]
                  rfl
                refine pure_ (i := 22) (N := some 79) (v := ?_) (a' := ?_) #[true, true, true, true, true, true, true, true, true, true, true, true, true, true, true, true, true, true, true, true, true, true, true, false] rfl rfl (any_of HT_.out (by kernel_rfl)) (fun _ _ _ h => h) (Or.inl ⟨by rfl, ?_⟩) ?_ ?_
                rotate_left
                · intro w'
                  go_simp
                  with_reducible rfl
                rotate_left
                · simp only [Act.put, List.setIfInBounds_toArray, List.set_cons_zero, List.set_cons_succ, i64_w, i32_w]
                  rfl
                refine pure_ (i := 23) (N := some 80) (v := ?_) (a' := ?_) #[true, true, true, true, true, true, true, true, true, true, true, true, true, true, true, true, true, true, true, true, true, true, true, true] rfl rfl (any_of HT_.out (by kernel_rfl)) (fun _ _ _ h => h) (Or.inl ⟨by rfl, ?_⟩) ?_ ?_
                rotate_left
                · intro w'
                  go_simp
                  with_reducible rfl
                rotate_left
                · simp only [Act.put, List.setIfInBounds_toArray, List.set_cons_zero, List.set_cons_succ, i64_w, i32_w]
                  rfl
                refine done_ (done_of HT_.out (by kernel_rfl)) ?_
                try go_wp2
                go_meet
                case rel => exact ⟨_, (((t133.toList == ([65, 65] : List UInt8)) != false)), (by first | rfl | (simp; done) | (simp [*]; done)), H', ⟨by first | omega | exact Nat.le_refl _⟩, ⟨by (with_reducible repeat (first | refine blk_drewN ?_ _ | refine blk_drew ?_ | refine blk_alloc ?_ _)); exact BK122.out⟩, ⟨by (with_reducible repeat (first | refine blk_drewN ?_ _ | refine blk_drew ?_ | refine blk_alloc ?_ _)); exact BK136.out⟩, ⟨by repeat (first | (with_reducible first | exact HB.out | apply below_alloc | apply pw_below_drewN | apply below_drew1 | refine below_set ?_ GE122.out | refine below_set ?_ GE136.out) | exact HB.out)⟩⟩
            · rw [if_neg c25] at H
              have c25b0 : (t134.toList == t117.toList) = false := beq_eq_false_iff_ne.mpr c25
              have c25b1 : (t134.toList != t117.toList) = true := bne_iff_ne.mpr c25
              have H' := Aside0.mk H
              clear H
              try go_wp2
              have n0_ : Aside0 (Kd.R (Kd.int .u8) 5 ((w20.setCell ⟨gb136, 0, none⟩ (.string t133)).setCell ⟨gb136, 1, none⟩ (.string t134)) w.heap.size (fun k_ => some k_ ≠ (.slice Ao18 t129.length co18 : Value).ownBlock) (.slice Ao16 t123.length co16) t123) := ⟨by (with_reducible repeat (first | apply Kd.R_alloc | apply Kd.R_drewN | apply Kd.R_drew)); exact Kd.R_mono (Kd.R_far (p := ⟨gb136, 1, none⟩) (Kd.R_far (p := ⟨gb136, 0, none⟩) (Kd.R_types HO126.out BK136.out (by decide)) (fun _ hk => hk.2) (.string t133)) (fun _ hk => hk.2) (.string t134)) (fun _ hk => hk.1.2)⟩
              have n1_ : Aside0 (Kd.R (Kd.int .u8) 5 ((w20.setCell ⟨gb136, 0, none⟩ (.string t133)).setCell ⟨gb136, 1, none⟩ (.string t134)) w.heap.size (fun k_ => some k_ ≠ (.slice Ao16 t123.length co16 : Value).ownBlock) (.slice Ao18 t129.length co18) t129) := ⟨by (with_reducible repeat (first | apply Kd.R_alloc | apply Kd.R_drewN | apply Kd.R_drew)); exact Kd.R_mono (Kd.R_far (p := ⟨gb136, 1, none⟩) (Kd.R_far (p := ⟨gb136, 0, none⟩) (Kd.R_types HO132.out BK136.out (by decide)) (fun _ hk => hk.2) (.string t133)) (fun _ hk => hk.2) (.string t134)) (fun _ hk => hk.1.2)⟩
              have n2_ : Aside0 (((w20.setCell ⟨gb136, 0, none⟩ (.string t133)).setCell ⟨gb136, 1, none⟩ (.string t134)).heap[gb122]? = some (.cells #[.int .u8 t105, .int .u8 t106, .int .u8 t107, .int .u8 t108, .int .u8 t109, .string t110, .string t111, .string t112, .string t113, .string t114, .string t115, .string t116, .string t117, .string t118, .string t119] 25 (0, 0))) := ⟨by (with_reducible repeat (first | refine blk_drewN ?_ _ | refine blk_drew ?_ | refine blk_alloc ?_ _)); refine blk_far ?_ NB122_136.out _; (with_reducible repeat (first | refine blk_drewN ?_ _ | refine blk_drew ?_ | refine blk_alloc ?_ _)); refine blk_far ?_ NB122_136.out _; (with_reducible repeat (first | refine blk_drewN ?_ _ | refine blk_drew ?_ | refine blk_alloc ?_ _)); exact BK122.out⟩
              have n3_ : Aside0 (((w20.setCell ⟨gb136, 0, none⟩ (.string t133)).setCell ⟨gb136, 1, none⟩ (.string t134)).heap[gb136]? = some (.cells #[.string t133, .string t134] 47 (0, 0))) := ⟨by (with_reducible repeat (first | refine blk_drewN ?_ _ | refine blk_drew ?_ | refine blk_alloc ?_ _)); refine blk_put (cs := #[.string t133, .string (⟨#[]⟩ : ByteArray)]) ?_ 1 _ rfl; (with_reducible repeat (first | refine blk_drewN ?_ _ | refine blk_drew ?_ | refine blk_alloc ?_ _)); refine blk_put (cs := #[.string (⟨#[]⟩ : ByteArray), .string (⟨#[]⟩ : ByteArray)]) ?_ 0 _ rfl; (with_reducible repeat (first | refine blk_drewN ?_ _ | refine blk_drew ?_ | refine blk_alloc ?_ _)); exact BK136.out⟩
              have n4_ : Aside0 (Below w.heap.size w ((w20.setCell ⟨gb136, 0, none⟩ (.string t133)).setCell ⟨gb136, 1, none⟩ (.string t134))) := ⟨by repeat (first | (with_reducible first | exact HB.out | apply below_alloc | apply pw_below_drewN | apply below_drew1 | refine below_set ?_ GE122.out | refine below_set ?_ GE136.out) | exact HB.out)⟩
              (try clear HO126)
              (try clear HO132)
              (try clear BK122)
              (try clear BK136)
              (try clear HB)
              generalize ((w20.setCell ⟨gb136, 0, none⟩ (.string t133)).setCell ⟨gb136, 1, none⟩ (.string t134)) = w33 at n0_ n1_ n2_ n3_ n4_ ⊢
              have HO126 := n0_
              have HO132 := n1_
              have BK122 := n2_
              have BK136 := n3_
              have HB := n4_
              clear n0_ n1_ n2_ n3_ n4_
              have n0_ := Aside0.mk (Kd.R_drew HO126.out)
              have n1_ := Aside0.mk (Kd.R_drew HO132.out)
              have n2_ := Aside0.mk (blk_drew BK122.out)
              have n3_ := Aside0.mk (blk_drew BK136.out)
              have n4_ := Aside0.mk (below_drew1 HB.out)
              clear HO126
              clear HO132
              clear BK122
              clear BK136
              clear HB
              have HO126 := n0_
              have HO132 := n1_
              have BK122 := n2_
              have BK136 := n3_
              have HB := n4_
              clear n0_ n1_ n2_ n3_ n4_
              refine start_ (n := 24) (S := fun w' => w'.cell? ⟨gb136, 0, none⟩ = some (.string t133) ∧ w'.cell? ⟨gb136, 1, none⟩ = some (.string t134) ∧ w'.cell? ⟨gb122, 0, none⟩ = some (.int .u8 t105) ∧ w'.cell? ⟨gb122, 1, none⟩ = some (.int .u8 t106) ∧ w'.cell? ⟨gb122, 2, none⟩ = some (.int .u8 t107) ∧ w'.cell? ⟨gb122, 3, none⟩ = some (.int .u8 t108) ∧ w'.cell? ⟨gb122, 4, none⟩ = some (.int .u8 t109) ∧ w'.cell? ⟨gb122, 5, none⟩ = some (.string t110) ∧ w'.cell? ⟨gb122, 6, none⟩ = some (.string t111) ∧ w'.cell? ⟨gb122, 7, none⟩ = some (.string t112) ∧ w'.cell? ⟨gb122, 8, none⟩ = some (.string t113) ∧ w'.cell? ⟨gb122, 9, none⟩ = some (.string t114) ∧ w'.cell? ⟨gb122, 10, none⟩ = some (.string t115) ∧ w'.cell? ⟨gb122, 11, none⟩ = some (.string t116) ∧ w'.cell? ⟨gb122, 12, none⟩ = some (.string t117) ∧ w'.cell? ⟨gb122, 13, none⟩ = some (.string t118) ∧ w'.cell? ⟨gb122, 14, none⟩ = some (.string t119)) (ds := []) #[false, false, false, false, false, false, false, false, false, false, false, false, false, false, false, false, false, false, false, false, false, false, false, false] (by kernel_rfl) rfl rfl ⟨(blk_cell BK136.out 0).trans rfl, (blk_cell BK136.out 1).trans rfl, (blk_cell BK122.out 0).trans rfl, (blk_cell BK122.out 1).trans rfl, (blk_cell BK122.out 2).trans rfl, (blk_cell BK122.out 3).trans rfl, (blk_cell BK122.out 4).trans rfl, (blk_cell BK122.out 5).trans rfl, (blk_cell BK122.out 6).trans rfl, (blk_cell BK122.out 7).trans rfl, (blk_cell BK122.out 8).trans rfl, (blk_cell BK122.out 9).trans rfl, (blk_cell BK122.out 10).trans rfl, (blk_cell BK122.out 11).trans rfl, (blk_cell BK122.out 12).trans rfl, (blk_cell BK122.out 13).trans rfl, (blk_cell BK122.out 14).trans rfl⟩ (fun hHeld => ?_); refine with_tabW lamplighterlaw11_AcceptAnswers.tab9 lamplighterlaw11_AcceptAnswers.bits9 (fun HT_ HW_ => ?_)
              generalize w33.drew = w34 at HO126 HO132 BK122 BK136 HB hHeld ⊢
              refine pure_ (i := 0) (N := some 57) (v := ?_) (a' := ?_) #[true, false, false, false, false, false, false, false, false, false, false, false, false, false, false, false, false, false, false, false, false, false, false, false] rfl rfl (any_of HT_.out (by kernel_rfl)) (fun _ _ _ h => h) (Or.inl ⟨by rfl, ?_⟩) ?_ ?_
              rotate_left
              · intro w'
                go_simp
                with_reducible rfl
              rotate_left
              · simp only [Act.put, List.setIfInBounds_toArray, List.set_cons_zero, List.set_cons_succ, i64_w, i32_w]
                rfl
              refine pure_ (i := 1) (N := some 58) (v := ?_) (a' := ?_) #[true, true, false, false, false, false, false, false, false, false, false, false, false, false, false, false, false, false, false, false, false, false, false, false] rfl rfl (any_of HT_.out (by kernel_rfl)) (fun _ _ _ h => h) (Or.inl ⟨by rfl, ?_⟩) ?_ ?_
              rotate_left
              · intro w'
                go_simp
                with_reducible rfl
              rotate_left
              · simp only [Act.put, List.setIfInBounds_toArray, List.set_cons_zero, List.set_cons_succ, i64_w, i32_w]
                rfl
              refine pure_ (i := 2) (N := some 59) (v := ?_) (a' := ?_) #[true, true, true, false, false, false, false, false, false, false, false, false, false, false, false, false, false, false, false, false, false, false, false, false] rfl rfl (any_of HT_.out (by kernel_rfl)) (fun _ _ _ h => h) (Or.inl ⟨by rfl, ?_⟩) ?_ ?_
              rotate_left
              · intro w'
                go_simp
                with_reducible rfl
              rotate_left
              · simp only [Act.put, List.setIfInBounds_toArray, List.set_cons_zero, List.set_cons_succ, i64_w, i32_w]
                rfl
              refine pure_ (i := 3) (N := some 60) (v := ?_) (a' := ?_) #[true, true, true, true, false, false, false, false, false, false, false, false, false, false, false, false, false, false, false, false, false, false, false, false] rfl rfl (any_of HT_.out (by kernel_rfl)) (fun _ _ _ h => h) (Or.inl ⟨by rfl, ?_⟩) ?_ ?_
              rotate_left
              · intro w'
                go_simp
                with_reducible rfl
              rotate_left
              · simp only [Act.put, List.setIfInBounds_toArray, List.set_cons_zero, List.set_cons_succ, i64_w, i32_w]
                rfl
              refine pure_ (i := 4) (N := some 61) (v := ?_) (a' := ?_) #[true, true, true, true, true, false, false, false, false, false, false, false, false, false, false, false, false, false, false, false, false, false, false, false] rfl rfl (any_of HT_.out (by kernel_rfl)) (fun _ _ _ h => h) (Or.inl ⟨by rfl, ?_⟩) ?_ ?_
              rotate_left
              · intro w'
                go_simp
                with_reducible rfl
              rotate_left
              · simp only [Act.put, List.setIfInBounds_toArray, List.set_cons_zero, List.set_cons_succ, i64_w, i32_w]
                rfl
              refine pure_ (i := 5) (N := some 62) (v := ?_) (a' := ?_) #[true, true, true, true, true, true, false, false, false, false, false, false, false, false, false, false, false, false, false, false, false, false, false, false] rfl rfl (any_of HT_.out (by kernel_rfl)) (fun _ _ _ h => h) (Or.inl ⟨by rfl, ?_⟩) ?_ ?_
              rotate_left
              · intro w'
                go_simp
                with_reducible rfl
              rotate_left
              · simp only [Act.put, List.setIfInBounds_toArray, List.set_cons_zero, List.set_cons_succ, i64_w, i32_w]
                rfl
              refine pure_ (i := 6) (N := some 63) (v := ?_) (a' := ?_) #[true, true, true, true, true, true, true, false, false, false, false, false, false, false, false, false, false, false, false, false, false, false, false, false] rfl rfl (any_of HT_.out (by kernel_rfl)) (fun _ _ _ h => h) (Or.inl ⟨by rfl, ?_⟩) ?_ ?_
              rotate_left
              · intro w'
                go_simp
                with_reducible rfl
              rotate_left
              · simp only [Act.put, List.setIfInBounds_toArray, List.set_cons_zero, List.set_cons_succ, i64_w, i32_w]
                rfl
              refine pure_ (i := 7) (N := some 64) (v := ?_) (a' := ?_) #[true, true, true, true, true, true, true, true, false, false, false, false, false, false, false, false, false, false, false, false, false, false, false, false] rfl rfl (any_of HT_.out (by kernel_rfl)) (fun _ _ _ h => h) (Or.inl ⟨by rfl, ?_⟩) ?_ ?_
              rotate_left
              · intro w'
                go_simp
                with_reducible rfl
              rotate_left
              · simp only [Act.put, List.setIfInBounds_toArray, List.set_cons_zero, List.set_cons_succ, i64_w, i32_w]
                rfl
              refine pure_ (i := 9) (N := some 66) (v := ?_) (a' := ?_) #[true, true, true, true, true, true, true, true, false, true, false, false, false, false, false, false, false, false, false, false, false, false, false, false] rfl rfl (any_of HT_.out (by kernel_rfl)) (fun _ _ _ h => h) (Or.inl ⟨by rfl, ?_⟩) ?_ ?_
              rotate_left
              · intro w'
                go_simp
                with_reducible rfl
              rotate_left
              · simp only [Act.put, List.setIfInBounds_toArray, List.set_cons_zero, List.set_cons_succ, i64_w, i32_w]
                rfl
              refine take_ (i := 8) (N := some 65) (v := ?_) (a' := ?_) #[true, true, true, true, true, true, true, true, true, true, false, false, false, false, false, false, false, false, false, false, false, false, false, false] rfl rfl (take_ofW HT_.out HW_.out (by kernel_rfl)) (fun _ _ _ h => h) (Or.inl ⟨by rfl, ?_⟩) hHeld ?_ ?_
              rotate_left
              · rintro w' ⟨s0, s1, s2, s3, s4, s5, s6, s7, s8, s9, s10, s11, s12, s13, s14, s15, s16⟩
                go_simp
                with_reducible rfl
              rotate_left
              · simp only [Act.put, List.setIfInBounds_toArray, List.set_cons_zero, List.set_cons_succ, i64_w, i32_w]
                rfl
              refine take_ (i := 10) (N := some 67) (v := ?_) (a' := ?_) #[true, true, true, true, true, true, true, true, true, true, true, false, false, false, false, false, false, false, false, false, false, false, false, false] rfl rfl (take_ofW HT_.out HW_.out (by kernel_rfl)) (fun _ _ _ h => h) (Or.inl ⟨by rfl, ?_⟩) hHeld ?_ ?_
              rotate_left
              · rintro w' ⟨s0, s1, s2, s3, s4, s5, s6, s7, s8, s9, s10, s11, s12, s13, s14, s15, s16⟩
                go_simp
                with_reducible rfl
              rotate_left
              · simp only [Act.put, List.setIfInBounds_toArray, List.set_cons_zero, List.set_cons_succ, i64_w, i32_w]
                rfl
              refine pure_ (i := 11) (N := some 68) (v := ?_) (a' := ?_) #[true, true, true, true, true, true, true, true, true, true, true, true, false, false, false, false, false, false, false, false, false, false, false, false] rfl rfl (any_of HT_.out (by kernel_rfl)) (fun _ _ _ h => h) (Or.inl ⟨by rfl, ?_⟩) ?_ ?_
              rotate_left
              · intro w'
                go_simp
                with_reducible rfl
              rotate_left
              · simp only [Act.put, List.setIfInBounds_toArray, List.set_cons_zero, List.set_cons_succ, i64_w, i32_w]
                rfl
              refine pure_ (i := 12) (N := some 69) (v := ?_) (a' := ?_) #[true, true, true, true, true, true, true, true, true, true, true, true, true, false, false, false, false, false, false, false, false, false, false, false] rfl rfl (any_of HT_.out (by kernel_rfl)) (fun _ _ _ h => h) (Or.inl ⟨by rfl, ?_⟩) ?_ ?_
              rotate_left
              · intro w'
                go_simp
                with_reducible rfl
              rotate_left
              · simp only [Act.put, List.setIfInBounds_toArray, List.set_cons_zero, List.set_cons_succ, i64_w, i32_w]
                rfl
              refine pure_ (i := 13) (N := some 70) (v := ?_) (a' := ?_) #[true, true, true, true, true, true, true, true, true, true, true, true, true, true, false, false, false, false, false, false, false, false, false, false] rfl rfl (any_of HT_.out (by kernel_rfl)) (fun _ _ _ h => h) (Or.inl ⟨by rfl, ?_⟩) ?_ ?_
              rotate_left
              · intro w'
                go_simp
                with_reducible rfl
              rotate_left
              · simp only [Act.put, List.setIfInBounds_toArray, List.set_cons_zero, List.set_cons_succ, i64_w, i32_w]
                rfl
              refine pure_ (i := 14) (N := some 71) (v := undef) (a' := ?_) #[true, true, true, true, true, true, true, true, true, true, true, true, true, true, true, false, false, false, false, false, false, false, false, false] rfl rfl (any_of HT_.out (by kernel_rfl)) (fun _ _ _ h => h) (Or.inr ⟨by rfl, rfl⟩) ?_ ?_
              rotate_left
              · simp only [Act.put, List.setIfInBounds_toArray, List.set_cons_zero, List.set_cons_succ, i64_w, i32_w]
                rfl
              refine pure_ (i := 15) (N := some 72) (v := undef) (a' := ?_) #[true, true, true, true, true, true, true, true, true, true, true, true, true, true, true, true, false, false, false, false, false, false, false, false] rfl rfl (any_of HT_.out (by kernel_rfl)) (fun _ _ _ h => h) (Or.inr ⟨by rfl, rfl⟩) ?_ ?_
              rotate_left
              · simp only [Act.put, List.setIfInBounds_toArray, List.set_cons_zero, List.set_cons_succ, i64_w, i32_w]
                rfl
              refine pure_ (i := 16) (N := some 73) (v := undef) (a' := ?_) #[true, true, true, true, true, true, true, true, true, true, true, true, true, true, true, true, true, false, false, false, false, false, false, false] rfl rfl (any_of HT_.out (by kernel_rfl)) (fun _ _ _ h => h) (Or.inr ⟨by rfl, rfl⟩) ?_ ?_
              rotate_left
              · simp only [Act.put, List.setIfInBounds_toArray, List.set_cons_zero, List.set_cons_succ, i64_w, i32_w]
                rfl
              refine pure_ (i := 17) (N := some 74) (v := undef) (a' := ?_) #[true, true, true, true, true, true, true, true, true, true, true, true, true, true, true, true, true, true, false, false, false, false, false, false] rfl rfl (any_of HT_.out (by kernel_rfl)) (fun _ _ _ h => h) (Or.inr ⟨by rfl, rfl⟩) ?_ ?_
              rotate_left
              · simp only [Act.put, List.setIfInBounds_toArray, List.set_cons_zero, List.set_cons_succ, i64_w, i32_w]
                rfl
              refine pure_ (i := 18) (N := some 75) (v := undef) (a' := ?_) #[true, true, true, true, true, true, true, true, true, true, true, true, true, true, true, true, true, true, true, false, false, false, false, false] rfl rfl (any_of HT_.out (by kernel_rfl)) (fun _ _ _ h => h) (Or.inr ⟨by rfl, rfl⟩) ?_ ?_
              rotate_left
              · simp only [Act.put, List.setIfInBounds_toArray, List.set_cons_zero, List.set_cons_succ, i64_w, i32_w]
                rfl
              refine pure_ (i := 19) (N := some 76) (v := undef) (a' := ?_) #[true, true, true, true, true, true, true, true, true, true, true, true, true, true, true, true, true, true, true, true, false, false, false, false] rfl rfl (any_of HT_.out (by kernel_rfl)) (fun _ _ _ h => h) (Or.inr ⟨by rfl, rfl⟩) ?_ ?_
              rotate_left
              · simp only [Act.put, List.setIfInBounds_toArray, List.set_cons_zero, List.set_cons_succ, i64_w, i32_w]
                rfl
              refine pure_ (i := 20) (N := some 77) (v := undef) (a' := ?_) #[true, true, true, true, true, true, true, true, true, true, true, true, true, true, true, true, true, true, true, true, true, false, false, false] rfl rfl (any_of HT_.out (by kernel_rfl)) (fun _ _ _ h => h) (Or.inr ⟨by rfl, rfl⟩) ?_ ?_
              rotate_left
              · simp only [Act.put, List.setIfInBounds_toArray, List.set_cons_zero, List.set_cons_succ, i64_w, i32_w]
                rfl
              refine pure_ (i := 21) (N := some 78) (v := undef) (a' := ?_) #[true, true, true, true, true, true, true, true, true, true, true, true, true, true, true, true, true, true, true, true, true, true, false, false] rfl rfl (any_of HT_.out (by kernel_rfl)) (fun _ _ _ h => h) (Or.inr ⟨by rfl, rfl⟩) ?_ ?_
              rotate_left
              · simp only [Act.put, List.setIfInBounds_toArray, List.set_cons_zero, List.set_cons_succ, i64_w, i32_w]
                rfl
              refine pure_ (i := 22) (N := some 79) (v := undef) (a' := ?_) #[true, true, true, true, true, true, true, true, true, true, true, true, true, true, true, true, true, true, true, true, true, true, true, false] rfl rfl (any_of HT_.out (by kernel_rfl)) (fun _ _ _ h => h) (Or.inr ⟨by rfl, rfl⟩) ?_ ?_
              rotate_left
              · simp only [Act.put, List.setIfInBounds_toArray, List.set_cons_zero, List.set_cons_succ, i64_w, i32_w]
                rfl
              refine pure_ (i := 23) (N := some 80) (v := ?_) (a' := ?_) #[true, true, true, true, true, true, true, true, true, true, true, true, true, true, true, true, true, true, true, true, true, true, true, true] rfl rfl (any_of HT_.out (by kernel_rfl)) (fun _ _ _ h => h) (Or.inl ⟨by rfl, ?_⟩) ?_ ?_
              rotate_left
              · intro w'
                go_simp
                with_reducible rfl
              rotate_left
              · simp only [Act.put, List.setIfInBounds_toArray, List.set_cons_zero, List.set_cons_succ, i64_w, i32_w]
                rfl
              refine done_ (done_of HT_.out (by kernel_rfl)) ?_
              try go_wp2
              go_meet
              case rel => exact ⟨_, (true), (by first | rfl | (simp; done) | (simp [*]; done)), H', ⟨by first | omega | exact Nat.le_refl _⟩, ⟨by (with_reducible repeat (first | refine blk_drewN ?_ _ | refine blk_drew ?_ | refine blk_alloc ?_ _)); exact BK122.out⟩, ⟨by (with_reducible repeat (first | refine blk_drewN ?_ _ | refine blk_drew ?_ | refine blk_alloc ?_ _)); exact BK136.out⟩, ⟨by repeat (first | (with_reducible first | exact HB.out | apply below_alloc | apply pw_below_drewN | apply below_drew1 | refine below_set ?_ GE122.out | refine below_set ?_ GE136.out) | exact HB.out)⟩⟩
          · rw [if_neg c24] at H
            have c24b0 : (t135 == 0) = false := beq_eq_false_iff_ne.mpr c24
            have c24b1 : (t135 != 0) = true := bne_iff_ne.mpr c24
            have H' := Aside0.mk H
            clear H
            try go_wp2
            have n0_ : Aside0 (Kd.R (Kd.int .u8) 5 ((w20.setCell ⟨gb136, 0, none⟩ (.string t133)).setCell ⟨gb136, 1, none⟩ (.string t134)) w.heap.size (fun k_ => some k_ ≠ (.slice Ao18 t129.length co18 : Value).ownBlock) (.slice Ao16 t123.length co16) t123) := ⟨by (with_reducible repeat (first | apply Kd.R_alloc | apply Kd.R_drewN | apply Kd.R_drew)); exact Kd.R_mono (Kd.R_far (p := ⟨gb136, 1, none⟩) (Kd.R_far (p := ⟨gb136, 0, none⟩) (Kd.R_types HO126.out BK136.out (by decide)) (fun _ hk => hk.2) (.string t133)) (fun _ hk => hk.2) (.string t134)) (fun _ hk => hk.1.2)⟩
            have n1_ : Aside0 (Kd.R (Kd.int .u8) 5 ((w20.setCell ⟨gb136, 0, none⟩ (.string t133)).setCell ⟨gb136, 1, none⟩ (.string t134)) w.heap.size (fun k_ => some k_ ≠ (.slice Ao16 t123.length co16 : Value).ownBlock) (.slice Ao18 t129.length co18) t129) := ⟨by (with_reducible repeat (first | apply Kd.R_alloc | apply Kd.R_drewN | apply Kd.R_drew)); exact Kd.R_mono (Kd.R_far (p := ⟨gb136, 1, none⟩) (Kd.R_far (p := ⟨gb136, 0, none⟩) (Kd.R_types HO132.out BK136.out (by decide)) (fun _ hk => hk.2) (.string t133)) (fun _ hk => hk.2) (.string t134)) (fun _ hk => hk.1.2)⟩
            have n2_ : Aside0 (((w20.setCell ⟨gb136, 0, none⟩ (.string t133)).setCell ⟨gb136, 1, none⟩ (.string t134)).heap[gb122]? = some (.cells #[.int .u8 t105, .int .u8 t106, .int .u8 t107, .int .u8 t108, .int .u8 t109, .string t110, .string t111, .string t112, .string t113, .string t114, .string t115, .string t116, .string t117, .string t118, .string t119] 25 (0, 0))) := ⟨by (with_reducible repeat (first | refine blk_drewN ?_ _ | refine blk_drew ?_ | refine blk_alloc ?_ _)); refine blk_far ?_ NB122_136.out _; (with_reducible repeat (first | refine blk_drewN ?_ _ | refine blk_drew ?_ | refine blk_alloc ?_ _)); refine blk_far ?_ NB122_136.out _; (with_reducible repeat (first | refine blk_drewN ?_ _ | refine blk_drew ?_ | refine blk_alloc ?_ _)); exact BK122.out⟩
            have n3_ : Aside0 (((w20.setCell ⟨gb136, 0, none⟩ (.string t133)).setCell ⟨gb136, 1, none⟩ (.string t134)).heap[gb136]? = some (.cells #[.string t133, .string t134] 47 (0, 0))) := ⟨by (with_reducible repeat (first | refine blk_drewN ?_ _ | refine blk_drew ?_ | refine blk_alloc ?_ _)); refine blk_put (cs := #[.string t133, .string (⟨#[]⟩ : ByteArray)]) ?_ 1 _ rfl; (with_reducible repeat (first | refine blk_drewN ?_ _ | refine blk_drew ?_ | refine blk_alloc ?_ _)); refine blk_put (cs := #[.string (⟨#[]⟩ : ByteArray), .string (⟨#[]⟩ : ByteArray)]) ?_ 0 _ rfl; (with_reducible repeat (first | refine blk_drewN ?_ _ | refine blk_drew ?_ | refine blk_alloc ?_ _)); exact BK136.out⟩
            have n4_ : Aside0 (Below w.heap.size w ((w20.setCell ⟨gb136, 0, none⟩ (.string t133)).setCell ⟨gb136, 1, none⟩ (.string t134))) := ⟨by repeat (first | (with_reducible first | exact HB.out | apply below_alloc | apply pw_below_drewN | apply below_drew1 | refine below_set ?_ GE122.out | refine below_set ?_ GE136.out) | exact HB.out)⟩
            (try clear HO126)
            (try clear HO132)
            (try clear BK122)
            (try clear BK136)
            (try clear HB)
            generalize ((w20.setCell ⟨gb136, 0, none⟩ (.string t133)).setCell ⟨gb136, 1, none⟩ (.string t134)) = w35 at n0_ n1_ n2_ n3_ n4_ ⊢
            have HO126 := n0_
            have HO132 := n1_
            have BK122 := n2_
            have BK136 := n3_
            have HB := n4_
            clear n0_ n1_ n2_ n3_ n4_
            have n0_ := Aside0.mk (Kd.R_drew HO126.out)
            have n1_ := Aside0.mk (Kd.R_drew HO132.out)
            have n2_ := Aside0.mk (blk_drew BK122.out)
            have n3_ := Aside0.mk (blk_drew BK136.out)
            have n4_ := Aside0.mk (below_drew1 HB.out)
            clear HO126
            clear HO132
            clear BK122
            clear BK136
            clear HB
            have HO126 := n0_
            have HO132 := n1_
            have BK122 := n2_
            have BK136 := n3_
            have HB := n4_
            clear n0_ n1_ n2_ n3_ n4_
            refine start_ (n := 24) (S := fun w' => True) (ds := []) #[false, false, false, false, false, false, false, false, false, false, false, false, false, false, false, false, false, false, false, false, false, false, false, false] (by kernel_rfl) rfl rfl trivial (fun hHeld => ?_); refine with_tabW lamplighterlaw11_AcceptAnswers.tab9 lamplighterlaw11_AcceptAnswers.bits9 (fun HT_ HW_ => ?_)
            generalize w35.drew = w36 at HO126 HO132 BK122 BK136 HB hHeld ⊢
            refine pure_ (i := 0) (N := some 57) (v := ?_) (a' := ?_) #[true, false, false, false, false, false, false, false, false, false, false, false, false, false, false, false, false, false, false, false, false, false, false, false] rfl rfl (any_of HT_.out (by kernel_rfl)) (fun _ _ _ h => h) (Or.inl ⟨by rfl, ?_⟩) ?_ ?_
            rotate_left
            · intro w'
              go_simp
              with_reducible rfl
            rotate_left
            · simp only [Act.put, List.setIfInBounds_toArray, List.set_cons_zero, List.set_cons_succ, i64_w, i32_w]
              rfl
            refine pure_ (i := 1) (N := some 58) (v := ?_) (a' := ?_) #[true, true, false, false, false, false, false, false, false, false, false, false, false, false, false, false, false, false, false, false, false, false, false, false] rfl rfl (any_of HT_.out (by kernel_rfl)) (fun _ _ _ h => h) (Or.inl ⟨by rfl, ?_⟩) ?_ ?_
            rotate_left
            · intro w'
              go_simp
              with_reducible rfl
            rotate_left
            · simp only [Act.put, List.setIfInBounds_toArray, List.set_cons_zero, List.set_cons_succ, i64_w, i32_w]
              rfl
            refine pure_ (i := 2) (N := some 59) (v := ?_) (a' := ?_) #[true, true, true, false, false, false, false, false, false, false, false, false, false, false, false, false, false, false, false, false, false, false, false, false] rfl rfl (any_of HT_.out (by kernel_rfl)) (fun _ _ _ h => h) (Or.inl ⟨by rfl, ?_⟩) ?_ ?_
            rotate_left
            · intro w'
              go_simp
              with_reducible rfl
            rotate_left
            · simp only [Act.put, List.setIfInBounds_toArray, List.set_cons_zero, List.set_cons_succ, i64_w, i32_w]
              rfl
            refine pure_ (i := 3) (N := some 60) (v := ?_) (a' := ?_) #[true, true, true, true, false, false, false, false, false, false, false, false, false, false, false, false, false, false, false, false, false, false, false, false] rfl rfl (any_of HT_.out (by kernel_rfl)) (fun _ _ _ h => h) (Or.inl ⟨by rfl, ?_⟩) ?_ ?_
            rotate_left
            · intro w'
              go_simp
              with_reducible rfl
            rotate_left
            · simp only [Act.put, List.setIfInBounds_toArray, List.set_cons_zero, List.set_cons_succ, i64_w, i32_w]
              rfl
            refine pure_ (i := 4) (N := some 61) (v := ?_) (a' := ?_) #[true, true, true, true, true, false, false, false, false, false, false, false, false, false, false, false, false, false, false, false, false, false, false, false] rfl rfl (any_of HT_.out (by kernel_rfl)) (fun _ _ _ h => h) (Or.inl ⟨by rfl, ?_⟩) ?_ ?_
            rotate_left
            · intro w'
              go_simp
              with_reducible rfl
            rotate_left
            · simp only [Act.put, List.setIfInBounds_toArray, List.set_cons_zero, List.set_cons_succ, i64_w, i32_w]
              rfl
            refine pure_ (i := 5) (N := some 62) (v := ?_) (a' := ?_) #[true, true, true, true, true, true, false, false, false, false, false, false, false, false, false, false, false, false, false, false, false, false, false, false] rfl rfl (any_of HT_.out (by kernel_rfl)) (fun _ _ _ h => h) (Or.inl ⟨by rfl, ?_⟩) ?_ ?_
            rotate_left
            · intro w'
              go_simp
              with_reducible rfl
            rotate_left
            · simp only [Act.put, List.setIfInBounds_toArray, List.set_cons_zero, List.set_cons_succ, i64_w, i32_w]
              rfl
            refine pure_ (i := 6) (N := some 63) (v := ?_) (a' := ?_) #[true, true, true, true, true, true, true, false, false, false, false, false, false, false, false, false, false, false, false, false, false, false, false, false] rfl rfl (any_of HT_.out (by kernel_rfl)) (fun _ _ _ h => h) (Or.inl ⟨by rfl, ?_⟩) ?_ ?_
            rotate_left
            · intro w'
              go_simp
              with_reducible rfl
            rotate_left
            · simp only [Act.put, List.setIfInBounds_toArray, List.set_cons_zero, List.set_cons_succ, i64_w, i32_w]
              rfl
            refine pure_ (i := 7) (N := some 64) (v := undef) (a' := ?_) #[true, true, true, true, true, true, true, true, false, false, false, false, false, false, false, false, false, false, false, false, false, false, false, false] rfl rfl (any_of HT_.out (by kernel_rfl)) (fun _ _ _ h => h) (Or.inr ⟨by rfl, rfl⟩) ?_ ?_
            rotate_left
            · simp only [Act.put, List.setIfInBounds_toArray, List.set_cons_zero, List.set_cons_succ, i64_w, i32_w]
              rfl
            refine pure_ (i := 8) (N := some 65) (v := undef) (a' := ?_) #[true, true, true, true, true, true, true, true, true, false, false, false, false, false, false, false, false, false, false, false, false, false, false, false] rfl rfl (any_of HT_.out (by kernel_rfl)) (fun _ _ _ h => h) (Or.inr ⟨by rfl, rfl⟩) ?_ ?_
            rotate_left
            · simp only [Act.put, List.setIfInBounds_toArray, List.set_cons_zero, List.set_cons_succ, i64_w, i32_w]
              rfl
            refine pure_ (i := 9) (N := some 66) (v := undef) (a' := ?_) #[true, true, true, true, true, true, true, true, true, true, false, false, false, false, false, false, false, false, false, false, false, false, false, false] rfl rfl (any_of HT_.out (by kernel_rfl)) (fun _ _ _ h => h) (Or.inr ⟨by rfl, rfl⟩) ?_ ?_
            rotate_left
            · simp only [Act.put, List.setIfInBounds_toArray, List.set_cons_zero, List.set_cons_succ, i64_w, i32_w]
              rfl
            refine pure_ (i := 10) (N := some 67) (v := undef) (a' := ?_) #[true, true, true, true, true, true, true, true, true, true, true, false, false, false, false, false, false, false, false, false, false, false, false, false] rfl rfl (any_of HT_.out (by kernel_rfl)) (fun _ _ _ h => h) (Or.inr ⟨by rfl, rfl⟩) ?_ ?_
            rotate_left
            · simp only [Act.put, List.setIfInBounds_toArray, List.set_cons_zero, List.set_cons_succ, i64_w, i32_w]
              rfl
            refine pure_ (i := 11) (N := some 68) (v := undef) (a' := ?_) #[true, true, true, true, true, true, true, true, true, true, true, true, false, false, false, false, false, false, false, false, false, false, false, false] rfl rfl (any_of HT_.out (by kernel_rfl)) (fun _ _ _ h => h) (Or.inr ⟨by rfl, rfl⟩) ?_ ?_
            rotate_left
            · simp only [Act.put, List.setIfInBounds_toArray, List.set_cons_zero, List.set_cons_succ, i64_w, i32_w]
              rfl
            refine pure_ (i := 12) (N := some 69) (v := ?_) (a' := ?_) #[true, true, true, true, true, true, true, true, true, true, true, true, true, false, false, false, false, false, false, false, false, false, false, false] rfl rfl (any_of HT_.out (by kernel_rfl)) (fun _ _ _ h => h) (Or.inl ⟨by rfl, ?_⟩) ?_ ?_
            rotate_left
            · intro w'
              go_simp
              with_reducible rfl
            rotate_left
            · simp only [Act.put, List.setIfInBounds_toArray, List.set_cons_zero, List.set_cons_succ, i64_w, i32_w]
              rfl
            refine pure_ (i := 13) (N := some 70) (v := ?_) (a' := ?_) #[true, true, true, true, true, true, true, true, true, true, true, true, true, true, false, false, false, false, false, false, false, false, false, false] rfl rfl (any_of HT_.out (by kernel_rfl)) (fun _ _ _ h => h) (Or.inl ⟨by rfl, ?_⟩) ?_ ?_
            rotate_left
            · intro w'
              go_simp
              with_reducible rfl
            rotate_left
            · simp only [Act.put, List.setIfInBounds_toArray, List.set_cons_zero, List.set_cons_succ, i64_w, i32_w]
              rfl
            refine pure_ (i := 14) (N := some 71) (v := undef) (a' := ?_) #[true, true, true, true, true, true, true, true, true, true, true, true, true, true, true, false, false, false, false, false, false, false, false, false] rfl rfl (any_of HT_.out (by kernel_rfl)) (fun _ _ _ h => h) (Or.inr ⟨by rfl, rfl⟩) ?_ ?_
            rotate_left
            · simp only [Act.put, List.setIfInBounds_toArray, List.set_cons_zero, List.set_cons_succ, i64_w, i32_w]
              rfl
            refine pure_ (i := 15) (N := some 72) (v := undef) (a' := ?_) #[true, true, true, true, true, true, true, true, true, true, true, true, true, true, true, true, false, false, false, false, false, false, false, false] rfl rfl (any_of HT_.out (by kernel_rfl)) (fun _ _ _ h => h) (Or.inr ⟨by rfl, rfl⟩) ?_ ?_
            rotate_left
            · simp only [Act.put, List.setIfInBounds_toArray, List.set_cons_zero, List.set_cons_succ, i64_w, i32_w]
              rfl
            refine pure_ (i := 16) (N := some 73) (v := undef) (a' := ?_) #[true, true, true, true, true, true, true, true, true, true, true, true, true, true, true, true, true, false, false, false, false, false, false, false] rfl rfl (any_of HT_.out (by kernel_rfl)) (fun _ _ _ h => h) (Or.inr ⟨by rfl, rfl⟩) ?_ ?_
            rotate_left
            · simp only [Act.put, List.setIfInBounds_toArray, List.set_cons_zero, List.set_cons_succ, i64_w, i32_w]
              rfl
            refine pure_ (i := 17) (N := some 74) (v := undef) (a' := ?_) #[true, true, true, true, true, true, true, true, true, true, true, true, true, true, true, true, true, true, false, false, false, false, false, false] rfl rfl (any_of HT_.out (by kernel_rfl)) (fun _ _ _ h => h) (Or.inr ⟨by rfl, rfl⟩) ?_ ?_
            rotate_left
            · simp only [Act.put, List.setIfInBounds_toArray, List.set_cons_zero, List.set_cons_succ, i64_w, i32_w]
              rfl
            refine pure_ (i := 18) (N := some 75) (v := undef) (a' := ?_) #[true, true, true, true, true, true, true, true, true, true, true, true, true, true, true, true, true, true, true, false, false, false, false, false] rfl rfl (any_of HT_.out (by kernel_rfl)) (fun _ _ _ h => h) (Or.inr ⟨by rfl, rfl⟩) ?_ ?_
            rotate_left
            · simp only [Act.put, List.setIfInBounds_toArray, List.set_cons_zero, List.set_cons_succ, i64_w, i32_w]
              rfl
            refine pure_ (i := 19) (N := some 76) (v := undef) (a' := ?_) #[true, true, true, true, true, true, true, true, true, true, true, true, true, true, true, true, true, true, true, true, false, false, false, false] rfl rfl (any_of HT_.out (by kernel_rfl)) (fun _ _ _ h => h) (Or.inr ⟨by rfl, rfl⟩) ?_ ?_
            rotate_left
            · simp only [Act.put, List.setIfInBounds_toArray, List.set_cons_zero, List.set_cons_succ, i64_w, i32_w]
              rfl
            refine pure_ (i := 20) (N := some 77) (v := undef) (a' := ?_) #[true, true, true, true, true, true, true, true, true, true, true, true, true, true, true, true, true, true, true, true, true, false, false, false] rfl rfl (any_of HT_.out (by kernel_rfl)) (fun _ _ _ h => h) (Or.inr ⟨by rfl, rfl⟩) ?_ ?_
            rotate_left
            · simp only [Act.put, List.setIfInBounds_toArray, List.set_cons_zero, List.set_cons_succ, i64_w, i32_w]
              rfl
            refine pure_ (i := 21) (N := some 78) (v := undef) (a' := ?_) #[true, true, true, true, true, true, true, true, true, true, true, true, true, true, true, true, true, true, true, true, true, true, false, false] rfl rfl (any_of HT_.out (by kernel_rfl)) (fun _ _ _ h => h) (Or.inr ⟨by rfl, rfl⟩) ?_ ?_
            rotate_left
            · simp only [Act.put, List.setIfInBounds_toArray, List.set_cons_zero, List.set_cons_succ, i64_w, i32_w]
              rfl
            refine pure_ (i := 22) (N := some 79) (v := undef) (a' := ?_) #[true, true, true, true, true, true, true, true, true, true, true, true, true, true, true, true, true, true, true, true, true, true, true, false] rfl rfl (any_of HT_.out (by kernel_rfl)) (fun _ _ _ h => h) (Or.inr ⟨by rfl, rfl⟩) ?_ ?_
            rotate_left
            · simp only [Act.put, List.setIfInBounds_toArray, List.set_cons_zero, List.set_cons_succ, i64_w, i32_w]
              rfl
            refine pure_ (i := 23) (N := some 80) (v := ?_) (a' := ?_) #[true, true, true, true, true, true, true, true, true, true, true, true, true, true, true, true, true, true, true, true, true, true, true, true] rfl rfl (any_of HT_.out (by kernel_rfl)) (fun _ _ _ h => h) (Or.inl ⟨by rfl, ?_⟩) ?_ ?_
            rotate_left
            · intro w'
              go_simp
              with_reducible rfl
            rotate_left
            · simp only [Act.put, List.setIfInBounds_toArray, List.set_cons_zero, List.set_cons_succ, i64_w, i32_w]
              rfl
            refine done_ (done_of HT_.out (by kernel_rfl)) ?_
            try go_wp2
            go_meet
            case rel => exact ⟨_, (true), (by first | rfl | (simp; done) | (simp [*]; done)), H', ⟨by first | omega | exact Nat.le_refl _⟩, ⟨by (with_reducible repeat (first | refine blk_drewN ?_ _ | refine blk_drew ?_ | refine blk_alloc ?_ _)); exact BK122.out⟩, ⟨by (with_reducible repeat (first | refine blk_drewN ?_ _ | refine blk_drew ?_ | refine blk_alloc ?_ _)); exact BK136.out⟩, ⟨by repeat (first | (with_reducible first | exact HB.out | apply below_alloc | apply pw_below_drewN | apply below_drew1 | refine below_set ?_ GE122.out | refine below_set ?_ GE136.out) | exact HB.out)⟩⟩
        · rw [if_neg c23] at H
          have c23b0 : (t130 == 0) = false := beq_eq_false_iff_ne.mpr c23
          have c23b1 : (t130 != 0) = true := bne_iff_ne.mpr c23
          (first | rw [c23b0] | (simp only [i64_w, i32_w]; rw [c23b0]) | skip)
          have H' := Aside0.mk H
          clear H
          try go_wp2
          have n0_ : Aside0 (Kd.R (Kd.int .u8) 5 ((w20.setCell ⟨gb136, 0, none⟩ (.string t133)).setCell ⟨gb136, 1, none⟩ (.string t134)) w.heap.size (fun k_ => some k_ ≠ (.slice Ao18 t129.length co18 : Value).ownBlock) (.slice Ao16 t123.length co16) t123) := ⟨by (with_reducible repeat (first | apply Kd.R_alloc | apply Kd.R_drewN | apply Kd.R_drew)); exact Kd.R_mono (Kd.R_far (p := ⟨gb136, 1, none⟩) (Kd.R_far (p := ⟨gb136, 0, none⟩) (Kd.R_types HO126.out BK136.out (by decide)) (fun _ hk => hk.2) (.string t133)) (fun _ hk => hk.2) (.string t134)) (fun _ hk => hk.1.2)⟩
          have n1_ : Aside0 (Kd.R (Kd.int .u8) 5 ((w20.setCell ⟨gb136, 0, none⟩ (.string t133)).setCell ⟨gb136, 1, none⟩ (.string t134)) w.heap.size (fun k_ => some k_ ≠ (.slice Ao16 t123.length co16 : Value).ownBlock) (.slice Ao18 t129.length co18) t129) := ⟨by (with_reducible repeat (first | apply Kd.R_alloc | apply Kd.R_drewN | apply Kd.R_drew)); exact Kd.R_mono (Kd.R_far (p := ⟨gb136, 1, none⟩) (Kd.R_far (p := ⟨gb136, 0, none⟩) (Kd.R_types HO132.out BK136.out (by decide)) (fun _ hk => hk.2) (.string t133)) (fun _ hk => hk.2) (.string t134)) (fun _ hk => hk.1.2)⟩
          have n2_ : Aside0 (((w20.setCell ⟨gb136, 0, none⟩ (.string t133)).setCell ⟨gb136, 1, none⟩ (.string t134)).heap[gb122]? = some (.cells #[.int .u8 t105, .int .u8 t106, .int .u8 t107, .int .u8 t108, .int .u8 t109, .string t110, .string t111, .string t112, .string t113, .string t114, .string t115, .string t116, .string t117, .string t118, .string t119] 25 (0, 0))) := ⟨by (with_reducible repeat (first | refine blk_drewN ?_ _ | refine blk_drew ?_ | refine blk_alloc ?_ _)); refine blk_far ?_ NB122_136.out _; (with_reducible repeat (first | refine blk_drewN ?_ _ | refine blk_drew ?_ | refine blk_alloc ?_ _)); refine blk_far ?_ NB122_136.out _; (with_reducible repeat (first | refine blk_drewN ?_ _ | refine blk_drew ?_ | refine blk_alloc ?_ _)); exact BK122.out⟩
          have n3_ : Aside0 (((w20.setCell ⟨gb136, 0, none⟩ (.string t133)).setCell ⟨gb136, 1, none⟩ (.string t134)).heap[gb136]? = some (.cells #[.string t133, .string t134] 47 (0, 0))) := ⟨by (with_reducible repeat (first | refine blk_drewN ?_ _ | refine blk_drew ?_ | refine blk_alloc ?_ _)); refine blk_put (cs := #[.string t133, .string (⟨#[]⟩ : ByteArray)]) ?_ 1 _ rfl; (with_reducible repeat (first | refine blk_drewN ?_ _ | refine blk_drew ?_ | refine blk_alloc ?_ _)); refine blk_put (cs := #[.string (⟨#[]⟩ : ByteArray), .string (⟨#[]⟩ : ByteArray)]) ?_ 0 _ rfl; (with_reducible repeat (first | refine blk_drewN ?_ _ | refine blk_drew ?_ | refine blk_alloc ?_ _)); exact BK136.out⟩
          have n4_ : Aside0 (Below w.heap.size w ((w20.setCell ⟨gb136, 0, none⟩ (.string t133)).setCell ⟨gb136, 1, none⟩ (.string t134))) := ⟨by repeat (first | (with_reducible first | exact HB.out | apply below_alloc | apply pw_below_drewN | apply below_drew1 | refine below_set ?_ GE122.out | refine below_set ?_ GE136.out) | exact HB.out)⟩
          (try clear HO126)
          (try clear HO132)
          (try clear BK122)
          (try clear BK136)
          (try clear HB)
          generalize ((w20.setCell ⟨gb136, 0, none⟩ (.string t133)).setCell ⟨gb136, 1, none⟩ (.string t134)) = w37 at n0_ n1_ n2_ n3_ n4_ ⊢
          have HO126 := n0_
          have HO132 := n1_
          have BK122 := n2_
          have BK136 := n3_
          have HB := n4_
          clear n0_ n1_ n2_ n3_ n4_
          have n0_ := Aside0.mk (Kd.R_drew HO126.out)
          have n1_ := Aside0.mk (Kd.R_drew HO132.out)
          have n2_ := Aside0.mk (blk_drew BK122.out)
          have n3_ := Aside0.mk (blk_drew BK136.out)
          have n4_ := Aside0.mk (below_drew1 HB.out)
          clear HO126
          clear HO132
          clear BK122
          clear BK136
          clear HB
          have HO126 := n0_
          have HO132 := n1_
          have BK122 := n2_
          have BK136 := n3_
          have HB := n4_
          clear n0_ n1_ n2_ n3_ n4_
          refine start_ (n := 24) (S := fun w' => True) (ds := []) #[false, false, false, false, false, false, false, false, false, false, false, false, false, false, false, false, false, false, false, false, false, false, false, false] (by kernel_rfl) rfl rfl trivial (fun hHeld => ?_); refine with_tabW lamplighterlaw11_AcceptAnswers.tab9 lamplighterlaw11_AcceptAnswers.bits9 (fun HT_ HW_ => ?_)
          generalize w37.drew = w38 at HO126 HO132 BK122 BK136 HB hHeld ⊢
          refine pure_ (i := 0) (N := some 57) (v := ?_) (a' := ?_) #[true, false, false, false, false, false, false, false, false, false, false, false, false, false, false, false, false, false, false, false, false, false, false, false] rfl rfl (any_of HT_.out (by kernel_rfl)) (fun _ _ _ h => h) (Or.inl ⟨by rfl, ?_⟩) ?_ ?_
          rotate_left
          · intro w'
            go_simp
            with_reducible rfl
          rotate_left
          · simp only [Act.put, List.setIfInBounds_toArray, List.set_cons_zero, List.set_cons_succ, i64_w, i32_w]
            rfl
          refine pure_ (i := 1) (N := some 58) (v := ?_) (a' := ?_) #[true, true, false, false, false, false, false, false, false, false, false, false, false, false, false, false, false, false, false, false, false, false, false, false] rfl rfl (any_of HT_.out (by kernel_rfl)) (fun _ _ _ h => h) (Or.inl ⟨by rfl, ?_⟩) ?_ ?_
          rotate_left
          · intro w'
            go_simp
            with_reducible rfl
          rotate_left
          · simp only [Act.put, List.setIfInBounds_toArray, List.set_cons_zero, List.set_cons_succ, i64_w, i32_w]
            rfl
          refine pure_ (i := 2) (N := some 59) (v := ?_) (a' := ?_) #[true, true, true, false, false, false, false, false, false, false, false, false, false, false, false, false, false, false, false, false, false, false, false, false] rfl rfl (any_of HT_.out (by kernel_rfl)) (fun _ _ _ h => h) (Or.inl ⟨by rfl, ?_⟩) ?_ ?_
          rotate_left
          · intro w'
            go_simp
            with_reducible rfl
          rotate_left
          · simp only [Act.put, List.setIfInBounds_toArray, List.set_cons_zero, List.set_cons_succ, i64_w, i32_w]
            rfl
          refine pure_ (i := 3) (N := some 60) (v := undef) (a' := ?_) #[true, true, true, true, false, false, false, false, false, false, false, false, false, false, false, false, false, false, false, false, false, false, false, false] rfl rfl (any_of HT_.out (by kernel_rfl)) (fun _ _ _ h => h) (Or.inr ⟨by rfl, rfl⟩) ?_ ?_
          rotate_left
          · simp only [Act.put, List.setIfInBounds_toArray, List.set_cons_zero, List.set_cons_succ, i64_w, i32_w]
            rfl
          refine pure_ (i := 4) (N := some 61) (v := undef) (a' := ?_) #[true, true, true, true, true, false, false, false, false, false, false, false, false, false, false, false, false, false, false, false, false, false, false, false] rfl rfl (any_of HT_.out (by kernel_rfl)) (fun _ _ _ h => h) (Or.inr ⟨by rfl, rfl⟩) ?_ ?_
          rotate_left
          · simp only [Act.put, List.setIfInBounds_toArray, List.set_cons_zero, List.set_cons_succ, i64_w, i32_w]
            rfl
          refine pure_ (i := 5) (N := some 62) (v := ?_) (a' := ?_) #[true, true, true, true, true, true, false, false, false, false, false, false, false, false, false, false, false, false, false, false, false, false, false, false] rfl rfl (any_of HT_.out (by kernel_rfl)) (fun _ _ _ h => h) (Or.inl ⟨by rfl, ?_⟩) ?_ ?_
          rotate_left
          · intro w'
            go_simp
            with_reducible rfl
          rotate_left
          · simp only [Act.put, List.setIfInBounds_toArray, List.set_cons_zero, List.set_cons_succ, i64_w, i32_w]
            rfl
          refine pure_ (i := 6) (N := some 63) (v := ?_) (a' := ?_) #[true, true, true, true, true, true, true, false, false, false, false, false, false, false, false, false, false, false, false, false, false, false, false, false] rfl rfl (any_of HT_.out (by kernel_rfl)) (fun _ _ _ h => h) (Or.inl ⟨by rfl, ?_⟩) ?_ ?_
          rotate_left
          · intro w'
            go_simp
            with_reducible rfl
          rotate_left
          · simp only [Act.put, List.setIfInBounds_toArray, List.set_cons_zero, List.set_cons_succ, i64_w, i32_w]
            rfl
          refine pure_ (i := 7) (N := some 64) (v := undef) (a' := ?_) #[true, true, true, true, true, true, true, true, false, false, false, false, false, false, false, false, false, false, false, false, false, false, false, false] rfl rfl (any_of HT_.out (by kernel_rfl)) (fun _ _ _ h => h) (Or.inr ⟨by rfl, rfl⟩) ?_ ?_
          rotate_left
          · simp only [Act.put, List.setIfInBounds_toArray, List.set_cons_zero, List.set_cons_succ, i64_w, i32_w]
            rfl
          refine pure_ (i := 8) (N := some 65) (v := undef) (a' := ?_) #[true, true, true, true, true, true, true, true, true, false, false, false, false, false, false, false, false, false, false, false, false, false, false, false] rfl rfl (any_of HT_.out (by kernel_rfl)) (fun _ _ _ h => h) (Or.inr ⟨by rfl, rfl⟩) ?_ ?_
          rotate_left
          · simp only [Act.put, List.setIfInBounds_toArray, List.set_cons_zero, List.set_cons_succ, i64_w, i32_w]
            rfl
          refine pure_ (i := 9) (N := some 66) (v := undef) (a' := ?_) #[true, true, true, true, true, true, true, true, true, true, false, false, false, false, false, false, false, false, false, false, false, false, false, false] rfl rfl (any_of HT_.out (by kernel_rfl)) (fun _ _ _ h => h) (Or.inr ⟨by rfl, rfl⟩) ?_ ?_
          rotate_left
          · simp only [Act.put, List.setIfInBounds_toArray, List.set_cons_zero, List.set_cons_succ, i64_w, i32_w]
            rfl
          refine pure_ (i := 10) (N := some 67) (v := undef) (a' := ?_) #[true, true, true, true, true, true, true, true, true, true, true, false, false, false, false, false, false, false, false, false, false, false, false, false] rfl rfl (any_of HT_.out (by kernel_rfl)) (fun _ _ _ h => h) (Or.inr ⟨by rfl, rfl⟩) ?_ ?_
          rotate_left
          · simp only [Act.put, List.setIfInBounds_toArray, List.set_cons_zero, List.set_cons_succ, i64_w, i32_w]
            rfl
          refine pure_ (i := 11) (N := some 68) (v := undef) (a' := ?_) #[true, true, true, true, true, true, true, true, true, true, true, true, false, false, false, false, false, false, false, false, false, false, false, false] rfl rfl (any_of HT_.out (by kernel_rfl)) (fun _ _ _ h => h) (Or.inr ⟨by rfl, rfl⟩) ?_ ?_
          rotate_left
          · simp only [Act.put, List.setIfInBounds_toArray, List.set_cons_zero, List.set_cons_succ, i64_w, i32_w]
            rfl
          refine pure_ (i := 12) (N := some 69) (v := ?_) (a' := ?_) #[true, true, true, true, true, true, true, true, true, true, true, true, true, false, false, false, false, false, false, false, false, false, false, false] rfl rfl (any_of HT_.out (by kernel_rfl)) (fun _ _ _ h => h) (Or.inl ⟨by rfl, ?_⟩) ?_ ?_
          rotate_left
          · intro w'
            go_simp
            with_reducible rfl
          rotate_left
          · simp only [Act.put, List.setIfInBounds_toArray, List.set_cons_zero, List.set_cons_succ, i64_w, i32_w]
            rfl
          refine pure_ (i := 13) (N := some 70) (v := ?_) (a' := ?_) #[true, true, true, true, true, true, true, true, true, true, true, true, true, true, false, false, false, false, false, false, false, false, false, false] rfl rfl (any_of HT_.out (by kernel_rfl)) (fun _ _ _ h => h) (Or.inl ⟨by rfl, ?_⟩) ?_ ?_
          rotate_left
          · intro w'
            go_simp
            with_reducible rfl
          rotate_left
          · simp only [Act.put, List.setIfInBounds_toArray, List.set_cons_zero, List.set_cons_succ, i64_w, i32_w]
            rfl
          refine pure_ (i := 14) (N := some 71) (v := undef) (a' := ?_) #[true, true, true, true, true, true, true, true, true, true, true, true, true, true, true, false, false, false, false, false, false, false, false, false] rfl rfl (any_of HT_.out (by kernel_rfl)) (fun _ _ _ h => h) (Or.inr ⟨by rfl, rfl⟩) ?_ ?_
          rotate_left
          · simp only [Act.put, List.setIfInBounds_toArray, List.set_cons_zero, List.set_cons_succ, i64_w, i32_w]
            rfl
          refine pure_ (i := 15) (N := some 72) (v := undef) (a' := ?_) #[true, true, true, true, true, true, true, true, true, true, true, true, true, true, true, true, false, false, false, false, false, false, false, false] rfl rfl (any_of HT_.out (by kernel_rfl)) (fun _ _ _ h => h) (Or.inr ⟨by rfl, rfl⟩) ?_ ?_
          rotate_left
          · simp only [Act.put, List.setIfInBounds_toArray, List.set_cons_zero, List.set_cons_succ, i64_w, i32_w]
            rfl
          refine pure_ (i := 16) (N := some 73) (v := undef) (a' := ?_) #[true, true, true, true, true, true, true, true, true, true, true, true, true, true, true, true, true, false, false, false, false, false, false, false] rfl rfl (any_of HT_.out (by kernel_rfl)) (fun _ _ _ h => h) (Or.inr ⟨by rfl, rfl⟩) ?_ ?_
          rotate_left
          · simp only [Act.put, List.setIfInBounds_toArray, List.set_cons_zero, List.set_cons_succ, i64_w, i32_w]
            rfl
          refine pure_ (i := 17) (N := some 74) (v := undef) (a' := ?_) #[true, true, true, true, true, true, true, true, true, true, true, true, true, true, true, true, true, true, false, false, false, false, false, false] rfl rfl (any_of HT_.out (by kernel_rfl)) (fun _ _ _ h => h) (Or.inr ⟨by rfl, rfl⟩) ?_ ?_
          rotate_left
          · simp only [Act.put, List.setIfInBounds_toArray, List.set_cons_zero, List.set_cons_succ, i64_w, i32_w]
            rfl
          refine pure_ (i := 18) (N := some 75) (v := undef) (a' := ?_) #[true, true, true, true, true, true, true, true, true, true, true, true, true, true, true, true, true, true, true, false, false, false, false, false] rfl rfl (any_of HT_.out (by kernel_rfl)) (fun _ _ _ h => h) (Or.inr ⟨by rfl, rfl⟩) ?_ ?_
          rotate_left
          · simp only [Act.put, List.setIfInBounds_toArray, List.set_cons_zero, List.set_cons_succ, i64_w, i32_w]
            rfl
          refine pure_ (i := 19) (N := some 76) (v := undef) (a' := ?_) #[true, true, true, true, true, true, true, true, true, true, true, true, true, true, true, true, true, true, true, true, false, false, false, false] rfl rfl (any_of HT_.out (by kernel_rfl)) (fun _ _ _ h => h) (Or.inr ⟨by rfl, rfl⟩) ?_ ?_
          rotate_left
          · simp only [Act.put, List.setIfInBounds_toArray, List.set_cons_zero, List.set_cons_succ, i64_w, i32_w]
            rfl
          refine pure_ (i := 20) (N := some 77) (v := undef) (a' := ?_) #[true, true, true, true, true, true, true, true, true, true, true, true, true, true, true, true, true, true, true, true, true, false, false, false] rfl rfl (any_of HT_.out (by kernel_rfl)) (fun _ _ _ h => h) (Or.inr ⟨by rfl, rfl⟩) ?_ ?_
          rotate_left
          · simp only [Act.put, List.setIfInBounds_toArray, List.set_cons_zero, List.set_cons_succ, i64_w, i32_w]
            rfl
          refine pure_ (i := 21) (N := some 78) (v := undef) (a' := ?_) #[true, true, true, true, true, true, true, true, true, true, true, true, true, true, true, true, true, true, true, true, true, true, false, false] rfl rfl (any_of HT_.out (by kernel_rfl)) (fun _ _ _ h => h) (Or.inr ⟨by rfl, rfl⟩) ?_ ?_
          rotate_left
          · simp only [Act.put, List.setIfInBounds_toArray, List.set_cons_zero, List.set_cons_succ, i64_w, i32_w]
            rfl
          refine pure_ (i := 22) (N := some 79) (v := undef) (a' := ?_) #[true, true, true, true, true, true, true, true, true, true, true, true, true, true, true, true, true, true, true, true, true, true, true, false] rfl rfl (any_of HT_.out (by kernel_rfl)) (fun _ _ _ h => h) (Or.inr ⟨by rfl, rfl⟩) ?_ ?_
          rotate_left
          · simp only [Act.put, List.setIfInBounds_toArray, List.set_cons_zero, List.set_cons_succ, i64_w, i32_w]
            rfl
          refine pure_ (i := 23) (N := some 80) (v := ?_) (a' := ?_) #[true, true, true, true, true, true, true, true, true, true, true, true, true, true, true, true, true, true, true, true, true, true, true, true] rfl rfl (any_of HT_.out (by kernel_rfl)) (fun _ _ _ h => h) (Or.inl ⟨by rfl, ?_⟩) ?_ ?_
          rotate_left
          · intro w'
            go_simp
            with_reducible rfl
          rotate_left
          · simp only [Act.put, List.setIfInBounds_toArray, List.set_cons_zero, List.set_cons_succ, i64_w, i32_w]
            rfl
          refine done_ (done_of HT_.out (by kernel_rfl)) ?_
          try go_wp2
          go_meet
          case rel => exact ⟨_, (true), (by first | rfl | (simp; done) | (simp [*]; done)), H', ⟨by first | omega | exact Nat.le_refl _⟩, ⟨by (with_reducible repeat (first | refine blk_drewN ?_ _ | refine blk_drew ?_ | refine blk_alloc ?_ _)); exact BK122.out⟩, ⟨by (with_reducible repeat (first | refine blk_drewN ?_ _ | refine blk_drew ?_ | refine blk_alloc ?_ _)); exact BK136.out⟩, ⟨by repeat (first | (with_reducible first | exact HB.out | apply below_alloc | apply pw_below_drewN | apply below_drew1 | refine below_set ?_ GE122.out | refine below_set ?_ GE136.out) | exact HB.out)⟩⟩
      case rest =>
        clear HC11
        try clear c2
        try clear p2
        try clear c23
        try clear c23b0
        try clear c23b1
        try clear c24
        try clear c24b0
        try clear c24b1
        try clear c25
        try clear c25b0
        try clear c25b1
        obtain ⟨kq, x80_10, rfl, HA, HJ10, BK122, BK136, HB⟩ := hcut
        cases kq with
        | zero => exact absurd HA.out (by simp [lamplighterlaw11_AcceptAnswers.j0])
        | succ kj10 =>
          have H := HA.out
          clear HA
          simp only [lamplighterlaw11_AcceptAnswers.j0] at H
          by_cases c39 : x80_10 = true
          · subst c39
            have H1 : (some false) = some r := by rw [if_pos rfl] at H; exact H
            clear H
            have H := H1
            clear H1
            obtain rfl := Option.some.inj H
            go_wp2
            go_ret
            exact ⟨by first | rfl | (simp [errW_none, errW_some] <;> rfl) | (simp [*, errW_none, errW_some] <;> rfl), by repeat (first | (with_reducible first | exact HB.out | apply below_alloc | apply pw_below_drewN | apply below_drew1 | refine below_set ?_ GE122.out | refine below_set ?_ GE136.out) | exact HB.out)⟩
          · replace c39 := Bool.eq_false_iff.mpr c39
            subst c39
            have H1 : ((law_alive.f).bind fun t138 => (if t138 = true then ((QStored.accept_Stored.f l0).bind fun t139 => (if (t139 == (t121 == 0)) = true then (if t120.toList = t133.toList then (some true) else (if t120.toList = ([65, 65] : List UInt8) then (some (t133.toList == ([65, 69] : List UInt8))) else (some false))) else (some false))) else (some false))) = some r := by rw [if_neg (show ¬ (false = true) by decide)] at H; exact H
            clear H
            have H := H1
            clear H1
            replace H := Option.bind_eq_some_iff.mp H
            obtain ⟨t138, A400, H⟩ := H
            replace H : (if t138 = true then ((QStored.accept_Stored.f l0).bind fun t139 => (if (t139 == (t121 == 0)) = true then (if t120.toList = t133.toList then (some true) else (if t120.toList = ([65, 65] : List UInt8) then (some (t133.toList == ([65, 69] : List UInt8))) else (some false))) else (some false))) else (some false)) = some r := H
            have A40 := Aside0.mk A400
            clear A400
            by_cases c41 : t138 = true
            · subst c41
              have H1 : ((QStored.accept_Stored.f l0).bind fun t139 => (if (t139 == (t121 == 0)) = true then (if t120.toList = t133.toList then (some true) else (if t120.toList = ([65, 65] : List UInt8) then (some (t133.toList == ([65, 69] : List UInt8))) else (some false))) else (some false))) = some r := by rw [if_pos rfl] at H; exact H
              clear H
              have H := H1
              clear H1
              replace H := Option.bind_eq_some_iff.mp H
              obtain ⟨t139, A420, H⟩ := H
              replace H : (if (t139 == (t121 == 0)) = true then (if t120.toList = t133.toList then (some true) else (if t120.toList = ([65, 65] : List UInt8) then (some (t133.toList == ([65, 69] : List UInt8))) else (some false))) else (some false)) = some r := H
              have A42 := Aside0.mk A420
              clear A420
              by_cases c43 : (t139 == (t121 == 0)) = true
              · rw [if_pos c43] at H
                have c43b0 : (t139 == (t121 == 0)) = true := c43
                (try (have c43b1 : decide (t139 = (t121 == 0)) = true := by simpa using c43))
                (try (have c43b2 : (t139 == (t121 == 0)) = true := by simpa using c43))
                clear c43
                by_cases c44 : t120.toList = t133.toList
                · rw [if_pos c44] at H
                  have c44b0 : (t120.toList == t133.toList) = true := beq_iff_eq.mpr c44
                  have c44b1 : (t120.toList != t133.toList) = false := bne_eq_false_iff_eq.mpr c44
                  clear c44
                  obtain rfl := Option.some.inj H
                  go_wp2_with (first | ((with_reducible refine gate_callee (f := 9) rfl ?_); refine goesL_ (some 81) rfl rfl Tryd.func9 (by kernel_rfl) rfl #[] rfl (by (try simp only [List.map_toArray, List.map_cons, List.map_nil]); first | done | rfl | (simp only [List.length_drop, List.length_take]; rfl)) ?_; (with_reducible refine (law_alive.calls  true _ ?side1 A40.out).mono ?_); (case side1 => exact GlobA.below HG.out (by repeat (first | (with_reducible first | exact HB.out | apply below_alloc | apply pw_below_drewN | apply below_drew1 | refine below_set ?_ GE122.out | refine below_set ?_ GE136.out) | exact HB.out))); rintro e w45 ⟨rfl, hb⟩; refine ⟨_, rfl, ?_⟩; have n0_ := Aside0.mk (blk_below (g := gb122) (o := .cells #[.int .u8 t105, .int .u8 t106, .int .u8 t107, .int .u8 t108, .int .u8 t109, .string t110, .string t111, .string t112, .string t113, .string t114, .string t115, .string t116, .string t117, .string t118, .string t119] 25 (0, 0)) (by (with_reducible repeat (first | refine blk_drewN ?_ _ | refine blk_drew ?_ | refine blk_alloc ?_ _)); exact BK122.out) hb); have n1_ := Aside0.mk (blk_below (g := gb136) (o := .cells #[.string t133, .string t134] 47 (0, 0)) (by (with_reducible repeat (first | refine blk_drewN ?_ _ | refine blk_drew ?_ | refine blk_alloc ?_ _)); exact BK136.out) hb); have n2_ := Aside0.mk (below_step (by repeat (first | (with_reducible first | exact HB.out | apply below_alloc | apply pw_below_drewN | apply below_drew1 | refine below_set ?_ GE122.out | refine below_set ?_ GE136.out) | exact HB.out)) hb); clear BK122; clear BK136; clear HB; have BK122 := n0_; have BK136 := n1_; have HB := n2_; clear n0_ n1_ n2_; (try clear hb); (try clear hb2); (try clear hk); (try clear hi)) | (go_at_call 13; (with_reducible refine (QStored.accept_Stored.calls _ _ l0 t139 _ ?side3 ?side1 ?side2 A42.out).mono ?_); (case side1 => repeat (first | exact (Kd.C_below HR0.out HB.out) | (with_reducible refine Kd.C_alloc ?_ _) | (with_reducible refine Kd.C_drewN ?_ _) | (with_reducible refine Kd.C_drew ?_))); (case side2 => exact HC0.out); (case side3 => exact GlobA.below HG.out (by repeat (first | (with_reducible first | exact HB.out | apply below_alloc | apply pw_below_drewN | apply below_drew1 | refine below_set ?_ GE122.out | refine below_set ?_ GE136.out) | exact HB.out))); rintro e w46 ⟨rfl, hb⟩; have n0_ := Aside0.mk (blk_below (g := gb122) (o := .cells #[.int .u8 t105, .int .u8 t106, .int .u8 t107, .int .u8 t108, .int .u8 t109, .string t110, .string t111, .string t112, .string t113, .string t114, .string t115, .string t116, .string t117, .string t118, .string t119] 25 (0, 0)) (by (with_reducible repeat (first | refine blk_drewN ?_ _ | refine blk_drew ?_ | refine blk_alloc ?_ _)); exact BK122.out) hb); have n1_ := Aside0.mk (blk_below (g := gb136) (o := .cells #[.string t133, .string t134] 47 (0, 0)) (by (with_reducible repeat (first | refine blk_drewN ?_ _ | refine blk_drew ?_ | refine blk_alloc ?_ _)); exact BK136.out) hb); have n2_ := Aside0.mk (below_step (by repeat (first | (with_reducible first | exact HB.out | apply below_alloc | apply pw_below_drewN | apply below_drew1 | refine below_set ?_ GE122.out | refine below_set ?_ GE136.out) | exact HB.out)) hb); clear BK122; clear BK136; clear HB; have BK122 := n0_; have BK136 := n1_; have HB := n2_; clear n0_ n1_ n2_; (try clear hb); (try clear hb2); (try clear hk); (try clear hi); have hnb47 := NB136_122.out; have hnc47 := NB122_136.out; have hcz48_0 : w46.cell? ⟨gb136, 0, none⟩ = some (.string t133) := (blk_cell BK136.out 0).trans rfl; have hcz48_1 : w46.cell? ⟨gb136, 1, none⟩ = some (.string t134) := (blk_cell BK136.out 1).trans rfl; have hfz48_0 := blk_frozen BK136.out 0; have hfz48_1 := blk_frozen BK136.out 1))
                  go_ret
                  exact ⟨by first | rfl | (simp [errW_none, errW_some] <;> rfl) | (simp [*, errW_none, errW_some] <;> rfl), by repeat (first | (with_reducible first | exact HB.out | apply below_alloc | apply pw_below_drewN | apply below_drew1 | refine below_set ?_ GE122.out | refine below_set ?_ GE136.out) | exact HB.out)⟩
                · rw [if_neg c44] at H
                  have c44b0 : (t120.toList == t133.toList) = false := beq_eq_false_iff_ne.mpr c44
                  have c44b1 : (t120.toList != t133.toList) = true := bne_iff_ne.mpr c44
                  by_cases c49 : t120.toList = ([65, 65] : List UInt8)
                  · rw [if_pos c49] at H
                    have c49b0 : (t120.toList == ([65, 65] : List UInt8)) = true := beq_iff_eq.mpr c49
                    have c49b1 : (t120.toList != ([65, 65] : List UInt8)) = false := bne_eq_false_iff_eq.mpr c49
                    clear c49
                    obtain rfl := Option.some.inj H
                    go_wp2_with (first | ((with_reducible refine gate_callee (f := 9) rfl ?_); refine goesL_ (some 81) rfl rfl Tryd.func9 (by kernel_rfl) rfl #[] rfl (by (try simp only [List.map_toArray, List.map_cons, List.map_nil]); first | done | rfl | (simp only [List.length_drop, List.length_take]; rfl)) ?_; (with_reducible refine (law_alive.calls  true _ ?side1 A40.out).mono ?_); (case side1 => exact GlobA.below HG.out (by repeat (first | (with_reducible first | exact HB.out | apply below_alloc | apply pw_below_drewN | apply below_drew1 | refine below_set ?_ GE122.out | refine below_set ?_ GE136.out) | exact HB.out))); rintro e w50 ⟨rfl, hb⟩; refine ⟨_, rfl, ?_⟩; have n0_ := Aside0.mk (blk_below (g := gb122) (o := .cells #[.int .u8 t105, .int .u8 t106, .int .u8 t107, .int .u8 t108, .int .u8 t109, .string t110, .string t111, .string t112, .string t113, .string t114, .string t115, .string t116, .string t117, .string t118, .string t119] 25 (0, 0)) (by (with_reducible repeat (first | refine blk_drewN ?_ _ | refine blk_drew ?_ | refine blk_alloc ?_ _)); exact BK122.out) hb); have n1_ := Aside0.mk (blk_below (g := gb136) (o := .cells #[.string t133, .string t134] 47 (0, 0)) (by (with_reducible repeat (first | refine blk_drewN ?_ _ | refine blk_drew ?_ | refine blk_alloc ?_ _)); exact BK136.out) hb); have n2_ := Aside0.mk (below_step (by repeat (first | (with_reducible first | exact HB.out | apply below_alloc | apply pw_below_drewN | apply below_drew1 | refine below_set ?_ GE122.out | refine below_set ?_ GE136.out) | exact HB.out)) hb); clear BK122; clear BK136; clear HB; have BK122 := n0_; have BK136 := n1_; have HB := n2_; clear n0_ n1_ n2_; (try clear hb); (try clear hb2); (try clear hk); (try clear hi)) | (go_at_call 13; (with_reducible refine (QStored.accept_Stored.calls _ _ l0 t139 _ ?side3 ?side1 ?side2 A42.out).mono ?_); (case side1 => repeat (first | exact (Kd.C_below HR0.out HB.out) | (with_reducible refine Kd.C_alloc ?_ _) | (with_reducible refine Kd.C_drewN ?_ _) | (with_reducible refine Kd.C_drew ?_))); (case side2 => exact HC0.out); (case side3 => exact GlobA.below HG.out (by repeat (first | (with_reducible first | exact HB.out | apply below_alloc | apply pw_below_drewN | apply below_drew1 | refine below_set ?_ GE122.out | refine below_set ?_ GE136.out) | exact HB.out))); rintro e w51 ⟨rfl, hb⟩; have n0_ := Aside0.mk (blk_below (g := gb122) (o := .cells #[.int .u8 t105, .int .u8 t106, .int .u8 t107, .int .u8 t108, .int .u8 t109, .string t110, .string t111, .string t112, .string t113, .string t114, .string t115, .string t116, .string t117, .string t118, .string t119] 25 (0, 0)) (by (with_reducible repeat (first | refine blk_drewN ?_ _ | refine blk_drew ?_ | refine blk_alloc ?_ _)); exact BK122.out) hb); have n1_ := Aside0.mk (blk_below (g := gb136) (o := .cells #[.string t133, .string t134] 47 (0, 0)) (by (with_reducible repeat (first | refine blk_drewN ?_ _ | refine blk_drew ?_ | refine blk_alloc ?_ _)); exact BK136.out) hb); have n2_ := Aside0.mk (below_step (by repeat (first | (with_reducible first | exact HB.out | apply below_alloc | apply pw_below_drewN | apply below_drew1 | refine below_set ?_ GE122.out | refine below_set ?_ GE136.out) | exact HB.out)) hb); clear BK122; clear BK136; clear HB; have BK122 := n0_; have BK136 := n1_; have HB := n2_; clear n0_ n1_ n2_; (try clear hb); (try clear hb2); (try clear hk); (try clear hi); have hnb52 := NB136_122.out; have hnc52 := NB122_136.out; have hcz53_0 : w51.cell? ⟨gb136, 0, none⟩ = some (.string t133) := (blk_cell BK136.out 0).trans rfl; have hcz53_1 : w51.cell? ⟨gb136, 1, none⟩ = some (.string t134) := (blk_cell BK136.out 1).trans rfl; have hfz53_0 := blk_frozen BK136.out 0; have hfz53_1 := blk_frozen BK136.out 1))
                    go_ret
                    exact ⟨by first | rfl | (simp [errW_none, errW_some] <;> rfl) | (simp [*, errW_none, errW_some] <;> rfl), by repeat (first | (with_reducible first | exact HB.out | apply below_alloc | apply pw_below_drewN | apply below_drew1 | refine below_set ?_ GE122.out | refine below_set ?_ GE136.out) | exact HB.out)⟩
                  · rw [if_neg c49] at H
                    have c49b0 : (t120.toList == ([65, 65] : List UInt8)) = false := beq_eq_false_iff_ne.mpr c49
                    have c49b1 : (t120.toList != ([65, 65] : List UInt8)) = true := bne_iff_ne.mpr c49
                    obtain rfl := Option.some.inj H
                    go_wp2_with (first | ((with_reducible refine gate_callee (f := 9) rfl ?_); refine goesL_ (some 81) rfl rfl Tryd.func9 (by kernel_rfl) rfl #[] rfl (by (try simp only [List.map_toArray, List.map_cons, List.map_nil]); first | done | rfl | (simp only [List.length_drop, List.length_take]; rfl)) ?_; (with_reducible refine (law_alive.calls  true _ ?side1 A40.out).mono ?_); (case side1 => exact GlobA.below HG.out (by repeat (first | (with_reducible first | exact HB.out | apply below_alloc | apply pw_below_drewN | apply below_drew1 | refine below_set ?_ GE122.out | refine below_set ?_ GE136.out) | exact HB.out))); rintro e w54 ⟨rfl, hb⟩; refine ⟨_, rfl, ?_⟩; have n0_ := Aside0.mk (blk_below (g := gb122) (o := .cells #[.int .u8 t105, .int .u8 t106, .int .u8 t107, .int .u8 t108, .int .u8 t109, .string t110, .string t111, .string t112, .string t113, .string t114, .string t115, .string t116, .string t117, .string t118, .string t119] 25 (0, 0)) (by (with_reducible repeat (first | refine blk_drewN ?_ _ | refine blk_drew ?_ | refine blk_alloc ?_ _)); exact BK122.out) hb); have n1_ := Aside0.mk (blk_below (g := gb136) (o := .cells #[.string t133, .string t134] 47 (0, 0)) (by (with_reducible repeat (first | refine blk_drewN ?_ _ | refine blk_drew ?_ | refine blk_alloc ?_ _)); exact BK136.out) hb); have n2_ := Aside0.mk (below_step (by repeat (first | (with_reducible first | exact HB.out | apply below_alloc | apply pw_below_drewN | apply below_drew1 | refine below_set ?_ GE122.out | refine below_set ?_ GE136.out) | exact HB.out)) hb); clear BK122; clear BK136; clear HB; have BK122 := n0_; have BK136 := n1_; have HB := n2_; clear n0_ n1_ n2_; (try clear hb); (try clear hb2); (try clear hk); (try clear hi)) | (go_at_call 13; (with_reducible refine (QStored.accept_Stored.calls _ _ l0 t139 _ ?side3 ?side1 ?side2 A42.out).mono ?_); (case side1 => repeat (first | exact (Kd.C_below HR0.out HB.out) | (with_reducible refine Kd.C_alloc ?_ _) | (with_reducible refine Kd.C_drewN ?_ _) | (with_reducible refine Kd.C_drew ?_))); (case side2 => exact HC0.out); (case side3 => exact GlobA.below HG.out (by repeat (first | (with_reducible first | exact HB.out | apply below_alloc | apply pw_below_drewN | apply below_drew1 | refine below_set ?_ GE122.out | refine below_set ?_ GE136.out) | exact HB.out))); rintro e w55 ⟨rfl, hb⟩; have n0_ := Aside0.mk (blk_below (g := gb122) (o := .cells #[.int .u8 t105, .int .u8 t106, .int .u8 t107, .int .u8 t108, .int .u8 t109, .string t110, .string t111, .string t112, .string t113, .string t114, .string t115, .string t116, .string t117, .string t118, .string t119] 25 (0, 0)) (by (with_reducible repeat (first | refine blk_drewN ?_ _ | refine blk_drew ?_ | refine blk_alloc ?_ _)); exact BK122.out) hb); have n1_ := Aside0.mk (blk_below (g := gb136) (o := .cells #[.string t133, .string t134] 47 (0, 0)) (by (with_reducible repeat (first | refine blk_drewN ?_ _ | refine blk_drew ?_ | refine blk_alloc ?_ _)); exact BK136.out) hb); have n2_ := Aside0.mk (below_step (by repeat (first | (with_reducible first | exact HB.out | apply below_alloc | apply pw_below_drewN | apply below_drew1 | refine below_set ?_ GE122.out | refine below_set ?_ GE136.out) | exact HB.out)) hb); clear BK122; clear BK136; clear HB; have BK122 := n0_; have BK136 := n1_; have HB := n2_; clear n0_ n1_ n2_; (try clear hb); (try clear hb2); (try clear hk); (try clear hi); have hnb56 := NB136_122.out; have hnc56 := NB122_136.out; have hcz57_0 : w55.cell? ⟨gb136, 0, none⟩ = some (.string t133) := (blk_cell BK136.out 0).trans rfl; have hcz57_1 : w55.cell? ⟨gb136, 1, none⟩ = some (.string t134) := (blk_cell BK136.out 1).trans rfl; have hfz57_0 := blk_frozen BK136.out 0; have hfz57_1 := blk_frozen BK136.out 1))
                    go_ret
                    exact ⟨by first | rfl | (simp [errW_none, errW_some] <;> rfl) | (simp [*, errW_none, errW_some] <;> rfl), by repeat (first | (with_reducible first | exact HB.out | apply below_alloc | apply pw_below_drewN | apply below_drew1 | refine below_set ?_ GE122.out | refine below_set ?_ GE136.out) | exact HB.out)⟩
              · rw [if_neg c43] at H
                have c43b0 : (t139 == (t121 == 0)) = false := by simpa using c43
                (try (have c43b1 : decide (t139 = (t121 == 0)) = false := by simpa using c43))
                (try (have c43b2 : (t139 == (t121 == 0)) = false := by simpa using c43))
                (try (have c43b3 : ¬ (t139 = (t121 == 0)) := by simpa using c43))
                clear c43
                obtain rfl := Option.some.inj H
                go_wp2_with (first | ((with_reducible refine gate_callee (f := 9) rfl ?_); refine goesL_ (some 81) rfl rfl Tryd.func9 (by kernel_rfl) rfl #[] rfl (by (try simp only [List.map_toArray, List.map_cons, List.map_nil]); first | done | rfl | (simp only [List.length_drop, List.length_take]; rfl)) ?_; (with_reducible refine (law_alive.calls  true _ ?side1 A40.out).mono ?_); (case side1 => exact GlobA.below HG.out (by repeat (first | (with_reducible first | exact HB.out | apply below_alloc | apply pw_below_drewN | apply below_drew1 | refine below_set ?_ GE122.out | refine below_set ?_ GE136.out) | exact HB.out))); rintro e w58 ⟨rfl, hb⟩; refine ⟨_, rfl, ?_⟩; have n0_ := Aside0.mk (blk_below (g := gb122) (o := .cells #[.int .u8 t105, .int .u8 t106, .int .u8 t107, .int .u8 t108, .int .u8 t109, .string t110, .string t111, .string t112, .string t113, .string t114, .string t115, .string t116, .string t117, .string t118, .string t119] 25 (0, 0)) (by (with_reducible repeat (first | refine blk_drewN ?_ _ | refine blk_drew ?_ | refine blk_alloc ?_ _)); exact BK122.out) hb); have n1_ := Aside0.mk (blk_below (g := gb136) (o := .cells #[.string t133, .string t134] 47 (0, 0)) (by (with_reducible repeat (first | refine blk_drewN ?_ _ | refine blk_drew ?_ | refine blk_alloc ?_ _)); exact BK136.out) hb); have n2_ := Aside0.mk (below_step (by repeat (first | (with_reducible first | exact HB.out | apply below_alloc | apply pw_below_drewN | apply below_drew1 | refine below_set ?_ GE122.out | refine below_set ?_ GE136.out) | exact HB.out)) hb); clear BK122; clear BK136; clear HB; have BK122 := n0_; have BK136 := n1_; have HB := n2_; clear n0_ n1_ n2_; (try clear hb); (try clear hb2); (try clear hk); (try clear hi)) | (go_at_call 13; (with_reducible refine (QStored.accept_Stored.calls _ _ l0 t139 _ ?side3 ?side1 ?side2 A42.out).mono ?_); (case side1 => repeat (first | exact (Kd.C_below HR0.out HB.out) | (with_reducible refine Kd.C_alloc ?_ _) | (with_reducible refine Kd.C_drewN ?_ _) | (with_reducible refine Kd.C_drew ?_))); (case side2 => exact HC0.out); (case side3 => exact GlobA.below HG.out (by repeat (first | (with_reducible first | exact HB.out | apply below_alloc | apply pw_below_drewN | apply below_drew1 | refine below_set ?_ GE122.out | refine below_set ?_ GE136.out) | exact HB.out))); rintro e w59 ⟨rfl, hb⟩; have n0_ := Aside0.mk (blk_below (g := gb122) (o := .cells #[.int .u8 t105, .int .u8 t106, .int .u8 t107, .int .u8 t108, .int .u8 t109, .string t110, .string t111, .string t112, .string t113, .string t114, .string t115, .string t116, .string t117, .string t118, .string t119] 25 (0, 0)) (by (with_reducible repeat (first | refine blk_drewN ?_ _ | refine blk_drew ?_ | refine blk_alloc ?_ _)); exact BK122.out) hb); have n1_ := Aside0.mk (blk_below (g := gb136) (o := .cells #[.string t133, .string t134] 47 (0, 0)) (by (with_reducible repeat (first | refine blk_drewN ?_ _ | refine blk_drew ?_ | refine blk_alloc ?_ _)); exact BK136.out) hb); have n2_ := Aside0.mk (below_step (by repeat (first | (with_reducible first | exact HB.out | apply below_alloc | apply pw_below_drewN | apply below_drew1 | refine below_set ?_ GE122.out | refine below_set ?_ GE136.out) | exact HB.out)) hb); clear BK122; clear BK136; clear HB; have BK122 := n0_; have BK136 := n1_; have HB := n2_; clear n0_ n1_ n2_; (try clear hb); (try clear hb2); (try clear hk); (try clear hi)))
                go_ret
                exact ⟨by first | rfl | (simp [errW_none, errW_some] <;> rfl) | (simp [*, errW_none, errW_some] <;> rfl), by repeat (first | (with_reducible first | exact HB.out | apply below_alloc | apply pw_below_drewN | apply below_drew1 | refine below_set ?_ GE122.out | refine below_set ?_ GE136.out) | exact HB.out)⟩
            · replace c41 := Bool.eq_false_iff.mpr c41
              subst c41
              have H1 : (some false) = some r := by rw [if_neg (show ¬ (false = true) by decide)] at H; exact H
              clear H
              have H := H1
              clear H1
              obtain rfl := Option.some.inj H
              go_wp2_with (first | ((with_reducible refine gate_callee (f := 9) rfl ?_); refine goesL_ (some 81) rfl rfl Tryd.func9 (by kernel_rfl) rfl #[] rfl (by (try simp only [List.map_toArray, List.map_cons, List.map_nil]); first | done | rfl | (simp only [List.length_drop, List.length_take]; rfl)) ?_; (with_reducible refine (law_alive.calls  false _ ?side1 A40.out).mono ?_); (case side1 => exact GlobA.below HG.out (by repeat (first | (with_reducible first | exact HB.out | apply below_alloc | apply pw_below_drewN | apply below_drew1 | refine below_set ?_ GE122.out | refine below_set ?_ GE136.out) | exact HB.out))); rintro e w60 ⟨rfl, hb⟩; refine ⟨_, rfl, ?_⟩; have n0_ := Aside0.mk (blk_below (g := gb122) (o := .cells #[.int .u8 t105, .int .u8 t106, .int .u8 t107, .int .u8 t108, .int .u8 t109, .string t110, .string t111, .string t112, .string t113, .string t114, .string t115, .string t116, .string t117, .string t118, .string t119] 25 (0, 0)) (by (with_reducible repeat (first | refine blk_drewN ?_ _ | refine blk_drew ?_ | refine blk_alloc ?_ _)); exact BK122.out) hb); have n1_ := Aside0.mk (blk_below (g := gb136) (o := .cells #[.string t133, .string t134] 47 (0, 0)) (by (with_reducible repeat (first | refine blk_drewN ?_ _ | refine blk_drew ?_ | refine blk_alloc ?_ _)); exact BK136.out) hb); have n2_ := Aside0.mk (below_step (by repeat (first | (with_reducible first | exact HB.out | apply below_alloc | apply pw_below_drewN | apply below_drew1 | refine below_set ?_ GE122.out | refine below_set ?_ GE136.out) | exact HB.out)) hb); clear BK122; clear BK136; clear HB; have BK122 := n0_; have BK136 := n1_; have HB := n2_; clear n0_ n1_ n2_; (try clear hb); (try clear hb2); (try clear hk); (try clear hi)))
              go_ret
              exact ⟨by first | rfl | (simp [errW_none, errW_some] <;> rfl) | (simp [*, errW_none, errW_some] <;> rfl), by repeat (first | (with_reducible first | exact HB.out | apply below_alloc | apply pw_below_drewN | apply below_drew1 | refine below_set ?_ GE122.out | refine below_set ?_ GE136.out) | exact HB.out)⟩
    · replace c8 := Bool.eq_false_iff.mpr c8
      subst c8
      have H1 : ((law_alive.f).bind fun t127 => (if t127 = true then (if (t123.length : Int) = 0 then (if t120.toList = ([] : List UInt8) then (some true) else ((lamplighterref04_Good.f k l0).bind fun t128 => (some (!t128)))) else (some false)) else (some false))) = some r := by rw [if_neg (show ¬ (false = true) by decide)] at H; exact H
      clear H
      have H := H1
      clear H1
      replace H := Option.bind_eq_some_iff.mp H
      obtain ⟨t127, A610, H⟩ := H
      replace H : (if t127 = true then (if (t123.length : Int) = 0 then (if t120.toList = ([] : List UInt8) then (some true) else ((lamplighterref04_Good.f k l0).bind fun t128 => (some (!t128)))) else (some false)) else (some false)) = some r := H
      have A61 := Aside0.mk A610
      clear A610
      by_cases c62 : t127 = true
      · subst c62
        have H1 : (if (t123.length : Int) = 0 then (if t120.toList = ([] : List UInt8) then (some true) else ((lamplighterref04_Good.f k l0).bind fun t128 => (some (!t128)))) else (some false)) = some r := by rw [if_pos rfl] at H; exact H
        clear H
        have H := H1
        clear H1
        by_cases c63 : (t123.length : Int) = 0
        · rw [if_pos c63] at H
          have c63b0 : ((t123.length : Int) == 0) = true := beq_iff_eq.mpr c63
          have c63b1 : ((t123.length : Int) != 0) = false := bne_eq_false_iff_eq.mpr c63
          clear c63
          by_cases c64 : t120.toList = ([] : List UInt8)
          · rw [if_pos c64] at H
            have c64b0 : (t120.toList == ([] : List UInt8)) = true := beq_iff_eq.mpr c64
            have c64b1 : (t120.toList != ([] : List UInt8)) = false := bne_eq_false_iff_eq.mpr c64
            clear c64
            obtain rfl := Option.some.inj H
            go_enter Tryd.func7, Tryd.ntmps7
            go_wp2_with (first | ((with_reducible refine gate_callee (f := 10) rfl ?_); refine goesL_ (some 20) rfl rfl Tryd.func10 (by kernel_rfl) rfl #[.slice A0 l0.length c0] rfl (by (try simp only [List.map_toArray, List.map_cons, List.map_nil]); first | done | rfl | (simp only [List.length_drop, List.length_take]; rfl)) ?_; (with_reducible refine (accept_Verdict.calls _ _ l0 t105 t106 t107 t108 t109 t110 t111 t112 t113 t114 t115 t116 t117 t118 t119 t120 t121 _ ?side3 ?side1 ?side2 A6.out).mono ?_); (case side1 => repeat (first | exact HR0.out | (with_reducible refine Kd.C_alloc ?_ _) | (with_reducible refine Kd.C_drewN ?_ _) | (with_reducible refine Kd.C_drew ?_))); (case side2 => exact HC0.out); (case side3 => exact GlobA.below HG.out (by repeat (first | (with_reducible first | exact HB.out | apply below_alloc | apply pw_below_drewN | apply below_drew1) | exact HB.out))); rintro e w65 ⟨rfl, hb⟩; refine ⟨_, rfl, ?_⟩; have n0_ := Aside0.mk (below_step (by repeat (first | (with_reducible first | exact HB.out | apply below_alloc | apply pw_below_drewN | apply below_drew1) | exact HB.out)) hb); clear HB; have HB := n0_; clear n0_; (try clear hb); (try clear hb2); (try clear hk); (try clear hi)) | ((with_reducible refine gate_dst (N := 5) rfl ?_); (try (refine gate_guard (by rfl) ?_; dsimp only)); refine box_event ?hg (N := 5) ?hd (cs := #[.int .u8 0, .int .u8 0, .int .u8 0, .int .u8 0, .int .u8 0, .string (⟨#[]⟩ : ByteArray), .string (⟨#[]⟩ : ByteArray), .string (⟨#[]⟩ : ByteArray), .string (⟨#[]⟩ : ByteArray), .string (⟨#[]⟩ : ByteArray), .string (⟨#[]⟩ : ByteArray), .string (⟨#[]⟩ : ByteArray), .string (⟨#[]⟩ : ByteArray), .string (⟨#[]⟩ : ByteArray), .string (⟨#[]⟩ : ByteArray)]) (t := 25) ?hr ?_; (case hd => rfl); (case hg => rfl); (case hr => first | (go_simp; done) | (go_simp; rfl)); intro gb122 hg w66 hbox hb; have n0_ := Aside0.mk (below_step (by repeat (first | (with_reducible first | exact HB.out | apply below_alloc | apply pw_below_drewN | apply below_drew1) | exact HB.out)) hb); have n1_ := Aside0.mk (hbox); have n2_ := Aside0.mk ((by rw [hg]; exact (below_size (by repeat (first | (with_reducible first | exact HB.out | apply below_alloc | apply pw_below_drewN | apply below_drew1) | exact HB.out))) : w.heap.size ≤ gb122)); have n3_ := Aside0.mk ((by rw [hg]; exact (below_size (by repeat (first | (with_reducible first | exact HB.out | apply below_alloc | apply pw_below_drewN | apply below_drew1) | exact HB.out))) : w.heap.size ≤ gb122)); clear HB; have HB := n0_; have BK122 := n1_; have GW122 := n2_; have GE122 := n3_; clear n0_ n1_ n2_ n3_; clear hb hbox hg; have hcz67_0 : w66.cell? ⟨gb122, 0, none⟩ = some (.int .u8 0) := (blk_cell BK122.out 0).trans rfl; have hcz67_1 : w66.cell? ⟨gb122, 1, none⟩ = some (.int .u8 0) := (blk_cell BK122.out 1).trans rfl; have hcz67_2 : w66.cell? ⟨gb122, 2, none⟩ = some (.int .u8 0) := (blk_cell BK122.out 2).trans rfl; have hcz67_3 : w66.cell? ⟨gb122, 3, none⟩ = some (.int .u8 0) := (blk_cell BK122.out 3).trans rfl; have hcz67_4 : w66.cell? ⟨gb122, 4, none⟩ = some (.int .u8 0) := (blk_cell BK122.out 4).trans rfl; have hcz67_5 : w66.cell? ⟨gb122, 5, none⟩ = some (.string (⟨#[]⟩ : ByteArray)) := (blk_cell BK122.out 5).trans rfl; have hcz67_6 : w66.cell? ⟨gb122, 6, none⟩ = some (.string (⟨#[]⟩ : ByteArray)) := (blk_cell BK122.out 6).trans rfl; have hcz67_7 : w66.cell? ⟨gb122, 7, none⟩ = some (.string (⟨#[]⟩ : ByteArray)) := (blk_cell BK122.out 7).trans rfl; have hcz67_8 : w66.cell? ⟨gb122, 8, none⟩ = some (.string (⟨#[]⟩ : ByteArray)) := (blk_cell BK122.out 8).trans rfl; have hcz67_9 : w66.cell? ⟨gb122, 9, none⟩ = some (.string (⟨#[]⟩ : ByteArray)) := (blk_cell BK122.out 9).trans rfl; have hcz67_10 : w66.cell? ⟨gb122, 10, none⟩ = some (.string (⟨#[]⟩ : ByteArray)) := (blk_cell BK122.out 10).trans rfl; have hcz67_11 : w66.cell? ⟨gb122, 11, none⟩ = some (.string (⟨#[]⟩ : ByteArray)) := (blk_cell BK122.out 11).trans rfl; have hcz67_12 : w66.cell? ⟨gb122, 12, none⟩ = some (.string (⟨#[]⟩ : ByteArray)) := (blk_cell BK122.out 12).trans rfl; have hcz67_13 : w66.cell? ⟨gb122, 13, none⟩ = some (.string (⟨#[]⟩ : ByteArray)) := (blk_cell BK122.out 13).trans rfl; have hcz67_14 : w66.cell? ⟨gb122, 14, none⟩ = some (.string (⟨#[]⟩ : ByteArray)) := (blk_cell BK122.out 14).trans rfl; have hfz67_0 := blk_frozen BK122.out 0; have hfz67_1 := blk_frozen BK122.out 1; have hfz67_2 := blk_frozen BK122.out 2; have hfz67_3 := blk_frozen BK122.out 3; have hfz67_4 := blk_frozen BK122.out 4; have hfz67_5 := blk_frozen BK122.out 5; have hfz67_6 := blk_frozen BK122.out 6; have hfz67_7 := blk_frozen BK122.out 7; have hfz67_8 := blk_frozen BK122.out 8; have hfz67_9 := blk_frozen BK122.out 9; have hfz67_10 := blk_frozen BK122.out 10; have hfz67_11 := blk_frozen BK122.out 11; have hfz67_12 := blk_frozen BK122.out 12; have hfz67_13 := blk_frozen BK122.out 13; have hfz67_14 := blk_frozen BK122.out 14) | ((with_reducible refine gate_callee (f := 12) rfl ?_); refine goesL_ (some 27) rfl rfl Tryd.func12 (by kernel_rfl) rfl #[.slice A0 l0.length c0, .bool a1] rfl (by (try simp only [List.map_toArray, List.map_cons, List.map_nil]); first | done | rfl | (simp only [List.length_drop, List.length_take]; rfl)) ?_; (with_reducible refine (QReply.accept_Reply.calls k _ _ l0 a1 t123 false _ ?side3 ?side1 ?side2 A7.out).mono ?_); (case side1 => exact Kd.C_below HR0.out (by repeat (first | (with_reducible first | exact HB.out | apply below_alloc | apply pw_below_drewN | apply below_drew1 | refine below_set ?_ GE122.out) | exact HB.out))); (case side2 => exact HC0.out); (case side3 => exact GlobA.below HG.out (by repeat (first | (with_reducible first | exact HB.out | apply below_alloc | apply pw_below_drewN | apply below_drew1 | refine below_set ?_ GE122.out) | exact HB.out))); rintro e w68 ⟨v125, rfl, ho0, hb⟩; refine ⟨_, rfl, ?_⟩; have n0_ := Aside0.mk (Kd.R_lower ho0 (below_size (by repeat (first | (with_reducible first | exact HB.out | apply below_alloc | apply pw_below_drewN | apply below_drew1 | refine below_set ?_ GE122.out) | exact HB.out)))); have n1_ := Aside0.mk (blk_below (g := gb122) (o := .cells #[.int .u8 t105, .int .u8 t106, .int .u8 t107, .int .u8 t108, .int .u8 t109, .string t110, .string t111, .string t112, .string t113, .string t114, .string t115, .string t116, .string t117, .string t118, .string t119] 25 (0, 0)) (by (with_reducible repeat (first | refine blk_drewN ?_ _ | refine blk_drew ?_ | refine blk_alloc ?_ _)); refine blk_put (cs := #[.int .u8 t105, .int .u8 t106, .int .u8 t107, .int .u8 t108, .int .u8 t109, .string t110, .string t111, .string t112, .string t113, .string t114, .string t115, .string t116, .string t117, .string t118, .string (⟨#[]⟩ : ByteArray)]) ?_ 14 _ rfl; (with_reducible repeat (first | refine blk_drewN ?_ _ | refine blk_drew ?_ | refine blk_alloc ?_ _)); refine blk_put (cs := #[.int .u8 t105, .int .u8 t106, .int .u8 t107, .int .u8 t108, .int .u8 t109, .string t110, .string t111, .string t112, .string t113, .string t114, .string t115, .string t116, .string t117, .string (⟨#[]⟩ : ByteArray), .string (⟨#[]⟩ : ByteArray)]) ?_ 13 _ rfl; (with_reducible repeat (first | refine blk_drewN ?_ _ | refine blk_drew ?_ | refine blk_alloc ?_ _)); refine blk_put (cs := #[.int .u8 t105, .int .u8 t106, .int .u8 t107, .int .u8 t108, .int .u8 t109, .string t110, .string t111, .string t112, .string t113, .string t114, .string t115, .string t116, .string (⟨#[]⟩ : ByteArray), .string (⟨#[]⟩ : ByteArray), .string (⟨#[]⟩ : ByteArray)]) ?_ 12 _ rfl; (with_reducible repeat (first | refine blk_drewN ?_ _ | refine blk_drew ?_ | refine blk_alloc ?_ _)); refine blk_put (cs := #[.int .u8 t105, .int .u8 t106, .int .u8 t107, .int .u8 t108, .int .u8 t109, .string t110, .string t111, .string t112, .string t113, .string t114, .string t115, .string (⟨#[]⟩ : ByteArray), .string (⟨#[]⟩ : ByteArray), .string (⟨#[]⟩ : ByteArray), .string (⟨#[]⟩ : ByteArray)]) ?_ 11 _ rfl; (with_reducible repeat (first | refine blk_drewN ?_ _ | refine blk_drew ?_ | refine blk_alloc ?_ _)); refine blk_put (cs := #[.int .u8 t105, .int .u8 t106, .int .u8 t107, .int .u8 t108, .int .u8 t109, .string t110, .string t111, .string t112, .string t113, .string t114, .string (⟨#[]⟩ : ByteArray), .string (⟨#[]⟩ : ByteArray), .string (⟨#[]⟩ : ByteArray), .string (⟨#[]⟩ : ByteArray), .string (⟨#[]⟩ : ByteArray)]) ?_ 10 _ rfl; (with_reducible repeat (first | refine blk_drewN ?_ _ | refine blk_drew ?_ | refine blk_alloc ?_ _)); refine blk_put (cs := #[.int .u8 t105, .int .u8 t106, .int .u8 t107, .int .u8 t108, .int .u8 t109, .string t110, .string t111, .string t112, .string t113, .string (⟨#[]⟩ : ByteArray), .string (⟨#[]⟩ : ByteArray), .string (⟨#[]⟩ : ByteArray), .string (⟨#[]⟩ : ByteArray), .string (⟨#[]⟩ : ByteArray), .string (⟨#[]⟩ : ByteArray)]) ?_ 9 _ rfl; (with_reducible repeat (first | refine blk_drewN ?_ _ | refine blk_drew ?_ | refine blk_alloc ?_ _)); refine blk_put (cs := #[.int .u8 t105, .int .u8 t106, .int .u8 t107, .int .u8 t108, .int .u8 t109, .string t110, .string t111, .string t112, .string (⟨#[]⟩ : ByteArray), .string (⟨#[]⟩ : ByteArray), .string (⟨#[]⟩ : ByteArray), .string (⟨#[]⟩ : ByteArray), .string (⟨#[]⟩ : ByteArray), .string (⟨#[]⟩ : ByteArray), .string (⟨#[]⟩ : ByteArray)]) ?_ 8 _ rfl; (with_reducible repeat (first | refine blk_drewN ?_ _ | refine blk_drew ?_ | refine blk_alloc ?_ _)); refine blk_put (cs := #[.int .u8 t105, .int .u8 t106, .int .u8 t107, .int .u8 t108, .int .u8 t109, .string t110, .string t111, .string (⟨#[]⟩ : ByteArray), .string (⟨#[]⟩ : ByteArray), .string (⟨#[]⟩ : ByteArray), .string (⟨#[]⟩ : ByteArray), .string (⟨#[]⟩ : ByteArray), .string (⟨#[]⟩ : ByteArray), .string (⟨#[]⟩ : ByteArray), .string (⟨#[]⟩ : ByteArray)]) ?_ 7 _ rfl; (with_reducible repeat (first | refine blk_drewN ?_ _ | refine blk_drew ?_ | refine blk_alloc ?_ _)); refine blk_put (cs := #[.int .u8 t105, .int .u8 t106, .int .u8 t107, .int .u8 t108, .int .u8 t109, .string t110, .string (⟨#[]⟩ : ByteArray), .string (⟨#[]⟩ : ByteArray), .string (⟨#[]⟩ : ByteArray), .string (⟨#[]⟩ : ByteArray), .string (⟨#[]⟩ : ByteArray), .string (⟨#[]⟩ : ByteArray), .string (⟨#[]⟩ : ByteArray), .string (⟨#[]⟩ : ByteArray), .string (⟨#[]⟩ : ByteArray)]) ?_ 6 _ rfl; (with_reducible repeat (first | refine blk_drewN ?_ _ | refine blk_drew ?_ | refine blk_alloc ?_ _)); refine blk_put (cs := #[.int .u8 t105, .int .u8 t106, .int .u8 t107, .int .u8 t108, .int .u8 t109, .string (⟨#[]⟩ : ByteArray), .string (⟨#[]⟩ : ByteArray), .string (⟨#[]⟩ : ByteArray), .string (⟨#[]⟩ : ByteArray), .string (⟨#[]⟩ : ByteArray), .string (⟨#[]⟩ : ByteArray), .string (⟨#[]⟩ : ByteArray), .string (⟨#[]⟩ : ByteArray), .string (⟨#[]⟩ : ByteArray), .string (⟨#[]⟩ : ByteArray)]) ?_ 5 _ rfl; (with_reducible repeat (first | refine blk_drewN ?_ _ | refine blk_drew ?_ | refine blk_alloc ?_ _)); refine blk_put (cs := #[.int .u8 t105, .int .u8 t106, .int .u8 t107, .int .u8 t108, .int .u8 0, .string (⟨#[]⟩ : ByteArray), .string (⟨#[]⟩ : ByteArray), .string (⟨#[]⟩ : ByteArray), .string (⟨#[]⟩ : ByteArray), .string (⟨#[]⟩ : ByteArray), .string (⟨#[]⟩ : ByteArray), .string (⟨#[]⟩ : ByteArray), .string (⟨#[]⟩ : ByteArray), .string (⟨#[]⟩ : ByteArray), .string (⟨#[]⟩ : ByteArray)]) ?_ 4 _ rfl; (with_reducible repeat (first | refine blk_drewN ?_ _ | refine blk_drew ?_ | refine blk_alloc ?_ _)); refine blk_put (cs := #[.int .u8 t105, .int .u8 t106, .int .u8 t107, .int .u8 0, .int .u8 0, .string (⟨#[]⟩ : ByteArray), .string (⟨#[]⟩ : ByteArray), .string (⟨#[]⟩ : ByteArray), .string (⟨#[]⟩ : ByteArray), .string (⟨#[]⟩ : ByteArray), .string (⟨#[]⟩ : ByteArray), .string (⟨#[]⟩ : ByteArray), .string (⟨#[]⟩ : ByteArray), .string (⟨#[]⟩ : ByteArray), .string (⟨#[]⟩ : ByteArray)]) ?_ 3 _ rfl; (with_reducible repeat (first | refine blk_drewN ?_ _ | refine blk_drew ?_ | refine blk_alloc ?_ _)); refine blk_put (cs := #[.int .u8 t105, .int .u8 t106, .int .u8 0, .int .u8 0, .int .u8 0, .string (⟨#[]⟩ : ByteArray), .string (⟨#[]⟩ : ByteArray), .string (⟨#[]⟩ : ByteArray), .string (⟨#[]⟩ : ByteArray), .string (⟨#[]⟩ : ByteArray), .string (⟨#[]⟩ : ByteArray), .string (⟨#[]⟩ : ByteArray), .string (⟨#[]⟩ : ByteArray), .string (⟨#[]⟩ : ByteArray), .string (⟨#[]⟩ : ByteArray)]) ?_ 2 _ rfl; (with_reducible repeat (first | refine blk_drewN ?_ _ | refine blk_drew ?_ | refine blk_alloc ?_ _)); refine blk_put (cs := #[.int .u8 t105, .int .u8 0, .int .u8 0, .int .u8 0, .int .u8 0, .string (⟨#[]⟩ : ByteArray), .string (⟨#[]⟩ : ByteArray), .string (⟨#[]⟩ : ByteArray), .string (⟨#[]⟩ : ByteArray), .string (⟨#[]⟩ : ByteArray), .string (⟨#[]⟩ : ByteArray), .string (⟨#[]⟩ : ByteArray), .string (⟨#[]⟩ : ByteArray), .string (⟨#[]⟩ : ByteArray), .string (⟨#[]⟩ : ByteArray)]) ?_ 1 _ rfl; (with_reducible repeat (first | refine blk_drewN ?_ _ | refine blk_drew ?_ | refine blk_alloc ?_ _)); refine blk_put (cs := #[.int .u8 0, .int .u8 0, .int .u8 0, .int .u8 0, .int .u8 0, .string (⟨#[]⟩ : ByteArray), .string (⟨#[]⟩ : ByteArray), .string (⟨#[]⟩ : ByteArray), .string (⟨#[]⟩ : ByteArray), .string (⟨#[]⟩ : ByteArray), .string (⟨#[]⟩ : ByteArray), .string (⟨#[]⟩ : ByteArray), .string (⟨#[]⟩ : ByteArray), .string (⟨#[]⟩ : ByteArray), .string (⟨#[]⟩ : ByteArray)]) ?_ 0 _ rfl; (with_reducible repeat (first | refine blk_drewN ?_ _ | refine blk_drew ?_ | refine blk_alloc ?_ _)); exact BK122.out) hb); have n2_ := Aside0.mk (below_step (by repeat (first | (with_reducible first | exact HB.out | apply below_alloc | apply pw_below_drewN | apply below_drew1 | refine below_set ?_ GE122.out) | exact HB.out)) hb); clear BK122; clear HB; have HO126 := n0_; have BK122 := n1_; have HB := n2_; clear n0_ n1_ n2_; (try clear hb); (try clear hb2); (try clear hk); (try clear hi); (try clear ho0)) | ((with_reducible refine gate_callee (f := 9) rfl ?_); refine goesL_ (some 32) rfl rfl Tryd.func9 (by kernel_rfl) rfl #[] rfl (by (try simp only [List.map_toArray, List.map_cons, List.map_nil]); first | done | rfl | (simp only [List.length_drop, List.length_take]; rfl)) ?_; (with_reducible refine (law_alive.calls  true _ ?side1 A61.out).mono ?_); (case side1 => exact GlobA.below HG.out (by repeat (first | (with_reducible first | exact HB.out | apply below_alloc | apply pw_below_drewN | apply below_drew1 | refine below_set ?_ GE122.out) | exact HB.out))); rintro e w69 ⟨rfl, hb⟩; refine ⟨_, rfl, ?_⟩; have n0_ := Aside0.mk (Kd.R_below (by (with_reducible repeat (first | apply Kd.R_alloc | apply Kd.R_drewN | apply Kd.R_drew)); exact HO126.out) hb); have n1_ := Aside0.mk (blk_below (g := gb122) (o := .cells #[.int .u8 t105, .int .u8 t106, .int .u8 t107, .int .u8 t108, .int .u8 t109, .string t110, .string t111, .string t112, .string t113, .string t114, .string t115, .string t116, .string t117, .string t118, .string t119] 25 (0, 0)) (by (with_reducible repeat (first | refine blk_drewN ?_ _ | refine blk_drew ?_ | refine blk_alloc ?_ _)); exact BK122.out) hb); have n2_ := Aside0.mk (below_step (by repeat (first | (with_reducible first | exact HB.out | apply below_alloc | apply pw_below_drewN | apply below_drew1 | refine below_set ?_ GE122.out) | exact HB.out)) hb); clear HO126; clear BK122; clear HB; have HO126 := n0_; have BK122 := n1_; have HB := n2_; clear n0_ n1_ n2_; (try clear hb); (try clear hb2); (try clear hk); (try clear hi); obtain ⟨Ao70, co70, eo70⟩ := Kd.R_slice HO126.out; subst eo70))
            go_ret
            exact ⟨by first | rfl | (simp [errW_none, errW_some] <;> rfl) | (simp [*, errW_none, errW_some] <;> rfl), by repeat (first | (with_reducible first | exact HB.out | apply below_alloc | apply pw_below_drewN | apply below_drew1 | refine below_set ?_ GE122.out) | exact HB.out)⟩
          · rw [if_neg c64] at H
            have c64b0 : (t120.toList == ([] : List UInt8)) = false := beq_eq_false_iff_ne.mpr c64
            have c64b1 : (t120.toList != ([] : List UInt8)) = true := bne_iff_ne.mpr c64
            replace H := Option.bind_eq_some_iff.mp H
            obtain ⟨t128, A710, H⟩ := H
            replace H : (some (!t128)) = some r := H
            have A71 := Aside0.mk A710
            clear A710
            obtain rfl := Option.some.inj H
            go_enter Tryd.func7, Tryd.ntmps7
            go_wp2_with (first | ((with_reducible refine gate_callee (f := 10) rfl ?_); refine goesL_ (some 20) rfl rfl Tryd.func10 (by kernel_rfl) rfl #[.slice A0 l0.length c0] rfl (by (try simp only [List.map_toArray, List.map_cons, List.map_nil]); first | done | rfl | (simp only [List.length_drop, List.length_take]; rfl)) ?_; (with_reducible refine (accept_Verdict.calls _ _ l0 t105 t106 t107 t108 t109 t110 t111 t112 t113 t114 t115 t116 t117 t118 t119 t120 t121 _ ?side3 ?side1 ?side2 A6.out).mono ?_); (case side1 => repeat (first | exact HR0.out | (with_reducible refine Kd.C_alloc ?_ _) | (with_reducible refine Kd.C_drewN ?_ _) | (with_reducible refine Kd.C_drew ?_))); (case side2 => exact HC0.out); (case side3 => exact GlobA.below HG.out (by repeat (first | (with_reducible first | exact HB.out | apply below_alloc | apply pw_below_drewN | apply below_drew1) | exact HB.out))); rintro e w72 ⟨rfl, hb⟩; refine ⟨_, rfl, ?_⟩; have n0_ := Aside0.mk (below_step (by repeat (first | (with_reducible first | exact HB.out | apply below_alloc | apply pw_below_drewN | apply below_drew1) | exact HB.out)) hb); clear HB; have HB := n0_; clear n0_; (try clear hb); (try clear hb2); (try clear hk); (try clear hi)) | ((with_reducible refine gate_dst (N := 5) rfl ?_); (try (refine gate_guard (by rfl) ?_; dsimp only)); refine box_event ?hg (N := 5) ?hd (cs := #[.int .u8 0, .int .u8 0, .int .u8 0, .int .u8 0, .int .u8 0, .string (⟨#[]⟩ : ByteArray), .string (⟨#[]⟩ : ByteArray), .string (⟨#[]⟩ : ByteArray), .string (⟨#[]⟩ : ByteArray), .string (⟨#[]⟩ : ByteArray), .string (⟨#[]⟩ : ByteArray), .string (⟨#[]⟩ : ByteArray), .string (⟨#[]⟩ : ByteArray), .string (⟨#[]⟩ : ByteArray), .string (⟨#[]⟩ : ByteArray)]) (t := 25) ?hr ?_; (case hd => rfl); (case hg => rfl); (case hr => first | (go_simp; done) | (go_simp; rfl)); intro gb122 hg w73 hbox hb; have n0_ := Aside0.mk (below_step (by repeat (first | (with_reducible first | exact HB.out | apply below_alloc | apply pw_below_drewN | apply below_drew1) | exact HB.out)) hb); have n1_ := Aside0.mk (hbox); have n2_ := Aside0.mk ((by rw [hg]; exact (below_size (by repeat (first | (with_reducible first | exact HB.out | apply below_alloc | apply pw_below_drewN | apply below_drew1) | exact HB.out))) : w.heap.size ≤ gb122)); have n3_ := Aside0.mk ((by rw [hg]; exact (below_size (by repeat (first | (with_reducible first | exact HB.out | apply below_alloc | apply pw_below_drewN | apply below_drew1) | exact HB.out))) : w.heap.size ≤ gb122)); clear HB; have HB := n0_; have BK122 := n1_; have GW122 := n2_; have GE122 := n3_; clear n0_ n1_ n2_ n3_; clear hb hbox hg; have hcz74_0 : w73.cell? ⟨gb122, 0, none⟩ = some (.int .u8 0) := (blk_cell BK122.out 0).trans rfl; have hcz74_1 : w73.cell? ⟨gb122, 1, none⟩ = some (.int .u8 0) := (blk_cell BK122.out 1).trans rfl; have hcz74_2 : w73.cell? ⟨gb122, 2, none⟩ = some (.int .u8 0) := (blk_cell BK122.out 2).trans rfl; have hcz74_3 : w73.cell? ⟨gb122, 3, none⟩ = some (.int .u8 0) := (blk_cell BK122.out 3).trans rfl; have hcz74_4 : w73.cell? ⟨gb122, 4, none⟩ = some (.int .u8 0) := (blk_cell BK122.out 4).trans rfl; have hcz74_5 : w73.cell? ⟨gb122, 5, none⟩ = some (.string (⟨#[]⟩ : ByteArray)) := (blk_cell BK122.out 5).trans rfl; have hcz74_6 : w73.cell? ⟨gb122, 6, none⟩ = some (.string (⟨#[]⟩ : ByteArray)) := (blk_cell BK122.out 6).trans rfl; have hcz74_7 : w73.cell? ⟨gb122, 7, none⟩ = some (.string (⟨#[]⟩ : ByteArray)) := (blk_cell BK122.out 7).trans rfl; have hcz74_8 : w73.cell? ⟨gb122, 8, none⟩ = some (.string (⟨#[]⟩ : ByteArray)) := (blk_cell BK122.out 8).trans rfl; have hcz74_9 : w73.cell? ⟨gb122, 9, none⟩ = some (.string (⟨#[]⟩ : ByteArray)) := (blk_cell BK122.out 9).trans rfl; have hcz74_10 : w73.cell? ⟨gb122, 10, none⟩ = some (.string (⟨#[]⟩ : ByteArray)) := (blk_cell BK122.out 10).trans rfl; have hcz74_11 : w73.cell? ⟨gb122, 11, none⟩ = some (.string (⟨#[]⟩ : ByteArray)) := (blk_cell BK122.out 11).trans rfl; have hcz74_12 : w73.cell? ⟨gb122, 12, none⟩ = some (.string (⟨#[]⟩ : ByteArray)) := (blk_cell BK122.out 12).trans rfl; have hcz74_13 : w73.cell? ⟨gb122, 13, none⟩ = some (.string (⟨#[]⟩ : ByteArray)) := (blk_cell BK122.out 13).trans rfl; have hcz74_14 : w73.cell? ⟨gb122, 14, none⟩ = some (.string (⟨#[]⟩ : ByteArray)) := (blk_cell BK122.out 14).trans rfl; have hfz74_0 := blk_frozen BK122.out 0; have hfz74_1 := blk_frozen BK122.out 1; have hfz74_2 := blk_frozen BK122.out 2; have hfz74_3 := blk_frozen BK122.out 3; have hfz74_4 := blk_frozen BK122.out 4; have hfz74_5 := blk_frozen BK122.out 5; have hfz74_6 := blk_frozen BK122.out 6; have hfz74_7 := blk_frozen BK122.out 7; have hfz74_8 := blk_frozen BK122.out 8; have hfz74_9 := blk_frozen BK122.out 9; have hfz74_10 := blk_frozen BK122.out 10; have hfz74_11 := blk_frozen BK122.out 11; have hfz74_12 := blk_frozen BK122.out 12; have hfz74_13 := blk_frozen BK122.out 13; have hfz74_14 := blk_frozen BK122.out 14) | ((with_reducible refine gate_callee (f := 12) rfl ?_); refine goesL_ (some 27) rfl rfl Tryd.func12 (by kernel_rfl) rfl #[.slice A0 l0.length c0, .bool a1] rfl (by (try simp only [List.map_toArray, List.map_cons, List.map_nil]); first | done | rfl | (simp only [List.length_drop, List.length_take]; rfl)) ?_; (with_reducible refine (QReply.accept_Reply.calls k _ _ l0 a1 t123 false _ ?side3 ?side1 ?side2 A7.out).mono ?_); (case side1 => exact Kd.C_below HR0.out (by repeat (first | (with_reducible first | exact HB.out | apply below_alloc | apply pw_below_drewN | apply below_drew1 | refine below_set ?_ GE122.out) | exact HB.out))); (case side2 => exact HC0.out); (case side3 => exact GlobA.below HG.out (by repeat (first | (with_reducible first | exact HB.out | apply below_alloc | apply pw_below_drewN | apply below_drew1 | refine below_set ?_ GE122.out) | exact HB.out))); rintro e w75 ⟨v125, rfl, ho0, hb⟩; refine ⟨_, rfl, ?_⟩; have n0_ := Aside0.mk (Kd.R_lower ho0 (below_size (by repeat (first | (with_reducible first | exact HB.out | apply below_alloc | apply pw_below_drewN | apply below_drew1 | refine below_set ?_ GE122.out) | exact HB.out)))); have n1_ := Aside0.mk (blk_below (g := gb122) (o := .cells #[.int .u8 t105, .int .u8 t106, .int .u8 t107, .int .u8 t108, .int .u8 t109, .string t110, .string t111, .string t112, .string t113, .string t114, .string t115, .string t116, .string t117, .string t118, .string t119] 25 (0, 0)) (by (with_reducible repeat (first | refine blk_drewN ?_ _ | refine blk_drew ?_ | refine blk_alloc ?_ _)); refine blk_put (cs := #[.int .u8 t105, .int .u8 t106, .int .u8 t107, .int .u8 t108, .int .u8 t109, .string t110, .string t111, .string t112, .string t113, .string t114, .string t115, .string t116, .string t117, .string t118, .string (⟨#[]⟩ : ByteArray)]) ?_ 14 _ rfl; (with_reducible repeat (first | refine blk_drewN ?_ _ | refine blk_drew ?_ | refine blk_alloc ?_ _)); refine blk_put (cs := #[.int .u8 t105, .int .u8 t106, .int .u8 t107, .int .u8 t108, .int .u8 t109, .string t110, .string t111, .string t112, .string t113, .string t114, .string t115, .string t116, .string t117, .string (⟨#[]⟩ : ByteArray), .string (⟨#[]⟩ : ByteArray)]) ?_ 13 _ rfl; (with_reducible repeat (first | refine blk_drewN ?_ _ | refine blk_drew ?_ | refine blk_alloc ?_ _)); refine blk_put (cs := #[.int .u8 t105, .int .u8 t106, .int .u8 t107, .int .u8 t108, .int .u8 t109, .string t110, .string t111, .string t112, .string t113, .string t114, .string t115, .string t116, .string (⟨#[]⟩ : ByteArray), .string (⟨#[]⟩ : ByteArray), .string (⟨#[]⟩ : ByteArray)]) ?_ 12 _ rfl; (with_reducible repeat (first | refine blk_drewN ?_ _ | refine blk_drew ?_ | refine blk_alloc ?_ _)); refine blk_put (cs := #[.int .u8 t105, .int .u8 t106, .int .u8 t107, .int .u8 t108, .int .u8 t109, .string t110, .string t111, .string t112, .string t113, .string t114, .string t115, .string (⟨#[]⟩ : ByteArray), .string (⟨#[]⟩ : ByteArray), .string (⟨#[]⟩ : ByteArray), .string (⟨#[]⟩ : ByteArray)]) ?_ 11 _ rfl; (with_reducible repeat (first | refine blk_drewN ?_ _ | refine blk_drew ?_ | refine blk_alloc ?_ _)); refine blk_put (cs := #[.int .u8 t105, .int .u8 t106, .int .u8 t107, .int .u8 t108, .int .u8 t109, .string t110, .string t111, .string t112, .string t113, .string t114, .string (⟨#[]⟩ : ByteArray), .string (⟨#[]⟩ : ByteArray), .string (⟨#[]⟩ : ByteArray), .string (⟨#[]⟩ : ByteArray), .string (⟨#[]⟩ : ByteArray)]) ?_ 10 _ rfl; (with_reducible repeat (first | refine blk_drewN ?_ _ | refine blk_drew ?_ | refine blk_alloc ?_ _)); refine blk_put (cs := #[.int .u8 t105, .int .u8 t106, .int .u8 t107, .int .u8 t108, .int .u8 t109, .string t110, .string t111, .string t112, .string t113, .string (⟨#[]⟩ : ByteArray), .string (⟨#[]⟩ : ByteArray), .string (⟨#[]⟩ : ByteArray), .string (⟨#[]⟩ : ByteArray), .string (⟨#[]⟩ : ByteArray), .string (⟨#[]⟩ : ByteArray)]) ?_ 9 _ rfl; (with_reducible repeat (first | refine blk_drewN ?_ _ | refine blk_drew ?_ | refine blk_alloc ?_ _)); refine blk_put (cs := #[.int .u8 t105, .int .u8 t106, .int .u8 t107, .int .u8 t108, .int .u8 t109, .string t110, .string t111, .string t112, .string (⟨#[]⟩ : ByteArray), .string (⟨#[]⟩ : ByteArray), .string (⟨#[]⟩ : ByteArray), .string (⟨#[]⟩ : ByteArray), .string (⟨#[]⟩ : ByteArray), .string (⟨#[]⟩ : ByteArray), .string (⟨#[]⟩ : ByteArray)]) ?_ 8 _ rfl; (with_reducible repeat (first | refine blk_drewN ?_ _ | refine blk_drew ?_ | refine blk_alloc ?_ _)); refine blk_put (cs := #[.int .u8 t105, .int .u8 t106, .int .u8 t107, .int .u8 t108, .int .u8 t109, .string t110, .string t111, .string (⟨#[]⟩ : ByteArray), .string (⟨#[]⟩ : ByteArray), .string (⟨#[]⟩ : ByteArray), .string (⟨#[]⟩ : ByteArray), .string (⟨#[]⟩ : ByteArray), .string (⟨#[]⟩ : ByteArray), .string (⟨#[]⟩ : ByteArray), .string (⟨#[]⟩ : ByteArray)]) ?_ 7 _ rfl; (with_reducible repeat (first | refine blk_drewN ?_ _ | refine blk_drew ?_ | refine blk_alloc ?_ _)); refine blk_put (cs := #[.int .u8 t105, .int .u8 t106, .int .u8 t107, .int .u8 t108, .int .u8 t109, .string t110, .string (⟨#[]⟩ : ByteArray), .string (⟨#[]⟩ : ByteArray), .string (⟨#[]⟩ : ByteArray), .string (⟨#[]⟩ : ByteArray), .string (⟨#[]⟩ : ByteArray), .string (⟨#[]⟩ : ByteArray), .string (⟨#[]⟩ : ByteArray), .string (⟨#[]⟩ : ByteArray), .string (⟨#[]⟩ : ByteArray)]) ?_ 6 _ rfl; (with_reducible repeat (first | refine blk_drewN ?_ _ | refine blk_drew ?_ | refine blk_alloc ?_ _)); refine blk_put (cs := #[.int .u8 t105, .int .u8 t106, .int .u8 t107, .int .u8 t108, .int .u8 t109, .string (⟨#[]⟩ : ByteArray), .string (⟨#[]⟩ : ByteArray), .string (⟨#[]⟩ : ByteArray), .string (⟨#[]⟩ : ByteArray), .string (⟨#[]⟩ : ByteArray), .string (⟨#[]⟩ : ByteArray), .string (⟨#[]⟩ : ByteArray), .string (⟨#[]⟩ : ByteArray), .string (⟨#[]⟩ : ByteArray), .string (⟨#[]⟩ : ByteArray)]) ?_ 5 _ rfl; (with_reducible repeat (first | refine blk_drewN ?_ _ | refine blk_drew ?_ | refine blk_alloc ?_ _)); refine blk_put (cs := #[.int .u8 t105, .int .u8 t106, .int .u8 t107, .int .u8 t108, .int .u8 0, .string (⟨#[]⟩ : ByteArray), .string (⟨#[]⟩ : ByteArray), .string (⟨#[]⟩ : ByteArray), .string (⟨#[]⟩ : ByteArray), .string (⟨#[]⟩ : ByteArray), .string (⟨#[]⟩ : ByteArray), .string (⟨#[]⟩ : ByteArray), .string (⟨#[]⟩ : ByteArray), .string (⟨#[]⟩ : ByteArray), .string (⟨#[]⟩ : ByteArray)]) ?_ 4 _ rfl; (with_reducible repeat (first | refine blk_drewN ?_ _ | refine blk_drew ?_ | refine blk_alloc ?_ _)); refine blk_put (cs := #[.int .u8 t105, .int .u8 t106, .int .u8 t107, .int .u8 0, .int .u8 0, .string (⟨#[]⟩ : ByteArray), .string (⟨#[]⟩ : ByteArray), .string (⟨#[]⟩ : ByteArray), .string (⟨#[]⟩ : ByteArray), .string (⟨#[]⟩ : ByteArray), .string (⟨#[]⟩ : ByteArray), .string (⟨#[]⟩ : ByteArray), .string (⟨#[]⟩ : ByteArray), .string (⟨#[]⟩ : ByteArray), .string (⟨#[]⟩ : ByteArray)]) ?_ 3 _ rfl; (with_reducible repeat (first | refine blk_drewN ?_ _ | refine blk_drew ?_ | refine blk_alloc ?_ _)); refine blk_put (cs := #[.int .u8 t105, .int .u8 t106, .int .u8 0, .int .u8 0, .int .u8 0, .string (⟨#[]⟩ : ByteArray), .string (⟨#[]⟩ : ByteArray), .string (⟨#[]⟩ : ByteArray), .string (⟨#[]⟩ : ByteArray), .string (⟨#[]⟩ : ByteArray), .string (⟨#[]⟩ : ByteArray), .string (⟨#[]⟩ : ByteArray), .string (⟨#[]⟩ : ByteArray), .string (⟨#[]⟩ : ByteArray), .string (⟨#[]⟩ : ByteArray)]) ?_ 2 _ rfl; (with_reducible repeat (first | refine blk_drewN ?_ _ | refine blk_drew ?_ | refine blk_alloc ?_ _)); refine blk_put (cs := #[.int .u8 t105, .int .u8 0, .int .u8 0, .int .u8 0, .int .u8 0, .string (⟨#[]⟩ : ByteArray), .string (⟨#[]⟩ : ByteArray), .string (⟨#[]⟩ : ByteArray), .string (⟨#[]⟩ : ByteArray), .string (⟨#[]⟩ : ByteArray), .string (⟨#[]⟩ : ByteArray), .string (⟨#[]⟩ : ByteArray), .string (⟨#[]⟩ : ByteArray), .string (⟨#[]⟩ : ByteArray), .string (⟨#[]⟩ : ByteArray)]) ?_ 1 _ rfl; (with_reducible repeat (first | refine blk_drewN ?_ _ | refine blk_drew ?_ | refine blk_alloc ?_ _)); refine blk_put (cs := #[.int .u8 0, .int .u8 0, .int .u8 0, .int .u8 0, .int .u8 0, .string (⟨#[]⟩ : ByteArray), .string (⟨#[]⟩ : ByteArray), .string (⟨#[]⟩ : ByteArray), .string (⟨#[]⟩ : ByteArray), .string (⟨#[]⟩ : ByteArray), .string (⟨#[]⟩ : ByteArray), .string (⟨#[]⟩ : ByteArray), .string (⟨#[]⟩ : ByteArray), .string (⟨#[]⟩ : ByteArray), .string (⟨#[]⟩ : ByteArray)]) ?_ 0 _ rfl; (with_reducible repeat (first | refine blk_drewN ?_ _ | refine blk_drew ?_ | refine blk_alloc ?_ _)); exact BK122.out) hb); have n2_ := Aside0.mk (below_step (by repeat (first | (with_reducible first | exact HB.out | apply below_alloc | apply pw_below_drewN | apply below_drew1 | refine below_set ?_ GE122.out) | exact HB.out)) hb); clear BK122; clear HB; have HO126 := n0_; have BK122 := n1_; have HB := n2_; clear n0_ n1_ n2_; (try clear hb); (try clear hb2); (try clear hk); (try clear hi); (try clear ho0)) | ((with_reducible refine gate_callee (f := 9) rfl ?_); refine goesL_ (some 32) rfl rfl Tryd.func9 (by kernel_rfl) rfl #[] rfl (by (try simp only [List.map_toArray, List.map_cons, List.map_nil]); first | done | rfl | (simp only [List.length_drop, List.length_take]; rfl)) ?_; (with_reducible refine (law_alive.calls  true _ ?side1 A61.out).mono ?_); (case side1 => exact GlobA.below HG.out (by repeat (first | (with_reducible first | exact HB.out | apply below_alloc | apply pw_below_drewN | apply below_drew1 | refine below_set ?_ GE122.out) | exact HB.out))); rintro e w76 ⟨rfl, hb⟩; refine ⟨_, rfl, ?_⟩; have n0_ := Aside0.mk (Kd.R_below (by (with_reducible repeat (first | apply Kd.R_alloc | apply Kd.R_drewN | apply Kd.R_drew)); exact HO126.out) hb); have n1_ := Aside0.mk (blk_below (g := gb122) (o := .cells #[.int .u8 t105, .int .u8 t106, .int .u8 t107, .int .u8 t108, .int .u8 t109, .string t110, .string t111, .string t112, .string t113, .string t114, .string t115, .string t116, .string t117, .string t118, .string t119] 25 (0, 0)) (by (with_reducible repeat (first | refine blk_drewN ?_ _ | refine blk_drew ?_ | refine blk_alloc ?_ _)); exact BK122.out) hb); have n2_ := Aside0.mk (below_step (by repeat (first | (with_reducible first | exact HB.out | apply below_alloc | apply pw_below_drewN | apply below_drew1 | refine below_set ?_ GE122.out) | exact HB.out)) hb); clear HO126; clear BK122; clear HB; have HO126 := n0_; have BK122 := n1_; have HB := n2_; clear n0_ n1_ n2_; (try clear hb); (try clear hb2); (try clear hk); (try clear hi); obtain ⟨Ao77, co77, eo77⟩ := Kd.R_slice HO126.out; subst eo77) | (go_at_call 15; (with_reducible refine (lamplighterref04_Good.calls k _ _ l0 t128 _ ?side1 ?side2 A71.out).mono ?_); (case side1 => repeat (first | exact (Kd.C_below HR0.out HB.out) | (with_reducible refine Kd.C_alloc ?_ _) | (with_reducible refine Kd.C_drewN ?_ _) | (with_reducible refine Kd.C_drew ?_))); (case side2 => exact HC0.out); rintro e w' ⟨rfl, ⟨nd, rfl⟩⟩))
            go_ret
            exact ⟨by first | rfl | (simp [errW_none, errW_some] <;> rfl) | (simp [*, errW_none, errW_some] <;> rfl), by repeat (first | (with_reducible first | exact HB.out | apply below_alloc | apply pw_below_drewN | apply below_drew1 | refine below_set ?_ GE122.out) | exact HB.out)⟩
        · rw [if_neg c63] at H
          have c63b0 : ((t123.length : Int) == 0) = false := beq_eq_false_iff_ne.mpr c63
          have c63b1 : ((t123.length : Int) != 0) = true := bne_iff_ne.mpr c63
          have c63b2 : ¬ (t123 = []) := fun h_ => c63 (by rw [h_]; rfl)
          obtain rfl := Option.some.inj H
          go_enter Tryd.func7, Tryd.ntmps7
          go_wp2_with (first | ((with_reducible refine gate_callee (f := 10) rfl ?_); refine goesL_ (some 20) rfl rfl Tryd.func10 (by kernel_rfl) rfl #[.slice A0 l0.length c0] rfl (by (try simp only [List.map_toArray, List.map_cons, List.map_nil]); first | done | rfl | (simp only [List.length_drop, List.length_take]; rfl)) ?_; (with_reducible refine (accept_Verdict.calls _ _ l0 t105 t106 t107 t108 t109 t110 t111 t112 t113 t114 t115 t116 t117 t118 t119 t120 t121 _ ?side3 ?side1 ?side2 A6.out).mono ?_); (case side1 => repeat (first | exact HR0.out | (with_reducible refine Kd.C_alloc ?_ _) | (with_reducible refine Kd.C_drewN ?_ _) | (with_reducible refine Kd.C_drew ?_))); (case side2 => exact HC0.out); (case side3 => exact GlobA.below HG.out (by repeat (first | (with_reducible first | exact HB.out | apply below_alloc | apply pw_below_drewN | apply below_drew1) | exact HB.out))); rintro e w78 ⟨rfl, hb⟩; refine ⟨_, rfl, ?_⟩; have n0_ := Aside0.mk (below_step (by repeat (first | (with_reducible first | exact HB.out | apply below_alloc | apply pw_below_drewN | apply below_drew1) | exact HB.out)) hb); clear HB; have HB := n0_; clear n0_; (try clear hb); (try clear hb2); (try clear hk); (try clear hi)) | ((with_reducible refine gate_dst (N := 5) rfl ?_); (try (refine gate_guard (by rfl) ?_; dsimp only)); refine box_event ?hg (N := 5) ?hd (cs := #[.int .u8 0, .int .u8 0, .int .u8 0, .int .u8 0, .int .u8 0, .string (⟨#[]⟩ : ByteArray), .string (⟨#[]⟩ : ByteArray), .string (⟨#[]⟩ : ByteArray), .string (⟨#[]⟩ : ByteArray), .string (⟨#[]⟩ : ByteArray), .string (⟨#[]⟩ : ByteArray), .string (⟨#[]⟩ : ByteArray), .string (⟨#[]⟩ : ByteArray), .string (⟨#[]⟩ : ByteArray), .string (⟨#[]⟩ : ByteArray)]) (t := 25) ?hr ?_; (case hd => rfl); (case hg => rfl); (case hr => first | (go_simp; done) | (go_simp; rfl)); intro gb122 hg w79 hbox hb; have n0_ := Aside0.mk (below_step (by repeat (first | (with_reducible first | exact HB.out | apply below_alloc | apply pw_below_drewN | apply below_drew1) | exact HB.out)) hb); have n1_ := Aside0.mk (hbox); have n2_ := Aside0.mk ((by rw [hg]; exact (below_size (by repeat (first | (with_reducible first | exact HB.out | apply below_alloc | apply pw_below_drewN | apply below_drew1) | exact HB.out))) : w.heap.size ≤ gb122)); have n3_ := Aside0.mk ((by rw [hg]; exact (below_size (by repeat (first | (with_reducible first | exact HB.out | apply below_alloc | apply pw_below_drewN | apply below_drew1) | exact HB.out))) : w.heap.size ≤ gb122)); clear HB; have HB := n0_; have BK122 := n1_; have GW122 := n2_; have GE122 := n3_; clear n0_ n1_ n2_ n3_; clear hb hbox hg; have hcz80_0 : w79.cell? ⟨gb122, 0, none⟩ = some (.int .u8 0) := (blk_cell BK122.out 0).trans rfl; have hcz80_1 : w79.cell? ⟨gb122, 1, none⟩ = some (.int .u8 0) := (blk_cell BK122.out 1).trans rfl; have hcz80_2 : w79.cell? ⟨gb122, 2, none⟩ = some (.int .u8 0) := (blk_cell BK122.out 2).trans rfl; have hcz80_3 : w79.cell? ⟨gb122, 3, none⟩ = some (.int .u8 0) := (blk_cell BK122.out 3).trans rfl; have hcz80_4 : w79.cell? ⟨gb122, 4, none⟩ = some (.int .u8 0) := (blk_cell BK122.out 4).trans rfl; have hcz80_5 : w79.cell? ⟨gb122, 5, none⟩ = some (.string (⟨#[]⟩ : ByteArray)) := (blk_cell BK122.out 5).trans rfl; have hcz80_6 : w79.cell? ⟨gb122, 6, none⟩ = some (.string (⟨#[]⟩ : ByteArray)) := (blk_cell BK122.out 6).trans rfl; have hcz80_7 : w79.cell? ⟨gb122, 7, none⟩ = some (.string (⟨#[]⟩ : ByteArray)) := (blk_cell BK122.out 7).trans rfl; have hcz80_8 : w79.cell? ⟨gb122, 8, none⟩ = some (.string (⟨#[]⟩ : ByteArray)) := (blk_cell BK122.out 8).trans rfl; have hcz80_9 : w79.cell? ⟨gb122, 9, none⟩ = some (.string (⟨#[]⟩ : ByteArray)) := (blk_cell BK122.out 9).trans rfl; have hcz80_10 : w79.cell? ⟨gb122, 10, none⟩ = some (.string (⟨#[]⟩ : ByteArray)) := (blk_cell BK122.out 10).trans rfl; have hcz80_11 : w79.cell? ⟨gb122, 11, none⟩ = some (.string (⟨#[]⟩ : ByteArray)) := (blk_cell BK122.out 11).trans rfl; have hcz80_12 : w79.cell? ⟨gb122, 12, none⟩ = some (.string (⟨#[]⟩ : ByteArray)) := (blk_cell BK122.out 12).trans rfl; have hcz80_13 : w79.cell? ⟨gb122, 13, none⟩ = some (.string (⟨#[]⟩ : ByteArray)) := (blk_cell BK122.out 13).trans rfl; have hcz80_14 : w79.cell? ⟨gb122, 14, none⟩ = some (.string (⟨#[]⟩ : ByteArray)) := (blk_cell BK122.out 14).trans rfl; have hfz80_0 := blk_frozen BK122.out 0; have hfz80_1 := blk_frozen BK122.out 1; have hfz80_2 := blk_frozen BK122.out 2; have hfz80_3 := blk_frozen BK122.out 3; have hfz80_4 := blk_frozen BK122.out 4; have hfz80_5 := blk_frozen BK122.out 5; have hfz80_6 := blk_frozen BK122.out 6; have hfz80_7 := blk_frozen BK122.out 7; have hfz80_8 := blk_frozen BK122.out 8; have hfz80_9 := blk_frozen BK122.out 9; have hfz80_10 := blk_frozen BK122.out 10; have hfz80_11 := blk_frozen BK122.out 11; have hfz80_12 := blk_frozen BK122.out 12; have hfz80_13 := blk_frozen BK122.out 13; have hfz80_14 := blk_frozen BK122.out 14) | ((with_reducible refine gate_callee (f := 12) rfl ?_); refine goesL_ (some 27) rfl rfl Tryd.func12 (by kernel_rfl) rfl #[.slice A0 l0.length c0, .bool a1] rfl (by (try simp only [List.map_toArray, List.map_cons, List.map_nil]); first | done | rfl | (simp only [List.length_drop, List.length_take]; rfl)) ?_; (with_reducible refine (QReply.accept_Reply.calls k _ _ l0 a1 t123 false _ ?side3 ?side1 ?side2 A7.out).mono ?_); (case side1 => exact Kd.C_below HR0.out (by repeat (first | (with_reducible first | exact HB.out | apply below_alloc | apply pw_below_drewN | apply below_drew1 | refine below_set ?_ GE122.out) | exact HB.out))); (case side2 => exact HC0.out); (case side3 => exact GlobA.below HG.out (by repeat (first | (with_reducible first | exact HB.out | apply below_alloc | apply pw_below_drewN | apply below_drew1 | refine below_set ?_ GE122.out) | exact HB.out))); rintro e w81 ⟨v125, rfl, ho0, hb⟩; refine ⟨_, rfl, ?_⟩; have n0_ := Aside0.mk (Kd.R_lower ho0 (below_size (by repeat (first | (with_reducible first | exact HB.out | apply below_alloc | apply pw_below_drewN | apply below_drew1 | refine below_set ?_ GE122.out) | exact HB.out)))); have n1_ := Aside0.mk (blk_below (g := gb122) (o := .cells #[.int .u8 t105, .int .u8 t106, .int .u8 t107, .int .u8 t108, .int .u8 t109, .string t110, .string t111, .string t112, .string t113, .string t114, .string t115, .string t116, .string t117, .string t118, .string t119] 25 (0, 0)) (by (with_reducible repeat (first | refine blk_drewN ?_ _ | refine blk_drew ?_ | refine blk_alloc ?_ _)); refine blk_put (cs := #[.int .u8 t105, .int .u8 t106, .int .u8 t107, .int .u8 t108, .int .u8 t109, .string t110, .string t111, .string t112, .string t113, .string t114, .string t115, .string t116, .string t117, .string t118, .string (⟨#[]⟩ : ByteArray)]) ?_ 14 _ rfl; (with_reducible repeat (first | refine blk_drewN ?_ _ | refine blk_drew ?_ | refine blk_alloc ?_ _)); refine blk_put (cs := #[.int .u8 t105, .int .u8 t106, .int .u8 t107, .int .u8 t108, .int .u8 t109, .string t110, .string t111, .string t112, .string t113, .string t114, .string t115, .string t116, .string t117, .string (⟨#[]⟩ : ByteArray), .string (⟨#[]⟩ : ByteArray)]) ?_ 13 _ rfl; (with_reducible repeat (first | refine blk_drewN ?_ _ | refine blk_drew ?_ | refine blk_alloc ?_ _)); refine blk_put (cs := #[.int .u8 t105, .int .u8 t106, .int .u8 t107, .int .u8 t108, .int .u8 t109, .string t110, .string t111, .string t112, .string t113, .string t114, .string t115, .string t116, .string (⟨#[]⟩ : ByteArray), .string (⟨#[]⟩ : ByteArray), .string (⟨#[]⟩ : ByteArray)]) ?_ 12 _ rfl; (with_reducible repeat (first | refine blk_drewN ?_ _ | refine blk_drew ?_ | refine blk_alloc ?_ _)); refine blk_put (cs := #[.int .u8 t105, .int .u8 t106, .int .u8 t107, .int .u8 t108, .int .u8 t109, .string t110, .string t111, .string t112, .string t113, .string t114, .string t115, .string (⟨#[]⟩ : ByteArray), .string (⟨#[]⟩ : ByteArray), .string (⟨#[]⟩ : ByteArray), .string (⟨#[]⟩ : ByteArray)]) ?_ 11 _ rfl; (with_reducible repeat (first | refine blk_drewN ?_ _ | refine blk_drew ?_ | refine blk_alloc ?_ _)); refine blk_put (cs := #[.int .u8 t105, .int .u8 t106, .int .u8 t107, .int .u8 t108, .int .u8 t109, .string t110, .string t111, .string t112, .string t113, .string t114, .string (⟨#[]⟩ : ByteArray), .string (⟨#[]⟩ : ByteArray), .string (⟨#[]⟩ : ByteArray), .string (⟨#[]⟩ : ByteArray), .string (⟨#[]⟩ : ByteArray)]) ?_ 10 _ rfl; (with_reducible repeat (first | refine blk_drewN ?_ _ | refine blk_drew ?_ | refine blk_alloc ?_ _)); refine blk_put (cs := #[.int .u8 t105, .int .u8 t106, .int .u8 t107, .int .u8 t108, .int .u8 t109, .string t110, .string t111, .string t112, .string t113, .string (⟨#[]⟩ : ByteArray), .string (⟨#[]⟩ : ByteArray), .string (⟨#[]⟩ : ByteArray), .string (⟨#[]⟩ : ByteArray), .string (⟨#[]⟩ : ByteArray), .string (⟨#[]⟩ : ByteArray)]) ?_ 9 _ rfl; (with_reducible repeat (first | refine blk_drewN ?_ _ | refine blk_drew ?_ | refine blk_alloc ?_ _)); refine blk_put (cs := #[.int .u8 t105, .int .u8 t106, .int .u8 t107, .int .u8 t108, .int .u8 t109, .string t110, .string t111, .string t112, .string (⟨#[]⟩ : ByteArray), .string (⟨#[]⟩ : ByteArray), .string (⟨#[]⟩ : ByteArray), .string (⟨#[]⟩ : ByteArray), .string (⟨#[]⟩ : ByteArray), .string (⟨#[]⟩ : ByteArray), .string (⟨#[]⟩ : ByteArray)]) ?_ 8 _ rfl; (with_reducible repeat (first | refine blk_drewN ?_ _ | refine blk_drew ?_ | refine blk_alloc ?_ _)); refine blk_put (cs := #[.int .u8 t105, .int .u8 t106, .int .u8 t107, .int .u8 t108, .int .u8 t109, .string t110, .string t111, .string (⟨#[]⟩ : ByteArray), .string (⟨#[]⟩ : ByteArray), .string (⟨#[]⟩ : ByteArray), .string (⟨#[]⟩ : ByteArray), .string (⟨#[]⟩ : ByteArray), .string (⟨#[]⟩ : ByteArray), .string (⟨#[]⟩ : ByteArray), .string (⟨#[]⟩ : ByteArray)]) ?_ 7 _ rfl; (with_reducible repeat (first | refine blk_drewN ?_ _ | refine blk_drew ?_ | refine blk_alloc ?_ _)); refine blk_put (cs := #[.int .u8 t105, .int .u8 t106, .int .u8 t107, .int .u8 t108, .int .u8 t109, .string t110, .string (⟨#[]⟩ : ByteArray), .string (⟨#[]⟩ : ByteArray), .string (⟨#[]⟩ : ByteArray), .string (⟨#[]⟩ : ByteArray), .string (⟨#[]⟩ : ByteArray), .string (⟨#[]⟩ : ByteArray), .string (⟨#[]⟩ : ByteArray), .string (⟨#[]⟩ : ByteArray), .string (⟨#[]⟩ : ByteArray)]) ?_ 6 _ rfl; (with_reducible repeat (first | refine blk_drewN ?_ _ | refine blk_drew ?_ | refine blk_alloc ?_ _)); refine blk_put (cs := #[.int .u8 t105, .int .u8 t106, .int .u8 t107, .int .u8 t108, .int .u8 t109, .string (⟨#[]⟩ : ByteArray), .string (⟨#[]⟩ : ByteArray), .string (⟨#[]⟩ : ByteArray), .string (⟨#[]⟩ : ByteArray), .string (⟨#[]⟩ : ByteArray), .string (⟨#[]⟩ : ByteArray), .string (⟨#[]⟩ : ByteArray), .string (⟨#[]⟩ : ByteArray), .string (⟨#[]⟩ : ByteArray), .string (⟨#[]⟩ : ByteArray)]) ?_ 5 _ rfl; (with_reducible repeat (first | refine blk_drewN ?_ _ | refine blk_drew ?_ | refine blk_alloc ?_ _)); refine blk_put (cs := #[.int .u8 t105, .int .u8 t106, .int .u8 t107, .int .u8 t108, .int .u8 0, .string (⟨#[]⟩ : ByteArray), .string (⟨#[]⟩ : ByteArray), .string (⟨#[]⟩ : ByteArray), .string (⟨#[]⟩ : ByteArray), .string (⟨#[]⟩ : ByteArray), .string (⟨#[]⟩ : ByteArray), .string (⟨#[]⟩ : ByteArray), .string (⟨#[]⟩ : ByteArray), .string (⟨#[]⟩ : ByteArray), .string (⟨#[]⟩ : ByteArray)]) ?_ 4 _ rfl; (with_reducible repeat (first | refine blk_drewN ?_ _ | refine blk_drew ?_ | refine blk_alloc ?_ _)); refine blk_put (cs := #[.int .u8 t105, .int .u8 t106, .int .u8 t107, .int .u8 0, .int .u8 0, .string (⟨#[]⟩ : ByteArray), .string (⟨#[]⟩ : ByteArray), .string (⟨#[]⟩ : ByteArray), .string (⟨#[]⟩ : ByteArray), .string (⟨#[]⟩ : ByteArray), .string (⟨#[]⟩ : ByteArray), .string (⟨#[]⟩ : ByteArray), .string (⟨#[]⟩ : ByteArray), .string (⟨#[]⟩ : ByteArray), .string (⟨#[]⟩ : ByteArray)]) ?_ 3 _ rfl; (with_reducible repeat (first | refine blk_drewN ?_ _ | refine blk_drew ?_ | refine blk_alloc ?_ _)); refine blk_put (cs := #[.int .u8 t105, .int .u8 t106, .int .u8 0, .int .u8 0, .int .u8 0, .string (⟨#[]⟩ : ByteArray), .string (⟨#[]⟩ : ByteArray), .string (⟨#[]⟩ : ByteArray), .string (⟨#[]⟩ : ByteArray), .string (⟨#[]⟩ : ByteArray), .string (⟨#[]⟩ : ByteArray), .string (⟨#[]⟩ : ByteArray), .string (⟨#[]⟩ : ByteArray), .string (⟨#[]⟩ : ByteArray), .string (⟨#[]⟩ : ByteArray)]) ?_ 2 _ rfl; (with_reducible repeat (first | refine blk_drewN ?_ _ | refine blk_drew ?_ | refine blk_alloc ?_ _)); refine blk_put (cs := #[.int .u8 t105, .int .u8 0, .int .u8 0, .int .u8 0, .int .u8 0, .string (⟨#[]⟩ : ByteArray), .string (⟨#[]⟩ : ByteArray), .string (⟨#[]⟩ : ByteArray), .string (⟨#[]⟩ : ByteArray), .string (⟨#[]⟩ : ByteArray), .string (⟨#[]⟩ : ByteArray), .string (⟨#[]⟩ : ByteArray), .string (⟨#[]⟩ : ByteArray), .string (⟨#[]⟩ : ByteArray), .string (⟨#[]⟩ : ByteArray)]) ?_ 1 _ rfl; (with_reducible repeat (first | refine blk_drewN ?_ _ | refine blk_drew ?_ | refine blk_alloc ?_ _)); refine blk_put (cs := #[.int .u8 0, .int .u8 0, .int .u8 0, .int .u8 0, .int .u8 0, .string (⟨#[]⟩ : ByteArray), .string (⟨#[]⟩ : ByteArray), .string (⟨#[]⟩ : ByteArray), .string (⟨#[]⟩ : ByteArray), .string (⟨#[]⟩ : ByteArray), .string (⟨#[]⟩ : ByteArray), .string (⟨#[]⟩ : ByteArray), .string (⟨#[]⟩ : ByteArray), .string (⟨#[]⟩ : ByteArray), .string (⟨#[]⟩ : ByteArray)]) ?_ 0 _ rfl; (with_reducible repeat (first | refine blk_drewN ?_ _ | refine blk_drew ?_ | refine blk_alloc ?_ _)); exact BK122.out) hb); have n2_ := Aside0.mk (below_step (by repeat (first | (with_reducible first | exact HB.out | apply below_alloc | apply pw_below_drewN | apply below_drew1 | refine below_set ?_ GE122.out) | exact HB.out)) hb); clear BK122; clear HB; have HO126 := n0_; have BK122 := n1_; have HB := n2_; clear n0_ n1_ n2_; (try clear hb); (try clear hb2); (try clear hk); (try clear hi); (try clear ho0)) | ((with_reducible refine gate_callee (f := 9) rfl ?_); refine goesL_ (some 32) rfl rfl Tryd.func9 (by kernel_rfl) rfl #[] rfl (by (try simp only [List.map_toArray, List.map_cons, List.map_nil]); first | done | rfl | (simp only [List.length_drop, List.length_take]; rfl)) ?_; (with_reducible refine (law_alive.calls  true _ ?side1 A61.out).mono ?_); (case side1 => exact GlobA.below HG.out (by repeat (first | (with_reducible first | exact HB.out | apply below_alloc | apply pw_below_drewN | apply below_drew1 | refine below_set ?_ GE122.out) | exact HB.out))); rintro e w82 ⟨rfl, hb⟩; refine ⟨_, rfl, ?_⟩; have n0_ := Aside0.mk (Kd.R_below (by (with_reducible repeat (first | apply Kd.R_alloc | apply Kd.R_drewN | apply Kd.R_drew)); exact HO126.out) hb); have n1_ := Aside0.mk (blk_below (g := gb122) (o := .cells #[.int .u8 t105, .int .u8 t106, .int .u8 t107, .int .u8 t108, .int .u8 t109, .string t110, .string t111, .string t112, .string t113, .string t114, .string t115, .string t116, .string t117, .string t118, .string t119] 25 (0, 0)) (by (with_reducible repeat (first | refine blk_drewN ?_ _ | refine blk_drew ?_ | refine blk_alloc ?_ _)); exact BK122.out) hb); have n2_ := Aside0.mk (below_step (by repeat (first | (with_reducible first | exact HB.out | apply below_alloc | apply pw_below_drewN | apply below_drew1 | refine below_set ?_ GE122.out) | exact HB.out)) hb); clear HO126; clear BK122; clear HB; have HO126 := n0_; have BK122 := n1_; have HB := n2_; clear n0_ n1_ n2_; (try clear hb); (try clear hb2); (try clear hk); (try clear hi); obtain ⟨Ao83, co83, eo83⟩ := Kd.R_slice HO126.out; subst eo83))
          go_ret
          exact ⟨by first | rfl | (simp [errW_none, errW_some] <;> rfl) | (simp [*, errW_none, errW_some] <;> rfl), by repeat (first | (with_reducible first | exact HB.out | apply below_alloc | apply pw_below_drewN | apply below_drew1 | refine below_set ?_ GE122.out) | exact HB.out)⟩
      · replace c62 := Bool.eq_false_iff.mpr c62
        subst c62
        have H1 : (some false) = some r := by rw [if_neg (show ¬ (false = true) by decide)] at H; exact H
        clear H
        have H := H1
        clear H1
        obtain rfl := Option.some.inj H
        go_enter Tryd.func7, Tryd.ntmps7
        go_wp2_with (first | ((with_reducible refine gate_callee (f := 10) rfl ?_); refine goesL_ (some 20) rfl rfl Tryd.func10 (by kernel_rfl) rfl #[.slice A0 l0.length c0] rfl (by (try simp only [List.map_toArray, List.map_cons, List.map_nil]); first | done | rfl | (simp only [List.length_drop, List.length_take]; rfl)) ?_; (with_reducible refine (accept_Verdict.calls _ _ l0 t105 t106 t107 t108 t109 t110 t111 t112 t113 t114 t115 t116 t117 t118 t119 t120 t121 _ ?side3 ?side1 ?side2 A6.out).mono ?_); (case side1 => repeat (first | exact HR0.out | (with_reducible refine Kd.C_alloc ?_ _) | (with_reducible refine Kd.C_drewN ?_ _) | (with_reducible refine Kd.C_drew ?_))); (case side2 => exact HC0.out); (case side3 => exact GlobA.below HG.out (by repeat (first | (with_reducible first | exact HB.out | apply below_alloc | apply pw_below_drewN | apply below_drew1) | exact HB.out))); rintro e w84 ⟨rfl, hb⟩; refine ⟨_, rfl, ?_⟩; have n0_ := Aside0.mk (below_step (by repeat (first | (with_reducible first | exact HB.out | apply below_alloc | apply pw_below_drewN | apply below_drew1) | exact HB.out)) hb); clear HB; have HB := n0_; clear n0_; (try clear hb); (try clear hb2); (try clear hk); (try clear hi)) | ((with_reducible refine gate_dst (N := 5) rfl ?_); (try (refine gate_guard (by rfl) ?_; dsimp only)); refine box_event ?hg (N := 5) ?hd (cs := #[.int .u8 0, .int .u8 0, .int .u8 0, .int .u8 0, .int .u8 0, .string (⟨#[]⟩ : ByteArray), .string (⟨#[]⟩ : ByteArray), .string (⟨#[]⟩ : ByteArray), .string (⟨#[]⟩ : ByteArray), .string (⟨#[]⟩ : ByteArray), .string (⟨#[]⟩ : ByteArray), .string (⟨#[]⟩ : ByteArray), .string (⟨#[]⟩ : ByteArray), .string (⟨#[]⟩ : ByteArray), .string (⟨#[]⟩ : ByteArray)]) (t := 25) ?hr ?_; (case hd => rfl); (case hg => rfl); (case hr => first | (go_simp; done) | (go_simp; rfl)); intro gb122 hg w85 hbox hb; have n0_ := Aside0.mk (below_step (by repeat (first | (with_reducible first | exact HB.out | apply below_alloc | apply pw_below_drewN | apply below_drew1) | exact HB.out)) hb); have n1_ := Aside0.mk (hbox); have n2_ := Aside0.mk ((by rw [hg]; exact (below_size (by repeat (first | (with_reducible first | exact HB.out | apply below_alloc | apply pw_below_drewN | apply below_drew1) | exact HB.out))) : w.heap.size ≤ gb122)); have n3_ := Aside0.mk ((by rw [hg]; exact (below_size (by repeat (first | (with_reducible first | exact HB.out | apply below_alloc | apply pw_below_drewN | apply below_drew1) | exact HB.out))) : w.heap.size ≤ gb122)); clear HB; have HB := n0_; have BK122 := n1_; have GW122 := n2_; have GE122 := n3_; clear n0_ n1_ n2_ n3_; clear hb hbox hg; have hcz86_0 : w85.cell? ⟨gb122, 0, none⟩ = some (.int .u8 0) := (blk_cell BK122.out 0).trans rfl; have hcz86_1 : w85.cell? ⟨gb122, 1, none⟩ = some (.int .u8 0) := (blk_cell BK122.out 1).trans rfl; have hcz86_2 : w85.cell? ⟨gb122, 2, none⟩ = some (.int .u8 0) := (blk_cell BK122.out 2).trans rfl; have hcz86_3 : w85.cell? ⟨gb122, 3, none⟩ = some (.int .u8 0) := (blk_cell BK122.out 3).trans rfl; have hcz86_4 : w85.cell? ⟨gb122, 4, none⟩ = some (.int .u8 0) := (blk_cell BK122.out 4).trans rfl; have hcz86_5 : w85.cell? ⟨gb122, 5, none⟩ = some (.string (⟨#[]⟩ : ByteArray)) := (blk_cell BK122.out 5).trans rfl; have hcz86_6 : w85.cell? ⟨gb122, 6, none⟩ = some (.string (⟨#[]⟩ : ByteArray)) := (blk_cell BK122.out 6).trans rfl; have hcz86_7 : w85.cell? ⟨gb122, 7, none⟩ = some (.string (⟨#[]⟩ : ByteArray)) := (blk_cell BK122.out 7).trans rfl; have hcz86_8 : w85.cell? ⟨gb122, 8, none⟩ = some (.string (⟨#[]⟩ : ByteArray)) := (blk_cell BK122.out 8).trans rfl; have hcz86_9 : w85.cell? ⟨gb122, 9, none⟩ = some (.string (⟨#[]⟩ : ByteArray)) := (blk_cell BK122.out 9).trans rfl; have hcz86_10 : w85.cell? ⟨gb122, 10, none⟩ = some (.string (⟨#[]⟩ : ByteArray)) := (blk_cell BK122.out 10).trans rfl; have hcz86_11 : w85.cell? ⟨gb122, 11, none⟩ = some (.string (⟨#[]⟩ : ByteArray)) := (blk_cell BK122.out 11).trans rfl; have hcz86_12 : w85.cell? ⟨gb122, 12, none⟩ = some (.string (⟨#[]⟩ : ByteArray)) := (blk_cell BK122.out 12).trans rfl; have hcz86_13 : w85.cell? ⟨gb122, 13, none⟩ = some (.string (⟨#[]⟩ : ByteArray)) := (blk_cell BK122.out 13).trans rfl; have hcz86_14 : w85.cell? ⟨gb122, 14, none⟩ = some (.string (⟨#[]⟩ : ByteArray)) := (blk_cell BK122.out 14).trans rfl; have hfz86_0 := blk_frozen BK122.out 0; have hfz86_1 := blk_frozen BK122.out 1; have hfz86_2 := blk_frozen BK122.out 2; have hfz86_3 := blk_frozen BK122.out 3; have hfz86_4 := blk_frozen BK122.out 4; have hfz86_5 := blk_frozen BK122.out 5; have hfz86_6 := blk_frozen BK122.out 6; have hfz86_7 := blk_frozen BK122.out 7; have hfz86_8 := blk_frozen BK122.out 8; have hfz86_9 := blk_frozen BK122.out 9; have hfz86_10 := blk_frozen BK122.out 10; have hfz86_11 := blk_frozen BK122.out 11; have hfz86_12 := blk_frozen BK122.out 12; have hfz86_13 := blk_frozen BK122.out 13; have hfz86_14 := blk_frozen BK122.out 14) | ((with_reducible refine gate_callee (f := 12) rfl ?_); refine goesL_ (some 27) rfl rfl Tryd.func12 (by kernel_rfl) rfl #[.slice A0 l0.length c0, .bool a1] rfl (by (try simp only [List.map_toArray, List.map_cons, List.map_nil]); first | done | rfl | (simp only [List.length_drop, List.length_take]; rfl)) ?_; (with_reducible refine (QReply.accept_Reply.calls k _ _ l0 a1 t123 false _ ?side3 ?side1 ?side2 A7.out).mono ?_); (case side1 => exact Kd.C_below HR0.out (by repeat (first | (with_reducible first | exact HB.out | apply below_alloc | apply pw_below_drewN | apply below_drew1 | refine below_set ?_ GE122.out) | exact HB.out))); (case side2 => exact HC0.out); (case side3 => exact GlobA.below HG.out (by repeat (first | (with_reducible first | exact HB.out | apply below_alloc | apply pw_below_drewN | apply below_drew1 | refine below_set ?_ GE122.out) | exact HB.out))); rintro e w87 ⟨v125, rfl, ho0, hb⟩; refine ⟨_, rfl, ?_⟩; have n0_ := Aside0.mk (Kd.R_lower ho0 (below_size (by repeat (first | (with_reducible first | exact HB.out | apply below_alloc | apply pw_below_drewN | apply below_drew1 | refine below_set ?_ GE122.out) | exact HB.out)))); have n1_ := Aside0.mk (blk_below (g := gb122) (o := .cells #[.int .u8 t105, .int .u8 t106, .int .u8 t107, .int .u8 t108, .int .u8 t109, .string t110, .string t111, .string t112, .string t113, .string t114, .string t115, .string t116, .string t117, .string t118, .string t119] 25 (0, 0)) (by (with_reducible repeat (first | refine blk_drewN ?_ _ | refine blk_drew ?_ | refine blk_alloc ?_ _)); refine blk_put (cs := #[.int .u8 t105, .int .u8 t106, .int .u8 t107, .int .u8 t108, .int .u8 t109, .string t110, .string t111, .string t112, .string t113, .string t114, .string t115, .string t116, .string t117, .string t118, .string (⟨#[]⟩ : ByteArray)]) ?_ 14 _ rfl; (with_reducible repeat (first | refine blk_drewN ?_ _ | refine blk_drew ?_ | refine blk_alloc ?_ _)); refine blk_put (cs := #[.int .u8 t105, .int .u8 t106, .int .u8 t107, .int .u8 t108, .int .u8 t109, .string t110, .string t111, .string t112, .string t113, .string t114, .string t115, .string t116, .string t117, .string (⟨#[]⟩ : ByteArray), .string (⟨#[]⟩ : ByteArray)]) ?_ 13 _ rfl; (with_reducible repeat (first | refine blk_drewN ?_ _ | refine blk_drew ?_ | refine blk_alloc ?_ _)); refine blk_put (cs := #[.int .u8 t105, .int .u8 t106, .int .u8 t107, .int .u8 t108, .int .u8 t109, .string t110, .string t111, .string t112, .string t113, .string t114, .string t115, .string t116, .string (⟨#[]⟩ : ByteArray), .string (⟨#[]⟩ : ByteArray), .string (⟨#[]⟩ : ByteArray)]) ?_ 12 _ rfl; (with_reducible repeat (first | refine blk_drewN ?_ _ | refine blk_drew ?_ | refine blk_alloc ?_ _)); refine blk_put (cs := #[.int .u8 t105, .int .u8 t106, .int .u8 t107, .int .u8 t108, .int .u8 t109, .string t110, .string t111, .string t112, .string t113, .string t114, .string t115, .string (⟨#[]⟩ : ByteArray), .string (⟨#[]⟩ : ByteArray), .string (⟨#[]⟩ : ByteArray), .string (⟨#[]⟩ : ByteArray)]) ?_ 11 _ rfl; (with_reducible repeat (first | refine blk_drewN ?_ _ | refine blk_drew ?_ | refine blk_alloc ?_ _)); refine blk_put (cs := #[.int .u8 t105, .int .u8 t106, .int .u8 t107, .int .u8 t108, .int .u8 t109, .string t110, .string t111, .string t112, .string t113, .string t114, .string (⟨#[]⟩ : ByteArray), .string (⟨#[]⟩ : ByteArray), .string (⟨#[]⟩ : ByteArray), .string (⟨#[]⟩ : ByteArray), .string (⟨#[]⟩ : ByteArray)]) ?_ 10 _ rfl; (with_reducible repeat (first | refine blk_drewN ?_ _ | refine blk_drew ?_ | refine blk_alloc ?_ _)); refine blk_put (cs := #[.int .u8 t105, .int .u8 t106, .int .u8 t107, .int .u8 t108, .int .u8 t109, .string t110, .string t111, .string t112, .string t113, .string (⟨#[]⟩ : ByteArray), .string (⟨#[]⟩ : ByteArray), .string (⟨#[]⟩ : ByteArray), .string (⟨#[]⟩ : ByteArray), .string (⟨#[]⟩ : ByteArray), .string (⟨#[]⟩ : ByteArray)]) ?_ 9 _ rfl; (with_reducible repeat (first | refine blk_drewN ?_ _ | refine blk_drew ?_ | refine blk_alloc ?_ _)); refine blk_put (cs := #[.int .u8 t105, .int .u8 t106, .int .u8 t107, .int .u8 t108, .int .u8 t109, .string t110, .string t111, .string t112, .string (⟨#[]⟩ : ByteArray), .string (⟨#[]⟩ : ByteArray), .string (⟨#[]⟩ : ByteArray), .string (⟨#[]⟩ : ByteArray), .string (⟨#[]⟩ : ByteArray), .string (⟨#[]⟩ : ByteArray), .string (⟨#[]⟩ : ByteArray)]) ?_ 8 _ rfl; (with_reducible repeat (first | refine blk_drewN ?_ _ | refine blk_drew ?_ | refine blk_alloc ?_ _)); refine blk_put (cs := #[.int .u8 t105, .int .u8 t106, .int .u8 t107, .int .u8 t108, .int .u8 t109, .string t110, .string t111, .string (⟨#[]⟩ : ByteArray), .string (⟨#[]⟩ : ByteArray), .string (⟨#[]⟩ : ByteArray), .string (⟨#[]⟩ : ByteArray), .string (⟨#[]⟩ : ByteArray), .string (⟨#[]⟩ : ByteArray), .string (⟨#[]⟩ : ByteArray), .string (⟨#[]⟩ : ByteArray)]) ?_ 7 _ rfl; (with_reducible repeat (first | refine blk_drewN ?_ _ | refine blk_drew ?_ | refine blk_alloc ?_ _)); refine blk_put (cs := #[.int .u8 t105, .int .u8 t106, .int .u8 t107, .int .u8 t108, .int .u8 t109, .string t110, .string (⟨#[]⟩ : ByteArray), .string (⟨#[]⟩ : ByteArray), .string (⟨#[]⟩ : ByteArray), .string (⟨#[]⟩ : ByteArray), .string (⟨#[]⟩ : ByteArray), .string (⟨#[]⟩ : ByteArray), .string (⟨#[]⟩ : ByteArray), .string (⟨#[]⟩ : ByteArray), .string (⟨#[]⟩ : ByteArray)]) ?_ 6 _ rfl; (with_reducible repeat (first | refine blk_drewN ?_ _ | refine blk_drew ?_ | refine blk_alloc ?_ _)); refine blk_put (cs := #[.int .u8 t105, .int .u8 t106, .int .u8 t107, .int .u8 t108, .int .u8 t109, .string (⟨#[]⟩ : ByteArray), .string (⟨#[]⟩ : ByteArray), .string (⟨#[]⟩ : ByteArray), .string (⟨#[]⟩ : ByteArray), .string (⟨#[]⟩ : ByteArray), .string (⟨#[]⟩ : ByteArray), .string (⟨#[]⟩ : ByteArray), .string (⟨#[]⟩ : ByteArray), .string (⟨#[]⟩ : ByteArray), .string (⟨#[]⟩ : ByteArray)]) ?_ 5 _ rfl; (with_reducible repeat (first | refine blk_drewN ?_ _ | refine blk_drew ?_ | refine blk_alloc ?_ _)); refine blk_put (cs := #[.int .u8 t105, .int .u8 t106, .int .u8 t107, .int .u8 t108, .int .u8 0, .string (⟨#[]⟩ : ByteArray), .string (⟨#[]⟩ : ByteArray), .string (⟨#[]⟩ : ByteArray), .string (⟨#[]⟩ : ByteArray), .string (⟨#[]⟩ : ByteArray), .string (⟨#[]⟩ : ByteArray), .string (⟨#[]⟩ : ByteArray), .string (⟨#[]⟩ : ByteArray), .string (⟨#[]⟩ : ByteArray), .string (⟨#[]⟩ : ByteArray)]) ?_ 4 _ rfl; (with_reducible repeat (first | refine blk_drewN ?_ _ | refine blk_drew ?_ | refine blk_alloc ?_ _)); refine blk_put (cs := #[.int .u8 t105, .int .u8 t106, .int .u8 t107, .int .u8 0, .int .u8 0, .string (⟨#[]⟩ : ByteArray), .string (⟨#[]⟩ : ByteArray), .string (⟨#[]⟩ : ByteArray), .string (⟨#[]⟩ : ByteArray), .string (⟨#[]⟩ : ByteArray), .string (⟨#[]⟩ : ByteArray), .string (⟨#[]⟩ : ByteArray), .string (⟨#[]⟩ : ByteArray), .string (⟨#[]⟩ : ByteArray), .string (⟨#[]⟩ : ByteArray)]) ?_ 3 _ rfl; (with_reducible repeat (first | refine blk_drewN ?_ _ | refine blk_drew ?_ | refine blk_alloc ?_ _)); refine blk_put (cs := #[.int .u8 t105, .int .u8 t106, .int .u8 0, .int .u8 0, .int .u8 0, .string (⟨#[]⟩ : ByteArray), .string (⟨#[]⟩ : ByteArray), .string (⟨#[]⟩ : ByteArray), .string (⟨#[]⟩ : ByteArray), .string (⟨#[]⟩ : ByteArray), .string (⟨#[]⟩ : ByteArray), .string (⟨#[]⟩ : ByteArray), .string (⟨#[]⟩ : ByteArray), .string (⟨#[]⟩ : ByteArray), .string (⟨#[]⟩ : ByteArray)]) ?_ 2 _ rfl; (with_reducible repeat (first | refine blk_drewN ?_ _ | refine blk_drew ?_ | refine blk_alloc ?_ _)); refine blk_put (cs := #[.int .u8 t105, .int .u8 0, .int .u8 0, .int .u8 0, .int .u8 0, .string (⟨#[]⟩ : ByteArray), .string (⟨#[]⟩ : ByteArray), .string (⟨#[]⟩ : ByteArray), .string (⟨#[]⟩ : ByteArray), .string (⟨#[]⟩ : ByteArray), .string (⟨#[]⟩ : ByteArray), .string (⟨#[]⟩ : ByteArray), .string (⟨#[]⟩ : ByteArray), .string (⟨#[]⟩ : ByteArray), .string (⟨#[]⟩ : ByteArray)]) ?_ 1 _ rfl; (with_reducible repeat (first | refine blk_drewN ?_ _ | refine blk_drew ?_ | refine blk_alloc ?_ _)); refine blk_put (cs := #[.int .u8 0, .int .u8 0, .int .u8 0, .int .u8 0, .int .u8 0, .string (⟨#[]⟩ : ByteArray), .string (⟨#[]⟩ : ByteArray), .string (⟨#[]⟩ : ByteArray), .string (⟨#[]⟩ : ByteArray), .string (⟨#[]⟩ : ByteArray), .string (⟨#[]⟩ : ByteArray), .string (⟨#[]⟩ : ByteArray), .string (⟨#[]⟩ : ByteArray), .string (⟨#[]⟩ : ByteArray), .string (⟨#[]⟩ : ByteArray)]) ?_ 0 _ rfl; (with_reducible repeat (first | refine blk_drewN ?_ _ | refine blk_drew ?_ | refine blk_alloc ?_ _)); exact BK122.out) hb); have n2_ := Aside0.mk (below_step (by repeat (first | (with_reducible first | exact HB.out | apply below_alloc | apply pw_below_drewN | apply below_drew1 | refine below_set ?_ GE122.out) | exact HB.out)) hb); clear BK122; clear HB; have HO126 := n0_; have BK122 := n1_; have HB := n2_; clear n0_ n1_ n2_; (try clear hb); (try clear hb2); (try clear hk); (try clear hi); (try clear ho0)) | ((with_reducible refine gate_callee (f := 9) rfl ?_); refine goesL_ (some 32) rfl rfl Tryd.func9 (by kernel_rfl) rfl #[] rfl (by (try simp only [List.map_toArray, List.map_cons, List.map_nil]); first | done | rfl | (simp only [List.length_drop, List.length_take]; rfl)) ?_; (with_reducible refine (law_alive.calls  false _ ?side1 A61.out).mono ?_); (case side1 => exact GlobA.below HG.out (by repeat (first | (with_reducible first | exact HB.out | apply below_alloc | apply pw_below_drewN | apply below_drew1 | refine below_set ?_ GE122.out) | exact HB.out))); rintro e w88 ⟨rfl, hb⟩; refine ⟨_, rfl, ?_⟩; have n0_ := Aside0.mk (Kd.R_below (by (with_reducible repeat (first | apply Kd.R_alloc | apply Kd.R_drewN | apply Kd.R_drew)); exact HO126.out) hb); have n1_ := Aside0.mk (blk_below (g := gb122) (o := .cells #[.int .u8 t105, .int .u8 t106, .int .u8 t107, .int .u8 t108, .int .u8 t109, .string t110, .string t111, .string t112, .string t113, .string t114, .string t115, .string t116, .string t117, .string t118, .string t119] 25 (0, 0)) (by (with_reducible repeat (first | refine blk_drewN ?_ _ | refine blk_drew ?_ | refine blk_alloc ?_ _)); exact BK122.out) hb); have n2_ := Aside0.mk (below_step (by repeat (first | (with_reducible first | exact HB.out | apply below_alloc | apply pw_below_drewN | apply below_drew1 | refine below_set ?_ GE122.out) | exact HB.out)) hb); clear HO126; clear BK122; clear HB; have HO126 := n0_; have BK122 := n1_; have HB := n2_; clear n0_ n1_ n2_; (try clear hb); (try clear hb2); (try clear hk); (try clear hi)))
        go_ret
        exact ⟨by first | rfl | (simp [errW_none, errW_some] <;> rfl) | (simp [*, errW_none, errW_some] <;> rfl), by repeat (first | (with_reducible first | exact HB.out | apply below_alloc | apply pw_below_drewN | apply below_drew1 | refine below_set ?_ GE122.out) | exact HB.out)⟩

/-- THE ONE PURE STATEMENT of lamplighterlaw11_AcceptAnswers: yours. -/
def lamplighterlaw11_AcceptAnswers.Pure : Prop := ∀ (l0 : List Int) (a1 : Bool), l0.length ≤ maxLen → l0.length * 1 ≤ 140737488351232 → (∀ x ∈ l0, (Lit.int .u8 x).wf = true) → ∃ k, lamplighterlaw11_AcceptAnswers.f k l0 a1 = some true
theorem lamplighterlaw11_AcceptAnswers.walk (P : lamplighterlaw11_AcceptAnswers.Pure) (a0 : Option Addr) (len0 cap0 : Nat) (z0 : List Int) (a1 : Bool) (w : World) (hG : GlobA w) (w0 : (a0 = none ∧ len0 = 0 ∧ cap0 = 0 ∧ z0 = []) ∨ ∃ x, a0 = some x ∧ len0 ≤ cap0 ∧ cap0 ≤ maxLen ∧ z0.length = cap0 ∧ (∀ i, i < z0.length → w.cell? (x.add i) = some (.int .u8 (z0.getD i 0))) ∧ ∀ n ∈ z0, (Lit.int .u8 n).wf = true) (y0 : len0 * 1 ≤ 140737488351232) :
    Calls Tryd.prog 7 #[.slice a0 len0 cap0, .bool a1] w fun e w' => e = .returned (.bool true) ∧ Below w.heap.size w w' := by
  obtain ⟨l0, rfl, hr0, hm0, hw0, hc0⟩ := ReadsInt.ofRowC w0
  obtain ⟨k, h⟩ := P l0 a1 hm0 y0 hw0
  refine (lamplighterlaw11_AcceptAnswers.calls k _ _ l0 a1 true w hG (Kd.C_of_reads (d := (0 : Int)) (h1 := fun _ => rfl) hr0) hc0 h).mono ?_
  rintro e w' ⟨rfl, hd⟩
  exact ⟨rfl, hd⟩

end Go.Proofs.YtciagecaegoppaaDoor.QAcceptAnswers
end
section
namespace Go.Proofs.YtciagecaegoppaaDoor
set_option linter.unusedVariables false
set_option linter.unusedSimpArgs false
set_option maxRecDepth 20000
open Go.RowKit Go.Proofs.YtciagecaegoppaaDoorW.PrintWords Go.Proofs.YtciagecaegoppaaDoorW.PrintLast Go.Proofs.YtciagecaegoppaaDoorW.PrintMore

/-- The numbers of bytes. -/
def numsB (l : List UInt8) : List Int := l.map fun b => (b.toNat : Int)
theorem bytes_numsB (l : List UInt8) : Lib.bytesOf (numsB l) = l := by
  unfold Lib.bytesOf numsB
  rw [List.map_map]
  conv => rhs; rw [← List.map_id l]
  apply List.map_congr_left
  intro b _
  simp
theorem str_numsB (l : List UInt8) : strOfNums (numsB l) = strOf l := by
  unfold strOf
  rw [← Lib.mk_data (strOfNums (numsB l)), ← Lib.toList_data, Lib.strOfNums_toList, bytes_numsB]
theorem Bytes_numsB (l : List UInt8) : Bytes (numsB l) := by
  intro x hx
  obtain ⟨b, _, rfl⟩ := List.mem_map.1 hx
  have := b.toNat_lt
  omega
/-- Texts, each with a sign ahead. -/
def cat (c : UInt8) : List (List UInt8) → List UInt8
  | [] => []
  | f :: fs => c :: (f ++ cat c fs)
theorem pieces_free (c : UInt8) (a : List UInt8) (h : c ∉ a) : pieces c a = [a] := by
  induction a with
  | nil => rfl
  | cons b r ih =>
    have hb : b ≠ c := fun e => h (e ▸ List.mem_cons_self)
    rw [pieces, if_neg hb, ih (fun hm => h (List.mem_cons_of_mem _ hm))]
theorem pieces_sep (c : UInt8) (a r : List UInt8) (h : c ∉ a) : pieces c (a ++ c :: r) = a :: pieces c r := by
  induction a with
  | nil => rw [List.nil_append, pieces, if_pos rfl]
  | cons b a ih =>
    have hb : b ≠ c := fun e => h (e ▸ List.mem_cons_self)
    rw [List.cons_append, pieces, if_neg hb, ih (fun hm => h (List.mem_cons_of_mem _ hm))]
theorem pieces_cat (c : UInt8) : ∀ (a : List UInt8) (fs : List (List UInt8)), c ∉ a → (∀ f ∈ fs, c ∉ f) → pieces c (a ++ cat c fs) = a :: fs
  | a, [], h, _ => by rw [cat, List.append_nil, pieces_free c a h]
  | a, f :: fs, h, hf => by
    rw [cat, pieces_sep c a _ h, pieces_cat c f fs (hf f List.mem_cons_self) (fun g hg => hf g (List.mem_cons_of_mem _ hg))]
theorem mem_cat {c x : UInt8} : ∀ {fs : List (List UInt8)}, x ∈ cat c fs → x = c ∨ ∃ f ∈ fs, x ∈ f
  | [], h => by simp [cat] at h
  | f :: fs, h => by
    rw [cat] at h
    rcases List.mem_cons.1 h with rfl | h
    · exact .inl rfl
    · rcases List.mem_append.1 h with h | h
      · exact .inr ⟨f, List.mem_cons_self, h⟩
      · rcases mem_cat h with h | ⟨g, hg, hx⟩
        · exact .inl h
        · exact .inr ⟨g, List.mem_cons_of_mem _ hg, hx⟩

section
variable (F o1 o2 o3 o4 : UInt8) (fs : List (List UInt8)) (R : List UInt8)
def headB : List UInt8 := 77 :: 83 :: 72 :: F :: o1 :: o2 :: o3 :: o4 :: cat F fs
def osB : List UInt8 := [o1, o2, o3, o4]

theorem first_seg (h13 : (13 : UInt8) ∉ headB F o1 o2 o3 o4 fs) (hR : R = [] ∨ ∃ R', R = 13 :: R') : rdOf ByteArray.empty (splitS (numsB (headB F o1 o2 o3 o4 fs ++ R))) 0 = strOf (headB F o1 o2 o3 o4 fs) := by
  have hc : (13 : Int).toNat.toUInt8 = (13 : UInt8) := rfl
  have hd : (strOf (headB F o1 o2 o3 o4 fs ++ R)).data.toList = headB F o1 o2 o3 o4 fs ++ R := by simp [strOf]
  unfold rdOf splitS piecesS
  rw [str_numsB, hd, hc]
  rcases hR with rfl | ⟨R', rfl⟩
  · rw [List.append_nil, pieces_free _ _ h13, if_neg (by simp [strOf, headB, Lib.toList_data])]
    rfl
  · rw [pieces_sep _ _ _ h13]
    have hp := pieces_pos 13 R'
    split
    · cases hq : pieces 13 R' with
      | nil => rw [hq] at hp; simp at hp
      | cons q qs => simp [List.dropLast]
    · rfl

theorem name_head : QField.segment_Name.f (strOf (headB F o1 o2 o3 o4 fs)) = some ⟨#[77, 83, 72]⟩ := by
  have hs : (strOf (headB F o1 o2 o3 o4 fs)).size = (headB F o1 o2 o3 o4 fs).length := size_strOf _
  have hl : 8 ≤ (headB F o1 o2 o3 o4 fs).length := by simp [headB]
  have hm : mn ((strOf (headB F o1 o2 o3 o4 fs)).size : Int) 3 = 3 := by unfold mn; rw [if_pos (by omega)]
  unfold QField.segment_Name.f
  rw [hm, if_pos (by omega), if_pos (by omega)]
  rfl

theorem field_head (k : Int) (hk : 2 ≤ k ∧ k < 1000) (hF : ∀ f ∈ fs, F ∉ f) (hO : F ∉ osB o1 o2 o3 o4) (hsz : (headB F o1 o2 o3 o4 fs).length < 4294967281) (d1 d2 d3 d4 : Int) :
    ∃ b, QField.segment_Field.f (strOf (headB F o1 o2 o3 o4 fs)) k (F.toNat : Int) d1 d2 d3 d4 = some (foundIn (k - 1) ((osB o1 o2 o3 o4 :: fs).map strOf), b) := by
  have hsF : strOfNums [((F.toNat : Nat) : Int)] = strOf [F] := str_numsB [F]
  have hpre : QField.strings_CutPrefix.f (strOf (headB F o1 o2 o3 o4 fs)) ((⟨#[77, 83, 72]⟩ : ByteArray) ++ strOf [F]) = some (strOf (osB o1 o2 o3 o4 ++ cat F fs), true) := by
    have hp4 : ((⟨#[77, 83, 72]⟩ : ByteArray) ++ strOf [F]).size = 4 := by rw [ByteArray.size_append]; rfl
    have hpd : ((⟨#[77, 83, 72]⟩ : ByteArray) ++ strOf [F]).toList = [77, 83, 72, F] := by
      rw [Lib.toList_data, ByteArray.data_append]
      simp [strOf]
    have hs : (strOf (headB F o1 o2 o3 o4 fs)).size = (headB F o1 o2 o3 o4 fs).length := size_strOf _
    have hl : 8 ≤ (headB F o1 o2 o3 o4 fs).length := by simp [headB]
    unfold QField.strings_CutPrefix.f QField.stringslite_CutPrefix.f QField.stringslite_HasPrefix.f
    rw [hp4, if_pos (by omega), if_pos (by omega), if_pos (by omega)]
    have hex : ((strOf (headB F o1 o2 o3 o4 fs)).extract 0 ((4 : Nat) : Int).toNat).toList = [77, 83, 72, F] := by
      rw [Lib.toList_data, Lib.extract_data]
      simp [strOf, headB]
    rw [hex, hpd]
    simp only [Option.bind_some]
    rw [if_pos (by simp), if_pos (by omega), if_pos (by omega)]
    simp only [Option.bind_some]
    congr 2
    apply WideShapes.bytes_inj
    rw [Lib.extract_data, hs]
    have e : (strOf (headB F o1 o2 o3 o4 fs)).data.toList = headB F o1 o2 o3 o4 fs := by simp [strOf]
    rw [e]
    simp [headB, osB, strOf]
  unfold QField.segment_Field.f QField.segment_field.f
  rw [if_neg (by omega), name_head]
  simp only [Option.bind_some]
  rw [if_pos (by rw [Lib.toList_data]), hsF, if_pos (by rw [size_strOf]; simp), hpre]
  simp only [Option.bind_some]
  rw [if_pos trivial]
  have hw : wrap64 (k - 1) = k - 1 := by unfold wrap64; omega
  have hn := nth_tot (strOf (osB o1 o2 o3 o4 ++ cat F fs)) ((F.toNat : Nat) : Int) (k - 1) (by rw [size_strOf]; simp [headB, osB] at hsz ⊢; omega)
  rw [hw, hn]
  simp only [Option.bind_some]
  rw [if_neg (by omega)]
  have hpc : piecesS ((F.toNat : Nat) : Int) (strOf (osB o1 o2 o3 o4 ++ cat F fs)) = (osB o1 o2 o3 o4 :: fs).map strOf := by
    unfold piecesS
    have e : (strOf (osB o1 o2 o3 o4 ++ cat F fs)).data.toList = osB o1 o2 o3 o4 ++ cat F fs := by simp [strOf]
    have ec : ((F.toNat : Nat) : Int).toNat.toUInt8 = F := by simp
    rw [e, ec, pieces_cat F _ fs hO hF]
  rw [hpc]
  exact ⟨_, rfl⟩

theorem found_field (i : Nat) : foundIn (((3 + i : Nat) : Int) - 1) ((osB o1 o2 o3 o4 :: fs).map strOf) = strOf (fs.getD i []) := by
  unfold foundIn
  rw [show (((3 + i : Nat) : Int) - 1 - 1).toNat = i + 1 by omega]
  by_cases h : i < fs.length
  · rw [if_pos (by simp; omega)]
    simp [List.getD, h]
  · rw [if_neg (by simp; omega)]
    rw [List.getD_eq_getElem?_getD, List.getElem?_eq_none (by omega)]
    rfl

/-- What is written out is read back. -/
theorem parse (hF : ∀ f ∈ fs, F ∉ f) (hO : F ∉ osB o1 o2 o3 o4) (h13 : (13 : UInt8) ∉ headB F o1 o2 o3 o4 fs) (hR : R = [] ∨ ∃ R', R = 13 :: R') (hne : fs ≠ [] ∨ R ≠ [])
    (hr : QRight.delim_Right.f 10 (F.toNat : Int) (o1.toNat : Int) (o2.toNat : Int) (o3.toNat : Int) (o4.toNat : Int) = some true) (hsz : (headB F o1 o2 o3 o4 fs ++ R).length < 4294967281) :
    msh_Read.f (numsB (headB F o1 o2 o3 o4 fs ++ R)) = some ((F.toNat : Int), (o1.toNat : Int), (o2.toNat : Int), (o3.toNat : Int), (o4.toNat : Int), strOf (fs.getD 0 []), strOf (fs.getD 1 []), strOf (fs.getD 2 []), strOf (fs.getD 3 []), strOf (fs.getD 4 []), strOf (fs.getD 5 []), strOf (fs.getD 6 []), strOf (fs.getD 7 []), strOf (fs.getD 8 []), strOf (fs.getD 9 []), 0) := by
  have hlen : (numsB (headB F o1 o2 o3 o4 fs ++ R)).length = (headB F o1 o2 o3 o4 fs ++ R).length := by simp [numsB]
  have hszS : (headB F o1 o2 o3 o4 fs).length < 4294967281 := by simp at hsz ⊢; omega
  -- the byte behind the signs
  obtain ⟨z, zs, hz, hz8⟩ : ∃ z zs, cat F fs ++ R = z :: zs ∧ (z = F ∨ z = 13) := by
    cases fs with
    | cons f fs => exact ⟨F, _, rfl, .inl rfl⟩
    | nil =>
      rcases hR with rfl | ⟨R', rfl⟩
      · simp at hne
      · exact ⟨13, R', rfl, .inr rfl⟩
  have hdr : delim_Read.f (numsB (headB F o1 o2 o3 o4 fs ++ R)) = some ((F.toNat : Int), (o1.toNat : Int), (o2.toNat : Int), (o3.toNat : Int), (o4.toNat : Int), 0) := by
    have hsh : numsB (headB F o1 o2 o3 o4 fs ++ R) = 77 :: 83 :: 72 :: (F.toNat : Int) :: (o1.toNat : Int) :: (o2.toNat : Int) :: (o3.toNat : Int) :: (o4.toNat : Int) :: (z.toNat : Int) :: numsB zs := by
      have : headB F o1 o2 o3 o4 fs ++ R = 77 :: 83 :: 72 :: F :: o1 :: o2 :: o3 :: o4 :: (cat F fs ++ R) := rfl
      rw [this, hz]
      rfl
    rw [hsh]
    unfold delim_Read.f
    rw [if_neg (by simp), if_neg (by simp [Lib.bytesOf, Lib.hasPrefix, List.isPrefixOf])]
    simp only [List.getD_cons_succ, List.getD_cons_zero]
    rw [hr]
    simp only [Option.map_some]
    rw [if_neg]
    rintro (h | ⟨h1, h2⟩)
    · cases h
    · rcases hz8 with rfl | rfl
      · exact h1 rfl
      · exact h2 rfl
  unfold msh_Read.f
  rw [hdr]
  simp only [Option.bind_some]
  rw [if_neg (by simp), show segment_Split.f (numsB (headB F o1 o2 o3 o4 fs ++ R)) = some (splitS (numsB (headB F o1 o2 o3 o4 fs ++ R))) from if_pos (by rw [hlen]; exact hsz)]
  simp only [Option.bind_some]
  rw [if_pos (splitS_pos _ (by rw [hlen]; simp [headB])), first_seg F o1 o2 o3 o4 fs R h13 hR]
  obtain ⟨b2, h2⟩ := field_head F o1 o2 o3 o4 fs 2 (by omega) hF hO hszS (o1.toNat : Int) (o2.toNat : Int) (o3.toNat : Int) (o4.toNat : Int)
  rw [h2]
  simp only [Option.bind_some]
  have hoth : strOfNums [((o1.toNat : Nat) : Int), ((o2.toNat : Nat) : Int), ((o3.toNat : Nat) : Int), ((o4.toNat : Nat) : Int)] = strOf (osB o1 o2 o3 o4) := str_numsB [o1, o2, o3, o4]
  have hf2 : foundIn ((2 : Int) - 1) ((osB o1 o2 o3 o4 :: fs).map strOf) = strOf (osB o1 o2 o3 o4) := by
    unfold foundIn
    rw [if_pos (by simp; omega)]
    rfl
  rw [hoth, hf2, if_neg (by simp)]
  unfold msh_Read.rest
  have hfo : ∀ i : Nat, i < 10 → fieldOf (strOf (headB F o1 o2 o3 o4 fs)) (F.toNat : Int) (o1.toNat : Int) (o2.toNat : Int) (o3.toNat : Int) (o4.toNat : Int) ((3 + i : Nat) : Int) = some (strOf (fs.getD i [])) := fun i hi => by
    obtain ⟨b, hb⟩ := field_head F o1 o2 o3 o4 fs ((3 + i : Nat) : Int) (by omega) hF hO hszS (o1.toNat : Int) (o2.toNat : Int) (o3.toNat : Int) (o4.toNat : Int)
    unfold fieldOf
    rw [hb, found_field]
    rfl
  rw [show fieldOf (strOf (headB F o1 o2 o3 o4 fs)) (F.toNat : Int) (o1.toNat : Int) (o2.toNat : Int) (o3.toNat : Int) (o4.toNat : Int) 3 = _ from hfo 0 (by decide), show fieldOf (strOf (headB F o1 o2 o3 o4 fs)) (F.toNat : Int) (o1.toNat : Int) (o2.toNat : Int) (o3.toNat : Int) (o4.toNat : Int) 4 = _ from hfo 1 (by decide), show fieldOf (strOf (headB F o1 o2 o3 o4 fs)) (F.toNat : Int) (o1.toNat : Int) (o2.toNat : Int) (o3.toNat : Int) (o4.toNat : Int) 5 = _ from hfo 2 (by decide), show fieldOf (strOf (headB F o1 o2 o3 o4 fs)) (F.toNat : Int) (o1.toNat : Int) (o2.toNat : Int) (o3.toNat : Int) (o4.toNat : Int) 6 = _ from hfo 3 (by decide), show fieldOf (strOf (headB F o1 o2 o3 o4 fs)) (F.toNat : Int) (o1.toNat : Int) (o2.toNat : Int) (o3.toNat : Int) (o4.toNat : Int) 7 = _ from hfo 4 (by decide), show fieldOf (strOf (headB F o1 o2 o3 o4 fs)) (F.toNat : Int) (o1.toNat : Int) (o2.toNat : Int) (o3.toNat : Int) (o4.toNat : Int) 8 = _ from hfo 5 (by decide), show fieldOf (strOf (headB F o1 o2 o3 o4 fs)) (F.toNat : Int) (o1.toNat : Int) (o2.toNat : Int) (o3.toNat : Int) (o4.toNat : Int) 9 = _ from hfo 6 (by decide), show fieldOf (strOf (headB F o1 o2 o3 o4 fs)) (F.toNat : Int) (o1.toNat : Int) (o2.toNat : Int) (o3.toNat : Int) (o4.toNat : Int) 10 = _ from hfo 7 (by decide), show fieldOf (strOf (headB F o1 o2 o3 o4 fs)) (F.toNat : Int) (o1.toNat : Int) (o2.toNat : Int) (o3.toNat : Int) (o4.toNat : Int) 11 = _ from hfo 8 (by decide), show fieldOf (strOf (headB F o1 o2 o3 o4 fs)) (F.toNat : Int) (o1.toNat : Int) (o2.toNat : Int) (o3.toNat : Int) (o4.toNat : Int) 12 = _ from hfo 9 (by decide)]
  simp only [Option.bind_some]
end
end Go.Proofs.YtciagecaegoppaaDoor
end
section
namespace Go.Proofs.YtciagecaegoppaaDoor
set_option linter.unusedVariables false
set_option linter.unusedSimpArgs false
set_option maxRecDepth 20000
open Go.RowKit Go.Proofs.YtciagecaegoppaaDoorW.PrintWords Go.Proofs.YtciagecaegoppaaDoorW.PrintLast Go.Proofs.YtciagecaegoppaaDoorW.PrintMore

theorem indexByte_mem : ∀ (l : List UInt8) (c : UInt8), 0 ≤ Lib.indexByte l c ↔ c ∈ l
  | [], c => by simp [Lib.indexByte]
  | b :: l, c => by
    have ih := indexByte_mem l c
    unfold Lib.indexByte
    by_cases hb : b = c
    · subst hb; simp
    · rw [if_neg (by simpa using hb)]
      split
      · rename_i h1
        have h1 : Lib.indexByte l c = -1 := by simpa using h1
        rw [h1] at ih
        simp only [List.mem_cons]
        constructor
        · intro h; omega
        · rintro (h | h)
          · exact absurd h.symm hb
          · exact absurd (ih.2 h) (by omega)
      · rename_i h1
        have := Lib.indexByte_ge l c
        have h1 : Lib.indexByte l c ≠ -1 := by simpa using h1
        have hm := ih.1 (by omega)
        simp only [List.mem_cons]
        exact ⟨fun _ => .inr hm, fun _ => by omega⟩
theorem contains_one_sign (s : List UInt8) (c : UInt8) : Lib.contains s [c] = false ↔ c ∉ s := by
  unfold Lib.contains
  rw [Lib.index_one, decide_eq_false_iff_not, indexByte_mem]

theorem right_step (k : Nat) (x3 x12 : List Int) (n i : Int) (h : QRight.delim_Right.l0 (k + 1) x3 x12 n i = some true) (hi : i < n) :
    32 < rd x12 i ∧ rd x12 i ≤ 126 ∧ i ≤ Lib.indexByte (Lib.bytesOf x3) (rd x12 i).toNat.toUInt8 ∧ QRight.delim_Right.l0 k x3 x12 n (wrap64 (i + 1)) = some true := by
  unfold QRight.delim_Right.l0 at h
  rw [if_pos hi] at h
  simp only [bytes_IndexByte.f, Option.bind_some] at h
  repeat' split at h
  all_goals first
    | (cases h; done)
    | (refine ⟨by omega, by omega, by omega, h⟩)

theorem right_signs {d0 d1 d2 d3 d4 : Int} (h : QRight.delim_Right.f 10 d0 d1 d2 d3 d4 = some true) :
    (32 < d0 ∧ d0 ≤ 126) ∧ (32 < d1 ∧ d1 ≤ 126) ∧ (32 < d2 ∧ d2 ≤ 126) ∧ (32 < d3 ∧ d3 ≤ 126) ∧ (32 < d4 ∧ d4 ≤ 126) ∧ d0 ≠ d1 ∧ d0 ≠ d2 ∧ d0 ≠ d3 ∧ d0 ≠ d4 := by
  unfold QRight.delim_Right.f at h
  simp only [QRight.delim_Plain.f, QRight.delim_five.f, Option.bind_some] at h
  split at h
  · rename_i hp
    simp at hp
    obtain ⟨rfl, rfl, rfl, rfl, rfl⟩ := hp
    decide
  · have w1 : wrap64 (0 + 1) = 1 := by unfold wrap64; omega
    have w2 : wrap64 (1 + 1) = 2 := by unfold wrap64; omega
    have w3 : wrap64 (2 + 1) = 3 := by unfold wrap64; omega
    have w4 : wrap64 (3 + 1) = 4 := by unfold wrap64; omega
    obtain ⟨a1, a2, a3, h⟩ := right_step 9 _ _ _ _ h (by simp)
    rw [w1] at h
    obtain ⟨b1, b2, b3, h⟩ := right_step 8 _ _ _ _ h (by simp)
    rw [w2] at h
    obtain ⟨c1, c2, c3, h⟩ := right_step 7 _ _ _ _ h (by simp)
    rw [w3] at h
    obtain ⟨e1, e2, e3, h⟩ := right_step 6 _ _ _ _ h (by simp)
    rw [w4] at h
    obtain ⟨f1, f2, f3, h⟩ := right_step 5 _ _ _ _ h (by simp)
    have r0 : rd [d0, d1, d2, d3, d4] 0 = d0 := rfl
    have r1 : rd [d0, d1, d2, d3, d4] 1 = d1 := rfl
    have r2 : rd [d0, d1, d2, d3, d4] 2 = d2 := rfl
    have r3 : rd [d0, d1, d2, d3, d4] 3 = d3 := rfl
    have r4 : rd [d0, d1, d2, d3, d4] 4 = d4 := rfl
    rw [r0] at a1 a2 a3
    rw [r1] at b1 b2 b3
    rw [r2] at c1 c2 c3
    rw [r3] at e1 e2 e3
    rw [r4] at f1 f2 f3
    have hz : ∀ d : Int, d0 = d → Lib.indexByte (Lib.bytesOf [d0, d1, d2, d3, d4]) d.toNat.toUInt8 = 0 := by
      rintro d rfl
      simp [Lib.bytesOf, Lib.indexByte]
    refine ⟨⟨a1, a2⟩, ⟨b1, b2⟩, ⟨c1, c2⟩, ⟨e1, e2⟩, ⟨f1, f2⟩, fun e => ?_, fun e => ?_, fun e => ?_, fun e => ?_⟩
    · rw [hz _ e] at b3; omega
    · rw [hz _ e] at c3; omega
    · rw [hz _ e] at e3; omega
    · rw [hz _ e] at f3; omega

theorem joinTail_cat (c : UInt8) (fs : List (List UInt8)) : Lib.joinTail [c] fs = cat c fs := by
  induction fs with
  | nil => rfl
  | cons f fs ih => unfold Lib.joinTail at ih ⊢; rw [List.map_cons, List.flatten_cons, ih]; rfl

theorem strOf_toList (s : ByteArray) : strOf s.data.toList = s := by unfold strOf; exact Lib.mk_data s

theorem join_wide (l : List ByteArray) (sep : ByteArray) (n : Nat) (h : ∀ x ∈ l, x.size ≤ n) (hl : l.length ≤ 100) (hn : n ≤ 2000000) (hs : sep.size ≤ 10) : strings_Join.f l sep = some ⟨(joinS l sep).toArray⟩ ∧ (⟨(joinS l sep).toArray⟩ : ByteArray).size ≤ l.length * (n + sep.size) := by
  have hj := joinS_le l sep n h
  have hb : l.length * (n + sep.size) ≤ 100 * (2000000 + 10) := Nat.mul_le_mul hl (by omega)
  exact ⟨by unfold strings_Join.f; rw [if_pos ⟨by omega, by omega⟩], by rw [size_mk]; exact hj⟩
theorem make_head (d0 d1 d2 d3 d4 : Int) (fl oth : ByteArray) (r : List ByteArray) (hfl : fl.size ≤ 10) (hoth : oth.size ≤ 10) (hr : ∀ x ∈ r, x.size ≤ 2000000) (hl : r.length ≤ 18) :
    QMake.segment_Make.f d0 d1 d2 d3 d4 ⟨#[77, 83, 72]⟩ (fl :: oth :: r) = some (strOf ([77, 83, 72] ++ fl.data.toList ++ oth.data.toList ++ cat d0.toNat.toUInt8 (r.map (·.data.toList)))) := by
  have hsep : (strOfNums [d0]).size = 1 := by rw [size_strOfNums]; rfl
  have hsd : (strOfNums [d0]).data.toList = [d0.toNat.toUInt8] := rfl
  have hmn : mn ((fl :: oth :: r).length : Int) 2 = 2 := by unfold mn; simp only [List.length_cons]; split <;> omega
  unfold QMake.segment_Make.f QMake.delim_Join.f
  rw [if_pos (by rw [Lib.toList_data]), hmn, if_pos (by omega), if_pos (by simp; omega)]
  have et : (fl :: oth :: r).take (2 : Int).toNat = [fl, oth] := rfl
  have ed : (fl :: oth :: r).drop (2 : Int).toNat = r := rfl
  rw [et, ed]
  obtain ⟨e1, b1⟩ := join_wide [fl, oth] ⟨#[]⟩ 10 (fun x hx => by
    rcases List.mem_cons.1 hx with rfl | hx
    · exact hfl
    · rw [List.mem_singleton.1 hx]; exact hoth) (by simp) (by omega) (by decide)
  have ej : joinS [fl, oth] ⟨#[]⟩ = fl.data.toList ++ oth.data.toList := by
    unfold joinS
    rw [List.map_cons, Lib.join_cons]
    simp [Lib.joinTail]
  rw [e1, ej]
  rw [ej] at b1
  simp only [Option.bind_some]
  have hs1 : (⟨(fl.data.toList ++ oth.data.toList).toArray⟩ : ByteArray).size ≤ 20 := b1
  rw [if_pos (by have : (⟨#[77, 83, 72]⟩ : ByteArray).size = 3 := rfl; omega), if_pos (by simp; omega)]
  obtain ⟨e2, b2⟩ := join_wide ([⟨#[77, 83, 72]⟩ ++ (⟨(fl.data.toList ++ oth.data.toList).toArray⟩ : ByteArray)] ++ r) (strOfNums [d0]) 2000000 (fun x hx => by
    rcases List.mem_append.1 hx with hx | hx
    · rw [List.mem_singleton.1 hx, ByteArray.size_append]
      have : (⟨#[77, 83, 72]⟩ : ByteArray).size = 3 := rfl
      omega
    · exact hr x hx) (by simp; omega) (by omega) (by omega)
  rw [e2]
  simp only [Option.bind_some]
  unfold strOf
  congr 3
  unfold joinS
  rw [List.singleton_append, List.map_cons, Lib.join_cons, hsd, joinTail_cat, ByteArray.data_append]
  simp

theorem full_empty (v : Nat → ByteArray) : ∀ n k, k < n → wFull v n ≤ k + 2 → (v k).data.toList = []
  | 0, k, h, _ => by omega
  | n + 1, k, h, hf => by
    unfold wFull at hf
    split at hf
    · rename_i he
      rcases Nat.lt_or_ge k n with hkn | hkn
      · exact full_empty v n k hkn hf
      · obtain rfl : k = n := by omega
        rw [Lib.toList_data] at he
        exact List.isEmpty_iff.1 he
    · omega

structure Written (F o1 o2 o3 o4 : UInt8) (v : Nat → ByteArray) (fs : List (List UInt8)) : Prop where
  free : ∀ f ∈ fs, F ∉ f
  no13 : (13 : UInt8) ∉ headB F o1 o2 o3 o4 fs
  signs : F ∉ osB o1 o2 o3 o4
  texts : ∀ k, k < 10 → strOf (fs.getD k []) = v k
  right : QRight.delim_Right.f 10 (F.toNat : Int) (o1.toNat : Int) (o2.toNat : Int) (o3.toNat : Int) (o4.toNat : Int) = some true
end Go.Proofs.YtciagecaegoppaaDoor
end
section
namespace Go.Proofs.YtciagecaegoppaaDoor
set_option linter.unusedVariables false
set_option linter.unusedSimpArgs false
set_option maxRecDepth 20000
open Go.RowKit Go.Proofs.YtciagecaegoppaaDoorW.PrintWords Go.Proofs.YtciagecaegoppaaDoorW.PrintLast Go.Proofs.YtciagecaegoppaaDoorW.PrintMore

theorem indexByte_cut (a r : List UInt8) (c : UInt8) (h : c ∉ a) : Lib.indexByte (a ++ c :: r) c = (a.length : Nat) := by
  induction a with
  | nil => simp [Lib.indexByte]
  | cons b a ih =>
    have hb : b ≠ c := fun e => h (e ▸ List.mem_cons_self)
    have ih := ih (fun hm => h (List.mem_cons_of_mem _ hm))
    rw [List.cons_append, Lib.indexByte, if_neg (by simpa using hb), ih, if_neg (by simp)]
    (try simp)
theorem numsB_append (a b : List UInt8) : numsB (a ++ b) = numsB a ++ numsB b := by unfold numsB; rw [List.map_append]
theorem numsB_len (a : List UInt8) : (numsB a).length = a.length := by unfold numsB; rw [List.length_map]
section
variable (F o1 o2 o3 o4 : UInt8) (s5 s6 s7 s8 s9 s10 s11 s12 s13 s14 : ByteArray) (fs : List (List UInt8)) (R : List UInt8)
theorem read_written (W : Written F o1 o2 o3 o4 (vOf s5 s6 s7 s8 s9 s10 s11 s12 s13 s14) fs) (hsz : (headB F o1 o2 o3 o4 fs ++ 13 :: R).length < 4294967281) :
    msh_Read.f (numsB (headB F o1 o2 o3 o4 fs ++ 13 :: R)) = some ((F.toNat : Int), (o1.toNat : Int), (o2.toNat : Int), (o3.toNat : Int), (o4.toNat : Int), s5, s6, s7, s8, s9, s10, s11, s12, s13, s14, 0) := by
  have hp := parse F o1 o2 o3 o4 fs (13 :: R) W.free W.signs W.no13 (.inr ⟨R, rfl⟩) (.inr (by simp)) W.right hsz
  rw [W.texts 0 (by decide), W.texts 1 (by decide), W.texts 2 (by decide), W.texts 3 (by decide), W.texts 4 (by decide), W.texts 5 (by decide), W.texts 6 (by decide), W.texts 7 (by decide), W.texts 8 (by decide), W.texts 9 (by decide)] at hp
  exact hp
end
end Go.Proofs.YtciagecaegoppaaDoor
end
section
namespace Go.Proofs.YtciagecaegoppaaDoor
set_option linter.unusedVariables false
set_option linter.unusedSimpArgs false
set_option maxRecDepth 20000
open Go.RowKit Go.Proofs.YtciagecaegoppaaDoorW.PrintWords Go.Proofs.YtciagecaegoppaaDoorW.PrintLast Go.Proofs.YtciagecaegoppaaDoorW.PrintMore

theorem scan_ok (fl : ByteArray) (v : Nat → ByteArray) (h : ∀ k, k < 10 → wOk fl (v k)) : ∀ m k, k + m = 10 → wScan fl v m k = some 10
  | 0, k, hk => by
    obtain rfl : k = 10 := by omega
    rfl
  | m + 1, k, hk => by
    obtain ⟨h1, h2⟩ := h k (by omega)
    unfold wScan
    rw [h1]
    simp only [Option.bind_some]
    rw [if_neg (by decide), h2]
    simp only [Option.bind_some]
    rw [if_neg (by decide)]
    exact scan_ok fl v h m (k + 1) (by omega)
theorem wOk_free (F : UInt8) (s : ByteArray) (hs : s.size < 4294967281) (h : F ∉ s.data.toList) (h13 : (13 : UInt8) ∉ s.data.toList) : wOk (strOfNums [(F.toNat : Int)]) s := by
  unfold wOk strings_Contains.f
  rw [if_pos hs, if_pos hs, show (strOfNums [(F.toNat : Int)]).data.toList = [F] by rw [show strOfNums [(F.toNat : Int)] = strOf [F] from str_numsB [F]]; rfl]
  exact ⟨congrArg some ((contains_one_sign _ _).2 h), congrArg some ((contains_one_sign _ _).2 h13)⟩
theorem write_ok (F o1 o2 o3 o4 : UInt8) (s5 s6 s7 s8 s9 s10 s11 s12 s13 s14 : ByteArray) (hv : ∀ k, k < 10 → (vOf s5 s6 s7 s8 s9 s10 s11 s12 s13 s14 k).size ≤ 2000000)
    (hrt : QRight.delim_Right.f 10 (F.toNat : Int) (o1.toNat : Int) (o2.toNat : Int) (o3.toNat : Int) (o4.toNat : Int) = some true) (hfree : ∀ k, k < 10 → F ∉ (vOf s5 s6 s7 s8 s9 s10 s11 s12 s13 s14 k).data.toList ∧ (13 : UInt8) ∉ (vOf s5 s6 s7 s8 s9 s10 s11 s12 s13 s14 k).data.toList) :
    ∃ fs, msh_Write.f (F.toNat : Int) (o1.toNat : Int) (o2.toNat : Int) (o3.toNat : Int) (o4.toNat : Int) s5 s6 s7 s8 s9 s10 s11 s12 s13 s14 = some (strOf (headB F o1 o2 o3 o4 fs), 0) ∧ Written F o1 o2 o3 o4 (vOf s5 s6 s7 s8 s9 s10 s11 s12 s13 s14) fs ∧ ∀ f ∈ fs, ∃ k, k < 10 ∧ f = (vOf s5 s6 s7 s8 s9 s10 s11 s12 s13 s14 k).data.toList := by
  generalize hV : vOf s5 s6 s7 s8 s9 s10 s11 s12 s13 s14 = v at hv hfree
  unfold msh_Write.f
  rw [hrt, hV]
  simp only [Option.bind_some]
  rw [if_neg (by decide), scan_ok _ v (fun k hk => wOk_free F _ (by have := hv k hk; omega) (hfree k hk).1 (hfree k hk).2) 10 0 rfl]
  simp only [Option.bind_some]
  rw [if_neg (by decide)]
  have hfw := wFull_le v 10
  obtain ⟨q, hq⟩ : ∃ q, wFull v 10 = q + 2 := ⟨wFull v 10 - 2, by omega⟩
  have hq10 : q ≤ 10 := by omega
  have eL : (wL (strOfNums [(F.toNat : Int)]) (strOfNums [(o1.toNat : Int), (o2.toNat : Int), (o3.toNat : Int), (o4.toNat : Int)]) v 10).take (wFull v 10) = strOfNums [(F.toNat : Int)] :: strOfNums [(o1.toNat : Int), (o2.toNat : Int), (o3.toNat : Int), (o4.toNat : Int)] :: ((List.range 10).map v).take q := by
    rw [hq]
    unfold wL
    rfl
  have hmem : ∀ x ∈ ((List.range 10).map v).take q, ∃ k, k < 10 ∧ x = v k := by
    intro x hx
    obtain ⟨k, hk, rfl⟩ := List.mem_map.1 (List.mem_of_mem_take hx)
    exact ⟨k, List.mem_range.1 hk, rfl⟩
  rw [eL, make_head _ _ _ _ _ _ _ _ (by rw [size_strOfNums]; simp) (by rw [size_strOfNums]; simp) (fun x hx => by obtain ⟨k, hk, rfl⟩ := hmem x hx; exact hv k hk) (by rw [List.length_take]; simp; omega)]
  refine ⟨(((List.range 10).map v).take q).map (·.data.toList), ?_, ?_, fun f hf => ?_⟩
  · show some (_, (0 : Int)) = _
    have e1 : (strOfNums [(F.toNat : Int)]).data.toList = [F] := by
      rw [show strOfNums [(F.toNat : Int)] = strOf [F] from str_numsB [F]]; rfl
    have e2 : (strOfNums [(o1.toNat : Int), (o2.toNat : Int), (o3.toNat : Int), (o4.toNat : Int)]).data.toList = [o1, o2, o3, o4] := by
      rw [show strOfNums [(o1.toNat : Int), (o2.toNat : Int), (o3.toNat : Int), (o4.toNat : Int)] = strOf [o1, o2, o3, o4] from str_numsB [o1, o2, o3, o4]]; rfl
    rw [e1, e2]
    simp [headB]
  · obtain ⟨g0, g1, g2, g3, g4, n1, n2, n3, n4⟩ := right_signs hrt
    have hfm : ∀ f ∈ (((List.range 10).map v).take q).map (·.data.toList), F ∉ f ∧ (13 : UInt8) ∉ f := by
      intro f hf
      obtain ⟨x, hx, rfl⟩ := List.mem_map.1 hf
      obtain ⟨k, hk, rfl⟩ := hmem x hx
      exact hfree k hk
    have ne : ∀ {a b : UInt8}, (a.toNat : Int) ≠ (b.toNat : Int) → a ≠ b := fun h e => h (by rw [e])
    have ne13 : ∀ {a : UInt8}, 32 < (a.toNat : Int) → (13 : UInt8) ≠ a := fun h e => by rw [← e] at h; exact absurd h (by decide)
    refine ⟨fun f hf => (hfm f hf).1, ?_, ?_, ?_, hrt⟩
    · unfold headB
      intro hm
      simp only [List.mem_cons] at hm
      rcases hm with h | h | h | h | h | h | h | h | h
      · exact absurd h (by decide)
      · exact absurd h (by decide)
      · exact absurd h (by decide)
      · exact ne13 g0.1 h
      · exact ne13 g1.1 h
      · exact ne13 g2.1 h
      · exact ne13 g3.1 h
      · exact ne13 g4.1 h
      · rcases mem_cat h with h | ⟨f, hf, hx⟩
        · exact ne13 g0.1 h
        · exact (hfm f hf).2 hx
    · unfold osB
      simp only [List.mem_cons, List.not_mem_nil, or_false]
      rintro (h | h | h | h)
      · exact ne n1 h
      · exact ne n2 h
      · exact ne n3 h
      · exact ne n4 h
    · intro k hk
      rw [List.getD_eq_getElem?_getD, List.getElem?_map, List.getElem?_take]
      by_cases hkq : k < q
      · rw [if_pos hkq, List.getElem?_map, List.getElem?_range hk]
        exact strOf_toList _
      · rw [if_neg hkq]
        have := full_empty v 10 k hk (by omega)
        rw [← strOf_toList (v k), this]
        rfl
  · obtain ⟨x, hx, rfl⟩ := List.mem_map.1 hf
    obtain ⟨k, hk, rfl⟩ := hmem x hx
    exact ⟨k, hk, rfl⟩

theorem pieces_in (c : UInt8) (l : List UInt8) : ∀ p ∈ pieces c l, c ∉ p ∧ ∀ x ∈ p, x ∈ l := by
  induction l with
  | nil =>
    intro p hp
    rw [pieces, List.mem_singleton] at hp
    subst hp
    simp
  | cons b r ih =>
    intro p hp
    rw [pieces] at hp
    by_cases hb : b = c
    · rw [if_pos hb] at hp
      rcases List.mem_cons.1 hp with rfl | hp
      · simp
      · exact ⟨(ih p hp).1, fun x hx => List.mem_cons_of_mem _ ((ih p hp).2 x hx)⟩
    · rw [if_neg hb] at hp
      cases hq : pieces c r with
      | nil =>
        rw [hq, List.mem_singleton] at hp
        subst hp
        exact ⟨by simpa using fun e => hb e.symm, fun x hx => by rw [List.mem_singleton.1 hx]; exact List.mem_cons_self⟩
      | cons q qs =>
        rw [hq] at hp ih
        rcases List.mem_cons.1 hp with rfl | hp
        · have h := ih q List.mem_cons_self
          exact ⟨fun hm => (List.mem_cons.1 hm).elim (fun e => hb e.symm) h.1, fun x hx => (List.mem_cons.1 hx).elim (fun e => by rw [e]; exact List.mem_cons_self) fun hx => List.mem_cons_of_mem _ (h.2 x hx)⟩
        · have h := ih p (List.mem_cons_of_mem _ hp)
          exact ⟨h.1, fun x hx => List.mem_cons_of_mem _ (h.2 x hx)⟩
theorem found_in (n : Int) (c : Int) (s : ByteArray) : c.toNat.toUInt8 ∉ (foundIn n (piecesS c s)).data.toList ∧ ∀ x ∈ (foundIn n (piecesS c s)).data.toList, x ∈ s.data.toList := by
  unfold foundIn
  split
  · rcases getD_mem_or (piecesS c s) (n - 1).toNat ByteArray.empty with hm | hm
    · obtain ⟨p, hp, he⟩ := List.mem_map.1 hm
      rw [← he]
      have h := pieces_in _ _ p hp
      have hd : (strOf p).data.toList = p := by simp [strOf]
      rw [hd]
      exact h
    · rw [hm]
      exact ⟨List.not_mem_nil, fun x hx => absurd hx List.not_mem_nil⟩
  · exact ⟨List.not_mem_nil, fun x hx => absurd hx List.not_mem_nil⟩
theorem extract_in (s : ByteArray) (a b : Nat) : ∀ x ∈ (s.extract a b).data.toList, x ∈ s.data.toList := by
  intro x hx
  rw [Lib.extract_data] at hx
  exact List.mem_of_mem_drop (List.mem_of_mem_take hx)
theorem cut_in (l sep : List UInt8) : ∀ x ∈ (Lib.cut l sep).2.1, x ∈ l := by
  intro x hx
  unfold Lib.cut at hx
  split at hx
  · exact List.mem_of_mem_drop hx
  · simp at hx
theorem field_in (s : ByteArray) (k d0 d1 d2 d3 d4 : Int) (hk : 2 ≤ k ∧ k < 1000) (x : ByteArray) (b : Bool) (h : QField.segment_Field.f s k d0 d1 d2 d3 d4 = some (x, b)) : d0.toNat.toUInt8 ∉ x.data.toList ∧ ∀ c ∈ x.data.toList, c ∈ s.data.toList := by
  unfold QField.segment_Field.f at h
  rw [if_neg (by omega)] at h
  obtain ⟨⟨y, n⟩, hf, h⟩ := Option.bind_eq_some_iff.1 h
  simp only [Option.some.injEq, Prod.mk.injEq] at h
  obtain ⟨rfl, _⟩ := h
  unfold QField.segment_field.f at hf
  obtain ⟨t, ht, hf⟩ := Option.bind_eq_some_iff.1 hf
  have hnone : d0.toNat.toUInt8 ∉ (⟨#[]⟩ : ByteArray).data.toList ∧ ∀ c ∈ (⟨#[]⟩ : ByteArray).data.toList, c ∈ s.data.toList := ⟨by simp, fun c hc => by simp at hc⟩
  have hnth : ∀ (r : ByteArray) (m : Int) (q : ByteArray × Int), (∀ c ∈ r.data.toList, c ∈ s.data.toList) → segment_nth.f r d0 m = some q → d0.toNat.toUInt8 ∉ q.1.data.toList ∧ ∀ c ∈ q.1.data.toList, c ∈ s.data.toList := by
    intro r m q hr hq
    unfold segment_nth.f at hq
    split at hq
    · obtain rfl := Option.some.inj hq
      have := found_in m d0 r
      exact ⟨this.1, fun c hc => hr c (this.2 c hc)⟩
    · cases hq
  split at hf
  · simp only [Option.bind_some] at hf
    split at hf
    · obtain ⟨⟨r, ok⟩, hr, hf⟩ := Option.bind_eq_some_iff.1 hf
      split at hf
      · obtain ⟨q, hq, hf⟩ := Option.bind_eq_some_iff.1 hf
        rw [if_neg (by omega)] at hf
        simp only [Option.some.injEq, Prod.mk.injEq] at hf
        obtain ⟨rfl, _⟩ := hf
        refine hnth r _ q ?_ hq
        unfold QField.strings_CutPrefix.f QField.stringslite_CutPrefix.f at hr
        obtain ⟨⟨r', ok'⟩, hr', hr⟩ := Option.bind_eq_some_iff.1 hr
        simp only [Option.some.injEq, Prod.mk.injEq] at hr
        obtain ⟨rfl, _⟩ := hr
        obtain ⟨p, _, hr'⟩ := Option.bind_eq_some_iff.1 hr'
        repeat' split at hr'
        all_goals first
          | (cases hr'; done)
          | (simp only [Option.some.injEq, Prod.mk.injEq] at hr'
             obtain ⟨rfl, _⟩ := hr'
             first | exact extract_in _ _ _ | exact fun c hc => hc)
      · simp only [Option.some.injEq, Prod.mk.injEq] at hf
        obtain ⟨rfl, _⟩ := hf
        exact hnone
    · cases hf
  · unfold strings_Cut.f at hf
    split at hf
    · simp only [Option.bind_some] at hf
      split at hf
      · obtain ⟨q, hq, hf⟩ := Option.bind_eq_some_iff.1 hf
        simp only [Option.some.injEq, Prod.mk.injEq] at hf
        obtain ⟨rfl, _⟩ := hf
        refine hnth _ _ q (fun c hc => cut_in _ _ c (by simpa using hc)) hq
      · simp only [Option.some.injEq, Prod.mk.injEq] at hf
        obtain ⟨rfl, _⟩ := hf
        exact hnone
    · cases hf

theorem first_bytes (l : List Int) : Lib.bytesOf (firstSeg l) = (Lib.cut (Lib.bytesOf l) [13]).1 := by
  have e : Lib.bytesOf [13] = [(13 : UInt8)] := rfl
  unfold firstSeg Lib.cut
  rw [e]
  split
  · rw [Lib.bytesOf_take]
  · rfl
theorem first_split (l : List Int) : rdOf ByteArray.empty (splitS l) 0 = strOf (Lib.bytesOf (firstSeg l)) := by
  have hc : (13 : Int).toNat.toUInt8 = (13 : UInt8) := rfl
  have hd : (strOfNums l).data.toList = Lib.bytesOf l := by rw [← Lib.toList_data, Lib.strOfNums_toList]
  have hp := cut_pieces 13 (Lib.bytesOf l)
  unfold rdOf splitS piecesS
  rw [hc, hd, first_bytes, hp.1]
  cases hr : (if (Lib.cut (Lib.bytesOf l) [13]).2.2 = true then pieces 13 (Lib.cut (Lib.bytesOf l) [13]).2.1 else []) with
  | nil =>
    split
    · rename_i he
      simp [strOf, Lib.toList_data] at he ⊢
      rw [he]
      rfl
    · rfl
  | cons q qs =>
    split
    · simp [List.dropLast]
    · rfl
theorem first_no13 (l : List Int) : (13 : UInt8) ∉ Lib.bytesOf (firstSeg l) := by
  rw [first_bytes]
  have := (pieces_in 13 (Lib.bytesOf l) (Lib.cut (Lib.bytesOf l) [13]).1 (by rw [(cut_pieces 13 (Lib.bytesOf l)).1]; exact List.mem_cons_self)).1
  exact this
theorem first_mem (l : List Int) : ∀ x ∈ Lib.bytesOf (firstSeg l), x ∈ Lib.bytesOf l := by
  intro x hx
  unfold firstSeg at hx
  split at hx
  · rw [Lib.bytesOf_take] at hx
    exact List.mem_of_mem_take hx
  · exact hx

structure HeadRead (l : List Int) (F o1 o2 o3 o4 : UInt8) (v : Nat → ByteArray) : Prop where
  right : QRight.delim_Right.f 10 (F.toNat : Int) (o1.toNat : Int) (o2.toNat : Int) (o3.toNat : Int) (o4.toNat : Int) = some true
  free : ∀ k, k < 10 → F ∉ (v k).data.toList ∧ ∀ x ∈ (v k).data.toList, x ∈ Lib.bytesOf (firstSeg l)
  signs : ∀ x ∈ [F, o1, o2, o3, o4], x ∈ Lib.bytesOf l
theorem delim_read_bytes (l : List Int) (hb : Bytes l) (d0 d1 d2 d3 d4 : Int) (h : delim_Read.f l = some (d0, d1, d2, d3, d4, 0)) : ∃ F o1 o2 o3 o4 : UInt8, d0 = (F.toNat : Int) ∧ d1 = (o1.toNat : Int) ∧ d2 = (o2.toNat : Int) ∧ d3 = (o3.toNat : Int) ∧ d4 = (o4.toNat : Int) ∧
    QRight.delim_Right.f 10 d0 d1 d2 d3 d4 = some true ∧ ∀ x ∈ [F, o1, o2, o3, o4], x ∈ Lib.bytesOf l := by
  have h9 := read_ok_len h
  unfold delim_Read.f at h
  rw [if_neg (by omega)] at h
  split at h
  · simp at h
  · obtain ⟨r, hr, h⟩ := Option.map_eq_some_iff.1 h
    split at h
    · simp at h
    · rename_i hn
      simp only [Prod.mk.injEq] at h
      obtain ⟨h0, h1, h2, h3, h4, _⟩ := h
      have hrt : r = true := by
        cases r
        · exact absurd (.inl rfl) hn
        · rfl
      have key : ∀ j, j < l.length → ∃ F : UInt8, l.getD j 0 = (F.toNat : Int) ∧ F ∈ Lib.bytesOf l := by
        intro j hj
        have hm : l.getD j 0 ∈ l := by rw [List.getD_eq_getElem?_getD, List.getElem?_eq_getElem hj]; exact List.getElem_mem hj
        have hx := hb _ hm
        refine ⟨(l.getD j 0).toNat.toUInt8, ?_, List.mem_map.2 ⟨_, hm, rfl⟩⟩
        have : (l.getD j 0).toNat.toUInt8.toNat = (l.getD j 0).toNat % 256 := by simp
        omega
      obtain ⟨F, eF, mF⟩ := key 3 (by omega)
      obtain ⟨o1, e1, m1⟩ := key 4 (by omega)
      obtain ⟨o2, e2, m2⟩ := key 5 (by omega)
      obtain ⟨o3, e3, m3⟩ := key 6 (by omega)
      obtain ⟨o4, e4, m4⟩ := key 7 (by omega)
      refine ⟨F, o1, o2, o3, o4, by rw [← h0, eF], by rw [← h1, e1], by rw [← h2, e2], by rw [← h3, e3], by rw [← h4, e4], by rw [← h0, ← h1, ← h2, ← h3, ← h4, hr, hrt], ?_⟩
      intro x hx
      simp only [List.mem_cons, List.not_mem_nil, or_false] at hx
      rcases hx with rfl | rfl | rfl | rfl | rfl <;> assumption
theorem read_free (l : List Int) (hb : Bytes l) (d0 d1 d2 d3 d4 : Int) (s5 s6 s7 s8 s9 s10 s11 s12 s13 s14 : ByteArray) (h : msh_Read.f l = some (d0, d1, d2, d3, d4, s5, s6, s7, s8, s9, s10, s11, s12, s13, s14, 0)) :
    ∃ F o1 o2 o3 o4 : UInt8, d0 = (F.toNat : Int) ∧ d1 = (o1.toNat : Int) ∧ d2 = (o2.toNat : Int) ∧ d3 = (o3.toNat : Int) ∧ d4 = (o4.toNat : Int) ∧ HeadRead l F o1 o2 o3 o4 (vOf s5 s6 s7 s8 s9 s10 s11 s12 s13 s14) := by
  unfold msh_Read.f at h
  obtain ⟨⟨e0, e1, e2, e3, e4, er⟩, hd, h⟩ := Option.bind_eq_some_iff.1 h
  dsimp only at h
  by_cases he : er ≠ 0
  · rw [if_pos he] at h
    simp [headZ] at h
    omega
  · rw [if_neg he] at h
    obtain rfl : er = 0 := by omega
    obtain ⟨t, ht, h⟩ := Option.bind_eq_some_iff.1 h
    unfold segment_Split.f at ht
    split at ht
    · obtain rfl := Option.some.inj ht
      split at h
      · obtain ⟨f, hf, h⟩ := Option.bind_eq_some_iff.1 h
        split at h
        · simp [headZ] at h
        · rw [first_split] at h
          unfold msh_Read.rest at h
          obtain ⟨v0, g0, h⟩ := Option.bind_eq_some_iff.1 h
          obtain ⟨v1, g1, h⟩ := Option.bind_eq_some_iff.1 h
          obtain ⟨v2, g2, h⟩ := Option.bind_eq_some_iff.1 h
          obtain ⟨v3, g3, h⟩ := Option.bind_eq_some_iff.1 h
          obtain ⟨v4, g4, h⟩ := Option.bind_eq_some_iff.1 h
          obtain ⟨v5, g5, h⟩ := Option.bind_eq_some_iff.1 h
          obtain ⟨v6, g6, h⟩ := Option.bind_eq_some_iff.1 h
          obtain ⟨v7, g7, h⟩ := Option.bind_eq_some_iff.1 h
          obtain ⟨v8, g8, h⟩ := Option.bind_eq_some_iff.1 h
          obtain ⟨v9, g9, h⟩ := Option.bind_eq_some_iff.1 h
          simp only [Option.some.injEq, Prod.mk.injEq] at h
          obtain ⟨rfl, rfl, rfl, rfl, rfl, rfl, rfl, rfl, rfl, rfl, rfl, rfl, rfl, rfl, rfl, _⟩ := h
          obtain ⟨F, o1, o2, o3, o4, rfl, rfl, rfl, rfl, rfl, hrt, hm⟩ := delim_read_bytes l hb _ _ _ _ _ hd
          have hU : ((F.toNat : Nat) : Int).toNat.toUInt8 = F := by simp
          have hS : (strOf (Lib.bytesOf (firstSeg l))).data.toList = Lib.bytesOf (firstSeg l) := by simp [strOf]
          have key : ∀ (k : Int) (x : ByteArray), 2 ≤ k ∧ k < 1000 → fieldOf (strOf (Lib.bytesOf (firstSeg l))) (F.toNat : Int) (o1.toNat : Int) (o2.toNat : Int) (o3.toNat : Int) (o4.toNat : Int) k = some x → F ∉ x.data.toList ∧ ∀ c ∈ x.data.toList, c ∈ Lib.bytesOf (firstSeg l) := by
            intro k x hk hx
            obtain ⟨⟨y, b⟩, hy, rfl⟩ := Option.map_eq_some_iff.1 hx
            have := field_in _ k _ _ _ _ _ hk y b hy
            rw [hU, hS] at this
            exact this
          refine ⟨F, o1, o2, o3, o4, rfl, rfl, rfl, rfl, rfl, hrt, ?_, hm⟩
          intro k hk
          rcases k with _ | _ | _ | _ | _ | _ | _ | _ | _ | _ | k
          · exact key 3 _ (by omega) g0
          · exact key 4 _ (by omega) g1
          · exact key 5 _ (by omega) g2
          · exact key 6 _ (by omega) g3
          · exact key 7 _ (by omega) g4
          · exact key 8 _ (by omega) g5
          · exact key 9 _ (by omega) g6
          · exact key 10 _ (by omega) g7
          · exact key 11 _ (by omega) g8
          · exact key 12 _ (by omega) g9
          · omega
      · cases h
    · cases ht
end Go.Proofs.YtciagecaegoppaaDoor
end
