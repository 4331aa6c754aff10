/- Bytes that don't begin with MSH have no answer: the walk, and the plain law. -/
import Derived.Test.YtciagecaegoppaaDoorMF
import Derived.Test.YtciagecaegoppaaDoorMS
namespace Go.Proofs.YtciagecaegoppaaDoor
set_option linter.unusedVariables false
set_option linter.unusedSimpArgs false
set_option maxRecDepth 100000
open Go.RowKit Go.Proofs.YtciagecaegoppaaDoorW.PrintWords Go.Proofs.YtciagecaegoppaaDoorW.PrintLast Go.Proofs.YtciagecaegoppaaDoorW.PrintMore

theorem msh_text (l : List Int) : ((strOfNums (l.take 3)).toList == ([77, 83, 72] : List UInt8)) = Lib.hasPrefix (Lib.bytesOf l) (Lib.bytesOf [77, 83, 72]) := by
  rw [Lib.strOfNums_toList, Lib.bytesOf_take]
  generalize Lib.bytesOf l = s
  have e : Lib.bytesOf [77, 83, 72] = ([77, 83, 72] : List UInt8) := rfl
  rw [e]
  rcases s with _ | ⟨a, _ | ⟨b, _ | ⟨c, s⟩⟩⟩
  · rfl
  · simp [Lib.hasPrefix, List.isPrefixOf]
  · simp [Lib.hasPrefix, List.isPrefixOf]
  · rw [Bool.eq_iff_iff]
    simp [Lib.hasPrefix, List.isPrefixOf]
    constructor <;> rintro ⟨h1, h2, h3⟩ <;> exact ⟨h1.symm, h2.symm, h3.symm⟩

/-- What has no head has no verdict, no answer, and is not stored. -/
structure Dropped (x : List Int) (kept : Bool) (e : Int) : Prop where
  verdict : accept_Verdict.f x = some (verdictZ e)
  reply : QReply.accept_Reply.f 20 x kept = some ([], false)
  stored : QStored.accept_Stored.f x = some false
theorem dropped (x : List Int) (kept : Bool) (hb : Bytes x) (hl : x.length < 4294967281) (h : x.length < 9 ∨ Lib.hasPrefix (Lib.bytesOf x) (Lib.bytesOf [77, 83, 72]) = false) : ∃ e, (e = 7 ∨ e = 11) ∧ Dropped x kept e := by
  have hr : ∃ e, (e = 7 ∨ e = 11) ∧ delim_Read.f x = some (0, 0, 0, 0, 0, e) := by
    unfold delim_Read.f
    by_cases h9 : x.length < 9
    · rw [if_pos h9]
      exact ⟨7, .inl rfl, rfl⟩
    · rw [if_neg h9]
      have hp : Lib.hasPrefix (Lib.bytesOf (x.take 9)) (Lib.bytesOf [77, 83, 72]) = false := by
        have h2 := h.resolve_left h9
        rw [← msh_text] at h2 ⊢
        rw [List.take_take]
        exact h2
      rw [if_pos hp]
      exact ⟨11, .inr rfl, rfl⟩
  obtain ⟨e, he, hd⟩ := hr
  have hm : msh_Read.f x = some (headZ e) := by
    unfold msh_Read.f
    rw [hd]
    simp only [Option.bind_some]
    rw [if_pos (by rcases he with rfl | rfl <;> decide)]
  have hv : accept_Verdict.f x = some (verdictZ e) := by
    unfold accept_Verdict.f
    rw [if_pos ⟨hb, hl⟩, hm]
    simp only [Option.bind_some]
    rw [if_pos (by rcases he with rfl | rfl <;> decide)]
    rfl
  refine ⟨e, he, hv, ?_, ?_⟩
  · unfold QReply.accept_Reply.f
    rw [hv]
    simp only [Option.bind_some, verdictZ]
    rw [if_pos (by rw [Lib.toList_data]), QReply.accept_Reply.j0, if_pos rfl]
  · unfold QStored.accept_Stored.f
    rw [hv]
    simp [verdictZ, Lib.toList_data]

set_option maxHeartbeats 2000000 in
theorem drops_long (A0 : Option Addr) (c0 : Nat) (l0 : List Int) (a1 : Bool) (w : World) (hG : GlobA w) (hl : l0.length > 2000) :
    Calls Tryd.prog 5 #[.slice A0 l0.length c0, .bool a1] w fun e w' => e = .returned (.bool true) ∧ Below w.heap.size w w' := by
  have HG := Aside0.mk hG
  have h1 : decide ((l0.length : Int) > 2000) = true := decide_eq_true (by omega)
  have h1' : decide (2000 < l0.length) = true := decide_eq_true hl
  have h1'' : decide (2000 < (l0.length : Int)) = true := decide_eq_true (by omega)
  clear hG hl
  go_enter Tryd.func5, Tryd.ntmps5
  go_wp2_with (go_at_call 9; refine (law_alive.calls true _ HG.out rfl).mono ?_; rintro e w9 ⟨rfl, hb9⟩; have HB9 := Aside0.mk hb9; clear hb9)
  go_ret
  exact ⟨rfl, HB9.out⟩

theorem verdict_drop (A : Option Addr) (c : Nat) (x : List Int) (a1 : Bool) (e0 : Int) (W : World) (hD : Dropped x a1 e0) (hG : GlobA W) (hX : Kd.C (Kd.int .u8) W A x.length x) (hc : x.length ≤ c) : Calls Tryd.prog 10 #[.slice A x.length c] W fun e w' => e = .returned (.tuple #[.agg #[.int .u8 0, .int .u8 0, .int .u8 0, .int .u8 0, .int .u8 0, .string ⟨#[]⟩, .string ⟨#[]⟩, .string ⟨#[]⟩, .string ⟨#[]⟩, .string ⟨#[]⟩, .string ⟨#[]⟩, .string ⟨#[]⟩, .string ⟨#[]⟩, .string ⟨#[]⟩, .string ⟨#[]⟩], .string ⟨#[]⟩, .int .i64 e0]) ∧ Below W.heap.size W w' :=
  accept_Verdict.calls A c x 0 0 0 0 0 ⟨#[]⟩ ⟨#[]⟩ ⟨#[]⟩ ⟨#[]⟩ ⟨#[]⟩ ⟨#[]⟩ ⟨#[]⟩ ⟨#[]⟩ ⟨#[]⟩ ⟨#[]⟩ ⟨#[]⟩ e0 W hG hX hc hD.verdict
theorem reply_drop (A : Option Addr) (c : Nat) (x : List Int) (a1 : Bool) (e0 : Int) (W : World) (hD : Dropped x a1 e0) (hG : GlobA W) (hX : Kd.C (Kd.int .u8) W A x.length x) (hc : x.length ≤ c) : Calls Tryd.prog 12 #[.slice A x.length c, .bool a1] W fun e w' => ∃ v0 : Value, e = .returned (.tuple #[v0, .bool false]) ∧ Kd.R (Kd.int .u8) 5 w' W.heap.size (fun _ => True) v0 ([] : List Int) ∧ Below W.heap.size W w' :=
  QReply.accept_Reply.calls 20 A c x a1 [] false W hG hX hc hD.reply
theorem stored_drop (A : Option Addr) (c : Nat) (x : List Int) (a1 : Bool) (e0 : Int) (W : World) (hD : Dropped x a1 e0) (hG : GlobA W) (hX : Kd.C (Kd.int .u8) W A x.length x) (hc : x.length ≤ c) : Calls Tryd.prog 13 #[.slice A x.length c] W fun e w' => e = .returned (.bool false) ∧ Below W.heap.size W w' :=
  QStored.accept_Stored.calls A c x false W hG hX hc hD.stored

set_option maxHeartbeats 4000000 in
theorem drops_short (A0 : Option Addr) (c0 : Nat) (l0 : List Int) (a1 : Bool) (w : World) (hG : GlobA w) (hr0 : Kd.C (Kd.int .u8) w A0 l0.length l0) (hc0 : l0.length ≤ c0) (hl : ¬ l0.length > 2000) (h9 : l0.length < 9) (e0 : Int) (he : e0 = 7 ∨ e0 = 11) (hD : Dropped l0 a1 e0) :
    Calls Tryd.prog 5 #[.slice A0 l0.length c0, .bool a1] w fun e w' => e = .returned (.bool true) ∧ Below w.heap.size w w' := by
  have HG := Aside0.mk hG; have HX0 := Aside0.mk hr0; have HC0 := Aside0.mk hc0
  have h1 : decide ((l0.length : Int) > 2000) = false := decide_eq_false (by omega)
  have h1' : decide (2000 < l0.length) = false := decide_eq_false (by omega)
  have h1'' : decide (2000 < (l0.length : Int)) = false := decide_eq_false (by omega)
  have heq : ∀ W : World, (Op.equalIn 10000 25 (.agg #[.int .u8 0, .int .u8 0, .int .u8 0, .int .u8 0, .int .u8 0, .string ⟨#[]⟩, .string ⟨#[]⟩, .string ⟨#[]⟩, .string ⟨#[]⟩, .string ⟨#[]⟩, .string ⟨#[]⟩, .string ⟨#[]⟩, .string ⟨#[]⟩, .string ⟨#[]⟩, .string ⟨#[]⟩]) (.agg #[.int .u8 0, .int .u8 0, .int .u8 0, .int .u8 0, .int .u8 0, .string ⟨#[]⟩, .string ⟨#[]⟩, .string ⟨#[]⟩, .string ⟨#[]⟩, .string ⟨#[]⟩, .string ⟨#[]⟩, .string ⟨#[]⟩, .string ⟨#[]⟩, .string ⟨#[]⟩, .string ⟨#[]⟩])).run Tryd.prog W = .ok true W := fun _ => by kernel_rfl
  have g9 : decide ((l0.length : Int) ≥ 9) = false := decide_eq_false (by omega)
  have g9' : decide (9 ≤ (l0.length : Int)) = false := decide_eq_false (by omega)
  have g9'' : decide (9 ≤ l0.length) = false := decide_eq_false (by omega)
  have HD := Aside0.mk hD; have HX := Aside0.mk hr0; have HCX := Aside0.mk hc0
  clear hG hr0 hc0 hl h9 hD
  rcases he with rfl | rfl
  all_goals
    go_enter Tryd.func5, Tryd.ntmps5
    go_wp2_with (first
    | (go_at_call 10; refine (verdict_drop A0 c0 l0 a1 _ _ HD.out HG.out HX.out HCX.out).mono ?_; rintro e w2 ⟨rfl, hb2⟩; have HB2 := Aside0.mk hb2; have HX2 := Aside0.mk (Kd.C_below HX.out hb2); clear hb2)
    | (go_at_call 12; refine (reply_drop A0 c0 l0 a1 _ _ HD.out (HG.out.below (below_alloc HB2.out _)) (Kd.C_below HX2.out (below_alloc (Below.refl _ _) _)) HCX.out).mono ?_; rintro e w4 ⟨v0, rfl, hR, hb4⟩; have HB4 := Aside0.mk (below_step (below_alloc HB2.out _) hb4); have hz4 := blk_below (blk_new w2 (.cells #[.int .u8 0, .int .u8 0, .int .u8 0, .int .u8 0, .int .u8 0, .string ⟨#[]⟩, .string ⟨#[]⟩, .string ⟨#[]⟩, .string ⟨#[]⟩, .string ⟨#[]⟩, .string ⟨#[]⟩, .string ⟨#[]⟩, .string ⟨#[]⟩, .string ⟨#[]⟩, .string ⟨#[]⟩] 25)) hb4; have HZ4 := Aside0.mk hz4; have HX4 := Aside0.mk (Kd.C_below (Kd.C_below HX2.out (below_alloc (Below.refl _ _) _)) hb4); obtain ⟨A4, c4, e4⟩ := Kd.R_slice hR; subst e4; clear hb4 hz4 hR)
    | (go_at_call 9; refine (law_alive.calls true _ (HG.out.below HB4.out) rfl).mono ?_; rintro e w5 ⟨rfl, hb5⟩; have HB5 := Aside0.mk (below_step HB4.out hb5); have hz5 := blk_below HZ4.out hb5; have HX5 := Aside0.mk (Kd.C_below HX4.out hb5); have p0 : w5.cell? ⟨w2.heap.size, 0, none⟩ = some (.int .u8 0) := blk_cell hz5 0; have p1 : w5.cell? ⟨w2.heap.size, 1, none⟩ = some (.int .u8 0) := blk_cell hz5 1; have p2 : w5.cell? ⟨w2.heap.size, 2, none⟩ = some (.int .u8 0) := blk_cell hz5 2; have p3 : w5.cell? ⟨w2.heap.size, 3, none⟩ = some (.int .u8 0) := blk_cell hz5 3; have p4 : w5.cell? ⟨w2.heap.size, 4, none⟩ = some (.int .u8 0) := blk_cell hz5 4; have p5 : w5.cell? ⟨w2.heap.size, 5, none⟩ = some (.string ⟨#[]⟩) := blk_cell hz5 5; have p6 : w5.cell? ⟨w2.heap.size, 6, none⟩ = some (.string ⟨#[]⟩) := blk_cell hz5 6; have p7 : w5.cell? ⟨w2.heap.size, 7, none⟩ = some (.string ⟨#[]⟩) := blk_cell hz5 7; have p8 : w5.cell? ⟨w2.heap.size, 8, none⟩ = some (.string ⟨#[]⟩) := blk_cell hz5 8; have p9 : w5.cell? ⟨w2.heap.size, 9, none⟩ = some (.string ⟨#[]⟩) := blk_cell hz5 9; have p10 : w5.cell? ⟨w2.heap.size, 10, none⟩ = some (.string ⟨#[]⟩) := blk_cell hz5 10; have p11 : w5.cell? ⟨w2.heap.size, 11, none⟩ = some (.string ⟨#[]⟩) := blk_cell hz5 11; have p12 : w5.cell? ⟨w2.heap.size, 12, none⟩ = some (.string ⟨#[]⟩) := blk_cell hz5 12; have p13 : w5.cell? ⟨w2.heap.size, 13, none⟩ = some (.string ⟨#[]⟩) := blk_cell hz5 13; have p14 : w5.cell? ⟨w2.heap.size, 14, none⟩ = some (.string ⟨#[]⟩) := blk_cell hz5 14; clear hb5 hz5)
    | (go_at_call 13; refine (stored_drop A0 c0 l0 a1 _ _ HD.out (HG.out.below HB5.out) HX5.out HCX.out).mono ?_; rintro e w6 ⟨rfl, hb6⟩; have HB6 := Aside0.mk (below_step HB5.out hb6); clear hb6))
    go_ret
    exact ⟨rfl, HB6.out⟩

set_option maxHeartbeats 4000000 in
theorem drops_other (A0 : Option Addr) (c0 : Nat) (l0 : List Int) (a1 : Bool) (w : World) (hG : GlobA w) (hr0 : Kd.C (Kd.int .u8) w A0 l0.length l0) (hc0 : l0.length ≤ c0) (hl : ¬ l0.length > 2000) (h9 : 9 ≤ l0.length) (hms : ((strOfNums (l0.take 3)).toList == ([77, 83, 72] : List UInt8)) = false) (e0 : Int) (he : e0 = 7 ∨ e0 = 11) (hD : Dropped l0 a1 e0) :
    Calls Tryd.prog 5 #[.slice A0 l0.length c0, .bool a1] w fun e w' => e = .returned (.bool true) ∧ Below w.heap.size w w' := by
  have HG := Aside0.mk hG; have HX0 := Aside0.mk hr0; have HC0 := Aside0.mk hc0
  have h1 : decide ((l0.length : Int) > 2000) = false := decide_eq_false (by omega)
  have h1' : decide (2000 < l0.length) = false := decide_eq_false (by omega)
  have h1'' : decide (2000 < (l0.length : Int)) = false := decide_eq_false (by omega)
  have heq : ∀ W : World, (Op.equalIn 10000 25 (.agg #[.int .u8 0, .int .u8 0, .int .u8 0, .int .u8 0, .int .u8 0, .string ⟨#[]⟩, .string ⟨#[]⟩, .string ⟨#[]⟩, .string ⟨#[]⟩, .string ⟨#[]⟩, .string ⟨#[]⟩, .string ⟨#[]⟩, .string ⟨#[]⟩, .string ⟨#[]⟩, .string ⟨#[]⟩]) (.agg #[.int .u8 0, .int .u8 0, .int .u8 0, .int .u8 0, .int .u8 0, .string ⟨#[]⟩, .string ⟨#[]⟩, .string ⟨#[]⟩, .string ⟨#[]⟩, .string ⟨#[]⟩, .string ⟨#[]⟩, .string ⟨#[]⟩, .string ⟨#[]⟩, .string ⟨#[]⟩, .string ⟨#[]⟩])).run Tryd.prog W = .ok true W := fun _ => by kernel_rfl
  have g9 : decide ((l0.length : Int) ≥ 9) = true := decide_eq_true (by omega)
  have g9' : decide (9 ≤ (l0.length : Int)) = true := decide_eq_true (by omega)
  have g9'' : decide (9 ≤ l0.length) = true := decide_eq_true (by omega)
  obtain ⟨i0, hi0, _, hsz0, _⟩ := info_parts info5
  have hcut3 : ∀ W : World, (Instr.slice 26 (.slice A0 l0.length c0) none (some (.int .i64 3)) none).run Tryd.prog W = .ok (.slice A0 3 c0) W := cut_to (P := Tryd.prog) 26 5 .i64 Tryd.underlying26 hi0 A0 l0.length c0 3 (by omega) (by omega) hc0
  have hcv3 : (convert 26 9 (.slice A0 3 c0)).run Tryd.prog w = .ok (.string (strOfNums (l0.take 3))) w := by
    have h := Kd.C_string (c := c0) Tryd.underlying26 Tryd.underlying5 Tryd.underlying9 (Kd.C_take hr0 (m := 3) (by omega))
    rw [show (l0.take 3).length = 3 by rw [List.length_take]; omega] at h
    exact h
  have HD := Aside0.mk hD; have HX := Aside0.mk hr0; have HCX := Aside0.mk hc0
  clear hG hr0 hc0 hl h9 hD hi0 hsz0
  rcases he with rfl | rfl
  all_goals
    go_enter Tryd.func5, Tryd.ntmps5
    go_wp2_with (first
    | (go_at_call 10; refine (verdict_drop A0 c0 l0 a1 _ _ HD.out HG.out HX.out HCX.out).mono ?_; rintro e w2 ⟨rfl, hb2⟩; have HB2 := Aside0.mk hb2; have HX2 := Aside0.mk (Kd.C_below HX.out hb2); clear hb2)
    | (go_at_call 12; refine (reply_drop A0 c0 l0 a1 _ _ HD.out (HG.out.below (below_alloc HB2.out _)) (Kd.C_below HX2.out (below_alloc (Below.refl _ _) _)) HCX.out).mono ?_; rintro e w4 ⟨v0, rfl, hR, hb4⟩; have HB4 := Aside0.mk (below_step (below_alloc HB2.out _) hb4); have hz4 := blk_below (blk_new w2 (.cells #[.int .u8 0, .int .u8 0, .int .u8 0, .int .u8 0, .int .u8 0, .string ⟨#[]⟩, .string ⟨#[]⟩, .string ⟨#[]⟩, .string ⟨#[]⟩, .string ⟨#[]⟩, .string ⟨#[]⟩, .string ⟨#[]⟩, .string ⟨#[]⟩, .string ⟨#[]⟩, .string ⟨#[]⟩] 25)) hb4; have HZ4 := Aside0.mk hz4; have HX4 := Aside0.mk (Kd.C_below (Kd.C_below HX2.out (below_alloc (Below.refl _ _) _)) hb4); obtain ⟨A4, c4, e4⟩ := Kd.R_slice hR; subst e4; clear hb4 hz4 hR)
    | (go_at_call 9; refine (law_alive.calls true _ (HG.out.below HB4.out) rfl).mono ?_; rintro e w5 ⟨rfl, hb5⟩; have HB5 := Aside0.mk (below_step HB4.out hb5); have hz5 := blk_below HZ4.out hb5; have HX5 := Aside0.mk (Kd.C_below HX4.out hb5); have p0 : w5.cell? ⟨w2.heap.size, 0, none⟩ = some (.int .u8 0) := blk_cell hz5 0; have p1 : w5.cell? ⟨w2.heap.size, 1, none⟩ = some (.int .u8 0) := blk_cell hz5 1; have p2 : w5.cell? ⟨w2.heap.size, 2, none⟩ = some (.int .u8 0) := blk_cell hz5 2; have p3 : w5.cell? ⟨w2.heap.size, 3, none⟩ = some (.int .u8 0) := blk_cell hz5 3; have p4 : w5.cell? ⟨w2.heap.size, 4, none⟩ = some (.int .u8 0) := blk_cell hz5 4; have p5 : w5.cell? ⟨w2.heap.size, 5, none⟩ = some (.string ⟨#[]⟩) := blk_cell hz5 5; have p6 : w5.cell? ⟨w2.heap.size, 6, none⟩ = some (.string ⟨#[]⟩) := blk_cell hz5 6; have p7 : w5.cell? ⟨w2.heap.size, 7, none⟩ = some (.string ⟨#[]⟩) := blk_cell hz5 7; have p8 : w5.cell? ⟨w2.heap.size, 8, none⟩ = some (.string ⟨#[]⟩) := blk_cell hz5 8; have p9 : w5.cell? ⟨w2.heap.size, 9, none⟩ = some (.string ⟨#[]⟩) := blk_cell hz5 9; have p10 : w5.cell? ⟨w2.heap.size, 10, none⟩ = some (.string ⟨#[]⟩) := blk_cell hz5 10; have p11 : w5.cell? ⟨w2.heap.size, 11, none⟩ = some (.string ⟨#[]⟩) := blk_cell hz5 11; have p12 : w5.cell? ⟨w2.heap.size, 12, none⟩ = some (.string ⟨#[]⟩) := blk_cell hz5 12; have p13 : w5.cell? ⟨w2.heap.size, 13, none⟩ = some (.string ⟨#[]⟩) := blk_cell hz5 13; have p14 : w5.cell? ⟨w2.heap.size, 14, none⟩ = some (.string ⟨#[]⟩) := blk_cell hz5 14; clear hb5 hz5)
    | (go_at_call 13; refine (stored_drop A0 c0 l0 a1 _ _ HD.out (HG.out.below HB5.out) HX5.out HCX.out).mono ?_; rintro e w6 ⟨rfl, hb6⟩; have HB6 := Aside0.mk (below_step HB5.out hb6); clear hb6))
    go_ret
    exact ⟨rfl, HB6.out⟩

set_option maxHeartbeats 4000000 in
theorem drops_cut (A0 : Option Addr) (c0 : Nat) (l0 : List Int) (a1 : Bool) (w : World) (hG : GlobA w) (hr0 : Kd.C (Kd.int .u8) w A0 l0.length l0) (hc0 : l0.length ≤ c0) (hl : ¬ l0.length > 2000) (h9 : 9 ≤ l0.length) (hms : ((strOfNums (l0.take 3)).toList == ([77, 83, 72] : List UInt8)) = true) (hm2 : ((strOfNums ((l0.drop 1).take 3)).toList == ([77, 83, 72] : List UInt8)) = false) (e0 : Int) (he : e0 = 7 ∨ e0 = 11) (hD : Dropped (l0.drop 1) a1 e0) :
    Calls Tryd.prog 5 #[.slice A0 l0.length c0, .bool a1] w fun e w' => e = .returned (.bool true) ∧ Below w.heap.size w w' := by
  have HG := Aside0.mk hG; have HX0 := Aside0.mk hr0; have HC0 := Aside0.mk hc0
  have h1 : decide ((l0.length : Int) > 2000) = false := decide_eq_false (by omega)
  have h1' : decide (2000 < l0.length) = false := decide_eq_false (by omega)
  have h1'' : decide (2000 < (l0.length : Int)) = false := decide_eq_false (by omega)
  have heq : ∀ W : World, (Op.equalIn 10000 25 (.agg #[.int .u8 0, .int .u8 0, .int .u8 0, .int .u8 0, .int .u8 0, .string ⟨#[]⟩, .string ⟨#[]⟩, .string ⟨#[]⟩, .string ⟨#[]⟩, .string ⟨#[]⟩, .string ⟨#[]⟩, .string ⟨#[]⟩, .string ⟨#[]⟩, .string ⟨#[]⟩, .string ⟨#[]⟩]) (.agg #[.int .u8 0, .int .u8 0, .int .u8 0, .int .u8 0, .int .u8 0, .string ⟨#[]⟩, .string ⟨#[]⟩, .string ⟨#[]⟩, .string ⟨#[]⟩, .string ⟨#[]⟩, .string ⟨#[]⟩, .string ⟨#[]⟩, .string ⟨#[]⟩, .string ⟨#[]⟩, .string ⟨#[]⟩])).run Tryd.prog W = .ok true W := fun _ => by kernel_rfl
  have g9 : decide ((l0.length : Int) ≥ 9) = true := decide_eq_true (by omega)
  have g9' : decide (9 ≤ (l0.length : Int)) = true := decide_eq_true (by omega)
  have g9'' : decide (9 ≤ l0.length) = true := decide_eq_true (by omega)
  obtain ⟨i0, hi0, _, hsz0, _⟩ := info_parts info5
  have hcut3 : ∀ W : World, (Instr.slice 26 (.slice A0 l0.length c0) none (some (.int .i64 3)) none).run Tryd.prog W = .ok (.slice A0 3 c0) W := cut_to (P := Tryd.prog) 26 5 .i64 Tryd.underlying26 hi0 A0 l0.length c0 3 (by omega) (by omega) hc0
  have hcv3 : (convert 26 9 (.slice A0 3 c0)).run Tryd.prog w = .ok (.string (strOfNums (l0.take 3))) w := by
    have h := Kd.C_string (c := c0) Tryd.underlying26 Tryd.underlying5 Tryd.underlying9 (Kd.C_take hr0 (m := 3) (by omega))
    rw [show (l0.take 3).length = 3 by rw [List.length_take]; omega] at h
    exact h
  obtain ⟨x, hx⟩ : ∃ x, x = l0.drop 1 := ⟨_, rfl⟩
  obtain ⟨A, hcut1, hrd, hcx⟩ := print_drop_of (P := Tryd.prog) (Value.int .u8) (0 : Int) 26 5 .i64 Tryd.underlying26 hi0 hsz0 A0 c0 l0 1 (by omega) (by omega) hc0
  rw [show l0.drop (1 : Int).toNat = x from hx.symm] at hcut1 hrd hcx
  rw [show (1 : Int).toNat = 1 from rfl] at hcut1 hcx
  have hlx : x.length = l0.length - 1 := by rw [hx, List.length_drop]
  have hX : Kd.C (Kd.int .u8) w A x.length x := Kd.C_of_reads (d := (0 : Int)) (enc := Value.int .u8) (h1 := fun _ => rfl) (hrd w (Kd.reads_of_C (d := (0 : Int)) hr0))
  have g3 : decide ((x.length : Int) ≥ 3) = true := decide_eq_true (by omega)
  have g3' : decide (3 ≤ (x.length : Int)) = true := decide_eq_true (by omega)
  have g3'' : decide (3 ≤ x.length) = true := decide_eq_true (by omega)
  generalize hc1 : c0 - 1 = c1 at hcut1 hcx
  have hcutx : ∀ W : World, (Instr.slice 26 (.slice A x.length c1) none (some (.int .i64 3)) none).run Tryd.prog W = .ok (.slice A 3 c1) W := cut_to (P := Tryd.prog) 26 5 .i64 Tryd.underlying26 hi0 A x.length c1 3 (by omega) (by omega) hcx
  have hcvx : (convert 26 9 (.slice A 3 c1)).run Tryd.prog w = .ok (.string (strOfNums (x.take 3))) w := by
    have h := Kd.C_string (c := c1) Tryd.underlying26 Tryd.underlying5 Tryd.underlying9 (Kd.C_take hX (m := 3) (by omega))
    rw [show (x.take 3).length = 3 by rw [List.length_take]; omega] at h
    exact h
  rw [← hx] at hm2
  (try rw [← hx] at hD)
  have HD := Aside0.mk hD; have HX := Aside0.mk hX; have HCX := Aside0.mk hcx
  clear hG hr0 hc0 hl h9 hD hi0 hsz0 hX hcx hx hrd hlx hc1
  rcases he with rfl | rfl
  all_goals
    go_enter Tryd.func5, Tryd.ntmps5
    go_wp2_with (first
    | (go_at_call 10; refine (verdict_drop A c1 x a1 _ _ HD.out HG.out HX.out HCX.out).mono ?_; rintro e w2 ⟨rfl, hb2⟩; have HB2 := Aside0.mk hb2; have HX2 := Aside0.mk (Kd.C_below HX.out hb2); clear hb2)
    | (go_at_call 12; refine (reply_drop A c1 x a1 _ _ HD.out (HG.out.below (below_alloc HB2.out _)) (Kd.C_below HX2.out (below_alloc (Below.refl _ _) _)) HCX.out).mono ?_; rintro e w4 ⟨v0, rfl, hR, hb4⟩; have HB4 := Aside0.mk (below_step (below_alloc HB2.out _) hb4); have hz4 := blk_below (blk_new w2 (.cells #[.int .u8 0, .int .u8 0, .int .u8 0, .int .u8 0, .int .u8 0, .string ⟨#[]⟩, .string ⟨#[]⟩, .string ⟨#[]⟩, .string ⟨#[]⟩, .string ⟨#[]⟩, .string ⟨#[]⟩, .string ⟨#[]⟩, .string ⟨#[]⟩, .string ⟨#[]⟩, .string ⟨#[]⟩] 25)) hb4; have HZ4 := Aside0.mk hz4; have HX4 := Aside0.mk (Kd.C_below (Kd.C_below HX2.out (below_alloc (Below.refl _ _) _)) hb4); obtain ⟨A4, c4, e4⟩ := Kd.R_slice hR; subst e4; clear hb4 hz4 hR)
    | (go_at_call 9; refine (law_alive.calls true _ (HG.out.below HB4.out) rfl).mono ?_; rintro e w5 ⟨rfl, hb5⟩; have HB5 := Aside0.mk (below_step HB4.out hb5); have hz5 := blk_below HZ4.out hb5; have HX5 := Aside0.mk (Kd.C_below HX4.out hb5); have p0 : w5.cell? ⟨w2.heap.size, 0, none⟩ = some (.int .u8 0) := blk_cell hz5 0; have p1 : w5.cell? ⟨w2.heap.size, 1, none⟩ = some (.int .u8 0) := blk_cell hz5 1; have p2 : w5.cell? ⟨w2.heap.size, 2, none⟩ = some (.int .u8 0) := blk_cell hz5 2; have p3 : w5.cell? ⟨w2.heap.size, 3, none⟩ = some (.int .u8 0) := blk_cell hz5 3; have p4 : w5.cell? ⟨w2.heap.size, 4, none⟩ = some (.int .u8 0) := blk_cell hz5 4; have p5 : w5.cell? ⟨w2.heap.size, 5, none⟩ = some (.string ⟨#[]⟩) := blk_cell hz5 5; have p6 : w5.cell? ⟨w2.heap.size, 6, none⟩ = some (.string ⟨#[]⟩) := blk_cell hz5 6; have p7 : w5.cell? ⟨w2.heap.size, 7, none⟩ = some (.string ⟨#[]⟩) := blk_cell hz5 7; have p8 : w5.cell? ⟨w2.heap.size, 8, none⟩ = some (.string ⟨#[]⟩) := blk_cell hz5 8; have p9 : w5.cell? ⟨w2.heap.size, 9, none⟩ = some (.string ⟨#[]⟩) := blk_cell hz5 9; have p10 : w5.cell? ⟨w2.heap.size, 10, none⟩ = some (.string ⟨#[]⟩) := blk_cell hz5 10; have p11 : w5.cell? ⟨w2.heap.size, 11, none⟩ = some (.string ⟨#[]⟩) := blk_cell hz5 11; have p12 : w5.cell? ⟨w2.heap.size, 12, none⟩ = some (.string ⟨#[]⟩) := blk_cell hz5 12; have p13 : w5.cell? ⟨w2.heap.size, 13, none⟩ = some (.string ⟨#[]⟩) := blk_cell hz5 13; have p14 : w5.cell? ⟨w2.heap.size, 14, none⟩ = some (.string ⟨#[]⟩) := blk_cell hz5 14; clear hb5 hz5)
    | (go_at_call 13; refine (stored_drop A c1 x a1 _ _ HD.out (HG.out.below HB5.out) HX5.out HCX.out).mono ?_; rintro e w6 ⟨rfl, hb6⟩; have HB6 := Aside0.mk (below_step HB5.out hb6); clear hb6))
    go_ret
    exact ⟨rfl, HB6.out⟩
set_option maxHeartbeats 4000000 in
theorem drops_twice (A0 : Option Addr) (c0 : Nat) (l0 : List Int) (a1 : Bool) (w : World) (hG : GlobA w) (hr0 : Kd.C (Kd.int .u8) w A0 l0.length l0) (hc0 : l0.length ≤ c0) (hl : ¬ l0.length > 2000) (h9 : 9 ≤ l0.length) (hms : ((strOfNums (l0.take 3)).toList == ([77, 83, 72] : List UInt8)) = true) (hm2 : ((strOfNums ((l0.drop 1).take 3)).toList == ([77, 83, 72] : List UInt8)) = true) :
    Calls Tryd.prog 5 #[.slice A0 l0.length c0, .bool a1] w fun e w' => e = .returned (.bool true) ∧ Below w.heap.size w w' := by
  have hD : True := trivial
  have HG := Aside0.mk hG; have HX0 := Aside0.mk hr0; have HC0 := Aside0.mk hc0
  have h1 : decide ((l0.length : Int) > 2000) = false := decide_eq_false (by omega)
  have h1' : decide (2000 < l0.length) = false := decide_eq_false (by omega)
  have h1'' : decide (2000 < (l0.length : Int)) = false := decide_eq_false (by omega)
  have heq : ∀ W : World, (Op.equalIn 10000 25 (.agg #[.int .u8 0, .int .u8 0, .int .u8 0, .int .u8 0, .int .u8 0, .string ⟨#[]⟩, .string ⟨#[]⟩, .string ⟨#[]⟩, .string ⟨#[]⟩, .string ⟨#[]⟩, .string ⟨#[]⟩, .string ⟨#[]⟩, .string ⟨#[]⟩, .string ⟨#[]⟩, .string ⟨#[]⟩]) (.agg #[.int .u8 0, .int .u8 0, .int .u8 0, .int .u8 0, .int .u8 0, .string ⟨#[]⟩, .string ⟨#[]⟩, .string ⟨#[]⟩, .string ⟨#[]⟩, .string ⟨#[]⟩, .string ⟨#[]⟩, .string ⟨#[]⟩, .string ⟨#[]⟩, .string ⟨#[]⟩, .string ⟨#[]⟩])).run Tryd.prog W = .ok true W := fun _ => by kernel_rfl
  have g9 : decide ((l0.length : Int) ≥ 9) = true := decide_eq_true (by omega)
  have g9' : decide (9 ≤ (l0.length : Int)) = true := decide_eq_true (by omega)
  have g9'' : decide (9 ≤ l0.length) = true := decide_eq_true (by omega)
  obtain ⟨i0, hi0, _, hsz0, _⟩ := info_parts info5
  have hcut3 : ∀ W : World, (Instr.slice 26 (.slice A0 l0.length c0) none (some (.int .i64 3)) none).run Tryd.prog W = .ok (.slice A0 3 c0) W := cut_to (P := Tryd.prog) 26 5 .i64 Tryd.underlying26 hi0 A0 l0.length c0 3 (by omega) (by omega) hc0
  have hcv3 : (convert 26 9 (.slice A0 3 c0)).run Tryd.prog w = .ok (.string (strOfNums (l0.take 3))) w := by
    have h := Kd.C_string (c := c0) Tryd.underlying26 Tryd.underlying5 Tryd.underlying9 (Kd.C_take hr0 (m := 3) (by omega))
    rw [show (l0.take 3).length = 3 by rw [List.length_take]; omega] at h
    exact h
  obtain ⟨x, hx⟩ : ∃ x, x = l0.drop 1 := ⟨_, rfl⟩
  obtain ⟨A, hcut1, hrd, hcx⟩ := print_drop_of (P := Tryd.prog) (Value.int .u8) (0 : Int) 26 5 .i64 Tryd.underlying26 hi0 hsz0 A0 c0 l0 1 (by omega) (by omega) hc0
  rw [show l0.drop (1 : Int).toNat = x from hx.symm] at hcut1 hrd hcx
  rw [show (1 : Int).toNat = 1 from rfl] at hcut1 hcx
  have hlx : x.length = l0.length - 1 := by rw [hx, List.length_drop]
  have hX : Kd.C (Kd.int .u8) w A x.length x := Kd.C_of_reads (d := (0 : Int)) (enc := Value.int .u8) (h1 := fun _ => rfl) (hrd w (Kd.reads_of_C (d := (0 : Int)) hr0))
  have g3 : decide ((x.length : Int) ≥ 3) = true := decide_eq_true (by omega)
  have g3' : decide (3 ≤ (x.length : Int)) = true := decide_eq_true (by omega)
  have g3'' : decide (3 ≤ x.length) = true := decide_eq_true (by omega)
  generalize hc1 : c0 - 1 = c1 at hcut1 hcx
  have hcutx : ∀ W : World, (Instr.slice 26 (.slice A x.length c1) none (some (.int .i64 3)) none).run Tryd.prog W = .ok (.slice A 3 c1) W := cut_to (P := Tryd.prog) 26 5 .i64 Tryd.underlying26 hi0 A x.length c1 3 (by omega) (by omega) hcx
  have hcvx : (convert 26 9 (.slice A 3 c1)).run Tryd.prog w = .ok (.string (strOfNums (x.take 3))) w := by
    have h := Kd.C_string (c := c1) Tryd.underlying26 Tryd.underlying5 Tryd.underlying9 (Kd.C_take hX (m := 3) (by omega))
    rw [show (x.take 3).length = 3 by rw [List.length_take]; omega] at h
    exact h
  rw [← hx] at hm2
  (try rw [← hx] at hD)

  clear hG hr0 hc0 hl h9 hD hi0 hsz0 hX hcx hx hrd hlx hc1
  go_enter Tryd.func5, Tryd.ntmps5
  go_wp2_with (go_at_call 9; refine (law_alive.calls true _ HG.out rfl).mono ?_; rintro e w9 ⟨rfl, hb9⟩; have HB9 := Aside0.mk hb9; clear hb9)
  go_ret
  exact ⟨rfl, HB9.out⟩

theorem acceptDrops_walk (a0 : Option Addr) (len0 cap0 : Nat) (z0 : List Int) (a1 : Bool) (w : World) (hG : GlobA w) (w0 : (a0 = none ∧ len0 = 0 ∧ cap0 = 0 ∧ z0 = []) ∨ ∃ x, a0 = some x ∧ len0 ≤ cap0 ∧ cap0 ≤ maxLen ∧ z0.length = cap0 ∧ (∀ i, i < z0.length → w.cell? (x.add i) = some (.int .u8 (z0.getD i 0))) ∧ ∀ n ∈ z0, (Lit.int .u8 n).wf = true) (y0 : len0 * 1 ≤ 140737488351232) :
    Calls Tryd.prog 5 #[.slice a0 len0 cap0, .bool a1] w fun e w' => e = .returned (.bool true) ∧ Below w.heap.size w w' := by
  obtain ⟨l0, rfl, hr0, hm0, hw0, hc0⟩ := ReadsInt.ofRowC w0
  have hC : Kd.C (Kd.int .u8) w a0 l0.length l0 := Kd.C_of_reads (d := (0 : Int)) (h1 := fun _ => rfl) hr0
  have hb := bytes_of_wf hw0
  by_cases hl : l0.length > 2000
  · exact drops_long a0 cap0 l0 a1 w hG hl
  by_cases h9 : l0.length < 9
  · obtain ⟨e, he, hD⟩ := dropped l0 a1 hb (by omega) (.inl h9)
    exact drops_short a0 cap0 l0 a1 w hG hC hc0 hl h9 e he hD
  cases hms : ((strOfNums (l0.take 3)).toList == ([77, 83, 72] : List UInt8)) with
  | false =>
    obtain ⟨e, he, hD⟩ := dropped l0 a1 hb (by omega) (.inr (by rw [← msh_text]; exact hms))
    exact drops_other a0 cap0 l0 a1 w hG hC hc0 hl (by omega) hms e he hD
  | true =>
    cases hm2 : ((strOfNums ((l0.drop 1).take 3)).toList == ([77, 83, 72] : List UInt8)) with
    | false =>
      obtain ⟨e, he, hD⟩ := dropped (l0.drop 1) a1 (hb.drop 1) (by rw [List.length_drop]; omega) (.inr (by rw [← msh_text]; exact hm2))
      exact drops_cut a0 cap0 l0 a1 w hG hC hc0 hl (by omega) hms hm2 e he hD
    | true => exact drops_twice a0 cap0 l0 a1 w hG hC hc0 hl (by omega) hms hm2

end Go.Proofs.YtciagecaegoppaaDoor
