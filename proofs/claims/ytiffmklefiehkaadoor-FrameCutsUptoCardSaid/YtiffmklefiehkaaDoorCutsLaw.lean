/- A frame without its first or last byte, or with one more at either end, isn't one: the plain law, and the walk of all inputs. -/
import Derived.Test.YtiffmklefiehkaaDoorCuts
namespace Go.Proofs.YtiffmklefiehkaaDoor
set_option linter.unusedVariables false
open Go.RowKit Go.Proofs.YtiffmklefiehkaaDoorW.PrintWords Go.Proofs.YtiffmklefiehkaaDoorW.PrintLast Go.Proofs.YtiffmklefiehkaaDoor.QFrameCuts

set_option maxHeartbeats 1000000 in
set_option maxRecDepth 100000 in
theorem cuts_bad (A : Option Addr) (c0 : Nat) (l0 : List Int) (c : Int) (w : World) (hG : Glob w) (hr0 : Kd.C (Kd.int .u8) w A l0.length l0) (hc0 : l0.length ≤ c0) (hw : frame_Wrap.f l0 = some ([], 10)) :
    Calls Tryd.prog 8 #[.slice A l0.length c0, .int .u8 c] w fun e w' => e = .returned (.bool true) ∧ Below w.heap.size w w' := by
  have HG := Aside0.mk hG; have HR := Aside0.mk hr0; have HC := Aside0.mk hc0; have HW := Aside0.mk hw
  clear hG hr0 hc0 hw
  go_enter Tryd.func8, Tryd.ntmps8
  go_wp2_with (first
    | (go_at_call 12; refine (frame_Wrap.calls _ _ _ _ _ _ HG.out HR.out HC.out HW.out).mono ?_; rintro e w1 ⟨v, rfl, ho, hb⟩; obtain ⟨Av, cv, ev⟩ := Kd.R_slice ho; subst ev; have HB := Aside0.mk hb; clear hb ho)
    | (go_at_call 11; refine (lamplighterlaw04_alive.calls true _ (Glob.below HG.out HB.out) cuts_alive).mono ?_; rintro e w2 ⟨rfl, hb⟩; have HBn := Aside0.mk (HB.out.trans (hb.mono HB.out.size)); clear HB hb; have HB := HBn; clear HBn))
  go_ret
  exact ⟨rfl, HB.out⟩

set_option maxHeartbeats 1000000 in
set_option maxRecDepth 100000 in
theorem cuts_long (A : Option Addr) (c0 : Nat) (l0 : List Int) (c : Int) (w : World) (hG : Glob w) (hr0 : Kd.C (Kd.int .u8) w A l0.length l0) (hc0 : l0.length ≤ c0) (fr : List Int) (hw : frame_Wrap.f l0 = some (fr, 0)) (hl : 1000 < l0.length) :
    Calls Tryd.prog 8 #[.slice A l0.length c0, .int .u8 c] w fun e w' => e = .returned (.bool true) ∧ Below w.heap.size w w' := by
  have HG := Aside0.mk hG; have HR := Aside0.mk hr0; have HC := Aside0.mk hc0; have HW := Aside0.mk hw
  have hlb : decide (1000 < (l0.length : Int)) = true := decide_eq_true (by omega)
  have hlb2 : decide (1000 < l0.length) = true := decide_eq_true hl
  clear hG hr0 hc0 hw
  go_enter Tryd.func8, Tryd.ntmps8
  go_wp2_with (first
    | (go_at_call 12; refine (frame_Wrap.calls _ _ _ _ _ _ HG.out HR.out HC.out HW.out).mono ?_; rintro e w1 ⟨v, rfl, ho, hb⟩; obtain ⟨Av, cv, ev⟩ := Kd.R_slice ho; subst ev; have HB := Aside0.mk hb; clear hb ho)
    | (go_at_call 11; refine (lamplighterlaw04_alive.calls true _ (Glob.below HG.out HB.out) cuts_alive).mono ?_; rintro e w2 ⟨rfl, hb⟩; have HBn := Aside0.mk (HB.out.trans (hb.mono HB.out.size)); clear HB hb; have HB := HBn; clear HBn))
  go_ret
  exact ⟨rfl, HB.out⟩

theorem goodL_mem (l : List Int) (h : (11 : Int) ∈ l) : goodL l = false := by
  induction l with
  | nil => cases h
  | cons x r ih =>
    rcases List.mem_cons.1 h with rfl | h
    · exact goodL_start r
    · rw [goodL, ih h, Bool.and_false]
theorem unframed (x : List Int) (hb : Bytes x) (hl : x.length < 4294967281) (h : ¬ x.length < 3 → (framed x && goodL (mid x)) = false) : ∃ code : Int, code ≠ 0 ∧ frame_Unwrap.f x = some ([], code) := by
  by_cases h3 : x.length < 3
  · exact ⟨7, by decide, by rw [unwrap_f x hb hl, if_pos h3]⟩
  · exact ⟨10, by decide, by rw [unwrap_f x hb hl, if_neg h3, if_neg (by rw [h h3]; decide)]⟩
theorem framed_head {x : List Int} (h : framed x = true) : x.head? = some 11 := by
  unfold framed at h
  rw [Bool.and_eq_true, decide_eq_true_eq] at h
  cases x with
  | nil => have h1 := h.1; simp at h1
  | cons a r => have h1 := h.1; simpa using h1
theorem framed_tail {x : List Int} (h : framed x = true) : ∃ m, x = m ++ [28, 13] := by
  unfold framed at h
  rw [Bool.and_eq_true, List.isSuffixOf_iff_suffix] at h
  obtain ⟨_, m, h⟩ := h
  exact ⟨m, h.symm⟩

theorem cuts_none (l : List Int) (hb : Bytes l) (hg : goodL l = true) (hl : l.length ≤ 1000) (c : Int) (hc : 0 ≤ c ∧ c < 256) (x : List Int)
    (hx : x ∈ [(11 :: l ++ [28, 13]).drop 1, (11 :: l ++ [28, 13]).take ((11 :: l ++ [28, 13]).length - 1), [c] ++ (11 :: l ++ [28, 13]), ([] ++ (11 :: l ++ [28, 13])) ++ [c], ([] ++ (11 :: l ++ [28, 13])) ++ (11 :: l ++ [28, 13])]) :
    ∃ code : Int, code ≠ 0 ∧ frame_Unwrap.f x = some ([], code) := by
  have hw := bytes_wrap hb
  have hcb : Bytes [c] := fun y hy => by rw [List.mem_singleton.1 hy]; exact hc
  simp only [List.mem_cons, List.not_mem_nil, or_false] at hx
  have hlen : (11 :: l ++ [28, 13]).length = l.length + 3 := by simp
  rcases hx with rfl | rfl | rfl | rfl | rfl
  · refine unframed _ (fun y hy => hw y (List.mem_of_mem_drop hy)) (by rw [List.length_drop]; omega) (fun h3 => ?_)
    rw [Bool.and_eq_false_iff]
    left
    cases hf : framed ((11 :: l ++ [28, 13]).drop 1) with
    | false => rfl
    | true =>
      exfalso
      have h1 := framed_head hf
      rw [List.cons_append, List.drop_succ_cons, List.drop_zero] at h1
      cases l with
      | nil => simp at h1
      | cons a r =>
        simp only [List.cons_append, List.head?_cons, Option.some.injEq] at h1
        rw [h1, goodL_start] at hg
        cases hg
  · refine unframed _ (fun y hy => hw y (List.mem_of_mem_take hy)) (by rw [List.length_take]; omega) (fun h3 => ?_)
    rw [Bool.and_eq_false_iff]
    left
    have e : (11 :: l ++ [28, 13]).take ((11 :: l ++ [28, 13]).length - 1) = 11 :: l ++ [28] := by
      rw [show (11 :: l ++ [28, 13] : List Int) = (11 :: l ++ [28]) ++ [13] by simp, List.take_append_of_le_length (by simp), List.take_of_length_le (by simp)]
    rw [e]
    cases hf : framed (11 :: l ++ [28]) with
    | false => rfl
    | true =>
      exfalso
      obtain ⟨m, h1⟩ := framed_tail hf
      have h2 := congrArg List.reverse h1
      simp at h2
  · refine unframed _ (hcb.append hw) (by simp; omega) (fun h3 => ?_)
    rw [Bool.and_eq_false_iff]
    by_cases hc11 : c = 11
    · right
      subst hc11
      rw [show ([11] ++ (11 :: l ++ [28, 13]) : List Int) = 11 :: (11 :: l) ++ [28, 13] by simp, mid_of]
      exact goodL_start l
    · left
      cases hf : framed ([c] ++ (11 :: l ++ [28, 13])) with
      | false => rfl
      | true =>
        exfalso
        have h1 := framed_head hf
        simp at h1
        exact hc11 h1
  · refine unframed _ ((Bytes.append Bytes.nil hw).append hcb) (by simp; omega) (fun h3 => ?_)
    rw [Bool.and_eq_false_iff]
    left
    cases hf : framed (([] ++ (11 :: l ++ [28, 13])) ++ [c]) with
    | false => rfl
    | true =>
      exfalso
      obtain ⟨m, h1⟩ := framed_tail hf
      have h2 := congrArg List.reverse h1
      simp at h2
  · refine unframed _ ((Bytes.append Bytes.nil hw).append hw) (by simp; omega) (fun h3 => ?_)
    rw [Bool.and_eq_false_iff]
    right
    rw [show (([] ++ (11 :: l ++ [28, 13])) ++ (11 :: l ++ [28, 13]) : List Int) = 11 :: (l ++ [28, 13] ++ 11 :: l) ++ [28, 13] by simp, mid_of]
    exact goodL_mem _ (by simp)

theorem frameCuts_walk (a0 : Option Addr) (len0 cap0 : Nat) (z0 : List Int) (c : Int) (w : World) (hG : Glob w)
    (w0 : (a0 = none ∧ len0 = 0 ∧ cap0 = 0 ∧ z0 = []) ∨ ∃ x, a0 = some x ∧ len0 ≤ cap0 ∧ cap0 ≤ maxLen ∧ z0.length = cap0 ∧ (∀ i, i < z0.length → w.cell? (x.add i) = some (.int .u8 (z0.getD i 0))) ∧ ∀ n ∈ z0, (Lit.int .u8 n).wf = true) (_y0 : len0 * 1 ≤ 140737488351232) (hc : (Lit.int .u8 c).wf = true) (x0 : len0 ≤ 1048576) :
    Calls Tryd.prog 8 #[.slice a0 len0 cap0, .int .u8 c] w fun e w' => e = .returned (.bool true) ∧ Below w.heap.size w w' := by
  obtain ⟨l0, rfl, hr0, hm0, hw0, hc0⟩ := ReadsInt.ofRowC w0
  have hr := Kd.C_of_reads (d := (0 : Int)) (h1 := fun _ => rfl) hr0
  have hb := bytes_of_wf hw0
  have hw := wrap_f l0 hb (by omega)
  cases hg : goodL l0 with
  | false =>
    rw [hg, if_neg (by decide)] at hw
    exact cuts_bad a0 cap0 l0 c w hG hr hc0 hw
  | true =>
    rw [hg, if_pos rfl] at hw
    by_cases hl : 1000 < l0.length
    · exact cuts_long a0 cap0 l0 c w hG hr hc0 _ hw hl
    · exact cuts_main a0 cap0 l0 c w hG hr hc0 (by omega) _ hw (by simp) _ _ rfl rfl (cuts_none l0 hb hg (by omega) c (byte_of_wf' hc))
end Go.Proofs.YtiffmklefiehkaaDoor
