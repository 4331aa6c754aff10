/- What a deframer does with a frame, over lists. -/
import Derived.Test.YtiffmklefiehkaaDoorDfBreaks
namespace Go.Proofs.YtiffmklefiehkaaDoor
set_option linter.unusedVariables false
open Go.RowKit Go.Proofs.YtiffmklefiehkaaDoorW.PrintWords

/-- No first sign, and no last one that its tail stands behind. -/
def okL : List Int → Bool
  | [] => true
  | x :: r => decide (x ≠ 11) && !(decide (x = 28) && decide (r.head? = some 13)) && okL r

theorem okL_of_good {l : List Int} (h : goodL l = true) : okL l = true := by
  induction l with
  | nil => rfl
  | cons x r ih =>
    rw [goodL, Bool.and_eq_true, Bool.and_eq_true] at h
    obtain ⟨⟨ha, hb⟩, hc⟩ := h
    rw [okL, Bool.and_eq_true, Bool.and_eq_true]
    refine ⟨⟨ha, ?_⟩, ih hc⟩
    revert hb
    cases decide (x = 28) <;> cases r.isEmpty <;> cases decide (r.head? = some 13) <;> decide
theorem okL_left {p q : List Int} (h : okL (p ++ q) = true) : okL p = true := by
  induction p with
  | nil => rfl
  | cons x r ih =>
    rw [List.cons_append, okL, Bool.and_eq_true, Bool.and_eq_true] at h
    obtain ⟨⟨ha, hb⟩, hc⟩ := h
    rw [okL, Bool.and_eq_true, Bool.and_eq_true]
    refine ⟨⟨ha, ?_⟩, ih hc⟩
    cases r with
    | nil => simp
    | cons y r => exact hb
theorem okL_right {p q : List Int} (h : okL (p ++ q) = true) : okL q = true := by
  induction p with
  | nil => exact h
  | cons x r ih =>
    rw [List.cons_append, okL, Bool.and_eq_true] at h
    exact ih h.2
theorem okL_ne {p q : List Int} {c : Int} (h : okL (p ++ c :: q) = true) : c ≠ 11 := by
  have h := okL_right h
  rw [okL, Bool.and_eq_true, Bool.and_eq_true] at h
  simpa using h.1.1
theorem okL_ne13 {p q : List Int} {c : Int} (h : okL ((p ++ [28]) ++ c :: q) = true) : c ≠ 13 := by
  rw [List.append_assoc] at h
  have h := okL_right h
  rw [List.cons_append, List.nil_append, okL, Bool.and_eq_true, Bool.and_eq_true] at h
  simpa using h.1.2
theorem goodL_end (p : List Int) : goodL (p ++ [28]) = false := by
  induction p with
  | nil => simp [goodL]
  | cons x r ih => rw [List.cons_append, goodL, ih, Bool.and_false]

/-- What has been taken in of a frame. -/
def Cont (s : Df) (p : List Int) : Prop := if s.fin then p = s.now ++ [28] else s.now = p

theorem Df.take_in (s : Df) (p : List Int) (c : Int) (q : List Int) (hi : s.inn = true) (hc : Cont s p) (hok : okL (p ++ c :: q) = true) (hl : (p.length : Int) + 1 ≤ s.most) :
    Cont (s.step c) (p ++ [c]) ∧ ∃ b now, s.step c = { s with fin := b, now := now } := by
  have h11 := okL_ne hok
  obtain ⟨most, inn, fin, now, found, junk, over, broken⟩ := s
  simp only at hi hl
  subst hi
  unfold Df.step
  rw [if_pos rfl]
  unfold Df.take
  rw [if_neg h11]
  cases fin with
  | true =>
    have hp : p = now ++ [28] := by simpa [Cont] using hc
    subst hp
    have h13 := okL_ne13 hok
    simp only [List.length_append, List.length_cons, List.length_nil] at hl
    rw [if_neg (by simp [h13]), if_neg (by simp)]
    by_cases h28 : c = 28
    · subst h28
      rw [if_pos rfl]
      unfold Df.lay
      rw [if_neg (by simp; omega)]
      exact ⟨by simp [Cont], _, _, rfl⟩
    · rw [if_neg h28, if_pos rfl]
      unfold Df.lay
      rw [if_neg (by simp; omega)]
      exact ⟨by simp [Cont], _, _, rfl⟩
  | false =>
    have hp : now = p := by simpa [Cont] using hc
    subst hp
    rw [if_neg (by simp)]
    by_cases h28 : c = 28
    · subst h28
      rw [if_pos (by simp)]
      exact ⟨by simp [Cont], _, _, rfl⟩
    · rw [if_neg (by simp [h28]), if_neg h28, if_neg (by simp)]
      unfold Df.lay
      rw [if_neg (by simp; omega)]
      exact ⟨by simp [Cont], _, _, rfl⟩

theorem Df.run_in (q : List Int) : ∀ (s : Df) (p : List Int), s.inn = true → Cont s p → okL (p ++ q) = true → ((p ++ q).length : Int) ≤ s.most →
    Cont (s.run q) (p ++ q) ∧ ∃ b now, s.run q = { s with fin := b, now := now } := by
  induction q with
  | nil => intro s p hi hc hok hl; exact ⟨by simpa [Df.run] using hc, s.fin, s.now, rfl⟩
  | cons c q ih =>
    intro s p hi hc hok hl
    rw [List.length_append, List.length_cons] at hl
    obtain ⟨h1, b, now, h2⟩ := Df.take_in s p c q hi hc hok (by omega)
    obtain ⟨h3, b', now', h4⟩ := ih (s.step c) (p ++ [c]) (by rw [h2]; exact hi) h1 (by simpa using hok) (by rw [h2]; simp; omega)
    refine ⟨by simpa [Df.run] using h3, b', now', ?_⟩
    show (s.step c).run q = _
    rw [h4, h2]

theorem Df.run_append (s : Df) (a b : List Int) : s.run (a ++ b) = (s.run a).run b := by simp [Df.run]
theorem Df.run_cons (s : Df) (c : Int) (b : List Int) : s.run (c :: b) = (s.step c).run b := by simp [Df.run]

/-- Its content up to the last sign. -/
theorem Df.run_end (s : Df) (l : List Int) (hi : s.inn = true) (hf : s.fin = false) (hn : s.now = []) (hg : goodL l = true) (hl : (l.length : Int) ≤ s.most) :
    s.run (l ++ [28]) = { s with fin := true, now := l } := by
  obtain ⟨h1, b, now, h2⟩ := Df.run_in l s [] hi (by simp [Cont, hf, hn]) (okL_of_good hg) (by simpa using hl)
  rw [Df.run_append, h2]
  rw [h2] at h1
  cases b with
  | true =>
    have hp : l = now ++ [28] := by simpa [Cont] using h1
    rw [hp, goodL_end] at hg
    cases hg
  | false =>
    have hp : now = l := by simpa [Cont] using h1
    subst hp
    rw [Df.run_cons]
    simp only [Df.run, List.foldl_nil, Df.step]
    rw [if_pos hi]
    unfold Df.take
    rw [if_neg (by decide), if_neg (by simp), if_pos (by simp)]

theorem Df.run_found (s : Df) (l : List Int) (hi : s.inn = true) (hf : s.fin = false) (hn : s.now = []) (hg : goodL l = true) (hl : (l.length : Int) ≤ s.most) :
    s.run (l ++ [28, 13]) = Df.out { s with found := s.found ++ [l] } := by
  rw [show l ++ [28, 13] = (l ++ [28]) ++ [13] by simp, Df.run_append, Df.run_end s l hi hf hn hg hl, Df.run_cons]
  simp only [Df.run, List.foldl_nil, Df.step]
  rw [if_pos hi]
  unfold Df.take
  rw [if_neg (by decide), if_pos (by simp)]
  rfl

/-- The law's second part: what is found behind a piece of the frame. -/
theorem breaks_run (m : Int) (l : List Int) (hg : goodL l = true) (hl : (l.length : Int) ≤ m) (j : Nat) (hj : j + 2 ≤ (11 :: l ++ [28, 13]).length) :
    Df.run { Df.run (Df.new m) ((11 :: l ++ [28, 13]).take (1 + j)) with found := [] } (11 :: l ++ [28, 13]) = ⟨m, false, false, [], [l], 0, 0, 1⟩ := by
  have h1 : ∃ b now, Df.run (Df.new m) ((11 :: l ++ [28, 13]).take (1 + j)) = ⟨m, true, b, now, [], 0, 0, 0⟩ := by
    rw [Nat.add_comm 1 j, List.cons_append, List.take_succ_cons, Df.run_cons]
    have h0 : (Df.new m).step 11 = ⟨m, true, false, [], [], 0, 0, 0⟩ := rfl
    rw [h0]
    simp at hj
    by_cases hj2 : j ≤ l.length
    · rw [List.take_append_of_le_length hj2]
      obtain ⟨_, b, now, h2⟩ := Df.run_in (l.take j) ⟨m, true, false, [], [], 0, 0, 0⟩ [] rfl (by simp [Cont]) (by
        have h := okL_of_good hg
        rw [← List.take_append_drop j l] at h
        exact okL_left h) (by simp; omega)
      exact ⟨b, now, h2⟩
    · have e : (l ++ [28, 13]).take j = l ++ [28] := by
        obtain rfl : j = l.length + 1 := by omega
        rw [List.take_append, Nat.add_sub_cancel_left, List.take_of_length_le (by omega)]
        rfl
      rw [e, Df.run_end _ l rfl rfl rfl hg hl]
      exact ⟨true, l, rfl⟩
  obtain ⟨b, now, h1⟩ := h1
  rw [h1, List.cons_append, Df.run_cons]
  have h2 : Df.step { (⟨m, true, b, now, [], 0, 0, 0⟩ : Df) with found := [] } 11 = ⟨m, true, false, [], [], 0, 0, 1⟩ := rfl
  rw [h2, Df.run_found _ l rfl rfl rfl hg hl]
  rfl

theorem deframeBreaks_walk (n : Int) (a1 : Option Addr) (len1 cap1 : Nat) (z1 : List Int) (at_ : Int) (w : World) (hG : Glob w) (hn : (Lit.int .i64 n).wf = true)
    (w1 : (a1 = none ∧ len1 = 0 ∧ cap1 = 0 ∧ z1 = []) ∨ ∃ x, a1 = some x ∧ len1 ≤ cap1 ∧ cap1 ≤ maxLen ∧ z1.length = cap1 ∧ (∀ i, i < z1.length → w.cell? (x.add i) = some (.int .u8 (z1.getD i 0))) ∧ ∀ n ∈ z1, (Lit.int .u8 n).wf = true) (_y1 : len1 * 1 ≤ 140737488351232) (ha : (Lit.int .i64 at_).wf = true) (x1 : len1 ≤ 1048576) :
    Calls Tryd.prog 10 #[.int .i64 n, .slice a1 len1 cap1, .int .i64 at_] w fun e w' => e = .returned (.bool true) ∧ Below w.heap.size w w' := by
  obtain ⟨l0, rfl, hr0, hm0, hw0, hc0⟩ := ReadsInt.ofRowC w1
  have hr := Kd.C_of_reads (d := (0 : Int)) (h1 := fun _ => rfl) hr0
  have hb := bytes_of_wf hw0
  have hw := wrap_f l0 hb (by omega)
  cases hg : goodL l0 with
  | false =>
    rw [hg, if_neg (by decide)] at hw
    exact breaks_bad n at_ a1 cap1 l0 w hG hr hc0 hw
  | true =>
    rw [hg, if_pos rfl] at hw
    by_cases hl : mostL n < (l0.length : Int)
    · exact breaks_great n at_ a1 cap1 l0 w hG hr hc0 _ hw hl
    have hm := mostL_range n
    have hL : (11 :: l0 ++ [28, 13]).length = l0.length + 3 := by simp
    obtain ⟨j, hj, hidx⟩ := turn_index at_ (l0.length + 2) (by omega) (by omega)
    refine breaks_main n at_ a1 cap1 l0 w hG hr hc0 _ hw hl (by omega) (by omega) (bytes_wrap hb) j (by omega) ?_ (breaks_run _ l0 hg (by omega) j (by omega))
    rw [hL, ← hidx]
    have e : IntKind.u64.wrap ((l0.length + 2 : Nat) : Int) = ((l0.length + 3 : Nat) : Int) - 1 := by rw [IntKind.wrap_u64]; omega
    rw [e]
end Go.Proofs.YtiffmklefiehkaaDoor
