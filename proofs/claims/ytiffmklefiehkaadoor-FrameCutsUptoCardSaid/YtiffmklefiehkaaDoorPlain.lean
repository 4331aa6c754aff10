/- Plain facts on lists of bytes: what frame.Good says, byte by byte. -/
import Derived.Test.YtiffmklefiehkaaDoorUnwrap
import Derived.OpenShut
namespace Go.Proofs.YtiffmklefiehkaaDoor
open Go.RowKit Go.Proofs.YtiffmklefiehkaaDoorW.PrintWords

/-- May these bytes be in a frame? -/
def goodL : List Int → Bool
  | [] => true
  | x :: r => decide (x ≠ 11) && !(decide (x = 28) && (r.isEmpty || decide (r.head? = some 13))) && goodL r

theorem u8_eq {x : Int} (h : 0 ≤ x ∧ x < 256) (c : Nat) (hc : c < 256) : x.toNat.toUInt8 = c.toUInt8 ↔ x = c := by
  constructor
  · intro e
    have := congrArg UInt8.toNat e
    simp at this
    omega
  · rintro rfl
    simp

theorem bytesOf_cons (x : Int) (xs : List Int) : Lib.bytesOf (x :: xs) = x.toNat.toUInt8 :: Lib.bytesOf xs := rfl
theorem indexByte_cons (b c : UInt8) (l : List UInt8) : decide (Lib.indexByte (b :: l) c < 0) = (!(b == c) && decide (Lib.indexByte l c < 0)) := by
  rw [Lib.indexByte]
  by_cases h : (b == c) = true
  · simp [h]
  · rw [if_neg h]
    simp only [h, Bool.not_false, Bool.true_and]
    have hge := Lib.indexByte_ge l c
    by_cases hm : Lib.indexByte l c = -1
    · simp [hm]
    · rw [if_neg (by simpa using hm)]
      have h1 : ¬ (Lib.indexByte l c + 1 < 0) := by omega
      have h2 : ¬ (Lib.indexByte l c < 0) := by omega
      simp [h1, h2]
theorem contains_cons (b : UInt8) (l sub : List UInt8) : Lib.contains (b :: l) sub = (sub.isPrefixOf (b :: l) || Lib.contains l sub) := by
  unfold Lib.contains
  rw [Lib.index]
  by_cases h : sub.isPrefixOf (b :: l) = true
  · simp [h]
  · rw [if_neg h]
    simp only [h, Bool.false_or]
    have hge := Lib.index_ge l sub
    by_cases hm : Lib.index l sub = -1
    · simp [hm]
    · rw [if_neg (by simpa using hm)]
      have h1 : 0 ≤ Lib.index l sub + 1 := by omega
      have h2 : 0 ≤ Lib.index l sub := by omega
      simp [h1, h2]
theorem hasSuffix_cons (b : UInt8) (l p : List UInt8) (hp : p.length = 1) : Lib.hasSuffix (b :: l) p = (if l.isEmpty then p == [b] else Lib.hasSuffix l p) := by
  obtain ⟨c, rfl⟩ := List.length_eq_one_iff.1 hp
  unfold Lib.hasSuffix
  cases l with
  | nil => simp [List.isSuffixOf, List.isPrefixOf]
  | cons d l =>
    simp only [List.isEmpty_cons]
    rw [Bool.eq_iff_iff, if_neg (by simp), List.isSuffixOf_iff_suffix, List.isSuffixOf_iff_suffix, List.suffix_cons_iff]
    simp

theorem goodS_eq (xs : List Int) (h : Bytes xs) : goodS xs = goodL xs := by
  induction xs with
  | nil => decide
  | cons x r ih =>
    have hx := h x List.mem_cons_self
    have hr : Bytes r := fun y hy => h y (List.mem_cons_of_mem _ hy)
    have e11 := u8_eq hx 11 (by decide)
    have e28 := u8_eq hx 28 (by decide)
    unfold goodL
    rw [← ih hr]
    unfold goodS
    rw [bytesOf_cons, indexByte_cons, contains_cons, hasSuffix_cons _ _ _ rfl]
    have a11 : (x.toNat.toUInt8 == (11 : UInt8)) = decide (x = 11) := by rw [Bool.eq_iff_iff]; simpa using e11
    have a28 : ((28 : UInt8) == x.toNat.toUInt8) = decide (x = 28) := by rw [Bool.eq_iff_iff, beq_iff_eq, eq_comm]; simpa using e28
    rw [a11]
    cases r with
    | nil =>
      simp [Lib.bytesOf, Lib.contains, Lib.index, Lib.indexByte, List.isPrefixOf, a28, show Lib.hasSuffix [] [28] = false from by decide]
    | cons y r =>
      have hy := hr y List.mem_cons_self
      have a13 : ((13 : UInt8) == y.toNat.toUInt8) = decide (y = 13) := by
        rw [Bool.eq_iff_iff, beq_iff_eq, eq_comm]
        simpa using u8_eq hy 13 (by decide)
      have hp : List.isPrefixOf [(28 : UInt8), 13] (x.toNat.toUInt8 :: Lib.bytesOf (y :: r)) = (decide (x = 28) && decide (y = 13)) := by
        rw [bytesOf_cons, List.isPrefixOf, List.isPrefixOf, List.isPrefixOf, a28, a13, Bool.and_true]
      rw [hp]
      simp only [List.isEmpty_cons, List.head?_cons, Bool.false_or, bytesOf_cons, Bool.false_eq_true, if_false]
      generalize decide (Lib.indexByte (y.toNat.toUInt8 :: Lib.bytesOf r) 11 < 0) = p
      generalize Lib.contains (y.toNat.toUInt8 :: Lib.bytesOf r) [28, 13] = q
      generalize Lib.hasSuffix (y.toNat.toUInt8 :: Lib.bytesOf r) [28] = s
      by_cases h1 : x = 11
      · simp [h1]
      · by_cases h2 : x = 28
        · by_cases h3 : y = 13 <;> simp [h2, h3]
        · simp [h1, h2]

theorem good_f (xs : List Int) (h : Bytes xs) (hl : xs.length < 4294967281) : frame_Good.f xs = some (goodL xs) := by
  unfold frame_Good.f
  rw [if_pos ⟨h, hl⟩, goodS_eq xs h]

theorem byte_of_wf' {x : Int} (h : (Lit.int .u8 x).wf = true) : 0 ≤ x ∧ x < 256 := by
  have := bounds_u8 h
  omega
theorem bytes_of_wf {xs : List Int} (h : ∀ x ∈ xs, (Lit.int .u8 x).wf = true) : Bytes xs := fun x hx => byte_of_wf' (h x hx)

theorem goodL_set_bad (xs : List Int) (i : Nat) (hi : i < xs.length) : goodL (xs.set i 11) = false := by
  induction xs generalizing i with
  | nil => simp at hi
  | cons x r ih =>
    cases i with
    | zero => simp [goodL]
    | succ i =>
      rw [List.set_cons_succ, goodL, ih i (by simpa using hi), Bool.and_false]

theorem goodL_set_ok (xs : List Int) (i : Nat) (c : Int) (h : goodL xs = true) (h1 : c ≠ 11) (h2 : c ≠ 28) (h3 : c ≠ 13) : goodL (xs.set i c) = true := by
  induction xs generalizing i with
  | nil => rfl
  | cons x r ih =>
    rw [goodL, Bool.and_eq_true, Bool.and_eq_true] at h
    obtain ⟨⟨ha, hb⟩, hc⟩ := h
    cases i with
    | zero => rw [List.set_cons_zero, goodL, hc]; simp [h1, h2]
    | succ i =>
      rw [List.set_cons_succ, goodL, ih i hc, ha, Bool.true_and, Bool.and_true]
      cases r with
      | nil => exact hb
      | cons y r =>
        cases i with
        | zero => simp [h3]
        | succ i => simpa using hb

theorem Bytes.set {xs : List Int} (h : Bytes xs) (i : Nat) {c : Int} (hc : 0 ≤ c ∧ c < 256) : Bytes (xs.set i c) := fun x hx => by
  rcases List.mem_or_eq_of_mem_set hx with hx | rfl
  · exact h x hx
  · exact hc
theorem Bytes.nil : Bytes [] := fun _ h => by cases h

/-- An index out of any number. -/
theorem turn_index (a : Int) (n : Nat) (h0 : 0 < n) (h1 : n ≤ 4611686018427387904) : ∃ j : Nat, j < n ∧ wrap64 (Int.tmod (IntKind.u64.wrap a) (IntKind.u64.wrap (n : Int))) = (j : Int) := by
  have e1 : IntKind.u64.wrap (n : Int) = n := by rw [IntKind.wrap_u64]; omega
  have e2 : 0 ≤ IntKind.u64.wrap a := by rw [IntKind.wrap_u64]; omega
  rw [e1]
  generalize IntKind.u64.wrap a = b at e2
  obtain ⟨b, rfl⟩ := Int.eq_ofNat_of_zero_le e2
  refine ⟨b % n, Nat.mod_lt _ h0, ?_⟩
  have e3 : Int.tmod (b : Int) (n : Int) = ((b % n : Nat) : Int) := by rw [Int.ofNat_tmod]
  rw [e3]
  have := Nat.mod_lt b h0
  unfold wrap64
  omega

theorem wrap_f (xs : List Int) (h : Bytes xs) (hl : xs.length < 4294967281) : frame_Wrap.f xs = some (if goodL xs then (11 :: xs ++ [28, 13], 0) else ([], 10)) := by
  rw [frame_Wrap.f, good_f xs h hl]
  rfl

/-- Bytes that have a frame's three signs have something between them. -/
theorem of_framed {xs : List Int} (h3 : ¬ xs.length < 3) (h : framed xs = true) : xs = 11 :: mid xs ++ [28, 13] := by
  unfold framed at h
  rw [Bool.and_eq_true, List.isSuffixOf_iff_suffix] at h
  obtain ⟨h1, m, rfl⟩ := h
  rcases m with _ | ⟨x, m⟩
  · simp at h3
  · rw [mid_of]
    simp at h1
    rw [h1]
theorem framed_of (xs : List Int) : framed (11 :: xs ++ [28, 13]) = true := by
  unfold framed
  rw [Bool.and_eq_true, List.isSuffixOf_iff_suffix]
  exact ⟨by simp, List.suffix_append _ _⟩
theorem mid_mem {xs : List Int} {x : Int} (h : x ∈ mid xs) : x ∈ xs := by
  unfold mid at h
  exact List.mem_of_mem_drop (List.dropLast_subset _ (List.dropLast_subset _ h))
theorem mid_len (xs : List Int) : (mid xs).length ≤ xs.length := by
  unfold mid
  simp
  omega
theorem Bytes.mid {xs : List Int} (h : Bytes xs) : Bytes (mid xs) := fun x hx => h x (mid_mem hx)
theorem unwrap_f (xs : List Int) (h : Bytes xs) (hl : xs.length < 4294967281) : frame_Unwrap.f xs = some (if xs.length < 3 then ([], 7) else if framed xs && goodL (mid xs) then (mid xs, 0) else ([], 10)) := by
  unfold frame_Unwrap.f
  rw [if_pos h]
  by_cases h3 : xs.length < 3
  · rw [if_pos h3, if_pos h3]
  · rw [if_neg h3, if_neg h3]
    cases hf : framed xs with
    | false => rfl
    | true =>
      have hm := mid_len xs
      rw [if_pos rfl, good_f _ h.mid (by omega), Option.map_some]
      cases hg : goodL (mid xs) <;> simp
theorem unwrap_wrap (xs : List Int) (h : Bytes xs) (hl : xs.length < 4294967000) (hg : goodL xs = true) : frame_Unwrap.f (11 :: xs ++ [28, 13]) = some (xs, 0) := by
  have hb : Bytes (11 :: xs ++ [28, 13]) := by
    intro x hx
    simp only [List.cons_append, List.mem_cons, List.mem_append, List.not_mem_nil, or_false] at hx
    rcases hx with rfl | hx | rfl | rfl
    · omega
    · exact h x hx
    · omega
    · omega
  rw [unwrap_f _ hb (by simp; try omega), if_neg (by simp), framed_of, mid_of, hg]
  rfl
theorem goodL_start (xs : List Int) : goodL (11 :: xs) = false := by simp [goodL]
theorem bytes_wrap {xs : List Int} (h : Bytes xs) : Bytes (11 :: xs ++ [28, 13]) := by
  intro x hx
  simp only [List.cons_append, List.mem_cons, List.mem_append, List.not_mem_nil, or_false] at hx
  rcases hx with rfl | hx | rfl | rfl
  · omega
  · exact h x hx
  · omega
  · omega

theorem goodL_append (a b : List Int) (h : goodL a = true) : goodL (a ++ b) = goodL b := by
  induction a with
  | nil => rfl
  | cons x r ih =>
    rw [goodL, Bool.and_eq_true, Bool.and_eq_true] at h
    obtain ⟨⟨ha, hb⟩, hc⟩ := h
    rw [List.cons_append, goodL, ih hc, ha, Bool.true_and]
    have e : (!(decide (x = 28) && ((r ++ b).isEmpty || decide ((r ++ b).head? = some 13)))) = true := by
      cases r with
      | nil =>
        simp at hb
        simp [hb]
      | cons y r => simpa using hb
    rw [e, Bool.true_and]
theorem goodL_drop (a : List Int) (i : Nat) (h : goodL a = true) : goodL (a.drop i) = true := by
  induction a generalizing i with
  | nil => simpa using h
  | cons x r ih =>
    cases i with
    | zero => exact h
    | succ i =>
      rw [goodL, Bool.and_eq_true] at h
      exact ih i h.2
theorem goodL_take (a : List Int) (i : Nat) (h : goodL a = true) (hi : i < a.length) : goodL (a.take (i + 1)) = decide (a.getD i 0 ≠ 28) := by
  induction a generalizing i with
  | nil => simp at hi
  | cons x r ih =>
    rw [goodL, Bool.and_eq_true, Bool.and_eq_true] at h
    obtain ⟨⟨ha, hb⟩, hc⟩ := h
    cases i with
    | zero =>
      simp only [List.take_succ_cons, List.take_zero, goodL, ha, List.isEmpty_nil, Bool.true_or, Bool.and_true, Bool.true_and, List.getD_cons_zero]
      by_cases hx : x = 28 <;> simp [hx]
    | succ i =>
      have hi' : i < r.length := by simpa using hi
      rw [List.take_succ_cons, goodL, ha, Bool.true_and, ih i hc hi', List.getD_cons_succ]
      have e : (!(decide (x = 28) && ((r.take (i + 1)).isEmpty || decide ((r.take (i + 1)).head? = some 13)))) = true := by
        cases r with
        | nil => simp at hi'
        | cons y r => simpa using hb
      rw [e, Bool.true_and]
end Go.Proofs.YtiffmklefiehkaaDoor
