/- Of any bytes what is in the frame is the reference's, or why it is none: the law's walk, at every slice. -/
import Derived.Test.YtiffmklefiehkaaDoorRefUnwrap
namespace Go.Proofs.YtiffmklefiehkaaDoor
open Go.RowKit Go.Proofs.YtiffmklefiehkaaDoorW.PrintWords Go.Proofs.YtiffmklefiehkaaDoor.QFrameUnwraps

theorem ref_good_loop (a : List Int) (la : a.length ≤ 3000) (d : Nat) :
    ∀ (k i : Nat), i + d = a.length → d < k → lamplighterref04_Good.l0 k a (i : Int) = some (goodL (a.drop i)) := by
  induction d with
  | zero =>
    intro k i hd hk
    obtain ⟨k, rfl⟩ : ∃ m, k = m + 1 := ⟨k - 1, by omega⟩
    rw [lamplighterref04_Good.l0, if_neg (by omega), List.drop_eq_nil_of_le (by omega)]
    rfl
  | succ d ih =>
    intro k i hd hk
    obtain ⟨k, rfl⟩ : ∃ m, k = m + 1 := ⟨k - 1, by omega⟩
    have next := ih k (i + 1) (by omega) (by omega)
    have ew : wrap64 ((i : Int) + 1) = ((i + 1 : Nat) : Int) := by unfold wrap64; omega
    have hi : i < a.length := by omega
    have er : rd a (i : Int) = a[i] := by simp [rd, hi]
    rw [lamplighterref04_Good.l0, if_pos (by omega), if_pos (by omega), ew, er, List.drop_eq_getElem_cons hi, goodL, next]
    by_cases h1 : a[i] = 11
    · rw [if_pos h1]; simp [h1]
    rw [if_neg h1]
    by_cases h2 : a[i] = 28
    · rw [if_pos h2]
      by_cases h3 : ((i + 1 : Nat) : Int) = (a.length : Int)
      · rw [if_pos h3, List.drop_eq_nil_of_le (by omega)]
        simp [h2]
      · have hi' : i + 1 < a.length := by omega
        have er' : rd a ((i + 1 : Nat) : Int) = a[i + 1] := by simp only [rd, Int.toNat_natCast]; simp [hi']
        rw [if_neg h3, if_pos (by omega), if_pos (by omega), er', List.drop_eq_getElem_cons hi']
        by_cases h4 : a[i + 1] = 13
        · rw [if_pos h4]; simp [h2, h4]
        · rw [if_neg h4]; simp only [h2, List.isEmpty_cons, List.head?_cons, Option.some.injEq, h4]; simp
    · rw [if_neg h2]; simp [h1, h2]

theorem frameUnwraps_walk (a0 : Option Addr) (len0 cap0 : Nat) (z0 : List Int) (w : World) (hG : Glob w)
    (w0 : (a0 = none ∧ len0 = 0 ∧ cap0 = 0 ∧ z0 = []) ∨ ∃ x, a0 = some x ∧ len0 ≤ cap0 ∧ cap0 ≤ maxLen ∧ z0.length = cap0 ∧ (∀ i, i < z0.length → w.cell? (x.add i) = some (.int .u8 (z0.getD i 0))) ∧ ∀ n ∈ z0, (Lit.int .u8 n).wf = true) (_y0 : len0 * 1 ≤ 140737488351232) :
    Calls Tryd.prog 6 #[.slice a0 len0 cap0] w fun e w' => e = .returned (.bool true) ∧ Below w.heap.size w w' := by
  obtain ⟨l0, rfl, hr0, hm0, hw0, hc0⟩ := ReadsInt.ofRowC w0
  have hr := Kd.C_of_reads (d := (0 : Int)) (h1 := fun _ => rfl) hr0
  have hb := bytes_of_wf hw0
  by_cases hl : l0.length ≤ 3000
  · have hm := mid_len l0
    have hf : lamplighterref04_Good.f (l0.length + 1) (mid l0) = some (goodL (mid l0)) := ref_good_loop (mid l0) (by omega) (mid l0).length (l0.length + 1) 0 (by omega) (by omega)
    exact unwraps_small a0 cap0 _ l0 w hG hr hc0 hl _ _ (unwrap_f l0 hb (by omega)) rfl hf
  · exact unwraps_great a0 cap0 l0 w hG (by omega)
end Go.Proofs.YtiffmklefiehkaaDoor
