/- Of any bytes whether they may be in a frame, and the frame, and how many bytes one has: the plain law. -/
import Derived.Test.YtiffmklefiehkaaDoorQFrameWrapsx2
import Derived.Test.YtiffmklefiehkaaDoorPlain
namespace Go.Proofs.YtiffmklefiehkaaDoor.Pure
open Go.RowKit Go.Proofs.YtiffmklefiehkaaDoorW.PrintWords Go.Proofs.YtiffmklefiehkaaDoor Go.Proofs.YtiffmklefiehkaaDoor.QFrameWraps

theorem wraps_alive : lamplighterlaw04_alive.f = some true := by decide +kernel

theorem ref_good_loop (a : List Int) (la : a.length ≤ 3000) (d : Nat) :
    ∀ (k i : Nat), i + d = a.length → d < k → lamplighterref04_Good.l0 k a (i : Int) = some (goodL (a.drop i)) := by
  induction d with
  | zero =>
    intro k i hd hk
    obtain ⟨k, rfl⟩ : ∃ m, k = m + 1 := ⟨k - 1, by omega⟩
    rw [lamplighterref04_Good.l0, if_neg (by omega), List.drop_eq_nil_of_le (by omega)]
    rfl
  | succ d ih =>
    intro k i hd hk
    obtain ⟨k, rfl⟩ : ∃ m, k = m + 1 := ⟨k - 1, by omega⟩
    have next := ih k (i + 1) (by omega) (by omega)
    have ew : wrap64 ((i : Int) + 1) = ((i + 1 : Nat) : Int) := by unfold wrap64; omega
    have hi : i < a.length := by omega
    have er : rd a (i : Int) = a[i] := by simp [rd, hi]
    rw [lamplighterref04_Good.l0, if_pos (by omega), if_pos (by omega), ew, er, List.drop_eq_getElem_cons hi, goodL, next]
    by_cases h1 : a[i] = 11
    · rw [if_pos h1]; simp [h1]
    rw [if_neg h1]
    by_cases h2 : a[i] = 28
    · rw [if_pos h2]
      by_cases h3 : ((i + 1 : Nat) : Int) = (a.length : Int)
      · rw [if_pos h3, List.drop_eq_nil_of_le (by omega)]
        simp [h2]
      · have hi' : i + 1 < a.length := by omega
        have er' : rd a ((i + 1 : Nat) : Int) = a[i + 1] := by simp only [rd, Int.toNat_natCast]; simp [hi']
        rw [if_neg h3, if_pos (by omega), if_pos (by omega), er', List.drop_eq_getElem_cons hi']
        by_cases h4 : a[i + 1] = 13
        · rw [if_pos h4]; simp [h2, h4]
        · rw [if_neg h4]; simp only [h2, List.isEmpty_cons, List.head?_cons, Option.some.injEq, h4]; simp
    · rw [if_neg h2]; simp [h1, h2]

theorem FrameWraps : QFrameWraps.lamplighterlaw04_FrameWraps.Pure := by
  intro l n _ _ hw hn
  have hb := bytes_of_wf hw
  have hn := bounds_i64 hn
  refine ⟨l.length + 3, ?_⟩
  unfold lamplighterlaw04_FrameWraps.f
  by_cases h0 : (l.length : Int) > 3000
  · rw [if_pos h0, wraps_alive]; rfl
  have hr : lamplighterref04_Good.f (l.length + 3) l = some (goodL l) := ref_good_loop l (by omega) l.length (l.length + 3) 0 (by omega) (by omega)
  have hj2 : ∀ k, lamplighterlaw04_FrameWraps.j2 (k + 1) l (if goodL l then (11 :: l ++ [28, 13], 0) else ([], 10) : List Int × Int).1 (if goodL l then (11 :: l ++ [28, 13], 0) else ([], 10) : List Int × Int).2 (goodL l) false = some true := by
    intro k
    rw [lamplighterlaw04_FrameWraps.j2, if_neg (by simp), wraps_alive, good_f l hb (by omega)]
    cases hg : goodL l with
    | false => simp
    | true =>
      have hwr : lamplighterref04_Wrap.f l = some (11 :: l ++ [28, 13]) := by
        unfold lamplighterref04_Wrap.f
        simp only [Option.bind_some, List.length_cons, List.length_nil]
        rw [if_pos (by omega), if_pos (by simp; omega)]
        rfl
      rw [hwr]
      simp
  have hc : ∀ w, (n < 4611686018427387904 → w = if 0 ≤ n then n + 3 else 0) → ∀ k, lamplighterlaw04_FrameWraps.j1 (k + 2) l n (if goodL l then (11 :: l ++ [28, 13], 0) else ([], 10) : List Int × Int).1 (if goodL l then (11 :: l ++ [28, 13], 0) else ([], 10) : List Int × Int).2 (goodL l) w = some true := by
    intro w hw k
    rw [lamplighterlaw04_FrameWraps.j1]
    by_cases hlt : n < 4611686018427387904
    · have hct : frame_Count.f n = some w := by
        rw [hw hlt]
        unfold frame_Count.f
        by_cases h1 : n < 0
        · rw [if_pos h1, if_neg (by omega)]
        · have e : wrap64 (n + 3) = n + 3 := by unfold wrap64; omega
          rw [if_neg h1, if_pos (by omega), e]
      rw [if_pos hlt, hct, Option.bind_some, bne_self_eq_false]
      exact hj2 k
    · rw [if_neg hlt]
      exact hj2 k
  rw [if_neg h0, wrap_f l hb (by omega), Option.bind_some, hr, Option.bind_some]
  by_cases h1 : n ≥ 0
  · rw [if_pos h1]
    by_cases h2 : n < 4611686018427387904
    · have e : wrap64 (n + 3) = n + 3 := by unfold wrap64; omega
      rw [decide_eq_true h2, lamplighterlaw04_FrameWraps.j0, if_pos rfl, e]
      exact hc _ (fun _ => by rw [if_pos h1]) l.length
    · rw [decide_eq_false h2, lamplighterlaw04_FrameWraps.j0, if_neg (by simp)]
      exact hc _ (fun h => absurd h h2) l.length
  · rw [if_neg h1, lamplighterlaw04_FrameWraps.j0, if_neg (by simp)]
    exact hc _ (fun _ => by rw [if_neg h1]) l.length
end Go.Proofs.YtiffmklefiehkaaDoor.Pure
