/- In bytes that may be in a frame any byte may be changed for one that is no sign; for the first sign none: the plain law. -/
import Derived.Test.YtiffmklefiehkaaDoorQFrameTurnsx1
import Derived.Test.YtiffmklefiehkaaDoorPlain
namespace Go.Proofs.YtiffmklefiehkaaDoor.Pure
open Go.RowKit Go.Proofs.YtiffmklefiehkaaDoorW.PrintWords Go.Proofs.YtiffmklefiehkaaDoor Go.Proofs.YtiffmklefiehkaaDoor.QFrameTurns

theorem turns_alive : lamplighterlaw04_alive.f = some true := by decide +kernel

theorem FrameTurns : QFrameTurns.lamplighterlaw04_FrameTurns.Pure := by
  intro l a c _ _ hw _ hc
  have hb := bytes_of_wf hw
  have hcb := byte_of_wf' hc
  refine ⟨2, ?_⟩
  have hj0 : ∀ k, lamplighterlaw04_FrameTurns.j0 (k + 1) l a c true = some true := fun k => by rw [lamplighterlaw04_FrameTurns.j0, if_pos rfl, turns_alive]; rfl
  unfold lamplighterlaw04_FrameTurns.f
  by_cases h0 : (l.length : Int) = 0
  · rw [if_pos h0, hj0]
  rw [if_neg h0]
  by_cases h1 : (l.length : Int) > 1000
  · rw [if_pos h1, hj0]
  rw [if_neg h1, good_f l hb (by omega), Option.bind_some]
  cases hg : goodL l with
  | false => exact hj0 1
  | true =>
    obtain ⟨j, hj, ej⟩ := turn_index a l.length (by omega) (by omega)
    have hz : ¬ IntKind.u64.wrap (l.length : Int) = 0 := by rw [IntKind.wrap_u64]; omega
    have hr : ∀ b : Bool, (b = true → c ≠ 11 ∧ c ≠ 28 ∧ c ≠ 13) → lamplighterlaw04_FrameTurns.j1 1 c (j : Int) (l.set j 11) l b = some true := by
      intro b hbc
      have g1 : frame_Good.f (l.set j 11) = some false := by rw [good_f _ (hb.set j (by omega)) (by simp; omega), goodL_set_bad _ _ hj]
      cases b with
      | false =>
        rw [lamplighterlaw04_FrameTurns.j1, if_neg (by simp), turns_alive, Option.bind_some, if_pos rfl, g1, Option.bind_some, if_neg (by simp), good_f l hb (by omega), hg]
        rfl
      | true =>
        obtain ⟨c1, c2, c3⟩ := hbc rfl
        have g2 : frame_Good.f (l.set j c) = some true := by rw [good_f _ (hb.set j hcb) (by simp; omega), goodL_set_ok _ _ _ hg c1 c2 c3]
        rw [lamplighterlaw04_FrameTurns.j1, if_pos rfl, if_pos (by omega), if_pos (by omega), turns_alive, Option.bind_some, if_pos rfl, g1, Option.bind_some, if_neg (by simp), Int.toNat_natCast, g2]
        rfl
    rw [lamplighterlaw04_FrameTurns.j0, if_neg (by simp), if_neg hz, ej]
    simp only [Option.bind_some, List.length_nil, List.nil_append, Nat.zero_add]
    rw [if_pos (by omega), if_pos (by omega), if_pos (by omega), if_pos (by omega), Int.toNat_natCast]
    by_cases c1 : c = 11
    · rw [if_pos c1]; exact hr false (by simp)
    · rw [if_neg c1]
      by_cases c2 : c = 28
      · rw [if_pos c2]; exact hr false (by simp)
      · rw [if_neg c2]
        exact hr _ fun h => ⟨c1, c2, by simpa using h⟩
end Go.Proofs.YtiffmklefiehkaaDoor.Pure
