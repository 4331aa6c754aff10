/- Of bytes that may be in a frame beginnings and ends may; of two both: the plain law. -/
import Derived.Test.YtiffmklefiehkaaDoorQFramePartsx1
import Derived.Test.YtiffmklefiehkaaDoorPlain
namespace Go.Proofs.YtiffmklefiehkaaDoor.Pure
open Go.RowKit Go.Proofs.YtiffmklefiehkaaDoorW.PrintWords Go.Proofs.YtiffmklefiehkaaDoor Go.Proofs.YtiffmklefiehkaaDoor.QFrameParts

theorem parts_alive : lamplighterlaw04_alive.f = some true := by decide +kernel

theorem parts_loop (a b : List Int) (ha : Bytes a) (hb : Bytes b) (la : a.length ≤ 400) (lb : b.length ≤ 400) (ga : goodL a = true) (gb : goodL b = true) (d : Nat) :
    ∀ (k i : Nat), i + d = a.length → d < k → lamplighterlaw04_FrameParts.l0 k a b (a.length : Int) (i : Int) = some true := by
  have gab : frame_Good.f (a ++ b) = some true := by rw [good_f _ (ha.append hb) (by simp; omega), goodL_append _ _ ga, gb]
  induction d with
  | zero =>
    intro k i hd hk
    obtain ⟨k, rfl⟩ : ∃ m, k = m + 1 := ⟨k - 1, by omega⟩
    rw [lamplighterlaw04_FrameParts.l0, if_neg (by omega), parts_alive, Option.bind_some, if_pos rfl]
    simp only [Option.bind_some, List.length_nil, List.nil_append, Nat.zero_add]
    rw [if_pos (by omega), if_pos (by omega), gab]
    rfl
  | succ d ih =>
    intro k i hd hk
    obtain ⟨k, rfl⟩ : ∃ m, k = m + 1 := ⟨k - 1, by omega⟩
    have next := ih k (i + 1) (by omega) (by omega)
    have ew : wrap64 ((i : Int) + 1) = ((i + 1 : Nat) : Int) := by unfold wrap64; omega
    have gd : frame_Good.f (a.drop i) = some true := by rw [good_f _ (ha.drop i) (by simp; omega), goodL_drop _ _ ga]
    rw [lamplighterlaw04_FrameParts.l0, if_pos (by omega), if_pos (by omega), if_pos (by omega), Int.toNat_natCast, good_f _ (ha.take i) (by simp; omega), gd, ew, next]
    cases i with
    | zero =>
      simp [goodL]
    | succ i =>
      have ew' : wrap64 (((i + 1 : Nat) : Int) - 1) = (i : Int) := by unfold wrap64; omega
      rw [ew', goodL_take a i ga (by omega), Option.bind_some, if_neg (by omega), if_pos (by omega), if_pos (by omega)]
      have er : rd a (i : Int) = a.getD i 0 := by rw [rd, Int.toNat_natCast]
      rw [er]
      generalize a.getD i 0 = x
      by_cases hx : x = 28
      · subst hx
        simp
      · simp [hx]

theorem FrameParts : QFrameParts.lamplighterlaw04_FrameParts.Pure := by
  intro a b _ _ hwa _ _ hwb
  have ha := bytes_of_wf hwa
  have hb := bytes_of_wf hwb
  refine ⟨a.length + 3, ?_⟩
  have hj0 : lamplighterlaw04_FrameParts.j0 (a.length + 3) a b true = some true := by rw [lamplighterlaw04_FrameParts.j0, if_pos rfl, parts_alive]; rfl
  unfold lamplighterlaw04_FrameParts.f
  by_cases h0 : (a.length : Int) > 400
  · rw [if_pos h0, hj0]
  rw [if_neg h0]
  by_cases h1 : (b.length : Int) > 400
  · rw [decide_eq_true h1, hj0]
  rw [decide_eq_false h1, lamplighterlaw04_FrameParts.j0, if_neg (by simp), good_f a ha (by omega), Option.bind_some]
  have hj1 : (goodL a = true → goodL b = false) → lamplighterlaw04_FrameParts.j1 (a.length + 2) a b true = some true := by
    intro hg
    rw [lamplighterlaw04_FrameParts.j1, if_pos rfl, parts_alive, Option.bind_some, if_pos rfl, good_f a ha (by omega), Option.bind_some]
    cases ga : goodL a with
    | false => rfl
    | true =>
      rw [if_pos rfl]
      simp only [Option.bind_some, List.length_nil, List.nil_append, Nat.zero_add]
      rw [if_pos (by omega), if_pos (by omega), good_f _ (ha.append hb) (by simp; omega), goodL_append _ _ ga, hg ga]
      rfl
  cases ga : goodL a with
  | false => rw [if_neg (by simp)]; exact hj1 (by simp [ga])
  | true =>
    rw [if_pos rfl, good_f b hb (by omega), Option.bind_some]
    cases gb : goodL b with
    | false => exact hj1 (fun _ => gb)
    | true =>
      rw [Bool.not_true, lamplighterlaw04_FrameParts.j1, if_neg (by simp)]
      exact parts_loop a b ha hb (by omega) (by omega) ga gb a.length (a.length + 1) 0 (by omega) (by omega)
end Go.Proofs.YtiffmklefiehkaaDoor.Pure
