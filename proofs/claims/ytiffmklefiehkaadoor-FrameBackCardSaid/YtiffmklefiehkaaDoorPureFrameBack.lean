/- What is wrapped is unwrapped, and the other way about: the plain law. -/
import Derived.Test.YtiffmklefiehkaaDoorQFrameBackx1
import Derived.Test.YtiffmklefiehkaaDoorPlain
namespace Go.Proofs.YtiffmklefiehkaaDoor.Pure
open Go.RowKit Go.Proofs.YtiffmklefiehkaaDoorW.PrintWords Go.Proofs.YtiffmklefiehkaaDoor Go.Proofs.YtiffmklefiehkaaDoor.QFrameBack

theorem back_alive : lamplighterlaw04_alive.f = some true := by decide +kernel

theorem FrameBack : QFrameBack.lamplighterlaw04_FrameBack.Pure := by
  intro l _ _ hw
  have hb := bytes_of_wf hw
  refine ⟨1, ?_⟩
  unfold lamplighterlaw04_FrameBack.f
  by_cases h0 : (l.length : Int) > 3000
  · rw [if_pos h0, back_alive]; rfl
  rw [if_neg h0]
  have hj : lamplighterlaw04_FrameBack.j0 1 l = some true := by
    rw [lamplighterlaw04_FrameBack.j0, unwrap_f l hb (by omega), Option.bind_some]
    by_cases h3 : l.length < 3
    · rw [if_pos h3, if_neg (by simp), back_alive]; rfl
    rw [if_neg h3]
    cases hf : framed l && goodL (mid l) with
    | false => rw [if_neg (by simp), if_neg (by simp), back_alive]; rfl
    | true =>
      rw [Bool.and_eq_true] at hf
      have hm := mid_len l
      rw [if_pos rfl, if_pos rfl, wrap_f _ hb.mid (by omega), hf.2, if_pos rfl, ← of_framed h3 hf.1, Option.bind_some, back_alive, Option.bind_some, if_pos rfl, if_pos rfl]
      simp
  rw [wrap_f l hb (by omega), Option.bind_some]
  cases hg : goodL l with
  | false => rw [if_neg (by simp)]; exact hj
  | true =>
    rw [if_pos rfl, if_pos rfl, unwrap_wrap l hb (by omega) hg, Option.bind_some, if_pos rfl, if_pos rfl]
    have hc : frame_Count.f (l.length : Int) = some ((l.length : Int) + 3) := by
      have e : wrap64 ((l.length : Int) + 3) = (l.length : Int) + 3 := by unfold wrap64; omega
      unfold frame_Count.f
      rw [if_neg (by omega), e]
    rw [hc, Option.bind_some, if_pos (by simp; omega), good_f _ (bytes_wrap hb) (by simp; omega), List.cons_append, goodL_start, Option.bind_some, if_neg (by simp)]
    exact hj
end Go.Proofs.YtiffmklefiehkaaDoor.Pure
