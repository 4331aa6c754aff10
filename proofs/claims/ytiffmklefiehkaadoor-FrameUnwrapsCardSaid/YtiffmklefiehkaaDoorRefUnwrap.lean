/- What the reference's Unwrap and the law FrameUnwraps come to. -/
import Derived.Test.YtiffmklefiehkaaDoorPlain
import Derived.Test.YtiffmklefiehkaaDoorQFrameUnwrapsx1
namespace Go.Proofs.YtiffmklefiehkaaDoor
set_option linter.unusedVariables false
open Go.RowKit Go.Proofs.YtiffmklefiehkaaDoorW.PrintWords

theorem cell_mid {w : World} {b o n : Nat} {xs ys : List Int} {z : Int} (h : Kd.C (Kd.int .u8) w (some ⟨b, o, none⟩) n (xs ++ z :: ys)) : w.cell? ⟨b, o + xs.length, none⟩ = some (.int .u8 z) := by
  have hl := h.1
  have := (cells_of_C h).2 xs.length (by simp at hl; omega)
  rw [Go.WideShapes.add_plain] at this
  simpa using this

set_option maxHeartbeats 400000 in
set_option maxRecDepth 100000 in
theorem ref_unwrap_x (b o c0 : Nat) (x y z : Int) (m : List Int) (w : World) (hr0 : Kd.C (Kd.int .u8) w (some ⟨b, o, none⟩) (m.length + 3) (x :: (m ++ [y, z]))) (hc0 : m.length + 3 ≤ c0) (h1 : (x != 11) = true) :
    Calls Tryd.prog 18 #[.slice (some ⟨b, o, none⟩) (m.length + 3) c0] w fun e w' => e = .returned (.tuple #[.slice none 0 0, .int .i64 10]) ∧ Below w.heap.size w w' := by
  have cx := cell_mid (xs := []) (ys := m ++ [y, z]) hr0
  have cy := cell_mid (xs := x :: m) (ys := [z]) (z := y) hr0
  have cz := cell_mid (xs := x :: (m ++ [y])) (ys := []) (z := z) (by simpa using hr0)
  have hm := hr0.2.1
  have HM := Aside0.mk (C_piece (xs := [x]) (ys := m) (zs := [y, z]) (by simpa using hr0))
  clear hr0
  simp only [List.length_cons, List.length_nil, List.length_append, Nat.add_zero, Nat.zero_add] at cx cy cz
  go_enter Tryd.func18, Tryd.ntmps18
  go_wp2
  go_ret2
  exact ⟨rfl, Below.refl _ _⟩

set_option maxHeartbeats 400000 in
set_option maxRecDepth 100000 in
theorem ref_unwrap_y (b o c0 : Nat) (x y z : Int) (m : List Int) (w : World) (hr0 : Kd.C (Kd.int .u8) w (some ⟨b, o, none⟩) (m.length + 3) (x :: (m ++ [y, z]))) (hc0 : m.length + 3 ≤ c0) (h1 : (x != 11) = false) (h2 : (y != 28) = true) :
    Calls Tryd.prog 18 #[.slice (some ⟨b, o, none⟩) (m.length + 3) c0] w fun e w' => e = .returned (.tuple #[.slice none 0 0, .int .i64 10]) ∧ Below w.heap.size w w' := by
  have cx := cell_mid (xs := []) (ys := m ++ [y, z]) hr0
  have cy := cell_mid (xs := x :: m) (ys := [z]) (z := y) hr0
  have cz := cell_mid (xs := x :: (m ++ [y])) (ys := []) (z := z) (by simpa using hr0)
  have hm := hr0.2.1
  have HM := Aside0.mk (C_piece (xs := [x]) (ys := m) (zs := [y, z]) (by simpa using hr0))
  clear hr0
  simp only [List.length_cons, List.length_nil, List.length_append, Nat.add_zero, Nat.zero_add] at cx cy cz
  go_enter Tryd.func18, Tryd.ntmps18
  go_wp2
  go_ret2
  exact ⟨rfl, Below.refl _ _⟩

set_option maxHeartbeats 400000 in
set_option maxRecDepth 100000 in
theorem ref_unwrap_z (b o c0 : Nat) (x y z : Int) (m : List Int) (w : World) (hr0 : Kd.C (Kd.int .u8) w (some ⟨b, o, none⟩) (m.length + 3) (x :: (m ++ [y, z]))) (hc0 : m.length + 3 ≤ c0) (h1 : (x != 11) = false) (h2 : (y != 28) = false) (h3 : (z != 13) = true) :
    Calls Tryd.prog 18 #[.slice (some ⟨b, o, none⟩) (m.length + 3) c0] w fun e w' => e = .returned (.tuple #[.slice none 0 0, .int .i64 10]) ∧ Below w.heap.size w w' := by
  have cx := cell_mid (xs := []) (ys := m ++ [y, z]) hr0
  have cy := cell_mid (xs := x :: m) (ys := [z]) (z := y) hr0
  have cz := cell_mid (xs := x :: (m ++ [y])) (ys := []) (z := z) (by simpa using hr0)
  have hm := hr0.2.1
  have HM := Aside0.mk (C_piece (xs := [x]) (ys := m) (zs := [y, z]) (by simpa using hr0))
  clear hr0
  simp only [List.length_cons, List.length_nil, List.length_append, Nat.add_zero, Nat.zero_add] at cx cy cz
  go_enter Tryd.func18, Tryd.ntmps18
  go_wp2
  go_ret2
  exact ⟨rfl, Below.refl _ _⟩

set_option maxHeartbeats 400000 in
set_option maxRecDepth 100000 in
theorem ref_unwrap_no (b o c0 : Nat) (x y z : Int) (m : List Int) (w : World) (hr0 : Kd.C (Kd.int .u8) w (some ⟨b, o, none⟩) (m.length + 3) (x :: (m ++ [y, z]))) (hc0 : m.length + 3 ≤ c0) (h1 : (x != 11) = false) (h2 : (y != 28) = false) (h3 : (z != 13) = false) (k : Nat) (hf : QFrameUnwraps.lamplighterref04_Good.f k m = some false) :
    Calls Tryd.prog 18 #[.slice (some ⟨b, o, none⟩) (m.length + 3) c0] w fun e w' => e = .returned (.tuple #[.slice none 0 0, .int .i64 10]) ∧ Below w.heap.size w w' := by
  have cx := cell_mid (xs := []) (ys := m ++ [y, z]) hr0
  have cy := cell_mid (xs := x :: m) (ys := [z]) (z := y) hr0
  have cz := cell_mid (xs := x :: (m ++ [y])) (ys := []) (z := z) (by simpa using hr0)
  have hm := hr0.2.1
  have HM := Aside0.mk (C_piece (xs := [x]) (ys := m) (zs := [y, z]) (by simpa using hr0))
  clear hr0
  simp only [List.length_cons, List.length_nil, List.length_append, Nat.add_zero, Nat.zero_add] at cx cy cz
  have HF := Aside0.mk hf
  clear hf
  go_enter Tryd.func18, Tryd.ntmps18
  go_wp2_with (go_at_call 13; refine (QFrameUnwraps.lamplighterref04_Good.calls k _ _ m _ _ ?ga ?gb HF.out).mono ?_; (case ga => exact HM.out); (case gb => omega); rintro e w1 ⟨rfl, hd⟩; have HD := Aside0.mk hd.below; clear hd)
  go_ret2
  exact ⟨rfl, HD.out⟩

set_option maxHeartbeats 400000 in
set_option maxRecDepth 100000 in
theorem ref_unwrap_yes (b o c0 : Nat) (x y z : Int) (m : List Int) (w : World) (hr0 : Kd.C (Kd.int .u8) w (some ⟨b, o, none⟩) (m.length + 3) (x :: (m ++ [y, z]))) (hc0 : m.length + 3 ≤ c0) (h1 : (x != 11) = false) (h2 : (y != 28) = false) (h3 : (z != 13) = false) (k : Nat) (hf : QFrameUnwraps.lamplighterref04_Good.f k m = some true) :
    Calls Tryd.prog 18 #[.slice (some ⟨b, o, none⟩) (m.length + 3) c0] w fun e w' => e = .returned (.tuple #[.slice (some ⟨b, o + 1, none⟩) m.length (c0 - 1), .int .i64 0]) ∧ Below w.heap.size w w' := by
  have cx := cell_mid (xs := []) (ys := m ++ [y, z]) hr0
  have cy := cell_mid (xs := x :: m) (ys := [z]) (z := y) hr0
  have cz := cell_mid (xs := x :: (m ++ [y])) (ys := []) (z := z) (by simpa using hr0)
  have hm := hr0.2.1
  have HM := Aside0.mk (C_piece (xs := [x]) (ys := m) (zs := [y, z]) (by simpa using hr0))
  clear hr0
  simp only [List.length_cons, List.length_nil, List.length_append, Nat.add_zero, Nat.zero_add] at cx cy cz
  have HF := Aside0.mk hf
  clear hf
  go_enter Tryd.func18, Tryd.ntmps18
  go_wp2_with (go_at_call 13; refine (QFrameUnwraps.lamplighterref04_Good.calls k _ _ m _ _ ?ga ?gb HF.out).mono ?_; (case ga => exact HM.out); (case gb => omega); rintro e w1 ⟨rfl, hd⟩; have HD := Aside0.mk hd.below; clear hd)
  go_ret2
  exact ⟨rfl, HD.out⟩

set_option maxHeartbeats 400000 in
theorem ref_unwrap_short (A0 : Option Addr) (c0 : Nat) (l0 : List Int) (w : World) (h : l0.length < 3) :
    Calls Tryd.prog 18 #[.slice A0 l0.length c0] w fun e w' => e = .returned (.tuple #[.slice none 0 0, .int .i64 7]) ∧ Below w.heap.size w w' := by
  go_enter Tryd.func18, Tryd.ntmps18
  go_wp2
  go_ret2
  exact ⟨rfl, Below.refl _ _⟩

/-- The bytes in a frame, or why there are none. -/
def unwrapL (l : List Int) : List Int × Int := if l.length < 3 then ([], 7) else if framed l && goodL (mid l) then (mid l, 0) else ([], 10)

theorem parts3 (l : List Int) (h : ¬ l.length < 3) : ∃ x m y z, l = x :: (m ++ [y, z]) := by
  rcases l with _ | ⟨x, r⟩
  · simp at h
  · rcases List.eq_nil_or_concat r with rfl | ⟨r2, z, rfl⟩
    · simp at h
    · rcases List.eq_nil_or_concat r2 with rfl | ⟨m, y, rfl⟩
      · simp at h
      · exact ⟨x, m, y, z, by simp⟩
theorem mid_parts (x y z : Int) (m : List Int) : mid (x :: (m ++ [y, z])) = m := mid_of x m y z
theorem framed_parts (x y z : Int) (m : List Int) : framed (x :: (m ++ [y, z])) = (decide (x = 11) && decide (y = 28) && decide (z = 13)) := by
  unfold framed
  have e : x :: (m ++ [y, z]) = (x :: m) ++ [y, z] := by simp
  have hs : [28, 13].isSuffixOf (x :: (m ++ [y, z])) = (decide (y = 28) && decide (z = 13)) := by
    rw [e, Bool.eq_iff_iff, List.isSuffixOf_iff_suffix]
    constructor
    · rintro ⟨t, ht⟩
      have := List.append_inj' ht (by simp)
      simp at this
      simp [this]
    · intro h
      simp at h
      obtain ⟨rfl, rfl⟩ := h
      exact List.suffix_append _ _
  rw [hs, Bool.and_assoc]
  simp

theorem ref_unwrap (A0 : Option Addr) (c0 k : Nat) (l0 : List Int) (w : World) (hr0 : Kd.C (Kd.int .u8) w A0 l0.length l0) (hc0 : l0.length ≤ c0) (hf : QFrameUnwraps.lamplighterref04_Good.f k (mid l0) = some (goodL (mid l0))) :
    Calls Tryd.prog 18 #[.slice A0 l0.length c0] w fun e w' => ∃ A' c', e = .returned (.tuple #[.slice A' (unwrapL l0).1.length c', .int .i64 (unwrapL l0).2]) ∧ Kd.C (Kd.int .u8) w A' (unwrapL l0).1.length (unwrapL l0).1 ∧ Below w.heap.size w w' := by
  have hnil : Kd.C (Kd.int .u8) w none ([] : List Int).length [] := Kd.C_nil _ _
  unfold unwrapL
  by_cases h3 : l0.length < 3
  · rw [if_pos h3]
    exact (ref_unwrap_short A0 c0 l0 w h3).mono fun e w' ⟨h1, h2⟩ => ⟨none, 0, h1, hnil, h2⟩
  rw [if_neg h3]
  obtain ⟨b, o, rfl, _⟩ := (in_of_C hr0).at (by omega)
  obtain ⟨x, m, y, z, rfl⟩ := parts3 l0 h3
  rw [mid_parts] at hf
  rw [mid_parts, framed_parts]
  have hl : (x :: (m ++ [y, z])).length = m.length + 3 := by simp
  rw [hl] at hr0 hc0 ⊢
  have hm := C_piece (xs := [x]) (ys := m) (zs := [y, z]) (by simpa using hr0)
  by_cases h1 : x = 11
  · by_cases h2 : y = 28
    · by_cases h4 : z = 13
      · cases hg : goodL m with
        | false =>
          rw [hg] at hf
          rw [if_neg (by simp)]
          exact (ref_unwrap_no b o c0 x y z m w hr0 hc0 (by simp [h1]) (by simp [h2]) (by simp [h4]) k hf).mono fun e w' ⟨h1, h2⟩ => ⟨none, 0, h1, hnil, h2⟩
        | true =>
          rw [hg] at hf
          rw [if_pos (by simp [h1, h2, h4])]
          exact (ref_unwrap_yes b o c0 x y z m w hr0 hc0 (by simp [h1]) (by simp [h2]) (by simp [h4]) k hf).mono fun e w' ⟨h1, h2⟩ => ⟨_, _, h1, hm, h2⟩
      · rw [if_neg (by simp [h4])]
        exact (ref_unwrap_z b o c0 x y z m w hr0 hc0 (by simp [h1]) (by simp [h2]) (by simp [h4])).mono fun e w' ⟨h1, h2⟩ => ⟨none, 0, h1, hnil, h2⟩
    · rw [if_neg (by simp [h2])]
      exact (ref_unwrap_y b o c0 x y z m w hr0 hc0 (by simp [h1]) (by simp [h2])).mono fun e w' ⟨h1, h2⟩ => ⟨none, 0, h1, hnil, h2⟩
  · rw [if_neg (by simp [h1])]
    exact (ref_unwrap_x b o c0 x y z m w hr0 hc0 (by simp [h1])).mono fun e w' ⟨h1, h2⟩ => ⟨none, 0, h1, hnil, h2⟩

theorem alive_any (w : World) (hG : Glob w) : Calls Tryd.prog 11 #[] w fun e w' => e = .returned (.bool true) ∧ Below w.heap.size w w' :=
  QFrameUnwraps.lamplighterlaw04_alive.calls true w hG (by decide +kernel)

set_option maxHeartbeats 400000 in
set_option maxRecDepth 100000 in
theorem unwraps_great (A0 : Option Addr) (c0 : Nat) (l0 : List Int) (w : World) (hG : Glob w) (hl : 3000 < l0.length) :
    Calls Tryd.prog 6 #[.slice A0 l0.length c0] w fun e w' => e = .returned (.bool true) ∧ Below w.heap.size w w' := by
  have HG := Aside0.mk hG
  clear hG
  go_enter Tryd.func6, Tryd.ntmps6
  go_wp2_with (go_at_call 11; refine (alive_any _ HG.out).mono ?_; rintro e w' ⟨rfl, hb⟩)
  go_ret
  exact ⟨rfl, by assumption⟩

set_option maxHeartbeats 400000 in
set_option maxRecDepth 100000 in
theorem unwraps_small (A0 : Option Addr) (c0 k : Nat) (l0 : List Int) (w : World) (hG : Glob w) (hr0 : Kd.C (Kd.int .u8) w A0 l0.length l0) (hc0 : l0.length ≤ c0) (hl : l0.length ≤ 3000) (r1 : List Int) (r2 : Int) (hu : frame_Unwrap.f l0 = some (r1, r2)) (hu2 : unwrapL l0 = (r1, r2))
    (hf : QFrameUnwraps.lamplighterref04_Good.f k (mid l0) = some (goodL (mid l0))) :
    Calls Tryd.prog 6 #[.slice A0 l0.length c0] w fun e w' => e = .returned (.bool true) ∧ Below w.heap.size w w' := by
  have HG := Aside0.mk hG; have HR := Aside0.mk hr0; have HC := Aside0.mk hc0; have HU := Aside0.mk hu; have HF := Aside0.mk hf
  have hru := fun w hr => ref_unwrap A0 c0 k l0 w hr hc0 hf
  rw [hu2] at hru
  have HRU := Aside0.mk hru
  clear hG hr0 hc0 hu hf hu2 hru
  go_enter Tryd.func6, Tryd.ntmps6
  go_wp2_with (first
    | (go_at_call 17; refine (frame_Unwrap.calls _ _ _ _ _ _ HG.out HR.out HC.out HU.out).mono ?_; rintro e w1 ⟨v, rfl, ho, hb⟩; have HO := Aside0.mk ho; have HB := Aside0.mk hb; clear ho hb)
    | (go_at_call 18; refine (HRU.out _ (Kd.C_below HR.out HB.out)).mono ?_; rintro e w2 ⟨A', c', rfl, hc, hb⟩; have HB2 := Aside0.mk (below_then HB.out HB.out.size hb); have HO2 := Aside0.mk (Kd.R_below HO.out hb); have HC2 := Aside0.mk (Kd.C_below hc hb); clear hc hb)
    | (go_at_call 11; refine (alive_any _ (HG.out.below HB2.out)).mono ?_; rintro e w3 ⟨rfl, hb⟩; have HB3 := Aside0.mk (below_then HB2.out HB2.out.size hb); have hs1 := own_string (P := Tryd.prog) Tryd.underlying22 Tryd.underlying5 Tryd.underlying9 (Kd.own_of_R (Kd.R_below HO2.out hb)); have hs2 := Kd.C_string (P := Tryd.prog) (A := A') (c := c') Tryd.underlying22 Tryd.underlying5 Tryd.underlying9 (Kd.C_below HC2.out hb); clear hb))
  go_ret
  exact ⟨rfl, HB3.out⟩
end Go.Proofs.YtiffmklefiehkaaDoor
