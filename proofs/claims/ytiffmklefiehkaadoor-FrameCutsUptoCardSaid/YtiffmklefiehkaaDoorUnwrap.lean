/- What frame.Unwrap comes to. -/
import Derived.Test.YtiffmklefiehkaaDoorWrap
namespace Go.Proofs.YtiffmklefiehkaaDoor
open Go.RowKit Go.Proofs.YtiffmklefiehkaaDoorW.PrintWords

theorem ret_tuple2 {a b c d : Value} (h1 : a = c) (h2 : b = d) : Ending.returned (.tuple #[a, b]) = .returned (.tuple #[c, d]) := by rw [h1, h2]

/-- A piece of a slice of bytes. -/
theorem C_piece {w : World} {b o : Nat} {xs ys zs : List Int} (h : Kd.C (Kd.int .u8) w (some ⟨b, o, none⟩) (xs ++ ys ++ zs).length (xs ++ ys ++ zs)) : Kd.C (Kd.int .u8) w (some ⟨b, o + xs.length, none⟩) ys.length ys := by
  refine ⟨rfl, by have := h.2.1; simp at this; omega, fun hn => ⟨_, rfl, fun j p hj => ⟨[.int .u8 p], rfl, rfl, fun i u hu => ?_⟩⟩⟩
  have hjl := (List.getElem?_eq_some_iff.1 hj).1
  rcases i with _ | i
  · obtain ⟨ad, e, hc⟩ := h.2.2 (by simp; omega)
    cases e
    obtain ⟨c, hc1, hc2, hc3⟩ := hc (xs.length + j) p (by rw [List.append_assoc, List.getElem?_append_right (by omega), List.getElem?_append_left (by omega), ← hj]; congr 1; omega)
    have hc4 := hc3 0 u (by rw [show c = [Value.int .u8 p] from hc2]; simpa using hu)
    rw [← hc4]
    simp only [Kd.int, Kd.scalar, Nat.mul_one, Nat.add_zero]
    rw [Go.WideShapes.add_plain, Go.WideShapes.add_plain, Nat.add_assoc]
  · simp at hu

theorem cutSuffix_no (b o c : Nat) (l : List Int) (w : World) (hr : Kd.C (Kd.int .u8) w (some ⟨b, o, none⟩) l.length l) (hc : l.length ≤ c) (g c2 : Nat) (h2 : Kd.C (Kd.int .u8) w (some ⟨g, 0, none⟩) 2 [28, 13])
    (hs : Lib.hasSuffix (Lib.bytesOf l) (Lib.bytesOf [28, 13]) = false) :
    Calls Tryd.prog 32 #[.slice (some ⟨b, o, none⟩) l.length c, .slice (some ⟨g, 0, none⟩) 2 c2] w fun e w' => e = .returned (.tuple #[.slice (some ⟨b, o, none⟩) l.length c, .bool false]) ∧ w' = w := by
  refine (Tryd.bytes_CutSuffix_all (some ⟨b, o, none⟩) (some ⟨g, 0, none⟩) _ c 2 c2 l [28, 13] w rfl rfl hc hr.2.1 (in_of_C hr) (in_of_C h2)).mono fun _ _ ⟨he, hw⟩ => ⟨he.trans (ret_tuple2 ?_ (by rw [hs])), hw⟩
  simp [Lib.trimSuffixV, Lib.bytesTrimSuffix, hs]
theorem cutSuffix_yes (b o c : Nat) (l : List Int) (w : World) (hr : Kd.C (Kd.int .u8) w (some ⟨b, o, none⟩) (l ++ [28, 13]).length (l ++ [28, 13])) (hc : (l ++ [28, 13]).length ≤ c) (g c2 : Nat) (h2 : Kd.C (Kd.int .u8) w (some ⟨g, 0, none⟩) 2 [28, 13]) :
    Calls Tryd.prog 32 #[.slice (some ⟨b, o, none⟩) (l ++ [28, 13]).length c, .slice (some ⟨g, 0, none⟩) 2 c2] w fun e w' => e = .returned (.tuple #[.slice (some ⟨b, o, none⟩) l.length c, .bool true]) ∧ w' = w := by
  have hs : Lib.hasSuffix (Lib.bytesOf (l ++ [28, 13])) (Lib.bytesOf [28, 13]) = true := by
    unfold Lib.hasSuffix Lib.bytesOf
    rw [List.map_append, List.isSuffixOf_iff_suffix]
    exact List.suffix_append _ _
  refine (Tryd.bytes_CutSuffix_all (some ⟨b, o, none⟩) (some ⟨g, 0, none⟩) _ c 2 c2 (l ++ [28, 13]) [28, 13] w rfl rfl hc hr.2.1 (in_of_C hr) (in_of_C h2)).mono fun _ _ ⟨he, hw⟩ => ⟨he.trans (ret_tuple2 ?_ (by rw [hs])), hw⟩
  simp [Lib.trimSuffixV, Lib.bytesTrimSuffix, hs, Lib.sliceTo]

theorem clone_any (b o n c : Nat) (xs : List Int) (w : World) (hr : Kd.C (Kd.int .u8) w (some ⟨b, o, none⟩) n xs) (hl : n ≤ 140737488355328) :
    Calls Tryd.prog 33 #[.slice (some ⟨b, o, none⟩) n c] w fun e w' => ∃ v, e = .returned v ∧ Own w' w.heap.size v xs ∧ Below w.heap.size w w' :=
  (Tryd.bytes_Clone_at ⟨b, o, none⟩ n c xs w hr.1 hl (cells_of_C hr).2).mono fun _ _ ⟨v, h1, h2, _, h3⟩ => ⟨v, h1, own_of_row h2, h3⟩

set_option maxHeartbeats 400000 in
set_option maxRecDepth 100000 in
theorem frame_Unwrap.short (A0 : Option Addr) (c0 : Nat) (l0 : List Int) (w : World) (h : l0.length < 3) :
    Calls Tryd.prog 17 #[.slice A0 l0.length c0] w fun e w' => e = .returned (.tuple #[.slice none 0 0, .int .i64 7]) ∧ Below w.heap.size w w' := by
  go_enter Tryd.func17, Tryd.ntmps17
  go_wp2
  go_ret2
  exact ⟨rfl, Below.refl _ _⟩

set_option maxHeartbeats 400000 in
set_option maxRecDepth 100000 in
theorem frame_Unwrap.no (b o c0 : Nat) (l0 : List Int) (w : World) (hG : Glob w) (hr0 : Kd.C (Kd.int .u8) w (some ⟨b, o, none⟩) l0.length l0) (hc0 : l0.length ≤ c0) (h3 : ¬ l0.length < 3)
    (hs : Lib.hasSuffix (Lib.bytesOf l0) (Lib.bytesOf [28, 13]) = false) :
    Calls Tryd.prog 17 #[.slice (some ⟨b, o, none⟩) l0.length c0] w fun e w' => e = .returned (.tuple #[.slice none 0 0, .int .i64 10]) ∧ Below w.heap.size w w' := by
  have HR := Aside0.mk hr0; have HC := Aside0.mk hc0; have HS := Aside0.mk hs
  have e0 := hG.e0
  have e1 := hG.e1
  have h3' : decide ((l0.length : Int) < 3) = false := by simp; omega
  clear hr0 hG hc0 hs h3
  go_enter Tryd.func17, Tryd.ntmps17
  go_wp2_with (go_at_call 32; refine (cutSuffix_no _ _ _ _ _ ?ha HC.out _ _ ?hb HS.out).mono ?_; (case ha => exact Kd.C_alloc HR.out _); (case hb => exact C_lit2 _ _ _ _); rintro e w' ⟨rfl, hw⟩; have hw' := hw.symm; subst hw'; clear hw)
  go_ret2
  exact ⟨rfl, below_alloc (Below.refl _ _) _⟩

set_option maxHeartbeats 400000 in
set_option maxRecDepth 100000 in
theorem frame_Unwrap.start (b o c0 : Nat) (x : Int) (l : List Int) (w : World) (hG : Glob w) (hr0 : Kd.C (Kd.int .u8) w (some ⟨b, o, none⟩) (x :: l ++ [28, 13]).length (x :: l ++ [28, 13])) (hc0 : (x :: l ++ [28, 13]).length ≤ c0) (hx : (x != 11) = true) :
    Calls Tryd.prog 17 #[.slice (some ⟨b, o, none⟩) (x :: l ++ [28, 13]).length c0] w fun e w' => e = .returned (.tuple #[.slice none 0 0, .int .i64 10]) ∧ Below w.heap.size w w' := by
  have hl := hr0.2.1
  have hc := (cells_of_C hr0).2 0 (by simp)
  rw [show (⟨b, o, none⟩ : Addr).add 0 = ⟨b, o, none⟩ from Go.WideShapes.add_plain b o 0] at hc
  simp only [List.cons_append, List.getD_cons_zero] at hc
  have hca : ∀ o', (w.alloc o').cell? ⟨b, o, none⟩ = some (.int .u8 x) := fun o' => pw_cell_below (below_alloc (Below.refl _ _) o') hc
  have HM := Aside0.mk (C_piece (xs := [x]) (ys := l) (zs := [28, 13]) hr0)
  have HR := Aside0.mk hr0; have HC := Aside0.mk hc0; have HG := Aside0.mk hG; have HL := Aside0.mk hl
  have e0 := hG.e0
  have e1 := hG.e1
  have h3' : decide (((x :: l ++ [28, 13]).length : Int) < 3) = false := by simp; omega
  have hcc : l.length + 1 ≤ c0 := by simp at hc0; omega
  have hcd : ¬ c0 = 1 := by simp at hc0; omega
  clear hr0 hG hc0 hc hl
  generalize hn : (x :: l ++ [28, 13]).length = n at *
  have hN := Aside0.mk hn
  clear hn
  go_enter Tryd.func17, Tryd.ntmps17
  go_wp2_with (go_at_call 32; rw [← hN.out]; refine (cutSuffix_yes _ _ _ (x :: l) _ ?ha ?hd _ _ ?hb).mono ?_; (case ha => rw [hN.out]; exact Kd.C_alloc HR.out _); (case hd => rw [hN.out]; exact HC.out); (case hb => exact C_lit2 _ _ _ _); rintro e w' ⟨rfl, hw⟩; have hw' := hw.symm; subst hw'; clear hw)
  go_ret2
  exact ⟨rfl, below_alloc (Below.refl _ _) _⟩

set_option maxHeartbeats 400000 in
set_option maxRecDepth 100000 in
theorem frame_Unwrap.bad (b o c0 : Nat) (x : Int) (l : List Int) (w : World) (hG : Glob w) (hr0 : Kd.C (Kd.int .u8) w (some ⟨b, o, none⟩) (x :: l ++ [28, 13]).length (x :: l ++ [28, 13])) (hc0 : (x :: l ++ [28, 13]).length ≤ c0) (hx : (x != 11) = false) (hf : frame_Good.f l = some false) :
    Calls Tryd.prog 17 #[.slice (some ⟨b, o, none⟩) (x :: l ++ [28, 13]).length c0] w fun e w' => e = .returned (.tuple #[.slice none 0 0, .int .i64 10]) ∧ Below w.heap.size w w' := by
  have hl := hr0.2.1
  have hc := (cells_of_C hr0).2 0 (by simp)
  rw [show (⟨b, o, none⟩ : Addr).add 0 = ⟨b, o, none⟩ from Go.WideShapes.add_plain b o 0] at hc
  simp only [List.cons_append, List.getD_cons_zero] at hc
  have hca : ∀ o', (w.alloc o').cell? ⟨b, o, none⟩ = some (.int .u8 x) := fun o' => pw_cell_below (below_alloc (Below.refl _ _) o') hc
  have HM := Aside0.mk (C_piece (xs := [x]) (ys := l) (zs := [28, 13]) hr0)
  have HR := Aside0.mk hr0; have HC := Aside0.mk hc0; have HG := Aside0.mk hG; have HL := Aside0.mk hl
  have e0 := hG.e0
  have e1 := hG.e1
  have h3' : decide (((x :: l ++ [28, 13]).length : Int) < 3) = false := by simp; omega
  have hcc : l.length + 1 ≤ c0 := by simp at hc0; omega
  have hcd : ¬ c0 = 1 := by simp at hc0; omega
  clear hr0 hG hc0 hc hl
  generalize hn : (x :: l ++ [28, 13]).length = n at *
  have hN := Aside0.mk hn
  clear hn
  have HF := Aside0.mk hf
  clear hf
  go_enter Tryd.func17, Tryd.ntmps17
  go_wp2_with (first | (go_at_call 32; rw [← hN.out]; refine (cutSuffix_yes _ _ _ (x :: l) _ ?ha ?hd _ _ ?hb).mono ?_; (case ha => rw [hN.out]; exact Kd.C_alloc HR.out _); (case hd => rw [hN.out]; exact HC.out); (case hb => exact C_lit2 _ _ _ _); rintro e w' ⟨rfl, hw⟩; have hw' := hw.symm; subst hw'; clear hw) | (go_at_call 15; refine (frame_Good.calls _ _ l _ _ (HG.out.alloc _) ?ga ?gb HF.out).mono ?_; (case ga => exact Kd.C_alloc HM.out _); (case gb => omega); rintro e w1 ⟨rfl, hb⟩; have HB := Aside0.mk (below_then (below_alloc (Below.refl _ _) _) (by simp) hb); clear hb))
  go_ret2
  exact ⟨rfl, HB.out⟩

set_option maxHeartbeats 400000 in
set_option maxRecDepth 100000 in
theorem frame_Unwrap.yes (b o c0 : Nat) (x : Int) (l : List Int) (w : World) (hG : Glob w) (hr0 : Kd.C (Kd.int .u8) w (some ⟨b, o, none⟩) (x :: l ++ [28, 13]).length (x :: l ++ [28, 13])) (hc0 : (x :: l ++ [28, 13]).length ≤ c0) (hx : (x != 11) = false) (hf : frame_Good.f l = some true) :
    Calls Tryd.prog 17 #[.slice (some ⟨b, o, none⟩) (x :: l ++ [28, 13]).length c0] w fun e w' => ∃ v, e = .returned (.tuple #[v, .int .i64 0]) ∧ Own w' w.heap.size v l ∧ Below w.heap.size w w' := by
  have hl := hr0.2.1
  have hc := (cells_of_C hr0).2 0 (by simp)
  rw [show (⟨b, o, none⟩ : Addr).add 0 = ⟨b, o, none⟩ from Go.WideShapes.add_plain b o 0] at hc
  simp only [List.cons_append, List.getD_cons_zero] at hc
  have hca : ∀ o', (w.alloc o').cell? ⟨b, o, none⟩ = some (.int .u8 x) := fun o' => pw_cell_below (below_alloc (Below.refl _ _) o') hc
  have HM := Aside0.mk (C_piece (xs := [x]) (ys := l) (zs := [28, 13]) hr0)
  have HR := Aside0.mk hr0; have HC := Aside0.mk hc0; have HG := Aside0.mk hG; have HL := Aside0.mk hl
  have e0 := hG.e0
  have e1 := hG.e1
  have h3' : decide (((x :: l ++ [28, 13]).length : Int) < 3) = false := by simp; omega
  have hcc : l.length + 1 ≤ c0 := by simp at hc0; omega
  have hcd : ¬ c0 = 1 := by simp at hc0; omega
  clear hr0 hG hc0 hc hl
  generalize hn : (x :: l ++ [28, 13]).length = n at *
  have hN := Aside0.mk hn
  clear hn
  have HF := Aside0.mk hf
  have HS := Aside0.mk (show l.length < 4294967281 by unfold frame_Good.f at hf; split at hf; (· rename_i hh; exact hh.2); (· cases hf))
  clear hf
  go_enter Tryd.func17, Tryd.ntmps17
  go_wp2_with (first | (go_at_call 32; rw [← hN.out]; refine (cutSuffix_yes _ _ _ (x :: l) _ ?ha ?hd _ _ ?hb).mono ?_; (case ha => rw [hN.out]; exact Kd.C_alloc HR.out _); (case hd => rw [hN.out]; exact HC.out); (case hb => exact C_lit2 _ _ _ _); rintro e w' ⟨rfl, hw⟩; have hw' := hw.symm; subst hw'; clear hw) | (go_at_call 15; refine (frame_Good.calls _ _ l _ _ (HG.out.alloc _) ?ga ?gb HF.out).mono ?_; (case ga => exact Kd.C_alloc HM.out _); (case gb => omega); rintro e w1 ⟨rfl, hb⟩; have HB := Aside0.mk (below_then (below_alloc (Below.refl _ _) _) (by simp) hb); clear hb) | (go_at_call 33; refine (clone_any _ _ _ _ l _ ?ka ?kb).mono ?_; (case ka => exact Kd.C_below HM.out HB.out); (case kb => have := HS.out; omega); rintro e w2 ⟨v, rfl, ho, hb⟩; have HO := Aside0.mk (Kd.R_lower ho HB.out.size); have HB2 := Aside0.mk (below_then HB.out HB.out.size hb); clear ho hb))
  go_ret2
  exact ⟨_, rfl, HO.out, HB2.out⟩

theorem bytesOf_inj {xs ys : List Int} (hx : Bytes xs) (hy : Bytes ys) (h : Lib.bytesOf xs = Lib.bytesOf ys) : xs = ys := by
  induction xs generalizing ys with
  | nil =>
    cases ys with
    | nil => rfl
    | cons y ys => simp [Lib.bytesOf] at h
  | cons x xs ih =>
    cases ys with
    | nil => simp [Lib.bytesOf] at h
    | cons y ys =>
      simp only [Lib.bytesOf, List.map_cons, List.cons.injEq] at h
      have h1 := hx x List.mem_cons_self
      have h2 := hy y List.mem_cons_self
      have h3 := congrArg UInt8.toNat h.1
      simp at h3
      rw [ih (fun z hz => hx z (List.mem_cons_of_mem _ hz)) (fun z hz => hy z (List.mem_cons_of_mem _ hz)) h.2]
      congr 1
      omega

theorem hasSuffix_iff {xs ys : List Int} (hx : Bytes xs) (hy : Bytes ys) : Lib.hasSuffix (Lib.bytesOf xs) (Lib.bytesOf ys) = true ↔ ys <:+ xs := by
  unfold Lib.hasSuffix
  rw [List.isSuffixOf_iff_suffix]
  constructor
  · rintro ⟨t, ht⟩
    have e : Lib.bytesOf (xs.drop t.length) = Lib.bytesOf ys := by
      unfold Lib.bytesOf at ht ⊢
      rw [List.map_drop, ← ht, List.drop_left]
    have := bytesOf_inj (hx.drop _) hy e
    exact ⟨xs.take t.length, by rw [← this, List.take_append_drop]⟩
  · rintro ⟨t, rfl⟩
    unfold Lib.bytesOf
    rw [List.map_append]
    exact List.suffix_append _ _

/-- What is between a frame's first sign and its two last ones. -/
def mid (l0 : List Int) : List Int := (l0.drop 1).dropLast.dropLast
theorem mid_of (x : Int) (l : List Int) (y z : Int) : mid (x :: l ++ [y, z]) = l := by
  have e : x :: l ++ [y, z] = x :: ((l ++ [y]) ++ [z]) := by simp
  rw [e, mid, List.drop_one, List.tail_cons, List.dropLast_concat, List.dropLast_concat]
def framed (l0 : List Int) : Bool := decide (l0.getD 0 0 = 11) && [28, 13].isSuffixOf l0

def frame_Unwrap.f (l0 : List Int) : Option (List Int × Int) :=
  if Bytes l0 then
    if l0.length < 3 then some ([], 7)
    else if framed l0 then (frame_Good.f (mid l0)).map fun g => if g then (mid l0, 0) else ([], 10)
    else some ([], 10)
  else none

theorem frame_Unwrap.calls (A0 : Option Addr) (c0 : Nat) (l0 : List Int) (r1 : List Int) (r2 : Int) (w : World) (hG : Glob w) (hr0 : Kd.C (Kd.int .u8) w A0 l0.length l0) (hc0 : l0.length ≤ c0) (h : frame_Unwrap.f l0 = some (r1, r2)) :
    Calls Tryd.prog 17 #[.slice A0 l0.length c0] w fun e w' => ∃ v0_ : Value, e = .returned (.tuple #[v0_, .int .i64 r2]) ∧ Kd.R (Kd.int .u8) 5 w' w.heap.size (fun _ => True) v0_ r1 ∧ Below w.heap.size w w' := by
  unfold frame_Unwrap.f at h
  by_cases hb : Bytes l0
  case neg => rw [if_neg hb] at h; cases h
  rw [if_pos hb] at h
  by_cases h3 : l0.length < 3
  · rw [if_pos h3] at h
    cases h
    exact (frame_Unwrap.short A0 c0 l0 w h3).mono fun e w' ⟨h1, h2⟩ => ⟨_, h1, Kd.R_nil _ _ _ _ _, h2⟩
  rw [if_neg h3] at h
  obtain ⟨b, o, rfl, _⟩ := (in_of_C hr0).at (by omega)
  have hy : Bytes [28, 13] := by decide
  by_cases hs : [28, 13] <:+ l0
  case neg =>
    have hf : framed l0 = false := by
      unfold framed
      rw [Bool.and_eq_false_iff]
      exact .inr (Bool.eq_false_iff.2 fun hh => hs (List.isSuffixOf_iff_suffix.1 hh))
    rw [hf] at h
    cases h
    exact (frame_Unwrap.no b o c0 l0 w hG hr0 hc0 h3 (Bool.eq_false_iff.2 fun hh => hs ((hasSuffix_iff hb hy).1 hh))).mono fun e w' ⟨h1, h2⟩ => ⟨_, h1, Kd.R_nil _ _ _ _ _, h2⟩
  obtain ⟨m, rfl⟩ := hs
  obtain _ | ⟨x, l⟩ := m
  · simp at h3
  rw [mid_of] at h
  by_cases hx : x = 11
  · have hf : framed (x :: l ++ [28, 13]) = true := by
      unfold framed
      rw [Bool.and_eq_true]
      exact ⟨by simp [hx], List.isSuffixOf_iff_suffix.2 (List.suffix_append _ _)⟩
    rw [if_pos hf] at h
    obtain ⟨g, hg, e⟩ := Option.map_eq_some_iff.1 h
    cases g with
    | true =>
      simp only [if_true, Prod.mk.injEq] at e
      rw [← e.1, ← e.2]
      exact frame_Unwrap.yes b o c0 x l w hG hr0 hc0 (by simp [hx]) hg
    | false =>
      cases e
      exact (frame_Unwrap.bad b o c0 x l w hG hr0 hc0 (by simp [hx]) hg).mono fun e w' ⟨h1, h2⟩ => ⟨_, h1, Kd.R_nil _ _ _ _ _, h2⟩
  · have hf : framed (x :: l ++ [28, 13]) = false := by
      unfold framed
      simp [hx]
    rw [hf] at h
    cases h
    exact (frame_Unwrap.start b o c0 x l w hG hr0 hc0 (by simp [hx])).mono fun e w' ⟨h1, h2⟩ => ⟨_, h1, Kd.R_nil _ _ _ _ _, h2⟩
end Go.Proofs.YtiffmklefiehkaaDoor
