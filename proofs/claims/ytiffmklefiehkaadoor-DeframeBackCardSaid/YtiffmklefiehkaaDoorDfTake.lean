/- What the deframer's step comes to. -/
import Derived.Test.YtiffmklefiehkaaDoorDf
import Derived.Test.YtiffmklefiehkaaDoorWLast
import Derived.Test.YtiffmklefiehkaaDoorWInvWords
namespace Go.Proofs.YtiffmklefiehkaaDoor
set_option linter.unusedSimpArgs false
set_option linter.unusedVariables false
open Go.RowKit Go.Proofs.YtiffmklefiehkaaDoorW.PrintWords Go.Proofs.YtiffmklefiehkaaDoorW.PrintLast

theorem clone_own {w : World} {base : Nat} {ok : Nat → Prop} {v : Value} {xs : List Int} (h : Kd.R (Kd.int .u8) 5 w base ok v xs) (hl : xs.length ≤ 140737488355328) :
    Calls Tryd.prog 33 #[v] w fun e w' => ∃ v', e = .returned v' ∧ Own w' w.heap.size v' xs ∧ Below w.heap.size w w' := by
  obtain ⟨A, c, rfl, _, hr⟩ := Kd.R_reads h
  cases A with
  | none =>
    have e : xs = [] := by
      rcases xs with _ | ⟨x, l⟩
      · rfl
      · obtain ⟨ad, e, _⟩ := hr.2.2 (by simp)
        cases e
    subst e
    exact (Tryd.bytes_Clone_nil 0 c w).mono fun e w' ⟨h1, h2⟩ => ⟨_, h1, Kd.R_nil _ _ _ _ _, h2 ▸ Below.refl _ _⟩
  | some a => exact (Tryd.bytes_Clone_at a _ c xs w rfl hl (cells_of_C hr).2).mono fun e w' ⟨v, h1, h2, _, h3⟩ => ⟨v, h1, own_of_row h2, h3⟩

set_option maxHeartbeats 1000000 in
set_option maxRecDepth 100000 in
theorem take_found {w : World} {base : Nat} {P : Nat → Prop} {g : Nat} {s : Df} {vn vf : Value} (h : IsDf w base P g s vn vf) (hbase : base ≤ w.heap.size) (n : Nat) (hF : s.Fine n) (hn : n ≤ 1099511627776) (hfin : s.fin = true) :
    Calls Tryd.prog 44 #[.pointer (some ⟨g, 0, none⟩), .int .u8 13] w fun e w' => ∃ vn' vf', e = .returned (.tuple #[]) ∧ IsDf w' base (fun k => P k ∨ w.heap.size ≤ k) g (Df.out { s with found := s.found ++ [s.now] }) vn' vf' ∧ Keep (fun k => P k ∨ w.heap.size ≤ k) w w' := by
  have HI := Aside0.mk h
  have c3 := (df_cells h.blk).2.2.2.1
  have c4 := (df_cells h.blk).2.2.2.2.1
  have c5 := (df_cells h.blk).2.2.2.2.2.1
  have hf := (df_cells h.blk).2.2.2.2.2.2.2.2.2
  rw [hfin] at c3
  have HB := Aside0.mk hbase; have HF := Aside0.mk hF; have HL := Aside0.mk (blk_lt h.blk); have HLN := Aside0.mk (show s.now.length ≤ 140737488355328 by have := hF.now; have := hF.most1; omega)
  clear h hbase hF hfin
  go_enter Tryd.func44, Tryd.ntmps44
  go_wp2
  refine start_ (n := 15) (S := fun w' => w'.cell? ⟨g, 5, none⟩ = some vf ∧ w'.cell? ⟨g, 4, none⟩ = some vn) (ds := [14]) #[false, false, false, false, false, false, false, false, false, false, false, false, false, false, false] (by kernel_rfl) rfl rfl ⟨c5, c4⟩ (fun hHeld => ?_)
  refine pure_ (i := 0) (N := some 29) (v := ?_) (a' := ?_) #[true, false, false, false, false, false, false, false, false, false, false, false, false, false, false] rfl rfl (by kernel_rfl) (fun _ _ _ h => h) (Or.inl ⟨by rfl, ?_⟩) ?_ ?_
  rotate_left
  · intro w'
    go_simp
    with_reducible rfl
  rotate_left
  · simp only [Act.put, List.setIfInBounds_toArray, List.set_cons_zero, List.set_cons_succ, i64_w, i32_w]
    rfl
  refine pure_ (i := 1) (N := some 30) (v := ?_) (a' := ?_) #[true, true, false, false, false, false, false, false, false, false, false, false, false, false, false] rfl rfl (by kernel_rfl) (fun _ _ _ h => h) (Or.inl ⟨by rfl, ?_⟩) ?_ ?_
  rotate_left
  · intro w'
    go_simp
    with_reducible rfl
  rotate_left
  · simp only [Act.put, List.setIfInBounds_toArray, List.set_cons_zero, List.set_cons_succ, i64_w, i32_w]
    rfl
  refine pure_ (i := 2) (N := some 31) (v := ?_) (a' := ?_) #[true, true, true, false, false, false, false, false, false, false, false, false, false, false, false] rfl rfl (by kernel_rfl) (fun _ _ _ h => h) (Or.inl ⟨by rfl, ?_⟩) ?_ ?_
  rotate_left
  · intro w'
    go_simp
    with_reducible rfl
  rotate_left
  · simp only [Act.put, List.setIfInBounds_toArray, List.set_cons_zero, List.set_cons_succ, i64_w, i32_w]
    rfl
  refine pure_ (i := 3) (N := some 32) (v := ?_) (a' := ?_) #[true, true, true, true, false, false, false, false, false, false, false, false, false, false, false] rfl rfl (by kernel_rfl) (fun _ _ _ h => h) (Or.inl ⟨by rfl, ?_⟩) ?_ ?_
  rotate_left
  · intro w'
    go_simp
    with_reducible rfl
  rotate_left
  · simp only [Act.put, List.setIfInBounds_toArray, List.set_cons_zero, List.set_cons_succ, i64_w, i32_w]
    rfl
  refine pure_ (i := 5) (N := some 34) (v := ?_) (a' := ?_) #[true, true, true, true, false, true, false, false, false, false, false, false, false, false, false] rfl rfl (by kernel_rfl) (fun _ _ _ h => h) (Or.inl ⟨by rfl, ?_⟩) ?_ ?_
  rotate_left
  · intro w'
    go_simp
    with_reducible rfl
  rotate_left
  · simp only [Act.put, List.setIfInBounds_toArray, List.set_cons_zero, List.set_cons_succ, i64_w, i32_w]
    rfl
  refine pure_ (i := 6) (N := some 35) (v := ?_) (a' := ?_) #[true, true, true, true, false, true, true, false, false, false, false, false, false, false, false] rfl rfl (by kernel_rfl) (fun _ _ _ h => h) (Or.inl ⟨by rfl, ?_⟩) ?_ ?_
  rotate_left
  · intro w'
    go_simp
    with_reducible rfl
  rotate_left
  · simp only [Act.put, List.setIfInBounds_toArray, List.set_cons_zero, List.set_cons_succ, i64_w, i32_w]
    rfl
  refine pure_ (i := 7) (N := some 36) (v := ?_) (a' := ?_) #[true, true, true, true, false, true, true, true, false, false, false, false, false, false, false] rfl rfl (by kernel_rfl) (fun _ _ _ h => h) (Or.inl ⟨by rfl, ?_⟩) ?_ ?_
  rotate_left
  · intro w'
    go_simp
    with_reducible rfl
  rotate_left
  · simp only [Act.put, List.setIfInBounds_toArray, List.set_cons_zero, List.set_cons_succ, i64_w, i32_w]
    rfl
  refine take_ (i := 4) (N := some 33) (v := ?_) (a' := ?_) #[true, true, true, true, true, true, true, true, false, false, false, false, false, false, false] rfl rfl (by kernel_rfl) (fun _ _ _ h => h) (Or.inl ⟨by rfl, ?_⟩) hHeld ?_ ?_
  rotate_left
  · rintro w' ⟨s0, s1⟩
    go_simp
    with_reducible rfl
  rotate_left
  · simp only [Act.put, List.setIfInBounds_toArray, List.set_cons_zero, List.set_cons_succ, i64_w, i32_w]
    rfl
  refine take_ (i := 8) (N := some 37) (v := ?_) (a' := ?_) #[true, true, true, true, true, true, true, true, true, false, false, false, false, false, false] rfl rfl (by kernel_rfl) (fun _ _ _ h => h) (Or.inl ⟨by rfl, ?_⟩) hHeld ?_ ?_
  rotate_left
  · rintro w' ⟨s0, s1⟩
    go_simp
    with_reducible rfl
  rotate_left
  · simp only [Act.put, List.setIfInBounds_toArray, List.set_cons_zero, List.set_cons_succ, i64_w, i32_w]
    rfl
  refine one_ (i := 9) (N := some 38) #[true, true, true, true, true, true, true, true, true, true, false, false, false, false, false] rfl rfl (by kernel_rfl) (by decide) (fun K hK => ?_)
  refine goes_ Tryd.func33 (by kernel_rfl) rfl #[vn] (by rfl) rfl rfl (by simp only [List.map_toArray, List.map_cons, List.map_nil]; rfl) ?_
  with_reducible refine (clone_own (Kd.R_drew HI.out.now) HLN.out).mono ?_
  rintro e w3 ⟨vc, rfl, ho, hb⟩
  refine ⟨_, rfl, ?_⟩
  have HVC := Aside0.mk ho
  have HI3 := Aside0.mk ((HI.out.below (below_drew (Below.refl _ _))).below hb)
  have HB3 := Aside0.mk (show Below w.heap.size w w3 from (show Below w.heap.size w w.drew from below_drew (Below.refl _ _)).trans hb)
  obtain ⟨Ac, cc, ec⟩ := Kd.R_slice ho
  subst ec
  clear ho
  refine hK.out _ _ ⟨pw_cell_below hb hHeld.1, pw_cell_below hb hHeld.2⟩ (fun hHeld => ?_)
  clear hK K
  refine norm_ (a' := ?_) ?_ ?_
  rotate_left
  · show Act.put _ (some 38) _ = _
    simp only [Act.put, List.setIfInBounds_toArray, List.set_cons_zero, List.set_cons_succ, i64_w, i32_w]
    rfl
  refine one_ (i := 10) (N := some 39) #[true, true, true, true, true, true, true, true, true, true, true, false, false, false, false] rfl rfl (by kernel_rfl) (by decide) (fun K hK => ?_)
  refine value_ (w1 := ?_) (v := ?_) (by rfl) rfl ?_ ?_
  rotate_left 2
  · go_simp
    constructor
    · rfl
    · rfl
  refine hK.out _ _ ⟨pw_cell_below (below_alloc (Below.refl _ _) _) hHeld.1, pw_cell_below (below_alloc (Below.refl _ _) _) hHeld.2⟩ (fun hHeld => ?_)
  clear hK K
  refine norm_ (a' := ?_) ?_ ?_
  rotate_left
  · show Act.put _ (some 39) _ = _
    simp only [Act.put, List.setIfInBounds_toArray, List.set_cons_zero, List.set_cons_succ, i64_w, i32_w]
    rfl
  refine one_ (i := 11) (N := some 40) #[true, true, true, true, true, true, true, true, true, true, true, true, false, false, false] rfl rfl (by kernel_rfl) (by decide) (fun K hK => ?_)
  refine Kd.R_append_step (Kd.slice 5 (Kd.int .u8)) (w0 := w3) base (by rfl) (.tmp 33) (.tmp 39) 36 22 (.slice none 0 0) 24 rfl Tryd.underlying36 info22 rfl (by decide) (by omega) vf s.found s.now [.slice Ac s.now.length cc] (fun k => ((P k ∨ w.heap.size ≤ k) ∧ k ≠ g) ∧ some k ≠ vn.ownBlock) (fun k => w.heap.size ≤ k) rfl rfl ?hp ?hokp ?hfresh ?HO ?HB ?hbase ?hl ?_
  case hp => exact ⟨_, rfl, Kd.R_lower (Kd.R_mono (Kd.R_bound HVC.out) (fun k hk => hk.2.1)) HB.out⟩
  case hokp => exact fun k hk => ⟨⟨⟨.inr hk, fun e => by have := HL.out; omega⟩, fun e => by have := Kd.R_lt HI.out.now k e.symm; omega⟩, fun e => by have := Kd.R_lt HI.out.found k e.symm; omega⟩
  case hfresh => exact fun k hk => ⟨⟨.inr (Nat.le_trans HB3.out.size hk), fun e => by have := HL.out; have := HB3.out.size; omega⟩, fun e => by have := Kd.R_lt HI.out.now k e.symm; have := HB3.out.size; omega⟩
  case HO => exact Kd.R_mono HI3.out.found (fun k hk => ⟨⟨.inl hk.1.1, hk.1.2⟩, hk.2⟩)
  case HB => exact Below.refl _ _
  case hbase => exact Nat.le_trans HB.out HB3.out.size
  case hl => have := HF.out.found; omega
  intro v1 w1 h1 _ hg hat
  obtain ⟨nf, hnf⟩ : ∃ x, x = s.found ++ [s.now] := ⟨_, rfl⟩
  rw [← hnf] at h1
  have HNF := Aside0.mk hnf
  clear hnf
  have HAT := Aside0.mk hat
  obtain ⟨A1, c1, e1⟩ := Kd.R_slice h1
  subst e1
  have hb1 : w1.heap[g]? = some (.cells (dfCells g s vn vf) 54 (0, 0)) := (hg.block g (by have := blk_lt HI3.out.blk; exact this) (fun e => (HI3.out.found.1 g e.symm).1.2 rfl)).trans HI3.out.blk
  have HV1 := Aside0.mk h1
  have HG1 := Aside0.mk hg
  have HBL := Aside0.mk hb1
  have hf1 := (df_cells hb1).2.2.2.2.2.2.2.2.2
  have c51 := (df_cells hb1).2.2.2.2.2.1
  clear hat
  refine hK.out _ _ ⟨(df_cells HBL.out).2.2.2.2.2.1, (df_cells HBL.out).2.2.2.2.1⟩ (fun hHeld => ?_)
  clear hK K
  refine norm_ (a' := ?_) ?_ ?_
  rotate_left
  · show Act.put _ (some 40) _ = _
    simp only [Act.put, List.setIfInBounds_toArray, List.set_cons_zero, List.set_cons_succ, i64_w, i32_w]
    rfl
  refine pure_ (i := 12) (N := some 41) (v := ?_) (a' := ?_) #[true, true, true, true, true, true, true, true, true, true, true, true, true, false, false] rfl rfl (by kernel_rfl) (fun _ _ _ h => h) (Or.inl ⟨by rfl, ?_⟩) ?_ ?_
  rotate_left
  · intro w'
    go_simp
    with_reducible rfl
  rotate_left
  · simp only [Act.put, List.setIfInBounds_toArray, List.set_cons_zero, List.set_cons_succ, i64_w, i32_w]
    rfl
  refine pure_ (i := 13) (N := some 42) (v := ?_) (a' := ?_) #[true, true, true, true, true, true, true, true, true, true, true, true, true, true, false] rfl rfl (by kernel_rfl) (fun _ _ _ h => h) (Or.inl ⟨by rfl, ?_⟩) ?_ ?_
  rotate_left
  · intro w'
    go_simp
    with_reducible rfl
  rotate_left
  · simp only [Act.put, List.setIfInBounds_toArray, List.set_cons_zero, List.set_cons_succ, i64_w, i32_w]
    rfl
  refine last_ (i := 14) (N := none) #[true, true, true, true, true, true, true, true, true, true, true, true, true, true, true] rfl rfl (by kernel_rfl) (by decide) (fun K hK => ?_)
  refine skip_ (w1 := ?_) (by rfl) rfl ?_ ?_
  rotate_left
  · go_simp
    rfl
  refine hK.out _ _ ?_
  clear hK K
  refine done_ (by kernel_rfl) ?_
  clear c4 c5 c51 c3
  generalize hw5 : w1.setCell ⟨g, 5, none⟩ (.slice A1 nf.length c1) = w5
  have hk5 : Keep (· = g) w1 w5 := hw5 ▸ (Keep.refl (· = g) w1).setG 5 _
  have hN3 : Kd.R (Kd.int .u8) 5 w3 base (fun k => (P k ∧ k ≠ g) ∧ some k ≠ vf.ownBlock) vn s.now := Kd.R_flat (fun h => h) HI3.out.now (fun k hk ho => ⟨ho, fun e => (HI3.out.found.1 k e.symm).2 hk.symm⟩)
  have hN1 := Kd.R_grown hN3 HG1.out (fun k hk => hk.2)
  have hI5 : IsDf w5 base (fun k => P k ∨ w.heap.size ≤ k) g { s with found := s.found ++ [s.now] } vn (.slice A1 nf.length c1) := by
    refine ⟨HI.out.ge, .inl HI.out.mine, hw5 ▸ blk_set hb1 5 _, Kd.R_mono (hk5.R hN1 (fun k hk he => hk.1.2 he)) (fun k hk => ⟨.inl hk.1.1, hk.1.2⟩), ?_⟩
    rw [← HNF.out]
    exact hk5.R h1 (fun k hk he => hk.1.2 he)
  have hK5 : Keep (fun k => P k ∨ w.heap.size ≤ k) w w5 :=
    (((Keep.refl _ w).of_below HB3.out).of_grown HG1.out (fun k hk => .inl (.inl (HI3.out.found.1 k hk).1.1))).trans hk5 (fun j e => by subst e; exact .inl (.inl HI.out.mine))
  have HI5 := Aside0.mk hI5
  have HK5 := Aside0.mk hK5
  clear hI5 hK5 hN1 hN3 hk5 hw5 h1 hb1 HV1 HG1 HBL HAT hHeld hf1 hf hb hg
  go_wp2_with (go_at_call 34; refine (df_outside HI5.out).mono ?_; rintro e w6 ⟨rfl, hI6, hK6⟩; have HI6 := Aside0.mk hI6; have HK6 := Aside0.mk hK6; clear hI6 hK6)
  go_end0
  exact ⟨_, _, rfl, HI6.out, HK5.out.trans HK6.out (fun j e => by subst e; exact .inl (.inl HI.out.mine))⟩

set_option maxHeartbeats 400000 in
set_option maxRecDepth 100000 in
theorem take_start {w : World} {base : Nat} {P : Nat → Prop} {g : Nat} {s : Df} {vn vf : Value} (h : IsDf w base P g s vn vf) (hbase : base ≤ w.heap.size) (n : Nat) (hF : s.Fine n) (hn : n ≤ 1099511627776) :
    Calls Tryd.prog 44 #[.pointer (some ⟨g, 0, none⟩), .int .u8 11] w fun e w' => ∃ vn' vf', e = .returned (.tuple #[]) ∧ IsDf w' base (fun k => P k ∨ w.heap.size ≤ k) g (Df.begin { s with broken := s.broken + 1 }) vn' vf' ∧ Keep (fun k => P k ∨ w.heap.size ≤ k) w w' := by
  have HI := Aside0.mk h
  have hb0 := hF.broken0
  have hb1 := hF.broken1
  have hj0 := hF.junk0
  have hj1 := hF.junk1
  have c3 := (df_cells h.blk).2.2.2.1
  have c6 := (df_cells h.blk).2.2.2.2.2.2.1
  have c8 := (df_cells h.blk).2.2.2.2.2.2.2.2.1
  have hf := (df_cells h.blk).2.2.2.2.2.2.2.2.2
  have HB := Aside0.mk hbase; have HF := Aside0.mk hF
  clear h hbase hF
  go_enter Tryd.func44, Tryd.ntmps44
  go_wp2_with (go_at_call 42; refine (df_begin (base := base) (P := P) (s := { s with broken := s.broken + 1 }) (vn := vn) (vf := vf) ?ho).mono ?_; (case ho => exact HI.out.set ((Keep.refl (· = g) _).setG 8 _) (blk_set HI.out.blk 8 _) rfl rfl); rintro e w2 ⟨rfl, hI2, hK2⟩; have HI2 := Aside0.mk hI2; have HK2 := Aside0.mk hK2; clear hI2 hK2)
  go_end0
  exact ⟨_, _, rfl, HI2.out.mono (fun _ h => .inl h), (((Keep.refl _ w).setCell (p := ⟨g, 8, none⟩) (.inl (.inl HI.out.mine)) _).trans HK2.out (fun j e => by subst e; exact .inl (.inl HI.out.mine)))⟩

set_option maxHeartbeats 400000 in
set_option maxRecDepth 100000 in
theorem take_end {w : World} {base : Nat} {P : Nat → Prop} {g : Nat} {s : Df} {vn vf : Value} (h : IsDf w base P g s vn vf) (hbase : base ≤ w.heap.size) (n : Nat) (hF : s.Fine n) (hn : n ≤ 1099511627776) (hfin : s.fin = false) :
    Calls Tryd.prog 44 #[.pointer (some ⟨g, 0, none⟩), .int .u8 28] w fun e w' => ∃ vn' vf', e = .returned (.tuple #[]) ∧ IsDf w' base (fun k => P k ∨ w.heap.size ≤ k) g ({ s with fin := true }) vn' vf' ∧ Keep (fun k => P k ∨ w.heap.size ≤ k) w w' := by
  have HI := Aside0.mk h
  have hb0 := hF.broken0
  have hb1 := hF.broken1
  have hj0 := hF.junk0
  have hj1 := hF.junk1
  have c3 := (df_cells h.blk).2.2.2.1
  have c6 := (df_cells h.blk).2.2.2.2.2.2.1
  have c8 := (df_cells h.blk).2.2.2.2.2.2.2.2.1
  have hf := (df_cells h.blk).2.2.2.2.2.2.2.2.2
  have HB := Aside0.mk hbase; have HF := Aside0.mk hF
  rw [hfin] at c3
  clear h hbase hF
  go_enter Tryd.func44, Tryd.ntmps44
  go_wp2
  go_end0
  exact ⟨_, _, rfl, (HI.out.set (s' := { s with fin := true }) ((Keep.refl (· = g) _).setG 3 _) (blk_set HI.out.blk 3 _) rfl rfl).mono (fun _ h => .inl h), (Keep.refl _ w).setCell (p := ⟨g, 3, none⟩) (.inl (.inl HI.out.mine)) _⟩

set_option maxHeartbeats 400000 in
set_option maxRecDepth 100000 in
theorem take_ends {w : World} {base : Nat} {P : Nat → Prop} {g : Nat} {s : Df} {vn vf : Value} (h : IsDf w base P g s vn vf) (hbase : base ≤ w.heap.size) (n : Nat) (hF : s.Fine n) (hn : n ≤ 1099511627776) (hfin : s.fin = true) :
    Calls Tryd.prog 44 #[.pointer (some ⟨g, 0, none⟩), .int .u8 28] w fun e w' => ∃ vn' vf', e = .returned (.tuple #[]) ∧ IsDf w' base (fun k => P k ∨ w.heap.size ≤ k) g (s.lay [28]) vn' vf' ∧ Keep (fun k => P k ∨ w.heap.size ≤ k) w w' := by
  have HI := Aside0.mk h
  have hb0 := hF.broken0
  have hb1 := hF.broken1
  have hj0 := hF.junk0
  have hj1 := hF.junk1
  have c3 := (df_cells h.blk).2.2.2.1
  have c6 := (df_cells h.blk).2.2.2.2.2.2.1
  have c8 := (df_cells h.blk).2.2.2.2.2.2.2.2.1
  have hf := (df_cells h.blk).2.2.2.2.2.2.2.2.2
  have HB := Aside0.mk hbase; have HF := Aside0.mk hF
  rw [hfin] at c3
  clear h hbase hF
  go_enter Tryd.func44, Tryd.ntmps44
  go_wp2_with (go_at_call 45; refine (df_lay (base := base) (P := P) (g := g) (s := s) (vn := vn) (vf := vf) ?hi (bs := [28]) ?hr ?hb n ?hF hn (by simp)).mono ?_; (case hi => exact HI.out.below (below_alloc (Below.refl _ _) _)); (case hr => exact C_lit1 _ _ _); (case hb => simp; have := HB.out; omega); (case hF => exact HF.out); rintro e w2 ⟨vn', rfl, hI2, hK2⟩; have HI2 := Aside0.mk hI2; have HK2 := Aside0.mk hK2; clear hI2 hK2)
  go_end0
  exact ⟨_, _, rfl, HI2.out.mono (fun k h => h.imp id (fun h => by simp at h; omega)), ((Keep.refl _ w).alloc _).trans HK2.out (fun j h => .inl (h.imp id (fun h => by simp at h; omega)))⟩

set_option maxHeartbeats 400000 in
set_option maxRecDepth 100000 in
theorem take_plain {w : World} {base : Nat} {P : Nat → Prop} {g : Nat} {s : Df} {vn vf : Value} (h : IsDf w base P g s vn vf) (hbase : base ≤ w.heap.size) (n : Nat) (hF : s.Fine n) (hn : n ≤ 1099511627776) (c : Int) (h1 : (c == 11) = false) (h2 : (c == 28) = false) (hfin : s.fin = false) :
    Calls Tryd.prog 44 #[.pointer (some ⟨g, 0, none⟩), .int .u8 c] w fun e w' => ∃ vn' vf', e = .returned (.tuple #[]) ∧ IsDf w' base (fun k => P k ∨ w.heap.size ≤ k) g (s.lay [c]) vn' vf' ∧ Keep (fun k => P k ∨ w.heap.size ≤ k) w w' := by
  have HI := Aside0.mk h
  have hb0 := hF.broken0
  have hb1 := hF.broken1
  have hj0 := hF.junk0
  have hj1 := hF.junk1
  have c3 := (df_cells h.blk).2.2.2.1
  have c6 := (df_cells h.blk).2.2.2.2.2.2.1
  have c8 := (df_cells h.blk).2.2.2.2.2.2.2.2.1
  have hf := (df_cells h.blk).2.2.2.2.2.2.2.2.2
  have HB := Aside0.mk hbase; have HF := Aside0.mk hF
  rw [hfin] at c3
  clear h hbase hF
  go_enter Tryd.func44, Tryd.ntmps44
  go_wp2_with (go_at_call 45; refine (df_lay (base := base) (P := P) (g := g) (s := s) (vn := vn) (vf := vf) ?hi (bs := [c]) ?hr ?hb n ?hF hn (by simp)).mono ?_; (case hi => exact HI.out.below (below_alloc (Below.refl _ _) _)); (case hr => exact C_lit1 _ _ _); (case hb => simp; have := HB.out; omega); (case hF => exact HF.out); rintro e w2 ⟨vn', rfl, hI2, hK2⟩; have HI2 := Aside0.mk hI2; have HK2 := Aside0.mk hK2; clear hI2 hK2)
  go_end0
  exact ⟨_, _, rfl, HI2.out.mono (fun k h => h.imp id (fun h => by simp at h; omega)), ((Keep.refl _ w).alloc _).trans HK2.out (fun j h => .inl (h.imp id (fun h => by simp at h; omega)))⟩

set_option maxHeartbeats 400000 in
set_option maxRecDepth 100000 in
theorem take_held {w : World} {base : Nat} {P : Nat → Prop} {g : Nat} {s : Df} {vn vf : Value} (h : IsDf w base P g s vn vf) (hbase : base ≤ w.heap.size) (n : Nat) (hF : s.Fine n) (hn : n ≤ 1099511627776) (c : Int) (h1 : (c == 11) = false) (h2 : (c == 28) = false) (h3 : (c == 13) = false) (hfin : s.fin = true) :
    Calls Tryd.prog 44 #[.pointer (some ⟨g, 0, none⟩), .int .u8 c] w fun e w' => ∃ vn' vf', e = .returned (.tuple #[]) ∧ IsDf w' base (fun k => P k ∨ w.heap.size ≤ k) g (Df.lay { s with fin := false } [28, c]) vn' vf' ∧ Keep (fun k => P k ∨ w.heap.size ≤ k) w w' := by
  have HI := Aside0.mk h
  have hb0 := hF.broken0
  have hb1 := hF.broken1
  have hj0 := hF.junk0
  have hj1 := hF.junk1
  have c3 := (df_cells h.blk).2.2.2.1
  have c6 := (df_cells h.blk).2.2.2.2.2.2.1
  have c8 := (df_cells h.blk).2.2.2.2.2.2.2.2.1
  have hf := (df_cells h.blk).2.2.2.2.2.2.2.2.2
  have HB := Aside0.mk hbase; have HF := Aside0.mk hF
  rw [hfin] at c3
  clear h hbase hF
  go_enter Tryd.func44, Tryd.ntmps44
  go_wp2_with (go_at_call 45; refine (df_lay (base := base) (P := P) (g := g) (s := { s with fin := false }) (vn := vn) (vf := vf) ?hi (bs := [28, c]) ?hr ?hb n ?hF hn (by simp)).mono ?_; (case hi => exact (HI.out.set (s' := { s with fin := false }) ((Keep.refl (· = g) _).setG 3 _) (blk_set HI.out.blk 3 _) rfl rfl).below (below_alloc (Below.refl _ _) _)); (case hr => rw [← show (w.setCell ⟨g, 3, none⟩ (.bool false)).heap.size = w.heap.size from by simp [World.setCell]]; exact C_lit2 _ _ _ _); (case hb => simp; have := HB.out; omega); (case hF => exact ⟨HF.out.most0, HF.out.most1, HF.out.now, HF.out.found, HF.out.junk0, HF.out.junk1, HF.out.over0, HF.out.over1, HF.out.broken0, HF.out.broken1, HF.out.bytes, HF.out.rows⟩); rintro e w2 ⟨vn', rfl, hI2, hK2⟩; have HI2 := Aside0.mk hI2; have HK2 := Aside0.mk hK2; clear hI2 hK2)
  go_end0
  exact ⟨_, _, rfl, HI2.out.mono (fun k h => h.imp id (fun h => by simp at h; omega)), (((Keep.refl _ w).setCell (p := ⟨g, 3, none⟩) (.inl (.inl HI.out.mine)) _).alloc _).trans HK2.out (fun j h => .inl (h.imp id (fun h => by simp at h; omega)))⟩

set_option maxHeartbeats 400000 in
set_option maxRecDepth 100000 in
theorem skip_start {w : World} {base : Nat} {P : Nat → Prop} {g : Nat} {s : Df} {vn vf : Value} (h : IsDf w base P g s vn vf) (hbase : base ≤ w.heap.size) (n : Nat) (hF : s.Fine n) (hn : n ≤ 1099511627776) :
    Calls Tryd.prog 38 #[.pointer (some ⟨g, 0, none⟩), .int .u8 11] w fun e w' => ∃ vn' vf', e = .returned (.tuple #[]) ∧ IsDf w' base (fun k => P k ∨ w.heap.size ≤ k) g (s.begin) vn' vf' ∧ Keep (fun k => P k ∨ w.heap.size ≤ k) w w' := by
  have HI := Aside0.mk h
  have hb0 := hF.broken0
  have hb1 := hF.broken1
  have hj0 := hF.junk0
  have hj1 := hF.junk1
  have c3 := (df_cells h.blk).2.2.2.1
  have c6 := (df_cells h.blk).2.2.2.2.2.2.1
  have c8 := (df_cells h.blk).2.2.2.2.2.2.2.2.1
  have hf := (df_cells h.blk).2.2.2.2.2.2.2.2.2
  have HB := Aside0.mk hbase; have HF := Aside0.mk hF
  clear h hbase hF
  go_enter Tryd.func38, Tryd.ntmps38
  go_wp2_with (go_at_call 42; refine (df_begin (base := base) (P := P) (s := s) (vn := vn) (vf := vf) ?ho).mono ?_; (case ho => exact HI.out); rintro e w2 ⟨rfl, hI2, hK2⟩; have HI2 := Aside0.mk hI2; have HK2 := Aside0.mk hK2; clear hI2 hK2)
  refine bodyPost_ret (results_none rfl _ _ _) rfl ?_
  exact ⟨_, _, rfl, HI2.out.mono (fun _ h => .inl h), HK2.out.mono (fun j e => by subst e; exact .inl HI.out.mine)⟩

set_option maxHeartbeats 400000 in
set_option maxRecDepth 100000 in
theorem skip_plain {w : World} {base : Nat} {P : Nat → Prop} {g : Nat} {s : Df} {vn vf : Value} (h : IsDf w base P g s vn vf) (hbase : base ≤ w.heap.size) (n : Nat) (hF : s.Fine n) (hn : n ≤ 1099511627776) (c : Int) (h1 : (c == 11) = false) :
    Calls Tryd.prog 38 #[.pointer (some ⟨g, 0, none⟩), .int .u8 c] w fun e w' => ∃ vn' vf', e = .returned (.tuple #[]) ∧ IsDf w' base (fun k => P k ∨ w.heap.size ≤ k) g ({ s with junk := s.junk + 1 }) vn' vf' ∧ Keep (fun k => P k ∨ w.heap.size ≤ k) w w' := by
  have HI := Aside0.mk h
  have hb0 := hF.broken0
  have hb1 := hF.broken1
  have hj0 := hF.junk0
  have hj1 := hF.junk1
  have c3 := (df_cells h.blk).2.2.2.1
  have c6 := (df_cells h.blk).2.2.2.2.2.2.1
  have c8 := (df_cells h.blk).2.2.2.2.2.2.2.2.1
  have hf := (df_cells h.blk).2.2.2.2.2.2.2.2.2
  have HB := Aside0.mk hbase; have HF := Aside0.mk hF
  clear h hbase hF
  go_enter Tryd.func38, Tryd.ntmps38
  go_wp2
  go_end0
  exact ⟨_, _, rfl, (HI.out.set (s' := { s with junk := s.junk + 1 }) ((Keep.refl (· = g) _).setG 6 _) (blk_set HI.out.blk 6 _) rfl rfl).mono (fun _ h => .inl h), (Keep.refl _ w).setCell (p := ⟨g, 6, none⟩) (.inl (.inl HI.out.mine)) _⟩
end Go.Proofs.YtiffmklefiehkaaDoor
