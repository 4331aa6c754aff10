/- A new deframer, and what it tells of itself. -/
import Derived.Test.YtiffmklefiehkaaDoorDfFeed
namespace Go.Proofs.YtiffmklefiehkaaDoor
set_option linter.unusedVariables false
open Go.RowKit Go.Proofs.YtiffmklefiehkaaDoorW.PrintWords Go.Proofs.YtiffmklefiehkaaDoorW.PrintLast

def Df.new (most : Int) : Df := ⟨most, false, false, [], [], 0, 0, 0⟩

set_option maxHeartbeats 400000 in
set_option maxRecDepth 100000 in
theorem df_new_no (most : Int) (w : World) (h : most < 1 ∨ 65536 < most) :
    Calls Tryd.prog 21 #[.int .i64 most] w fun e w' => e = .returned (.tuple #[.pointer none, .int .i64 3]) ∧ w' = w := by
  rcases h with h | h
  · go_enter Tryd.func21, Tryd.ntmps21
    go_wp2
    go_ret2
    exact ⟨rfl, rfl⟩
  · have h' : ¬ most < 1 := by omega
    go_enter Tryd.func21, Tryd.ntmps21
    go_wp2
    go_ret2
    exact ⟨rfl, rfl⟩

set_option maxHeartbeats 400000 in
set_option maxRecDepth 100000 in
theorem df_outside_raw (g : Nat) (m x1 x2 x3 x4 x5 x6 x7 x8 : Value) (w : World) (hb : w.heap[g]? = some (.cells #[m, x1, x2, x3, x4, x5, x6, x7, x8] 54 (0, 0))) :
    Calls Tryd.prog 34 #[.pointer (some ⟨g, 0, none⟩)] w fun e w' => e = .returned (.tuple #[]) ∧ w'.heap[g]? = some (.cells #[m, .func (.func 38) #[.pointer (some ⟨g, 0, none⟩)] #[], .bool false, .bool false, .slice none 0 0, x5, x6, x7, x8] 54 (0, 0)) ∧ Keep (· = g) w w' := by
  have HI := Aside0.mk hb
  have c1 := blk_cell hb 1
  have c2 := blk_cell hb 2
  have c3 := blk_cell hb 3
  have c4 := blk_cell hb 4
  have hf := fun j => blk_frozen hb j
  simp only [List.getElem?_toArray, List.getElem?_cons_succ, List.getElem?_cons_zero] at c1 c2 c3 c4
  clear hb
  go_enter Tryd.func34, Tryd.ntmps34
  go_wp2
  go_end0
  exact ⟨rfl, blk_set (blk_set (blk_set (blk_set HI.out 2 _) 3 _) 4 _) 1 _, ((((Keep.refl (· = g) w).setG 2 _).setG 3 _).setG 4 _).setG 1 _⟩

set_option maxHeartbeats 400000 in
set_option maxRecDepth 100000 in
theorem df_new (most : Int) (w : World) (base : Nat) (hbase : base ≤ w.heap.size) (h0 : 1 ≤ most) (h1 : most ≤ 65536) :
    Calls Tryd.prog 21 #[.int .i64 most] w fun e w' => e = .returned (.tuple #[.pointer (some ⟨w.heap.size, 0, none⟩), .int .i64 0]) ∧ IsDf w' base (· = w.heap.size) w.heap.size (Df.new most) (.slice none 0 0) (.slice none 0 0) ∧ Below w.heap.size w w' := by
  have HB := Aside0.mk hbase
  clear hbase
  go_enter Tryd.func21, Tryd.ntmps21
  go_wp2_with (go_at_call 34; refine (df_outside_raw _ _ _ _ _ _ _ _ _ _ _ (blk_new _ _)).mono ?_; rintro e w2 ⟨rfl, hb, hK⟩; have HBL := Aside0.mk hb; have HK := Aside0.mk hK; clear hb hK)
  go_ret2
  have hB : Below w.heap.size w w2 := (below_alloc (Below.refl w.heap.size w) _).trans ((HK.out.below (B := w.heap.size) (by simp) (fun k e => by omega)))
  exact ⟨rfl, ⟨HB.out, rfl, HBL.out, Kd.R_nil _ _ _ _ _, Kd.R_nil _ _ _ _ _⟩, hB⟩

set_option maxHeartbeats 400000 in
theorem df_junk_same {w : World} {base : Nat} {P : Nat → Prop} {g : Nat} {s : Df} {vn vf : Value} (h : IsDf w base P g s vn vf) :
    Calls Tryd.prog 28 #[.pointer (some ⟨g, 0, none⟩)] w fun e w' => e = .returned (.int .i64 s.junk) ∧ w' = w := by
  have c6 := (df_cells h.blk).2.2.2.2.2.2.1
  clear h
  go_enter Tryd.func28, Tryd.ntmps28
  go_wp2
  go_ret
  exact ⟨rfl, rfl⟩
theorem df_junk {w : World} {base : Nat} {P : Nat → Prop} {g : Nat} {s : Df} {vn vf : Value} (h : IsDf w base P g s vn vf) :
    Calls Tryd.prog 28 #[.pointer (some ⟨g, 0, none⟩)] w fun e w' => e = .returned (.int .i64 s.junk) ∧ Below w.heap.size w w' :=
  (df_junk_same h).mono fun _ _ ⟨h1, h2⟩ => ⟨h1, h2 ▸ Below.refl _ _⟩

set_option maxHeartbeats 400000 in
theorem df_over_same {w : World} {base : Nat} {P : Nat → Prop} {g : Nat} {s : Df} {vn vf : Value} (h : IsDf w base P g s vn vf) :
    Calls Tryd.prog 25 #[.pointer (some ⟨g, 0, none⟩)] w fun e w' => e = .returned (.int .i64 s.over) ∧ w' = w := by
  have c6 := (df_cells h.blk).2.2.2.2.2.2.2.1
  clear h
  go_enter Tryd.func25, Tryd.ntmps25
  go_wp2
  go_ret
  exact ⟨rfl, rfl⟩
theorem df_over {w : World} {base : Nat} {P : Nat → Prop} {g : Nat} {s : Df} {vn vf : Value} (h : IsDf w base P g s vn vf) :
    Calls Tryd.prog 25 #[.pointer (some ⟨g, 0, none⟩)] w fun e w' => e = .returned (.int .i64 s.over) ∧ Below w.heap.size w w' :=
  (df_over_same h).mono fun _ _ ⟨h1, h2⟩ => ⟨h1, h2 ▸ Below.refl _ _⟩

set_option maxHeartbeats 400000 in
theorem df_broken_same {w : World} {base : Nat} {P : Nat → Prop} {g : Nat} {s : Df} {vn vf : Value} (h : IsDf w base P g s vn vf) :
    Calls Tryd.prog 26 #[.pointer (some ⟨g, 0, none⟩)] w fun e w' => e = .returned (.int .i64 s.broken) ∧ w' = w := by
  have c6 := (df_cells h.blk).2.2.2.2.2.2.2.2.1
  clear h
  go_enter Tryd.func26, Tryd.ntmps26
  go_wp2
  go_ret
  exact ⟨rfl, rfl⟩

theorem df_broken {w : World} {base : Nat} {P : Nat → Prop} {g : Nat} {s : Df} {vn vf : Value} (h : IsDf w base P g s vn vf) :
    Calls Tryd.prog 26 #[.pointer (some ⟨g, 0, none⟩)] w fun e w' => e = .returned (.int .i64 s.broken) ∧ Below w.heap.size w w' :=
  (df_broken_same h).mono fun _ _ ⟨h1, h2⟩ => ⟨h1, h2 ▸ Below.refl _ _⟩

/-- How many bytes are held. -/
def Df.held (s : Df) : Int := if s.inn then (if s.fin then (s.now.length : Int) + 2 else (s.now.length : Int) + 1) else 0

set_option maxHeartbeats 400000 in
set_option maxRecDepth 100000 in
theorem df_held_same {w : World} {base : Nat} {P : Nat → Prop} {g : Nat} {s : Df} {vn vf : Value} (h : IsDf w base P g s vn vf) (hl : s.now.length ≤ 1000000) :
    Calls Tryd.prog 27 #[.pointer (some ⟨g, 0, none⟩)] w fun e w' => e = .returned (.int .i64 s.held) ∧ w' = w := by
  have c2 := (df_cells h.blk).2.2.1
  have c3 := (df_cells h.blk).2.2.2.1
  have c4 := (df_cells h.blk).2.2.2.2.1
  obtain ⟨A, c, e⟩ := Kd.R_slice h.now
  subst e
  clear h
  unfold Df.held
  generalize s.now.length = n at *
  cases hi : s.inn <;> cases hf : s.fin <;> rw [hi] at c2 <;> rw [hf] at c3 <;> clear hi hf
  all_goals
    go_enter Tryd.func27, Tryd.ntmps27
    go_wp2
    go_ret
    exact ⟨rfl, rfl⟩
theorem df_held {w : World} {base : Nat} {P : Nat → Prop} {g : Nat} {s : Df} {vn vf : Value} (h : IsDf w base P g s vn vf) (hl : s.now.length ≤ 1000000) :
    Calls Tryd.prog 27 #[.pointer (some ⟨g, 0, none⟩)] w fun e w' => e = .returned (.int .i64 s.held) ∧ Below w.heap.size w w' :=
  (df_held_same h hl).mono fun _ _ ⟨h1, h2⟩ => ⟨h1, h2 ▸ Below.refl _ _⟩

end Go.Proofs.YtiffmklefiehkaaDoor
