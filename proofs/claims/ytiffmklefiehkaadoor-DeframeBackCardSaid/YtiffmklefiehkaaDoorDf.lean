/- The deframer in memory, and what its functions come to: New, outside, begin, skip. -/
import Derived.Test.YtiffmklefiehkaaDoorUnwrap
import Derived.Test.YtiffmklefiehkaaDoorWKept
import Derived.Laws.EntriesVeiled
namespace Go.Proofs.YtiffmklefiehkaaDoor
open Go.RowKit Go.Proofs.YtiffmklefiehkaaDoorW.PrintWords

/-- What a deframer holds. -/
structure Df where
  most : Int
  inn : Bool
  fin : Bool
  now : List Int
  found : List (List Int)
  junk : Int
  over : Int
  broken : Int

/-- Slices of bytes of the call's own, each in memory of its own. -/
abbrev Owns (w : World) (base : Nat) (ok : Nat → Prop) (v : Value) (xs : List (List Int)) : Prop := Kd.R (Kd.slice 5 (Kd.int .u8)) 22 w base ok v xs

def dfCells (g : Nat) (s : Df) (vn vf : Value) : Array Value :=
  #[.int .i64 s.most, .func (.func (if s.inn then 44 else 38)) #[.pointer (some ⟨g, 0, none⟩)] #[], .bool s.inn, .bool s.fin, vn, vf, .int .i64 s.junk, .int .i64 s.over, .int .i64 s.broken]

/-- The deframer lies in block g; its slices lie in blocks of which P holds, apart from each other and from it. -/
structure IsDf (w : World) (base : Nat) (P : Nat → Prop) (g : Nat) (s : Df) (vn vf : Value) : Prop where
  ge : base ≤ g
  mine : P g
  blk : w.heap[g]? = some (.cells (dfCells g s vn vf) 54 (0, 0))
  now : Kd.R (Kd.int .u8) 5 w base (fun k => P k ∧ k ≠ g) vn s.now
  found : Owns w base (fun k => (P k ∧ k ≠ g) ∧ some k ≠ vn.ownBlock) vf s.found

/-- The deframer's cells, one by one. -/
theorem df_cells {w : World} {g : Nat} {s : Df} {vn vf : Value} (hb : w.heap[g]? = some (.cells (dfCells g s vn vf) 54 (0, 0))) :
    w.cell? ⟨g, 0, none⟩ = some (.int .i64 s.most) ∧ w.cell? ⟨g, 1, none⟩ = some (.func (.func (if s.inn then 44 else 38)) #[.pointer (some ⟨g, 0, none⟩)] #[]) ∧
    w.cell? ⟨g, 2, none⟩ = some (.bool s.inn) ∧ w.cell? ⟨g, 3, none⟩ = some (.bool s.fin) ∧ w.cell? ⟨g, 4, none⟩ = some vn ∧ w.cell? ⟨g, 5, none⟩ = some vf ∧
    w.cell? ⟨g, 6, none⟩ = some (.int .i64 s.junk) ∧ w.cell? ⟨g, 7, none⟩ = some (.int .i64 s.over) ∧ w.cell? ⟨g, 8, none⟩ = some (.int .i64 s.broken) ∧ ∀ j, w.frozen? ⟨g, j, none⟩ = false :=
  ⟨blk_cell hb 0, blk_cell hb 1, blk_cell hb 2, blk_cell hb 3, blk_cell hb 4, blk_cell hb 5, blk_cell hb 6, blk_cell hb 7, blk_cell hb 8, fun j => blk_frozen hb j⟩

/-- All blocks but those of which S holds lie as they lay; so do the streams. -/
structure Keep (S : Nat → Prop) (w w' : World) : Prop where
  os : w'.os = w.os
  tape : w'.tape = w.tape
  output : w'.output = w.output
  size : w.heap.size ≤ w'.heap.size
  block : ∀ k, k < w.heap.size → ¬ S k → w'.heap[k]? = w.heap[k]?

theorem Keep.refl (S : Nat → Prop) (w : World) : Keep S w w := ⟨rfl, rfl, rfl, Nat.le_refl _, fun _ _ _ => rfl⟩
theorem Keep.trans {S : Nat → Prop} {a b c : World} (h : Keep S a b) {S2 : Nat → Prop} (k : Keep S2 b c) (hs : ∀ j, S2 j → S j ∨ a.heap.size ≤ j) : Keep S a c :=
  ⟨k.os.trans h.os, k.tape.trans h.tape, k.output.trans h.output, Nat.le_trans h.size k.size, fun i hi hn => (k.block i (Nat.lt_of_lt_of_le hi h.size) (fun h2 => (hs i h2).elim hn (fun h3 => by omega))).trans (h.block i hi hn)⟩
theorem Keep.mono {S S2 : Nat → Prop} {a b : World} (h : Keep S a b) (hs : ∀ j, S j → S2 j) : Keep S2 a b := ⟨h.os, h.tape, h.output, h.size, fun i hi hn => h.block i hi (fun hk => hn (hs i hk))⟩
theorem Keep.setCell {S : Nat → Prop} {a w : World} (h : Keep S a w) {p : Addr} (hp : S p.block ∨ a.heap.size ≤ p.block) (u : Value) : Keep S a (w.setCell p u) :=
  ⟨h.os, h.tape, h.output, by have := h.size; simp [World.setCell]; exact this, fun i hi hn => (Below.heap_setCell _ _ _ _ (fun e => by subst e; exact hp.elim hn (fun h => by omega))).trans (h.block i hi hn)⟩
theorem Keep.of_below {a w w' : World} {S : Nat → Prop} (h : Keep S a w) (hb : Below w.heap.size w w') : Keep S a w' :=
  h.trans (S2 := fun _ => False) ⟨hb.os, hb.tape, hb.output, hb.size, fun i hi _ => hb.block i hi⟩ (fun _ hk => hk.elim)
theorem Keep.of_grown {a w w' : World} {S : Nat → Prop} (h : Keep S a w) {row : Option Nat} (hg : w.grownBy w' row) (hr : ∀ k, row = some k → S k ∨ a.heap.size ≤ k) : Keep S a w' :=
  h.trans (S2 := fun k => row = some k) ⟨hg.os, hg.tape, hg.output, hg.size, fun i hi hn => hg.block i hi (fun e => hn e.symm)⟩ hr
theorem Keep.alloc {a w : World} {S : Nat → Prop} (h : Keep S a w) (o : Obj) : Keep S a (w.alloc o) := h.of_below (below_alloc (Below.refl _ _) o)
theorem Keep.drewN {a w : World} {S : Nat → Prop} (h : Keep S a w) (n : Nat) : Keep S a (w.drewN n) := h.of_below (pw_below_drewN (Below.refl _ _) n)
theorem Keep.blk {a w : World} {S : Nat → Prop} (h : Keep S a w) {g : Nat} {o : Obj} (hb : a.heap[g]? = some o) (hn : ¬ S g) : w.heap[g]? = some o := (h.block g (blk_lt hb) hn).trans hb
theorem Keep.below {a w : World} {S : Nat → Prop} (h : Keep S a w) {B : Nat} (hB : B ≤ a.heap.size) (hs : ∀ k, S k → B ≤ k) : Below B a w :=
  ⟨h.os, h.tape, h.output, h.size, fun k hk => h.block k (by omega) (fun hS => by have := hs k hS; omega)⟩
theorem Keep.R {α : Type} {d : Kd α} {e base : Nat} {ok : Nat → Prop} {w w' : World} {v : Value} {xs : List α} {S : Nat → Prop} (h : d.R e w base ok v xs) (hk : Keep S w w') (hn : ∀ k, ok k → ¬ S k) : d.R e w' base ok v xs :=
  Kd.R_step h (fun k ho hlt => hk.block k hlt (hn k ho))

theorem Keep.setG {a w : World} {g : Nat} (h : Keep (· = g) a w) (j : Nat) (u : Value) : Keep (· = g) a (w.setCell ⟨g, j, none⟩ u) := h.setCell (p := ⟨g, j, none⟩) (.inl rfl) u

def Df.out (s : Df) : Df := { s with inn := false, fin := false, now := [] }
def Df.begin (s : Df) : Df := { s with inn := true, fin := false, now := [] }
def Df.lay (s : Df) (bs : List Int) : Df := if s.most < ((s.now ++ bs).length : Int) then Df.out { s with now := s.now ++ bs, over := s.over + 1 } else { s with now := s.now ++ bs }
def Df.take (s : Df) (c : Int) : Df :=
  if c = 11 then Df.begin { s with broken := s.broken + 1 }
  else if s.fin = true ∧ c = 13 then Df.out { s with found := s.found ++ [s.now] }
  else if c = 28 ∧ s.fin = false then { s with fin := true }
  else if c = 28 then s.lay [28]
  else if s.fin = true then Df.lay { s with fin := false } [28, c]
  else s.lay [c]
def Df.skip (s : Df) (c : Int) : Df := if c = 11 then s.begin else { s with junk := s.junk + 1 }
def Df.step (s : Df) (c : Int) : Df := if s.inn then s.take c else s.skip c

theorem IsDf.off {w : World} {base : Nat} {P : Nat → Prop} {g : Nat} {s : Df} {vn vf : Value} (h : IsDf w base P g s vn vf) {w' : World} (hk : Keep (· = g) w w') {s' : Df} (hb : w'.heap[g]? = some (.cells (dfCells g s' (.slice none 0 0) vf) 54 (0, 0))) (hn : s'.now = []) (hf : s'.found = s.found) : IsDf w' base P g s' (.slice none 0 0) vf := by
  refine ⟨h.ge, h.mine, hb, ?_, ?_⟩
  · rw [hn]; exact Kd.R_nil _ _ _ _ _
  · rw [hf]
    exact Kd.R_mono (hk.R h.found (fun k hk he => hk.1.2 he)) (fun k hk => ⟨hk.1, by simp [Value.ownBlock]⟩)

set_option maxHeartbeats 400000 in
set_option maxRecDepth 100000 in
theorem df_outside {w : World} {base : Nat} {P : Nat → Prop} {g : Nat} {s : Df} {vn vf : Value} (h : IsDf w base P g s vn vf) :
    Calls Tryd.prog 34 #[.pointer (some ⟨g, 0, none⟩)] w fun e w' => e = .returned (.tuple #[]) ∧ IsDf w' base P g s.out (.slice none 0 0) vf ∧ Keep (· = g) w w' := by
  have HI := Aside0.mk h
  obtain ⟨_, _, c2, c3, c4, _, _, _, _, hf⟩ := df_cells h.blk
  have c1 := (df_cells h.blk).2.1
  clear h
  go_enter Tryd.func34, Tryd.ntmps34
  go_wp2
  go_end0
  have hk : Keep (· = g) w ((((w.setCell ⟨g, 2, none⟩ (.bool false)).setCell ⟨g, 3, none⟩ (.bool false)).setCell ⟨g, 4, none⟩ (.slice none 0 0)).setCell ⟨g, 1, none⟩ (.func (.func 38) #[.pointer (some ⟨g, 0, none⟩)] #[])) :=
    ((((Keep.refl (· = g) w).setG 2 _).setG 3 _).setG 4 _).setG 1 _
  exact ⟨rfl, HI.out.off hk (blk_set (blk_set (blk_set (blk_set HI.out.blk 2 _) 3 _) 4 _) 1 _) rfl rfl, hk⟩

set_option maxHeartbeats 400000 in
set_option maxRecDepth 100000 in
theorem df_begin {w : World} {base : Nat} {P : Nat → Prop} {g : Nat} {s : Df} {vn vf : Value} (h : IsDf w base P g s vn vf) :
    Calls Tryd.prog 42 #[.pointer (some ⟨g, 0, none⟩)] w fun e w' => e = .returned (.tuple #[]) ∧ IsDf w' base P g s.begin (.slice none 0 0) vf ∧ Keep (· = g) w w' := by
  have HI := Aside0.mk h
  obtain ⟨_, _, c2, c3, c4, _, _, _, _, hf⟩ := df_cells h.blk
  have c1 := (df_cells h.blk).2.1
  clear h
  go_enter Tryd.func42, Tryd.ntmps42
  go_wp2
  go_end0
  have hk : Keep (· = g) w ((((w.setCell ⟨g, 2, none⟩ (.bool true)).setCell ⟨g, 3, none⟩ (.bool false)).setCell ⟨g, 4, none⟩ (.slice none 0 0)).setCell ⟨g, 1, none⟩ (.func (.func 44) #[.pointer (some ⟨g, 0, none⟩)] #[])) :=
    ((((Keep.refl (· = g) w).setG 2 _).setG 3 _).setG 4 _).setG 1 _
  exact ⟨rfl, HI.out.off hk (blk_set (blk_set (blk_set (blk_set HI.out.blk 2 _) 3 _) 4 _) 1 _) rfl rfl, hk⟩

/-- Another cell than the two slices' has been written. -/
theorem IsDf.set {w : World} {base : Nat} {P : Nat → Prop} {g : Nat} {s : Df} {vn vf : Value} (h : IsDf w base P g s vn vf) {w' : World} (hk : Keep (· = g) w w') {s' : Df} (hb : w'.heap[g]? = some (.cells (dfCells g s' vn vf) 54 (0, 0))) (hn : s'.now = s.now) (hf : s'.found = s.found) : IsDf w' base P g s' vn vf := by
  refine ⟨h.ge, h.mine, hb, ?_, ?_⟩
  · rw [hn]; exact hk.R h.now (fun k hk he => hk.2 he)
  · rw [hf]; exact hk.R h.found (fun k hk he => hk.1.2 he)
theorem IsDf.mono {w : World} {base : Nat} {P P' : Nat → Prop} {g : Nat} {s : Df} {vn vf : Value} (h : IsDf w base P g s vn vf) (hP : ∀ k, P k → P' k) : IsDf w base P' g s vn vf :=
  ⟨h.ge, hP _ h.mine, h.blk, Kd.R_mono h.now (fun _ hk => ⟨hP _ hk.1, hk.2⟩), Kd.R_mono h.found (fun _ hk => ⟨⟨hP _ hk.1.1, hk.1.2⟩, hk.2⟩)⟩
theorem IsDf.keep {w : World} {base : Nat} {P S : Nat → Prop} {g : Nat} {s : Df} {vn vf : Value} (h : IsDf w base P g s vn vf) {w' : World} (hk : Keep S w w') (hS : ∀ k, P k → ¬ S k) : IsDf w' base P g s vn vf :=
  ⟨h.ge, h.mine, hk.blk h.blk (hS _ h.mine), hk.R h.now (fun k hk => hS k hk.1), hk.R h.found (fun k hk => hS k hk.1.1)⟩
theorem IsDf.below {w : World} {base : Nat} {P : Nat → Prop} {g : Nat} {s : Df} {vn vf : Value} (h : IsDf w base P g s vn vf) {w' : World} (hb : Below w.heap.size w w') : IsDf w' base P g s vn vf :=
  ⟨h.ge, h.mine, blk_below h.blk hb, Kd.R_below h.now hb, Kd.R_below h.found hb⟩

/-- What a deframer's numbers come to behind n bytes. -/
structure Df.Fine (s : Df) (n : Nat) : Prop where
  most0 : 1 ≤ s.most
  most1 : s.most ≤ 65536
  now : (s.now.length : Int) ≤ s.most
  found : s.found.length ≤ n
  junk0 : 0 ≤ s.junk
  junk1 : s.junk ≤ n
  over0 : 0 ≤ s.over
  over1 : s.over ≤ n
  broken0 : 0 ≤ s.broken
  broken1 : s.broken ≤ n
  bytes : Bytes s.now
  rows : ∀ x ∈ s.found, Bytes x

theorem info22 : (Tryd.prog.info? 22).map (fun i => (i.zero, i.size, i.bytes)) = some (some (.slice none 0 0), 1, 24) := by kernel_rfl

theorem wpList_appG {ops : Array Oper} {rest : List Oper} {o : Oper} {a : Act} {Q : Exit → Act → World → Prop} (base : Nat) (W : World) (hgd : o.guard = none) (s x : Operand)
    (ho : o.op = .call { callee := .builtin .append, args := #[s, x], argTypes := #[22, 22] }) (v : Value) (xs : List Int) (A : Option Addr) (m c : Nat) (ys : List Int) (ok : Nat → Prop) (hs : a.eval s = v) (hx : a.eval x = .slice A m c)
    (HO : Kd.R (Kd.int .u8) 5 W base ok v xs) (HR : Kd.C (Kd.int .u8) W A m ys) (hfresh : ∀ k, W.heap.size ≤ k → ok k) (hbase : base ≤ W.heap.size) (hl : xs.length + m ≤ 140737488355328)
    (h : ∀ v1 w1, Kd.R (Kd.int .u8) 5 w1 base ok v1 (xs ++ ys) → W.grownBy w1 v.ownBlock → (v1.ownBlock = v.ownBlock ∨ ∃ b, v1.ownBlock = some b ∧ W.heap.size ≤ b) → wpList Tryd.prog ops Q rest (a.put o.dst v1) w1) : wpList Tryd.prog ops Q (o :: rest) a W :=
  Kd.R_append_rows (Kd.int .u8) (w0 := W) base hgd s x 22 5 (.int .u8 0) 1 ho Tryd.underlying22 info5 rfl (by decide) (by omega) v xs ys A m c ok (fun _ => False) hs hx
    HO HR (fun _ _ h => h) (fun _ h => h.elim) hfresh ((Below.refl _ _).mono (Nat.le_refl _)) hbase (by omega) fun v1 w1 h1 _ h3 h4 => h v1 w1 h1 h3 h4

theorem IsDf.laid {w : World} {base : Nat} {P : Nat → Prop} {g : Nat} {s : Df} {vn vf v1 : Value} {bs : List Int} {w1 : World} (h : IsDf w base P g s vn vf) (h1 : Kd.R (Kd.int .u8) 5 w1 base (fun k => (P k ∨ w.heap.size ≤ k) ∧ k ≠ g) v1 (s.now ++ bs)) (hg : w.grownBy w1 vn.ownBlock)
    (hat : v1.ownBlock = vn.ownBlock ∨ ∃ b, v1.ownBlock = some b ∧ w.heap.size ≤ b) : IsDf (w1.setCell ⟨g, 4, none⟩ v1) base (fun k => P k ∨ w.heap.size ≤ k) g { s with now := s.now ++ bs } v1 vf ∧ Keep (fun k => P k ∨ w.heap.size ≤ k) w (w1.setCell ⟨g, 4, none⟩ v1) ∧ w1.heap[g]? = some (.cells (dfCells g s vn vf) 54 (0, 0)) := by
  have hgn : some g ≠ vn.ownBlock := fun e => (h.now.1 g e.symm).2 rfl
  have hb1 : w1.heap[g]? = some (.cells (dfCells g s vn vf) 54 (0, 0)) := (hg.block g (blk_lt h.blk) hgn).trans h.blk
  have hk : Keep (· = g) w1 (w1.setCell ⟨g, 4, none⟩ v1) := (Keep.refl (· = g) w1).setG 4 _
  have hf := Kd.R_after h.found hg hat
  refine ⟨⟨h.ge, .inl h.mine, blk_set hb1 4 _, hk.R h1 (fun k hk he => hk.2 he), ?_⟩, ?_, hb1⟩
  · exact Kd.R_mono (hk.R hf (fun k hk he => hk.1.2 he)) (fun k hk => ⟨⟨.inl hk.1.1, hk.1.2⟩, hk.2⟩)
  · refine ((Keep.refl _ w).of_grown hg (fun k hk => .inl (.inl (h.now.1 k hk).1))).setCell (p := ⟨g, 4, none⟩) (.inl (.inl h.mine)) _

set_option maxHeartbeats 400000 in
set_option maxRecDepth 100000 in
theorem df_lay {w : World} {base : Nat} {P : Nat → Prop} {g : Nat} {s : Df} {vn vf : Value} (h : IsDf w base P g s vn vf) {A : Option Addr} {c : Nat} {bs : List Int} (hr : Kd.C (Kd.int .u8) w A bs.length bs) (hbase : base ≤ w.heap.size) (n : Nat) (hF : s.Fine n) (hn : n ≤ 1099511627776) (hl : bs.length ≤ 2) :
    Calls Tryd.prog 45 #[.pointer (some ⟨g, 0, none⟩), .slice A bs.length c] w fun e w' => ∃ vn', e = .returned (.tuple #[]) ∧ IsDf w' base (fun k => P k ∨ w.heap.size ≤ k) g (s.lay bs) vn' vf ∧ Keep (fun k => P k ∨ w.heap.size ≤ k) w w' := by
  have HI := Aside0.mk h
  have HR := Aside0.mk hr
  have hm1 := hF.most1
  have hnow := hF.now
  have ho0 := hF.over0
  have ho1 := hF.over1
  have hlt := blk_lt h.blk
  have HN := Aside0.mk (show Kd.R (Kd.int .u8) 5 w base (fun k => (P k ∨ w.heap.size ≤ k) ∧ k ≠ g) vn s.now from Kd.R_mono h.now (fun _ hk => ⟨.inl hk.1, hk.2⟩))
  have c4 := (df_cells h.blk).2.2.2.2.1
  have HB := Aside0.mk hbase; have HL := Aside0.mk hlt; have HF := Aside0.mk hF
  clear h hr hbase hlt hF
  have hlen : ((s.now ++ bs).length : Int) = (s.now.length : Int) + bs.length := by simp
  unfold Df.lay
  generalize hnw : s.now ++ bs = nw at *
  have HE := Aside0.mk hnw
  have hnl : (nw.length : Int) ≤ 65538 := by omega
  clear hnw hlen
  by_cases hov : s.most < (nw.length : Int)
  case' pos =>
    rw [if_pos hov]
  case' neg =>
    rw [if_neg hov]
  all_goals
    go_enter Tryd.func45, Tryd.ntmps45
    go_wp2_with ((with_reducible refine gate_builtin (b := .append) (xs := #[.tmp 8, .tmp 9]) rfl ?_); at_builtin; refine wpList_appG base _ rfl (.tmp 8) (.tmp 9) rfl vn s.now A bs.length c bs (fun k => (P k ∨ w.heap.size ≤ k) ∧ k ≠ g) rfl rfl HN.out HR.out ?ha HB.out ?hb ?_; (case ha => intro k hk; exact ⟨.inr hk, fun e => by have := HL.out; omega⟩); (case hb => omega); intro v1 w1 h1 hg hat; obtain ⟨hI2, hK2, hb1⟩ := HI.out.laid h1 hg hat; rw [HE.out] at h1 hI2; obtain ⟨A1, c1, e1⟩ := Kd.R_slice h1; subst e1; have HI2 := Aside0.mk hI2; have HK2 := Aside0.mk hK2; have c41 := (df_cells hb1).2.2.2.2.1; have hf1 := (df_cells hb1).2.2.2.2.2.2.2.2.2; clear h1 hg hat hI2 hK2; have c01 := (df_cells hb1).1; clear hb1)
    clear c4 c41 c01 hf1
    generalize (w1.setCell ⟨g, 4, none⟩ (.slice A1 nw.length c1)) = w2 at HI2 HK2 ⊢
    have c0 : w2.cell? ⟨g, 0, none⟩ = some (.int .i64 s.most) := (df_cells HI2.out.blk).1
    have c4 := (df_cells HI2.out.blk).2.2.2.2.1
    have c7 : w2.cell? ⟨g, 7, none⟩ = some (.int .i64 s.over) := (df_cells HI2.out.blk).2.2.2.2.2.2.2.1
    have hf := (df_cells HI2.out.blk).2.2.2.2.2.2.2.2.2
    go_quiet (fail)
  · go_wp2
    go_end0
    exact ⟨_, rfl, HI2.out.below (pw_below_drewN (Below.refl _ _) nq), HK2.out.drewN nq⟩
  · go_wp2_with (go_at_call 34; refine (df_outside (base := base) (P := fun k => P k ∨ w.heap.size ≤ k) (s := { s with now := nw, over := s.over + 1 }) (vn := .slice A1 nw.length c1) (vf := vf) ?ho).mono ?_; (case ho => exact (HI2.out.below (pw_below_drewN (Below.refl _ _) nq)).set ((Keep.refl (· = g) _).setG 7 _) (blk_set (blk_drewN HI2.out.blk nq) 7 _) rfl rfl); rintro e w3 ⟨rfl, hI3, hK3⟩; have HI3 := Aside0.mk hI3; have HK3 := Aside0.mk hK3; clear hI3 hK3)
    go_end0
    exact ⟨_, rfl, HI3.out, (((HK2.out.drewN nq).setCell (p := ⟨g, 7, none⟩) (.inl (.inl HI.out.mine)) _).trans HK3.out (fun j e => by subst e; exact .inl (.inl HI.out.mine)))⟩
end Go.Proofs.YtiffmklefiehkaaDoor
