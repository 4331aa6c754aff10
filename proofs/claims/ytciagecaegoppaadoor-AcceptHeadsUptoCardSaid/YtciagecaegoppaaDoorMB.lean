/- A range over a function whose iterator keeps state of its own in a cell, and whose body always goes on: one law for the caller, one word for the iterator. Texts between a sign: what the iterator of package segment hands out. One of the texts between a sign, and how many there are. A message's segments. What this seat's package-level variables hold. The shelf's contracts, and those of segment.nth and Split, in the form that the printed texts call. strings.Join of the shelf, in the form that the printed texts call. Which codes are known. -/
import Derived.Test.YtciagecaegoppaaDoorShelf
import Derived.Test.YtciagecaegoppaaDoorWWords
import Derived.Test.YtciagecaegoppaaDoorWLast
import Derived.Test.YtciagecaegoppaaDoorMA
import Derived.RangeFuncNested
import Derived.RangeFuncBound
import Derived.RangeFuncCalls
import Derived.RangeFuncLeaves
import Derived.RangeFuncBox
import Derived.Shelf.Abstract
import Derived.Shelf.RegionOpen
import Derived.WalkKit
import Derived.OwnWalkIn
import Derived.TacticsInMore
import Derived.LoopNIn
import Derived.LoopIn
import Derived.Below
import Derived.Sort.QuietIn
import Derived.Maps.AppendAt
namespace Go.Proofs.YtciagecaegoppaaDoor
open Go.RowKit Go.Shelf
set_option linter.unusedVariables false

/-- THE ITERATOR's WORD: it hands out xs, whatever relation J the rounds keep; J abides what the iterator does (new blocks, its own cell at Bs), a round keeps the blocks of Kb. -/
def GivesAll {α : Type} (F : Fence) (n : Nat) (P : Program) (gf : Nat) (lb : Array Value) (encs : α → Array Value) (Bs : Nat) (Kb : Nat → Prop) (xs : List α) (w : World) : Prop :=
  ∀ (l : Nat) (J : List α → World → Prop) (W : World), (∀ k, Kb k → W.heap[k]? = w.heap[k]?) → w.heap.size ≤ W.heap.size →
    (∀ s A B row, J s A → A.grownBy B row → (∀ r, row = some r → r = Bs) → J s B) →
    (∀ pre x W1, J pre W1 → (pre ++ [x]) <+: xs → YieldAt F (n - 1) P l (encs x) W1 fun e W' => e = .returned (.bool true) ∧ J (pre ++ [x]) W' ∧ (∀ k, Kb k → W'.heap[k]? = W1.heap[k]?) ∧ W1.heap.size ≤ W'.heap.size) →
    J [] W →
    CallsIn F n P gf (#[.func (.yield l) #[] #[]] ++ lb) W fun e W' => (∃ v, e = .returned v) ∧ J xs W'

/-- What the caller's relation must abide: new blocks; a turn of the iterator's cell; a turn of the loop's own two blocks (at or beyond B). -/
def Abides2 {α : Type} (Bs B : Nat) (I : List α → World → Prop) : Prop :=
  ∀ s A C row, I s A → A.grownBy C row → (∀ r, row = some r → r = Bs ∨ (B ≤ r ∧ ∃ o : Obj, A.heap[r]? = some o ∧ o.isCells = false)) → I s C

variable {F : Fence} {n : Nat} {P : Program}

theorem wpIn_range_all {α : Type} {g : Operand} {ps : Array Tmp} {assign body : Code} {Q : Exit → Act → World → Prop} {a : Act} {w : World}
    (hro : F.round = none) (h1 : 1 ≤ n) {gf : Nat} {lb : Array Value} (hg : a.eval g = .func (.func gf) #[] lb) (hFg : F.fn gf) (eg : ∀ args w, (callFunc gf args).run P w = .ok (.enter gf args) w)
    {encs : α → Array Value} {Bs : Nat} {Kb : Nat → Prop} {xs : List α} (hseq : GivesAll F (n - 1) P gf lb encs Bs Kb xs w) (hKb : ∀ k, Kb k → k < w.heap.size) (hBs : Bs < w.heap.size)
    (hps : ∀ x, (encs x).size = ps.size) (I : List α → World → Prop) (hI : Abides2 Bs w.heap.size I) (h0 : I [] w) (a₁ : α → Act)
    (hassign : ∀ (l : Nat) (x : α) (W : World) (K : Act → World → Prop), K (a₁ x) W →
      assign.wpIn (F.inRound l) (n - 1 - 1) P (Exit.then K (fun _ _ _ => False)) { tmps := (ps.zip (encs x)).foldl (fun t (p, v) => t.setIfInBounds p v) a.tmps, defers := [] } W)
    (hbody : ∀ (l : Nat) (pre : List α) (x : α) (W : World), I pre W → (pre ++ [x]) <+: xs → w.heap.size ≤ W.heap.size → body.wpIn (F.inRound l) (n - 1 - 1) P
      (fun e _ W' => e = .normal ∧ (∀ (k : Nat) o, W.heap[k]? = some o → w.heap.size ≤ k → o.isCells = false → W'.heap[k]? = some o) ∧ (∀ k, Kb k → W'.heap[k]? = W.heap[k]?) ∧ W.heap.size ≤ W'.heap.size ∧ I (pre ++ [x]) W') (a₁ x) W)
    (hdone : ∀ (D : Nat) (W : World), I xs W → W.heap[D]? = some (.deferred (some [])) → w.heap.size ≤ D → Q .normal { a with defers := { target := .collected D, args := #[] } :: a.defers } W) :
    (Code.rangeFunc g ps assign body).wpIn F n P Q a w := by
  refine wpIn_rangeFunc ?_
  intro fn hfn
  rw [hro]
  obtain ⟨rec, hrec⟩ : ∃ rec : LoopState → Loop, rec = fun st => { state := st, pending := none, fn, tmps := a.tmps, params := ps, assign, body, defers := w.heap.size } := ⟨_, rfl⟩
  obtain ⟨W1, hW1⟩ : ∃ W1, (w.alloc (.deferred (some []))).alloc (.loop (rec .ready)) = W1 := ⟨_, rfl⟩
  have hsz : W1.heap.size = w.heap.size + 2 := by rw [← hW1]; simp
  have hL1 : W1.heap[w.heap.size + 1]? = some (.loop (rec .ready)) := by
    have h := World.alloc_heap_new (w.alloc (.deferred (some []))) (.loop (rec .ready))
    rw [← hW1]
    rwa [World.size_alloc] at h
  have hD1 : W1.heap[w.heap.size]? = some (.deferred (some [])) := by
    rw [← hW1]
    exact (Below.heap_alloc _ _ _ (by simp)).trans (World.alloc_heap_new w _)
  have hgr1 : w.grownBy (w.alloc (.deferred (some []))) none := World.grownBy_alloc _ _ none
  have hgr2 : (w.alloc (.deferred (some []))).grownBy W1 none := by rw [← hW1]; exact World.grownBy_alloc _ _ none
  have hI1 : I [] W1 := hI _ _ _ none (hI _ _ _ none h0 hgr1 (fun r e => by cases e)) hgr2 (fun r e => by cases e)
  have hold : ∀ k, k < w.heap.size → W1.heap[k]? = w.heap[k]? := fun k hk => (hgr2.block k (by rw [World.size_alloc]; omega) (by simp)).trans (hgr1.block k hk (by simp))
  refine ⟨w.heap.size + 1, [{ target := .collected w.heap.size, args := #[] }], W1, { target := .fn (.func gf) lb, args := #[.func (.yield (w.heap.size + 1)) #[] #[]] }, W1, gf,
    #[.func (.yield (w.heap.size + 1)) #[] #[]] ++ lb, W1, ?_, ?_, ?_, ?_, fun _ => h1, ?_⟩
  · rw [← hW1, hrec]; exact run_enterLoop_outer _ _ _ _ _
  · simp only [resolve, hg]
    simp [go_sem]
  · intro f' hf'
    simp [Target.leads] at hf'
    subst hf'
    exact hFg
  · simp [invoke, go_sem, eg]
  refine (hseq (w.heap.size + 1) (fun pre W => I pre W ∧ W.heap[w.heap.size + 1]? = some (.loop (rec .ready)) ∧ W.heap[w.heap.size]? = some (.deferred (some [])) ∧ w.heap.size ≤ W.heap.size) W1
    (fun k hk => hold k (hKb k hk)) (by omega) ?_ ?_ ⟨hI1, hL1, hD1, by omega⟩).mono ?_
  · rintro s A B row ⟨h1, h2, h3, h4⟩ hgr hr
    have hne : ∀ k, w.heap.size ≤ k → some k ≠ row := fun k hk e => by have := hr k e.symm; omega
    exact ⟨hI _ _ _ row h1 hgr (fun r e => .inl (hr r e)), (hgr.block _ (Array.getElem?_eq_some_iff.1 h2).1 (hne _ (by omega))).trans h2, (hgr.block _ (Array.getElem?_eq_some_iff.1 h3).1 (hne _ (by omega))).trans h3, Nat.le_trans h4 hgr.size⟩
  · rintro pre x W ⟨hi, hl, hd, hs⟩ hpx
    have hlt : w.heap.size + 1 < W.heap.size := (Array.getElem?_eq_some_iff.1 hl).1
    have hy := run_yield (P := P) (args := encs x) hl (by rw [hrec]; exact hps x)
    rw [hrec] at hy
    refine ⟨fn, _, assign, body, hy, roundIn_of_wpIn hfn (hassign _ x W _ ⟨_, run_beginRound hl (by rw [hrec]), ?_⟩)⟩
    have hl2 : (W.putObj (w.heap.size + 1) (.loop { rec .ready with state := .busy })).heap[w.heap.size + 1]? = some (.loop { rec .ready with state := .busy }) := World.putObj_heap_same hlt
    have hd2 : (W.putObj (w.heap.size + 1) (.loop { rec .ready with state := .busy })).heap[w.heap.size]? = some (.deferred (some [])) := (World.putObj_heap_other (by omega)).trans hd
    have hi2 : I pre (W.putObj (w.heap.size + 1) (.loop { rec .ready with state := .busy })) := hI _ _ _ (some (w.heap.size + 1)) hi (grownBy_putObj' _ _ _) (fun r e => by cases e; exact .inr ⟨by omega, _, hl, rfl⟩)
    have hsz2 : ∀ o, (W.putObj (w.heap.size + 1) o).heap.size = W.heap.size := fun o => by simp
    refine wpIn_mono (hbody _ pre x _ hi2 hpx (by rw [hsz2]; omega)) ?_
    rintro e a3 W3 ⟨rfl, hkeep, hkb, hs3, hi3⟩
    rw [hsz2] at hs3
    have hl3 := hkeep _ _ hl2 (by omega) rfl
    have hd3 := hkeep _ _ hd2 (Nat.le_refl _) rfl
    have hr := run_endRound (P := P) none hl3
    refine ⟨_, _, hr, rfl, ⟨hI _ _ _ (some (w.heap.size + 1)) hi3 (grownBy_putObj' _ _ _) (fun r e => by cases e; exact .inr ⟨by omega, _, hl3, rfl⟩), ?_, (World.putObj_heap_other (by omega)).trans hd3, by simp; omega⟩, fun k hk => ?_, by simp; omega⟩
    · rw [World.putObj_heap_same (Array.getElem?_eq_some_iff.1 hl3).1, hrec]
      rfl
    · have := hKb k hk
      exact (World.putObj_heap_other (by omega)).trans ((hkb k hk).trans (World.putObj_heap_other (by omega)))
  · rintro e W2 ⟨⟨v, rfl⟩, hi, hl, hd, hs⟩
    refine ⟨none, W2.putObj (w.heap.size + 1) (.loop { rec .ready with state := .exhausted }), ?_, hdone _ _ (hI _ _ _ (some (w.heap.size + 1)) hi (grownBy_putObj' _ _ _) (fun r e => by cases e; exact .inr ⟨by omega, _, hl, rfl⟩)) ((World.putObj_heap_other (by omega)).trans hd) (Nat.le_refl _)⟩
    have h := run_endLoop (P := P) hl (by rw [hrec]; simp)
    rw [hrec] at h ⊢
    exact h
end Go.Proofs.YtciagecaegoppaaDoor
namespace Go.Proofs.YtciagecaegoppaaDoor
set_option linter.unusedVariables false
open Go.RowKit Go.Shelf Go.Proofs.YtciagecaegoppaaDoorW.PrintWords Go.Proofs.YtciagecaegoppaaDoorW.PrintLast
attribute [local go_sem] Oper.semAt_some

/-- The pieces between a sign. -/
def pieces (c : UInt8) : List UInt8 → List (List UInt8)
  | [] => [[]]
  | b :: r => if b = c then [] :: pieces c r else match pieces c r with
    | p :: ps => (b :: p) :: ps
    | [] => [[b]]

theorem index_cons (b c : UInt8) (l : List UInt8) : Lib.index (b :: l) [c] = if b = c then 0 else if Lib.index l [c] = -1 then -1 else Lib.index l [c] + 1 := by
  rw [Lib.index]
  by_cases h : b = c
  · subst h; simp [List.isPrefixOf]
  · rw [if_neg h, if_neg (by simp [List.isPrefixOf]; exact fun e => h e.symm)]
    by_cases hm : Lib.index l [c] = -1 <;> simp [hm]

theorem cut_pieces (c : UInt8) (l : List UInt8) :
    pieces c l = (Lib.cut l [c]).1 :: (if (Lib.cut l [c]).2.2 then pieces c (Lib.cut l [c]).2.1 else []) ∧ ((Lib.cut l [c]).2.2 = true → (Lib.cut l [c]).2.1.length < l.length) := by
  induction l with
  | nil =>
    have e : Lib.cut [] [c] = ([], [], false) := rfl
    rw [e]
    exact ⟨rfl, fun h => by cases h⟩
  | cons b r ih =>
    have hge := Lib.index_ge r [c]
    unfold Lib.cut at ih ⊢
    rw [index_cons, pieces]
    by_cases hb : b = c
    · subst hb
      simp
    · rw [if_neg hb, if_neg hb]
      by_cases hm : Lib.index r [c] = -1
      · rw [hm] at ih
        rw [if_pos hm]
        simp at ih ⊢
        rw [ih]
      · rw [if_neg hm]
        have h0 : 0 ≤ Lib.index r [c] := by omega
        have h1 : 0 ≤ Lib.index r [c] + 1 := by omega
        rw [if_pos h0] at ih
        rw [if_pos h1]
        have e : (Lib.index r [c] + 1).toNat = (Lib.index r [c]).toNat + 1 := by omega
        simp only [if_true, e] at ih ⊢
        rw [ih.1]
        have h2 := ih.2 trivial
        simp only [List.take_succ_cons, List.length_cons, List.length_nil, Nat.zero_add]
        refine ⟨?_, fun _ => ?_⟩
        · congr 2
        · rw [show (Lib.index r [c]).toNat + 1 + 1 = ((Lib.index r [c]).toNat + 1) + 1 from rfl, List.drop_succ_cons]
          simp at h2 ⊢
          omega

def strOf (l : List UInt8) : ByteArray := ⟨l.toArray⟩
def piecesS (c : Int) (s : ByteArray) : List ByteArray := (pieces c.toNat.toUInt8 s.data.toList).map strOf

theorem one_string (w : World) (c : Int) : (convert 26 9 (.slice (some ⟨w.heap.size, 0, none⟩) 1 1)).run Tryd.prog (w.alloc (.cells #[.int .u8 c] 5)) = .ok (.string (strOfNums [c])) (w.alloc (.cells #[.int .u8 c] 5)) := by
  have h := World.ownsRow_lit (base := w.heap.size) (e := 5) (size := 1) w #[.int .u8 c] 1 (Nat.le_refl _) (by decide) (by rfl)
  exact own_string Tryd.underlying26 Tryd.underlying5 Tryd.underlying9 (xs := [c]) h

def sizeOf' (o : Option Value) : Nat := match o with
  | some (.string s) => s.size
  | _ => 0

theorem grown_of_below {w w' : World} (h : Below w.heap.size w w') : w.grownBy w' none := ⟨h.os, h.tape, h.output, h.size, fun k hk _ => h.block k hk⟩
theorem grown_setCell (w : World) (B : Nat) (j : Nat) (u : Value) : w.grownBy (w.setCell ⟨B, j, none⟩ u) (some B) :=
  ⟨rfl, rfl, rfl, by simp [World.setCell], fun k hk hne => Below.heap_setCell _ _ _ _ (fun e => hne (by rw [e]))⟩
theorem cell_of_heap {w w' : World} {B j : Nat} {v : Value} (h : w.cell? ⟨B, j, none⟩ = some v) (hb : w'.heap[B]? = w.heap[B]?) : w'.cell? ⟨B, j, none⟩ = some v := by
  rw [← h]; unfold World.cell?; rw [hb]
theorem frozen_of_heap {w w' : World} {B j : Nat} {v : Bool} (h : w.frozen? ⟨B, j, none⟩ = v) (hb : w'.heap[B]? = w.heap[B]?) : w'.frozen? ⟨B, j, none⟩ = v := by
  rw [← h]; unfold World.frozen?; rw [hb]
theorem cell_lt {w : World} {B j : Nat} {v : Value} (h : w.cell? ⟨B, j, none⟩ = some v) : B < w.heap.size := by
  rcases Nat.lt_or_ge B w.heap.size with hl | hl
  · exact hl
  · exfalso
    unfold World.cell? at h
    rw [Array.getElem?_eq_none hl] at h
    simp at h
theorem sizeOf_strOf (l : List UInt8) : (⟨l.toArray⟩ : ByteArray).size = l.length := by simp [ByteArray.size]

set_option maxHeartbeats 1000000 in
set_option maxRecDepth 100000 in
theorem between_gives (Bs Bg : Nat) (s : ByteArray) (c : Int) (m : Int) (w : World) (n : Nat) (hn : 1 ≤ n) (hs : w.cell? ⟨Bs, 0, none⟩ = some (.string s)) (hf : w.frozen? ⟨Bs, 0, none⟩ = false) (hg : w.cell? ⟨Bg, 0, none⟩ = some (.int .u8 c)) (hm : w.cell? ⟨3, 0, none⟩ = some (.int .i64 m))
    (hne1 : Bs ≠ Bg) (hne2 : Bs ≠ 3) (hsz : s.size < 4294967281) :
    GivesAll Fence.wide n Tryd.prog 76 #[.pointer (some ⟨Bs, 0, none⟩), .pointer (some ⟨Bg, 0, none⟩)] (fun x : ByteArray => #[.string x]) Bs (fun k => k = Bs ∨ k = Bg ∨ k = 3) (piecesS c s) w := by
  intro l J W hk hsize hJ hY h0
  have hs0 : W.cell? ⟨Bs, 0, none⟩ = some (.string s) := by rw [← hs]; unfold World.cell?; rw [hk Bs (.inl rfl)]
  have hf0 : W.frozen? ⟨Bs, 0, none⟩ = false := by rw [← hf]; unfold World.frozen?; rw [hk Bs (.inl rfl)]
  have hg0 : W.cell? ⟨Bg, 0, none⟩ = some (.int .u8 c) := by rw [← hg]; unfold World.cell?; rw [hk Bg (.inr (.inl rfl))]
  have hm0 : W.cell? ⟨3, 0, none⟩ = some (.int .i64 m) := by rw [← hm]; unfold World.cell?; rw [hk _ (.inr (.inr rfl))]
  have HJ := Aside0.mk hJ; have HY := Aside0.mk hY
  clear hk hs hf hg hm hJ hY
  refine callsIn_of_wp Tryd.func76 rfl trivial ?_ rfl
  simp only [Tryd.ntmps76, List.size_toArray, List.length_cons, List.length_nil, Nat.reduceAdd, Nat.reduceSub, Array.replicate_succ, Array.replicate_zero, List.push_toArray, List.append_toArray, List.nil_append, List.cons_append]
  gi_wp2
  gi_loopw [4] (fun v4 wr => ∃ (pre : List ByteArray) (t : ByteArray), wr.cell? ⟨Bs, 0, none⟩ = some (.string t) ∧ wr.frozen? ⟨Bs, 0, none⟩ = false ∧ wr.cell? ⟨Bg, 0, none⟩ = some (.int .u8 c) ∧ wr.cell? ⟨3, 0, none⟩ = some (.int .i64 m) ∧ t.size ≤ s.size ∧ Aside0 (pre ++ piecesS c t = piecesS c s) ∧ J pre wr) (fun _ wr => sizeOf' (wr.cell? ⟨Bs, 0, none⟩))
  case atStart => exact ⟨[], s, hs0, hf0, hg0, hm0, Nat.le_refl _, ⟨rfl⟩, h0⟩
  case round =>
    obtain ⟨pre, t, h1, h2, h3, h4, h5, h6, h7⟩ := hrel
    have hcv := one_string wr c
    have hcall := Tryd.strings_Cut t (strOfNums [c]) m (wr.alloc (.cells #[.int .u8 c] 5)) (by omega) (cell_of_heap h4 (Below.heap_alloc _ _ _ (cell_lt h4)))
    have hone : (strOfNums [c]).data.toList = [c.toNat.toUInt8] := rfl
    have hp := cut_pieces c.toNat.toUInt8 t.data.toList
    rw [hone] at hcall
    obtain ⟨cu, hcu⟩ : ∃ x, x = Lib.cut t.data.toList [c.toNat.toUInt8] := ⟨_, rfl⟩
    rw [← hcu] at hcall hp
    obtain ⟨l1, l2, more⟩ := cu
    simp only at hcall hp
    obtain ⟨x, hx⟩ : ∃ x : ByteArray, x = ⟨l1.toArray⟩ := ⟨_, rfl⟩
    obtain ⟨y, hy2⟩ : ∃ x : ByteArray, x = ⟨l2.toArray⟩ := ⟨_, rfl⟩
    rw [← hx, ← hy2] at hcall
    have hys : y.size = l2.length := by rw [hy2]; exact sizeOf_strOf l2
    have hts : t.size = t.data.toList.length := by rw [Array.length_toList]; rfl
    have HP := Aside0.mk hp; have HX := Aside0.mk hx; have HY2 := Aside0.mk hy2; have HYS := Aside0.mk hys; have HTS := Aside0.mk hts; have HCALL := Aside0.mk hcall
    have hty : piecesS c t = x :: (if more = true then piecesS c y else []) := by
      unfold piecesS
      rw [hp.1, hx, hy2]
      cases more <;> rfl
    have HTY0 := Aside0.mk hty
    have hpx : (pre ++ [x]) <+: piecesS c s := ⟨if more = true then piecesS c y else [], by rw [← h6.out, hty]; simp⟩
    clear hcu hp hx hy2 hys hts hcall hone hty
    gi_wp2_with (refine ⟨trivial, ?_⟩; gi_at_call 77; refine (callsIn_wide.2 HCALL.out).mono ?_; rintro e w2 ⟨rfl, q, rfl⟩; obtain ⟨fn, tmps, assign, body, hy, hR⟩ := HY.out pre x ((wr.alloc (.cells #[.int .u8 c] 5)).drewN q) (HJ.out _ _ _ none (HJ.out _ _ _ none h7 (World.grownBy_alloc _ _ none) (fun r e => by cases e)) (grown_of_below (pw_below_drewN (Below.refl _ _) q)) (fun r e => by cases e)) hpx)
    refine hR.mono ?_
    rintro e W3 ⟨rfl, hJ3, hk3, hsz3⟩
    have hsame : ∀ k, k < wr.heap.size → ((wr.alloc (.cells #[.int .u8 c] 5)).drewN q).heap[k]? = wr.heap[k]? := fun k hkl => Below.heap_alloc _ _ _ hkl
    have g1 : W3.cell? ⟨Bs, 0, none⟩ = some (.string t) := cell_of_heap h1 ((hk3 Bs (.inl rfl)).trans (hsame _ (cell_lt h1)))
    have g2 : W3.frozen? ⟨Bs, 0, none⟩ = false := frozen_of_heap h2 ((hk3 Bs (.inl rfl)).trans (hsame _ (cell_lt h1)))
    have g3 : W3.cell? ⟨Bg, 0, none⟩ = some (.int .u8 c) := cell_of_heap h3 ((hk3 Bg (.inr (.inl rfl))).trans (hsame _ (cell_lt h3)))
    have g4 : W3.cell? ⟨3, 0, none⟩ = some (.int .i64 m) := cell_of_heap h4 ((hk3 _ (.inr (.inr rfl))).trans (hsame _ (cell_lt h4)))
    clear hR hy hcv hsame h2 h3 h4 h7 hk3
    have hp := HP.out
    have hty := HTY0.out
    cases more with
    | true =>
      have hlt : y.size < t.size := by rw [HYS.out, HTS.out]; exact hp.2 rfl
      have HTY := Aside0.mk hty; have HLT := Aside0.mk hlt
      clear hp hty hlt
      gi_wp2
      have k1 : (W3.setCell ⟨Bs, 0, none⟩ (.string y)).cell? ⟨Bs, 0, none⟩ = some (.string y) := World.cell?_setCell_same' _ _ _ (by rw [g1]; rfl)
      go_roundw
      case rel => exact ⟨pre ++ [x], y, k1, (World.frozen?_setCell _ _ _ _).trans g2, cell_of_heap g3 (Below.heap_setCell _ _ _ _ (fun e => hne1 e.symm)), cell_of_heap g4 (Below.heap_setCell _ _ _ _ (fun e => hne2 e.symm)), by have := HLT.out; omega, ⟨by rw [← h6.out, HTY.out]; simp⟩, HJ.out _ _ _ (some Bs) hJ3 (grown_setCell W3 Bs 0 _) (fun r e => by cases e; rfl)⟩
      case measure => rw [k1, h1]; exact HLT.out
    | false =>
      clear hp
      gi_wp2
      refine bodyPost_ret (results_none rfl _ _ _) rfl ?_
      refine ⟨⟨_, rfl⟩, ?_⟩
      rw [← h6.out, hty]
      exact hJ3
end Go.Proofs.YtciagecaegoppaaDoor
namespace Go.Proofs.YtciagecaegoppaaDoor
set_option linter.unusedVariables false
open Go.RowKit Go.Shelf Go.Proofs.YtciagecaegoppaaDoorW.PrintWords Go.Proofs.YtciagecaegoppaaDoorW.PrintLast
attribute [local go_sem] Oper.semAt_some

theorem pieces_len (c : UInt8) (l : List UInt8) : (pieces c l).length ≤ l.length + 1 := by
  induction l with
  | nil => simp [pieces]
  | cons b r ih =>
    rw [pieces]
    by_cases h : b = c
    · rw [if_pos h]; simp; omega
    · rw [if_neg h]
      cases hp : pieces c r with
      | nil => simp
      | cons p ps => rw [hp] at ih; simp at ih ⊢; omega
theorem piecesS_len (c : Int) (s : ByteArray) : (piecesS c s).length ≤ s.size + 1 := by
  unfold piecesS
  rw [List.length_map]
  exact pieces_len _ _

/-- The texts that have come: the one that is looked for, or none. -/
def foundIn (n : Int) (l : List ByteArray) : ByteArray := if 1 ≤ n ∧ n ≤ (l.length : Int) then l.getD (n - 1).toNat ByteArray.empty else ByteArray.empty
theorem foundIn_snoc (n : Int) (l : List ByteArray) (x : ByteArray) : foundIn n (l ++ [x]) = if (l.length : Int) + 1 = n then x else foundIn n l := by
  unfold foundIn
  by_cases h : (l.length : Int) + 1 = n
  · rw [if_pos h, if_pos (by simp; omega)]
    have e : (n - 1).toNat = l.length := by omega
    rw [e]
    simp
  · rw [if_neg h]
    by_cases h1 : 1 ≤ n ∧ n ≤ (l.length : Int)
    · rw [if_pos h1, if_pos (by simp; omega)]
      rw [List.getD_eq_getElem?_getD, List.getD_eq_getElem?_getD, List.getElem?_append_left (by omega)]
    · rw [if_neg h1, if_neg (by simp; omega)]

theorem foundIn_nil (n : Int) : foundIn n [] = ⟨#[]⟩ := by unfold foundIn; rw [if_neg (by simp; omega)]; rfl

def segment_nth.f (a0 : ByteArray) (a1 a2 : Int) : Option (ByteArray × Int) := if a0.size < 4294967281 then some (foundIn a2 (piecesS a1 a0), ((piecesS a1 a0).length : Int)) else none

theorem between_calls (s : ByteArray) (c : Int) (w : World) : Calls Tryd.prog 63 #[.string s, .int .u8 c] w fun e w' =>
    e = .returned (.func (.func 76) #[] #[.pointer (some ⟨w.heap.size, 0, none⟩), .pointer (some ⟨w.heap.size + 1, 0, none⟩)]) ∧ w' = (w.alloc (.cells #[.string s] 9)).alloc (.cells #[.int .u8 c] 5) := by
  go_enter Tryd.func63, Tryd.ntmps63
  go_wp2
  go_ret
  exact ⟨rfl, rfl⟩

theorem new_cell (w : World) (v : Value) (t : TypeId) : (w.alloc (.cells #[v] t)).cell? ⟨w.heap.size, 0, none⟩ = some v := by simp
theorem new_frozen (w : World) (v : Value) (t : TypeId) : (w.alloc (.cells #[v] t)).frozen? ⟨w.heap.size, 0, none⟩ = false := by simp
theorem heap_old (w : World) (o : Obj) {k : Nat} (h : k < w.heap.size) : (w.alloc o).heap[k]? = w.heap[k]? := Below.heap_alloc _ _ _ h
theorem frozen_lt {w : World} {B j : Nat} {v : Bool} (hl : B < w.heap.size) (o : Obj) (h : w.frozen? ⟨B, j, none⟩ = v) : (w.alloc o).frozen? ⟨B, j, none⟩ = v := frozen_of_heap h (heap_old w o hl)
theorem cell_old {w : World} {B j : Nat} {v : Value} (o : Obj) (h : w.cell? ⟨B, j, none⟩ = some v) : (w.alloc o).cell? ⟨B, j, none⟩ = some v := cell_of_heap h (heap_old w o (cell_lt h))
theorem cell_grown {A C : World} {row : Option Nat} {B j : Nat} {v : Value} (h : A.cell? ⟨B, j, none⟩ = some v) (hg : A.grownBy C row) (hn : row ≠ some B) : C.cell? ⟨B, j, none⟩ = some v := cell_of_heap h (hg.block _ (cell_lt h) (fun e => hn e.symm))
theorem frozen_grown {A C : World} {row : Option Nat} {B j : Nat} {v : Bool} {u : Value} (hc : A.cell? ⟨B, j, none⟩ = some u) (h : A.frozen? ⟨B, j, none⟩ = v) (hg : A.grownBy C row) (hn : row ≠ some B) : C.frozen? ⟨B, j, none⟩ = v := frozen_of_heap h (hg.block _ (cell_lt hc) (fun e => hn e.symm))
theorem below_grown {N : Nat} {w A C : World} {row : Option Nat} (h : Below N w A) (hg : A.grownBy C row) (hN : N ≤ A.heap.size) (hn : ∀ r, row = some r → N ≤ r) : Below N w C :=
  ⟨hg.os.trans h.os, hg.tape.trans h.tape, hg.output.trans h.output, Nat.le_trans h.size hg.size, fun k hk => (hg.block k (by omega) (fun e => by have := hn k e.symm; omega)).trans (h.block k hk)⟩

set_option maxHeartbeats 2000000 in
set_option maxRecDepth 100000 in
theorem nth_main (s : ByteArray) (c n m : Int) (w : World) (hm : w.cell? ⟨3, 0, none⟩ = some (.int .i64 m)) (hsz : s.size < 4294967281) :
    Calls Tryd.prog 75 #[.string s, .int .u8 c, .int .i64 n] w fun e w' => e = .returned (.tuple #[.string (foundIn n (piecesS c s)), .int .i64 ((piecesS c s).length : Int)]) ∧ Below w.heap.size w w' := by
  have hml := cell_lt hm
  refine (callsIn_wide (n := 6)).1 ?_
  refine callsIn_of_wp_marks Tryd.func75 rfl trivial ?_ rfl
  simp only [Tryd.ntmps75, List.size_toArray, List.length_cons, List.length_nil, Nat.reduceAdd, Nat.reduceSub, Array.replicate_succ, Array.replicate_zero, List.push_toArray, List.append_toArray, List.nil_append, List.cons_append]
  gi_wp2_with (refine ⟨trivial, ?_⟩; gi_at_call 63; refine (callsIn_wide.2 (between_calls s c _)).mono ?_; rintro e w2 ⟨rfl, rfl⟩)
  obtain ⟨WA, hA⟩ : ∃ x, x = w.alloc (.cells #[.int .i64 n] 3) := ⟨_, rfl⟩
  obtain ⟨WB, hB⟩ : ∃ x, x = WA.alloc (.cells #[.string ⟨#[]⟩] 9) := ⟨_, rfl⟩
  obtain ⟨WC, hC⟩ : ∃ x, x = WB.alloc (.cells #[.int .i64 0] 3) := ⟨_, rfl⟩
  obtain ⟨WD, hD⟩ : ∃ x, x = WC.alloc (.cells #[.string s] 9) := ⟨_, rfl⟩
  obtain ⟨WE, hE⟩ : ∃ x, x = WD.alloc (.cells #[.int .u8 c] 5) := ⟨_, rfl⟩
  rw [← hA, ← hB, ← hC, ← hD, ← hE]
  have sA : WA.heap.size = w.heap.size + 1 := by rw [hA]; simp
  have sB : WB.heap.size = w.heap.size + 1 + 1 := by rw [hB, World.size_alloc, sA]
  have sC : WC.heap.size = w.heap.size + 1 + 1 + 1 := by rw [hC, World.size_alloc, sB]
  have sD : WD.heap.size = w.heap.size + 1 + 1 + 1 + 1 := by rw [hD, World.size_alloc, sC]
  have sE : WE.heap.size = w.heap.size + 1 + 1 + 1 + 1 + 1 := by rw [hE, World.size_alloc, sD]
  have c0 : WE.cell? ⟨w.heap.size, 0, none⟩ = some (.int .i64 n) := by rw [hE]; refine cell_old _ ?_; rw [hD]; refine cell_old _ ?_; rw [hC]; refine cell_old _ ?_; rw [hB]; refine cell_old _ ?_; rw [hA]; exact new_cell w _ _
  have c1 : WE.cell? ⟨w.heap.size + 1, 0, none⟩ = some (.string ⟨#[]⟩) := by rw [hE]; refine cell_old _ ?_; rw [hD]; refine cell_old _ ?_; rw [hC]; refine cell_old _ ?_; rw [hB, ← sA]; exact new_cell WA _ _
  have f1 : WE.frozen? ⟨w.heap.size + 1, 0, none⟩ = false := by rw [hE]; refine frozen_lt (by omega) _ ?_; rw [hD]; refine frozen_lt (by omega) _ ?_; rw [hC]; refine frozen_lt (by omega) _ ?_; rw [hB, ← sA]; exact new_frozen WA _ _
  have c2 : WE.cell? ⟨w.heap.size + 1 + 1, 0, none⟩ = some (.int .i64 0) := by rw [hE]; refine cell_old _ ?_; rw [hD]; refine cell_old _ ?_; rw [hC, ← sB]; exact new_cell WB _ _
  have f2 : WE.frozen? ⟨w.heap.size + 1 + 1, 0, none⟩ = false := by rw [hE]; refine frozen_lt (by omega) _ ?_; rw [hD]; refine frozen_lt (by omega) _ ?_; rw [hC, ← sB]; exact new_frozen WB _ _
  have c3 : WE.cell? ⟨w.heap.size + 1 + 1 + 1, 0, none⟩ = some (.string s) := by rw [hE]; refine cell_old _ ?_; rw [hD, ← sC]; exact new_cell WC _ _
  have f3 : WE.frozen? ⟨w.heap.size + 1 + 1 + 1, 0, none⟩ = false := by rw [hE]; refine frozen_lt (by omega) _ ?_; rw [hD, ← sC]; exact new_frozen WC _ _
  have c4 : WE.cell? ⟨w.heap.size + 1 + 1 + 1 + 1, 0, none⟩ = some (.int .u8 c) := by rw [hE, ← sD]; exact new_cell WD _ _
  have cm : WE.cell? ⟨3, 0, none⟩ = some (.int .i64 m) := by rw [hE]; refine cell_old _ ?_; rw [hD]; refine cell_old _ ?_; rw [hC]; refine cell_old _ ?_; rw [hB]; refine cell_old _ ?_; rw [hA]; exact cell_old _ hm
  have hbE : Below w.heap.size w WE := by rw [hE, hD, hC, hB, hA]; exact below_alloc (below_alloc (below_alloc (below_alloc (below_alloc (Below.refl _ _) _) _) _) _) _
  clear hA hB hC hD hE sA sB sC sD
  refine wpIn_range_all rfl (by omega) (gf := 76) (lb := #[.pointer (some ⟨w.heap.size + 1 + 1 + 1, 0, none⟩), .pointer (some ⟨w.heap.size + 1 + 1 + 1 + 1, 0, none⟩)]) rfl trivial (enters_of Tryd.func76 (by kernel_rfl) rfl)
    (between_gives (w.heap.size + 1 + 1 + 1) (w.heap.size + 1 + 1 + 1 + 1) s c m WE _ (by omega) c3 f3 c4 cm (by omega) (by omega) hsz) (fun k hk => by rcases hk with rfl | rfl | rfl <;> omega) (by omega) (fun _ => rfl)
    (fun pre W => W.cell? ⟨w.heap.size, 0, none⟩ = some (.int .i64 n) ∧ W.cell? ⟨w.heap.size + 1, 0, none⟩ = some (.string (foundIn n pre)) ∧ W.frozen? ⟨w.heap.size + 1, 0, none⟩ = false ∧ W.cell? ⟨w.heap.size + 1 + 1, 0, none⟩ = some (.int .i64 (pre.length : Int)) ∧ W.frozen? ⟨w.heap.size + 1 + 1, 0, none⟩ = false ∧ w.heap.size ≤ W.heap.size ∧ Below w.heap.size w W)
    (fun pre A C row ⟨h1, h2, h3, h4, h5, h6, h7⟩ hg hr => by
      have hne : ∀ B, B < w.heap.size + 1 + 1 + 1 → row ≠ some B := fun B hB e => by rcases hr B e with h | ⟨h, _⟩ <;> omega
      exact ⟨cell_grown h1 hg (hne _ (by omega)), cell_grown h2 hg (hne _ (by omega)), frozen_grown h2 h3 hg (hne _ (by omega)), cell_grown h4 hg (hne _ (by omega)), frozen_grown h4 h5 hg (hne _ (by omega)), Nat.le_trans h6 hg.size, below_grown h7 hg h6 (fun r e => by rcases hr r e with h | ⟨h, _⟩ <;> omega)⟩)
    ⟨c0, by rw [foundIn_nil]; exact c1, f1, c2, f2, by omega, hbE⟩
    (fun x => { tmps := #[.string s, .int .u8 c, .int .i64 n, undef, undef, .pointer (some ⟨w.heap.size, 0, none⟩), .string ⟨#[]⟩, .int .i64 0, .pointer (some ⟨w.heap.size + 1, 0, none⟩), .pointer (some ⟨w.heap.size + 1 + 1, 0, none⟩), .string x, .string s, .int .u8 c, .func (.func 76) #[] #[.pointer (some ⟨w.heap.size + 1 + 1 + 1, 0, none⟩), .pointer (some ⟨w.heap.size + 1 + 1 + 1 + 1, 0, none⟩)], .string x, undef, undef, undef, undef, undef, undef, undef, undef], defers := [] }) ?assign ?body ?done
  case assign =>
    intro l x W K hK
    gi_wp2
    exact hK
  case body =>
    rintro l pre x W ⟨h1, h2, h3, h4, h5, h6, h7⟩ hpx hs6
    have hlen : pre.length + 1 ≤ 4294967282 := by
      have h8 := hpx.length_le
      have h9 := piecesS_len c s
      simp only [List.length_append, List.length_cons, List.length_nil] at h8
      omega
    have hw1 : wrap64 ((pre.length : Int) + 1) = (pre.length : Int) + 1 := by unfold wrap64; omega
    have hfs := foundIn_snoc n pre x
    have HFS := Aside0.mk hfs
    clear hfs
    by_cases hk : (pre.length : Int) + 1 = n
    · gi_wp2
      have hs2 : ∀ k, k ≠ w.heap.size + 1 → k ≠ w.heap.size + 1 + 1 → ((W.setCell { block := w.heap.size + 1 + 1, off := 0 } (Value.int IntKind.i64 n)).setCell { block := w.heap.size + 1, off := 0 } (Value.string x)).heap[k]? = W.heap[k]? := fun k e1 e2 =>
        (Below.heap_setCell _ _ _ _ e1).trans (Below.heap_setCell _ _ _ _ e2)
      exact ⟨fun k o g1 g2 _ => (hs2 k (by omega) (by omega)).trans g1, ⟨hs2 _ (by omega) (by omega), hs2 _ (by omega) (by omega), hs2 _ (by omega) (by omega)⟩, by rw [HFS.out, if_pos hk], (h7.setCell (p := ⟨w.heap.size + 1 + 1, 0, none⟩) (by simp; omega) _).setCell (p := ⟨w.heap.size + 1, 0, none⟩) (by simp) _⟩
    · gi_wp2
      have hs2 : ∀ k, k ≠ w.heap.size + 1 + 1 → (W.setCell { block := w.heap.size + 1 + 1, off := 0 } (Value.int IntKind.i64 ((pre.length : Int) + 1))).heap[k]? = W.heap[k]? := fun k e2 =>
        Below.heap_setCell _ _ _ _ e2
      exact ⟨fun k o g1 g2 _ => (hs2 k (by omega)).trans g1, ⟨hs2 _ (by omega), hs2 _ (by omega), hs2 _ (by omega)⟩, by rw [HFS.out, if_neg hk], h7.setCell (p := ⟨w.heap.size + 1 + 1, 0, none⟩) (by simp; omega) _⟩
  case done =>
    rintro D W ⟨h1, h2, h3, h4, h5, h6, h7⟩ hK hDl
    have hmx : Tryd.prog.follows .mixedOrders = true := by kernel_rfl
    gi_wp2
    gi_quiet (fail)
    all_goals gi_wp2
    have hK2 : (W.drewN nq).heap[D]? = some (.deferred (some [])) := hK
    refine ⟨by simp, .inl ⟨_, _, rfl, run_takeDeferred hK2, ?_⟩⟩
    refine ⟨_, results_tmp2 rfl _ _ _, ?_⟩
    refine ⟨rfl, ?_⟩
    exact below_grown (h7.trans ((pw_below_drewN (Below.refl _ _) nq).mono h6)) (grownBy_putObj' _ D _) (Nat.le_trans h6 (Nat.le_refl _)) (fun r e => by cases e; omega)
end Go.Proofs.YtciagecaegoppaaDoor
namespace Go.Proofs.YtciagecaegoppaaDoor
set_option linter.unusedVariables false
open Go.RowKit Go.Shelf Go.Proofs.YtciagecaegoppaaDoorW.PrintWords Go.Proofs.YtciagecaegoppaaDoorW.PrintLast
attribute [local go_sem] Oper.semAt_some

theorem infoStr : (Tryd.prog.info? 9).map (fun i => (i.zero, i.size, i.bytes)) = some (some (.string ByteArray.empty), 1, 16) := by kernel_rfl

def splitS (l : List Int) : List ByteArray := if ((piecesS 13 (strOfNums l)).getLastD ByteArray.empty).toList.isEmpty = true then (piecesS 13 (strOfNums l)).dropLast else piecesS 13 (strOfNums l)

set_option maxHeartbeats 2000000 in
set_option maxRecDepth 100000 in
theorem split_main (A : Option Addr) (c0 : Nat) (l0 : List Int) (m : Int) (w : World) (hr0 : Kd.C (Kd.int .u8) w A l0.length l0) (hm : w.cell? ⟨3, 0, none⟩ = some (.int .i64 m)) (hsz : l0.length < 4294967281) :
    Calls Tryd.prog 35 #[.slice A l0.length c0] w fun e w' => ∃ v, e = .returned v ∧ Kd.R Kd.string 9 w' w.heap.size (fun _ => True) v (splitS l0) ∧ Below w.heap.size w w' := by
  have hml := cell_lt hm
  have hcv := Kd.C_string (c := c0) Tryd.underlying26 Tryd.underlying5 Tryd.underlying9 (Kd.C_below hr0 (below_alloc (Below.refl _ _) (.cells #[.slice none 0 0] 41)))
  obtain ⟨s, hs⟩ : ∃ s, s = strOfNums l0 := ⟨_, rfl⟩
  have hss : s.size < 4294967281 := by rw [hs]; simp [strOfNums, ByteArray.size]; exact hsz
  rw [← hs] at hcv
  have HS := Aside0.mk hs
  clear hs
  refine (callsIn_wide (n := 6)).1 ?_
  refine callsIn_of_wp_marks Tryd.func35 rfl trivial ?_ rfl
  simp only [Tryd.ntmps35, List.size_toArray, List.length_cons, List.length_nil, Nat.reduceAdd, Nat.reduceSub, Array.replicate_succ, Array.replicate_zero, List.push_toArray, List.append_toArray, List.nil_append, List.cons_append]
  gi_wp2_with (refine ⟨trivial, ?_⟩; gi_at_call 63; refine (callsIn_wide.2 (between_calls s 13 _)).mono ?_; rintro e w2 ⟨rfl, rfl⟩)
  obtain ⟨WA, hA⟩ : ∃ x, x = w.alloc (.cells #[.slice none 0 0] 41) := ⟨_, rfl⟩
  obtain ⟨WB, hB⟩ : ∃ x, x = WA.alloc (.cells #[.string s] 9) := ⟨_, rfl⟩
  obtain ⟨WE, hE⟩ : ∃ x, x = WB.alloc (.cells #[.int .u8 13] 5) := ⟨_, rfl⟩
  rw [← hA, ← hB, ← hE]
  have sA : WA.heap.size = w.heap.size + 1 := by rw [hA]; simp
  have sB : WB.heap.size = w.heap.size + 1 + 1 := by rw [hB, World.size_alloc, sA]
  have sE : WE.heap.size = w.heap.size + 1 + 1 + 1 := by rw [hE, World.size_alloc, sB]
  have b0 : Boxed WE w.heap.size 41 (.slice none 0 0) := by rw [hE, hB, hA]; exact ((Boxed.new w _ _).alloc _).alloc _
  have c3 : WE.cell? ⟨w.heap.size + 1, 0, none⟩ = some (.string s) := by rw [hE]; refine cell_old _ ?_; rw [hB, ← sA]; exact new_cell WA _ _
  have f3 : WE.frozen? ⟨w.heap.size + 1, 0, none⟩ = false := by rw [hE]; refine frozen_lt (by omega) _ ?_; rw [hB, ← sA]; exact new_frozen WA _ _
  have c4 : WE.cell? ⟨w.heap.size + 1 + 1, 0, none⟩ = some (.int .u8 13) := by rw [hE, ← sB]; exact new_cell WB _ _
  have cm : WE.cell? ⟨3, 0, none⟩ = some (.int .i64 m) := by rw [hE]; refine cell_old _ ?_; rw [hB]; refine cell_old _ ?_; rw [hA]; exact cell_old _ hm
  have hbE : Below w.heap.size w WE := by rw [hE, hB, hA]; exact below_alloc (below_alloc (below_alloc (Below.refl _ _) _) _) _
  clear hA hB hE sA sB hcv
  obtain ⟨i0, hi, hz0, hz1, hz2⟩ := info_parts infoStr
  refine wpIn_range_all rfl (by omega) (gf := 76) (lb := #[.pointer (some ⟨w.heap.size + 1, 0, none⟩), .pointer (some ⟨w.heap.size + 1 + 1, 0, none⟩)]) rfl trivial (enters_of Tryd.func76 (by kernel_rfl) rfl)
    (between_gives (w.heap.size + 1) (w.heap.size + 1 + 1) s 13 m WE _ (by omega) c3 f3 c4 cm (by omega) (by omega) hss) (fun k hk => by rcases hk with rfl | rfl | rfl <;> omega) (by omega) (fun _ => rfl)
    (fun pre W => (∃ v, Boxed W w.heap.size 41 v ∧ W.ownsRow WE.heap.size 9 1 v pre.length (pre.map Value.string)) ∧ WE.heap.size ≤ W.heap.size ∧ Below w.heap.size w W)
    (fun pre A C row ⟨⟨v, h1, h2⟩, h3, h4⟩ hg hr => by
      have hne : row ≠ some w.heap.size := fun e => by rcases hr _ e with h | ⟨h, _⟩ <;> omega
      refine ⟨⟨v, h1.kept hg (fun e => hne e.symm), h2.kept hg ?_⟩, Nat.le_trans h3 hg.size, below_grown h4 hg (by omega) (fun r e => by rcases hr r e with h | ⟨h, _⟩ <;> omega)⟩
      rcases h2.2 with ⟨rfl, _⟩ | ⟨g, cap, cur, rfl, hge, hgb, _⟩
      · exact .inl rfl
      · refine .inr fun e => ?_
        rcases hr g e.symm with h | ⟨h, o, ho, hc⟩
        · omega
        · rw [hgb] at ho; cases ho; cases hc)
    ⟨⟨_, b0, World.ownsRow_nil _ _ _ _⟩, Nat.le_refl _, hbE⟩
    (fun x => { tmps := #[.slice A l0.length c0, undef, .slice none 0 0, .pointer (some ⟨w.heap.size, 0, none⟩), .string x, undef, .slice A l0.length c0, .string s, .func (.func 76) #[] #[.pointer (some ⟨w.heap.size + 1, 0, none⟩), .pointer (some ⟨w.heap.size + 1 + 1, 0, none⟩)], .string x, undef, undef, undef, undef, undef, undef, undef, undef, undef, undef, undef, undef, undef, undef, undef, undef], defers := [] }) ?assign ?body ?done
  case assign =>
    intro l x W K hK
    gi_wp2
    exact hK
  case body =>
    rintro l pre x W ⟨⟨v, hv, hrow⟩, h6, h7⟩ hpx hs6
    have hlen : pre.length + 1 ≤ 4294967282 := by
      have h8 := hpx.length_le
      have h9 := piecesS_len 13 s
      simp only [List.length_append, List.length_cons, List.length_nil] at h8
      omega
    have hmx : pre.length + 1 ≤ maxLen := by have : maxLen = 9223372036854775807 := rfl; omega
    have hc0 := hv.cell
    have hf0 := hv.frozen
    gi_wp2_with (gi_at_builtin; refine wpListIn_append_own _ rfl _ _ 41 rfl WE.heap.size 9 i0 (.string ByteArray.empty) 1 16 Tryd.underlying41 hi hz0 hz1 hz2 rfl (by decide) _ _ _ rfl (hrow.alloc _) ⟨W.heap.size, 0, none⟩ 1 1 [.string x] rfl rfl (cell_one_new _ _ _) (by simp [Value.oneCell']) hmx (by omega) (by simp; omega) ?_; intro v' w1 hown' hgrow _; obtain ⟨g', cap', rfl⟩ := ownsRow_succ hown'; have hv1 : Boxed w1 w.heap.size 41 v := (hv.alloc _).kept hgrow (hv.not_row (by decide) hrow); have hc1 := hv1.cell; have hf1 := hv1.frozen)
    have hblk : ∀ k, k < W.heap.size → v.ownBlock ≠ some k → w1.heap[k]? = W.heap[k]? := fun k hk hn => (hgrow.block k (by simp; omega) (fun e => hn e.symm)).trans (Below.heap_alloc _ _ _ hk)
    have hbase : ∀ k, v.ownBlock = some k → w.heap.size + 1 + 1 + 1 ≤ k := fun k hk => by have := own_base hrow k hk; omega
    have hlow : ∀ k, k < w.heap.size + 1 + 1 + 1 → k ≠ w.heap.size → (w1.setCell { block := w.heap.size, off := 0 } (Value.slice (some { block := g', off := 0 }) (pre.length + 1) cap')).heap[k]? = W.heap[k]? := fun k hk hn =>
      (Below.heap_setCell _ _ _ _ hn).trans (hblk k (by omega) (fun e => by have := hbase k e; omega))
    have hszw : W.heap.size ≤ w1.heap.size := by have := hgrow.size; simp at this; omega
    refine ⟨fun k o g1 g2 g3 => (Below.heap_setCell _ _ _ _ (show k ≠ w.heap.size by omega)).trans ((hblk k (Array.getElem?_eq_some_iff.1 g1).1 (fun e => ?_)).trans g1), ⟨hlow _ (by omega) (by omega), hlow _ (by omega) (by omega), hlow _ (by omega) (by omega)⟩, hszw, ⟨_, hv1.set _, ?_⟩, by omega, ?_⟩
    · obtain ⟨cells, hc⟩ := own_typed hrow k e
      rw [hc] at g1
      cases g1
      cases g3
    · rw [← sE]
      exact hown'.kept (grownBy_setCell' w1 _ _) (.inr (hv1.not_row (by decide) hown').symm)
    · exact (below_grown (below_alloc h7 _) hgrow (by simp; omega) (fun r e => by have := hbase r e; omega)).setCell (p := ⟨w.heap.size, 0, none⟩) (Nat.le_refl _) _
  case done =>
    rintro D W ⟨⟨v, hv, hrow⟩, h6, h7⟩ hK hDl
    obtain ⟨L, hL⟩ : ∃ L, L = piecesS 13 s := ⟨_, rfl⟩
    rw [← hL] at hrow
    have hLl : L.length ≤ s.size + 1 := by rw [hL]; exact piecesS_len _ _
    obtain ⟨k, hk⟩ : ∃ k, L.length = k + 1 := by
      have h1 : L ≠ [] := by
        rw [hL]
        unfold piecesS
        have h2 := (cut_pieces (13 : Int).toNat.toUInt8 s.data.toList).1
        rw [h2]
        simp
      cases L with
      | nil => exact absurd rfl h1
      | cons a r => exact ⟨r.length, rfl⟩
    have hsp : splitS l0 = if (L.getLastD ByteArray.empty).toList.isEmpty = true then L.dropLast else L := by unfold splitS; rw [← HS.out, ← hL]
    have HSP := Aside0.mk hsp
    have HL := Aside0.mk hL
    clear hL hsp
    rw [hk] at hrow
    obtain ⟨g, cap, rfl⟩ := ownsRow_succ hrow
    obtain ⟨x, hx⟩ : ∃ x, L[k]? = some x := ⟨L[k], List.getElem?_eq_getElem (by omega)⟩
    have hcell := hrow.cells (g := g) rfl k (.string x) (by rw [List.getElem?_map, hx]; rfl)
    have hlast : L.getLastD ByteArray.empty = x := by
      rw [List.getLastD_eq_getLast?, List.getLast?_eq_getElem?, hk, Nat.add_sub_cancel, hx]
      rfl
    have hw1 : wrap64 ((k : Nat) : Int) = (k : Int) := by unfold wrap64; omega
    rw [show (⟨g, 0, none⟩ : Addr).add k = ⟨g, k, none⟩ by simp [Addr.add]; intro h; exact h.symm] at hcell
    have hcapn : k ≤ cap := by
      rcases hrow.2 with ⟨h, _⟩ | ⟨g2, cap2, cur2, he, _, _, h, _, _, _⟩
      · cases h
      · injection he with _ _ he
        rw [he]
        exact Nat.le_of_succ_le h
    have hcap : (k : Int) ≤ (cap : Int) := Int.ofNat_le.mpr hcapn
    have hc0 := hv.cell
    have hf0 := hv.frozen
    have HLAST := Aside0.mk hlast; have HKK := Aside0.mk hk; have HLL := Aside0.mk hLl; have HROW := Aside0.mk hrow
    clear hlast hk hLl hrow hx
    have fin : ∀ (W3 : World), W3.heap[D]? = some (.deferred (some [])) → W3.ownsRow WE.heap.size 9 1 (.slice (some ⟨g, 0, none⟩) (k + 1) cap) (k + 1) (L.map Value.string) → Below w.heap.size w W3 → w.heap.size ≤ W3.heap.size →
        Kd.R Kd.string 9 (W3.putObj D (.deferred none)) w.heap.size (fun _ => True) (.slice (some ⟨g, 0, none⟩) (k + 1) cap) L ∧ Below w.heap.size w (W3.putObj D (.deferred none)) := fun W3 hD hr hb hs => by
      have hr2 := ownsRow_putObj hr (.deferred none) hD rfl
      refine ⟨Kd.R_lower (Kd.R_of_own (by rw [HKK.out]; exact hr2) (fun _ _ => trivial)) (by omega), below_grown hb (grownBy_putObj' _ D _) hs (fun r e => by cases e; omega)⟩
    have HFIN := Aside0.mk fin
    clear fin
    cases hxe : x.toList.isEmpty with
    | true =>
      gi_wp2
      have hK2 : (W.setCell { block := w.heap.size, off := 0 } (Value.slice (some { block := g, off := 0 }) k cap)).heap[D]? = some (.deferred (some [])) := (Below.heap_setCell _ _ _ _ (show D ≠ w.heap.size by omega)).trans hK
      have hgb := own_base HROW.out g rfl
      obtain ⟨r1, r2⟩ := HFIN.out _ hK2 (HROW.out.kept (grownBy_setCell' W _ _) (.inr (by simp [Value.ownBlock]; omega))) (h7.setCell (p := ⟨w.heap.size, 0, none⟩) (Nat.le_refl _) _) (by simp [World.setCell]; omega)
      refine ⟨by simp, .inl ⟨_, _, rfl, run_takeDeferred hK2, ?_⟩⟩
      refine ⟨_, results_tmp rfl _ _ _, _, rfl, ?_, r2⟩
      rw [HSP.out, HLAST.out, if_pos hxe, List.dropLast_eq_take, HKK.out, Nat.add_sub_cancel]
      exact Kd.R_take r1 (by rw [HKK.out]; exact Nat.le_succ _)
    | false =>
      gi_wp2
      obtain ⟨r1, r2⟩ := HFIN.out _ hK HROW.out h7 (by omega)
      refine ⟨by simp, .inl ⟨_, _, rfl, run_takeDeferred hK, ?_⟩⟩
      refine ⟨_, results_tmp rfl _ _ _, _, rfl, ?_, r2⟩
      rw [HSP.out, HLAST.out, if_neg (by rw [hxe]; decide)]
      exact r1
end Go.Proofs.YtciagecaegoppaaDoor
namespace Go.Proofs.YtciagecaegoppaaDoor
set_option linter.unusedVariables false
set_option maxRecDepth 100000
open Go.RowKit Go.Proofs.YtciagecaegoppaaDoorW.PrintWords Go.Proofs.YtciagecaegoppaaDoorW.PrintLast

def codesL : List ByteArray := ["AA".toUTF8, "AE".toUTF8, "AR".toUTF8]
def versionsL : List ByteArray := ["2.1".toUTF8, "2.2".toUTF8, "2.3".toUTF8, "2.3.1".toUTF8, "2.4".toUTF8, "2.5".toUTF8, "2.5.1".toUTF8, "2.6".toUTF8, "2.7".toUTF8, "2.8".toUTF8]
structure GlobA (w : World) : Prop where
  frame : Glob w
  codes : ∀ j, j < 3 → w.cell? ⟨2, j, none⟩ = some (.string (codesL.getD j ByteArray.empty))
  versions : ∀ j, j < 10 → w.cell? ⟨0, j, none⟩ = some (.string (versionsL.getD j ByteArray.empty))
theorem GlobA.below {w w' : World} (h : GlobA w) (hb : Below w.heap.size w w') : GlobA w' :=
  ⟨h.frame.below hb, fun j hj => pw_cell_below hb (h.codes j hj), fun j hj => pw_cell_below hb (h.versions j hj)⟩

/-- The frame's functions, over this seat's variables. -/
def frameA_Good.f (l0 : List Int) := frame_Good.f l0
theorem frameA_Good.calls (A0 : Option Addr) (c0 : Nat) (l0 : List Int) (r : Bool) (w : World) (hG : GlobA w) (hr0 : Kd.C (Kd.int .u8) w A0 l0.length l0) (hc0 : l0.length ≤ c0) (h : frameA_Good.f l0 = some r) :
    Calls Tryd.prog 29 #[.slice A0 l0.length c0] w fun e w' => e = .returned (.bool r) ∧ Below w.heap.size w w' :=
  _root_.Go.Proofs.YtciagecaegoppaaDoor.frame_Good.calls A0 c0 l0 r w hG.frame hr0 hc0 h
def frameA_Wrap.f (l0 : List Int) := frame_Wrap.f l0
theorem frameA_Wrap.calls (A0 : Option Addr) (c0 : Nat) (l0 : List Int) (r1 : List Int) (r2 : Int) (w : World) (hG : GlobA w) (hr0 : Kd.C (Kd.int .u8) w A0 l0.length l0) (hc0 : l0.length ≤ c0) (h : frameA_Wrap.f l0 = some (r1, r2)) :
    Calls Tryd.prog 31 #[.slice A0 l0.length c0] w fun e w' => ∃ v0_ : Value, e = .returned (.tuple #[v0_, .int .i64 r2]) ∧ Kd.R (Kd.int .u8) 5 w' w.heap.size (fun _ => True) v0_ r1 ∧ Below w.heap.size w w' :=
  _root_.Go.Proofs.YtciagecaegoppaaDoor.frame_Wrap.calls A0 c0 l0 r1 r2 w hG.frame hr0 hc0 h
def frameA_Unwrap.f (l0 : List Int) := frame_Unwrap.f l0
theorem frameA_Unwrap.calls (A0 : Option Addr) (c0 : Nat) (l0 : List Int) (r1 : List Int) (r2 : Int) (w : World) (hG : GlobA w) (hr0 : Kd.C (Kd.int .u8) w A0 l0.length l0) (hc0 : l0.length ≤ c0) (h : frameA_Unwrap.f l0 = some (r1, r2)) :
    Calls Tryd.prog 16 #[.slice A0 l0.length c0] w fun e w' => ∃ v0_ : Value, e = .returned (.tuple #[v0_, .int .i64 r2]) ∧ Kd.R (Kd.int .u8) 5 w' w.heap.size (fun _ => True) v0_ r1 ∧ Below w.heap.size w w' :=
  _root_.Go.Proofs.YtciagecaegoppaaDoor.frame_Unwrap.calls A0 c0 l0 r1 r2 w hG.frame hr0 hc0 h
end Go.Proofs.YtciagecaegoppaaDoor
namespace Go.Proofs.YtciagecaegoppaaDoor
set_option linter.unusedVariables false
set_option maxRecDepth 100000
open Go.RowKit Go.Proofs.YtciagecaegoppaaDoorW.PrintWords Go.Proofs.YtciagecaegoppaaDoorW.PrintLast

def bytes_IndexByte.f (l0 : List Int) (a1 : Int) : Option Int := some (Lib.indexByte (Lib.bytesOf l0) a1.toNat.toUInt8)
theorem bytes_IndexByte.calls (A0 : Option Addr) (c0 : Nat) (l0 : List Int) (a1 : Int) (r : Int) (w : World) (hr0 : Kd.C (Kd.int .u8) w A0 l0.length l0) (hc0 : l0.length ≤ c0) (h : bytes_IndexByte.f l0 a1 = some r) :
    Calls Tryd.prog 25 #[.slice A0 l0.length c0, .int .u8 a1] w fun e w' => e = .returned (.int .i64 r) ∧ Drawn0 w w' := by
  obtain rfl := Option.some.inj h
  exact (indexByte_any A0 c0 l0 w hr0 a1).mono fun e w' ⟨he, hw⟩ => ⟨he, by rw [hw]; exact Drawn0.refl _⟩

def strings_Cut.f (a0 a1 : ByteArray) : Option (ByteArray × ByteArray × Bool) :=
  if a0.size < 4294967281 then some (⟨(Lib.cut a0.data.toList a1.data.toList).1.toArray⟩, ⟨(Lib.cut a0.data.toList a1.data.toList).2.1.toArray⟩, (Lib.cut a0.data.toList a1.data.toList).2.2) else none
theorem strings_Cut.calls (a0 a1 : ByteArray) (r1 r2 : ByteArray) (r3 : Bool) (w : World) (hG : GlobA w) (h : strings_Cut.f a0 a1 = some (r1, r2, r3)) :
    Calls Tryd.prog 77 #[.string a0, .string a1] w fun e w' => e = .returned (.tuple #[.string r1, .string r2, .bool r3]) ∧ Drawn0 w w' := by
  unfold strings_Cut.f at h
  by_cases hs : a0.size < 4294967281
  · rw [if_pos hs] at h
    obtain ⟨m, hm⟩ := hG.frame.max
    have h := Option.some.inj h
    simp only [Prod.mk.injEq] at h
    obtain ⟨rfl, rfl, rfl⟩ := h
    exact (Tryd.strings_Cut a0 a1 m w hs hm).mono fun e w' ⟨he, hw⟩ => ⟨he, ⟨hw⟩⟩
  · rw [if_neg hs] at h
    cases h

def strings_Contains.f (a0 a1 : ByteArray) : Option Bool := if a0.size < 4294967281 then some (Lib.contains a0.data.toList a1.data.toList) else none
theorem strings_Contains.calls (a0 a1 : ByteArray) (r : Bool) (w : World) (hG : GlobA w) (h : strings_Contains.f a0 a1 = some r) :
    Calls Tryd.prog 21 #[.string a0, .string a1] w fun e w' => e = .returned (.bool r) ∧ Drawn0 w w' := by
  unfold strings_Contains.f at h
  by_cases hs : a0.size < 4294967281
  · rw [if_pos hs] at h
    obtain ⟨m, hm⟩ := hG.frame.max
    obtain rfl := Option.some.inj h
    exact (Tryd.strings_Contains a0 a1 m w hs hm).mono fun e w' ⟨he, hw⟩ => ⟨he, by rw [hw]; exact Drawn0.refl _⟩
  · rw [if_neg hs] at h
    cases h

theorem segment_nth.calls (a0 : ByteArray) (a1 a2 : Int) (r1 : ByteArray) (r2 : Int) (w : World) (hG : GlobA w) (h : segment_nth.f a0 a1 a2 = some (r1, r2)) :
    Calls Tryd.prog 75 #[.string a0, .int .u8 a1, .int .i64 a2] w fun e w' => e = .returned (.tuple #[.string r1, .int .i64 r2]) ∧ Below w.heap.size w w' := by
  unfold segment_nth.f at h
  by_cases hs : a0.size < 4294967281
  · rw [if_pos hs] at h
    obtain ⟨m, hm⟩ := hG.frame.max
    have h := Option.some.inj h
    simp only [Prod.mk.injEq] at h
    obtain ⟨rfl, rfl⟩ := h
    exact nth_main a0 a1 a2 m w hm hs
  · rw [if_neg hs] at h
    cases h

def segment_Split.f (l0 : List Int) : Option (List ByteArray) := if l0.length < 4294967281 then some (splitS l0) else none
theorem segment_Split.calls (A0 : Option Addr) (c0 : Nat) (l0 : List Int) (r : List ByteArray) (w : World) (hG : GlobA w) (hr0 : Kd.C (Kd.int .u8) w A0 l0.length l0) (hc0 : l0.length ≤ c0) (h : segment_Split.f l0 = some r) :
    Calls Tryd.prog 35 #[.slice A0 l0.length c0] w fun e w' => ∃ v0_ : Value, e = .returned v0_ ∧ Kd.R Kd.string 9 w' w.heap.size (fun _ => True) v0_ r ∧ Below w.heap.size w w' := by
  unfold segment_Split.f at h
  by_cases hs : l0.length < 4294967281
  · rw [if_pos hs] at h
    obtain ⟨m, hm⟩ := hG.frame.max
    obtain rfl := Option.some.inj h
    exact split_main A0 c0 l0 m w hr0 hm hs
  · rw [if_neg hs] at h
    cases h
end Go.Proofs.YtciagecaegoppaaDoor
namespace Go.Proofs.YtciagecaegoppaaDoor
set_option linter.unusedVariables false
open Go.RowKit Go.Proofs.YtciagecaegoppaaDoorW.PrintWords Go.Proofs.YtciagecaegoppaaDoorW.PrintLast

def joinS (l : List ByteArray) (sep : ByteArray) : List UInt8 := Lib.join (l.map (·.data.toList)) sep.data.toList
def strings_Join.f (l0 : List ByteArray) (a1 : ByteArray) : Option ByteArray :=
  if l0.length ≤ 140737488355328 ∧ (joinS l0 a1).length ≤ 140737488355328 then some ⟨(joinS l0 a1).toArray⟩ else none
theorem strings_Join.calls (A0 : Option Addr) (c0 : Nat) (l0 : List ByteArray) (a1 : ByteArray) (r : ByteArray) (w : World) (hr0 : Kd.C Kd.string w A0 l0.length l0) (hc0 : l0.length ≤ c0) (h : strings_Join.f l0 a1 = some r) :
    Calls Tryd.prog 52 #[.slice A0 l0.length c0, .string a1] w fun e w' => e = .returned (.string r) ∧ Below w.heap.size w w' := by
  unfold strings_Join.f at h
  split at h
  case isFalse => cases h
  rename_i hb
  obtain rfl := Option.some.inj h
  rcases Nat.eq_zero_or_pos l0.length with hz | hp
  · obtain rfl : l0 = [] := List.length_eq_zero_iff.1 hz
    exact (Tryd.strings_Join_none A0 c0 a1 w).mono fun e w' ⟨he, hw⟩ => ⟨he, hw ▸ Below.refl _ _⟩
  · obtain ⟨ad, rfl, hc⟩ := Kd.at_string hr0 0 (by omega) (by omega)
    obtain ⟨b, o, sp⟩ := ad
    have hsp : sp = none := by
      cases sp with
      | none => rfl
      | some s =>
        simp [World.cell?, Addr.add] at hc
        split at hc <;> simp at hc
    subst hsp
    refine Tryd.strings_Join b o c0 l0 a1 w (fun j x hj => ?_) (World.block_lt_of_cell? _ _ hc) hb.1 hc0 hb.2
    obtain ⟨hl, hx⟩ := List.getElem?_eq_some_iff.1 hj
    obtain ⟨ad, e, hc⟩ := Kd.at_string hr0 (j : Int) (by omega) (by omega)
    cases e
    rw [Int.toNat_natCast, show (⟨b, o, none⟩ : Addr).add j = ⟨b, o + j, none⟩ from by unfold Addr.add; split <;> simp_all] at hc
    simpa [rdOf, List.getD_eq_getElem?_getD, hj] using hc
end Go.Proofs.YtciagecaegoppaaDoor
namespace Go.Proofs.YtciagecaegoppaaDoor
set_option linter.unusedVariables false
set_option maxRecDepth 100000
open Go.RowKit Go.Proofs.YtciagecaegoppaaDoorW.PrintWords Go.Proofs.YtciagecaegoppaaDoorW.PrintLast

def ack_Known.f (a0 : ByteArray) : Option Bool := some (Lib.containsS codesL a0)
set_option maxHeartbeats 1000000 in
theorem ack_Known.calls (a0 : ByteArray) (r : Bool) (w : World) (hG : GlobA w) (h : ack_Known.f a0 = some r) :
    Calls Tryd.prog 38 #[.string a0] w fun e w' => e = .returned (.bool r) ∧ Below w.heap.size w w' := by
  obtain rfl := Option.some.inj h
  have HG := Aside0.mk hG
  have HB := Aside0.mk (Below.refl w.heap.size w)
  have hC : Calls Tryd.prog 27 #[.slice (some ⟨2, 0, none⟩) 3 3, .string a0] w fun e w' => e = .returned (.bool (Lib.containsS codesL a0)) ∧ w' = w :=
    Tryd.slices_Contains_string 2 0 3 3 codesL a0 w (Nat.le_refl _) (by omega) (fun j hj => by rw [Nat.zero_add]; exact hG.codes j hj)
  clear hG h
  go_enter Tryd.func38, Tryd.ntmps38
  go_wp2_with (go_at_call 27; refine hC.mono ?_; rintro e w' ⟨rfl, rfl⟩)
  go_ret
  exact ⟨rfl, HB.out⟩
end Go.Proofs.YtciagecaegoppaaDoor
