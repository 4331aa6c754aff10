/- What feeding a deframer comes to. -/
import Derived.Test.YtiffmklefiehkaaDoorDfTake
import Derived.Test.YtiffmklefiehkaaDoorPlain
import Derived.Outline
namespace Go.Proofs.YtiffmklefiehkaaDoor
set_option linter.unusedVariables false
open Go.RowKit Go.Proofs.YtiffmklefiehkaaDoorW.PrintWords Go.Proofs.YtiffmklefiehkaaDoorW.PrintLast

def Df.nextFn (s : Df) : Nat := if s.inn then 44 else 38

theorem df_step {w : World} {base : Nat} {P : Nat → Prop} {g : Nat} {s : Df} {vn vf : Value} (h : IsDf w base P g s vn vf) (hbase : base ≤ w.heap.size) (n : Nat) (hF : s.Fine n) (hn : n ≤ 1099511627776) (c : Int) :
    Calls Tryd.prog (if s.inn = true then 44 else 38) #[.pointer (some ⟨g, 0, none⟩), .int .u8 c] w fun e w' => ∃ vn' vf', e = .returned (.tuple #[]) ∧ IsDf w' base (fun k => P k ∨ w.heap.size ≤ k) g (s.step c) vn' vf' ∧ Keep (fun k => P k ∨ w.heap.size ≤ k) w w' := by
  unfold Df.step
  by_cases hi : s.inn = true
  · rw [if_pos hi, if_pos hi]
    unfold Df.take
    by_cases h11 : c = 11
    · subst h11
      rw [if_pos rfl]
      exact take_start h hbase n hF hn
    rw [if_neg h11]
    by_cases hf : s.fin = true
    · by_cases h13 : c = 13
      · subst h13
        rw [if_pos ⟨hf, rfl⟩]
        exact take_found h hbase n hF hn hf
      rw [if_neg (by simp [h13]), if_neg (by simp [hf])]
      by_cases h28 : c = 28
      · subst h28
        rw [if_pos rfl]
        exact take_ends h hbase n hF hn hf
      rw [if_neg h28, if_pos hf]
      exact take_held h hbase n hF hn c (by simp [h11]) (by simp [h28]) (by simp [h13]) hf
    · have hf' : s.fin = false := by simpa using hf
      rw [if_neg (by simp [hf'])]
      by_cases h28 : c = 28
      · subst h28
        rw [if_pos ⟨rfl, hf'⟩]
        exact take_end h hbase n hF hn hf'
      rw [if_neg (by simp [h28]), if_neg h28, if_neg hf]
      exact take_plain h hbase n hF hn c (by simp [h11]) (by simp [h28]) hf'
  · rw [if_neg hi, if_neg hi]
    unfold Df.skip
    by_cases h11 : c = 11
    · subst h11
      rw [if_pos rfl]
      exact skip_start h hbase n hF hn
    rw [if_neg h11]
    exact skip_plain h hbase n hF hn c (by simp [h11])

theorem Df.Fine.lay {s : Df} {n : Nat} (h : s.Fine n) {bs : List Int} (hb : Bytes bs) : (s.lay bs).Fine (n + 1) := by
  have h1 := h.most0; have h3 := h.found; have h4 := h.junk1; have h5 := h.over1; have h6 := h.broken1; have h7 := h.over0
  unfold Df.lay
  by_cases hc : s.most < ((s.now ++ bs).length : Int)
  · rw [if_pos hc]
    exact ⟨h1, h.most1, by simp [Df.out]; omega, by simp [Df.out]; omega, h.junk0, by simp [Df.out]; omega, by simp [Df.out]; omega, by simp [Df.out]; omega, h.broken0, by simp [Df.out]; omega, Bytes.nil, h.rows⟩
  · rw [if_neg hc]
    exact ⟨h1, h.most1, by simpa using hc, by simp; omega, h.junk0, by simp; omega, h7, by simp; omega, h.broken0, by simp; omega, h.bytes.append hb, h.rows⟩
theorem Df.Fine.unfin {s : Df} {n : Nat} (h : s.Fine n) (b : Bool) : Df.Fine { s with fin := b } n := ⟨h.most0, h.most1, h.now, h.found, h.junk0, h.junk1, h.over0, h.over1, h.broken0, h.broken1, h.bytes, h.rows⟩
theorem Df.Fine.succ {s : Df} {n : Nat} (h : s.Fine n) : s.Fine (n + 1) :=
  ⟨h.most0, h.most1, h.now, Nat.le_succ_of_le h.found, h.junk0, by have := h.junk1; omega, h.over0, by have := h.over1; omega, h.broken0, by have := h.broken1; omega, h.bytes, h.rows⟩
theorem Df.Fine.mono {s : Df} {n m : Nat} (h : s.Fine n) (hm : n ≤ m) : s.Fine m :=
  ⟨h.most0, h.most1, h.now, Nat.le_trans h.found hm, h.junk0, by have := h.junk1; omega, h.over0, by have := h.over1; omega, h.broken0, by have := h.broken1; omega, h.bytes, h.rows⟩

theorem Df.Fine.step {s : Df} {n : Nat} (h : s.Fine n) {c : Int} (hc : 0 ≤ c ∧ c < 256) : (s.step c).Fine (n + 1) := by
  have h1 := h.most0; have h3 := h.found; have h4 := h.junk1; have h5 := h.over1; have h6 := h.broken1; have h7 := h.over0; have h8 := h.junk0; have h9 := h.broken0
  have b1 : Bytes [28] := by decide
  have b2 : Bytes [c] := fun x hx => by simp at hx; subst hx; exact hc
  have b3 : Bytes [28, c] := fun x hx => by simp at hx; rcases hx with rfl | rfl; (· omega); (· exact hc)
  unfold Df.step Df.take Df.skip
  split
  · split
    · exact ⟨h1, h.most1, by simp [Df.begin]; omega, by simp [Df.begin]; omega, h.junk0, by simp [Df.begin]; omega, h7, by simp [Df.begin]; omega, by simp [Df.begin]; omega, by simp [Df.begin]; omega, Bytes.nil, h.rows⟩
    · split
      · refine ⟨h1, h.most1, by simp [Df.out]; omega, by simp [Df.out]; omega, h.junk0, by simp [Df.out]; omega, h7, by simp [Df.out]; omega, h9, by simp [Df.out]; omega, Bytes.nil, ?_⟩
        intro x hx
        rcases List.mem_append.1 hx with hx | hx
        · exact h.rows x hx
        · rw [List.mem_singleton.1 hx]; exact h.bytes
      · split
        · exact (h.unfin true).succ
        · split
          · exact h.lay b1
          · split
            · exact (h.unfin false).lay b3
            · exact h.lay b2
  · split
    · exact ⟨h1, h.most1, by simp [Df.begin]; omega, by simp [Df.begin]; omega, h.junk0, by simp [Df.begin]; omega, h7, by simp [Df.begin]; omega, h9, by simp [Df.begin]; omega, Bytes.nil, h.rows⟩
    · exact ⟨h1, h.most1, h.now, by simp; omega, by simp; omega, by simp; omega, h7, by simp; omega, h9, by simp; omega, h.bytes, h.rows⟩

def Df.run (s : Df) (l : List Int) : Df := l.foldl Df.step s
theorem Df.Fine.run {s : Df} {n : Nat} (h : s.Fine n) {l : List Int} (hl : Bytes l) : (s.run l).Fine (n + l.length) := by
  induction l generalizing s n with
  | nil => exact h
  | cons x l ih =>
    have := ih (h.step (hl x List.mem_cons_self)) (fun y hy => hl y (List.mem_cons_of_mem _ hy))
    rw [List.length_cons, show n + (l.length + 1) = n + 1 + l.length by omega]
    exact this
theorem Df.run_snoc (s : Df) (l : List Int) (x : Int) : s.run (l ++ [x]) = (s.run l).step x := by simp [Df.run]

set_option maxHeartbeats 400000 in
set_option maxRecDepth 100000 in
theorem df_feed {w : World} {base : Nat} {P : Nat → Prop} {g : Nat} {s : Df} {vn vf : Value} (h : IsDf w base P g s vn vf) (hbase : base ≤ w.heap.size) (n : Nat) (hF : s.Fine n) {A : Option Addr} {c : Nat} {l : List Int} (hl : Bytes l) (hn : n + l.length ≤ 1099511627776)
    (hr : ∀ W, Keep (fun k => P k ∨ w.heap.size ≤ k) w W → Kd.C (Kd.int .u8) W A l.length l) :
    Calls Tryd.prog 23 #[.pointer (some ⟨g, 0, none⟩), .slice A l.length c] w fun e w' => ∃ vn' vf', e = .returned (.tuple #[vf', .int .i64 0]) ∧ IsDf w' base (fun k => P k ∨ w.heap.size ≤ k) g { s.run l with found := [] } vn' (.slice none 0 0) ∧ Keep (fun k => P k ∨ w.heap.size ≤ k) w w' ∧
      Owns w' base (fun k => ((P k ∨ w.heap.size ≤ k) ∧ k ≠ g) ∧ some k ≠ vn'.ownBlock) vf' (s.run l).found := by
  have HI := Aside0.mk (h.mono (P' := fun k => P k ∨ w.heap.size ≤ k) (fun _ h => .inl h))
  have HB := Aside0.mk hbase; have HF := Aside0.mk hF; have HL := Aside0.mk hl; have HN := Aside0.mk hn; have HR := Aside0.mk hr; have HM := Aside0.mk h.mine
  have hll : l.length ≤ 1099511627776 := by omega
  clear h hbase hF hl hn hr
  go_enter Tryd.func23, Tryd.ntmps23
  go_wp2
  go_loopw [13] (fun i W => ∃ k vn' vf', k ≤ l.length ∧ i = .int .i64 (k : Nat) ∧ Aside0 (IsDf W base (fun k => P k ∨ w.heap.size ≤ k) g (s.run (l.take k)) vn' vf') ∧ Aside0 (Keep (fun k => P k ∨ w.heap.size ≤ k) w W)) (fun i _ => l.length - (intOf i).toNat)
  case atStart => exact ⟨0, vn, vf, Nat.zero_le _, rfl, HI, ⟨Keep.refl _ _⟩⟩
  case round =>
    obtain ⟨k, vn', vf', hk, rfl, HI1, HK1⟩ := hrel
    by_cases hlt : k < l.length
    · obtain ⟨ad, ea, hcell⟩ := Kd.at_int (HR.out _ HK1.out) (k : Int) (by omega) (by omega)
      subst ea
      rw [Int.toNat_natCast] at hcell
      have c1 := (df_cells HI1.out.blk).2.1
      have hs1 : l.take (k + 1) = l.take k ++ [rd l (k : Int)] := by rw [List.take_succ_eq_append_getElem hlt]; simp [rd, hlt]
      have hF1 : (s.run (l.take k)).Fine (n + k) := by
        have := HF.out.run (HL.out.take k)
        rw [List.length_take, Nat.min_eq_left hk] at this
        exact this
      have hst := df_step HI1.out (Nat.le_trans HB.out HK1.out.size) (n + k) hF1 (by have := HN.out; omega) (rd l (k : Int))
      rw [← Df.run_snoc, ← hs1] at hst
      have hks : w.heap.size ≤ wr.heap.size := HK1.out.size
      have HKS := Aside0.mk hks
      clear hF1 hs1 hks
      by_cases hin : (s.run (l.take k)).inn = true
      all_goals
        first | rw [if_pos hin] at c1 hst | rw [if_neg hin] at c1 hst
        have HST := Aside0.mk hst
        clear hst hin
        go_wp2_with (first | (go_at_call 44; refine HST.out.mono ?_; rintro e w2 ⟨vn2, vf2, rfl, hI2, hK2⟩; have HI2 := Aside0.mk hI2; have HK2 := Aside0.mk hK2; clear hI2 hK2) | (go_at_call 38; refine HST.out.mono ?_; rintro e w2 ⟨vn2, vf2, rfl, hI2, hK2⟩; have HI2 := Aside0.mk hI2; have HK2 := Aside0.mk hK2; clear hI2 hK2))
        go_roundw
        case rel => exact ⟨k + 1, vn2, vf2, by omega, by go_num, ⟨HI2.out.mono (fun j h => h.elim id (fun h => .inr (Nat.le_trans HKS.out h)))⟩, ⟨HK1.out.trans HK2.out (fun j h => .inl (h.elim id (fun h => .inr (Nat.le_trans HKS.out h))))⟩⟩
        case measure => simp [intOf]; omega
    · have hkk : l.take k = l := List.take_of_length_le (by omega)
      rw [hkk] at HI1
      have c5 := (df_cells HI1.out.blk).2.2.2.2.2.1
      have hf := (df_cells HI1.out.blk).2.2.2.2.2.2.2.2.2
      clear hkk
      go_wp2
      go_ret2
      have hk5 : Keep (· = g) wr (wr.setCell ⟨g, 5, none⟩ (.slice none 0 0)) := (Keep.refl (· = g) wr).setG 5 _
      refine ⟨vn', vf', rfl, ⟨HI1.out.ge, HI1.out.mine, blk_set HI1.out.blk 5 _, hk5.R HI1.out.now (fun k hk he => hk.2 he), Kd.R_nil _ _ _ _ _⟩, HK1.out.trans hk5 (fun j e => by subst e; exact .inl HI1.out.mine), hk5.R HI1.out.found (fun k hk he => hk.1.2 he)⟩
end Go.Proofs.YtiffmklefiehkaaDoor
