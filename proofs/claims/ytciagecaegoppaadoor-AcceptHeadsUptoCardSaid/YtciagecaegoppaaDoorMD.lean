/- The ten texts of a head: which function leads to which, and where it leads. The signs of a message. The signs of a message: where they are read. What is wrong with a head. The codes by what is wrong: a map literal, and a look into it. -/
import Derived.Test.YtciagecaegoppaaDoorProg
import Derived.Test.YtciagecaegoppaaDoorWWords
import Derived.Test.YtciagecaegoppaaDoorMB
import Derived.Test.YtciagecaegoppaaDoorMC
import Derived.WalkKit
import Derived.WalkSpells
import Derived.WalkLawsBesides
import Derived.BigQuiet
import Derived.Laws.Rows
import Derived.Laws.EntriesVeiled
import Derived.Lib.SlBytesConst
import Derived.MapKept
namespace Go.Proofs.YtciagecaegoppaaDoor
set_option linter.unusedVariables false
set_option maxRecDepth 100000
open Go.RowKit Go.Proofs.YtciagecaegoppaaDoorW.PrintWords

def textFn : Nat → Nat
  | 0 => 41
  | 1 => 42
  | 2 => 43
  | 3 => 44
  | 4 => 45
  | 5 => 46
  | 6 => 47
  | 7 => 48
  | 8 => 49
  | _ => 50
def textV (k : Nat) : Value := .func (.func (textFn k)) #[] #[]
def textsV : Value := .agg #[textV 0, textV 1, textV 2, textV 3, textV 4, textV 5, textV 6, textV 7, textV 8, textV 9]

set_option maxHeartbeats 2000000 in
theorem text_calls (k : Nat) (hk : k < 10) (g : Nat) (w : World) : Calls Tryd.prog (textFn k) #[.pointer (some ⟨g, 0, none⟩)] w fun e w' => e = .returned (.pointer (some ⟨g, 5 + k, none⟩)) ∧ w' = w := by
  rcases k with _ | _ | _ | _ | _ | _ | _ | _ | _ | _ | k
  · go_enter Tryd.func41, Tryd.ntmps41
    go_wp2
    go_ret
    exact ⟨rfl, rfl⟩
  · go_enter Tryd.func42, Tryd.ntmps42
    go_wp2
    go_ret
    exact ⟨rfl, rfl⟩
  · go_enter Tryd.func43, Tryd.ntmps43
    go_wp2
    go_ret
    exact ⟨rfl, rfl⟩
  · go_enter Tryd.func44, Tryd.ntmps44
    go_wp2
    go_ret
    exact ⟨rfl, rfl⟩
  · go_enter Tryd.func45, Tryd.ntmps45
    go_wp2
    go_ret
    exact ⟨rfl, rfl⟩
  · go_enter Tryd.func46, Tryd.ntmps46
    go_wp2
    go_ret
    exact ⟨rfl, rfl⟩
  · go_enter Tryd.func47, Tryd.ntmps47
    go_wp2
    go_ret
    exact ⟨rfl, rfl⟩
  · go_enter Tryd.func48, Tryd.ntmps48
    go_wp2
    go_ret
    exact ⟨rfl, rfl⟩
  · go_enter Tryd.func49, Tryd.ntmps49
    go_wp2
    go_ret
    exact ⟨rfl, rfl⟩
  · go_enter Tryd.func50, Tryd.ntmps50
    go_wp2
    go_ret
    exact ⟨rfl, rfl⟩
  · omega

set_option maxHeartbeats 2000000 in
theorem texts_calls (w : World) : Calls Tryd.prog 20 #[] w fun e w' => e = .returned textsV ∧ Below w.heap.size w w' := by
  go_enter Tryd.func20, Tryd.ntmps20
  go_wp2
  refine bodyPost_ret (results_single rfl (.cell w.heap.size 55 _ (0, 0) _ rfl (blk_new w _) Tryd.underlying55 rfl (by kernel_rfl) .nil)) rfl ?_
  exact ⟨rfl, below_alloc (Below.refl _ _) _⟩

/-- One of the ten, by its number. -/
theorem texts_index (k : Nat) (hk : k < 10) (w : World) : (Instr.index 55 textsV (.int .i64 (k : Nat))).run Tryd.prog w = .ok (.agg #[textV k]) w := by
  rcases k with _ | _ | _ | _ | _ | _ | _ | _ | _ | _ | k
  iterate 10 (next => kernel_rfl)
  omega
end Go.Proofs.YtciagecaegoppaaDoor
namespace Go.Proofs.YtciagecaegoppaaDoor
set_option linter.unusedVariables false
set_option maxRecDepth 100000
open Go.RowKit Go.Proofs.YtciagecaegoppaaDoorW.PrintWords Go.Proofs.YtciagecaegoppaaDoorW.PrintLast Go.Proofs.YtciagecaegoppaaDoorW.PrintMore

theorem results_cell_tmp {P : Program} {fn : Func} {p u : Tmp} {ty : TypeId} (h : fn.results = #[.cell p ty, .tmp u]) (tmps : Array Value) (w : World) (g : Nat) (t : TypeId) (cs : Array Value) (fr : Nat × Nat) (d : TypeDesc)
    (hp : tmps.getD p undef = .pointer (some ⟨g, 0, none⟩)) (hg : w.heap[g]? = some (.cells cs t fr))
    (hu : P.underlying ty = some d) (hd : (match d with | .struct _ | .array _ _ => true | _ => false) = true) (hi : (P.info? ty).map (·.size) = some cs.size) :
    (results fn tmps).run P w = .ok (.tuple #[.agg cs, tmps.getD u undef]) w := by
  have hp' : tmps[p]?.getD undef = .pointer (some ⟨g, 0, none⟩) := by simpa using hp
  simp [results, h, hp', asAddr, run_loadVar_row w g t ty cs fr d hg hu hd hi]

set_option maxHeartbeats 2000000 in
theorem delim_short (A0 : Option Addr) (c0 : Nat) (l0 : List Int) (w : World) (hs : l0.length < 9) :
    Calls Tryd.prog 54 #[.slice A0 l0.length c0] w fun e w' => e = .returned (.tuple #[.agg #[.int .u8 0, .int .u8 0, .int .u8 0, .int .u8 0, .int .u8 0], .int .i64 7]) ∧ Below w.heap.size w w' := by
  have HB := Aside0.mk (Below.refl w.heap.size w)
  have h9 : decide ((l0.length : Int) < 9) = true := decide_eq_true (by omega)
  have h9' : decide (l0.length < 9) = true := decide_eq_true hs
  go_enter Tryd.func54, Tryd.ntmps54
  go_wp2
  refine bodyPost_ret (results_cell_tmp rfl _ _ w.heap.size 23 #[.int .u8 0, .int .u8 0, .int .u8 0, .int .u8 0, .int .u8 0] (0, 0) _ rfl (World.alloc_heap_new w _) Tryd.underlying23 rfl (by kernel_rfl)) rfl ?_
  exact ⟨rfl, below_alloc (Below.refl _ _) _⟩

theorem lit3 (w : World) (a b c : Int) : Lib.BytesIn (w.alloc (.cells #[.int .u8 a, .int .u8 b, .int .u8 c] 5 (3, 4))) (some ⟨w.heap.size, 0, none⟩) 3 [a, b, c] :=
  Lib.BytesIn.of_cells fun i hi => by
    have h : (w.alloc (.cells #[.int .u8 a, .int .u8 b, .int .u8 c] 5 (3, 4))).heap[w.heap.size]? = some (.cells #[.int .u8 a, .int .u8 b, .int .u8 c] 5 (3, 4)) := World.alloc_heap_new w _
    rw [add_plain]
    unfold World.cell?
    rw [h]
    rcases i with _ | _ | _ | i
    · rfl
    · rfl
    · rfl
    · omega

set_option maxHeartbeats 2000000 in
theorem delim_other (A0 : Option Addr) (c0 : Nat) (l0 : List Int) (w : World) (hr0 : Kd.C (Kd.int .u8) w A0 l0.length l0) (hc0 : l0.length ≤ c0) (hs : 9 ≤ l0.length) (hp : Lib.hasPrefix (Lib.bytesOf (l0.take 9)) (Lib.bytesOf [77, 83, 72]) = false) :
    Calls Tryd.prog 54 #[.slice A0 l0.length c0] w fun e w' => e = .returned (.tuple #[.agg #[.int .u8 0, .int .u8 0, .int .u8 0, .int .u8 0, .int .u8 0], .int .i64 11]) ∧ Below w.heap.size w w' := by
  have hr := Aside0.mk hr0; have hc := Aside0.mk hc0; have HP := Aside0.mk hp
  have h9 : decide ((l0.length : Int) < 9) = false := decide_eq_false (by omega)
  have h9' : decide (l0.length < 9) = false := decide_eq_false (by omega)
  obtain ⟨i0, hi0, _, _, _⟩ := info_parts info5
  have hcut : ∀ W : World, (Instr.slice 26 (.slice A0 l0.length c0) none (some (.int .i64 9)) none).run Tryd.prog W = .ok (.slice A0 9 c0) W := cut_to (P := Tryd.prog) 26 5 .i64 Tryd.underlying26 hi0 A0 l0.length c0 9 (by omega) (by omega) hc0
  have hl9 : (l0.take 9).length = 9 := by rw [List.length_take]; omega
  have HL9 := Aside0.mk hl9
  have hcs := Lib.run_convert_bytes_const (P := Tryd.prog) (w.alloc (.cells #[.int .u8 0, .int .u8 0, .int .u8 0, .int .u8 0, .int .u8 0] 23)) 26 5 #[.int .u8 77, .int .u8 83, .int .u8 72] 3 3 Tryd.underlying26 Tryd.underlying5
  have hl3 := lit3 (w.alloc (.cells #[.int .u8 0, .int .u8 0, .int .u8 0, .int .u8 0, .int .u8 0] 23)) 77 83 72
  have hb9 : Lib.BytesIn ((w.alloc (.cells #[.int .u8 0, .int .u8 0, .int .u8 0, .int .u8 0, .int .u8 0] 23)).alloc (.cells #[.int .u8 77, .int .u8 83, .int .u8 72] 5 (3, 4))) A0 9 (l0.take 9) := by
    have h := in_of_C (Kd.C_below (Kd.C_take hr0 hs) (below_alloc (below_alloc (Below.refl _ _) (.cells #[.int .u8 0, .int .u8 0, .int .u8 0, .int .u8 0, .int .u8 0] 23)) (.cells #[.int .u8 77, .int .u8 83, .int .u8 72] 5 (3, 4))))
    rw [hl9] at h
    exact h
  have HB9 := Aside0.mk hb9
  rw [World.size_alloc] at hcs hl3
  have HL3 := Aside0.mk hl3
  clear hr0 hc0 hp hl9 hl3 hb9
  go_enter Tryd.func54, Tryd.ntmps54
  go_wp2_with (go_at_call 69; refine (Tryd.bytes_CutPrefix_all A0 (some ⟨w.heap.size + 1, 0, none⟩) 9 c0 3 3 (l0.take 9) [77, 83, 72] _ HL9.out rfl (by have := hc.out; omega) ?h1 ?h2).mono ?_; (case h1 => exact HB9.out); (case h2 => exact HL3.out); rw [HP.out]; rintro e w' ⟨rfl, rfl⟩)
  refine bodyPost_ret (results_cell_tmp rfl _ _ w.heap.size 23 #[.int .u8 0, .int .u8 0, .int .u8 0, .int .u8 0, .int .u8 0] (0, 0) _ rfl ((Below.heap_alloc _ _ _ (by simp)).trans (World.alloc_heap_new w _)) Tryd.underlying23 rfl (by kernel_rfl)) rfl ?_
  exact ⟨rfl, below_alloc (below_alloc (Below.refl _ _) _) _⟩
end Go.Proofs.YtciagecaegoppaaDoor
namespace Go.Proofs.YtciagecaegoppaaDoor
set_option linter.unusedVariables false
set_option linter.unusedSimpArgs false
set_option maxRecDepth 100000
open Go.RowKit Go.Proofs.YtciagecaegoppaaDoorW.PrintWords Go.Proofs.YtciagecaegoppaaDoorW.PrintLast Go.Proofs.YtciagecaegoppaaDoorW.PrintMore

set_option maxHeartbeats 4000000 in
theorem delim_on (A0 : Option Addr) (c0 : Nat) (l0 : List Int) (w : World) (hr0 : Kd.C (Kd.int .u8) w A0 l0.length l0) (hc0 : l0.length ≤ c0) (hs : 9 ≤ l0.length) (hp : Lib.hasPrefix (Lib.bytesOf (l0.take 9)) (Lib.bytesOf [77, 83, 72]) = true)
    (rt : Bool) (hrt : QRight.delim_Right.f 10 (l0.getD 3 0) (l0.getD 4 0) (l0.getD 5 0) (l0.getD 6 0) (l0.getD 7 0) = some rt) (d0 d1 d2 d3 d4 e0 : Int)
    (hres : (if rt = false ∨ (l0.getD 8 0 ≠ l0.getD 3 0 ∧ l0.getD 8 0 ≠ 13) then ((0, 0, 0, 0, 0, 11) : Int × Int × Int × Int × Int × Int) else (l0.getD 3 0, l0.getD 4 0, l0.getD 5 0, l0.getD 6 0, l0.getD 7 0, 0)) = (d0, d1, d2, d3, d4, e0)) :
    Calls Tryd.prog 54 #[.slice A0 l0.length c0] w fun e w' => e = .returned (.tuple #[.agg #[.int .u8 d0, .int .u8 d1, .int .u8 d2, .int .u8 d3, .int .u8 d4], .int .i64 e0]) ∧ Below w.heap.size w w' := by
  have hr := Aside0.mk hr0; have hc := Aside0.mk hc0; have HP := Aside0.mk hp; have HRT := Aside0.mk hrt; have HRES := Aside0.mk hres
  obtain ⟨⟨ab, ao, asp⟩, eA, hcell⟩ : ∃ ad, A0 = some ad ∧ ∀ i, i < l0.length → w.cell? (ad.add i) = some (.int .u8 (l0.getD i 0)) := by
    obtain ⟨ad, e, _⟩ := Kd.at_int hr0 0 (by omega) (by omega)
    subst e
    exact ⟨ad, rfl, (cells_of_C hr0).2⟩
  subst eA
  obtain rfl : asp = none := by simpa [Addr.add] using World.cell?_spot (hcell 0 (by omega))
  have hat : ∀ i, 3 ≤ i → (⟨ab, ao, none⟩ : Addr).add i = ⟨ab, ao + i, none⟩ := fun i hi => by unfold Addr.add; rw [if_neg (by omega)]
  have h9 : decide ((l0.length : Int) < 9) = false := decide_eq_false (by omega)
  have h9' : decide (l0.length < 9) = false := decide_eq_false (by omega)
  obtain ⟨i0, hi0, _, _, _⟩ := info_parts info5
  have hcut : ∀ W : World, (Instr.slice 26 (.slice (some ⟨ab, ao, none⟩) l0.length c0) none (some (.int .i64 9)) none).run Tryd.prog W = .ok (.slice (some ⟨ab, ao, none⟩) 9 c0) W := cut_to (P := Tryd.prog) 26 5 .i64 Tryd.underlying26 hi0 (some ⟨ab, ao, none⟩) l0.length c0 9 (by omega) (by omega) hc0
  have hl9 : (l0.take 9).length = 9 := by rw [List.length_take]; omega
  have HL9 := Aside0.mk hl9
  have hv : Lib.trimPrefixV (some ⟨ab, ao, none⟩) 9 c0 (l0.take 9) [77, 83, 72] = .slice (some ⟨ab, ao + 3, none⟩) 6 (c0 - 3) := by
    unfold Lib.trimPrefixV Lib.bytesTrimPrefix
    simp only [hp]
    unfold Lib.sliceFrom
    simp
    omega
  have HV := Aside0.mk hv
  have hcs := Lib.run_convert_bytes_const (P := Tryd.prog) (w.alloc (.cells #[.int .u8 0, .int .u8 0, .int .u8 0, .int .u8 0, .int .u8 0] 23)) 26 5 #[.int .u8 77, .int .u8 83, .int .u8 72] 3 3 Tryd.underlying26 Tryd.underlying5
  have hl3 := lit3 (w.alloc (.cells #[.int .u8 0, .int .u8 0, .int .u8 0, .int .u8 0, .int .u8 0] 23)) 77 83 72
  have hb9 : Lib.BytesIn ((w.alloc (.cells #[.int .u8 0, .int .u8 0, .int .u8 0, .int .u8 0, .int .u8 0] 23)).alloc (.cells #[.int .u8 77, .int .u8 83, .int .u8 72] 5 (3, 4))) (some ⟨ab, ao, none⟩) 9 (l0.take 9) := by
    have h := in_of_C (Kd.C_below (Kd.C_take hr0 hs) (below_alloc (below_alloc (Below.refl _ _) (.cells #[.int .u8 0, .int .u8 0, .int .u8 0, .int .u8 0, .int .u8 0] 23)) (.cells #[.int .u8 77, .int .u8 83, .int .u8 72] 5 (3, 4))))
    rw [hl9] at h
    exact h
  have HB9 := Aside0.mk hb9
  rw [World.size_alloc] at hcs hl3
  have HL3 := Aside0.mk hl3
  have HCELL := Aside0.mk hcell; have HAT := Aside0.mk hat
  have HB : Aside0 (∀ o1 o2, Below w.heap.size w ((w.alloc o1).alloc o2)) := ⟨fun o1 o2 => below_alloc (below_alloc (Below.refl _ _) _) _⟩
  clear hr0 hc0 hp hl9 hl3 hb9 hv hcell hat hrt hres
  go_enter Tryd.func54, Tryd.ntmps54
  go_wp2_with (go_at_call 69; refine (Tryd.bytes_CutPrefix_all (some ⟨ab, ao, none⟩) (some ⟨w.heap.size + 1, 0, none⟩) 9 c0 3 3 (l0.take 9) [77, 83, 72] _ HL9.out rfl (by have := hc.out; omega) ?h1 ?h2).mono ?_; (case h1 => exact HB9.out); (case h2 => exact HL3.out); rw [HP.out, HV.out]; rintro e w' ⟨rfl, rfl⟩)
  obtain ⟨W, hW⟩ : ∃ x, x = (w.alloc (.cells #[.int .u8 0, .int .u8 0, .int .u8 0, .int .u8 0, .int .u8 0] 23)).alloc (.cells #[.int .u8 77, .int .u8 83, .int .u8 72] 5 (3, 4)) := ⟨_, rfl⟩
  rw [← hW]
  have hB := HB.out (.cells #[.int .u8 0, .int .u8 0, .int .u8 0, .int .u8 0, .int .u8 0] 23) (.cells #[.int .u8 77, .int .u8 83, .int .u8 72] 5 (3, 4))
  have hblk : W.heap[w.heap.size]? = some (.cells #[.int .u8 0, .int .u8 0, .int .u8 0, .int .u8 0, .int .u8 0] 23 (0, 0)) := by rw [hW]; exact blk_alloc (blk_new w _) _
  rw [← hW] at hB
  have HBW := Aside0.mk hB; have HBLK := Aside0.mk hblk
  have k3 : W.cell? ⟨ab, ao + 3, none⟩ = some (.int .u8 (l0.getD 3 0)) := by have h := hB.cell (World.block_lt_of_cell? _ _ (HCELL.out 3 (by omega))); rw [HCELL.out 3 (by omega), HAT.out 3 (by omega)] at h; exact h
  have k4 : W.cell? ⟨ab, ao + 3 + 1, none⟩ = some (.int .u8 (l0.getD 4 0)) := by have h := hB.cell (World.block_lt_of_cell? _ _ (HCELL.out 4 (by omega))); rw [HCELL.out 4 (by omega), HAT.out 4 (by omega)] at h; exact h
  have k5 : W.cell? ⟨ab, ao + 3 + 2, none⟩ = some (.int .u8 (l0.getD 5 0)) := by have h := hB.cell (World.block_lt_of_cell? _ _ (HCELL.out 5 (by omega))); rw [HCELL.out 5 (by omega), HAT.out 5 (by omega)] at h; exact h
  have k6 : W.cell? ⟨ab, ao + 3 + 3, none⟩ = some (.int .u8 (l0.getD 6 0)) := by have h := hB.cell (World.block_lt_of_cell? _ _ (HCELL.out 6 (by omega))); rw [HCELL.out 6 (by omega), HAT.out 6 (by omega)] at h; exact h
  have k7 : W.cell? ⟨ab, ao + 3 + 4, none⟩ = some (.int .u8 (l0.getD 7 0)) := by have h := hB.cell (World.block_lt_of_cell? _ _ (HCELL.out 7 (by omega))); rw [HCELL.out 7 (by omega), HAT.out 7 (by omega)] at h; exact h
  have k8 : W.cell? ⟨ab, ao + 3 + 5, none⟩ = some (.int .u8 (l0.getD 8 0)) := by have h := hB.cell (World.block_lt_of_cell? _ _ (HCELL.out 8 (by omega))); rw [HCELL.out 8 (by omega), HAT.out 8 (by omega)] at h; exact h
  clear hW hB hblk hcs
  generalize l0.getD 3 0 = z3 at *
  generalize l0.getD 4 0 = z4 at *
  generalize l0.getD 5 0 = z5 at *
  generalize l0.getD 6 0 = z6 at *
  generalize l0.getD 7 0 = z7 at *
  generalize l0.getD 8 0 = z8 at *
  go_region_held3 (fun w' => w'.cell? ⟨ab, ao + 3, none⟩ = some (.int .u8 z3) ∧ w'.cell? ⟨ab, ao + 3 + 1, none⟩ = some (.int .u8 z4) ∧ w'.cell? ⟨ab, ao + 3 + 2, none⟩ = some (.int .u8 z5) ∧ w'.cell? ⟨ab, ao + 3 + 3, none⟩ = some (.int .u8 z6) ∧ w'.cell? ⟨ab, ao + 3 + 4, none⟩ = some (.int .u8 z7)) (go_keep) (fail)
  rename_i hheld
  obtain ⟨j3, _⟩ := hheld
  clear j3
  obtain ⟨W2, hW2⟩ : ∃ x, x = (W.alloc (.cells #[.int .u8 z3, .int .u8 z4, .int .u8 z5, .int .u8 z6, .int .u8 z7] 23)).drew := ⟨_, rfl⟩
  rw [← hW2]
  have hB2 : Below w.heap.size w W2 := by rw [hW2]; exact below_drew1 (below_alloc HBW.out _)
  have hblk2 : W2.heap[w.heap.size]? = some (.cells #[.int .u8 0, .int .u8 0, .int .u8 0, .int .u8 0, .int .u8 0] 23 (0, 0)) := by rw [hW2]; exact blk_drew (blk_alloc HBLK.out _)
  have hd2 : W2.heap[W.heap.size]? = some (.cells #[.int .u8 z3, .int .u8 z4, .int .u8 z5, .int .u8 z6, .int .u8 z7] 23 (0, 0)) := by rw [hW2]; exact blk_drew (blk_new W _)
  have k8' : W2.cell? ⟨ab, ao + 3 + 5, none⟩ = some (.int .u8 z8) := by rw [hW2]; exact (Below.cell (below_alloc (Below.refl W.heap.size W) _) (World.block_lt_of_cell? _ _ k8)).trans k8
  have hge : w.heap.size ≤ W.heap.size := HBW.out.size
  have HBW2 := Aside0.mk hB2; have HBLK2 := Aside0.mk hblk2; have HD2 := Aside0.mk hd2; have HGE := Aside0.mk hge; have HGL := Aside0.mk (blk_lt hblk2)
  have g0 := (blk_cell hd2 0).trans rfl; have g1 := (blk_cell hd2 1).trans rfl; have g2 := (blk_cell hd2 2).trans rfl; have g3 := (blk_cell hd2 3).trans rfl; have g4 := (blk_cell hd2 4).trans rfl
  clear hW2 hB2 hblk2 hd2 k3 k4 k5 k6 k7 k8 hge
  generalize W.heap.size = gd at *
  cases rt
  · go_wp2_with fail
    refine start_ (n := 17) (S := fun w' => w'.cell? ⟨gd, 0, none⟩ = some (.int .u8 z3) ∧ w'.cell? ⟨gd, 1, none⟩ = some (.int .u8 z4) ∧ w'.cell? ⟨gd, 2, none⟩ = some (.int .u8 z5) ∧ w'.cell? ⟨gd, 3, none⟩ = some (.int .u8 z6) ∧ w'.cell? ⟨gd, 4, none⟩ = some (.int .u8 z7) ∧ w'.cell? ⟨ab, ao + 3 + 5, none⟩ = some (.int .u8 z8)) (ds := []) #[false, false, false, false, false, false, false, false, false, false, false, false, false, false, false, false, false] (by kernel_rfl) rfl rfl ⟨g0, g1, g2, g3, g4, k8'⟩ (fun hHeld => ?_)
    refine take_ (i := 0) (N := (some 38)) (v := ?_) (a' := ?_) #[true, false, false, false, false, false, false, false, false, false, false, false, false, false, false, false, false] rfl rfl (by kernel_rfl) (fun _ _ _ h => h) (Or.inl ⟨by rfl, ?_⟩) hHeld ?_ ?_
    rotate_left
    · rintro w' ⟨s0, s1, s2, s3, s4, s5⟩
      go_simp
      with_reducible rfl
    rotate_left
    · simp only [Act.put, List.setIfInBounds_toArray, List.set_cons_zero, List.set_cons_succ, i64_w, i32_w]
      rfl
    refine one_ (i := 1) (N := (some 39)) #[true, true, false, false, false, false, false, false, false, false, false, false, false, false, false, false, false] rfl rfl (by kernel_rfl) (by decide) (fun K hK => ?_)
    refine goes_ Tryd.func18 (by kernel_rfl) rfl #[.agg #[.int .u8 z3, .int .u8 z4, .int .u8 z5, .int .u8 z6, .int .u8 z7]] (by rfl) rfl rfl (by (try simp only [List.map_toArray, List.map_cons, List.map_nil]); first | done | rfl) ?_
    refine (QRight.delim_Right.calls 10 z3 z4 z5 z6 z7 false _ HRT.out).mono ?_
    rintro e w3 ⟨rfl, hb3⟩
    have HB3 := Aside0.mk hb3
    clear hb3
    refine ⟨_, rfl, ?_⟩
    refine hK.out _ _ ⟨pw_cell_below HB3.out hHeld.1, pw_cell_below HB3.out hHeld.2.1, pw_cell_below HB3.out hHeld.2.2.1, pw_cell_below HB3.out hHeld.2.2.2.1, pw_cell_below HB3.out hHeld.2.2.2.2.1, pw_cell_below HB3.out hHeld.2.2.2.2.2⟩ (fun hHeld => ?_)
    clear hK K
    refine norm_ (a' := ?_) ?_ ?_
    rotate_left
    · show Act.put _ (some 39) _ = _
      simp only [Act.put, List.setIfInBounds_toArray, List.set_cons_zero, List.set_cons_succ, i64_w, i32_w]
      rfl
    refine pure_ (i := 2) (N := (some 40)) (v := ?_) (a' := ?_) #[true, true, true, false, false, false, false, false, false, false, false, false, false, false, false, false, false] rfl rfl (by kernel_rfl) (fun _ _ _ h => h) (Or.inl ⟨by rfl, ?_⟩) ?_ ?_
    rotate_left
    · intro w'
      go_simp
      with_reducible rfl
    rotate_left
    · simp only [Act.put, List.setIfInBounds_toArray, List.set_cons_zero, List.set_cons_succ, i64_w, i32_w]
      rfl
    refine pure_ (i := 3) (N := (some 41)) (v := ?_) (a' := ?_) #[true, true, true, true, false, false, false, false, false, false, false, false, false, false, false, false, false] rfl rfl (by kernel_rfl) (fun _ _ _ h => h) (Or.inl ⟨by rfl, ?_⟩) ?_ ?_
    rotate_left
    · intro w'
      go_simp
      with_reducible rfl
    rotate_left
    · simp only [Act.put, List.setIfInBounds_toArray, List.set_cons_zero, List.set_cons_succ, i64_w, i32_w]
      rfl
    refine pure_ (i := 4) (N := (some 42)) (v := undef) (a' := ?_) #[true, true, true, true, true, false, false, false, false, false, false, false, false, false, false, false, false] rfl rfl (by kernel_rfl) (fun _ _ _ h => h) (Or.inr ⟨by rfl, rfl⟩) ?_ ?_
    rotate_left
    · simp only [Act.put, List.setIfInBounds_toArray, List.set_cons_zero, List.set_cons_succ, i64_w, i32_w]
      rfl
    refine pure_ (i := 5) (N := (some 43)) (v := undef) (a' := ?_) #[true, true, true, true, true, true, false, false, false, false, false, false, false, false, false, false, false] rfl rfl (by kernel_rfl) (fun _ _ _ h => h) (Or.inr ⟨by rfl, rfl⟩) ?_ ?_
    rotate_left
    · simp only [Act.put, List.setIfInBounds_toArray, List.set_cons_zero, List.set_cons_succ, i64_w, i32_w]
      rfl
    refine pure_ (i := 6) (N := (some 44)) (v := undef) (a' := ?_) #[true, true, true, true, true, true, true, false, false, false, false, false, false, false, false, false, false] rfl rfl (by kernel_rfl) (fun _ _ _ h => h) (Or.inr ⟨by rfl, rfl⟩) ?_ ?_
    rotate_left
    · simp only [Act.put, List.setIfInBounds_toArray, List.set_cons_zero, List.set_cons_succ, i64_w, i32_w]
      rfl
    refine pure_ (i := 7) (N := (some 45)) (v := undef) (a' := ?_) #[true, true, true, true, true, true, true, true, false, false, false, false, false, false, false, false, false] rfl rfl (by kernel_rfl) (fun _ _ _ h => h) (Or.inr ⟨by rfl, rfl⟩) ?_ ?_
    rotate_left
    · simp only [Act.put, List.setIfInBounds_toArray, List.set_cons_zero, List.set_cons_succ, i64_w, i32_w]
      rfl
    refine pure_ (i := 8) (N := (some 46)) (v := undef) (a' := ?_) #[true, true, true, true, true, true, true, true, true, false, false, false, false, false, false, false, false] rfl rfl (by kernel_rfl) (fun _ _ _ h => h) (Or.inr ⟨by rfl, rfl⟩) ?_ ?_
    rotate_left
    · simp only [Act.put, List.setIfInBounds_toArray, List.set_cons_zero, List.set_cons_succ, i64_w, i32_w]
      rfl
    refine pure_ (i := 9) (N := (some 47)) (v := undef) (a' := ?_) #[true, true, true, true, true, true, true, true, true, true, false, false, false, false, false, false, false] rfl rfl (by kernel_rfl) (fun _ _ _ h => h) (Or.inr ⟨by rfl, rfl⟩) ?_ ?_
    rotate_left
    · simp only [Act.put, List.setIfInBounds_toArray, List.set_cons_zero, List.set_cons_succ, i64_w, i32_w]
      rfl
    refine pure_ (i := 10) (N := (some 48)) (v := undef) (a' := ?_) #[true, true, true, true, true, true, true, true, true, true, true, false, false, false, false, false, false] rfl rfl (by kernel_rfl) (fun _ _ _ h => h) (Or.inr ⟨by rfl, rfl⟩) ?_ ?_
    rotate_left
    · simp only [Act.put, List.setIfInBounds_toArray, List.set_cons_zero, List.set_cons_succ, i64_w, i32_w]
      rfl
    refine pure_ (i := 11) (N := (some 49)) (v := undef) (a' := ?_) #[true, true, true, true, true, true, true, true, true, true, true, true, false, false, false, false, false] rfl rfl (by kernel_rfl) (fun _ _ _ h => h) (Or.inr ⟨by rfl, rfl⟩) ?_ ?_
    rotate_left
    · simp only [Act.put, List.setIfInBounds_toArray, List.set_cons_zero, List.set_cons_succ, i64_w, i32_w]
      rfl
    refine pure_ (i := 12) (N := (some 50)) (v := undef) (a' := ?_) #[true, true, true, true, true, true, true, true, true, true, true, true, true, false, false, false, false] rfl rfl (by kernel_rfl) (fun _ _ _ h => h) (Or.inr ⟨by rfl, rfl⟩) ?_ ?_
    rotate_left
    · simp only [Act.put, List.setIfInBounds_toArray, List.set_cons_zero, List.set_cons_succ, i64_w, i32_w]
      rfl
    refine pure_ (i := 13) (N := (some 51)) (v := undef) (a' := ?_) #[true, true, true, true, true, true, true, true, true, true, true, true, true, true, false, false, false] rfl rfl (by kernel_rfl) (fun _ _ _ h => h) (Or.inr ⟨by rfl, rfl⟩) ?_ ?_
    rotate_left
    · simp only [Act.put, List.setIfInBounds_toArray, List.set_cons_zero, List.set_cons_succ, i64_w, i32_w]
      rfl
    refine pure_ (i := 14) (N := (some 52)) (v := undef) (a' := ?_) #[true, true, true, true, true, true, true, true, true, true, true, true, true, true, true, false, false] rfl rfl (by kernel_rfl) (fun _ _ _ h => h) (Or.inr ⟨by rfl, rfl⟩) ?_ ?_
    rotate_left
    · simp only [Act.put, List.setIfInBounds_toArray, List.set_cons_zero, List.set_cons_succ, i64_w, i32_w]
      rfl
    refine pure_ (i := 15) (N := (some 53)) (v := undef) (a' := ?_) #[true, true, true, true, true, true, true, true, true, true, true, true, true, true, true, true, false] rfl rfl (by kernel_rfl) (fun _ _ _ h => h) (Or.inr ⟨by rfl, rfl⟩) ?_ ?_
    rotate_left
    · simp only [Act.put, List.setIfInBounds_toArray, List.set_cons_zero, List.set_cons_succ, i64_w, i32_w]
      rfl
    refine pure_ (i := 16) (N := (some 54)) (v := ?_) (a' := ?_) #[true, true, true, true, true, true, true, true, true, true, true, true, true, true, true, true, true] rfl rfl (by kernel_rfl) (fun _ _ _ h => h) (Or.inl ⟨by rfl, ?_⟩) ?_ ?_
    rotate_left
    · intro w'
      go_simp
      with_reducible rfl
    rotate_left
    · simp only [Act.put, List.setIfInBounds_toArray, List.set_cons_zero, List.set_cons_succ, i64_w, i32_w]
      rfl
    refine done_ (by kernel_rfl) ?_
    clear hHeld g0 g1 g2 g3 g4 k8'
    have hB3 : Below w.heap.size w w3 := below_step (below_drew1 HBW2.out) HB3.out
    have hblk3 := blk_below (blk_drew HBLK2.out) HB3.out
    have hd3 := blk_below (blk_drew HD2.out) HB3.out
    have HB3' := Aside0.mk hB3; have HBLK3 := Aside0.mk hblk3; have HD3 := Aside0.mk hd3
    have g0 := (blk_cell hd3 0).trans rfl; have g1 := (blk_cell hd3 1).trans rfl; have g2 := (blk_cell hd3 2).trans rfl; have g3 := (blk_cell hd3 3).trans rfl; have g4 := (blk_cell hd3 4).trans rfl
    have p0 := (blk_cell hblk3 0).trans rfl; have p1 := (blk_cell hblk3 1).trans rfl; have p2 := (blk_cell hblk3 2).trans rfl; have p3 := (blk_cell hblk3 3).trans rfl; have p4 := (blk_cell hblk3 4).trans rfl
    have q0 := blk_frozen hblk3 0; have q1 := blk_frozen hblk3 1; have q2 := blk_frozen hblk3 2; have q3 := blk_frozen hblk3 3; have q4 := blk_frozen hblk3 4
    clear hB3 hblk3 hd3 HB3 HBW2 HBLK2 HD2
    go_wp2
    refine bodyPost_ret (results_ct rfl _ _ w.heap.size 23 #[.int .u8 0, .int .u8 0, .int .u8 0, .int .u8 0, .int .u8 0] (0, 0) _ rfl (blk_set (blk_set (blk_set (blk_set (blk_set HBLK3.out 0 _) 1 _) 2 _) 3 _) 4 _) Tryd.underlying23 rfl (by kernel_rfl)) rfl ?_
    have hR := HRES.out
    (first | rw [if_pos (Or.inl trivial)] at hR | rw [if_pos (Or.inl rfl)] at hR)
    simp only [Prod.mk.injEq] at hR
    obtain ⟨e0_, e1_, e2_, e3_, e4_, e5_⟩ := hR
    refine ⟨by rw [← e0_, ← e1_, ← e2_, ← e3_, ← e4_, ← e5_]; rfl, ?_⟩
    exact below_set (below_set (below_set (below_set (below_set HB3'.out (Nat.le_refl _)) (Nat.le_refl _)) (Nat.le_refl _)) (Nat.le_refl _)) (Nat.le_refl _)
  · by_cases c1 : z8 = z3
    · have c1' : (z8 != z3) = false := bne_eq_false_iff_eq.2 c1; have C1 := Aside0.mk c1; clear c1
      go_wp2_with fail
      refine start_ (n := 17) (S := fun w' => w'.cell? ⟨gd, 0, none⟩ = some (.int .u8 z3) ∧ w'.cell? ⟨gd, 1, none⟩ = some (.int .u8 z4) ∧ w'.cell? ⟨gd, 2, none⟩ = some (.int .u8 z5) ∧ w'.cell? ⟨gd, 3, none⟩ = some (.int .u8 z6) ∧ w'.cell? ⟨gd, 4, none⟩ = some (.int .u8 z7) ∧ w'.cell? ⟨ab, ao + 3 + 5, none⟩ = some (.int .u8 z8)) (ds := []) #[false, false, false, false, false, false, false, false, false, false, false, false, false, false, false, false, false] (by kernel_rfl) rfl rfl ⟨g0, g1, g2, g3, g4, k8'⟩ (fun hHeld => ?_)
      refine take_ (i := 0) (N := (some 38)) (v := ?_) (a' := ?_) #[true, false, false, false, false, false, false, false, false, false, false, false, false, false, false, false, false] rfl rfl (by kernel_rfl) (fun _ _ _ h => h) (Or.inl ⟨by rfl, ?_⟩) hHeld ?_ ?_
      rotate_left
      · rintro w' ⟨s0, s1, s2, s3, s4, s5⟩
        go_simp
        with_reducible rfl
      rotate_left
      · simp only [Act.put, List.setIfInBounds_toArray, List.set_cons_zero, List.set_cons_succ, i64_w, i32_w]
        rfl
      refine one_ (i := 1) (N := (some 39)) #[true, true, false, false, false, false, false, false, false, false, false, false, false, false, false, false, false] rfl rfl (by kernel_rfl) (by decide) (fun K hK => ?_)
      refine goes_ Tryd.func18 (by kernel_rfl) rfl #[.agg #[.int .u8 z3, .int .u8 z4, .int .u8 z5, .int .u8 z6, .int .u8 z7]] (by rfl) rfl rfl (by (try simp only [List.map_toArray, List.map_cons, List.map_nil]); first | done | rfl) ?_
      refine (QRight.delim_Right.calls 10 z3 z4 z5 z6 z7 true _ HRT.out).mono ?_
      rintro e w3 ⟨rfl, hb3⟩
      have HB3 := Aside0.mk hb3
      clear hb3
      refine ⟨_, rfl, ?_⟩
      refine hK.out _ _ ⟨pw_cell_below HB3.out hHeld.1, pw_cell_below HB3.out hHeld.2.1, pw_cell_below HB3.out hHeld.2.2.1, pw_cell_below HB3.out hHeld.2.2.2.1, pw_cell_below HB3.out hHeld.2.2.2.2.1, pw_cell_below HB3.out hHeld.2.2.2.2.2⟩ (fun hHeld => ?_)
      clear hK K
      refine norm_ (a' := ?_) ?_ ?_
      rotate_left
      · show Act.put _ (some 39) _ = _
        simp only [Act.put, List.setIfInBounds_toArray, List.set_cons_zero, List.set_cons_succ, i64_w, i32_w]
        rfl
      refine pure_ (i := 2) (N := (some 40)) (v := ?_) (a' := ?_) #[true, true, true, false, false, false, false, false, false, false, false, false, false, false, false, false, false] rfl rfl (by kernel_rfl) (fun _ _ _ h => h) (Or.inl ⟨by rfl, ?_⟩) ?_ ?_
      rotate_left
      · intro w'
        go_simp
        with_reducible rfl
      rotate_left
      · simp only [Act.put, List.setIfInBounds_toArray, List.set_cons_zero, List.set_cons_succ, i64_w, i32_w]
        rfl
      refine pure_ (i := 3) (N := (some 41)) (v := ?_) (a' := ?_) #[true, true, true, true, false, false, false, false, false, false, false, false, false, false, false, false, false] rfl rfl (by kernel_rfl) (fun _ _ _ h => h) (Or.inl ⟨by rfl, ?_⟩) ?_ ?_
      rotate_left
      · intro w'
        go_simp
        with_reducible rfl
      rotate_left
      · simp only [Act.put, List.setIfInBounds_toArray, List.set_cons_zero, List.set_cons_succ, i64_w, i32_w]
        rfl
      refine pure_ (i := 4) (N := (some 42)) (v := ?_) (a' := ?_) #[true, true, true, true, true, false, false, false, false, false, false, false, false, false, false, false, false] rfl rfl (by kernel_rfl) (fun _ _ _ h => h) (Or.inl ⟨by rfl, ?_⟩) ?_ ?_
      rotate_left
      · intro w'
        go_simp
        with_reducible rfl
      rotate_left
      · simp only [Act.put, List.setIfInBounds_toArray, List.set_cons_zero, List.set_cons_succ, i64_w, i32_w]
        rfl
      refine pure_ (i := 5) (N := (some 43)) (v := ?_) (a' := ?_) #[true, true, true, true, true, true, false, false, false, false, false, false, false, false, false, false, false] rfl rfl (by kernel_rfl) (fun _ _ _ h => h) (Or.inl ⟨by rfl, ?_⟩) ?_ ?_
      rotate_left
      · intro w'
        go_simp
        with_reducible rfl
      rotate_left
      · simp only [Act.put, List.setIfInBounds_toArray, List.set_cons_zero, List.set_cons_succ, i64_w, i32_w]
        rfl
      refine take_ (i := 6) (N := (some 44)) (v := ?_) (a' := ?_) #[true, true, true, true, true, true, true, false, false, false, false, false, false, false, false, false, false] rfl rfl (by kernel_rfl) (fun _ _ _ h => h) (Or.inl ⟨by rfl, ?_⟩) hHeld ?_ ?_
      rotate_left
      · rintro w' ⟨s0, s1, s2, s3, s4, s5⟩
        go_simp
        with_reducible rfl
      rotate_left
      · simp only [Act.put, List.setIfInBounds_toArray, List.set_cons_zero, List.set_cons_succ, i64_w, i32_w]
        rfl
      refine pure_ (i := 7) (N := (some 45)) (v := ?_) (a' := ?_) #[true, true, true, true, true, true, true, true, false, false, false, false, false, false, false, false, false] rfl rfl (by kernel_rfl) (fun _ _ _ h => h) (Or.inl ⟨by rfl, ?_⟩) ?_ ?_
      rotate_left
      · intro w'
        go_simp
        with_reducible rfl
      rotate_left
      · simp only [Act.put, List.setIfInBounds_toArray, List.set_cons_zero, List.set_cons_succ, i64_w, i32_w]
        rfl
      refine take_ (i := 8) (N := (some 46)) (v := ?_) (a' := ?_) #[true, true, true, true, true, true, true, true, true, false, false, false, false, false, false, false, false] rfl rfl (by kernel_rfl) (fun _ _ _ h => h) (Or.inl ⟨by rfl, ?_⟩) hHeld ?_ ?_
      rotate_left
      · rintro w' ⟨s0, s1, s2, s3, s4, s5⟩
        go_simp
        with_reducible rfl
      rotate_left
      · simp only [Act.put, List.setIfInBounds_toArray, List.set_cons_zero, List.set_cons_succ, i64_w, i32_w]
        rfl
      refine pure_ (i := 9) (N := (some 47)) (v := ?_) (a' := ?_) #[true, true, true, true, true, true, true, true, true, true, false, false, false, false, false, false, false] rfl rfl (by kernel_rfl) (fun _ _ _ h => h) (Or.inl ⟨by rfl, ?_⟩) ?_ ?_
      rotate_left
      · intro w'
        go_simp
        with_reducible rfl
      rotate_left
      · simp only [Act.put, List.setIfInBounds_toArray, List.set_cons_zero, List.set_cons_succ, i64_w, i32_w]
        rfl
      refine pure_ (i := 10) (N := (some 48)) (v := ?_) (a' := ?_) #[true, true, true, true, true, true, true, true, true, true, true, false, false, false, false, false, false] rfl rfl (by kernel_rfl) (fun _ _ _ h => h) (Or.inl ⟨by rfl, ?_⟩) ?_ ?_
      rotate_left
      · intro w'
        go_simp
        with_reducible rfl
      rotate_left
      · simp only [Act.put, List.setIfInBounds_toArray, List.set_cons_zero, List.set_cons_succ, i64_w, i32_w]
        rfl
      refine pure_ (i := 11) (N := (some 49)) (v := undef) (a' := ?_) #[true, true, true, true, true, true, true, true, true, true, true, true, false, false, false, false, false] rfl rfl (by kernel_rfl) (fun _ _ _ h => h) (Or.inr ⟨by rfl, rfl⟩) ?_ ?_
      rotate_left
      · simp only [Act.put, List.setIfInBounds_toArray, List.set_cons_zero, List.set_cons_succ, i64_w, i32_w]
        rfl
      refine pure_ (i := 12) (N := (some 50)) (v := undef) (a' := ?_) #[true, true, true, true, true, true, true, true, true, true, true, true, true, false, false, false, false] rfl rfl (by kernel_rfl) (fun _ _ _ h => h) (Or.inr ⟨by rfl, rfl⟩) ?_ ?_
      rotate_left
      · simp only [Act.put, List.setIfInBounds_toArray, List.set_cons_zero, List.set_cons_succ, i64_w, i32_w]
        rfl
      refine pure_ (i := 13) (N := (some 51)) (v := undef) (a' := ?_) #[true, true, true, true, true, true, true, true, true, true, true, true, true, true, false, false, false] rfl rfl (by kernel_rfl) (fun _ _ _ h => h) (Or.inr ⟨by rfl, rfl⟩) ?_ ?_
      rotate_left
      · simp only [Act.put, List.setIfInBounds_toArray, List.set_cons_zero, List.set_cons_succ, i64_w, i32_w]
        rfl
      refine pure_ (i := 14) (N := (some 52)) (v := undef) (a' := ?_) #[true, true, true, true, true, true, true, true, true, true, true, true, true, true, true, false, false] rfl rfl (by kernel_rfl) (fun _ _ _ h => h) (Or.inr ⟨by rfl, rfl⟩) ?_ ?_
      rotate_left
      · simp only [Act.put, List.setIfInBounds_toArray, List.set_cons_zero, List.set_cons_succ, i64_w, i32_w]
        rfl
      refine pure_ (i := 15) (N := (some 53)) (v := ?_) (a' := ?_) #[true, true, true, true, true, true, true, true, true, true, true, true, true, true, true, true, false] rfl rfl (by kernel_rfl) (fun _ _ _ h => h) (Or.inl ⟨by rfl, ?_⟩) ?_ ?_
      rotate_left
      · intro w'
        go_simp
        with_reducible rfl
      rotate_left
      · simp only [Act.put, List.setIfInBounds_toArray, List.set_cons_zero, List.set_cons_succ, i64_w, i32_w]
        rfl
      refine pure_ (i := 16) (N := (some 54)) (v := ?_) (a' := ?_) #[true, true, true, true, true, true, true, true, true, true, true, true, true, true, true, true, true] rfl rfl (by kernel_rfl) (fun _ _ _ h => h) (Or.inl ⟨by rfl, ?_⟩) ?_ ?_
      rotate_left
      · intro w'
        go_simp
        with_reducible rfl
      rotate_left
      · simp only [Act.put, List.setIfInBounds_toArray, List.set_cons_zero, List.set_cons_succ, i64_w, i32_w]
        rfl
      refine done_ (by kernel_rfl) ?_
      clear hHeld g0 g1 g2 g3 g4 k8'
      have hB3 : Below w.heap.size w w3 := below_step (below_drew1 HBW2.out) HB3.out
      have hblk3 := blk_below (blk_drew HBLK2.out) HB3.out
      have hd3 := blk_below (blk_drew HD2.out) HB3.out
      have HB3' := Aside0.mk hB3; have HBLK3 := Aside0.mk hblk3; have HD3 := Aside0.mk hd3
      have g0 := (blk_cell hd3 0).trans rfl; have g1 := (blk_cell hd3 1).trans rfl; have g2 := (blk_cell hd3 2).trans rfl; have g3 := (blk_cell hd3 3).trans rfl; have g4 := (blk_cell hd3 4).trans rfl
      have p0 := (blk_cell hblk3 0).trans rfl; have p1 := (blk_cell hblk3 1).trans rfl; have p2 := (blk_cell hblk3 2).trans rfl; have p3 := (blk_cell hblk3 3).trans rfl; have p4 := (blk_cell hblk3 4).trans rfl
      have q0 := blk_frozen hblk3 0; have q1 := blk_frozen hblk3 1; have q2 := blk_frozen hblk3 2; have q3 := blk_frozen hblk3 3; have q4 := blk_frozen hblk3 4
      clear hB3 hblk3 hd3 HB3 HBW2 HBLK2 HD2
      go_wp2
      refine bodyPost_ret (results_ct rfl _ _ w.heap.size 23 #[.int .u8 z3, .int .u8 z4, .int .u8 z5, .int .u8 z6, .int .u8 z7] (0, 0) _ rfl (blk_set (blk_set (blk_set (blk_set (blk_set HBLK3.out 0 _) 1 _) 2 _) 3 _) 4 _) Tryd.underlying23 rfl (by kernel_rfl)) rfl ?_
      have hR := HRES.out
      rw [if_neg (by rintro (h | ⟨h, _⟩) <;> first | exact Bool.noConfusion h | exact h C1.out)] at hR
      simp only [Prod.mk.injEq] at hR
      obtain ⟨e0_, e1_, e2_, e3_, e4_, e5_⟩ := hR
      refine ⟨by rw [← e0_, ← e1_, ← e2_, ← e3_, ← e4_, ← e5_]; rfl, ?_⟩
      exact below_set (below_set (below_set (below_set (below_set HB3'.out (Nat.le_refl _)) (Nat.le_refl _)) (Nat.le_refl _)) (Nat.le_refl _)) (Nat.le_refl _)
    · have c1' : (z8 != z3) = true := bne_iff_ne.2 c1; have C1 := Aside0.mk c1; clear c1
      by_cases c2 : z8 = 13
      · have c2' : (z8 != 13) = false := bne_eq_false_iff_eq.2 c2; have C2 := Aside0.mk c2; clear c2
        go_wp2_with fail
        go_region_held3 (fun w' => w'.cell? ⟨gd, 0, none⟩ = some (.int .u8 z3) ∧ w'.cell? ⟨gd, 1, none⟩ = some (.int .u8 z4) ∧ w'.cell? ⟨gd, 2, none⟩ = some (.int .u8 z5) ∧ w'.cell? ⟨gd, 3, none⟩ = some (.int .u8 z6) ∧ w'.cell? ⟨gd, 4, none⟩ = some (.int .u8 z7) ∧ w'.cell? ⟨ab, ao + 3 + 5, none⟩ = some (.int .u8 z8))
        (first | go_keep | (go_split_ands; refine ⟨?_, ?_, ?_, ?_, ?_, ?_⟩ <;> (refine pw_cell_below HB3.out ?_; assumption)))
        ((go_at_call 18; refine (QRight.delim_Right.calls 10 z3 z4 z5 z6 z7 true _ HRT.out).mono ?_; rintro e w3 ⟨rfl, hb3⟩; have HB3 := Aside0.mk hb3; clear hb3))
        rename_i hHeld
        clear hHeld g0 g1 g2 g3 g4 k8'
        have hB3 : Below w.heap.size w w3 := below_step (below_drew1 HBW2.out) HB3.out
        have hblk3 := blk_below (blk_drew HBLK2.out) HB3.out
        have hd3 := blk_below (blk_drew HD2.out) HB3.out
        have HB3' := Aside0.mk hB3; have HBLK3 := Aside0.mk hblk3; have HD3 := Aside0.mk hd3
        have g0 := (blk_cell hd3 0).trans rfl; have g1 := (blk_cell hd3 1).trans rfl; have g2 := (blk_cell hd3 2).trans rfl; have g3 := (blk_cell hd3 3).trans rfl; have g4 := (blk_cell hd3 4).trans rfl
        have p0 := (blk_cell hblk3 0).trans rfl; have p1 := (blk_cell hblk3 1).trans rfl; have p2 := (blk_cell hblk3 2).trans rfl; have p3 := (blk_cell hblk3 3).trans rfl; have p4 := (blk_cell hblk3 4).trans rfl
        have q0 := blk_frozen hblk3 0; have q1 := blk_frozen hblk3 1; have q2 := blk_frozen hblk3 2; have q3 := blk_frozen hblk3 3; have q4 := blk_frozen hblk3 4
        clear hB3 hblk3 hd3 HB3 HBW2 HBLK2 HD2
        go_wp2
        refine bodyPost_ret (results_ct rfl _ _ w.heap.size 23 #[.int .u8 z3, .int .u8 z4, .int .u8 z5, .int .u8 z6, .int .u8 z7] (0, 0) _ rfl (blk_set (blk_set (blk_set (blk_set (blk_set HBLK3.out 0 _) 1 _) 2 _) 3 _) 4 _) Tryd.underlying23 rfl (by kernel_rfl)) rfl ?_
        have hR := HRES.out
        rw [if_neg (by rintro (h | ⟨_, h⟩) <;> first | exact Bool.noConfusion h | exact h C2.out)] at hR
        simp only [Prod.mk.injEq] at hR
        obtain ⟨e0_, e1_, e2_, e3_, e4_, e5_⟩ := hR
        refine ⟨by rw [← e0_, ← e1_, ← e2_, ← e3_, ← e4_, ← e5_]; rfl, ?_⟩
        exact below_set (below_set (below_set (below_set (below_set HB3'.out (Nat.le_refl _)) (Nat.le_refl _)) (Nat.le_refl _)) (Nat.le_refl _)) (Nat.le_refl _)
      · have c2' : (z8 != 13) = true := bne_iff_ne.2 c2; have C2 := Aside0.mk c2; clear c2
        go_wp2_with fail
        go_region_held3 (fun w' => w'.cell? ⟨gd, 0, none⟩ = some (.int .u8 z3) ∧ w'.cell? ⟨gd, 1, none⟩ = some (.int .u8 z4) ∧ w'.cell? ⟨gd, 2, none⟩ = some (.int .u8 z5) ∧ w'.cell? ⟨gd, 3, none⟩ = some (.int .u8 z6) ∧ w'.cell? ⟨gd, 4, none⟩ = some (.int .u8 z7) ∧ w'.cell? ⟨ab, ao + 3 + 5, none⟩ = some (.int .u8 z8))
        (first | go_keep | (go_split_ands; refine ⟨?_, ?_, ?_, ?_, ?_, ?_⟩ <;> (refine pw_cell_below HB3.out ?_; assumption)))
        ((go_at_call 18; refine (QRight.delim_Right.calls 10 z3 z4 z5 z6 z7 true _ HRT.out).mono ?_; rintro e w3 ⟨rfl, hb3⟩; have HB3 := Aside0.mk hb3; clear hb3))
        rename_i hHeld
        clear hHeld g0 g1 g2 g3 g4 k8'
        have hB3 : Below w.heap.size w w3 := below_step (below_drew1 HBW2.out) HB3.out
        have hblk3 := blk_below (blk_drew HBLK2.out) HB3.out
        have hd3 := blk_below (blk_drew HD2.out) HB3.out
        have HB3' := Aside0.mk hB3; have HBLK3 := Aside0.mk hblk3; have HD3 := Aside0.mk hd3
        have g0 := (blk_cell hd3 0).trans rfl; have g1 := (blk_cell hd3 1).trans rfl; have g2 := (blk_cell hd3 2).trans rfl; have g3 := (blk_cell hd3 3).trans rfl; have g4 := (blk_cell hd3 4).trans rfl
        have p0 := (blk_cell hblk3 0).trans rfl; have p1 := (blk_cell hblk3 1).trans rfl; have p2 := (blk_cell hblk3 2).trans rfl; have p3 := (blk_cell hblk3 3).trans rfl; have p4 := (blk_cell hblk3 4).trans rfl
        have q0 := blk_frozen hblk3 0; have q1 := blk_frozen hblk3 1; have q2 := blk_frozen hblk3 2; have q3 := blk_frozen hblk3 3; have q4 := blk_frozen hblk3 4
        clear hB3 hblk3 hd3 HB3 HBW2 HBLK2 HD2
        go_wp2
        refine bodyPost_ret (results_ct rfl _ _ w.heap.size 23 #[.int .u8 0, .int .u8 0, .int .u8 0, .int .u8 0, .int .u8 0] (0, 0) _ rfl (blk_set (blk_set (blk_set (blk_set (blk_set HBLK3.out 0 _) 1 _) 2 _) 3 _) 4 _) Tryd.underlying23 rfl (by kernel_rfl)) rfl ?_
        have hR := HRES.out
        rw [if_pos (Or.inr ⟨C1.out, C2.out⟩)] at hR
        simp only [Prod.mk.injEq] at hR
        obtain ⟨e0_, e1_, e2_, e3_, e4_, e5_⟩ := hR
        refine ⟨by rw [← e0_, ← e1_, ← e2_, ← e3_, ← e4_, ← e5_]; rfl, ?_⟩
        exact below_set (below_set (below_set (below_set (below_set HB3'.out (Nat.le_refl _)) (Nat.le_refl _)) (Nat.le_refl _)) (Nat.le_refl _)) (Nat.le_refl _)

def delim_Read.f (l0 : List Int) : Option (Int × Int × Int × Int × Int × Int) :=
  if l0.length < 9 then some (0, 0, 0, 0, 0, 7)
  else if (Lib.hasPrefix (Lib.bytesOf (l0.take 9)) (Lib.bytesOf [77, 83, 72])) = false then some (0, 0, 0, 0, 0, 11)
  else (QRight.delim_Right.f 10 (l0.getD 3 0) (l0.getD 4 0) (l0.getD 5 0) (l0.getD 6 0) (l0.getD 7 0)).map fun r =>
    if r = false ∨ (l0.getD 8 0 ≠ l0.getD 3 0 ∧ l0.getD 8 0 ≠ 13) then (0, 0, 0, 0, 0, 11) else (l0.getD 3 0, l0.getD 4 0, l0.getD 5 0, l0.getD 6 0, l0.getD 7 0, 0)
theorem delim_Read.calls (A0 : Option Addr) (c0 : Nat) (l0 : List Int) (r1 r2 r3 r4 r5 r6 : Int) (w : World) (hr0 : Kd.C (Kd.int .u8) w A0 l0.length l0) (hc0 : l0.length ≤ c0) (h : delim_Read.f l0 = some (r1, r2, r3, r4, r5, r6)) :
    Calls Tryd.prog 54 #[.slice A0 l0.length c0] w fun e w' => e = .returned (.tuple #[.agg #[.int .u8 r1, .int .u8 r2, .int .u8 r3, .int .u8 r4, .int .u8 r5], .int .i64 r6]) ∧ Below w.heap.size w w' := by
  unfold delim_Read.f at h
  by_cases h9 : l0.length < 9
  · rw [if_pos h9] at h
    simp only [Option.some.injEq, Prod.mk.injEq] at h
    obtain ⟨rfl, rfl, rfl, rfl, rfl, rfl⟩ := h
    exact delim_short A0 c0 l0 w h9
  · rw [if_neg h9] at h
    by_cases hp : (Lib.hasPrefix (Lib.bytesOf (l0.take 9)) (Lib.bytesOf [77, 83, 72])) = false
    · rw [if_pos hp] at h
      simp only [Option.some.injEq, Prod.mk.injEq] at h
      obtain ⟨rfl, rfl, rfl, rfl, rfl, rfl⟩ := h
      exact delim_other A0 c0 l0 w hr0 hc0 (by omega) hp
    · rw [if_neg hp] at h
      obtain ⟨rt, hrt, hv⟩ := Option.map_eq_some_iff.1 h
      exact delim_on A0 c0 l0 w hr0 hc0 (by omega) (by simpa using hp) rt hrt r1 r2 r3 r4 r5 r6 hv
end Go.Proofs.YtciagecaegoppaaDoor
namespace Go.Proofs.YtciagecaegoppaaDoor
set_option linter.unusedVariables false
set_option linter.unusedSimpArgs false
set_option maxRecDepth 100000
open Go.RowKit Go.Proofs.YtciagecaegoppaaDoorW.PrintWords Go.Proofs.YtciagecaegoppaaDoorW.PrintLast Go.Proofs.YtciagecaegoppaaDoorW.PrintMore

def processL : List ByteArray := [⟨#[80]⟩, ⟨#[68]⟩, ⟨#[84]⟩]
def msh_Check.f (d0 d1 d2 d3 d4 : Int) (s5 s6 s7 s8 s9 s10 s11 s12 s13 s14 : ByteArray) : Option Int :=
  if s11.toList.isEmpty = true ∨ s12.toList.isEmpty = true ∨ 50 < s12.size then some 14
  else (Qfirst.msh_first.f s14 d0 d1 d2 d3 d4).bind fun v =>
    if Lib.containsS versionsL v = false then some 12
    else (Qfirst.msh_first.f s13 d0 d1 d2 d3 d4).bind fun p => if Lib.containsS processL p = false then some 13 else some 0

theorem versions_contains (w : World) (hG : GlobA w) (v : ByteArray) : Calls Tryd.prog 27 #[.slice (some ⟨0, 0, none⟩) 10 10, .string v] w fun e w' => e = .returned (.bool (Lib.containsS versionsL v)) ∧ w' = w :=
  Tryd.slices_Contains_string 0 0 10 10 versionsL v w (Nat.le_refl _) (by omega) (fun j hj => by rw [Nat.zero_add]; exact hG.versions j hj)

theorem process_cells {w w' : World} (hb : Below (w.alloc (.cells #[.string ⟨#[80]⟩, .string ⟨#[68]⟩, .string ⟨#[84]⟩] 9)).heap.size (w.alloc (.cells #[.string ⟨#[80]⟩, .string ⟨#[68]⟩, .string ⟨#[84]⟩] 9)) w') :
    ∀ j, j < processL.length → w'.cell? ⟨w.heap.size, 0 + j, none⟩ = some (.string (processL.getD j ByteArray.empty)) := by
  intro j hj
  have h := blk_below (blk_new w (.cells #[.string ⟨#[80]⟩, .string ⟨#[68]⟩, .string ⟨#[84]⟩] 9)) hb
  rw [Nat.zero_add, blk_cell h]
  have hj : j < 3 := hj
  rcases j with _ | _ | _ | j
  · rfl
  · rfl
  · rfl
  · omega
section
variable (d0 d1 d2 d3 d4 : Int) (s5 s6 s7 s8 s9 s10 s11 s12 s13 s14 : ByteArray) (w : World)
abbrev headV (d0 d1 d2 d3 d4 : Int) (s5 s6 s7 s8 s9 s10 s11 s12 s13 s14 : ByteArray) : Array Value := #[.int .u8 d0, .int .u8 d1, .int .u8 d2, .int .u8 d3, .int .u8 d4, .string s5, .string s6, .string s7, .string s8, .string s9, .string s10, .string s11, .string s12, .string s13, .string s14]

set_option maxHeartbeats 2000000 in
theorem check_field (h : s11.toList.isEmpty = true ∨ s12.toList.isEmpty = true ∨ 50 < s12.size) :
    Calls Tryd.prog 11 #[.agg (headV d0 d1 d2 d3 d4 s5 s6 s7 s8 s9 s10 s11 s12 s13 s14)] w fun e w' => e = .returned (.int .i64 14) ∧ Below w.heap.size w w' := by
  unfold headV
  by_cases h1 : s11.toList.isEmpty = true
  · clear h
    go_enter Tryd.func11, Tryd.ntmps11
    go_wp2
    go_ret
    exact ⟨rfl, below_alloc (Below.refl _ _) _⟩
  · have h1 : s11.toList.isEmpty = false := by simpa using h1
    by_cases h2 : s12.toList.isEmpty = true
    · clear h
      go_enter Tryd.func11, Tryd.ntmps11
      go_wp2
      go_ret
      exact ⟨rfl, below_alloc (Below.refl _ _) _⟩
    · have h2 : s12.toList.isEmpty = false := by simpa using h2
      have h3 : 50 < s12.size := by rcases h with h | h | h <;> simp_all
      have h3' : decide (50 < (s12.size : Int)) = true := decide_eq_true (by omega)
      have h3'' : decide (50 < s12.size) = true := decide_eq_true h3
      clear h h3
      go_enter Tryd.func11, Tryd.ntmps11
      go_wp2
      go_ret
      exact ⟨rfl, below_alloc (Below.refl _ _) _⟩

set_option maxHeartbeats 4000000 in
theorem check_rest (hG : GlobA w) (h1 : s11.toList.isEmpty = false) (h2 : s12.toList.isEmpty = false) (h3 : ¬ 50 < s12.size) (v : ByteArray) (hv : Qfirst.msh_first.f s14 d0 d1 d2 d3 d4 = some v) (bv : Bool) (hbv : Lib.containsS versionsL v = bv) (p : ByteArray) (hp : bv = true → Qfirst.msh_first.f s13 d0 d1 d2 d3 d4 = some p) (bp : Bool) (hbp : Lib.containsS processL p = bp) :
    Calls Tryd.prog 11 #[.agg (headV d0 d1 d2 d3 d4 s5 s6 s7 s8 s9 s10 s11 s12 s13 s14)] w fun e w' => e = .returned (.int .i64 (if bv = true then if bp = true then 0 else 13 else 12)) ∧ Below w.heap.size w w' := by
  unfold headV
  have h3' : decide (50 < (s12.size : Int)) = false := decide_eq_false (by omega)
  have h3'' : decide (50 < s12.size) = false := decide_eq_false h3
  have HG := Aside0.mk hG; have HV := Aside0.mk hv; have HBV := Aside0.mk hbv; have HP := Aside0.mk hp; have HBP := Aside0.mk hbp
  clear h3 hG hv hbv hp hbp
  go_enter Tryd.func11, Tryd.ntmps11
  go_wp2_with fail
  obtain ⟨W, hW⟩ : ∃ x, x = w.alloc (.cells #[.int .u8 d0, .int .u8 d1, .int .u8 d2, .int .u8 d3, .int .u8 d4, .string s5, .string s6, .string s7, .string s8, .string s9, .string s10, .string s11, .string s12, .string s13, .string s14] 25) := ⟨_, rfl⟩
  rw [← hW]
  have hB : Below w.heap.size w W := by rw [hW]; exact below_alloc (Below.refl _ _) _
  have hblk : W.heap[w.heap.size]? = some (.cells #[.int .u8 d0, .int .u8 d1, .int .u8 d2, .int .u8 d3, .int .u8 d4, .string s5, .string s6, .string s7, .string s8, .string s9, .string s10, .string s11, .string s12, .string s13, .string s14] 25 (0, 0)) := by rw [hW]; exact blk_new w _
  have HB := Aside0.mk hB; have HBLK := Aside0.mk hblk
  have g0 := (blk_cell hblk 0).trans rfl; have g1 := (blk_cell hblk 1).trans rfl; have g2 := (blk_cell hblk 2).trans rfl; have g3 := (blk_cell hblk 3).trans rfl; have g4 := (blk_cell hblk 4).trans rfl; have g14 := (blk_cell hblk 14).trans rfl
  clear hW hB hblk
  go_region_held3 (fun w' => w'.cell? ⟨w.heap.size, 0, none⟩ = some (.int .u8 d0) ∧ w'.cell? ⟨w.heap.size, 1, none⟩ = some (.int .u8 d1) ∧ w'.cell? ⟨w.heap.size, 2, none⟩ = some (.int .u8 d2) ∧ w'.cell? ⟨w.heap.size, 3, none⟩ = some (.int .u8 d3) ∧ w'.cell? ⟨w.heap.size, 4, none⟩ = some (.int .u8 d4) ∧ w'.cell? ⟨w.heap.size, 14, none⟩ = some (.string s14))
    (first | go_keep | (go_split_ands; refine ⟨?_, ?_, ?_, ?_, ?_, ?_⟩ <;> (refine pw_cell_below HB3.out ?_; assumption)))
    (first
      | (go_at_call 28; refine (Qfirst.msh_first.calls s14 d0 d1 d2 d3 d4 v _ ?hg HV.out).mono ?_; (case hg => exact HG.out.below (below_drew1 HB.out)); rintro e w3 ⟨rfl, hb3⟩; have HB3 := Aside0.mk hb3; clear hb3)
      | (go_at_call 27; refine (versions_contains _ (HG.out.below (below_step (below_drew1 HB.out) HB3.out)) v).mono ?_; rw [HBV.out]; rintro e w4 ⟨rfl, hw4⟩; have hw4' := hw4.symm; subst hw4'; clear hw4))
  rename_i hHeld
  clear hHeld g0 g1 g2 g3 g4 g14
  have hB3 : Below w.heap.size w w3 := below_step (below_drew1 HB.out) HB3.out
  have hblk3 := blk_below (blk_drew HBLK.out) HB3.out
  have HB3' := Aside0.mk hB3; have HBLK3 := Aside0.mk hblk3
  have g0 : w3.cell? ⟨w.heap.size, 0, none⟩ = some (.int .u8 d0) := blk_cell hblk3 0; have g1 : w3.cell? ⟨w.heap.size, 1, none⟩ = some (.int .u8 d1) := blk_cell hblk3 1; have g2 : w3.cell? ⟨w.heap.size, 2, none⟩ = some (.int .u8 d2) := blk_cell hblk3 2; have g3 : w3.cell? ⟨w.heap.size, 3, none⟩ = some (.int .u8 d3) := blk_cell hblk3 3; have g4 : w3.cell? ⟨w.heap.size, 4, none⟩ = some (.int .u8 d4) := blk_cell hblk3 4; have g13 : w3.cell? ⟨w.heap.size, 13, none⟩ = some (.string s13) := blk_cell hblk3 13
  have hlt1 : w.heap.size < w3.heap.size := blk_lt hblk3
  clear hB3 hblk3 HB HBLK HB3
  cases bv
  · go_wp2
    go_ret
    exact ⟨rfl, HB3'.out⟩
  · have hfst := HP.out rfl
    have HF := Aside0.mk hfst
    clear hfst HP
    go_wp2_with (first
      | (go_at_call 28; refine (Qfirst.msh_first.calls s13 d0 d1 d2 d3 d4 p _ ?hg HF.out).mono ?_; (case hg => exact HG.out.below (below_alloc HB3'.out _)); rintro e w5 ⟨rfl, hb5⟩; have HB5 := Aside0.mk hb5; clear hb5)
      | (go_at_call 27; refine (Tryd.slices_Contains_string w3.heap.size 0 3 3 processL p _ (Nat.le_refl _) (by omega) ?hc).mono ?_; (case hc => exact process_cells HB5.out); rw [show List.take 3 processL = processL from rfl, HBP.out]; rintro e w4 ⟨rfl, hw4⟩; have hw4' := hw4.symm; subst hw4'; clear hw4))
    all_goals go_ret
    all_goals (refine ⟨?_, below_step (below_alloc HB3'.out _) HB5.out⟩; cases bp <;> simp_all)
end

theorem msh_Check.calls (d0 d1 d2 d3 d4 : Int) (s5 s6 s7 s8 s9 s10 s11 s12 s13 s14 : ByteArray) (r : Int) (w : World) (hG : GlobA w) (h : msh_Check.f d0 d1 d2 d3 d4 s5 s6 s7 s8 s9 s10 s11 s12 s13 s14 = some r) :
    Calls Tryd.prog 11 #[.agg #[.int .u8 d0, .int .u8 d1, .int .u8 d2, .int .u8 d3, .int .u8 d4, .string s5, .string s6, .string s7, .string s8, .string s9, .string s10, .string s11, .string s12, .string s13, .string s14]] w fun e w' => e = .returned (.int .i64 r) ∧ Below w.heap.size w w' := by
  unfold msh_Check.f at h
  by_cases hf : s11.toList.isEmpty = true ∨ s12.toList.isEmpty = true ∨ 50 < s12.size
  · rw [if_pos hf] at h
    obtain rfl := Option.some.inj h
    exact check_field d0 d1 d2 d3 d4 s5 s6 s7 s8 s9 s10 s11 s12 s13 s14 w hf
  · rw [if_neg hf] at h
    obtain ⟨v, hv, h⟩ := Option.bind_eq_some_iff.1 h
    have h1 : s11.toList.isEmpty = false := by simpa using fun e => hf (.inl e)
    have h2 : s12.toList.isEmpty = false := by simpa using fun e => hf (.inr (.inl e))
    have h3 : ¬ 50 < s12.size := fun e => hf (.inr (.inr e))
    by_cases hbv : Lib.containsS versionsL v = false
    · rw [if_pos hbv] at h
      obtain rfl := Option.some.inj h
      exact check_rest d0 d1 d2 d3 d4 s5 s6 s7 s8 s9 s10 s11 s12 s13 s14 w hG h1 h2 h3 v hv false hbv ByteArray.empty (fun e => by cases e) _ rfl
    · rw [if_neg hbv] at h
      obtain ⟨p, hp, h⟩ := Option.bind_eq_some_iff.1 h
      have hbv' : Lib.containsS versionsL v = true := by simpa using hbv
      have := check_rest d0 d1 d2 d3 d4 s5 s6 s7 s8 s9 s10 s11 s12 s13 s14 w hG h1 h2 h3 v hv true hbv' p (fun _ => hp) _ rfl
      refine this.mono fun e w' ⟨he, hb⟩ => ⟨?_, hb⟩
      rw [he]
      by_cases hbp : Lib.containsS processL p = false
      · rw [if_pos hbp] at h
        obtain rfl := Option.some.inj h
        simp [hbp]
      · rw [if_neg hbp] at h
        obtain rfl := Option.some.inj h
        simp [hbp]
end Go.Proofs.YtciagecaegoppaaDoor
namespace Go.Proofs.YtciagecaegoppaaDoor
set_option linter.unusedVariables false
set_option linter.unusedSimpArgs false
set_option maxRecDepth 100000
open Go.RowKit Go.Proofs.YtciagecaegoppaaDoorW.PrintWords Go.Proofs.YtciagecaegoppaaDoorW.PrintLast Go.Proofs.YtciagecaegoppaaDoorW.PrintMore

theorem insert_law {P : Program} {W : World} {ops : Array Oper} {rest : List Oper} {o : Oper} {a : Act} {Q : Exit → Act → World → Prop} {es : Array MapEntry} {clock r : Nat} {kt et : TypeId} (hg : o.guard = none) (m x v : Operand) (t : TypeId) (hop : o.op = .insert t m x v) (hd : o.dst = none)
    (key : Int) (val : Value) (hm : a.eval m = .map (some r)) (hx : a.eval x = .int .i64 key) (hv : a.eval v = val) (ht : P.underlying t = some (.map kt et)) (hk : P.underlying kt = some (.int .i64)) (hb : W.heap[r]? = some (.map es clock))
    (hf : Instr.findNow (.int .i64) (.int .i64 key) es.toList 0 = some none)
    (hK : ∀ w', w'.heap[r]? = some (.map (es.push { key := .int .i64 key, val := val, born := clock }) (clock + 1)) → W.grownBy w' (some r) → wpList P ops Q rest a w') : wpList P ops Q (o :: rest) a W := by
  refine wpList_plain hg fun K hK' => ?_
  have hc : (Instr.checkKey false 10000 kt (.int .i64 key)).run P W = .ok () W := MapKept.run_checkKey (k := .int .i64 key) hk (by simp [MapKept.IsKey]) false 9999
  have hrun : (Instr.mapUpdate t (.map (some r)) (.int .i64 key) val).run P W = .ok () { W with heap := W.heap.setIfInBounds r (.map (es.push { key := .int .i64 key, val := val, born := clock }) (clock + 1)) } := by
    simp [Instr.mapUpdate, run_underlying ht, MapKept.run_getObj_map hb, hc, MapKept.run_findKey hk hf, MapKept.run_setObj_map _ hb, Result.andThen]
  have hex : (execOp a.eval o).run P W = .ok .skip { W with heap := W.heap.setIfInBounds r (.map (es.push { key := .int .i64 key, val := val, born := clock }) (clock + 1)) } := by
    simp [execOp, hop, hm, hx, hv, hrun, Result.andThen]
  unfold Oper.wp
  rw [hex]
  show K (a.put o.dst undef) _
  have hh := MapKept.heap_set (o' := .map (es.push { key := .int .i64 key, val := val, born := clock }) (clock + 1)) hb
  rw [hd]
  exact hK' _ _ (hK _ hh.1 ⟨rfl, rfl, rfl, by simp, fun i _ hi => hh.2 i (fun e => hi (by rw [e]))⟩)

def ansEs : Array MapEntry := #[{ key := .int .i64 0, val := .string ⟨#[65, 65]⟩, born := 0 }, { key := .int .i64 14, val := .string ⟨#[65, 69]⟩, born := 1 }, { key := .int .i64 12, val := .string ⟨#[65, 82]⟩, born := 2 }, { key := .int .i64 13, val := .string ⟨#[65, 82]⟩, born := 3 }]
def codeOf (e : Int) : ByteArray := if e = 0 then ⟨#[65, 65]⟩ else if e = 14 then ⟨#[65, 69]⟩ else ⟨#[65, 82]⟩

theorem ans_below {w w1 w2 w3 w4 : World} (g1 : (w.alloc (.map #[] 0)).grownBy w1 (some w.heap.size)) (g2 : w1.grownBy w2 (some w.heap.size)) (g3 : w2.grownBy w3 (some w.heap.size)) (g4 : w3.grownBy w4 (some w.heap.size)) : Below w.heap.size w w4 := by
  have b0 : Below w.heap.size w (w.alloc (.map #[] 0)) := below_alloc (Below.refl _ _) _
  have b1 := below_grown b0 g1 b0.size (fun r e => by cases e; exact Nat.le_refl _)
  have b2 := below_grown b1 g2 b1.size (fun r e => by cases e; exact Nat.le_refl _)
  have b3 := below_grown b2 g3 b2.size (fun r e => by cases e; exact Nat.le_refl _)
  exact below_grown b3 g4 b3.size (fun r e => by cases e; exact Nat.le_refl _)
theorem answers_calls (w : World) : Calls Tryd.prog 26 #[] w fun e w' => ∃ r, e = .returned (.map (some r)) ∧ w'.heap[r]? = some (.map ansEs 4) ∧ Below w.heap.size w w' := by
  have hmm := @run_makeMap Tryd.prog
  go_enter Tryd.func26, Tryd.ntmps26
  go_wp2_with (first
    | (refine insert_law (r := w.heap.size) (es := #[]) (clock := 0) rfl (.tmp 1) (.const (.int .i64 0)) (.const (.string ⟨#[65, 65]⟩)) 66 rfl rfl 0 (.string ⟨#[65, 65]⟩) rfl rfl rfl Tryd.underlying66 Tryd.underlying27 (blk_new w _) rfl ?_; intro w1 h1 g1)
    | (refine insert_law (r := w.heap.size) rfl (.tmp 1) (.const (.int .i64 14)) (.const (.string ⟨#[65, 69]⟩)) 66 rfl rfl 14 (.string ⟨#[65, 69]⟩) rfl rfl rfl Tryd.underlying66 Tryd.underlying27 h1 rfl ?_; intro w2 h2 g2)
    | (refine insert_law (r := w.heap.size) rfl (.tmp 1) (.const (.int .i64 12)) (.const (.string ⟨#[65, 82]⟩)) 66 rfl rfl 12 (.string ⟨#[65, 82]⟩) rfl rfl rfl Tryd.underlying66 Tryd.underlying27 h2 rfl ?_; intro w3 h3 g3)
    | (refine insert_law (r := w.heap.size) rfl (.tmp 1) (.const (.int .i64 13)) (.const (.string ⟨#[65, 82]⟩)) 66 rfl rfl 13 (.string ⟨#[65, 82]⟩) rfl rfl rfl Tryd.underlying66 Tryd.underlying27 h3 rfl ?_; intro w4 h4 g4; have HH := Aside0.mk h4; have HB := Aside0.mk (ans_below g1 g2 g3 g4); clear h1 h2 h3 h4 g1 g2 g3 g4))
  go_ret
  exact ⟨_, rfl, HH.out, HB.out⟩

theorem answers_look (e : Int) (he : e = 0 ∨ e = 12 ∨ e = 13 ∨ e = 14) (r : Nat) (W : World) (hb : W.heap[r]? = some (.map ansEs 4)) :
    (Instr.lookup 66 (.map (some r)) (.int .i64 e) false).run Tryd.prog W = .ok (.string (codeOf e)) W := by
  have hk : Tryd.prog.underlying 27 = some (.int .i64) := Tryd.underlying27
  have hc : (Instr.checkKey ansEs.isEmpty 10000 27 (.int .i64 e)).run Tryd.prog W = .ok () W := MapKept.run_checkKey (k := .int .i64 e) hk (by simp [MapKept.IsKey]) _ 9999
  rcases he with rfl | rfl | rfl | rfl
  · have hf : Instr.findNow (.int .i64) (.int .i64 0) ansEs.toList 0 = some (some (0, .string ⟨#[65, 65]⟩)) := rfl
    simp [Instr.lookup, run_underlying Tryd.underlying66, MapKept.run_getObj_map hb, hc, MapKept.run_findKey hk hf, Result.andThen, codeOf]
  · have hf : Instr.findNow (.int .i64) (.int .i64 12) ansEs.toList 0 = some (some (2, .string ⟨#[65, 82]⟩)) := rfl
    simp [Instr.lookup, run_underlying Tryd.underlying66, MapKept.run_getObj_map hb, hc, MapKept.run_findKey hk hf, Result.andThen, codeOf]
  · have hf : Instr.findNow (.int .i64) (.int .i64 13) ansEs.toList 0 = some (some (3, .string ⟨#[65, 82]⟩)) := rfl
    simp [Instr.lookup, run_underlying Tryd.underlying66, MapKept.run_getObj_map hb, hc, MapKept.run_findKey hk hf, Result.andThen, codeOf]
  · have hf : Instr.findNow (.int .i64) (.int .i64 14) ansEs.toList 0 = some (some (1, .string ⟨#[65, 69]⟩)) := rfl
    simp [Instr.lookup, run_underlying Tryd.underlying66, MapKept.run_getObj_map hb, hc, MapKept.run_findKey hk hf, Result.andThen, codeOf]
end Go.Proofs.YtciagecaegoppaaDoor
