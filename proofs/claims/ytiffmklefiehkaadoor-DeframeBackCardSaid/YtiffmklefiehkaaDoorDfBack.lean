/- Frames of bytes that may be in one, with junk between, are found as they are: the walk. -/
import Derived.Test.YtiffmklefiehkaaDoorDfSame
namespace Go.Proofs.YtiffmklefiehkaaDoor
set_option linter.unusedVariables false
open Go.RowKit Go.Proofs.YtiffmklefiehkaaDoorW.PrintWords Go.Proofs.YtiffmklefiehkaaDoorW.PrintLast

/-- A row that another world's memory holds: what its header says. -/
def hdr (w0 : World) : Kd (List Int) where
  sz := 1
  E := []
  K := fun _ x cs => ∃ A c, cs = [.slice A x.length c] ∧ x.length ≤ c ∧ (Kd.int .u8).C w0 A x.length x
  M := fun _ _ _ x cs => ∃ A c, cs = [.slice A x.length c] ∧ x.length ≤ c ∧ (Kd.int .u8).C w0 A x.length x
  K_len := by
    rintro w x cs ⟨A, c, rfl, _⟩
    rfl
  K_one := by
    rintro w x cs ⟨A, c, rfl, _⟩ u hu
    rw [List.mem_singleton.1 hu]
    rfl
  K_below := fun _ h => h
  K_of_M := fun h => h
  M_mono := fun _ h => h
  M_bound := fun h => h
  M_move := fun _ h => h
  M_lower := fun _ h => h

theorem hdr_C {w0 w : World} {A : Option Addr} {n : Nat} {xs : List (List Int)} (h : (hdr w0).C w A n xs) (hb : Below w0.heap.size w0 w) : (Kd.slice 5 (Kd.int .u8)).C w A n xs :=
  h.imp_ (Below.refl _ _) (fun _ _ ⟨A, c, e, l, r⟩ => ⟨A, c, e, l, Kd.C_below r hb⟩)

/-- A row of the call's own, and what else lies apart from it. -/
theorem own_keep {α : Type} {d : Kd α} {e base : Nat} {W w1 : World} {u v v1 : Value} {xs : List α} (hd : d.R e W base (fun k => u.ownBlock = some k) u xs) (hap : ∀ k, v.ownBlock = some k → u.ownBlock ≠ some k) (hg : W.grownBy w1 v.ownBlock) (hat : v1.ownBlock = v.ownBlock ∨ ∃ b, v1.ownBlock = some b ∧ W.heap.size ≤ b) :
    d.R e w1 base (fun k => u.ownBlock = some k) u xs ∧ ∀ k, v1.ownBlock = some k → u.ownBlock ≠ some k :=
  ⟨Kd.R_step hd (fun k hk hlt => hg.block k hlt (fun e => hap k e.symm hk)), fun k hk e => by
    rcases hat with h | ⟨b, hb, hge⟩
    · exact hap k (h ▸ hk) e
    · have := Kd.R_lt hd k e
      rw [hk] at hb
      injection hb with hb
      omega⟩
theorem int_own {e base : Nat} {W : World} {ok : Nat → Prop} {v : Value} {k : IntKind} {xs : List Int} (h : (Kd.int k).R e W base ok v xs) : (Kd.int k).R e W base (fun k => v.ownBlock = some k) v xs := ⟨fun _ h => h, h.2⟩
theorem hdr_own {w0 : World} {e base : Nat} {W : World} {ok : Nat → Prop} {v : Value} {xs : List (List Int)} (h : (hdr w0).R e W base ok v xs) : (hdr w0).R e W base (fun k => v.ownBlock = some k) v xs := ⟨fun _ h => h, h.2⟩

def noJ (js : List Int) : List Int := js.filter (fun c => decide (c ≠ 11))
def frameOf (b : List Int) : List Int := 11 :: b ++ [28, 13]
def allOf (js : List Int) (ls : List (List Int)) : List Int := ls.flatMap fun b => if goodL b then noJ js ++ frameOf b else []
def goodsOf (ls : List (List Int)) : List (List Int) := ls.filter goodL
def wantOf (m : Int) (ls : List (List Int)) : List (List Int) := ls.filter fun b => goodL b && decide ((b.length : Int) ≤ m)
def overOf (m : Int) (ls : List (List Int)) : List (List Int) := ls.filter fun b => goodL b && !decide ((b.length : Int) ≤ m)

theorem allOf_snoc (js : List Int) (l : List (List Int)) (b : List Int) : allOf js (l ++ [b]) = allOf js l ++ (if goodL b then noJ js ++ frameOf b else []) := by simp [allOf, List.flatMap_append]
theorem goodsOf_snoc (l : List (List Int)) (b : List Int) : goodsOf (l ++ [b]) = goodsOf l ++ (if goodL b then [b] else []) := by
  unfold goodsOf
  rw [List.filter_append]
  cases h : goodL b <;> simp [h]
theorem wantOf_snoc (m : Int) (l : List (List Int)) (b : List Int) : wantOf m (l ++ [b]) = wantOf m l ++ (if goodL b && decide ((b.length : Int) ≤ m) then [b] else []) := by
  unfold wantOf
  rw [List.filter_append]
  cases h : goodL b && decide ((b.length : Int) ≤ m) <;> simp only [List.filter_cons, List.filter_nil, h] <;> rfl
theorem overOf_snoc (m : Int) (l : List (List Int)) (b : List Int) : overOf m (l ++ [b]) = overOf m l ++ (if goodL b && !decide ((b.length : Int) ≤ m) then [b] else []) := by
  unfold overOf
  rw [List.filter_append]
  cases h : goodL b && !decide ((b.length : Int) ≤ m) <;> simp only [List.filter_cons, List.filter_nil, h] <;> rfl
theorem noJ_snoc (l : List Int) (c : Int) : noJ (l ++ [c]) = noJ l ++ (if c = 11 then [] else [c]) := by
  unfold noJ
  rw [List.filter_append]
  by_cases h : c = 11 <;> simp [h]
theorem noJ_len (l : List Int) : (noJ l).length ≤ l.length := List.length_filter_le _ _
theorem noJ_bytes {l : List Int} (h : Bytes l) : Bytes (noJ l) := fun x hx => h x ((List.mem_filter.1 hx).1)
theorem goodsOf_len (l : List (List Int)) : (goodsOf l).length ≤ l.length := List.length_filter_le _ _
theorem overOf_len (m : Int) (l : List (List Int)) : (overOf m l).length ≤ l.length := List.length_filter_le _ _
theorem wantOf_len (m : Int) (l : List (List Int)) : (wantOf m l).length ≤ l.length := List.length_filter_le _ _
theorem allOf_len (js : List Int) (l : List (List Int)) : (allOf js l).length ≤ l.length * (js.length + 3) + bulkL l := by
  induction l with
  | nil => simp [allOf]
  | cons b r ih =>
    have e : allOf js (b :: r) = (if goodL b then noJ js ++ frameOf b else []) ++ allOf js r := by simp [allOf]
    have e2 : bulkL (b :: r) = b.length + bulkL r := by simp [bulkL]
    have h := noJ_len js
    rw [e, e2, List.length_append, List.length_cons, Nat.add_mul]
    cases goodL b with
    | true =>
      rw [if_pos rfl, List.length_append]
      have : (frameOf b).length = b.length + 3 := by simp [frameOf]
      omega
    | false =>
      rw [if_neg (by decide), List.length_nil]
      omega
theorem allOf_bytes {js : List Int} {l : List (List Int)} (hj : Bytes js) (hl : ∀ x ∈ l, Bytes x) : Bytes (allOf js l) := by
  intro x hx
  obtain ⟨b, hb, hx⟩ := List.mem_flatMap.1 hx
  split at hx
  · rcases List.mem_append.1 hx with hx | hx
    · exact noJ_bytes hj x hx
    · exact bytes_wrap (hl b hb) x hx
  · cases hx

/-- What stands behind i pieces. -/
structure BackInv (w w2 : World) (m : Int) (js : List Int) (ls : List (List Int)) (i : Nat) (v9 v10 v11 v12 : Value) (W : World) : Prop where
  all : (Kd.int .u8).R 5 W w2.heap.size (fun k => v9.ownBlock = some k) v9 (allOf js (ls.take i))
  want : (hdr w).R 22 W w2.heap.size (fun k => v10.ownBlock = some k) v10 (wantOf m (ls.take i))
  ap : ∀ k, v9.ownBlock = some k → v10.ownBlock ≠ some k
  noise : v11 = .int .i64 (((goodsOf (ls.take i)).length * (noJ js).length : Nat) : Int)
  over : v12 = .int .i64 (((overOf m (ls.take i)).length : Nat) : Int)
  below : Below w2.heap.size w2 W

/-- A piece that may not be in a frame is passed over. -/
theorem BackInv.skip {w w2 : World} {m : Int} {js : List Int} {ls : List (List Int)} {i : Nat} {v9 v10 v11 v12 : Value} {W W' : World} (h : BackInv w w2 m js ls i v9 v10 v11 v12 W) (hb : Below W.heap.size W W') {b : List Int} (hls : ls.take (i + 1) = ls.take i ++ [b]) (hg : goodL b = false) :
    BackInv w w2 m js ls (i + 1) v9 v10 v11 v12 W' := by
  refine ⟨?_, ?_, h.ap, ?_, ?_, h.below.trans (hb.mono h.below.size)⟩
  · rw [hls, allOf_snoc, hg, if_neg (by decide), List.append_nil]; exact Kd.R_below h.all hb
  · rw [hls, wantOf_snoc, hg, Bool.false_and, if_neg (by decide), List.append_nil]; exact Kd.R_below h.want hb
  · rw [hls, goodsOf_snoc, hg, if_neg (by decide), List.append_nil]; exact h.noise
  · rw [hls, overOf_snoc, hg, Bool.false_and, if_neg (by decide), List.append_nil]; exact h.over

/-- What stands behind j bytes of the junk ahead of a frame. -/
structure JunkInv (w w2 : World) (xs : List Int) (ws : List (List Int)) (n0 : Nat) (js : List Int) (fr : List Int) (vf v10 : Value) (j : Nat) (v9 v11 : Value) (W : World) : Prop where
  all : (Kd.int .u8).R 5 W w2.heap.size (fun k => v9.ownBlock = some k) v9 (xs ++ noJ (js.take j))
  want : (hdr w).R 22 W w2.heap.size (fun k => v10.ownBlock = some k) v10 ws
  fr : (Kd.int .u8).R 5 W w2.heap.size (fun k => vf.ownBlock = some k) vf fr
  ap : ∀ k, v9.ownBlock = some k → v10.ownBlock ≠ some k
  apf : ∀ k, v9.ownBlock = some k → vf.ownBlock ≠ some k
  noise : v11 = .int .i64 ((n0 + (noJ (js.take j)).length : Nat) : Int)
  below : Below w2.heap.size w2 W

theorem JunkInv.skip {w w2 : World} {xs : List Int} {ws : List (List Int)} {n0 : Nat} {js fr : List Int} {vf v10 : Value} {j : Nat} {v9 v11 : Value} {W : World} (h : JunkInv w w2 xs ws n0 js fr vf v10 j v9 v11 W) (hjs : js.take (j + 1) = js.take j ++ [11]) : JunkInv w w2 xs ws n0 js fr vf v10 (j + 1) v9 v11 W := by
  refine ⟨?_, h.want, h.fr, h.ap, h.apf, ?_, h.below⟩
  · rw [hjs, noJ_snoc, if_pos rfl, List.append_nil]; exact h.all
  · rw [hjs, noJ_snoc, if_pos rfl, List.append_nil]; exact h.noise
theorem JunkInv.add {w w2 : World} {xs : List Int} {ws : List (List Int)} {n0 : Nat} {js fr : List Int} {vf v10 : Value} {j : Nat} {v9 v11 : Value} {W : World} (h : JunkInv w w2 xs ws n0 js fr vf v10 j v9 v11 W) {c : Int} (hjs : js.take (j + 1) = js.take j ++ [c]) (hc : c ≠ 11) {v1 : Value} {w1 : World} {ok : Nat → Prop}
    (h1 : (Kd.int .u8).R 5 w1 w2.heap.size ok v1 ((xs ++ noJ (js.take j)) ++ [c])) (hg : W.grownBy w1 v9.ownBlock) (hat : v1.ownBlock = v9.ownBlock ∨ ∃ b, v1.ownBlock = some b ∧ W.heap.size ≤ b) (hb : Below w2.heap.size w2 w1) {v11' : Value} (hn : v11' = .int .i64 ((n0 + (noJ (js.take j)).length : Nat) + 1 : Int)) :
    JunkInv w w2 xs ws n0 js fr vf v10 (j + 1) v1 v11' w1 := by
  obtain ⟨k1, k2⟩ := own_keep h.want h.ap hg hat
  obtain ⟨k3, k4⟩ := own_keep h.fr h.apf hg hat
  refine ⟨?_, k1, k3, k2, k4, ?_, hb⟩
  · rw [hjs, noJ_snoc, if_neg hc, ← List.append_assoc]; exact int_own h1
  · rw [hjs, noJ_snoc, if_neg hc, hn, List.length_append]; simp only [List.length_cons, List.length_nil]; congr 1

/-- A frame more. -/
theorem BackInv.add {w w2 : World} {m : Int} {js : List Int} {ls : List (List Int)} {i : Nat} {v9 v10 v11 v12 : Value} {W : World} {b xs fr : List Int} {ws : List (List Int)} {n0 : Nat} (hls : ls.take (i + 1) = ls.take i ++ [b]) (hg : goodL b = true) (hxs : xs = allOf js (ls.take i)) (hfr : fr = frameOf b) (hws : ws = wantOf m (ls.take i)) (hn0 : n0 = (goodsOf (ls.take i)).length * (noJ js).length)
    (ho9 : (Kd.int .u8).R 5 W w2.heap.size (fun k => v9.ownBlock = some k) v9 ((xs ++ noJ js) ++ fr))
    (ho10 : (hdr w).R 22 W w2.heap.size (fun k => v10.ownBlock = some k) v10 (if (b.length : Int) ≤ m then ws ++ [b] else ws))
    (hap : ∀ k, v9.ownBlock = some k → v10.ownBlock ≠ some k) (hn : v11 = .int .i64 ((n0 + (noJ js).length : Nat) : Int))
    (ho : v12 = .int .i64 (if (b.length : Int) ≤ m then (((overOf m (ls.take i)).length : Nat) : Int) else (((overOf m (ls.take i)).length : Nat) : Int) + 1)) (hb : Below w2.heap.size w2 W) :
    BackInv w w2 m js ls (i + 1) v9 v10 v11 v12 W := by
  refine ⟨?_, ?_, hap, ?_, ?_, hb⟩
  · rw [hls, allOf_snoc, hg, if_pos rfl, ← hxs, ← hfr, ← List.append_assoc]; exact ho9
  · rw [hls, wantOf_snoc, hg, Bool.true_and, ← hws]
    by_cases h : (b.length : Int) ≤ m
    · rw [if_pos h] at ho10; rw [decide_eq_true h, if_pos rfl]; exact ho10
    · rw [if_neg h] at ho10; rw [decide_eq_false h, if_neg (by decide), List.append_nil]; exact ho10
  · rw [hls, goodsOf_snoc, hg, if_pos rfl, hn, hn0, List.length_append, List.length_cons, List.length_nil, Nat.add_mul]
    simp
  · rw [hls, overOf_snoc, hg, Bool.true_and, ho]
    by_cases h : (b.length : Int) ≤ m
    · rw [if_pos h, decide_eq_true h]; simp
    · rw [if_neg h, decide_eq_false h]; simp

set_option maxHeartbeats 2000000 in
set_option maxRecDepth 100000 in
theorem back_main (n : Int) (A1 : Option Addr) (c1 : Nat) (ls : List (List Int)) (A2 : Option Addr) (c2 : Nat) (js : List Int) (w : World) (hG : Glob w) (hr1 : Kd.C (Kd.slice 5 (Kd.int .u8)) w A1 ls.length ls) (hc1 : ls.length ≤ c1) (hr2 : Kd.C (Kd.int .u8) w A2 js.length js) (hc2 : js.length ≤ c2)
    (hl : ls.length ≤ 100) (hk : bulkL ls ≤ 3000) (hj : js.length ≤ 100) (hb1 : ∀ x ∈ ls, Bytes x) (hb2 : Bytes js)
    (J : Int) (hrun : Df.run (Df.new (mostL n)) (allOf js ls) = ⟨mostL n, false, false, [], wantOf (mostL n) ls, J, ((overOf (mostL n) ls).length : Int), 0⟩) (hJ0 : 0 ≤ J) (hJ1 : (overOf (mostL n) ls).length = 0 → J = (((goodsOf ls).length * (noJ js).length : Nat) : Int)) :
    Calls Tryd.prog 9 #[.int .i64 n, .slice A1 ls.length c1, .slice A2 js.length c2] w fun e w' => e = .returned (.bool true) ∧ Below w.heap.size w w' := by
  have HG := Aside0.mk hG; have HR1 := Aside0.mk hr1; have HR2 := Aside0.mk hr2; have HC1 := Aside0.mk hc1; have HC2 := Aside0.mk hc2
  have HL := Aside0.mk hl; have HK := Aside0.mk hk; have HJ := Aside0.mk hj; have HB1 := Aside0.mk hb1; have HB2 := Aside0.mk hb2
  have HM := Aside0.mk (mostL_range n); have HRUN := Aside0.mk hrun; have HJ0' := Aside0.mk hJ0; have HJ1' := Aside0.mk hJ1
  clear hrun hJ0 hJ1
  have hgr : greatL ls = false := by unfold greatL; rw [decide_eq_false (by omega), decide_eq_false (by omega)]; rfl
  have HGR := Aside0.mk (hgr ▸ great_f ls (by omega) (by omega))
  have HB := Aside0.mk (Below.refl w.heap.size w)
  have hj1 : decide (100 < (js.length : Int)) = false := decide_eq_false (by omega)
  have hj2 : decide (100 < js.length) = false := decide_eq_false (by omega)
  clear hG hr1 hr2 hc1 hc2 hl hk hj hb1 hb2 hgr
  go_enter Tryd.func9, Tryd.ntmps9
  go_upto_region 9 with (first
    | (go_at_call 19; refine (df_alive _).mono ?_; rintro e w1 ⟨rfl, hb⟩; have HBn := Aside0.mk (HB.out.trans (hb.mono HB.out.size)); clear HB hb; have HB := HBn; clear HBn)
    | (go_at_call 20; refine (lamplighterlaw05_great.calls _ _ _ _ _ _ (Kd.C_below HR1.out HB.out) HC1.out HGR.out).mono ?_; rintro e w1 ⟨rfl, ⟨⟨q, rfl⟩⟩⟩; have HBn := Aside0.mk (HB.out.trans ((pw_below_drewN (Below.refl _ _) q).mono HB.out.size)); clear HB; have HB := HBn; clear HBn)
    | (go_at_call 22; refine (most_any _ _).mono ?_; rintro e w' ⟨rfl, hw⟩; have hw' := hw.symm; subst hw'; clear hw)
    | (go_at_call 21; refine (df_new _ _ _ (Nat.le_refl _) (by have := HM.out; omega) (by have := HM.out; omega)).mono ?_; rintro e w2 ⟨rfl, hI, hb⟩; have HSZ := Aside0.mk HB.out.size; have HBn := Aside0.mk (HB.out.trans (hb.mono HB.out.size)); have HI := Aside0.mk hI; clear HB hI hb; have HB := HBn; clear HBn))
  have hI' := HI.out
  rw [show (w1.drewN q).heap.size = w1.heap.size from rfl] at hI'
  have HI' := Aside0.mk hI'
  clear HI hI'
  go_wp2
  go_loopw [9, 10, 11, 12, 47] (fun v9 v10 v11 v12 v47 W => ∃ i : Nat, i ≤ ls.length ∧ v47 = .int .i64 (i : Int) ∧ Aside0 (BackInv w w2 (mostL n) js ls i v9 v10 v11 v12 W)) (fun v9 v10 v11 v12 v47 _ => ls.length - (intOf v47).toNat)
  case atStart => exact ⟨0, Nat.zero_le _, rfl, ⟨Kd.R_nil _ _ _ _ _, Kd.R_nil _ _ _ _ _, fun k h => by simp [Value.ownBlock] at h, by simp [goodsOf], rfl, Below.refl _ _⟩⟩
  case round =>
    obtain ⟨i, hi, rfl, HV⟩ := hrel
    by_cases hlt : i < ls.length
    · have hl100 := HL.out
      have hWW := HB.out.trans (HV.out.below.mono HB.out.size)
      obtain ⟨ad, Ab, cb, ea, hcell, hlb, hCb⟩ := at_L1 HR1.out (i : Int) (by omega) (by omega)
      subst ea
      obtain ⟨b, hb⟩ : ∃ b, b = rd_L1 ls (i : Int) := ⟨_, rfl⟩
      rw [← hb] at hcell hlb hCb
      have hb' : ls[i] = b := by rw [hb]; simp [rd_L1, hlt]
      have hmem : b ∈ ls := hb' ▸ List.getElem_mem hlt
      have hls : ls.take (i + 1) = ls.take i ++ [b] := by rw [List.take_succ_eq_append_getElem hlt, hb']
      rw [Int.toNat_natCast] at hcell
      have hcell := pw_cell_below hWW hcell
      have hbl := Nat.le_trans (bulk_mem hmem) HK.out
      have hwf := wrap_f b (HB1.out b hmem) (by omega)
      have HCB := Aside0.mk hCb; have HLB := Aside0.mk hlb; have HLS := Aside0.mk hls; have HWW := Aside0.mk hWW; have HBL := Aside0.mk hbl; have HBB := Aside0.mk (HB1.out b hmem)
      clear hb hb' hmem hls hWW hbl hlb hCb
      cases hg : goodL b with
      | false =>
        rw [hg, if_neg (by decide)] at hwf
        have HWF := Aside0.mk hwf
        clear hwf
        go_wp2_with (go_at_call 12; refine (frame_Wrap.calls _ _ _ _ _ _ (Glob.below HG.out HWW.out) (Kd.C_below HCB.out HWW.out) HLB.out HWF.out).mono ?_; rintro e w3 ⟨v, rfl, ho, hb⟩; obtain ⟨Av, cv, ev⟩ := Kd.R_slice ho; subst ev; have HB3 := Aside0.mk hb; clear hb ho)
        go_roundw
        case rel => exact ⟨i + 1, by omega, by go_num, ⟨HV.out.skip HB3.out HLS.out hg⟩⟩
        case measure => simp [intOf]; omega
      | true =>
        rw [hg, if_pos rfl] at hwf
        obtain ⟨fr, hfr⟩ : ∃ fr, fr = frameOf b := ⟨_, rfl⟩
        have hwf2 : frame_Wrap.f b = some (fr, 0) := by rw [hwf, hfr]; rfl
        have HWF := Aside0.mk hwf2
        have hfl : fr.length = b.length + 3 := by rw [hfr]; simp [frameOf]
        have HFR := Aside0.mk hfr; have HFL := Aside0.mk hfl
        clear hwf hwf2 hfr hfl
        go_upto_region 14 with (go_at_call 12; refine (frame_Wrap.calls _ _ _ _ _ _ (Glob.below HG.out HWW.out) (Kd.C_below HCB.out HWW.out) HLB.out HWF.out).mono ?_; rintro e w3 ⟨v, rfl, ho, hb⟩; obtain ⟨Av, cv, ev⟩ := Kd.R_slice ho; subst ev; have HB3 := Aside0.mk hb; have HO3 := Aside0.mk ho; clear hb ho)
        obtain ⟨xs, hxs⟩ : ∃ x, x = allOf js (ls.take i) := ⟨_, rfl⟩
        obtain ⟨ws, hws⟩ : ∃ x, x = wantOf (mostL n) (ls.take i) := ⟨_, rfl⟩
        obtain ⟨n0, hn0⟩ : ∃ x, x = (goodsOf (ls.take i)).length * (noJ js).length := ⟨_, rfl⟩
        have hxl : xs.length ≤ 100 * 103 + 3000 := by
          have h1 := allOf_len js (ls.take i)
          have h2 := bulk_take_le ls i
          have h3 := HK.out
          have h4 : (ls.take i).length ≤ 100 := by rw [List.length_take]; omega
          have h5 : (ls.take i).length * (js.length + 3) ≤ 100 * 103 := Nat.mul_le_mul h4 (by have := HJ.out; omega)
          rw [hxs]
          omega
        have hnl : n0 ≤ 100 * 100 := by
          rw [hn0]
          have h1 := goodsOf_len (ls.take i)
          have h2 : (ls.take i).length ≤ 100 := by rw [List.length_take]; omega
          exact Nat.mul_le_mul (by omega) (Nat.le_trans (noJ_len js) HJ.out)
        have hwl : ws.length ≤ 100 := by
          rw [hws]
          have h1 := wantOf_len (mostL n) (ls.take i)
          have h2 : (ls.take i).length ≤ 100 := by rw [List.length_take]; omega
          omega
        have hJ0 : JunkInv w w2 xs ws n0 js fr (.slice Av fr.length cv) u10 0 u9 u11 w3 := by
          have ho := Kd.R_lower HO3.out HV.out.below.size
          have hlt9 := Kd.R_lt HV.out.all
          refine ⟨?_, ?_, int_own ho, HV.out.ap, fun k h9 hf => ?_, ?_, HV.out.below.trans (HB3.out.mono HV.out.below.size)⟩
          · rw [show noJ (js.take 0) = [] from rfl, List.append_nil, hxs]; exact Kd.R_below HV.out.all HB3.out
          · rw [hws]; exact Kd.R_below HV.out.want HB3.out
          · have h1 := hlt9 k h9
            have h2 := ((Kd.R_bound HO3.out).1 k hf).2.1
            omega
          · rw [hn0]; exact HV.out.noise
        have HJ0 := Aside0.mk hJ0; have HXS := Aside0.mk hxs; have HWS := Aside0.mk hws; have HN0 := Aside0.mk hn0; have HXL := Aside0.mk hxl; have HNL := Aside0.mk hnl; have HWL := Aside0.mk hwl
        clear hJ0 hxs hws hn0 hxl hnl hwl
        go_wp2
        go_loopw [9, 11, 60] (fun v9 v11 v60 W => ∃ j : Nat, j ≤ js.length ∧ v60 = .int .i64 (j : Int) ∧ Aside0 (JunkInv w w2 xs ws n0 js fr (.slice Av fr.length cv) u10 j v9 v11 W)) (fun v9 v11 v60 _ => js.length - (intOf v60).toNat)
        case atStart => exact ⟨0, Nat.zero_le _, rfl, HJ0⟩
        case round =>
          obtain ⟨j, hj, rfl, HJV⟩ := hrel
          have hj100 := HJ.out
          by_cases hjlt : j < js.length
          · have hC2 := Kd.C_below HR2.out (HB.out.trans (HJV.out.below.mono HB.out.size))
            obtain ⟨ad2, ea2, hcell2⟩ := Kd.at_int hC2 (j : Int) (by omega) (by omega)
            subst ea2
            rw [Int.toNat_natCast] at hcell2
            have hjs : js.take (j + 1) = js.take j ++ [rd js (j : Int)] := by rw [List.take_succ_eq_append_getElem hjlt]; simp [rd, hjlt]
            obtain ⟨c, hcc⟩ : ∃ c, c = rd js (j : Int) := ⟨_, rfl⟩
            rw [← hcc] at hjs hcell2
            have HJS := Aside0.mk hjs
            clear hC2 hcc hjs
            by_cases hc : c = 11
            · subst hc
              go_wp2
              go_roundw
              case rel => exact ⟨j + 1, by omega, by go_num, ⟨HJV.out.skip HJS.out⟩⟩
              case measure => simp [intOf]; omega
            · obtain ⟨ys, hys⟩ : ∃ x, x = xs ++ noJ (js.take j) := ⟨_, rfl⟩
              have hyl : ys.length ≤ 100 * 103 + 3000 + 100 := by
                rw [hys, List.length_append]
                have h1 := noJ_len (js.take j)
                have h2 : (js.take j).length ≤ 100 := by rw [List.length_take]; omega
                have h3 := HXL.out
                omega
              have hno := HJV.out.noise
              have hnj : (noJ (js.take j)).length ≤ 100 := by
                have h1 := noJ_len (js.take j)
                have h2 : (js.take j).length ≤ 100 := by rw [List.length_take]; omega
                omega
              have hnl := HNL.out
              have HYL := Aside0.mk hyl
              have hall := HJV.out.all
              rw [← hys] at hall
              have HALL := Aside0.mk hall
              have HYS := Aside0.mk hys
              subst hno
              clear hys hall
              go_wp2_with ((with_reducible refine gate_builtin (b := .append) (xs := #[.tmp 66, .tmp 68]) rfl ?_); at_builtin; refine Kd.R_append (Kd.int .u8) (w0 := w2) w2.heap.size rfl (.tmp 66) (.tmp 68) 22 5 (.int .u8 0) 1 rfl Tryd.underlying22 info5 rfl (by decide) (by decide) u9 ys c [.int .u8 c] (fun _ => True) (fun _ => False) rfl rfl rfl (fun _ h => h.elim) (fun _ _ => trivial) (Kd.R_mono HALL.out (fun _ _ => trivial)) HJV.out.below HJV.out.below.size (by have := HYL.out; omega) ?_; intro v1 w4 h1 hb1 hg1 hat1; rw [HYS.out] at h1; have HJN := fun v11' hn => Aside0.mk (HJV.out.add HJS.out hc h1 hg1 hat1 hb1 (v11' := v11') hn); clear h1 hb1 hg1 hat1)
              go_roundw
              case rel => exact ⟨j + 1, by omega, by go_num, HJN _ (by go_num)⟩
              case measure => simp [intOf]; omega
          · have ej : js.take j = js := List.take_of_length_le (by omega)
            have hall := HJV.out.all
            have hno := HJV.out.noise
            rw [ej] at hall hno
            have hnj := noJ_len js
            have hnl := HNL.out
            have hov := HV.out.over
            have hol := overOf_len (mostL n) (ls.take i)
            have hol2 : (ls.take i).length ≤ 100 := by rw [List.length_take]; omega
            obtain ⟨ov, hov2⟩ : ∃ x, x = (overOf (mostL n) (ls.take i)).length := ⟨_, rfl⟩
            rw [← hov2] at hov hol
            obtain ⟨ys, hys⟩ : ∃ x, x = xs ++ noJ js := ⟨_, rfl⟩
            have hyl : ys.length ≤ 100 * 103 + 3000 + 100 := by
              rw [hys, List.length_append]
              have h3 := HXL.out
              omega
            rw [← hys] at hall
            have HALL := Aside0.mk hall; have HYS := Aside0.mk hys; have HYL := Aside0.mk hyl; have HOV := Aside0.mk hov2
            clear hys hall hov2 ej
            subst hno hov
            have hm := HM.out
            by_cases hle : (b.length : Int) ≤ mostL n
            · have HWH := Aside0.mk (show (hdr w).M w w2.heap.size (fun _ => False) b [.slice Ab b.length cb] from ⟨_, _, rfl, HLB.out, HCB.out⟩)
              go_wp2_with (first
                | ((with_reducible refine gate_builtin (b := .append) (xs := #[.tmp 73, .tmp 74]) rfl ?_); at_builtin; refine Kd.R_append_rows (Kd.int .u8) (Rr := (Kd.int .u8).K wr) (w0 := w2) w2.heap.size rfl (.tmp 73) (.tmp 74) 22 5 (.int .u8 0) 1 rfl Tryd.underlying22 info5 rfl (by decide) (by decide) u9 ys fr Av fr.length cv (fun _ => True) (fun _ => False) rfl rfl (Kd.R_mono HALL.out (fun _ _ => trivial)) (Kd.R_reads' HJV.out.fr).2.2 (fun _ _ h => h) (fun _ h => h.elim) (fun _ _ => trivial) HJV.out.below HJV.out.below.size (by have := HYL.out; have := HFL.out; have := HBL.out; omega) ?_; intro v1 w4 h1 hb1 hg1 hat1; have hkw := own_keep HJV.out.want HJV.out.ap hg1 hat1; have HK4 := Aside0.mk hkw; have H14 := Aside0.mk (int_own h1); have HB4 := Aside0.mk hb1; clear h1 hb1 hg1 hat1 hkw)
                | (go_at_call 22; refine (most_any _ _).mono ?_; rintro e w' ⟨rfl, hw⟩; have hw' := hw.symm; subst hw'; clear hw)
                | ((with_reducible refine gate_builtin (b := .append) (xs := #[.tmp 81, .tmp 83]) rfl ?_); at_builtin; refine Kd.R_append (hdr w) (w0 := w2) w2.heap.size rfl (.tmp 81) (.tmp 83) 36 22 (.slice none 0 0) 24 rfl Tryd.underlying36 info22 rfl Nat.zero_lt_one (by decide) u10 ws b [.slice Ab b.length cb] (fun _ => True) (fun _ => False) rfl rfl HWH.out (fun _ h => h.elim) (fun _ _ => trivial) (Kd.R_mono HK4.out.1 (fun _ _ => trivial)) HB4.out HB4.out.size (by have := HWL.out; omega) ?_; intro v2 w5 h2 hb2 hg2 hat2; have hk5 := own_keep H14.out (fun k e1 e2 => HK4.out.2 k e2 e1) hg2 hat2; have HK5 := Aside0.mk hk5; have H25 := Aside0.mk (hdr_own h2); have HB5 := Aside0.mk hb2; clear h2 hb2 hg2 hat2 hk5))
              go_roundw
              case rel =>
                have h1 := HK5.out.1
                rw [HYS.out] at h1
                exact ⟨i + 1, by omega, by go_num, ⟨BackInv.add HLS.out hg HXS.out HFR.out HWS.out HN0.out h1 (by rw [if_pos hle]; exact H25.out) (fun k e1 e2 => HK5.out.2 k e2 e1) (by go_num) (by rw [if_pos hle, HOV.out]) HB5.out⟩⟩
              case measure => simp [intOf]; omega
            · go_wp2_with (first
                | ((with_reducible refine gate_builtin (b := .append) (xs := #[.tmp 73, .tmp 74]) rfl ?_); at_builtin; refine Kd.R_append_rows (Kd.int .u8) (Rr := (Kd.int .u8).K wr) (w0 := w2) w2.heap.size rfl (.tmp 73) (.tmp 74) 22 5 (.int .u8 0) 1 rfl Tryd.underlying22 info5 rfl (by decide) (by decide) u9 ys fr Av fr.length cv (fun _ => True) (fun _ => False) rfl rfl (Kd.R_mono HALL.out (fun _ _ => trivial)) (Kd.R_reads' HJV.out.fr).2.2 (fun _ _ h => h) (fun _ h => h.elim) (fun _ _ => trivial) HJV.out.below HJV.out.below.size (by have := HYL.out; have := HFL.out; have := HBL.out; omega) ?_; intro v1 w4 h1 hb1 hg1 hat1; have hkw := own_keep HJV.out.want HJV.out.ap hg1 hat1; have HK4 := Aside0.mk hkw; have H14 := Aside0.mk (int_own h1); have HB4 := Aside0.mk hb1; clear h1 hb1 hg1 hat1 hkw)
                | (go_at_call 22; refine (most_any _ _).mono ?_; rintro e w' ⟨rfl, hw⟩; have hw' := hw.symm; subst hw'; clear hw))
              go_roundw
              case rel =>
                have h1 := H14.out
                rw [HYS.out] at h1
                exact ⟨i + 1, by omega, by go_num, ⟨BackInv.add HLS.out hg HXS.out HFR.out HWS.out HN0.out h1 (by rw [if_neg (by omega)]; exact HK4.out.1) HK4.out.2 (by go_num) (by rw [if_neg (by omega), ← HOV.out]) HB4.out⟩⟩
              case measure => simp [intOf]; omega
    · have ei : ls.take i = ls := List.take_of_length_le (by omega)
      obtain ⟨hall, hwant, hap, hno, hov, hbel⟩ := HV.out
      rw [ei] at hall hwant hno hov
      obtain ⟨al, hal⟩ : ∃ x, x = allOf js ls := ⟨_, rfl⟩
      obtain ⟨wt, hwt⟩ : ∃ x, x = wantOf (mostL n) ls := ⟨_, rfl⟩
      obtain ⟨ov, hov2⟩ : ∃ x, x = (overOf (mostL n) ls).length := ⟨_, rfl⟩
      obtain ⟨no, hno2⟩ : ∃ x, x = (goodsOf ls).length * (noJ js).length := ⟨_, rfl⟩
      have hrun := HRUN.out
      have hJ1 := HJ1'.out
      have hJ0 := HJ0'.out
      rw [← hal, ← hwt, ← hov2] at hrun
      rw [← hov2, ← hno2] at hJ1
      rw [← hal] at hall
      rw [← hwt] at hwant
      rw [← hno2] at hno
      rw [← hov2] at hov
      have hab : Bytes al := hal ▸ allOf_bytes HB2.out HB1.out
      have hall3 : al.length ≤ 1000000 := by
        have h1 := allOf_len js ls
        have h3 := HK.out
        have h5 : ls.length * (js.length + 3) ≤ 100 * 103 := Nat.mul_le_mul HL.out (by have := HJ.out; omega)
        rw [hal]
        omega
      have hwl : wt.length ≤ 100 := by have := wantOf_len (mostL n) ls; have := HL.out; rw [hwt]; omega
      obtain ⟨A9, c9, e9, hlc9, hC9⟩ := Kd.R_reads hall
      obtain ⟨A10, c10, e10, hlc10, hC10⟩ := Kd.R_reads hwant
      subst e9 e10 hno hov
      have hIr := HI'.out.below hbel
      have hg2 : w1.heap.size < w2.heap.size := blk_lt HI'.out.blk
      have h9 : ∀ ad, A9 = some ad → w2.heap.size ≤ ad.block ∧ ad.block < wr.heap.size := fun ad e => by
        have h := (Kd.R_bound hall).1 ad.block (by rw [e]; rfl)
        exact ⟨h.2.1, h.2.2.1⟩
      have hfine : (Df.new (mostL n)).Fine 0 := ⟨HM.out.1, by have := HM.out; simp [Df.new]; omega, by have := HM.out; simp [Df.new]; omega, Nat.zero_le _, Int.le_refl _, Int.le_refl _, Int.le_refl _, Int.le_refl _, Int.le_refl _, Int.le_refl _, Bytes.nil, fun _ h => by cases h⟩
      have hfeed := fun c => df_feed hIr (by have := hbel.size; omega) 0 hfine (A := A9) (c := c) hab (by omega) (fun W hk => C_keep hC9 hk (fun ad e h => by have := h9 ad e; omega))
      have HFEED := Aside0.mk hfeed
      have HWB := Aside0.mk (Kd.R_bound hwant); have HBEL := Aside0.mk hbel; have HG2 := Aside0.mk hg2
      have HC9 := Aside0.mk hlc9; have HC10 := Aside0.mk hlc10; have HWL := Aside0.mk hwl; have HRN := Aside0.mk hrun
      have hoc : ov = 0 ∨ 0 < ov := by omega
      have HJ1 := Aside0.mk hJ1
      clear hfeed hfine h9 hIr hall hwant hC9 hC10 hab hlc9 hlc10 hbel hap hal hwt hov2 hno2 hrun hwl hall3 hJ1 ei
      go_upto_region 27 with (go_at_call 23; refine (HFEED.out _).mono ?_; rintro e w4 ⟨vn4, vf4, rfl, hI4, hK4, ho4⟩; rw [HRN.out] at hI4 ho4; have HI4 := Aside0.mk hI4; have HK4 := Aside0.mk hK4; have HO4 := Aside0.mk ho4; clear hI4 hK4 ho4)
      have hI4 := HI4.out
      obtain ⟨Af, cf, ef, hlcf, hCf⟩ := Kd.R_reads HO4.out
      subst ef
      have hw4 : Below w.heap.size w w4 := (HB.out.trans (HBEL.out.mono HB.out.size)).trans (HK4.out.below (Nat.le_trans HB.out.size HBEL.out.size) (fun k hk => by have := HB.out.size; have := HBEL.out.size; have := HSZ.out; have : (w1.drewN q).heap.size = w1.heap.size := rfl; rcases hk with rfl | hk <;> omega))
      have hCw : (Kd.slice 5 (Kd.int .u8)).C w4 A10 wt.length wt := hdr_C (Kd.R_reads' (HK4.out.R HWB.out (fun k hk hS => by have := HG2.out; have := hk.2.1; have := hk.2.2.1; rcases hS with rfl | hS <;> omega))).2.2 hw4
      have hsame : Calls Tryd.prog 24 #[.slice Af wt.length cf, .slice A10 wt.length c10] w4 fun e w' => e = .returned (.bool true) ∧ ∃ m, w' = w4.drewN m :=
        (lamplighterlaw05_same.calls _ _ _ _ _ _ _ true _ hCf hlcf hCw HC10.out (same_f wt (by have := HWL.out; omega))).mono (fun _ _ h => ⟨h.1, h.2.out⟩)
      have hIz := fun z => hI4.below (pw_below_drewN (Below.refl w4.heap.size w4) z)
      have hheld : ∀ z, Calls Tryd.prog 27 #[.pointer (some ⟨w1.heap.size, 0, none⟩)] (w4.drewN z) fun e w' => e = .returned (.int .i64 0) ∧ w' = w4.drewN z := fun z => by
        have h := df_held_same (hIz z) (Nat.zero_le _)
        exact h
      have hjunk : ∀ z, Calls Tryd.prog 28 #[.pointer (some ⟨w1.heap.size, 0, none⟩)] (w4.drewN z) fun e w' => e = .returned (.int .i64 J) ∧ w' = w4.drewN z := fun z => df_junk_same (hIz z)
      have hover : ∀ z, Calls Tryd.prog 25 #[.pointer (some ⟨w1.heap.size, 0, none⟩)] (w4.drewN z) fun e w' => e = .returned (.int .i64 (ov : Int)) ∧ w' = w4.drewN z := fun z => df_over_same (hIz z)
      have hbrok : ∀ z, Calls Tryd.prog 26 #[.pointer (some ⟨w1.heap.size, 0, none⟩)] (w4.drewN z) fun e w' => e = .returned (.int .i64 0) ∧ w' = w4.drewN z := fun z => df_broken_same (hIz z)
      have HW4 := Aside0.mk hw4
      clear hI4 hlcf hCf hw4 hCw hIz
      have hJn : ov = 0 → J = (no : Int) := HJ1.out
      rcases hoc with rfl | hoc
      · obtain rfl := hJn rfl
        clear hJn
        go_wp2_with (first | (go_at_call 24; refine hsame.mono ?_; rintro e w5 ⟨rfl, m, rfl⟩) | (go_at_call 26; refine (hbrok _).mono ?_; rintro e w' ⟨rfl, rfl⟩) | (go_at_call 28; refine (hjunk _).mono ?_; rintro e w' ⟨rfl, rfl⟩) | (go_at_call 25; refine (hover _).mono ?_; rintro e w' ⟨rfl, rfl⟩) | (go_at_call 27; refine (hheld _).mono ?_; rintro e w' ⟨rfl, rfl⟩))
        go_ret
        exact ⟨rfl, HW4.out.trans (pw_below_drewN (Below.refl _ _) _)⟩
      · clear hJn
        have hoc1 : (0 : Int) < (ov : Int) := by omega
        go_wp2_with (first | (go_at_call 24; refine hsame.mono ?_; rintro e w5 ⟨rfl, m, rfl⟩) | (go_at_call 26; refine (hbrok _).mono ?_; rintro e w' ⟨rfl, rfl⟩) | (go_at_call 28; refine (hjunk _).mono ?_; rintro e w' ⟨rfl, rfl⟩) | (go_at_call 25; refine (hover _).mono ?_; rintro e w' ⟨rfl, rfl⟩) | (go_at_call 27; refine (hheld _).mono ?_; rintro e w' ⟨rfl, rfl⟩))
        go_ret
        exact ⟨rfl, HW4.out.trans (pw_below_drewN (Below.refl _ _) _)⟩
end Go.Proofs.YtiffmklefiehkaaDoor
