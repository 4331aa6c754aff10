/- Frames of bytes that may be in one, with junk between, are found as they are: the plain law, and the walk of all inputs. -/
import Derived.Test.YtiffmklefiehkaaDoorDfBack
import Derived.Deep.Matrix
import Derived.SizedLaws
namespace Go.Proofs.YtiffmklefiehkaaDoor
set_option linter.unusedVariables false
open Go.RowKit Go.Proofs.YtiffmklefiehkaaDoorW.PrintWords Go.Proofs.YtiffmklefiehkaaDoorW.PrintLast
open Go.ChangeShapes

theorem Df.run_junk (l : List Int) : ∀ (s : Df), s.inn = false → (∀ x ∈ l, x ≠ 11) → s.run l = { s with junk := s.junk + l.length } := by
  induction l with
  | nil => intro s hi _; simp [Df.run]
  | cons c l ih =>
    intro s hi hc
    rw [Df.run_cons]
    have h1 : s.step c = { s with junk := s.junk + 1 } := by
      unfold Df.step
      rw [if_neg (by simp [hi])]
      unfold Df.skip
      rw [if_neg (hc c List.mem_cons_self)]
    rw [h1, ih { s with junk := s.junk + 1 } hi (fun x hx => hc x (List.mem_cons_of_mem _ hx))]
    simp only [List.length_cons, Df.mk.injEq, true_and, and_true]
    omega

theorem okL_all {l : List Int} (h : okL l = true) : ∀ x ∈ l, x ≠ 11 := by
  induction l with
  | nil => intro x hx; cases hx
  | cons y r ih =>
    rw [okL, Bool.and_eq_true, Bool.and_eq_true] at h
    intro x hx
    rcases List.mem_cons.1 hx with rfl | hx
    · simpa using h.1.1
    · exact ih h.2 x hx

/-- One byte of a frame: it is taken in, or it is one too many. -/
theorem Df.take_or (s : Df) (p : List Int) (c : Int) (q : List Int) (hi : s.inn = true) (hc : Cont s p) (hok : okL (p ++ c :: q) = true) (hl : (s.now.length : Int) ≤ s.most) :
    (Cont (s.step c) (p ++ [c]) ∧ ∃ b now, s.step c = { s with fin := b, now := now } ∧ (now.length : Int) ≤ s.most) ∨ s.step c = { s.out with over := s.over + 1 } := by
  have h11 := okL_ne hok
  obtain ⟨most, inn, fin, now, found, junk, over, broken⟩ := s
  simp only at hi hl
  subst hi
  unfold Df.step
  rw [if_pos rfl]
  unfold Df.take
  rw [if_neg h11]
  cases fin with
  | true =>
    have hp : p = now ++ [28] := by simpa [Cont] using hc
    subst hp
    have h13 := okL_ne13 hok
    rw [if_neg (by simp [h13]), if_neg (by simp)]
    by_cases h28 : c = 28
    · subst h28
      rw [if_pos rfl]
      unfold Df.lay
      by_cases hm : most < ((now ++ [28]).length : Int)
      · rw [if_pos hm]; exact .inr rfl
      · rw [if_neg hm]; exact .inl ⟨by simp [Cont], _, _, rfl, Int.not_lt.1 hm⟩
    · rw [if_neg h28, if_pos rfl]
      unfold Df.lay
      by_cases hm : most < ((now ++ [28, c]).length : Int)
      · simp only [if_pos hm]; exact .inr rfl
      · simp only [if_neg hm]; exact .inl ⟨by simp [Cont], _, _, rfl, Int.not_lt.1 hm⟩
  | false =>
    have hp : now = p := by simpa [Cont] using hc
    subst hp
    rw [if_neg (by simp)]
    by_cases h28 : c = 28
    · subst h28
      rw [if_pos (by simp)]
      exact .inl ⟨by simp [Cont], _, _, rfl, hl⟩
    · rw [if_neg (by simp [h28]), if_neg h28, if_neg (by simp)]
      unfold Df.lay
      by_cases hm : most < ((now ++ [c]).length : Int)
      · rw [if_pos hm]; exact .inr rfl
      · rw [if_neg hm]; exact .inl ⟨by simp [Cont], _, _, rfl, Int.not_lt.1 hm⟩

theorem Df.run_or (q : List Int) : ∀ (s : Df) (p : List Int), s.inn = true → Cont s p → okL (p ++ q) = true → (s.now.length : Int) ≤ s.most →
    (Cont (s.run q) (p ++ q) ∧ ∃ b now, s.run q = { s with fin := b, now := now } ∧ (now.length : Int) ≤ s.most) ∨ ∃ k : Nat, s.run q = { s.out with over := s.over + 1, junk := s.junk + k } := by
  induction q with
  | nil => intro s p hi hc hok hl; exact .inl ⟨by simpa [Df.run] using hc, s.fin, s.now, rfl, hl⟩
  | cons c q ih =>
    intro s p hi hc hok hl
    rw [Df.run_cons]
    rcases Df.take_or s p c q hi hc hok hl with ⟨h1, b, now, h2, h3⟩ | h1
    · rcases ih (s.step c) (p ++ [c]) (by rw [h2]; exact hi) h1 (by simpa using hok) (by rw [h2]; exact h3) with ⟨h4, b', now', h5, h6⟩ | ⟨k, h4⟩
      · refine .inl ⟨by simpa using h4, b', now', by rw [h5, h2], by rw [h2] at h6; exact h6⟩
      · refine .inr ⟨k, by rw [h4, h2]; rfl⟩
    · refine .inr ⟨q.length, ?_⟩
      have h2 := okL_right (p := p) hok
      rw [okL, Bool.and_eq_true] at h2
      rw [h1, Df.run_junk q _ rfl (okL_all h2.2)]
      rfl

/-- A frame that is too long: it is counted, and what is left of it is junk. -/
theorem Df.run_over (s : Df) (l : List Int) (hi : s.inn = true) (hf : s.fin = false) (hn : s.now = []) (hg : goodL l = true) (hm : 0 ≤ s.most) (hl : s.most < (l.length : Int)) :
    ∃ k : Nat, s.run (l ++ [28, 13]) = { s.out with over := s.over + 1, junk := s.junk + k } := by
  rw [Df.run_append]
  rcases Df.run_or l s [] hi (by simp [Cont, hf, hn]) (okL_of_good hg) (by rw [hn]; simpa using hm) with ⟨h1, b, now, h2, h3⟩ | ⟨k, h1⟩
  · exfalso
    rw [h2] at h1
    cases b with
    | true =>
      have hp : l = now ++ [28] := by simpa [Cont] using h1
      rw [hp, goodL_end] at hg
      cases hg
    | false =>
      have hp : now = l := by simpa [Cont] using h1
      subst hp
      omega
  · refine ⟨k + 2, ?_⟩
    rw [h1, Df.run_junk _ _ rfl (by simp)]
    simp only [Df.out, List.length_cons, List.length_nil, Df.mk.injEq, true_and, and_true]
    omega

theorem noJ_ne (l : List Int) : ∀ x ∈ noJ l, x ≠ 11 := fun x hx => by simpa using (List.mem_filter.1 hx).2

theorem back_run (m : Int) (js : List Int) (hm : 0 ≤ m) (ls : List (List Int)) : ∀ (s : Df), s = ⟨m, false, false, [], s.found, s.junk, s.over, s.broken⟩ →
    ∃ J, s.run (allOf js ls) = ⟨m, false, false, [], s.found ++ wantOf m ls, J, s.over + (overOf m ls).length, s.broken⟩ ∧ s.junk ≤ J ∧ ((overOf m ls).length = 0 → J = s.junk + (((goodsOf ls).length * (noJ js).length : Nat) : Int)) := by
  induction ls with
  | nil =>
    intro s hs
    refine ⟨s.junk, ?_, Int.le_refl _, fun _ => by simp [goodsOf]⟩
    show s = _
    rw [hs]
    simp [wantOf, overOf]
  | cons b r ih =>
    intro s hs
    have e1 : allOf js (b :: r) = (if goodL b then noJ js ++ frameOf b else []) ++ allOf js r := by simp [allOf]
    have e2 : wantOf m (b :: r) = (if goodL b && decide ((b.length : Int) ≤ m) then [b] else []) ++ wantOf m r := by
      unfold wantOf
      rw [List.filter_cons]
      cases goodL b && decide ((b.length : Int) ≤ m) <;> rfl
    have e3 : overOf m (b :: r) = (if goodL b && !decide ((b.length : Int) ≤ m) then [b] else []) ++ overOf m r := by
      unfold overOf
      rw [List.filter_cons]
      cases goodL b && !decide ((b.length : Int) ≤ m) <;> rfl
    have e4 : goodsOf (b :: r) = (if goodL b then [b] else []) ++ goodsOf r := by
      unfold goodsOf
      rw [List.filter_cons]
      cases goodL b <;> rfl
    rw [e1, e2, e3, e4]
    cases hg : goodL b with
    | false => simpa using ih s hs
    | true =>
      simp only [Bool.true_and, if_true]
      rw [Df.run_append, Df.run_append, Df.run_junk _ s (by rw [hs]) (noJ_ne js)]
      unfold frameOf
      rw [List.cons_append, Df.run_cons]
      obtain ⟨most, inn, fin, now, found, junk, over, broken⟩ := s
      simp only [Df.mk.injEq, and_true] at hs
      obtain ⟨rfl, rfl, rfl, rfl⟩ := hs
      have h0 : Df.step ⟨most, false, false, [], found, junk + (noJ js).length, over, broken⟩ 11 = ⟨most, true, false, [], found, junk + (noJ js).length, over, broken⟩ := rfl
      simp only []
      rw [h0]
      by_cases hl : (b.length : Int) ≤ most
      · rw [Df.run_found _ b rfl rfl rfl hg hl]
        obtain ⟨J, h1, h2, h3⟩ := ih (Df.out { (⟨most, true, false, [], found, junk + (noJ js).length, over, broken⟩ : Df) with found := found ++ [b] }) rfl
        refine ⟨J, ?_, ?_, ?_⟩
        · rw [h1, decide_eq_true hl]
          simp [Df.out]
        · simp only [Df.out] at h2; omega
        · intro h
          rw [decide_eq_true hl] at h
          have h := h3 (by simpa using h)
          rw [h]
          simp only [Df.out, List.length_append, List.length_cons, List.length_nil, Nat.add_mul]
          push_cast
          omega
      · obtain ⟨k, hk⟩ := Df.run_over ⟨most, true, false, [], found, junk + (noJ js).length, over, broken⟩ b rfl rfl rfl hg hm (by simp only; omega)
        rw [hk]
        obtain ⟨J, h1, h2, h3⟩ := ih ({ (Df.out ⟨most, true, false, [], found, junk + (noJ js).length, over, broken⟩) with over := over + 1, junk := junk + (noJ js).length + k }) rfl
        refine ⟨J, ?_, ?_, ?_⟩
        · simp only [Df.out] at h1 ⊢
          rw [h1, decide_eq_false hl]
          simp
          omega
        · simp only at h2; omega
        · intro h
          rw [decide_eq_false hl] at h
          simp at h

theorem great_much (l : List (List Int)) (hl : 100 < l.length) (hl2 : l.length ≤ 4611686018427387904) (d : Nat) :
    ∀ (k i : Nat) (x : Int), i + d = l.length → d < k → lamplighterlaw05_great.l0 k l x l (l.length : Int) (i : Int) = some true := by
  induction d with
  | zero =>
    intro k i x hd hk
    obtain ⟨k, rfl⟩ : ∃ m, k = m + 1 := ⟨k - 1, by omega⟩
    rw [lamplighterlaw05_great.l0, if_neg (by omega), if_pos (by omega)]
  | succ d ih =>
    intro k i x hd hk
    obtain ⟨k, rfl⟩ : ∃ m, k = m + 1 := ⟨k - 1, by omega⟩
    have e4 : wrap64 ((i : Int) + 1) = ((i + 1 : Nat) : Int) := by unfold wrap64; omega
    rw [lamplighterlaw05_great.l0, if_pos (by omega), if_pos (by omega), if_pos (by omega), e4]
    exact ih k (i + 1) _ (by omega) (by omega)
theorem bulk_le (l : List (List Int)) (B : Nat) (h : ∀ x ∈ l, x.length ≤ B) : bulkL l ≤ l.length * B := by
  induction l with
  | nil => simp [bulkL]
  | cons y r ih =>
    have e2 : bulkL (y :: r) = y.length + bulkL r := by simp [bulkL]
    have h1 := ih (fun x hx => h x (List.mem_cons_of_mem _ hx))
    have h2 := h y List.mem_cons_self
    rw [e2, List.length_cons, Nat.add_mul]
    omega
theorem great_all (l : List (List Int)) (hl2 : l.length ≤ 4611686018427387904) (h : ∀ x ∈ l, x.length ≤ 140737488355328) : lamplighterlaw05_great.f (l.length + 1) l = some (greatL l) := by
  by_cases hl : 100 < l.length
  · have h1 := great_much l hl hl2 l.length (l.length + 1) 0 0 (by omega) (by omega)
    have e : greatL l = true := by unfold greatL; rw [decide_eq_true hl]; rfl
    rw [e]
    exact h1
  · refine great_f l ?_ hl2
    have h1 := bulk_le l _ h
    have h2 : l.length * 140737488355328 ≤ 100 * 140737488355328 := Nat.mul_le_mul_right _ (by omega)
    omega

set_option maxHeartbeats 1000000 in
set_option maxRecDepth 100000 in
theorem back_alive (n : Int) (A1 : Option Addr) (c1 : Nat) (ls : List (List Int)) (A2 : Option Addr) (c2 : Nat) (js : List Int) (w : World) (hr1 : Kd.C (Kd.slice 5 (Kd.int .u8)) w A1 ls.length ls) (hc1 : ls.length ≤ c1)
    (hgr : lamplighterlaw05_great.f (ls.length + 1) ls = some (greatL ls)) (h : greatL ls = true ∨ 100 < js.length) :
    Calls Tryd.prog 9 #[.int .i64 n, .slice A1 ls.length c1, .slice A2 js.length c2] w fun e w' => e = .returned (.bool true) ∧ Below w.heap.size w w' := by
  have HR1 := Aside0.mk hr1; have HC1 := Aside0.mk hc1; have HB := Aside0.mk (Below.refl w.heap.size w)
  clear hr1 hc1
  cases hgl : greatL ls with
  | true =>
    rw [hgl] at hgr
    have HGR := Aside0.mk hgr
    clear h hgr
    go_enter Tryd.func9, Tryd.ntmps9
    go_wp2_with (first
      | (go_at_call 19; refine (df_alive _).mono ?_; rintro e w1 ⟨rfl, hb⟩; have HBn := Aside0.mk (HB.out.trans (hb.mono HB.out.size)); clear HB hb; have HB := HBn; clear HBn)
      | (go_at_call 20; refine (lamplighterlaw05_great.calls _ _ _ _ _ _ (Kd.C_below HR1.out HB.out) HC1.out HGR.out).mono ?_; rintro e w1 ⟨rfl, ⟨⟨q, rfl⟩⟩⟩; have HBn := Aside0.mk (HB.out.trans ((pw_below_drewN (Below.refl _ _) q).mono HB.out.size)); clear HB; have HB := HBn; clear HBn))
    go_ret
    exact ⟨rfl, HB.out⟩
  | false =>
    rw [hgl] at hgr
    have HGR := Aside0.mk hgr
    have hj : 100 < js.length := h.resolve_left (by rw [hgl]; decide)
    have hj1 : decide (100 < (js.length : Int)) = true := decide_eq_true (by omega)
    have hj2 : decide (100 < js.length) = true := decide_eq_true hj
    clear h hgr
    go_enter Tryd.func9, Tryd.ntmps9
    go_wp2_with (first
      | (go_at_call 19; refine (df_alive _).mono ?_; rintro e w1 ⟨rfl, hb⟩; have HBn := Aside0.mk (HB.out.trans (hb.mono HB.out.size)); clear HB hb; have HB := HBn; clear HBn)
      | (go_at_call 20; refine (lamplighterlaw05_great.calls _ _ _ _ _ _ (Kd.C_below HR1.out HB.out) HC1.out HGR.out).mono ?_; rintro e w1 ⟨rfl, ⟨⟨q, rfl⟩⟩⟩; have HBn := Aside0.mk (HB.out.trans ((pw_below_drewN (Below.refl _ _) q).mono HB.out.size)); clear HB; have HB := HBn; clear HBn))
    go_ret
    exact ⟨rfl, HB.out⟩

theorem deframeBack_walk (n : Int) (a1 : Option Addr) (len1 cap1 : Nat) (z1 : List (List Int)) (a2 : Option Addr) (len2 cap2 : Nat) (z2 : List Int) (w : World) (hG : Glob w) (hn : (Lit.int .i64 n).wf = true)
    (w1 : Kd.C (Kd.slice 5 (Kd.int .u8)) w a1 len1 z1 ∧ len1 ≤ cap1 ∧ ∀ x ∈ z1, Bytes x ∧ x.length ≤ 140737488355328) (y1 : len1 ≤ 140737488355328)
    (w2 : (a2 = none ∧ len2 = 0 ∧ cap2 = 0 ∧ z2 = []) ∨ ∃ x, a2 = some x ∧ len2 ≤ cap2 ∧ cap2 ≤ maxLen ∧ z2.length = cap2 ∧ (∀ i, i < z2.length → w.cell? (x.add i) = some (.int .u8 (z2.getD i 0))) ∧ ∀ n ∈ z2, (Lit.int .u8 n).wf = true) (_y2 : len2 * 1 ≤ 140737488351232) :
    Calls Tryd.prog 9 #[.int .i64 n, .slice a1 len1 cap1, .slice a2 len2 cap2] w fun e w' => e = .returned (.bool true) ∧ Below w.heap.size w w' := by
  obtain ⟨hr1, hc1, hrow⟩ := w1
  obtain rfl : z1.length = len1 := hr1.1
  obtain ⟨js, rfl, hr0, hm0, hw0, hc0⟩ := ReadsInt.ofRowC w2
  have hr2 := Kd.C_of_reads (d := (0 : Int)) (h1 := fun _ => rfl) hr0
  have hb := bytes_of_wf hw0
  have hgr := great_all z1 (by omega) (fun x hx => (hrow x hx).2)
  by_cases h : greatL z1 = true ∨ 100 < js.length
  · exact back_alive n a1 cap1 z1 a2 cap2 js w hr1 hc1 hgr h
  · have h1 : ¬ greatL z1 = true := fun e => h (.inl e)
    have h2 : ¬ 100 < js.length := fun e => h (.inr e)
    unfold greatL at h1
    rw [Bool.or_eq_true, decide_eq_true_eq, decide_eq_true_eq] at h1
    have hm := mostL_range n
    obtain ⟨J, hJ, hJ0, hJ1⟩ := back_run (mostL n) js (by omega) z1 (Df.new (mostL n)) rfl
    refine back_main n a1 cap1 z1 a2 cap2 js w hG hr1 hc1 hr2 hc0 (by omega) (by omega) (by omega) (fun x hx => (hrow x hx).1) hb J ?_ hJ0 (fun e => ?_)
    · rw [hJ]
      simp [Df.new]
    · rw [hJ1 e]
      simp [Df.new]

/-- Rows of bytes that came in, opened. -/
theorem rows_of {H : Type} {enc : TypeId × Value → H} {W : World} {base : Nat} {held : Bool} {a : Option Addr} {len cap : Nat} {d : DataW H} {ps : List MemPlace} {ts : List TypeId} {ds : List (DataW H)} {j : Nat}
    (hsz : (DataW.weightsEach Tryd.prog ts ds).all (· ≤ reachBytes) = true) (ht : ts[j]? = some 36) (hd : ds[j]? = some d) (c1 : Tryd.prog.cellsOf 22 = 1) (c2 : Tryd.prog.cellsOf 5 = 1) (b1 : Tryd.prog.bytesOf 22 = 24) (b2 : Tryd.prog.bytesOf 5 = 1)
    (h : DataW.Trod enc Tryd.prog W base (fun _ => true) held 36 (.slice a len cap) d ps) :
    (∃ zs, Kd.C (Kd.slice 5 (Kd.int .u8)) W a len zs ∧ len ≤ cap ∧ ∀ x ∈ zs, Bytes x ∧ x.length ≤ 140737488355328) ∧ len ≤ 140737488355328 := by
  have hall := List.all_eq_true.1 hsz
  have hw : ∀ x ∈ d.weights Tryd.prog 36, x ≤ reachBytes := fun x hx => of_decide_eq_true (hall x (DataW.weights_mem_each ht hd x hx))
  obtain ⟨fuel, hf⟩ := h
  rcases Go.Deep.open_int_rows Tryd.underlying36 Tryd.underlying22 Tryd.underlying5 c1 c2 hf with ⟨hcs, _⟩ | ⟨x, l, c, A, L, C, Z, hcs, _, hl, hm, hx, hrow⟩
  · simp [Value.cells] at hcs
    obtain ⟨rfl, rfl, rfl⟩ := hcs
    exact ⟨⟨[], Kd.C_nil _ _, Nat.le_refl _, fun x hx => by cases hx⟩, by omega⟩
  · simp [Value.cells] at hcs
    obtain ⟨rfl, rfl, rfl⟩ := hcs
    obtain ⟨hx, _⟩ := Prod.mk.inj hx
    have hreach : reachBytes ≤ 140737488355328 := by decide
    have hlen : cap ≤ 140737488355328 := by
      have h1 := hw ((len + (cap - len)) * 24) (by rw [hx, DataW.weights, Tryd.underlying36]; simp [b1])
      omega
    have hmem : ∀ (e : TypeId) (l : List (DataW H)) (y : DataW H), y ∈ l → ∀ z ∈ y.weights Tryd.prog e, z ∈ DataW.weightsAll Tryd.prog e l := by
      intro e l
      induction l with
      | nil => intro y hy; cases hy
      | cons y0 r ih =>
        intro y hy z hz
        rw [DataW.weightsAll, List.mem_append]
        rcases List.mem_cons.1 hy with rfl | hy
        · exact .inl hz
        · exact .inr (ih y hy z hz)
    have hL : ∀ r, r < len → L r ≤ 140737488355328 := by
      intro r hr
      obtain ⟨_, h2, h3, h4, h5, h6, h7⟩ := hrow r (by omega)
      cases hA : A r with
      | none => have := h6 hA; omega
      | some ar =>
        have h1 := hw (C r) (by
          rw [hx, DataW.weights, Tryd.underlying36]
          refine List.mem_cons_of_mem _ (List.mem_append_left _ (hmem _ _ (Go.Deep.intRow .u8 (A r) (L r) (Z r)) (List.mem_map.2 ⟨r, List.mem_range.2 hr, rfl⟩) _ ?_))
          rw [hA]
          simp only [Go.Deep.intRow]
          rw [DataW.weights, Tryd.underlying22]
          simp only [b2, lits, List.length_map, List.length_take, List.length_drop, h4]
          refine List.mem_cons.2 (.inl ?_)
          omega)
        omega
    refine ⟨⟨(List.range len).map fun r => (Z r).take (L r), ⟨by simp, by have : maxLen = 9223372036854775807 := rfl; omega, fun _ => ⟨x, rfl, ?_⟩⟩, hl, ?_⟩, by omega⟩
    · intro r p hp
      have hr : r < len := by
        have := (List.getElem?_eq_some_iff.1 hp).1
        simpa using this
      rw [List.getElem?_map, List.getElem?_range hr] at hp
      simp only [Option.map_some, Option.some.injEq] at hp
      subst hp
      obtain ⟨h1, h2, h3, h4, h5, h6, h7⟩ := hrow r (by omega)
      have hll : ((Z r).take (L r)).length = L r := by rw [List.length_take]; omega
      refine ⟨[.slice (A r) (L r) (C r)], rfl, ⟨A r, C r, by rw [hll], by omega, ?_⟩, ?_⟩
      · refine ⟨rfl, by have : maxLen = 9223372036854775807 := rfl; omega, fun h0 => ?_⟩
        cases hA : A r with
        | none => have := h6 hA; omega
        | some ar =>
          refine ⟨ar, rfl, fun i v hv => ⟨[.int .u8 v], rfl, rfl, fun i' u hu => ?_⟩⟩
          have hi := (List.getElem?_eq_some_iff.1 hv)
          obtain ⟨hi, he⟩ := hi
          obtain rfl : i' = 0 := by
            have := (List.getElem?_eq_some_iff.1 hu).1
            simpa using this
          have hu' : u = .int .u8 v := by simpa using hu.symm
          have hc := (h7 ar hA).2 i (by omega)
          have e : (Z r).getD i 0 = v := by
            rw [List.getElem_take] at he
            rw [List.getD_eq_getElem?_getD, List.getElem?_eq_getElem (by omega), Option.getD_some]
            exact he
          rw [hu', ← e]
          simpa [Kd.int, Kd.scalar] using hc
      · intro i u hu
        obtain rfl : i = 0 := by
          have := (List.getElem?_eq_some_iff.1 hu).1
          simpa using this
        have hu' : u = .slice (A r) (L r) (C r) := by simpa using hu.symm
        rw [hu']
        simpa [Kd.slice] using h1
    · intro y hy
      obtain ⟨r, hr, rfl⟩ := List.mem_map.1 hy
      have hr := List.mem_range.1 hr
      obtain ⟨h1, h2, h3, h4, h5, h6, h7⟩ := hrow r (by omega)
      exact ⟨bytes_of_wf (fun v hv => h5 v (List.take_subset _ _ hv)), Nat.le_trans (by rw [List.length_take]; omega) (hL r hr)⟩
end Go.Proofs.YtiffmklefiehkaaDoor
