/- The law AcceptHeads: every input's call returns true and leaves its arguments as they were: the row, and its card, out of the walk and the plain law. Conditions: the row's own; the input's bulk is at most the row's number. -/
import Derived.Test.YtciagecaegoppaaDoorCards
import Derived.Test.YtciagecaegoppaaDoorTie
import Derived.Test.YtciagecaegoppaaDoorMH
import Derived.Test.YtciagecaegoppaaDoorShelf
import Derived.Test.YtciagecaegoppaaDoorMF
import Derived.WalkKit
import Derived.ProofKit
import Derived.OpenShut
import Derived.ShutString
import Derived.ChangeOld
import Derived.Below
import Derived.SizedLaws
import Derived.Deep.DeepHandedRow
import Derived.Lib.LaidTab
import Derived.Test.YtciagecaegoppaaDoorWSized
namespace Go.Proofs.YtciagecaegoppaaDoor.acceptHeads
open Go.ChangeShapes Go.WideShapes Go.ChangeAt Go.RowKit
open Go.ChangeMaps (open_string shut_string)
set_option linter.unusedVariables false
set_option linter.unusedSimpArgs false
theorem own : ownKnob Tryd.prog.godebug = none := by kernel_rfl
theorem laidOut : laidOutB Tryd.prog = true := by kernel_rfl
theorem glob {W : World} (h : laidMetH Tryd.prog Rows.acceptHeadsUptoRow.laid W) (hs : W.ShapedOpen Tryd.prog) : GlobA W := glob_of rfl h hs
def IsRow (k : IntKind) (w : World) (a : Option Addr) (len cap : Nat) (zs : List Int) : Prop :=
  (a = none ∧ len = 0 ∧ cap = 0 ∧ zs = []) ∨
  ∃ x, a = some x ∧ len ≤ cap ∧ cap ≤ maxLen ∧ zs.length = cap ∧ (∀ i, i < zs.length → w.cell? (x.add i) = some (.int k (zs.getD i 0))) ∧ ∀ n ∈ zs, (Lit.int k n).wf = true
theorem bulk_lits {H : Type} (k : IntKind) (l : List Int) : Rows.uptoBulkAll (lits (H := H) k l) = l.length := by
  induction l with
  | nil => rfl
  | cons x r ih =>
    show Rows.uptoBulk (DataW.lit (.int k x)) + Rows.uptoBulkAll (lits (H := H) k r) = _
    rw [ih, List.length_cons, show Rows.uptoBulk (DataW.lit (H := H) (.int k x)) = 1 by simp [Rows.uptoBulk], Nat.add_comm]
theorem bulk_ints {H : Type} {k : IntKind} {len cap : Nat} {zs : List Int} {d : DataW H} {p r : List MemPlace} (hx : (d, p) = (.slice (lits k (zs.take len)) (lits k (zs.drop len)), r)) (hz : zs.length = cap) (hl : len ≤ cap) : len ≤ Rows.uptoBulk d := by
  obtain ⟨rfl, rfl⟩ := Prod.mk.inj hx
  rw [Rows.uptoBulk, bulk_lits, bulk_lits, List.length_take, List.length_drop]
  omega
set_option maxRecDepth 100000 in
theorem contract (H : Type) (enc : TypeId × Value → H) (W : World) (base : Nat) (args : Array Value) (ds gs : List (DataW H)) (before : List MemPlace)
    (hval0 : ∀ (j : Nat) t v, Tryd.f3.params[j]? = some t → args[j]? = some v → Value.okWide Tryd.prog W .any base t v)
    (hW : DataW.Whole enc Tryd.prog Tryd.f3.params.toList Rows.acceptHeadsSpec.vars false W args.toList ds gs before)
    (hsz0 : (DataW.weightsEach Tryd.prog (Tryd.f3.params.toList ++ Rows.acceptHeadsSpec.plain.varTypes Tryd.prog) (ds ++ gs)).all (· ≤ reachBytes) = true)
    (hup : Rows.uptoSmall H (ds ++ gs) = true)
    (hG : GlobA W) :
    Calls Tryd.prog 3 args W fun e W' => ∃ v, e = .returned v ∧ Rows.acceptHeadsSpec.post enc Tryd.prog Tryd.f3 false true false false W args v W' := by
  have hval : ∀ (j : Nat) t v, Tryd.f3.params[j]? = some t → args[j]? = some v → Value.okWide Tryd.prog W .any base t v := hval0
  have hsz : (DataW.weightsEach Tryd.prog (Tryd.f3.params.toList ++ Rows.acceptHeadsSpec.plain.varTypes Tryd.prog) (ds ++ gs)).all (· ≤ reachBytes) = true := hsz0
  have hW' := hW
  obtain ⟨p, q, hA0, hV, rfl, hfz, hnd⟩ := hW
  have hA : DataW.TrodAll enc Tryd.prog W 0 (fun _ => true) true Tryd.f3.params.toList args.toList ds p := hA0
  rw [Tryd.params3] at hA hval hsz
  obtain ⟨v0, vs0, d0, ds0, p0, q0, hargs, rfl, rfl, h0, r0⟩ := trodAll_cons hA
  obtain ⟨v1, vs1, d1, ds1, p1, q1, rfl, rfl, rfl, h1, r1⟩ := trodAll_cons r0
  obtain ⟨rfl, rfl, rfl⟩ := trodAll_nil r1
  obtain rfl : args = #[v0, v1] := by cases args; simp_all
  obtain ⟨rfl, rfl⟩ := trodVars_none hV
  have k0 := h0
  have lt0 : ∀ x ∈ p0, x.block < W.heap.size := by obtain ⟨m, hm⟩ := k0; exact DataW.trod_lt m _ _ _ hm
  obtain ⟨b0, b1, b2, b3, b4, g5, g6, g7, g8, g9, g10, g11, g12, g13, g14, rfl, hd0, f0, f1, f2, f3, f4⟩ := open_head (hval 0 25 v0 rfl rfl) h0
  obtain ⟨a1, len1, cap1, rfl⟩ := okWide_slice Tryd.underlying26 (hval 1 26 v1 rfl rfl)
  have k1 := h1
  have lt1 : ∀ x ∈ p1, x.block < W.heap.size := by obtain ⟨m, hm⟩ := k1; exact DataW.trod_lt m _ _ _ hm
  obtain ⟨z1, w1, u1⟩ : ∃ zs, IsRow .u8 W a1 len1 cap1 zs ∧ (∀ B, Rows.uptoBulk d1 ≤ B → len1 ≤ B) := by
    obtain ⟨fuel, hf⟩ := h1
    rcases open_ints Tryd.underlying26 Tryd.underlying5 (by kernel_rfl) hf with ⟨hcs, _⟩ | ⟨x, l, c, zs, hcs, _, hl, hm, hz, hx, hcell, hwz⟩
    · simp [Value.cells] at hcs
      obtain ⟨rfl, rfl, rfl⟩ := hcs
      exact ⟨[], .inl ⟨rfl, rfl, rfl, rfl⟩, fun _ _ => Nat.zero_le _⟩
    · simp [Value.cells] at hcs
      obtain ⟨rfl, rfl, rfl⟩ := hcs
      exact ⟨zs, .inr ⟨_, rfl, hl, hm, by simpa using hz, hcell, hwz⟩, fun B hB => Nat.le_trans (bulk_ints hx (by simpa using hz) hl) hB⟩
  have y1 : len1 * 1 ≤ 140737488351232 := YtciagecaegoppaaDoorW.PrintWords.sized_ints hsz (j := 1) (t := 26) rfl rfl Tryd.underlying26 Tryd.underlying5 (by kernel_rfl) (by kernel_rfl) k1
  have hb := of_decide_eq_true hup
  simp only [List.append_nil, Rows.uptoBulkAll] at hb
  have hs0 := hb
  rw [hd0] at hs0
  simp only [Rows.uptoBulk, Rows.uptoBulkAll, Array.length_toList] at hs0
  have hsum : g5.size + g6.size + g7.size + g8.size + g9.size + g10.size + g11.size + g12.size + g13.size + g14.size ≤ 1048576 := by
    have e : ∀ s : ByteArray, s.data.size = s.size := fun _ => rfl
    simp only [e] at hs0
    omega
  have x1 : len1 ≤ 1048576 := u1 _ (by omega)
  clear hA0 hval0 hsz0 hsz
  refine (acceptHeads_walk b0 b1 b2 b3 b4 g5 g6 g7 g8 g9 g10 g11 g12 g13 g14 a1 len1 cap1 z1 W hG f0 f1 f2 f3 f4 hsum w1 y1 x1).mono fun e W' ⟨he, bel⟩ => ?_
  subst he
  exact ⟨_, rfl, _, _, _, [], _, [], hW', trodAll_mk1 (shut_bool Tryd.underlying4 _), (trodAll_cons_mk (Below.trod laidOut (by kernel_rfl) (of_decide_eq_true (by kernel_rfl)) k0 bel lt0) (trodAll_cons_mk (Below.trod laidOut (by kernel_rfl) (of_decide_eq_true (by kernel_rfl)) k1 bel lt1) trodAll_mk0)), rfl, bel.frame _, fun h => by cases h⟩
/-- A world for the witness: the settled one, the listed variables holding what their initialisers lay. -/
noncomputable def laidWorld (os : Os) : World :=
  { World.holding Tryd.prog os ⟨#[], #[], []⟩ with heap := ((((World.holding Tryd.prog os ⟨#[], #[], []⟩).heap.modify 0 fun
      | .cells _ t frozen => .cells #[.string ⟨#[50, 46, 49]⟩, .string ⟨#[50, 46, 50]⟩, .string ⟨#[50, 46, 51]⟩, .string ⟨#[50, 46, 51, 46, 49]⟩, .string ⟨#[50, 46, 52]⟩, .string ⟨#[50, 46, 53]⟩, .string ⟨#[50, 46, 53, 46, 49]⟩, .string ⟨#[50, 46, 54]⟩, .string ⟨#[50, 46, 55]⟩, .string ⟨#[50, 46, 56]⟩] t frozen
      | o => o).modify 1 fun
      | .cells _ t frozen => .cells #[.int .u8 28, .int .u8 13] t frozen
      | o => o).modify 2 fun
      | .cells _ t frozen => .cells #[.string ⟨#[65, 65]⟩, .string ⟨#[65, 69]⟩, .string ⟨#[65, 82]⟩] t frozen
      | o => o) }
theorem laid_met (os : Os) : laidMet Tryd.prog Rows.acceptHeadsUptoRow.laid ((laidWorld os).forCall (fun _ _ => 0) ⟨#[], #[.agg #[.int .u8 0, .int .u8 0, .int .u8 0, .int .u8 0, .int .u8 0, .string ByteArray.empty, .string ByteArray.empty, .string ByteArray.empty, .string ByteArray.empty, .string ByteArray.empty, .string ByteArray.empty, .string ByteArray.empty, .string ByteArray.empty, .string ByteArray.empty, .string ByteArray.empty], .slice none 0 0], []⟩).memory :=
  laidMet_of_run' 8 (by kernel_rfl) (by kernel_rfl)
theorem reads (os : Os) {H : Type} (enc : TypeId × Value → H) : ∃ places, DataW.whole enc Tryd.prog ((laidWorld os).forCall (fun _ _ => 0) ⟨#[], #[.agg #[.int .u8 0, .int .u8 0, .int .u8 0, .int .u8 0, .int .u8 0, .string ByteArray.empty, .string ByteArray.empty, .string ByteArray.empty, .string ByteArray.empty, .string ByteArray.empty, .string ByteArray.empty, .string ByteArray.empty, .string ByteArray.empty, .string ByteArray.empty, .string ByteArray.empty], .slice none 0 0], []⟩).memory Tryd.f3.params.toList Rows.acceptHeadsSpec.vars false (#[.agg #[.int .u8 0, .int .u8 0, .int .u8 0, .int .u8 0, .int .u8 0, .string ByteArray.empty, .string ByteArray.empty, .string ByteArray.empty, .string ByteArray.empty, .string ByteArray.empty, .string ByteArray.empty, .string ByteArray.empty, .string ByteArray.empty, .string ByteArray.empty, .string ByteArray.empty], .slice none 0 0] : Array Value).toList 8 = some ([.agg [.agg [.lit (.int .u8 0), .lit (.int .u8 0), .lit (.int .u8 0), .lit (.int .u8 0), .lit (.int .u8 0)], .lit (.string []), .lit (.string []), .lit (.string []), .lit (.string []), .lit (.string []), .lit (.string []), .lit (.string []), .lit (.string []), .lit (.string []), .lit (.string [])], .nil], [], places) :=
  ⟨[], by kernel_rfl⟩
set_option maxRecDepth 100000 in
theorem lifted (os : Os) (started : os.Started) (H : Type) (enc : TypeId × Value → H) (F : Stop.Interp) :
    ReturnsInHanded {} Tryd.checked os 3 .any ((Rows.OpenSpec.upto Rows.acceptHeadsSpec).preRow enc Tryd.prog Tryd.f3 Rows.acceptHeadsUptoRow.domain false Rows.acceptHeadsUptoRow.laid) (((Rows.OpenSpec.upto Rows.acceptHeadsSpec).at F).post enc Tryd.prog Tryd.f3 false true false false) := by
  obtain ⟨places, hx⟩ := reads os enc
  refine returnsInHanded_of_row (C := Tryd.checked) (s := Rows.OpenSpec.upto Rows.acceptHeadsSpec) own started (by kernel_rfl) Tryd.func3
    (witness_row_at (enc := enc) (C := Tryd.checked) false (laidWorld os) #[.agg #[.int .u8 0, .int .u8 0, .int .u8 0, .int .u8 0, .int .u8 0, .string ByteArray.empty, .string ByteArray.empty, .string ByteArray.empty, .string ByteArray.empty, .string ByteArray.empty, .string ByteArray.empty, .string ByteArray.empty, .string ByteArray.empty, .string ByteArray.empty, .string ByteArray.empty], .slice none 0 0] rfl (by kernel_rfl) (by kernel_rfl) (by kernel_rfl)
      (OpenSpec.preRow_of_cond 8 hx (by kernel_rfl) (fun k hk => by cases hk; kernel_rfl) (by kernel_rfl) (laid_met os))) ?_
  intro W base args ds gs before hval hW _ hcond hsz hL hsh _
  exact contract H enc W base args ds gs before hval hW hsz (hcond _ rfl) (glob hL hsh)
theorem said : Rows.AcceptHeadsUptoSaid :=
  OpenClaim.holds_of_cond 3 Tryd.f3 rfl rfl rfl rfl rfl rfl rfl ⟨rfl, rfl, rfl, rfl, rfl⟩ rfl rfl rfl rfl rfl (by kernel_rfl) Tryd.func3 (by kernel_rfl)
    (of_decide_eq_true (by kernel_rfl)) (by unfold Func.isWrapper; rw [if_neg (of_decide_eq_false (by kernel_rfl))]; exact ⟨rfl, rfl⟩)
    (fun os started H enc _ F => by rw [OpenClaim.pre_eq_preRow]; exact lifted os started H enc F)
theorem plain (f : FuncId) (fn : Func) (hf : Tryd.pinned.checked.prog.funcNamed "lamplighter/lamplighterlaw11.AcceptHeads" = some f) (hfn : Tryd.pinned.checked.prog.funcs[f]? = some fn) :
    false = Tryd.pinned.checked.prog.looks [] ∧ ∀ (j : Nat) t, fn.params[j]? = some t → Tryd.pinned.checked.prog.wantsStandIn t = false := by
  obtain rfl : f = 3 := Option.some.inj ((show Tryd.prog.funcNamed "lamplighter/lamplighterlaw11.AcceptHeads" = some 3 by kernel_rfl).symm.trans hf) |>.symm
  obtain rfl : fn = Tryd.f3 := (Option.some.inj (Tryd.func3.symm.trans hfn)).symm
  refine ⟨by kernel_rfl, fun j t ht => ?_⟩
  rw [Tryd.params3] at ht
  have hm := Array.mem_of_getElem? ht
  have hm' : t = 25 ∨ t = 26 := by simpa using hm
  rcases hm' with rfl | rfl
  · exact (show Tryd.prog.wantsStandIn 25 = false by kernel_rfl)
  · exact (show Tryd.prog.wantsStandIn 26 = false by kernel_rfl)
theorem card : Rows.AcceptHeadsUptoCardSaid :=
  Claim7.holds_tied_plain_at .later [] _ _ _ _ said (fun _ h => by cases h) (by kernel_rfl) (fun _ h => by cases h) acceptHeadsUpto_row_tie rfl ⟨rfl, rfl⟩ (by kernel_rfl) rfl plain (by kernel_rfl)
#print axioms card
end Go.Proofs.YtciagecaegoppaaDoor.acceptHeads
namespace Go.Proofs.YtciagecaegoppaaDoor
/-- The card, under a short name, for the claim. -/
theorem acceptHeads_card : Rows.AcceptHeadsUptoCardSaid := acceptHeads.card
end Go.Proofs.YtciagecaegoppaaDoor
