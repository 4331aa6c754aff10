/- Printed by a program of this claim's own (wip/tools/patch_print.py, over the kit's printer): the proof that a function of the program comes to what its Lean function says. The document's examples of layer 11 come out as it says. The Lean functions of layer 11 answer, and how long their texts may be: wherever a message is short. Verdict, Build and Reply answer wherever a message is short. A package-level array of strings, as a row lists it: what its cells hold; what this seat's rows say of its variables. -/
import Derived.Test.YtciagecaegoppaaDoorProg
import Derived.Test.YtciagecaegoppaaDoorME
import Derived.Test.YtciagecaegoppaaDoorMB
import Derived.Test.YtciagecaegoppaaDoorMC
import Derived.Test.YtciagecaegoppaaDoorWWords
import Derived.Test.YtciagecaegoppaaDoorWLast
import Derived.Test.YtciagecaegoppaaDoorWTab
import Derived.Test.YtciagecaegoppaaDoorWFour
import Derived.Test.YtciagecaegoppaaDoorWQPut
import Derived.Test.YtciagecaegoppaaDoorWApart
import Derived.Test.YtciagecaegoppaaDoorWArr
import Derived.Test.YtciagecaegoppaaDoorWZeros
import Derived.Test.YtciagecaegoppaaDoorWFoot
import Derived.Test.YtciagecaegoppaaDoorWKept
import Derived.Test.YtciagecaegoppaaDoorWShare
import Derived.Test.YtciagecaegoppaaDoorWN
import Derived.Test.YtciagecaegoppaaDoorWFootNe
import Derived.Test.YtciagecaegoppaaDoorWAt
import Derived.Test.YtciagecaegoppaaDoorWEqStruct
import Derived.Test.YtciagecaegoppaaDoorWRepsOne
import Derived.Test.YtciagecaegoppaaDoorWInv
import Derived.Test.YtciagecaegoppaaDoorWInvWords
import Derived.Test.YtciagecaegoppaaDoorWGuard
import Derived.Test.YtciagecaegoppaaDoorWNEv
import Derived.Test.YtciagecaegoppaaDoorWMore
import Derived.Test.YtciagecaegoppaaDoorRows
import Derived.Below
import Derived.Deep.Draws
import Derived.Deep.AppendLies
import Derived.Maps.AppendAt
import Derived.OwnWalk
import Derived.Laws.BytesArg
import Derived.Laws.MakeOwn
import Derived.Laws.OwnMore
import Derived.Deep.OwnRows
import Derived.Tactics
import Derived.Lib.ConvBytes
import Derived.Laws.Slices
import Derived.WalkKit
import Derived.KernelRfl
import Derived.RowKit3
import Derived.Deep.LoopGhost
import Derived.Deep.QuietTactic
import Derived.BigQuiet
import Derived.WideLaws
import Derived.Deep.DeepCutAuto
import Derived.Deep.CutBlock
import Derived.Deep.RegionHeld3
import Derived.Laws.Rows
import Derived.Lib.AppendStr
import Derived.ArgAppend
import Derived.Laws.IdiomCopy
import Derived.OrdersHeld
import Derived.Laws.BitsLemmas
import Derived.RowKit
import Derived.Lib.SlBytesConst
import Derived.Lib.LaidTab
import Derived.LaidSub
namespace Go.Proofs.YtciagecaegoppaaDoor.QReply
open Go.RowKit Go.Proofs.YtciagecaegoppaaDoorW.PrintWords Go.Proofs.YtciagecaegoppaaDoorW.PrintLast Go.Proofs.YtciagecaegoppaaDoorW.PrintMore
attribute [local go_sem] max2_int min2_int max_two min_two max_three min_three max_four min_four   -- for this text's walks alone
set_option linter.unusedVariables false
set_option linter.unusedSimpArgs false



def errW : Option Int → Value
  | none => .nilIface
  | some c => .iface 0 (.int .i64 c)
theorem errW_none : errW none = .nilIface := rfl
theorem errW_some (c : Int) : errW (some c) = .iface 0 (.int .i64 c) := rfl

theorem info9 : (Tryd.prog.info? 9).map (fun i => (i.zero, i.size, i.bytes)) = some (some (.string ⟨#[]⟩), 1, 16) := by kernel_rfl
-- the values' own types
def rd_L1 (xs : List (List Int)) (i : Int) : (List Int) := xs.getD i.toNat ([] : List Int)
theorem at_L1 {w : World} {A : Option Addr} {n : Nat} {xs : List (List Int)} (h : Kd.C (Kd.slice 5 (Kd.int .u8)) w A n xs) (i : Int) (h0 : 0 ≤ i) (h1 : i < n) : ∃ ad A0 c0, A = some ad ∧ w.cell? (ad.add i.toNat) = some (.slice A0 (rd_L1 xs i).length c0) ∧ (rd_L1 xs i).length ≤ c0 ∧ (Kd.int .u8).C w A0 (rd_L1 xs i).length (rd_L1 xs i) := by
  obtain ⟨ad, c, e, _, hK, hc0⟩ := Kd.C_get h ([] : List Int) i h0 h1
  have hc : ∀ j u, c[j]? = some u → w.cell? (ad.add (i.toNat * 1 + j)) = some u := hc0
  obtain ⟨A0, c0, rfl, l0, g0⟩ := hK
  exact ⟨ad, A0, c0, e, by have hq := hc 0 _ rfl; rwa [Nat.mul_one, Nat.add_zero] at hq, l0, g0⟩

/-! #### struct type 23 -/
structure S23 where
  f0 : Int
  f1 : Int
  f2 : Int
  f3 : Int
  f4 : Int
def z23 : S23 := ⟨(0 : Int), (0 : Int), (0 : Int), (0 : Int), (0 : Int)⟩
def k23 : Kd S23 := Kd.iso (Kd.pair (Kd.int .u8) (Kd.pair (Kd.int .u8) (Kd.pair (Kd.int .u8) (Kd.pair (Kd.int .u8) (Kd.int .u8))))) (fun x : S23 => (x.f0, x.f1, x.f2, x.f3, x.f4))
theorem k23_open {w : World} {x : S23} {cs : List Value} (h : k23.K w x cs) : cs = [.int .u8 x.f0, .int .u8 x.f1, .int .u8 x.f2, .int .u8 x.f3, .int .u8 x.f4] := by
  obtain ⟨_, _, rfl, rfl, ⟨_, _, rfl, rfl, ⟨_, _, rfl, rfl, ⟨_, _, rfl, rfl, rfl⟩⟩⟩⟩ := h
  exact rfl
theorem k23_openM {w : World} {base : Nat} {ok : Nat → Prop} {x : S23} {cs : List Value} (h : k23.M w base ok x cs) : cs = [.int .u8 x.f0, .int .u8 x.f1, .int .u8 x.f2, .int .u8 x.f3, .int .u8 x.f4] := by
  obtain ⟨_, _, rfl, rfl, ⟨_, _, rfl, rfl, ⟨_, _, rfl, rfl, ⟨_, _, rfl, rfl, rfl⟩⟩⟩⟩ := h
  exact rfl
theorem k23_mk (w : World) (x : S23)  : k23.K w x [.int .u8 x.f0, .int .u8 x.f1, .int .u8 x.f2, .int .u8 x.f3, .int .u8 x.f4] := ⟨[.int .u8 x.f0], [.int .u8 x.f1, .int .u8 x.f2, .int .u8 x.f3, .int .u8 x.f4], rfl, rfl, ⟨[.int .u8 x.f1], [.int .u8 x.f2, .int .u8 x.f3, .int .u8 x.f4], rfl, rfl, ⟨[.int .u8 x.f2], [.int .u8 x.f3, .int .u8 x.f4], rfl, rfl, ⟨[.int .u8 x.f3], [.int .u8 x.f4], rfl, rfl, rfl⟩⟩⟩⟩
theorem k23_mkM (w : World) (base : Nat) (ok : Nat → Prop) (x : S23)  : k23.M w base ok x [.int .u8 x.f0, .int .u8 x.f1, .int .u8 x.f2, .int .u8 x.f3, .int .u8 x.f4] := ⟨[.int .u8 x.f0], [.int .u8 x.f1, .int .u8 x.f2, .int .u8 x.f3, .int .u8 x.f4], rfl, rfl, ⟨[.int .u8 x.f1], [.int .u8 x.f2, .int .u8 x.f3, .int .u8 x.f4], rfl, rfl, ⟨[.int .u8 x.f2], [.int .u8 x.f3, .int .u8 x.f4], rfl, rfl, ⟨[.int .u8 x.f3], [.int .u8 x.f4], rfl, rfl, rfl⟩⟩⟩⟩
def rd_T23 (xs : List S23) (i : Int) : S23 := xs.getD i.toNat z23
theorem at_T23 {w : World} {A : Option Addr} {n : Nat} {xs : List S23} (h : Kd.C k23 w A n xs) (i : Int) (h0 : 0 ≤ i) (h1 : i < n) : ∃ ad , A = some ad ∧ w.cell? (ad.add (i.toNat * 5)) = some (.int .u8 (rd_T23 xs i).f0) ∧ w.cell? ⟨(ad.add (i.toNat * 5)).block, (ad.add (i.toNat * 5)).off + 1, none⟩ = some (.int .u8 (rd_T23 xs i).f1) ∧ w.cell? ⟨(ad.add (i.toNat * 5)).block, (ad.add (i.toNat * 5)).off + 2, none⟩ = some (.int .u8 (rd_T23 xs i).f2) ∧ w.cell? ⟨(ad.add (i.toNat * 5)).block, (ad.add (i.toNat * 5)).off + 3, none⟩ = some (.int .u8 (rd_T23 xs i).f3) ∧ w.cell? ⟨(ad.add (i.toNat * 5)).block, (ad.add (i.toNat * 5)).off + 4, none⟩ = some (.int .u8 (rd_T23 xs i).f4) := by
  obtain ⟨ad, c, e, _, hK, hc0⟩ := Kd.C_get h z23 i h0 h1
  have hc : ∀ j u, c[j]? = some u → w.cell? (ad.add (i.toNat * 5 + j)) = some u := hc0
  obtain rfl := k23_open hK
  exact ⟨ad, e, hc 0 _ rfl, by rw [← add_field _ _ 1 (by omega)]; exact hc 1 _ rfl, by rw [← add_field _ _ 2 (by omega)]; exact hc 2 _ rfl, by rw [← add_field _ _ 3 (by omega)]; exact hc 3 _ rfl, by rw [← add_field _ _ 4 (by omega)]; exact hc 4 _ rfl⟩

/-! #### struct type 25 -/
structure S25 where
  f0 : S23
  f1 : ByteArray
  f2 : ByteArray
  f3 : ByteArray
  f4 : ByteArray
  f5 : ByteArray
  f6 : ByteArray
  f7 : ByteArray
  f8 : ByteArray
  f9 : ByteArray
  f10 : ByteArray
def z25 : S25 := ⟨z23, (⟨#[]⟩ : ByteArray), (⟨#[]⟩ : ByteArray), (⟨#[]⟩ : ByteArray), (⟨#[]⟩ : ByteArray), (⟨#[]⟩ : ByteArray), (⟨#[]⟩ : ByteArray), (⟨#[]⟩ : ByteArray), (⟨#[]⟩ : ByteArray), (⟨#[]⟩ : ByteArray), (⟨#[]⟩ : ByteArray)⟩
def k25 : Kd S25 := Kd.iso (Kd.pair k23 (Kd.pair Kd.string (Kd.pair Kd.string (Kd.pair Kd.string (Kd.pair Kd.string (Kd.pair Kd.string (Kd.pair Kd.string (Kd.pair Kd.string (Kd.pair Kd.string (Kd.pair Kd.string Kd.string)))))))))) (fun x : S25 => (x.f0, x.f1, x.f2, x.f3, x.f4, x.f5, x.f6, x.f7, x.f8, x.f9, x.f10))
theorem k25_open {w : World} {x : S25} {cs : List Value} (h : k25.K w x cs) : cs = [.int .u8 x.f0.f0, .int .u8 x.f0.f1, .int .u8 x.f0.f2, .int .u8 x.f0.f3, .int .u8 x.f0.f4, .string x.f1, .string x.f2, .string x.f3, .string x.f4, .string x.f5, .string x.f6, .string x.f7, .string x.f8, .string x.f9, .string x.f10] := by
  obtain ⟨_, _, rfl, s0, ⟨_, _, rfl, rfl, ⟨_, _, rfl, rfl, ⟨_, _, rfl, rfl, ⟨_, _, rfl, rfl, ⟨_, _, rfl, rfl, ⟨_, _, rfl, rfl, ⟨_, _, rfl, rfl, ⟨_, _, rfl, rfl, ⟨_, _, rfl, rfl, rfl⟩⟩⟩⟩⟩⟩⟩⟩⟩⟩ := h
  obtain rfl := k23_open s0
  exact rfl
theorem k25_openM {w : World} {base : Nat} {ok : Nat → Prop} {x : S25} {cs : List Value} (h : k25.M w base ok x cs) : cs = [.int .u8 x.f0.f0, .int .u8 x.f0.f1, .int .u8 x.f0.f2, .int .u8 x.f0.f3, .int .u8 x.f0.f4, .string x.f1, .string x.f2, .string x.f3, .string x.f4, .string x.f5, .string x.f6, .string x.f7, .string x.f8, .string x.f9, .string x.f10] := by
  obtain ⟨_, _, rfl, s0, ⟨_, _, rfl, rfl, ⟨_, _, rfl, rfl, ⟨_, _, rfl, rfl, ⟨_, _, rfl, rfl, ⟨_, _, rfl, rfl, ⟨_, _, rfl, rfl, ⟨_, _, rfl, rfl, ⟨_, _, rfl, rfl, ⟨_, _, rfl, rfl, rfl⟩⟩⟩⟩⟩⟩⟩⟩⟩⟩ := h
  obtain rfl := k23_openM s0
  exact rfl
theorem k25_mk (w : World) (x : S25)  : k25.K w x [.int .u8 x.f0.f0, .int .u8 x.f0.f1, .int .u8 x.f0.f2, .int .u8 x.f0.f3, .int .u8 x.f0.f4, .string x.f1, .string x.f2, .string x.f3, .string x.f4, .string x.f5, .string x.f6, .string x.f7, .string x.f8, .string x.f9, .string x.f10] := ⟨[.int .u8 x.f0.f0, .int .u8 x.f0.f1, .int .u8 x.f0.f2, .int .u8 x.f0.f3, .int .u8 x.f0.f4], [.string x.f1, .string x.f2, .string x.f3, .string x.f4, .string x.f5, .string x.f6, .string x.f7, .string x.f8, .string x.f9, .string x.f10], rfl, (k23_mk w x.f0 ), ⟨[.string x.f1], [.string x.f2, .string x.f3, .string x.f4, .string x.f5, .string x.f6, .string x.f7, .string x.f8, .string x.f9, .string x.f10], rfl, rfl, ⟨[.string x.f2], [.string x.f3, .string x.f4, .string x.f5, .string x.f6, .string x.f7, .string x.f8, .string x.f9, .string x.f10], rfl, rfl, ⟨[.string x.f3], [.string x.f4, .string x.f5, .string x.f6, .string x.f7, .string x.f8, .string x.f9, .string x.f10], rfl, rfl, ⟨[.string x.f4], [.string x.f5, .string x.f6, .string x.f7, .string x.f8, .string x.f9, .string x.f10], rfl, rfl, ⟨[.string x.f5], [.string x.f6, .string x.f7, .string x.f8, .string x.f9, .string x.f10], rfl, rfl, ⟨[.string x.f6], [.string x.f7, .string x.f8, .string x.f9, .string x.f10], rfl, rfl, ⟨[.string x.f7], [.string x.f8, .string x.f9, .string x.f10], rfl, rfl, ⟨[.string x.f8], [.string x.f9, .string x.f10], rfl, rfl, ⟨[.string x.f9], [.string x.f10], rfl, rfl, rfl⟩⟩⟩⟩⟩⟩⟩⟩⟩⟩
theorem k25_mkM (w : World) (base : Nat) (ok : Nat → Prop) (x : S25)  : k25.M w base ok x [.int .u8 x.f0.f0, .int .u8 x.f0.f1, .int .u8 x.f0.f2, .int .u8 x.f0.f3, .int .u8 x.f0.f4, .string x.f1, .string x.f2, .string x.f3, .string x.f4, .string x.f5, .string x.f6, .string x.f7, .string x.f8, .string x.f9, .string x.f10] := ⟨[.int .u8 x.f0.f0, .int .u8 x.f0.f1, .int .u8 x.f0.f2, .int .u8 x.f0.f3, .int .u8 x.f0.f4], [.string x.f1, .string x.f2, .string x.f3, .string x.f4, .string x.f5, .string x.f6, .string x.f7, .string x.f8, .string x.f9, .string x.f10], rfl, (k23_mkM w base ok x.f0 ), ⟨[.string x.f1], [.string x.f2, .string x.f3, .string x.f4, .string x.f5, .string x.f6, .string x.f7, .string x.f8, .string x.f9, .string x.f10], rfl, rfl, ⟨[.string x.f2], [.string x.f3, .string x.f4, .string x.f5, .string x.f6, .string x.f7, .string x.f8, .string x.f9, .string x.f10], rfl, rfl, ⟨[.string x.f3], [.string x.f4, .string x.f5, .string x.f6, .string x.f7, .string x.f8, .string x.f9, .string x.f10], rfl, rfl, ⟨[.string x.f4], [.string x.f5, .string x.f6, .string x.f7, .string x.f8, .string x.f9, .string x.f10], rfl, rfl, ⟨[.string x.f5], [.string x.f6, .string x.f7, .string x.f8, .string x.f9, .string x.f10], rfl, rfl, ⟨[.string x.f6], [.string x.f7, .string x.f8, .string x.f9, .string x.f10], rfl, rfl, ⟨[.string x.f7], [.string x.f8, .string x.f9, .string x.f10], rfl, rfl, ⟨[.string x.f8], [.string x.f9, .string x.f10], rfl, rfl, ⟨[.string x.f9], [.string x.f10], rfl, rfl, rfl⟩⟩⟩⟩⟩⟩⟩⟩⟩⟩
def rd_T25 (xs : List S25) (i : Int) : S25 := xs.getD i.toNat z25
theorem at_T25 {w : World} {A : Option Addr} {n : Nat} {xs : List S25} (h : Kd.C k25 w A n xs) (i : Int) (h0 : 0 ≤ i) (h1 : i < n) : ∃ ad , A = some ad ∧ w.cell? (ad.add (i.toNat * 15)) = some (.int .u8 (rd_T25 xs i).f0.f0) ∧ w.cell? ⟨(ad.add (i.toNat * 15)).block, (ad.add (i.toNat * 15)).off + 1, none⟩ = some (.int .u8 (rd_T25 xs i).f0.f1) ∧ w.cell? ⟨(ad.add (i.toNat * 15)).block, (ad.add (i.toNat * 15)).off + 2, none⟩ = some (.int .u8 (rd_T25 xs i).f0.f2) ∧ w.cell? ⟨(ad.add (i.toNat * 15)).block, (ad.add (i.toNat * 15)).off + 3, none⟩ = some (.int .u8 (rd_T25 xs i).f0.f3) ∧ w.cell? ⟨(ad.add (i.toNat * 15)).block, (ad.add (i.toNat * 15)).off + 4, none⟩ = some (.int .u8 (rd_T25 xs i).f0.f4) ∧ w.cell? ⟨(ad.add (i.toNat * 15)).block, (ad.add (i.toNat * 15)).off + 5, none⟩ = some (.string (rd_T25 xs i).f1) ∧ w.cell? ⟨(ad.add (i.toNat * 15)).block, (ad.add (i.toNat * 15)).off + 6, none⟩ = some (.string (rd_T25 xs i).f2) ∧ w.cell? ⟨(ad.add (i.toNat * 15)).block, (ad.add (i.toNat * 15)).off + 7, none⟩ = some (.string (rd_T25 xs i).f3) ∧ w.cell? ⟨(ad.add (i.toNat * 15)).block, (ad.add (i.toNat * 15)).off + 8, none⟩ = some (.string (rd_T25 xs i).f4) ∧ w.cell? ⟨(ad.add (i.toNat * 15)).block, (ad.add (i.toNat * 15)).off + 9, none⟩ = some (.string (rd_T25 xs i).f5) ∧ w.cell? ⟨(ad.add (i.toNat * 15)).block, (ad.add (i.toNat * 15)).off + 10, none⟩ = some (.string (rd_T25 xs i).f6) ∧ w.cell? ⟨(ad.add (i.toNat * 15)).block, (ad.add (i.toNat * 15)).off + 11, none⟩ = some (.string (rd_T25 xs i).f7) ∧ w.cell? ⟨(ad.add (i.toNat * 15)).block, (ad.add (i.toNat * 15)).off + 12, none⟩ = some (.string (rd_T25 xs i).f8) ∧ w.cell? ⟨(ad.add (i.toNat * 15)).block, (ad.add (i.toNat * 15)).off + 13, none⟩ = some (.string (rd_T25 xs i).f9) ∧ w.cell? ⟨(ad.add (i.toNat * 15)).block, (ad.add (i.toNat * 15)).off + 14, none⟩ = some (.string (rd_T25 xs i).f10) := by
  obtain ⟨ad, c, e, _, hK, hc0⟩ := Kd.C_get h z25 i h0 h1
  have hc : ∀ j u, c[j]? = some u → w.cell? (ad.add (i.toNat * 15 + j)) = some u := hc0
  obtain rfl := k25_open hK
  exact ⟨ad, e, hc 0 _ rfl, by rw [← add_field _ _ 1 (by omega)]; exact hc 1 _ rfl, by rw [← add_field _ _ 2 (by omega)]; exact hc 2 _ rfl, by rw [← add_field _ _ 3 (by omega)]; exact hc 3 _ rfl, by rw [← add_field _ _ 4 (by omega)]; exact hc 4 _ rfl, by rw [← add_field _ _ 5 (by omega)]; exact hc 5 _ rfl, by rw [← add_field _ _ 6 (by omega)]; exact hc 6 _ rfl, by rw [← add_field _ _ 7 (by omega)]; exact hc 7 _ rfl, by rw [← add_field _ _ 8 (by omega)]; exact hc 8 _ rfl, by rw [← add_field _ _ 9 (by omega)]; exact hc 9 _ rfl, by rw [← add_field _ _ 10 (by omega)]; exact hc 10 _ rfl, by rw [← add_field _ _ 11 (by omega)]; exact hc 11 _ rfl, by rw [← add_field _ _ 12 (by omega)]; exact hc 12 _ rfl, by rw [← add_field _ _ 13 (by omega)]; exact hc 13 _ rfl, by rw [← add_field _ _ 14 (by omega)]; exact hc 14 _ rfl⟩

def rd_L7 (xs : List (List ByteArray)) (i : Int) : (List ByteArray) := xs.getD i.toNat ([] : List ByteArray)
theorem at_L7 {w : World} {A : Option Addr} {n : Nat} {xs : List (List ByteArray)} (h : Kd.C (Kd.slice 9 Kd.string) w A n xs) (i : Int) (h0 : 0 ≤ i) (h1 : i < n) : ∃ ad A0 c0, A = some ad ∧ w.cell? (ad.add i.toNat) = some (.slice A0 (rd_L7 xs i).length c0) ∧ (rd_L7 xs i).length ≤ c0 ∧ Kd.string.C w A0 (rd_L7 xs i).length (rd_L7 xs i) := by
  obtain ⟨ad, c, e, _, hK, hc0⟩ := Kd.C_get h ([] : List ByteArray) i h0 h1
  have hc : ∀ j u, c[j]? = some u → w.cell? (ad.add (i.toNat * 1 + j)) = some u := hc0
  obtain ⟨A0, c0, rfl, l0, g0⟩ := hK
  exact ⟨ad, A0, c0, e, by have hq := hc 0 _ rfl; rwa [Nat.mul_one, Nat.add_zero] at hq, l0, g0⟩

end Go.Proofs.YtciagecaegoppaaDoor.QReply
namespace Go.Proofs.YtciagecaegoppaaDoor.QReply
open Go.RowKit Go.Proofs.YtciagecaegoppaaDoorW.PrintWords Go.Proofs.YtciagecaegoppaaDoorW.PrintLast Go.Proofs.YtciagecaegoppaaDoorW.PrintMore
attribute [local go_sem] max2_int min2_int max_two min_two max_three min_three max_four min_four   -- for this text's walks alone
set_option linter.unusedVariables false
set_option linter.unusedSimpArgs false

/-! ### ack_Build: function 30 -/
def ack_Build.f (k : Nat) (a0_0 : Int) (a0_1 : Int) (a0_2 : Int) (a0_3 : Int) (a0_4 : Int) (a0_5 : ByteArray) (a0_6 : ByteArray) (a0_7 : ByteArray) (a0_8 : ByteArray) (a0_9 : ByteArray) (a0_10 : ByteArray) (a0_11 : ByteArray) (a0_12 : ByteArray) (a0_13 : ByteArray) (a0_14 : ByteArray) (a1 : ByteArray) : Option (List Int × Int) := (ack_Known.f a1).bind fun t102 => (if t102 = true then ((msh_Write.f a0_0 a0_1 a0_2 a0_3 a0_4 a0_7 a0_8 a0_5 a0_6 a0_9 (⟨#[]⟩ : ByteArray) (⟨#[65, 67, 75]⟩ : ByteArray) a0_12 a0_13 a0_14).bind fun bt104 => (if bt104.2 = 0 then ((QMake.segment_Make.f a0_0 a0_1 a0_2 a0_3 a0_4 (⟨#[77, 83, 65]⟩ : ByteArray) (([a1, a0_12] : List ByteArray))).bind fun t109 => ((QJoin.segment_Join.f k (([bt104.1, t109] : List ByteArray))).bind fun t113 => (some (t113, 0)))) else (some (([] : List Int), bt104.2)))) else (some (([] : List Int), 17)))
theorem ack_Build.mono : ∀ a0 a1 a2 a3 a4 a5 a6 a7 a8 a9 a10 a11 a12 a13 a14 a15 k, LeO (ack_Build.f k a0 a1 a2 a3 a4 a5 a6 a7 a8 a9 a10 a11 a12 a13 a14 a15) (ack_Build.f (k + 1) a0 a1 a2 a3 a4 a5 a6 a7 a8 a9 a10 a11 a12 a13 a14 a15) := by
  intro a0 a1 a2 a3 a4 a5 a6 a7 a8 a9 a10 a11 a12 a13 a14 a15 k
  unfold ack_Build.f
  repeat' first
      | (with_reducible exact QJoin.segment_Join.mono _ _)
      | (with_reducible exact LeO.refl _)
      | (with_reducible exact LeO.none _)
      | (with_reducible refine LeO.ite ?_ ?_)
      | (with_reducible refine LeO.bind ?_ (fun _ => ?_))
      | exact QJoin.segment_Join.mono _ _
      | exact LeO.none _
      | refine LeO.ite ?_ ?_
      | refine LeO.bind ?_ (fun _ => ?_)
def ack_Build.T4 : Bool × List (List Nat × List Nat) := (true, [([], []), ([0], [0]), ([], []), ([2], [2]), ([0, 1], []), ([4, 1, 0, 1], [1, 4]), ([0, 1, 2, 3, 4, 5], []), ([6, 3, 5, 0, 1, 2, 3, 4, 5], [3, 6])])
def ack_Build.B4 : List Nat := [0, 1, 0, 4, 3, 19, 63, 127]
theorem ack_Build.tab4 : rtab .any (opsOf Tryd.f30 4) = ack_Build.T4 := by kernel_rfl
theorem ack_Build.bits4 : waitsOk ack_Build.T4.2 ack_Build.B4 = true := by kernel_rfl
def ack_Build.T5 : Bool × List (List Nat × List Nat) := (true, [([], []), ([0], [0]), ([], []), ([2], [2]), ([0, 1], []), ([4, 1, 0, 1], [1, 4]), ([0, 1, 2, 3, 4, 5], []), ([6, 3, 5, 0, 1, 2, 3, 4, 5], [3, 6])])
def ack_Build.B5 : List Nat := [0, 1, 0, 4, 3, 19, 63, 127]
theorem ack_Build.tab5 : rtab .any (opsOf Tryd.f30 5) = ack_Build.T5 := by kernel_rfl
theorem ack_Build.bits5 : waitsOk ack_Build.T5.2 ack_Build.B5 = true := by kernel_rfl
set_option maxHeartbeats 8000000 in
set_option maxRecDepth 100000 in
theorem ack_Build.calls (k : Nat) (a0_0 : Int) (a0_1 : Int) (a0_2 : Int) (a0_3 : Int) (a0_4 : Int) (a0_5 : ByteArray) (a0_6 : ByteArray) (a0_7 : ByteArray) (a0_8 : ByteArray) (a0_9 : ByteArray) (a0_10 : ByteArray) (a0_11 : ByteArray) (a0_12 : ByteArray) (a0_13 : ByteArray) (a0_14 : ByteArray) (a1 : ByteArray) (r1 : List Int) (r2 : Int) (w : World) (hG : GlobA w) (h : ack_Build.f k a0_0 a0_1 a0_2 a0_3 a0_4 a0_5 a0_6 a0_7 a0_8 a0_9 a0_10 a0_11 a0_12 a0_13 a0_14 a1 = some (r1, r2)) :
    Calls Tryd.prog 30 #[.agg #[.int .u8 a0_0, .int .u8 a0_1, .int .u8 a0_2, .int .u8 a0_3, .int .u8 a0_4, .string a0_5, .string a0_6, .string a0_7, .string a0_8, .string a0_9, .string a0_10, .string a0_11, .string a0_12, .string a0_13, .string a0_14], .string a1] w fun e w' => ∃ v0_ : Value, e = .returned (.tuple #[v0_, .int .i64 r2]) ∧ Kd.R (Kd.int .u8) 5 w' w.heap.size (fun _ => True) v0_ r1 ∧ Below w.heap.size w w' := by
  have hu25 := Tryd.underlying25
  have hu23 := Tryd.underlying23
  have HG := Aside0.mk hG
  clear hG
  have HB := Aside0.mk (Below.refl w.heap.size w)
  have H : ((ack_Known.f a1).bind fun t102 => (if t102 = true then ((msh_Write.f a0_0 a0_1 a0_2 a0_3 a0_4 a0_7 a0_8 a0_5 a0_6 a0_9 (⟨#[]⟩ : ByteArray) (⟨#[65, 67, 75]⟩ : ByteArray) a0_12 a0_13 a0_14).bind fun bt104 => (if bt104.2 = 0 then ((QMake.segment_Make.f a0_0 a0_1 a0_2 a0_3 a0_4 (⟨#[77, 83, 65]⟩ : ByteArray) (([a1, a0_12] : List ByteArray))).bind fun t109 => ((QJoin.segment_Join.f k (([bt104.1, t109] : List ByteArray))).bind fun t113 => (some (t113, 0)))) else (some (([] : List Int), bt104.2)))) else (some (([] : List Int), 17)))) = some (r1, r2) := h
  clear h
  replace H := Option.bind_eq_some_iff.mp H
  obtain ⟨t102, A30, H⟩ := H
  replace H : (if t102 = true then ((msh_Write.f a0_0 a0_1 a0_2 a0_3 a0_4 a0_7 a0_8 a0_5 a0_6 a0_9 (⟨#[]⟩ : ByteArray) (⟨#[65, 67, 75]⟩ : ByteArray) a0_12 a0_13 a0_14).bind fun bt104 => (if bt104.2 = 0 then ((QMake.segment_Make.f a0_0 a0_1 a0_2 a0_3 a0_4 (⟨#[77, 83, 65]⟩ : ByteArray) (([a1, a0_12] : List ByteArray))).bind fun t109 => ((QJoin.segment_Join.f k (([bt104.1, t109] : List ByteArray))).bind fun t113 => (some (t113, 0)))) else (some (([] : List Int), bt104.2)))) else (some (([] : List Int), 17))) = some (r1, r2) := H
  have A3 := Aside0.mk A30
  clear A30
  by_cases c4 : t102 = true
  · subst c4
    have H1 : ((msh_Write.f a0_0 a0_1 a0_2 a0_3 a0_4 a0_7 a0_8 a0_5 a0_6 a0_9 (⟨#[]⟩ : ByteArray) (⟨#[65, 67, 75]⟩ : ByteArray) a0_12 a0_13 a0_14).bind fun bt104 => (if bt104.2 = 0 then ((QMake.segment_Make.f a0_0 a0_1 a0_2 a0_3 a0_4 (⟨#[77, 83, 65]⟩ : ByteArray) (([a1, a0_12] : List ByteArray))).bind fun t109 => ((QJoin.segment_Join.f k (([bt104.1, t109] : List ByteArray))).bind fun t113 => (some (t113, 0)))) else (some (([] : List Int), bt104.2)))) = some (r1, r2) := by rw [if_pos rfl] at H; exact H
    clear H
    have H := H1
    clear H1
    replace H := Option.bind_eq_some_iff.mp H
    obtain ⟨⟨t104, t105⟩, A50, H⟩ := H
    replace H : (if t105 = 0 then ((QMake.segment_Make.f a0_0 a0_1 a0_2 a0_3 a0_4 (⟨#[77, 83, 65]⟩ : ByteArray) (([a1, a0_12] : List ByteArray))).bind fun t109 => ((QJoin.segment_Join.f k (([t104, t109] : List ByteArray))).bind fun t113 => (some (t113, 0)))) else (some (([] : List Int), t105))) = some (r1, r2) := H
    have A5 := Aside0.mk A50
    clear A50
    by_cases c6 : t105 = 0
    · rw [if_pos c6] at H
      have c6b0 : (t105 == 0) = true := beq_iff_eq.mpr c6
      have c6b1 : (t105 != 0) = false := bne_eq_false_iff_eq.mpr c6
      clear c6
      obtain ⟨y106, hy106⟩ : ∃ y_ : List ByteArray, y_ = (([a1, a0_12] : List ByteArray)) := ⟨_, rfl⟩
      replace H : ((QMake.segment_Make.f a0_0 a0_1 a0_2 a0_3 a0_4 (⟨#[77, 83, 65]⟩ : ByteArray) y106).bind fun t109 => ((QJoin.segment_Join.f k (([t104, t109] : List ByteArray))).bind fun t113 => (some (t113, 0)))) = some (r1, r2) := by first | (rw [hy106]; with_reducible exact H) | (have H2_ := (Option.bind_some _ _).symm.trans H; rw [hy106]; with_reducible exact H2_) | (have H2_ := (Option.bind_some _ _).symm.trans H; with_reducible exact H2_) | with_reducible exact H | (rw [hy106]; exact H) | exact H
      have Ny106 := Aside0.mk hy106
      clear hy106
      replace H := Option.bind_eq_some_iff.mp H
      obtain ⟨t109, A70, H⟩ := H
      replace H : ((QJoin.segment_Join.f k (([t104, t109] : List ByteArray))).bind fun t113 => (some (t113, 0))) = some (r1, r2) := H
      have A7 := Aside0.mk A70
      clear A70
      obtain ⟨y110, hy110⟩ : ∃ y_ : List ByteArray, y_ = (([t104, t109] : List ByteArray)) := ⟨_, rfl⟩
      replace H : ((QJoin.segment_Join.f k y110).bind fun t113 => (some (t113, 0))) = some (r1, r2) := by first | (rw [hy110]; with_reducible exact H) | (have H2_ := (Option.bind_some _ _).symm.trans H; rw [hy110]; with_reducible exact H2_) | (have H2_ := (Option.bind_some _ _).symm.trans H; with_reducible exact H2_) | with_reducible exact H | (rw [hy110]; exact H) | exact H
      have Ny110 := Aside0.mk hy110
      clear hy110
      replace H := Option.bind_eq_some_iff.mp H
      obtain ⟨t113, A80, H⟩ := H
      replace H : (some (t113, 0)) = some (r1, r2) := H
      have A8 := Aside0.mk A80
      clear A80
      simp only [Option.some.injEq, Prod.mk.injEq] at H
      obtain ⟨rfl, rfl⟩ := H
      go_enter Tryd.func30, Tryd.ntmps30
      try go_wp2_with (first | ((with_reducible refine gate_dst (N := 2) rfl ?_); refine box_event ?hg (N := 2) ?hd (cs := #[.int .u8 a0_0, .int .u8 a0_1, .int .u8 a0_2, .int .u8 a0_3, .int .u8 a0_4, .string a0_5, .string a0_6, .string a0_7, .string a0_8, .string a0_9, .string a0_10, .string a0_11, .string a0_12, .string a0_13, .string a0_14]) (t := 25) ?hr ?_; (case hd => rfl); (case hg => rfl); (case hr => first | (go_simp; done) | (go_simp; rfl)); intro gb101 hg w9 hbox hb; have n0_ := Aside0.mk (below_step (by repeat (first | (with_reducible first | exact HB.out | apply below_alloc | apply pw_below_drewN | apply below_drew1) | exact HB.out)) hb); have n1_ := Aside0.mk (hbox); have n2_ := Aside0.mk ((by rw [hg]; exact (below_size (by repeat (first | (with_reducible first | exact HB.out | apply below_alloc | apply pw_below_drewN | apply below_drew1) | exact HB.out))) : w.heap.size ≤ gb101)); have n3_ := Aside0.mk ((by rw [hg]; exact (below_size (by repeat (first | (with_reducible first | exact HB.out | apply below_alloc | apply pw_below_drewN | apply below_drew1) | exact HB.out))) : w.heap.size ≤ gb101)); clear HB; have HB := n0_; have BK101 := n1_; have GW101 := n2_; have GE101 := n3_; clear n0_ n1_ n2_ n3_; clear hb hbox hg) | ((with_reducible refine gate_callee (f := 38) rfl ?_); refine goesL_ (some 10) rfl rfl Tryd.func38 (by kernel_rfl) rfl #[.string a1] rfl (by (try simp only [List.map_toArray, List.map_cons, List.map_nil]); first | done | rfl | (simp only [List.length_drop, List.length_take]; rfl)) ?_; (with_reducible refine (ack_Known.calls a1 true _ ?side1 A3.out).mono ?_); (case side1 => exact GlobA.below HG.out (by repeat (first | (with_reducible first | exact HB.out | apply below_alloc | apply pw_below_drewN | apply below_drew1 | refine below_set ?_ GE101.out) | exact HB.out))); rintro e w10 ⟨rfl, hb⟩; refine ⟨_, rfl, ?_⟩; have n0_ := Aside0.mk (blk_below (g := gb101) (o := .cells #[.int .u8 a0_0, .int .u8 a0_1, .int .u8 a0_2, .int .u8 a0_3, .int .u8 a0_4, .string a0_5, .string a0_6, .string a0_7, .string a0_8, .string a0_9, .string a0_10, .string a0_11, .string a0_12, .string a0_13, .string a0_14] 25 (0, 0)) (by (with_reducible repeat (first | refine blk_drewN ?_ _ | refine blk_drew ?_ | refine blk_alloc ?_ _)); exact BK101.out) hb); have n1_ := Aside0.mk (below_step (by repeat (first | (with_reducible first | exact HB.out | apply below_alloc | apply pw_below_drewN | apply below_drew1 | refine below_set ?_ GE101.out) | exact HB.out)) hb); clear BK101; clear HB; have BK101 := n0_; have HB := n1_; clear n0_ n1_; (try clear hb); (try clear hb2); (try clear hk); (try clear hi); have hcz11_0 : w10.cell? ⟨gb101, 0, none⟩ = some (.int .u8 a0_0) := (blk_cell BK101.out 0).trans rfl; have hcz11_1 : w10.cell? ⟨gb101, 1, none⟩ = some (.int .u8 a0_1) := (blk_cell BK101.out 1).trans rfl; have hcz11_2 : w10.cell? ⟨gb101, 2, none⟩ = some (.int .u8 a0_2) := (blk_cell BK101.out 2).trans rfl; have hcz11_3 : w10.cell? ⟨gb101, 3, none⟩ = some (.int .u8 a0_3) := (blk_cell BK101.out 3).trans rfl; have hcz11_4 : w10.cell? ⟨gb101, 4, none⟩ = some (.int .u8 a0_4) := (blk_cell BK101.out 4).trans rfl; have hcz11_5 : w10.cell? ⟨gb101, 5, none⟩ = some (.string a0_5) := (blk_cell BK101.out 5).trans rfl; have hcz11_6 : w10.cell? ⟨gb101, 6, none⟩ = some (.string a0_6) := (blk_cell BK101.out 6).trans rfl; have hcz11_7 : w10.cell? ⟨gb101, 7, none⟩ = some (.string a0_7) := (blk_cell BK101.out 7).trans rfl; have hcz11_8 : w10.cell? ⟨gb101, 8, none⟩ = some (.string a0_8) := (blk_cell BK101.out 8).trans rfl; have hcz11_9 : w10.cell? ⟨gb101, 9, none⟩ = some (.string a0_9) := (blk_cell BK101.out 9).trans rfl; have hcz11_10 : w10.cell? ⟨gb101, 10, none⟩ = some (.string a0_10) := (blk_cell BK101.out 10).trans rfl; have hcz11_11 : w10.cell? ⟨gb101, 11, none⟩ = some (.string a0_11) := (blk_cell BK101.out 11).trans rfl; have hcz11_12 : w10.cell? ⟨gb101, 12, none⟩ = some (.string a0_12) := (blk_cell BK101.out 12).trans rfl; have hcz11_13 : w10.cell? ⟨gb101, 13, none⟩ = some (.string a0_13) := (blk_cell BK101.out 13).trans rfl; have hcz11_14 : w10.cell? ⟨gb101, 14, none⟩ = some (.string a0_14) := (blk_cell BK101.out 14).trans rfl; have hfz11_0 := blk_frozen BK101.out 0; have hfz11_1 := blk_frozen BK101.out 1; have hfz11_2 := blk_frozen BK101.out 2; have hfz11_3 := blk_frozen BK101.out 3; have hfz11_4 := blk_frozen BK101.out 4; have hfz11_5 := blk_frozen BK101.out 5; have hfz11_6 := blk_frozen BK101.out 6; have hfz11_7 := blk_frozen BK101.out 7; have hfz11_8 := blk_frozen BK101.out 8; have hfz11_9 := blk_frozen BK101.out 9; have hfz11_10 := blk_frozen BK101.out 10; have hfz11_11 := blk_frozen BK101.out 11; have hfz11_12 := blk_frozen BK101.out 12; have hfz11_13 := blk_frozen BK101.out 13; have hfz11_14 := blk_frozen BK101.out 14) | ((with_reducible refine gate_dst (N := 6) rfl ?_); refine box_event ?hg (N := 6) ?hd (cs := #[.int .u8 0, .int .u8 0, .int .u8 0, .int .u8 0, .int .u8 0, .string (⟨#[]⟩ : ByteArray), .string (⟨#[]⟩ : ByteArray), .string (⟨#[]⟩ : ByteArray), .string (⟨#[]⟩ : ByteArray), .string (⟨#[]⟩ : ByteArray), .string (⟨#[]⟩ : ByteArray), .string (⟨#[]⟩ : ByteArray), .string (⟨#[]⟩ : ByteArray), .string (⟨#[]⟩ : ByteArray), .string (⟨#[]⟩ : ByteArray)]) (t := 25) ?hr ?_; (case hd => rfl); (case hg => rfl); (case hr => first | (go_simp; done) | (go_simp; rfl)); intro gb103 hg w12 hbox hb; have n0_ := Aside0.mk (blk_below (g := gb101) (o := .cells #[.int .u8 a0_0, .int .u8 a0_1, .int .u8 a0_2, .int .u8 a0_3, .int .u8 a0_4, .string a0_5, .string a0_6, .string a0_7, .string a0_8, .string a0_9, .string a0_10, .string a0_11, .string a0_12, .string a0_13, .string a0_14] 25 (0, 0)) (by (with_reducible repeat (first | refine blk_drewN ?_ _ | refine blk_drew ?_ | refine blk_alloc ?_ _)); exact BK101.out) hb); have n1_ := Aside0.mk (below_step (by repeat (first | (with_reducible first | exact HB.out | apply below_alloc | apply pw_below_drewN | apply below_drew1 | refine below_set ?_ GE101.out) | exact HB.out)) hb); have n2_ := Aside0.mk (hbox); have n3_ := Aside0.mk ((by rw [hg]; exact (below_size (by repeat (first | (with_reducible first | exact HB.out | apply below_alloc | apply pw_below_drewN | apply below_drew1 | refine below_set ?_ GE101.out) | exact HB.out))) : w.heap.size ≤ gb103)); have n4_ := Aside0.mk ((by rw [hg]; exact (below_size (by repeat (first | (with_reducible first | exact HB.out | apply below_alloc | apply pw_below_drewN | apply below_drew1 | refine below_set ?_ GE101.out) | exact HB.out))) : w.heap.size ≤ gb103)); have n5_ := Aside0.mk ((by rw [hg]; exact Nat.ne_of_lt (blk_lt (g := gb101) (o := .cells #[.int .u8 a0_0, .int .u8 a0_1, .int .u8 a0_2, .int .u8 a0_3, .int .u8 a0_4, .string a0_5, .string a0_6, .string a0_7, .string a0_8, .string a0_9, .string a0_10, .string a0_11, .string a0_12, .string a0_13, .string a0_14] 25 (0, 0)) (by (with_reducible repeat (first | refine blk_drewN ?_ _ | refine blk_drew ?_ | refine blk_alloc ?_ _)); exact BK101.out)) : gb101 ≠ gb103)); have n6_ := Aside0.mk ((by rw [hg]; exact Nat.ne_of_gt (blk_lt (g := gb101) (o := .cells #[.int .u8 a0_0, .int .u8 a0_1, .int .u8 a0_2, .int .u8 a0_3, .int .u8 a0_4, .string a0_5, .string a0_6, .string a0_7, .string a0_8, .string a0_9, .string a0_10, .string a0_11, .string a0_12, .string a0_13, .string a0_14] 25 (0, 0)) (by (with_reducible repeat (first | refine blk_drewN ?_ _ | refine blk_drew ?_ | refine blk_alloc ?_ _)); exact BK101.out)) : gb103 ≠ gb101)); clear BK101; clear HB; have BK101 := n0_; have HB := n1_; have BK103 := n2_; have GW103 := n3_; have GE103 := n4_; have NB101_103 := n5_; have NB103_101 := n6_; clear n0_ n1_ n2_ n3_ n4_ n5_ n6_; clear hb hbox hg; have hnb13 := NB103_101.out; have hnc13 := NB101_103.out; have hcz14_0 : w12.cell? ⟨gb103, 0, none⟩ = some (.int .u8 0) := (blk_cell BK103.out 0).trans rfl; have hcz14_1 : w12.cell? ⟨gb103, 1, none⟩ = some (.int .u8 0) := (blk_cell BK103.out 1).trans rfl; have hcz14_2 : w12.cell? ⟨gb103, 2, none⟩ = some (.int .u8 0) := (blk_cell BK103.out 2).trans rfl; have hcz14_3 : w12.cell? ⟨gb103, 3, none⟩ = some (.int .u8 0) := (blk_cell BK103.out 3).trans rfl; have hcz14_4 : w12.cell? ⟨gb103, 4, none⟩ = some (.int .u8 0) := (blk_cell BK103.out 4).trans rfl; have hcz14_5 : w12.cell? ⟨gb103, 5, none⟩ = some (.string (⟨#[]⟩ : ByteArray)) := (blk_cell BK103.out 5).trans rfl; have hcz14_6 : w12.cell? ⟨gb103, 6, none⟩ = some (.string (⟨#[]⟩ : ByteArray)) := (blk_cell BK103.out 6).trans rfl; have hcz14_7 : w12.cell? ⟨gb103, 7, none⟩ = some (.string (⟨#[]⟩ : ByteArray)) := (blk_cell BK103.out 7).trans rfl; have hcz14_8 : w12.cell? ⟨gb103, 8, none⟩ = some (.string (⟨#[]⟩ : ByteArray)) := (blk_cell BK103.out 8).trans rfl; have hcz14_9 : w12.cell? ⟨gb103, 9, none⟩ = some (.string (⟨#[]⟩ : ByteArray)) := (blk_cell BK103.out 9).trans rfl; have hcz14_10 : w12.cell? ⟨gb103, 10, none⟩ = some (.string (⟨#[]⟩ : ByteArray)) := (blk_cell BK103.out 10).trans rfl; have hcz14_11 : w12.cell? ⟨gb103, 11, none⟩ = some (.string (⟨#[]⟩ : ByteArray)) := (blk_cell BK103.out 11).trans rfl; have hcz14_12 : w12.cell? ⟨gb103, 12, none⟩ = some (.string (⟨#[]⟩ : ByteArray)) := (blk_cell BK103.out 12).trans rfl; have hcz14_13 : w12.cell? ⟨gb103, 13, none⟩ = some (.string (⟨#[]⟩ : ByteArray)) := (blk_cell BK103.out 13).trans rfl; have hcz14_14 : w12.cell? ⟨gb103, 14, none⟩ = some (.string (⟨#[]⟩ : ByteArray)) := (blk_cell BK103.out 14).trans rfl; have hfz14_0 := blk_frozen BK103.out 0; have hfz14_1 := blk_frozen BK103.out 1; have hfz14_2 := blk_frozen BK103.out 2; have hfz14_3 := blk_frozen BK103.out 3; have hfz14_4 := blk_frozen BK103.out 4; have hfz14_5 := blk_frozen BK103.out 5; have hfz14_6 := blk_frozen BK103.out 6; have hfz14_7 := blk_frozen BK103.out 7; have hfz14_8 := blk_frozen BK103.out 8; have hfz14_9 := blk_frozen BK103.out 9; have hfz14_10 := blk_frozen BK103.out 10; have hfz14_11 := blk_frozen BK103.out 11; have hfz14_12 := blk_frozen BK103.out 12; have hfz14_13 := blk_frozen BK103.out 13; have hfz14_14 := blk_frozen BK103.out 14))
      have n0_ : Aside0 ((((((((((((((((w12.setCell ⟨gb103, 0, none⟩ (.int .u8 a0_0)).setCell ⟨gb103, 1, none⟩ (.int .u8 a0_1)).setCell ⟨gb103, 2, none⟩ (.int .u8 a0_2)).setCell ⟨gb103, 3, none⟩ (.int .u8 a0_3)).setCell ⟨gb103, 4, none⟩ (.int .u8 a0_4)).setCell ⟨gb103, 5, none⟩ (.string a0_5)).setCell ⟨gb103, 6, none⟩ (.string a0_6)).setCell ⟨gb103, 7, none⟩ (.string a0_7)).setCell ⟨gb103, 8, none⟩ (.string a0_8)).setCell ⟨gb103, 9, none⟩ (.string a0_9)).setCell ⟨gb103, 10, none⟩ (.string a0_10)).setCell ⟨gb103, 11, none⟩ (.string a0_11)).setCell ⟨gb103, 12, none⟩ (.string a0_12)).setCell ⟨gb103, 13, none⟩ (.string a0_13)).setCell ⟨gb103, 14, none⟩ (.string a0_14)).heap[gb101]? = some (.cells #[.int .u8 a0_0, .int .u8 a0_1, .int .u8 a0_2, .int .u8 a0_3, .int .u8 a0_4, .string a0_5, .string a0_6, .string a0_7, .string a0_8, .string a0_9, .string a0_10, .string a0_11, .string a0_12, .string a0_13, .string a0_14] 25 (0, 0))) := ⟨by (with_reducible repeat (first | refine blk_drewN ?_ _ | refine blk_drew ?_ | refine blk_alloc ?_ _)); refine blk_far ?_ NB101_103.out _; (with_reducible repeat (first | refine blk_drewN ?_ _ | refine blk_drew ?_ | refine blk_alloc ?_ _)); refine blk_far ?_ NB101_103.out _; (with_reducible repeat (first | refine blk_drewN ?_ _ | refine blk_drew ?_ | refine blk_alloc ?_ _)); refine blk_far ?_ NB101_103.out _; (with_reducible repeat (first | refine blk_drewN ?_ _ | refine blk_drew ?_ | refine blk_alloc ?_ _)); refine blk_far ?_ NB101_103.out _; (with_reducible repeat (first | refine blk_drewN ?_ _ | refine blk_drew ?_ | refine blk_alloc ?_ _)); refine blk_far ?_ NB101_103.out _; (with_reducible repeat (first | refine blk_drewN ?_ _ | refine blk_drew ?_ | refine blk_alloc ?_ _)); refine blk_far ?_ NB101_103.out _; (with_reducible repeat (first | refine blk_drewN ?_ _ | refine blk_drew ?_ | refine blk_alloc ?_ _)); refine blk_far ?_ NB101_103.out _; (with_reducible repeat (first | refine blk_drewN ?_ _ | refine blk_drew ?_ | refine blk_alloc ?_ _)); refine blk_far ?_ NB101_103.out _; (with_reducible repeat (first | refine blk_drewN ?_ _ | refine blk_drew ?_ | refine blk_alloc ?_ _)); refine blk_far ?_ NB101_103.out _; (with_reducible repeat (first | refine blk_drewN ?_ _ | refine blk_drew ?_ | refine blk_alloc ?_ _)); refine blk_far ?_ NB101_103.out _; (with_reducible repeat (first | refine blk_drewN ?_ _ | refine blk_drew ?_ | refine blk_alloc ?_ _)); refine blk_far ?_ NB101_103.out _; (with_reducible repeat (first | refine blk_drewN ?_ _ | refine blk_drew ?_ | refine blk_alloc ?_ _)); refine blk_far ?_ NB101_103.out _; (with_reducible repeat (first | refine blk_drewN ?_ _ | refine blk_drew ?_ | refine blk_alloc ?_ _)); refine blk_far ?_ NB101_103.out _; (with_reducible repeat (first | refine blk_drewN ?_ _ | refine blk_drew ?_ | refine blk_alloc ?_ _)); refine blk_far ?_ NB101_103.out _; (with_reducible repeat (first | refine blk_drewN ?_ _ | refine blk_drew ?_ | refine blk_alloc ?_ _)); refine blk_far ?_ NB101_103.out _; (with_reducible repeat (first | refine blk_drewN ?_ _ | refine blk_drew ?_ | refine blk_alloc ?_ _)); exact BK101.out⟩
      have n1_ : Aside0 ((((((((((((((((w12.setCell ⟨gb103, 0, none⟩ (.int .u8 a0_0)).setCell ⟨gb103, 1, none⟩ (.int .u8 a0_1)).setCell ⟨gb103, 2, none⟩ (.int .u8 a0_2)).setCell ⟨gb103, 3, none⟩ (.int .u8 a0_3)).setCell ⟨gb103, 4, none⟩ (.int .u8 a0_4)).setCell ⟨gb103, 5, none⟩ (.string a0_5)).setCell ⟨gb103, 6, none⟩ (.string a0_6)).setCell ⟨gb103, 7, none⟩ (.string a0_7)).setCell ⟨gb103, 8, none⟩ (.string a0_8)).setCell ⟨gb103, 9, none⟩ (.string a0_9)).setCell ⟨gb103, 10, none⟩ (.string a0_10)).setCell ⟨gb103, 11, none⟩ (.string a0_11)).setCell ⟨gb103, 12, none⟩ (.string a0_12)).setCell ⟨gb103, 13, none⟩ (.string a0_13)).setCell ⟨gb103, 14, none⟩ (.string a0_14)).heap[gb103]? = some (.cells #[.int .u8 a0_0, .int .u8 a0_1, .int .u8 a0_2, .int .u8 a0_3, .int .u8 a0_4, .string a0_5, .string a0_6, .string a0_7, .string a0_8, .string a0_9, .string a0_10, .string a0_11, .string a0_12, .string a0_13, .string a0_14] 25 (0, 0))) := ⟨by (with_reducible repeat (first | refine blk_drewN ?_ _ | refine blk_drew ?_ | refine blk_alloc ?_ _)); refine blk_put (cs := #[.int .u8 a0_0, .int .u8 a0_1, .int .u8 a0_2, .int .u8 a0_3, .int .u8 a0_4, .string a0_5, .string a0_6, .string a0_7, .string a0_8, .string a0_9, .string a0_10, .string a0_11, .string a0_12, .string a0_13, .string (⟨#[]⟩ : ByteArray)]) ?_ 14 _ rfl; (with_reducible repeat (first | refine blk_drewN ?_ _ | refine blk_drew ?_ | refine blk_alloc ?_ _)); refine blk_put (cs := #[.int .u8 a0_0, .int .u8 a0_1, .int .u8 a0_2, .int .u8 a0_3, .int .u8 a0_4, .string a0_5, .string a0_6, .string a0_7, .string a0_8, .string a0_9, .string a0_10, .string a0_11, .string a0_12, .string (⟨#[]⟩ : ByteArray), .string (⟨#[]⟩ : ByteArray)]) ?_ 13 _ rfl; (with_reducible repeat (first | refine blk_drewN ?_ _ | refine blk_drew ?_ | refine blk_alloc ?_ _)); refine blk_put (cs := #[.int .u8 a0_0, .int .u8 a0_1, .int .u8 a0_2, .int .u8 a0_3, .int .u8 a0_4, .string a0_5, .string a0_6, .string a0_7, .string a0_8, .string a0_9, .string a0_10, .string a0_11, .string (⟨#[]⟩ : ByteArray), .string (⟨#[]⟩ : ByteArray), .string (⟨#[]⟩ : ByteArray)]) ?_ 12 _ rfl; (with_reducible repeat (first | refine blk_drewN ?_ _ | refine blk_drew ?_ | refine blk_alloc ?_ _)); refine blk_put (cs := #[.int .u8 a0_0, .int .u8 a0_1, .int .u8 a0_2, .int .u8 a0_3, .int .u8 a0_4, .string a0_5, .string a0_6, .string a0_7, .string a0_8, .string a0_9, .string a0_10, .string (⟨#[]⟩ : ByteArray), .string (⟨#[]⟩ : ByteArray), .string (⟨#[]⟩ : ByteArray), .string (⟨#[]⟩ : ByteArray)]) ?_ 11 _ rfl; (with_reducible repeat (first | refine blk_drewN ?_ _ | refine blk_drew ?_ | refine blk_alloc ?_ _)); refine blk_put (cs := #[.int .u8 a0_0, .int .u8 a0_1, .int .u8 a0_2, .int .u8 a0_3, .int .u8 a0_4, .string a0_5, .string a0_6, .string a0_7, .string a0_8, .string a0_9, .string (⟨#[]⟩ : ByteArray), .string (⟨#[]⟩ : ByteArray), .string (⟨#[]⟩ : ByteArray), .string (⟨#[]⟩ : ByteArray), .string (⟨#[]⟩ : ByteArray)]) ?_ 10 _ rfl; (with_reducible repeat (first | refine blk_drewN ?_ _ | refine blk_drew ?_ | refine blk_alloc ?_ _)); refine blk_put (cs := #[.int .u8 a0_0, .int .u8 a0_1, .int .u8 a0_2, .int .u8 a0_3, .int .u8 a0_4, .string a0_5, .string a0_6, .string a0_7, .string a0_8, .string (⟨#[]⟩ : ByteArray), .string (⟨#[]⟩ : ByteArray), .string (⟨#[]⟩ : ByteArray), .string (⟨#[]⟩ : ByteArray), .string (⟨#[]⟩ : ByteArray), .string (⟨#[]⟩ : ByteArray)]) ?_ 9 _ rfl; (with_reducible repeat (first | refine blk_drewN ?_ _ | refine blk_drew ?_ | refine blk_alloc ?_ _)); refine blk_put (cs := #[.int .u8 a0_0, .int .u8 a0_1, .int .u8 a0_2, .int .u8 a0_3, .int .u8 a0_4, .string a0_5, .string a0_6, .string a0_7, .string (⟨#[]⟩ : ByteArray), .string (⟨#[]⟩ : ByteArray), .string (⟨#[]⟩ : ByteArray), .string (⟨#[]⟩ : ByteArray), .string (⟨#[]⟩ : ByteArray), .string (⟨#[]⟩ : ByteArray), .string (⟨#[]⟩ : ByteArray)]) ?_ 8 _ rfl; (with_reducible repeat (first | refine blk_drewN ?_ _ | refine blk_drew ?_ | refine blk_alloc ?_ _)); refine blk_put (cs := #[.int .u8 a0_0, .int .u8 a0_1, .int .u8 a0_2, .int .u8 a0_3, .int .u8 a0_4, .string a0_5, .string a0_6, .string (⟨#[]⟩ : ByteArray), .string (⟨#[]⟩ : ByteArray), .string (⟨#[]⟩ : ByteArray), .string (⟨#[]⟩ : ByteArray), .string (⟨#[]⟩ : ByteArray), .string (⟨#[]⟩ : ByteArray), .string (⟨#[]⟩ : ByteArray), .string (⟨#[]⟩ : ByteArray)]) ?_ 7 _ rfl; (with_reducible repeat (first | refine blk_drewN ?_ _ | refine blk_drew ?_ | refine blk_alloc ?_ _)); refine blk_put (cs := #[.int .u8 a0_0, .int .u8 a0_1, .int .u8 a0_2, .int .u8 a0_3, .int .u8 a0_4, .string a0_5, .string (⟨#[]⟩ : ByteArray), .string (⟨#[]⟩ : ByteArray), .string (⟨#[]⟩ : ByteArray), .string (⟨#[]⟩ : ByteArray), .string (⟨#[]⟩ : ByteArray), .string (⟨#[]⟩ : ByteArray), .string (⟨#[]⟩ : ByteArray), .string (⟨#[]⟩ : ByteArray), .string (⟨#[]⟩ : ByteArray)]) ?_ 6 _ rfl; (with_reducible repeat (first | refine blk_drewN ?_ _ | refine blk_drew ?_ | refine blk_alloc ?_ _)); refine blk_put (cs := #[.int .u8 a0_0, .int .u8 a0_1, .int .u8 a0_2, .int .u8 a0_3, .int .u8 a0_4, .string (⟨#[]⟩ : ByteArray), .string (⟨#[]⟩ : ByteArray), .string (⟨#[]⟩ : ByteArray), .string (⟨#[]⟩ : ByteArray), .string (⟨#[]⟩ : ByteArray), .string (⟨#[]⟩ : ByteArray), .string (⟨#[]⟩ : ByteArray), .string (⟨#[]⟩ : ByteArray), .string (⟨#[]⟩ : ByteArray), .string (⟨#[]⟩ : ByteArray)]) ?_ 5 _ rfl; (with_reducible repeat (first | refine blk_drewN ?_ _ | refine blk_drew ?_ | refine blk_alloc ?_ _)); refine blk_put (cs := #[.int .u8 a0_0, .int .u8 a0_1, .int .u8 a0_2, .int .u8 a0_3, .int .u8 0, .string (⟨#[]⟩ : ByteArray), .string (⟨#[]⟩ : ByteArray), .string (⟨#[]⟩ : ByteArray), .string (⟨#[]⟩ : ByteArray), .string (⟨#[]⟩ : ByteArray), .string (⟨#[]⟩ : ByteArray), .string (⟨#[]⟩ : ByteArray), .string (⟨#[]⟩ : ByteArray), .string (⟨#[]⟩ : ByteArray), .string (⟨#[]⟩ : ByteArray)]) ?_ 4 _ rfl; (with_reducible repeat (first | refine blk_drewN ?_ _ | refine blk_drew ?_ | refine blk_alloc ?_ _)); refine blk_put (cs := #[.int .u8 a0_0, .int .u8 a0_1, .int .u8 a0_2, .int .u8 0, .int .u8 0, .string (⟨#[]⟩ : ByteArray), .string (⟨#[]⟩ : ByteArray), .string (⟨#[]⟩ : ByteArray), .string (⟨#[]⟩ : ByteArray), .string (⟨#[]⟩ : ByteArray), .string (⟨#[]⟩ : ByteArray), .string (⟨#[]⟩ : ByteArray), .string (⟨#[]⟩ : ByteArray), .string (⟨#[]⟩ : ByteArray), .string (⟨#[]⟩ : ByteArray)]) ?_ 3 _ rfl; (with_reducible repeat (first | refine blk_drewN ?_ _ | refine blk_drew ?_ | refine blk_alloc ?_ _)); refine blk_put (cs := #[.int .u8 a0_0, .int .u8 a0_1, .int .u8 0, .int .u8 0, .int .u8 0, .string (⟨#[]⟩ : ByteArray), .string (⟨#[]⟩ : ByteArray), .string (⟨#[]⟩ : ByteArray), .string (⟨#[]⟩ : ByteArray), .string (⟨#[]⟩ : ByteArray), .string (⟨#[]⟩ : ByteArray), .string (⟨#[]⟩ : ByteArray), .string (⟨#[]⟩ : ByteArray), .string (⟨#[]⟩ : ByteArray), .string (⟨#[]⟩ : ByteArray)]) ?_ 2 _ rfl; (with_reducible repeat (first | refine blk_drewN ?_ _ | refine blk_drew ?_ | refine blk_alloc ?_ _)); refine blk_put (cs := #[.int .u8 a0_0, .int .u8 0, .int .u8 0, .int .u8 0, .int .u8 0, .string (⟨#[]⟩ : ByteArray), .string (⟨#[]⟩ : ByteArray), .string (⟨#[]⟩ : ByteArray), .string (⟨#[]⟩ : ByteArray), .string (⟨#[]⟩ : ByteArray), .string (⟨#[]⟩ : ByteArray), .string (⟨#[]⟩ : ByteArray), .string (⟨#[]⟩ : ByteArray), .string (⟨#[]⟩ : ByteArray), .string (⟨#[]⟩ : ByteArray)]) ?_ 1 _ rfl; (with_reducible repeat (first | refine blk_drewN ?_ _ | refine blk_drew ?_ | refine blk_alloc ?_ _)); refine blk_put (cs := #[.int .u8 0, .int .u8 0, .int .u8 0, .int .u8 0, .int .u8 0, .string (⟨#[]⟩ : ByteArray), .string (⟨#[]⟩ : ByteArray), .string (⟨#[]⟩ : ByteArray), .string (⟨#[]⟩ : ByteArray), .string (⟨#[]⟩ : ByteArray), .string (⟨#[]⟩ : ByteArray), .string (⟨#[]⟩ : ByteArray), .string (⟨#[]⟩ : ByteArray), .string (⟨#[]⟩ : ByteArray), .string (⟨#[]⟩ : ByteArray)]) ?_ 0 _ rfl; (with_reducible repeat (first | refine blk_drewN ?_ _ | refine blk_drew ?_ | refine blk_alloc ?_ _)); exact BK103.out⟩
      have n2_ : Aside0 (Below w.heap.size w (((((((((((((((w12.setCell ⟨gb103, 0, none⟩ (.int .u8 a0_0)).setCell ⟨gb103, 1, none⟩ (.int .u8 a0_1)).setCell ⟨gb103, 2, none⟩ (.int .u8 a0_2)).setCell ⟨gb103, 3, none⟩ (.int .u8 a0_3)).setCell ⟨gb103, 4, none⟩ (.int .u8 a0_4)).setCell ⟨gb103, 5, none⟩ (.string a0_5)).setCell ⟨gb103, 6, none⟩ (.string a0_6)).setCell ⟨gb103, 7, none⟩ (.string a0_7)).setCell ⟨gb103, 8, none⟩ (.string a0_8)).setCell ⟨gb103, 9, none⟩ (.string a0_9)).setCell ⟨gb103, 10, none⟩ (.string a0_10)).setCell ⟨gb103, 11, none⟩ (.string a0_11)).setCell ⟨gb103, 12, none⟩ (.string a0_12)).setCell ⟨gb103, 13, none⟩ (.string a0_13)).setCell ⟨gb103, 14, none⟩ (.string a0_14))) := ⟨by repeat (first | (with_reducible first | exact HB.out | apply below_alloc | apply pw_below_drewN | apply below_drew1 | refine below_set ?_ GE101.out | refine below_set ?_ GE103.out) | exact HB.out)⟩
      (try clear BK101)
      (try clear BK103)
      (try clear HB)
      generalize (((((((((((((((w12.setCell ⟨gb103, 0, none⟩ (.int .u8 a0_0)).setCell ⟨gb103, 1, none⟩ (.int .u8 a0_1)).setCell ⟨gb103, 2, none⟩ (.int .u8 a0_2)).setCell ⟨gb103, 3, none⟩ (.int .u8 a0_3)).setCell ⟨gb103, 4, none⟩ (.int .u8 a0_4)).setCell ⟨gb103, 5, none⟩ (.string a0_5)).setCell ⟨gb103, 6, none⟩ (.string a0_6)).setCell ⟨gb103, 7, none⟩ (.string a0_7)).setCell ⟨gb103, 8, none⟩ (.string a0_8)).setCell ⟨gb103, 9, none⟩ (.string a0_9)).setCell ⟨gb103, 10, none⟩ (.string a0_10)).setCell ⟨gb103, 11, none⟩ (.string a0_11)).setCell ⟨gb103, 12, none⟩ (.string a0_12)).setCell ⟨gb103, 13, none⟩ (.string a0_13)).setCell ⟨gb103, 14, none⟩ (.string a0_14)) = w15 at n0_ n1_ n2_ ⊢
      have BK101 := n0_
      have BK103 := n1_
      have HB := n2_
      clear n0_ n1_ n2_
      have n0_ := Aside0.mk (blk_drew BK101.out)
      have n1_ := Aside0.mk (blk_drew BK103.out)
      have n2_ := Aside0.mk (below_drew1 HB.out)
      clear BK101
      clear BK103
      clear HB
      have BK101 := n0_
      have BK103 := n1_
      have HB := n2_
      clear n0_ n1_ n2_
      refine start_ (n := 8) (S := fun w' => w'.cell? ⟨gb101, 0, none⟩ = some (.int .u8 a0_0) ∧ w'.cell? ⟨gb101, 1, none⟩ = some (.int .u8 a0_1) ∧ w'.cell? ⟨gb101, 2, none⟩ = some (.int .u8 a0_2) ∧ w'.cell? ⟨gb101, 3, none⟩ = some (.int .u8 a0_3) ∧ w'.cell? ⟨gb101, 4, none⟩ = some (.int .u8 a0_4) ∧ w'.cell? ⟨gb101, 5, none⟩ = some (.string a0_5) ∧ w'.cell? ⟨gb101, 6, none⟩ = some (.string a0_6) ∧ w'.cell? ⟨gb101, 7, none⟩ = some (.string a0_7) ∧ w'.cell? ⟨gb101, 8, none⟩ = some (.string a0_8) ∧ w'.cell? ⟨gb101, 9, none⟩ = some (.string a0_9) ∧ w'.cell? ⟨gb101, 10, none⟩ = some (.string a0_10) ∧ w'.cell? ⟨gb101, 11, none⟩ = some (.string a0_11) ∧ w'.cell? ⟨gb101, 12, none⟩ = some (.string a0_12) ∧ w'.cell? ⟨gb101, 13, none⟩ = some (.string a0_13) ∧ w'.cell? ⟨gb101, 14, none⟩ = some (.string a0_14)) (ds := []) #[false, false, false, false, false, false, false, false] (by kernel_rfl) rfl rfl ⟨(blk_cell BK101.out 0).trans rfl, (blk_cell BK101.out 1).trans rfl, (blk_cell BK101.out 2).trans rfl, (blk_cell BK101.out 3).trans rfl, (blk_cell BK101.out 4).trans rfl, (blk_cell BK101.out 5).trans rfl, (blk_cell BK101.out 6).trans rfl, (blk_cell BK101.out 7).trans rfl, (blk_cell BK101.out 8).trans rfl, (blk_cell BK101.out 9).trans rfl, (blk_cell BK101.out 10).trans rfl, (blk_cell BK101.out 11).trans rfl, (blk_cell BK101.out 12).trans rfl, (blk_cell BK101.out 13).trans rfl, (blk_cell BK101.out 14).trans rfl⟩ (fun hHeld => ?_); refine with_tabW ack_Build.tab4 ack_Build.bits4 (fun HT_ HW_ => ?_)
      generalize w15.drew = w16 at BK101 BK103 HB hHeld ⊢
      refine pure_ (i := 0) (N := some 13) (v := ?_) (a' := ?_) #[true, false, false, false, false, false, false, false] rfl rfl (any_of HT_.out (by kernel_rfl)) (fun _ _ _ h => h) (Or.inl ⟨by rfl, ?_⟩) ?_ ?_
      rotate_left
      · intro w'
        go_simp
        with_reducible rfl
      rotate_left
      · simp only [Act.put, List.setIfInBounds_toArray, List.set_cons_zero, List.set_cons_succ, i64_w, i32_w]
        rfl
      refine pure_ (i := 2) (N := some 15) (v := ?_) (a' := ?_) #[true, false, true, false, false, false, false, false] rfl rfl (any_of HT_.out (by kernel_rfl)) (fun _ _ _ h => h) (Or.inl ⟨by rfl, ?_⟩) ?_ ?_
      rotate_left
      · intro w'
        go_simp
        with_reducible rfl
      rotate_left
      · simp only [Act.put, List.setIfInBounds_toArray, List.set_cons_zero, List.set_cons_succ, i64_w, i32_w]
        rfl
      refine take_ (i := 1) (N := some 14) (v := ?_) (a' := ?_) #[true, true, true, false, false, false, false, false] rfl rfl (take_ofW HT_.out HW_.out (by kernel_rfl)) (fun _ _ _ h => h) (Or.inl ⟨by rfl, ?_⟩) hHeld ?_ ?_
      rotate_left
      · rintro w' ⟨s0, s1, s2, s3, s4, s5, s6, s7, s8, s9, s10, s11, s12, s13, s14⟩
        go_simp
        with_reducible rfl
      rotate_left
      · simp only [Act.put, List.setIfInBounds_toArray, List.set_cons_zero, List.set_cons_succ, i64_w, i32_w]
        rfl
      refine pure_ (i := 4) (N := some 17) (v := ?_) (a' := ?_) #[true, true, true, false, true, false, false, false] rfl rfl (any_of HT_.out (by kernel_rfl)) (fun _ _ _ h => h) (Or.inl ⟨by rfl, ?_⟩) ?_ ?_
      rotate_left
      · intro w'
        go_simp
        with_reducible rfl
      rotate_left
      · simp only [Act.put, List.setIfInBounds_toArray, List.set_cons_zero, List.set_cons_succ, i64_w, i32_w]
        rfl
      refine take_ (i := 3) (N := some 16) (v := ?_) (a' := ?_) #[true, true, true, true, true, false, false, false] rfl rfl (take_ofW HT_.out HW_.out (by kernel_rfl)) (fun _ _ _ h => h) (Or.inl ⟨by rfl, ?_⟩) hHeld ?_ ?_
      rotate_left
      · rintro w' ⟨s0, s1, s2, s3, s4, s5, s6, s7, s8, s9, s10, s11, s12, s13, s14⟩
        go_simp
        with_reducible rfl
      rotate_left
      · simp only [Act.put, List.setIfInBounds_toArray, List.set_cons_zero, List.set_cons_succ, i64_w, i32_w]
        rfl
      refine one_ (i := 5) (N := none) #[true, true, true, true, true, true, false, false] rfl rfl (one_of HT_.out (by kernel_rfl)) (by decide) (fun K hK => ?_)
      have hs17 : w16.cell? ⟨gb103, 5, none⟩ = some (.string a0_5) := (blk_cell BK103.out 5).trans rfl
      have hfs17 := blk_frozen BK103.out 5
      have hns17_0 := NB101_103.out
      have hms17_0 := NB103_101.out
      refine skip_ (w1 := ?_) (by rfl) rfl ?_ ?_
      rotate_left
      · go_simp
        rfl
      refine hK.out _ _ ⟨((cell_far (p := ⟨gb103, _, none⟩) NB101_103.out _).trans (hHeld.1)), ((cell_far (p := ⟨gb103, _, none⟩) NB101_103.out _).trans (hHeld.2.1)), ((cell_far (p := ⟨gb103, _, none⟩) NB101_103.out _).trans (hHeld.2.2.1)), ((cell_far (p := ⟨gb103, _, none⟩) NB101_103.out _).trans (hHeld.2.2.2.1)), ((cell_far (p := ⟨gb103, _, none⟩) NB101_103.out _).trans (hHeld.2.2.2.2.1)), ((cell_far (p := ⟨gb103, _, none⟩) NB101_103.out _).trans (hHeld.2.2.2.2.2.1)), ((cell_far (p := ⟨gb103, _, none⟩) NB101_103.out _).trans (hHeld.2.2.2.2.2.2.1)), ((cell_far (p := ⟨gb103, _, none⟩) NB101_103.out _).trans (hHeld.2.2.2.2.2.2.2.1)), ((cell_far (p := ⟨gb103, _, none⟩) NB101_103.out _).trans (hHeld.2.2.2.2.2.2.2.2.1)), ((cell_far (p := ⟨gb103, _, none⟩) NB101_103.out _).trans (hHeld.2.2.2.2.2.2.2.2.2.1)), ((cell_far (p := ⟨gb103, _, none⟩) NB101_103.out _).trans (hHeld.2.2.2.2.2.2.2.2.2.2.1)), ((cell_far (p := ⟨gb103, _, none⟩) NB101_103.out _).trans (hHeld.2.2.2.2.2.2.2.2.2.2.2.1)), ((cell_far (p := ⟨gb103, _, none⟩) NB101_103.out _).trans (hHeld.2.2.2.2.2.2.2.2.2.2.2.2.1)), ((cell_far (p := ⟨gb103, _, none⟩) NB101_103.out _).trans (hHeld.2.2.2.2.2.2.2.2.2.2.2.2.2.1)), ((cell_far (p := ⟨gb103, _, none⟩) NB101_103.out _).trans (hHeld.2.2.2.2.2.2.2.2.2.2.2.2.2.2))⟩ (fun hHeld => ?_)
      clear hK K
      refine pure_ (i := 6) (N := some 18) (v := ?_) (a' := ?_) #[true, true, true, true, true, true, true, false] rfl rfl (any_of HT_.out (by kernel_rfl)) (fun _ _ _ h => h) (Or.inl ⟨by rfl, ?_⟩) ?_ ?_
      rotate_left
      · intro w'
        go_simp
        with_reducible rfl
      rotate_left
      · simp only [Act.put, List.setIfInBounds_toArray, List.set_cons_zero, List.set_cons_succ, i64_w, i32_w]
        rfl
      refine one_ (i := 7) (N := none) #[true, true, true, true, true, true, true, true] rfl rfl (one_of HT_.out (by kernel_rfl)) (by decide) (fun K hK => ?_)
      have hs18 : w16.cell? ⟨gb103, 7, none⟩ = some (.string a0_7) := (blk_cell BK103.out 7).trans rfl
      have hfs18 := blk_frozen BK103.out 7
      have hns18_0 := NB101_103.out
      have hms18_0 := NB103_101.out
      refine skip_ (w1 := ?_) (by rfl) rfl ?_ ?_
      rotate_left
      · go_simp
        rfl
      refine hK.out _ _ ⟨((cell_far (p := ⟨gb103, _, none⟩) NB101_103.out _).trans (hHeld.1)), ((cell_far (p := ⟨gb103, _, none⟩) NB101_103.out _).trans (hHeld.2.1)), ((cell_far (p := ⟨gb103, _, none⟩) NB101_103.out _).trans (hHeld.2.2.1)), ((cell_far (p := ⟨gb103, _, none⟩) NB101_103.out _).trans (hHeld.2.2.2.1)), ((cell_far (p := ⟨gb103, _, none⟩) NB101_103.out _).trans (hHeld.2.2.2.2.1)), ((cell_far (p := ⟨gb103, _, none⟩) NB101_103.out _).trans (hHeld.2.2.2.2.2.1)), ((cell_far (p := ⟨gb103, _, none⟩) NB101_103.out _).trans (hHeld.2.2.2.2.2.2.1)), ((cell_far (p := ⟨gb103, _, none⟩) NB101_103.out _).trans (hHeld.2.2.2.2.2.2.2.1)), ((cell_far (p := ⟨gb103, _, none⟩) NB101_103.out _).trans (hHeld.2.2.2.2.2.2.2.2.1)), ((cell_far (p := ⟨gb103, _, none⟩) NB101_103.out _).trans (hHeld.2.2.2.2.2.2.2.2.2.1)), ((cell_far (p := ⟨gb103, _, none⟩) NB101_103.out _).trans (hHeld.2.2.2.2.2.2.2.2.2.2.1)), ((cell_far (p := ⟨gb103, _, none⟩) NB101_103.out _).trans (hHeld.2.2.2.2.2.2.2.2.2.2.2.1)), ((cell_far (p := ⟨gb103, _, none⟩) NB101_103.out _).trans (hHeld.2.2.2.2.2.2.2.2.2.2.2.2.1)), ((cell_far (p := ⟨gb103, _, none⟩) NB101_103.out _).trans (hHeld.2.2.2.2.2.2.2.2.2.2.2.2.2.1)), ((cell_far (p := ⟨gb103, _, none⟩) NB101_103.out _).trans (hHeld.2.2.2.2.2.2.2.2.2.2.2.2.2.2))⟩ (fun hHeld => ?_)
      clear hK K
      refine done_ (done_of HT_.out (by kernel_rfl)) ?_
      try go_wp2
      have n0_ : Aside0 (((w16.setCell ⟨gb103, 5, none⟩ (.string a0_7)).setCell ⟨gb103, 7, none⟩ (.string a0_5)).heap[gb101]? = some (.cells #[.int .u8 a0_0, .int .u8 a0_1, .int .u8 a0_2, .int .u8 a0_3, .int .u8 a0_4, .string a0_5, .string a0_6, .string a0_7, .string a0_8, .string a0_9, .string a0_10, .string a0_11, .string a0_12, .string a0_13, .string a0_14] 25 (0, 0))) := ⟨by (with_reducible repeat (first | refine blk_drewN ?_ _ | refine blk_drew ?_ | refine blk_alloc ?_ _)); refine blk_far ?_ NB101_103.out _; (with_reducible repeat (first | refine blk_drewN ?_ _ | refine blk_drew ?_ | refine blk_alloc ?_ _)); refine blk_far ?_ NB101_103.out _; (with_reducible repeat (first | refine blk_drewN ?_ _ | refine blk_drew ?_ | refine blk_alloc ?_ _)); exact BK101.out⟩
      have n1_ : Aside0 (((w16.setCell ⟨gb103, 5, none⟩ (.string a0_7)).setCell ⟨gb103, 7, none⟩ (.string a0_5)).heap[gb103]? = some (.cells #[.int .u8 a0_0, .int .u8 a0_1, .int .u8 a0_2, .int .u8 a0_3, .int .u8 a0_4, .string a0_7, .string a0_6, .string a0_5, .string a0_8, .string a0_9, .string a0_10, .string a0_11, .string a0_12, .string a0_13, .string a0_14] 25 (0, 0))) := ⟨by (with_reducible repeat (first | refine blk_drewN ?_ _ | refine blk_drew ?_ | refine blk_alloc ?_ _)); refine blk_put (cs := #[.int .u8 a0_0, .int .u8 a0_1, .int .u8 a0_2, .int .u8 a0_3, .int .u8 a0_4, .string a0_7, .string a0_6, .string a0_7, .string a0_8, .string a0_9, .string a0_10, .string a0_11, .string a0_12, .string a0_13, .string a0_14]) ?_ 7 _ rfl; (with_reducible repeat (first | refine blk_drewN ?_ _ | refine blk_drew ?_ | refine blk_alloc ?_ _)); refine blk_put (cs := #[.int .u8 a0_0, .int .u8 a0_1, .int .u8 a0_2, .int .u8 a0_3, .int .u8 a0_4, .string a0_5, .string a0_6, .string a0_7, .string a0_8, .string a0_9, .string a0_10, .string a0_11, .string a0_12, .string a0_13, .string a0_14]) ?_ 5 _ rfl; (with_reducible repeat (first | refine blk_drewN ?_ _ | refine blk_drew ?_ | refine blk_alloc ?_ _)); exact BK103.out⟩
      have n2_ : Aside0 (Below w.heap.size w ((w16.setCell ⟨gb103, 5, none⟩ (.string a0_7)).setCell ⟨gb103, 7, none⟩ (.string a0_5))) := ⟨by repeat (first | (with_reducible first | exact HB.out | apply below_alloc | apply pw_below_drewN | apply below_drew1 | refine below_set ?_ GE101.out | refine below_set ?_ GE103.out) | exact HB.out)⟩
      (try clear BK101)
      (try clear BK103)
      (try clear HB)
      generalize ((w16.setCell ⟨gb103, 5, none⟩ (.string a0_7)).setCell ⟨gb103, 7, none⟩ (.string a0_5)) = w19 at n0_ n1_ n2_ ⊢
      have BK101 := n0_
      have BK103 := n1_
      have HB := n2_
      clear n0_ n1_ n2_
      have n0_ := Aside0.mk (blk_drew BK101.out)
      have n1_ := Aside0.mk (blk_drew BK103.out)
      have n2_ := Aside0.mk (below_drew1 HB.out)
      clear BK101
      clear BK103
      clear HB
      have BK101 := n0_
      have BK103 := n1_
      have HB := n2_
      clear n0_ n1_ n2_
      refine start_ (n := 8) (S := fun w' => w'.cell? ⟨gb101, 0, none⟩ = some (.int .u8 a0_0) ∧ w'.cell? ⟨gb101, 1, none⟩ = some (.int .u8 a0_1) ∧ w'.cell? ⟨gb101, 2, none⟩ = some (.int .u8 a0_2) ∧ w'.cell? ⟨gb101, 3, none⟩ = some (.int .u8 a0_3) ∧ w'.cell? ⟨gb101, 4, none⟩ = some (.int .u8 a0_4) ∧ w'.cell? ⟨gb101, 5, none⟩ = some (.string a0_5) ∧ w'.cell? ⟨gb101, 6, none⟩ = some (.string a0_6) ∧ w'.cell? ⟨gb101, 7, none⟩ = some (.string a0_7) ∧ w'.cell? ⟨gb101, 8, none⟩ = some (.string a0_8) ∧ w'.cell? ⟨gb101, 9, none⟩ = some (.string a0_9) ∧ w'.cell? ⟨gb101, 10, none⟩ = some (.string a0_10) ∧ w'.cell? ⟨gb101, 11, none⟩ = some (.string a0_11) ∧ w'.cell? ⟨gb101, 12, none⟩ = some (.string a0_12) ∧ w'.cell? ⟨gb101, 13, none⟩ = some (.string a0_13) ∧ w'.cell? ⟨gb101, 14, none⟩ = some (.string a0_14)) (ds := []) #[false, false, false, false, false, false, false, false] (by kernel_rfl) rfl rfl ⟨(blk_cell BK101.out 0).trans rfl, (blk_cell BK101.out 1).trans rfl, (blk_cell BK101.out 2).trans rfl, (blk_cell BK101.out 3).trans rfl, (blk_cell BK101.out 4).trans rfl, (blk_cell BK101.out 5).trans rfl, (blk_cell BK101.out 6).trans rfl, (blk_cell BK101.out 7).trans rfl, (blk_cell BK101.out 8).trans rfl, (blk_cell BK101.out 9).trans rfl, (blk_cell BK101.out 10).trans rfl, (blk_cell BK101.out 11).trans rfl, (blk_cell BK101.out 12).trans rfl, (blk_cell BK101.out 13).trans rfl, (blk_cell BK101.out 14).trans rfl⟩ (fun hHeld => ?_); refine with_tabW ack_Build.tab5 ack_Build.bits5 (fun HT_ HW_ => ?_)
      generalize w19.drew = w20 at BK101 BK103 HB hHeld ⊢
      refine pure_ (i := 0) (N := some 19) (v := ?_) (a' := ?_) #[true, false, false, false, false, false, false, false] rfl rfl (any_of HT_.out (by kernel_rfl)) (fun _ _ _ h => h) (Or.inl ⟨by rfl, ?_⟩) ?_ ?_
      rotate_left
      · intro w'
        go_simp
        with_reducible rfl
      rotate_left
      · simp only [Act.put, List.setIfInBounds_toArray, List.set_cons_zero, List.set_cons_succ, i64_w, i32_w]
        rfl
      refine pure_ (i := 2) (N := some 21) (v := ?_) (a' := ?_) #[true, false, true, false, false, false, false, false] rfl rfl (any_of HT_.out (by kernel_rfl)) (fun _ _ _ h => h) (Or.inl ⟨by rfl, ?_⟩) ?_ ?_
      rotate_left
      · intro w'
        go_simp
        with_reducible rfl
      rotate_left
      · simp only [Act.put, List.setIfInBounds_toArray, List.set_cons_zero, List.set_cons_succ, i64_w, i32_w]
        rfl
      refine take_ (i := 1) (N := some 20) (v := ?_) (a' := ?_) #[true, true, true, false, false, false, false, false] rfl rfl (take_ofW HT_.out HW_.out (by kernel_rfl)) (fun _ _ _ h => h) (Or.inl ⟨by rfl, ?_⟩) hHeld ?_ ?_
      rotate_left
      · rintro w' ⟨s0, s1, s2, s3, s4, s5, s6, s7, s8, s9, s10, s11, s12, s13, s14⟩
        go_simp
        with_reducible rfl
      rotate_left
      · simp only [Act.put, List.setIfInBounds_toArray, List.set_cons_zero, List.set_cons_succ, i64_w, i32_w]
        rfl
      refine pure_ (i := 4) (N := some 23) (v := ?_) (a' := ?_) #[true, true, true, false, true, false, false, false] rfl rfl (any_of HT_.out (by kernel_rfl)) (fun _ _ _ h => h) (Or.inl ⟨by rfl, ?_⟩) ?_ ?_
      rotate_left
      · intro w'
        go_simp
        with_reducible rfl
      rotate_left
      · simp only [Act.put, List.setIfInBounds_toArray, List.set_cons_zero, List.set_cons_succ, i64_w, i32_w]
        rfl
      refine take_ (i := 3) (N := some 22) (v := ?_) (a' := ?_) #[true, true, true, true, true, false, false, false] rfl rfl (take_ofW HT_.out HW_.out (by kernel_rfl)) (fun _ _ _ h => h) (Or.inl ⟨by rfl, ?_⟩) hHeld ?_ ?_
      rotate_left
      · rintro w' ⟨s0, s1, s2, s3, s4, s5, s6, s7, s8, s9, s10, s11, s12, s13, s14⟩
        go_simp
        with_reducible rfl
      rotate_left
      · simp only [Act.put, List.setIfInBounds_toArray, List.set_cons_zero, List.set_cons_succ, i64_w, i32_w]
        rfl
      refine one_ (i := 5) (N := none) #[true, true, true, true, true, true, false, false] rfl rfl (one_of HT_.out (by kernel_rfl)) (by decide) (fun K hK => ?_)
      have hs21 : w20.cell? ⟨gb103, 6, none⟩ = some (.string a0_6) := (blk_cell BK103.out 6).trans rfl
      have hfs21 := blk_frozen BK103.out 6
      have hns21_0 := NB101_103.out
      have hms21_0 := NB103_101.out
      refine skip_ (w1 := ?_) (by rfl) rfl ?_ ?_
      rotate_left
      · go_simp
        rfl
      refine hK.out _ _ ⟨((cell_far (p := ⟨gb103, _, none⟩) NB101_103.out _).trans (hHeld.1)), ((cell_far (p := ⟨gb103, _, none⟩) NB101_103.out _).trans (hHeld.2.1)), ((cell_far (p := ⟨gb103, _, none⟩) NB101_103.out _).trans (hHeld.2.2.1)), ((cell_far (p := ⟨gb103, _, none⟩) NB101_103.out _).trans (hHeld.2.2.2.1)), ((cell_far (p := ⟨gb103, _, none⟩) NB101_103.out _).trans (hHeld.2.2.2.2.1)), ((cell_far (p := ⟨gb103, _, none⟩) NB101_103.out _).trans (hHeld.2.2.2.2.2.1)), ((cell_far (p := ⟨gb103, _, none⟩) NB101_103.out _).trans (hHeld.2.2.2.2.2.2.1)), ((cell_far (p := ⟨gb103, _, none⟩) NB101_103.out _).trans (hHeld.2.2.2.2.2.2.2.1)), ((cell_far (p := ⟨gb103, _, none⟩) NB101_103.out _).trans (hHeld.2.2.2.2.2.2.2.2.1)), ((cell_far (p := ⟨gb103, _, none⟩) NB101_103.out _).trans (hHeld.2.2.2.2.2.2.2.2.2.1)), ((cell_far (p := ⟨gb103, _, none⟩) NB101_103.out _).trans (hHeld.2.2.2.2.2.2.2.2.2.2.1)), ((cell_far (p := ⟨gb103, _, none⟩) NB101_103.out _).trans (hHeld.2.2.2.2.2.2.2.2.2.2.2.1)), ((cell_far (p := ⟨gb103, _, none⟩) NB101_103.out _).trans (hHeld.2.2.2.2.2.2.2.2.2.2.2.2.1)), ((cell_far (p := ⟨gb103, _, none⟩) NB101_103.out _).trans (hHeld.2.2.2.2.2.2.2.2.2.2.2.2.2.1)), ((cell_far (p := ⟨gb103, _, none⟩) NB101_103.out _).trans (hHeld.2.2.2.2.2.2.2.2.2.2.2.2.2.2))⟩ (fun hHeld => ?_)
      clear hK K
      refine pure_ (i := 6) (N := some 24) (v := ?_) (a' := ?_) #[true, true, true, true, true, true, true, false] rfl rfl (any_of HT_.out (by kernel_rfl)) (fun _ _ _ h => h) (Or.inl ⟨by rfl, ?_⟩) ?_ ?_
      rotate_left
      · intro w'
        go_simp
        with_reducible rfl
      rotate_left
      · simp only [Act.put, List.setIfInBounds_toArray, List.set_cons_zero, List.set_cons_succ, i64_w, i32_w]
        rfl
      refine one_ (i := 7) (N := none) #[true, true, true, true, true, true, true, true] rfl rfl (one_of HT_.out (by kernel_rfl)) (by decide) (fun K hK => ?_)
      have hs22 : w20.cell? ⟨gb103, 8, none⟩ = some (.string a0_8) := (blk_cell BK103.out 8).trans rfl
      have hfs22 := blk_frozen BK103.out 8
      have hns22_0 := NB101_103.out
      have hms22_0 := NB103_101.out
      refine skip_ (w1 := ?_) (by rfl) rfl ?_ ?_
      rotate_left
      · go_simp
        rfl
      refine hK.out _ _ ⟨((cell_far (p := ⟨gb103, _, none⟩) NB101_103.out _).trans (hHeld.1)), ((cell_far (p := ⟨gb103, _, none⟩) NB101_103.out _).trans (hHeld.2.1)), ((cell_far (p := ⟨gb103, _, none⟩) NB101_103.out _).trans (hHeld.2.2.1)), ((cell_far (p := ⟨gb103, _, none⟩) NB101_103.out _).trans (hHeld.2.2.2.1)), ((cell_far (p := ⟨gb103, _, none⟩) NB101_103.out _).trans (hHeld.2.2.2.2.1)), ((cell_far (p := ⟨gb103, _, none⟩) NB101_103.out _).trans (hHeld.2.2.2.2.2.1)), ((cell_far (p := ⟨gb103, _, none⟩) NB101_103.out _).trans (hHeld.2.2.2.2.2.2.1)), ((cell_far (p := ⟨gb103, _, none⟩) NB101_103.out _).trans (hHeld.2.2.2.2.2.2.2.1)), ((cell_far (p := ⟨gb103, _, none⟩) NB101_103.out _).trans (hHeld.2.2.2.2.2.2.2.2.1)), ((cell_far (p := ⟨gb103, _, none⟩) NB101_103.out _).trans (hHeld.2.2.2.2.2.2.2.2.2.1)), ((cell_far (p := ⟨gb103, _, none⟩) NB101_103.out _).trans (hHeld.2.2.2.2.2.2.2.2.2.2.1)), ((cell_far (p := ⟨gb103, _, none⟩) NB101_103.out _).trans (hHeld.2.2.2.2.2.2.2.2.2.2.2.1)), ((cell_far (p := ⟨gb103, _, none⟩) NB101_103.out _).trans (hHeld.2.2.2.2.2.2.2.2.2.2.2.2.1)), ((cell_far (p := ⟨gb103, _, none⟩) NB101_103.out _).trans (hHeld.2.2.2.2.2.2.2.2.2.2.2.2.2.1)), ((cell_far (p := ⟨gb103, _, none⟩) NB101_103.out _).trans (hHeld.2.2.2.2.2.2.2.2.2.2.2.2.2.2))⟩ (fun hHeld => ?_)
      clear hK K
      refine done_ (done_of HT_.out (by kernel_rfl)) ?_
      have hcz23_0 : w20.cell? ⟨gb103, 0, none⟩ = some (.int .u8 a0_0) := (blk_cell BK103.out 0).trans rfl
      have hcz23_1 : w20.cell? ⟨gb103, 1, none⟩ = some (.int .u8 a0_1) := (blk_cell BK103.out 1).trans rfl
      have hcz23_2 : w20.cell? ⟨gb103, 2, none⟩ = some (.int .u8 a0_2) := (blk_cell BK103.out 2).trans rfl
      have hcz23_3 : w20.cell? ⟨gb103, 3, none⟩ = some (.int .u8 a0_3) := (blk_cell BK103.out 3).trans rfl
      have hcz23_4 : w20.cell? ⟨gb103, 4, none⟩ = some (.int .u8 a0_4) := (blk_cell BK103.out 4).trans rfl
      have hcz23_5 : w20.cell? ⟨gb103, 5, none⟩ = some (.string a0_7) := (blk_cell BK103.out 5).trans rfl
      have hcz23_6 : w20.cell? ⟨gb103, 6, none⟩ = some (.string a0_6) := (blk_cell BK103.out 6).trans rfl
      have hcz23_7 : w20.cell? ⟨gb103, 7, none⟩ = some (.string a0_5) := (blk_cell BK103.out 7).trans rfl
      have hcz23_8 : w20.cell? ⟨gb103, 8, none⟩ = some (.string a0_8) := (blk_cell BK103.out 8).trans rfl
      have hcz23_9 : w20.cell? ⟨gb103, 9, none⟩ = some (.string a0_9) := (blk_cell BK103.out 9).trans rfl
      have hcz23_10 : w20.cell? ⟨gb103, 10, none⟩ = some (.string a0_10) := (blk_cell BK103.out 10).trans rfl
      have hcz23_11 : w20.cell? ⟨gb103, 11, none⟩ = some (.string a0_11) := (blk_cell BK103.out 11).trans rfl
      have hcz23_12 : w20.cell? ⟨gb103, 12, none⟩ = some (.string a0_12) := (blk_cell BK103.out 12).trans rfl
      have hcz23_13 : w20.cell? ⟨gb103, 13, none⟩ = some (.string a0_13) := (blk_cell BK103.out 13).trans rfl
      have hcz23_14 : w20.cell? ⟨gb103, 14, none⟩ = some (.string a0_14) := (blk_cell BK103.out 14).trans rfl
      have hfz23_0 := blk_frozen BK103.out 0
      have hfz23_1 := blk_frozen BK103.out 1
      have hfz23_2 := blk_frozen BK103.out 2
      have hfz23_3 := blk_frozen BK103.out 3
      have hfz23_4 := blk_frozen BK103.out 4
      have hfz23_5 := blk_frozen BK103.out 5
      have hfz23_6 := blk_frozen BK103.out 6
      have hfz23_7 := blk_frozen BK103.out 7
      have hfz23_8 := blk_frozen BK103.out 8
      have hfz23_9 := blk_frozen BK103.out 9
      have hfz23_10 := blk_frozen BK103.out 10
      have hfz23_11 := blk_frozen BK103.out 11
      have hfz23_12 := blk_frozen BK103.out 12
      have hfz23_13 := blk_frozen BK103.out 13
      have hfz23_14 := blk_frozen BK103.out 14
      try go_wp2_with (first | ((with_reducible refine gate_callee (f := 8) rfl ?_); refine goesL_ (some 29) rfl rfl Tryd.func8 (by kernel_rfl) rfl #[.agg #[.int .u8 a0_0, .int .u8 a0_1, .int .u8 a0_2, .int .u8 a0_3, .int .u8 a0_4, .string a0_7, .string a0_8, .string a0_5, .string a0_6, .string a0_9, .string (⟨#[]⟩ : ByteArray), .string (⟨#[65, 67, 75]⟩ : ByteArray), .string a0_12, .string a0_13, .string a0_14]] rfl (by (try simp only [List.map_toArray, List.map_cons, List.map_nil]); first | done | rfl | (simp only [List.length_drop, List.length_take]; rfl)) ?_; (with_reducible refine (msh_Write.calls a0_0 a0_1 a0_2 a0_3 a0_4 a0_7 a0_8 a0_5 a0_6 a0_9 (⟨#[]⟩ : ByteArray) (⟨#[65, 67, 75]⟩ : ByteArray) a0_12 a0_13 a0_14 t104 t105 _ ?side1 A5.out).mono ?_); (case side1 => exact GlobA.below HG.out (by repeat (first | (with_reducible first | exact HB.out | apply below_alloc | apply pw_below_drewN | apply below_drew1 | refine below_set ?_ GE101.out | refine below_set ?_ GE103.out) | exact HB.out))); rintro e w24 ⟨rfl, hb⟩; refine ⟨_, rfl, ?_⟩; have n0_ := Aside0.mk (blk_below (g := gb101) (o := .cells #[.int .u8 a0_0, .int .u8 a0_1, .int .u8 a0_2, .int .u8 a0_3, .int .u8 a0_4, .string a0_5, .string a0_6, .string a0_7, .string a0_8, .string a0_9, .string a0_10, .string a0_11, .string a0_12, .string a0_13, .string a0_14] 25 (0, 0)) (by (with_reducible repeat (first | refine blk_drewN ?_ _ | refine blk_drew ?_ | refine blk_alloc ?_ _)); refine blk_far ?_ NB101_103.out _; (with_reducible repeat (first | refine blk_drewN ?_ _ | refine blk_drew ?_ | refine blk_alloc ?_ _)); refine blk_far ?_ NB101_103.out _; (with_reducible repeat (first | refine blk_drewN ?_ _ | refine blk_drew ?_ | refine blk_alloc ?_ _)); refine blk_far ?_ NB101_103.out _; (with_reducible repeat (first | refine blk_drewN ?_ _ | refine blk_drew ?_ | refine blk_alloc ?_ _)); refine blk_far ?_ NB101_103.out _; (with_reducible repeat (first | refine blk_drewN ?_ _ | refine blk_drew ?_ | refine blk_alloc ?_ _)); exact BK101.out) hb); have n1_ := Aside0.mk (blk_below (g := gb103) (o := .cells #[.int .u8 a0_0, .int .u8 a0_1, .int .u8 a0_2, .int .u8 a0_3, .int .u8 a0_4, .string a0_7, .string a0_8, .string a0_5, .string a0_6, .string a0_9, .string (⟨#[]⟩ : ByteArray), .string (⟨#[65, 67, 75]⟩ : ByteArray), .string a0_12, .string a0_13, .string a0_14] 25 (0, 0)) (by (with_reducible repeat (first | refine blk_drewN ?_ _ | refine blk_drew ?_ | refine blk_alloc ?_ _)); refine blk_put (cs := #[.int .u8 a0_0, .int .u8 a0_1, .int .u8 a0_2, .int .u8 a0_3, .int .u8 a0_4, .string a0_7, .string a0_8, .string a0_5, .string a0_6, .string a0_9, .string (⟨#[]⟩ : ByteArray), .string a0_11, .string a0_12, .string a0_13, .string a0_14]) ?_ 11 _ rfl; (with_reducible repeat (first | refine blk_drewN ?_ _ | refine blk_drew ?_ | refine blk_alloc ?_ _)); refine blk_put (cs := #[.int .u8 a0_0, .int .u8 a0_1, .int .u8 a0_2, .int .u8 a0_3, .int .u8 a0_4, .string a0_7, .string a0_8, .string a0_5, .string a0_6, .string a0_9, .string a0_10, .string a0_11, .string a0_12, .string a0_13, .string a0_14]) ?_ 10 _ rfl; (with_reducible repeat (first | refine blk_drewN ?_ _ | refine blk_drew ?_ | refine blk_alloc ?_ _)); refine blk_put (cs := #[.int .u8 a0_0, .int .u8 a0_1, .int .u8 a0_2, .int .u8 a0_3, .int .u8 a0_4, .string a0_7, .string a0_8, .string a0_5, .string a0_8, .string a0_9, .string a0_10, .string a0_11, .string a0_12, .string a0_13, .string a0_14]) ?_ 8 _ rfl; (with_reducible repeat (first | refine blk_drewN ?_ _ | refine blk_drew ?_ | refine blk_alloc ?_ _)); refine blk_put (cs := #[.int .u8 a0_0, .int .u8 a0_1, .int .u8 a0_2, .int .u8 a0_3, .int .u8 a0_4, .string a0_7, .string a0_6, .string a0_5, .string a0_8, .string a0_9, .string a0_10, .string a0_11, .string a0_12, .string a0_13, .string a0_14]) ?_ 6 _ rfl; (with_reducible repeat (first | refine blk_drewN ?_ _ | refine blk_drew ?_ | refine blk_alloc ?_ _)); exact BK103.out) hb); have n2_ := Aside0.mk (below_step (by repeat (first | (with_reducible first | exact HB.out | apply below_alloc | apply pw_below_drewN | apply below_drew1 | refine below_set ?_ GE101.out | refine below_set ?_ GE103.out) | exact HB.out)) hb); clear BK101; clear BK103; clear HB; have BK101 := n0_; have BK103 := n1_; have HB := n2_; clear n0_ n1_ n2_; (try clear hb); (try clear hb2); (try clear hk); (try clear hi); have hcz25_0 : w24.cell? ⟨gb101, 0, none⟩ = some (.int .u8 a0_0) := (blk_cell BK101.out 0).trans rfl; have hcz25_1 : w24.cell? ⟨gb101, 1, none⟩ = some (.int .u8 a0_1) := (blk_cell BK101.out 1).trans rfl; have hcz25_2 : w24.cell? ⟨gb101, 2, none⟩ = some (.int .u8 a0_2) := (blk_cell BK101.out 2).trans rfl; have hcz25_3 : w24.cell? ⟨gb101, 3, none⟩ = some (.int .u8 a0_3) := (blk_cell BK101.out 3).trans rfl; have hcz25_4 : w24.cell? ⟨gb101, 4, none⟩ = some (.int .u8 a0_4) := (blk_cell BK101.out 4).trans rfl; have hcz25_5 : w24.cell? ⟨gb101, 5, none⟩ = some (.string a0_5) := (blk_cell BK101.out 5).trans rfl; have hcz25_6 : w24.cell? ⟨gb101, 6, none⟩ = some (.string a0_6) := (blk_cell BK101.out 6).trans rfl; have hcz25_7 : w24.cell? ⟨gb101, 7, none⟩ = some (.string a0_7) := (blk_cell BK101.out 7).trans rfl; have hcz25_8 : w24.cell? ⟨gb101, 8, none⟩ = some (.string a0_8) := (blk_cell BK101.out 8).trans rfl; have hcz25_9 : w24.cell? ⟨gb101, 9, none⟩ = some (.string a0_9) := (blk_cell BK101.out 9).trans rfl; have hcz25_10 : w24.cell? ⟨gb101, 10, none⟩ = some (.string a0_10) := (blk_cell BK101.out 10).trans rfl; have hcz25_11 : w24.cell? ⟨gb101, 11, none⟩ = some (.string a0_11) := (blk_cell BK101.out 11).trans rfl; have hcz25_12 : w24.cell? ⟨gb101, 12, none⟩ = some (.string a0_12) := (blk_cell BK101.out 12).trans rfl; have hcz25_13 : w24.cell? ⟨gb101, 13, none⟩ = some (.string a0_13) := (blk_cell BK101.out 13).trans rfl; have hcz25_14 : w24.cell? ⟨gb101, 14, none⟩ = some (.string a0_14) := (blk_cell BK101.out 14).trans rfl; have hfz25_0 := blk_frozen BK101.out 0; have hfz25_1 := blk_frozen BK101.out 1; have hfz25_2 := blk_frozen BK101.out 2; have hfz25_3 := blk_frozen BK101.out 3; have hfz25_4 := blk_frozen BK101.out 4; have hfz25_5 := blk_frozen BK101.out 5; have hfz25_6 := blk_frozen BK101.out 6; have hfz25_7 := blk_frozen BK101.out 7; have hfz25_8 := blk_frozen BK101.out 8; have hfz25_9 := blk_frozen BK101.out 9; have hfz25_10 := blk_frozen BK101.out 10; have hfz25_11 := blk_frozen BK101.out 11; have hfz25_12 := blk_frozen BK101.out 12; have hfz25_13 := blk_frozen BK101.out 13; have hfz25_14 := blk_frozen BK101.out 14) | ((with_reducible refine gate_dst (N := 41) rfl ?_); refine Kd.R_lit Kd.string _ 9 ?hg (N := 41) ?hd (xs := ([a1, a0_12] : List ByteArray)) (inner := [.string a1, .string a0_12]) (ok := fun _ => True) (okp := fun _ => True) ?hr ?hp (fun _ hk => hk) trivial (Below.refl _ _) (Nat.le_refl _) (by simp) ?_; (case hd => rfl); (case hg => rfl); (case hr => first | (go_simp; done) | (go_simp; rfl)); (case hp => exact (Reps.one (show Kd.M Kd.string _ _ _ a1 [.string a1] from rfl) (Reps.one (show Kd.M Kd.string _ _ _ a0_12 [.string a0_12] from rfl) (Reps.none _ _)))); intro v107 w26 ho27 hb hg_ hnew_; clear hg_ hnew_; (first | rw [← Ny106.out] at ho27 | (simp only [Int.reduceToNat] at ho27; rw [← Ny106.out] at ho27)); have n0_ := Aside0.mk (Kd.R_lower ho27 (below_size (by repeat (first | (with_reducible first | exact HB.out | apply below_alloc | apply pw_below_drewN | apply below_drew1 | refine below_set ?_ GE101.out | refine below_set ?_ GE103.out) | exact HB.out)))); have n1_ := Aside0.mk (blk_below (g := gb101) (o := .cells #[.int .u8 a0_0, .int .u8 a0_1, .int .u8 a0_2, .int .u8 a0_3, .int .u8 a0_4, .string a0_5, .string a0_6, .string a0_7, .string a0_8, .string a0_9, .string a0_10, .string a0_11, .string a0_12, .string a0_13, .string a0_14] 25 (0, 0)) (by (with_reducible repeat (first | refine blk_drewN ?_ _ | refine blk_drew ?_ | refine blk_alloc ?_ _)); exact BK101.out) hb); have n2_ := Aside0.mk (blk_below (g := gb103) (o := .cells #[.int .u8 a0_0, .int .u8 a0_1, .int .u8 a0_2, .int .u8 a0_3, .int .u8 a0_4, .string a0_7, .string a0_8, .string a0_5, .string a0_6, .string a0_9, .string (⟨#[]⟩ : ByteArray), .string (⟨#[65, 67, 75]⟩ : ByteArray), .string a0_12, .string a0_13, .string a0_14] 25 (0, 0)) (by (with_reducible repeat (first | refine blk_drewN ?_ _ | refine blk_drew ?_ | refine blk_alloc ?_ _)); exact BK103.out) hb); have n3_ := Aside0.mk (below_step (by repeat (first | (with_reducible first | exact HB.out | apply below_alloc | apply pw_below_drewN | apply below_drew1 | refine below_set ?_ GE101.out | refine below_set ?_ GE103.out) | exact HB.out)) hb); clear BK101; clear BK103; clear HB; have HO108 := n0_; have BK101 := n1_; have BK103 := n2_; have HB := n3_; clear n0_ n1_ n2_ n3_; clear hb ho27; obtain ⟨Ao28, co28, eo28⟩ := Kd.R_slice HO108.out; subst eo28) | ((with_reducible refine gate_callee (f := 22) rfl ?_); refine goesL_ (some 42) rfl rfl Tryd.func22 (by kernel_rfl) rfl #[.agg #[.int .u8 a0_0, .int .u8 a0_1, .int .u8 a0_2, .int .u8 a0_3, .int .u8 a0_4], .string (⟨#[77, 83, 65]⟩ : ByteArray), .slice Ao28 y106.length co28] rfl (by (try simp only [List.map_toArray, List.map_cons, List.map_nil]); first | done | rfl | (simp only [List.length_drop, List.length_take]; rfl)) ?_; (with_reducible refine (QMake.segment_Make.calls a0_0 a0_1 a0_2 a0_3 a0_4 (⟨#[77, 83, 65]⟩ : ByteArray) _ _ y106 t109 _ ?side1 ?side2 A7.out).mono ?_); (case side1 => repeat (first | exact (Kd.R_reads' HO108.out).2.2 | (with_reducible refine Kd.C_alloc ?_ _) | (with_reducible refine Kd.C_drewN ?_ _) | (with_reducible refine Kd.C_drew ?_))); (case side2 => exact (Kd.R_reads' HO108.out).2.1); rintro e w29 ⟨rfl, hb⟩; refine ⟨_, rfl, ?_⟩; have n0_ := Aside0.mk (Kd.R_below (by (with_reducible repeat (first | apply Kd.R_alloc | apply Kd.R_drewN | apply Kd.R_drew)); exact HO108.out) hb); have n1_ := Aside0.mk (blk_below (g := gb101) (o := .cells #[.int .u8 a0_0, .int .u8 a0_1, .int .u8 a0_2, .int .u8 a0_3, .int .u8 a0_4, .string a0_5, .string a0_6, .string a0_7, .string a0_8, .string a0_9, .string a0_10, .string a0_11, .string a0_12, .string a0_13, .string a0_14] 25 (0, 0)) (by (with_reducible repeat (first | refine blk_drewN ?_ _ | refine blk_drew ?_ | refine blk_alloc ?_ _)); exact BK101.out) hb); have n2_ := Aside0.mk (blk_below (g := gb103) (o := .cells #[.int .u8 a0_0, .int .u8 a0_1, .int .u8 a0_2, .int .u8 a0_3, .int .u8 a0_4, .string a0_7, .string a0_8, .string a0_5, .string a0_6, .string a0_9, .string (⟨#[]⟩ : ByteArray), .string (⟨#[65, 67, 75]⟩ : ByteArray), .string a0_12, .string a0_13, .string a0_14] 25 (0, 0)) (by (with_reducible repeat (first | refine blk_drewN ?_ _ | refine blk_drew ?_ | refine blk_alloc ?_ _)); exact BK103.out) hb); have n3_ := Aside0.mk (below_step (by repeat (first | (with_reducible first | exact HB.out | apply below_alloc | apply pw_below_drewN | apply below_drew1 | refine below_set ?_ GE101.out | refine below_set ?_ GE103.out) | exact HB.out)) hb); clear HO108; clear BK101; clear BK103; clear HB; have HO108 := n0_; have BK101 := n1_; have BK103 := n2_; have HB := n3_; clear n0_ n1_ n2_ n3_; (try clear hb); (try clear hb2); (try clear hk); (try clear hi)) | ((with_reducible refine gate_dst (N := 43) rfl ?_); refine Kd.R_lit Kd.string _ 9 ?hg (N := 43) ?hd (xs := ([t104, t109] : List ByteArray)) (inner := [.string t104, .string t109]) (ok := fun _ => True) (okp := fun _ => True) ?hr ?hp (fun _ hk => hk) trivial (Below.refl _ _) (Nat.le_refl _) (by simp) ?_; (case hd => rfl); (case hg => rfl); (case hr => first | (go_simp; done) | (go_simp; rfl)); (case hp => exact (Reps.one (show Kd.M Kd.string _ _ _ t104 [.string t104] from rfl) (Reps.one (show Kd.M Kd.string _ _ _ t109 [.string t109] from rfl) (Reps.none _ _)))); intro v111 w30 ho31 hb hg_ hnew_; clear hg_ hnew_; (first | rw [← Ny110.out] at ho31 | (simp only [Int.reduceToNat] at ho31; rw [← Ny110.out] at ho31)); have n0_ := Aside0.mk (Kd.R_elder' (by (with_reducible repeat (first | apply Kd.R_alloc | apply Kd.R_drewN | apply Kd.R_drew)); exact HO108.out) (Kd.R_base ho31) hb); have n1_ := Aside0.mk (Kd.R_lower (Kd.R_new' ho31 (Kd.R_lt (by (with_reducible repeat (first | apply Kd.R_alloc | apply Kd.R_drewN | apply Kd.R_drew)); exact HO108.out))) (below_size (by repeat (first | (with_reducible first | exact HB.out | apply below_alloc | apply pw_below_drewN | apply below_drew1 | refine below_set ?_ GE101.out | refine below_set ?_ GE103.out) | exact HB.out)))); have n2_ := Aside0.mk (blk_below (g := gb101) (o := .cells #[.int .u8 a0_0, .int .u8 a0_1, .int .u8 a0_2, .int .u8 a0_3, .int .u8 a0_4, .string a0_5, .string a0_6, .string a0_7, .string a0_8, .string a0_9, .string a0_10, .string a0_11, .string a0_12, .string a0_13, .string a0_14] 25 (0, 0)) (by (with_reducible repeat (first | refine blk_drewN ?_ _ | refine blk_drew ?_ | refine blk_alloc ?_ _)); exact BK101.out) hb); have n3_ := Aside0.mk (blk_below (g := gb103) (o := .cells #[.int .u8 a0_0, .int .u8 a0_1, .int .u8 a0_2, .int .u8 a0_3, .int .u8 a0_4, .string a0_7, .string a0_8, .string a0_5, .string a0_6, .string a0_9, .string (⟨#[]⟩ : ByteArray), .string (⟨#[65, 67, 75]⟩ : ByteArray), .string a0_12, .string a0_13, .string a0_14] 25 (0, 0)) (by (with_reducible repeat (first | refine blk_drewN ?_ _ | refine blk_drew ?_ | refine blk_alloc ?_ _)); exact BK103.out) hb); have n4_ := Aside0.mk (below_step (by repeat (first | (with_reducible first | exact HB.out | apply below_alloc | apply pw_below_drewN | apply below_drew1 | refine below_set ?_ GE101.out | refine below_set ?_ GE103.out) | exact HB.out)) hb); clear HO108; clear BK101; clear BK103; clear HB; have HO108 := n0_; have HO112 := n1_; have BK101 := n2_; have BK103 := n3_; have HB := n4_; clear n0_ n1_ n2_ n3_ n4_; clear hb ho31; obtain ⟨Ao32, co32, eo32⟩ := Kd.R_slice HO112.out; subst eo32) | ((with_reducible refine gate_callee (f := 61) rfl ?_); refine goesL_ (some 44) rfl rfl Tryd.func61 (by kernel_rfl) rfl #[.slice Ao32 y110.length co32] rfl (by (try simp only [List.map_toArray, List.map_cons, List.map_nil]); first | done | rfl | (simp only [List.length_drop, List.length_take]; rfl)) ?_; (with_reducible refine (QJoin.segment_Join.calls k _ _ y110 t113 _ ?side1 ?side2 A8.out).mono ?_); (case side1 => repeat (first | exact (Kd.R_reads' HO112.out).2.2 | (with_reducible refine Kd.C_alloc ?_ _) | (with_reducible refine Kd.C_drewN ?_ _) | (with_reducible refine Kd.C_drew ?_))); (case side2 => exact (Kd.R_reads' HO112.out).2.1); rintro e w33 ⟨v114, rfl, ho0, hb⟩; refine ⟨_, rfl, ?_⟩; have n0_ := Aside0.mk (Kd.R_below (by (with_reducible repeat (first | apply Kd.R_alloc | apply Kd.R_drewN | apply Kd.R_drew)); exact HO108.out) hb); have n1_ := Aside0.mk (Kd.R_below (by (with_reducible repeat (first | apply Kd.R_alloc | apply Kd.R_drewN | apply Kd.R_drew)); exact HO112.out) hb); have n2_ := Aside0.mk (Kd.R_lower ho0 (below_size (by repeat (first | (with_reducible first | exact HB.out | apply below_alloc | apply pw_below_drewN | apply below_drew1 | refine below_set ?_ GE101.out | refine below_set ?_ GE103.out) | exact HB.out)))); have n3_ := Aside0.mk (blk_below (g := gb101) (o := .cells #[.int .u8 a0_0, .int .u8 a0_1, .int .u8 a0_2, .int .u8 a0_3, .int .u8 a0_4, .string a0_5, .string a0_6, .string a0_7, .string a0_8, .string a0_9, .string a0_10, .string a0_11, .string a0_12, .string a0_13, .string a0_14] 25 (0, 0)) (by (with_reducible repeat (first | refine blk_drewN ?_ _ | refine blk_drew ?_ | refine blk_alloc ?_ _)); exact BK101.out) hb); have n4_ := Aside0.mk (blk_below (g := gb103) (o := .cells #[.int .u8 a0_0, .int .u8 a0_1, .int .u8 a0_2, .int .u8 a0_3, .int .u8 a0_4, .string a0_7, .string a0_8, .string a0_5, .string a0_6, .string a0_9, .string (⟨#[]⟩ : ByteArray), .string (⟨#[65, 67, 75]⟩ : ByteArray), .string a0_12, .string a0_13, .string a0_14] 25 (0, 0)) (by (with_reducible repeat (first | refine blk_drewN ?_ _ | refine blk_drew ?_ | refine blk_alloc ?_ _)); exact BK103.out) hb); have n5_ := Aside0.mk (below_step (by repeat (first | (with_reducible first | exact HB.out | apply below_alloc | apply pw_below_drewN | apply below_drew1 | refine below_set ?_ GE101.out | refine below_set ?_ GE103.out) | exact HB.out)) hb); clear HO108; clear HO112; clear BK101; clear BK103; clear HB; have HO108 := n0_; have HO112 := n1_; have HO115 := n2_; have BK101 := n3_; have BK103 := n4_; have HB := n5_; clear n0_ n1_ n2_ n3_ n4_ n5_; (try clear hb); (try clear hb2); (try clear hk); (try clear hi); (try clear ho0)))
      go_ret2
      exact ⟨_, by first | rfl | (simp [errW_none, errW_some] <;> rfl) | (simp [*, errW_none, errW_some] <;> rfl), by (with_reducible repeat (first | apply Kd.R_alloc | apply Kd.R_drewN | apply Kd.R_drew)); exact HO115.out, by repeat (first | (with_reducible first | exact HB.out | apply below_alloc | apply pw_below_drewN | apply below_drew1 | refine below_set ?_ GE101.out | refine below_set ?_ GE103.out) | exact HB.out)⟩
    · rw [if_neg c6] at H
      have c6b0 : (t105 == 0) = false := beq_eq_false_iff_ne.mpr c6
      have c6b1 : (t105 != 0) = true := bne_iff_ne.mpr c6
      simp only [Option.some.injEq, Prod.mk.injEq] at H
      obtain ⟨rfl, rfl⟩ := H
      go_enter Tryd.func30, Tryd.ntmps30
      try go_wp2_with (first | ((with_reducible refine gate_dst (N := 2) rfl ?_); refine box_event ?hg (N := 2) ?hd (cs := #[.int .u8 a0_0, .int .u8 a0_1, .int .u8 a0_2, .int .u8 a0_3, .int .u8 a0_4, .string a0_5, .string a0_6, .string a0_7, .string a0_8, .string a0_9, .string a0_10, .string a0_11, .string a0_12, .string a0_13, .string a0_14]) (t := 25) ?hr ?_; (case hd => rfl); (case hg => rfl); (case hr => first | (go_simp; done) | (go_simp; rfl)); intro gb101 hg w34 hbox hb; have n0_ := Aside0.mk (below_step (by repeat (first | (with_reducible first | exact HB.out | apply below_alloc | apply pw_below_drewN | apply below_drew1) | exact HB.out)) hb); have n1_ := Aside0.mk (hbox); have n2_ := Aside0.mk ((by rw [hg]; exact (below_size (by repeat (first | (with_reducible first | exact HB.out | apply below_alloc | apply pw_below_drewN | apply below_drew1) | exact HB.out))) : w.heap.size ≤ gb101)); have n3_ := Aside0.mk ((by rw [hg]; exact (below_size (by repeat (first | (with_reducible first | exact HB.out | apply below_alloc | apply pw_below_drewN | apply below_drew1) | exact HB.out))) : w.heap.size ≤ gb101)); clear HB; have HB := n0_; have BK101 := n1_; have GW101 := n2_; have GE101 := n3_; clear n0_ n1_ n2_ n3_; clear hb hbox hg) | ((with_reducible refine gate_callee (f := 38) rfl ?_); refine goesL_ (some 10) rfl rfl Tryd.func38 (by kernel_rfl) rfl #[.string a1] rfl (by (try simp only [List.map_toArray, List.map_cons, List.map_nil]); first | done | rfl | (simp only [List.length_drop, List.length_take]; rfl)) ?_; (with_reducible refine (ack_Known.calls a1 true _ ?side1 A3.out).mono ?_); (case side1 => exact GlobA.below HG.out (by repeat (first | (with_reducible first | exact HB.out | apply below_alloc | apply pw_below_drewN | apply below_drew1 | refine below_set ?_ GE101.out) | exact HB.out))); rintro e w35 ⟨rfl, hb⟩; refine ⟨_, rfl, ?_⟩; have n0_ := Aside0.mk (blk_below (g := gb101) (o := .cells #[.int .u8 a0_0, .int .u8 a0_1, .int .u8 a0_2, .int .u8 a0_3, .int .u8 a0_4, .string a0_5, .string a0_6, .string a0_7, .string a0_8, .string a0_9, .string a0_10, .string a0_11, .string a0_12, .string a0_13, .string a0_14] 25 (0, 0)) (by (with_reducible repeat (first | refine blk_drewN ?_ _ | refine blk_drew ?_ | refine blk_alloc ?_ _)); exact BK101.out) hb); have n1_ := Aside0.mk (below_step (by repeat (first | (with_reducible first | exact HB.out | apply below_alloc | apply pw_below_drewN | apply below_drew1 | refine below_set ?_ GE101.out) | exact HB.out)) hb); clear BK101; clear HB; have BK101 := n0_; have HB := n1_; clear n0_ n1_; (try clear hb); (try clear hb2); (try clear hk); (try clear hi); have hcz36_0 : w35.cell? ⟨gb101, 0, none⟩ = some (.int .u8 a0_0) := (blk_cell BK101.out 0).trans rfl; have hcz36_1 : w35.cell? ⟨gb101, 1, none⟩ = some (.int .u8 a0_1) := (blk_cell BK101.out 1).trans rfl; have hcz36_2 : w35.cell? ⟨gb101, 2, none⟩ = some (.int .u8 a0_2) := (blk_cell BK101.out 2).trans rfl; have hcz36_3 : w35.cell? ⟨gb101, 3, none⟩ = some (.int .u8 a0_3) := (blk_cell BK101.out 3).trans rfl; have hcz36_4 : w35.cell? ⟨gb101, 4, none⟩ = some (.int .u8 a0_4) := (blk_cell BK101.out 4).trans rfl; have hcz36_5 : w35.cell? ⟨gb101, 5, none⟩ = some (.string a0_5) := (blk_cell BK101.out 5).trans rfl; have hcz36_6 : w35.cell? ⟨gb101, 6, none⟩ = some (.string a0_6) := (blk_cell BK101.out 6).trans rfl; have hcz36_7 : w35.cell? ⟨gb101, 7, none⟩ = some (.string a0_7) := (blk_cell BK101.out 7).trans rfl; have hcz36_8 : w35.cell? ⟨gb101, 8, none⟩ = some (.string a0_8) := (blk_cell BK101.out 8).trans rfl; have hcz36_9 : w35.cell? ⟨gb101, 9, none⟩ = some (.string a0_9) := (blk_cell BK101.out 9).trans rfl; have hcz36_10 : w35.cell? ⟨gb101, 10, none⟩ = some (.string a0_10) := (blk_cell BK101.out 10).trans rfl; have hcz36_11 : w35.cell? ⟨gb101, 11, none⟩ = some (.string a0_11) := (blk_cell BK101.out 11).trans rfl; have hcz36_12 : w35.cell? ⟨gb101, 12, none⟩ = some (.string a0_12) := (blk_cell BK101.out 12).trans rfl; have hcz36_13 : w35.cell? ⟨gb101, 13, none⟩ = some (.string a0_13) := (blk_cell BK101.out 13).trans rfl; have hcz36_14 : w35.cell? ⟨gb101, 14, none⟩ = some (.string a0_14) := (blk_cell BK101.out 14).trans rfl; have hfz36_0 := blk_frozen BK101.out 0; have hfz36_1 := blk_frozen BK101.out 1; have hfz36_2 := blk_frozen BK101.out 2; have hfz36_3 := blk_frozen BK101.out 3; have hfz36_4 := blk_frozen BK101.out 4; have hfz36_5 := blk_frozen BK101.out 5; have hfz36_6 := blk_frozen BK101.out 6; have hfz36_7 := blk_frozen BK101.out 7; have hfz36_8 := blk_frozen BK101.out 8; have hfz36_9 := blk_frozen BK101.out 9; have hfz36_10 := blk_frozen BK101.out 10; have hfz36_11 := blk_frozen BK101.out 11; have hfz36_12 := blk_frozen BK101.out 12; have hfz36_13 := blk_frozen BK101.out 13; have hfz36_14 := blk_frozen BK101.out 14) | ((with_reducible refine gate_dst (N := 6) rfl ?_); refine box_event ?hg (N := 6) ?hd (cs := #[.int .u8 0, .int .u8 0, .int .u8 0, .int .u8 0, .int .u8 0, .string (⟨#[]⟩ : ByteArray), .string (⟨#[]⟩ : ByteArray), .string (⟨#[]⟩ : ByteArray), .string (⟨#[]⟩ : ByteArray), .string (⟨#[]⟩ : ByteArray), .string (⟨#[]⟩ : ByteArray), .string (⟨#[]⟩ : ByteArray), .string (⟨#[]⟩ : ByteArray), .string (⟨#[]⟩ : ByteArray), .string (⟨#[]⟩ : ByteArray)]) (t := 25) ?hr ?_; (case hd => rfl); (case hg => rfl); (case hr => first | (go_simp; done) | (go_simp; rfl)); intro gb103 hg w37 hbox hb; have n0_ := Aside0.mk (blk_below (g := gb101) (o := .cells #[.int .u8 a0_0, .int .u8 a0_1, .int .u8 a0_2, .int .u8 a0_3, .int .u8 a0_4, .string a0_5, .string a0_6, .string a0_7, .string a0_8, .string a0_9, .string a0_10, .string a0_11, .string a0_12, .string a0_13, .string a0_14] 25 (0, 0)) (by (with_reducible repeat (first | refine blk_drewN ?_ _ | refine blk_drew ?_ | refine blk_alloc ?_ _)); exact BK101.out) hb); have n1_ := Aside0.mk (below_step (by repeat (first | (with_reducible first | exact HB.out | apply below_alloc | apply pw_below_drewN | apply below_drew1 | refine below_set ?_ GE101.out) | exact HB.out)) hb); have n2_ := Aside0.mk (hbox); have n3_ := Aside0.mk ((by rw [hg]; exact (below_size (by repeat (first | (with_reducible first | exact HB.out | apply below_alloc | apply pw_below_drewN | apply below_drew1 | refine below_set ?_ GE101.out) | exact HB.out))) : w.heap.size ≤ gb103)); have n4_ := Aside0.mk ((by rw [hg]; exact (below_size (by repeat (first | (with_reducible first | exact HB.out | apply below_alloc | apply pw_below_drewN | apply below_drew1 | refine below_set ?_ GE101.out) | exact HB.out))) : w.heap.size ≤ gb103)); have n5_ := Aside0.mk ((by rw [hg]; exact Nat.ne_of_lt (blk_lt (g := gb101) (o := .cells #[.int .u8 a0_0, .int .u8 a0_1, .int .u8 a0_2, .int .u8 a0_3, .int .u8 a0_4, .string a0_5, .string a0_6, .string a0_7, .string a0_8, .string a0_9, .string a0_10, .string a0_11, .string a0_12, .string a0_13, .string a0_14] 25 (0, 0)) (by (with_reducible repeat (first | refine blk_drewN ?_ _ | refine blk_drew ?_ | refine blk_alloc ?_ _)); exact BK101.out)) : gb101 ≠ gb103)); have n6_ := Aside0.mk ((by rw [hg]; exact Nat.ne_of_gt (blk_lt (g := gb101) (o := .cells #[.int .u8 a0_0, .int .u8 a0_1, .int .u8 a0_2, .int .u8 a0_3, .int .u8 a0_4, .string a0_5, .string a0_6, .string a0_7, .string a0_8, .string a0_9, .string a0_10, .string a0_11, .string a0_12, .string a0_13, .string a0_14] 25 (0, 0)) (by (with_reducible repeat (first | refine blk_drewN ?_ _ | refine blk_drew ?_ | refine blk_alloc ?_ _)); exact BK101.out)) : gb103 ≠ gb101)); clear BK101; clear HB; have BK101 := n0_; have HB := n1_; have BK103 := n2_; have GW103 := n3_; have GE103 := n4_; have NB101_103 := n5_; have NB103_101 := n6_; clear n0_ n1_ n2_ n3_ n4_ n5_ n6_; clear hb hbox hg; have hnb38 := NB103_101.out; have hnc38 := NB101_103.out; have hcz39_0 : w37.cell? ⟨gb103, 0, none⟩ = some (.int .u8 0) := (blk_cell BK103.out 0).trans rfl; have hcz39_1 : w37.cell? ⟨gb103, 1, none⟩ = some (.int .u8 0) := (blk_cell BK103.out 1).trans rfl; have hcz39_2 : w37.cell? ⟨gb103, 2, none⟩ = some (.int .u8 0) := (blk_cell BK103.out 2).trans rfl; have hcz39_3 : w37.cell? ⟨gb103, 3, none⟩ = some (.int .u8 0) := (blk_cell BK103.out 3).trans rfl; have hcz39_4 : w37.cell? ⟨gb103, 4, none⟩ = some (.int .u8 0) := (blk_cell BK103.out 4).trans rfl; have hcz39_5 : w37.cell? ⟨gb103, 5, none⟩ = some (.string (⟨#[]⟩ : ByteArray)) := (blk_cell BK103.out 5).trans rfl; have hcz39_6 : w37.cell? ⟨gb103, 6, none⟩ = some (.string (⟨#[]⟩ : ByteArray)) := (blk_cell BK103.out 6).trans rfl; have hcz39_7 : w37.cell? ⟨gb103, 7, none⟩ = some (.string (⟨#[]⟩ : ByteArray)) := (blk_cell BK103.out 7).trans rfl; have hcz39_8 : w37.cell? ⟨gb103, 8, none⟩ = some (.string (⟨#[]⟩ : ByteArray)) := (blk_cell BK103.out 8).trans rfl; have hcz39_9 : w37.cell? ⟨gb103, 9, none⟩ = some (.string (⟨#[]⟩ : ByteArray)) := (blk_cell BK103.out 9).trans rfl; have hcz39_10 : w37.cell? ⟨gb103, 10, none⟩ = some (.string (⟨#[]⟩ : ByteArray)) := (blk_cell BK103.out 10).trans rfl; have hcz39_11 : w37.cell? ⟨gb103, 11, none⟩ = some (.string (⟨#[]⟩ : ByteArray)) := (blk_cell BK103.out 11).trans rfl; have hcz39_12 : w37.cell? ⟨gb103, 12, none⟩ = some (.string (⟨#[]⟩ : ByteArray)) := (blk_cell BK103.out 12).trans rfl; have hcz39_13 : w37.cell? ⟨gb103, 13, none⟩ = some (.string (⟨#[]⟩ : ByteArray)) := (blk_cell BK103.out 13).trans rfl; have hcz39_14 : w37.cell? ⟨gb103, 14, none⟩ = some (.string (⟨#[]⟩ : ByteArray)) := (blk_cell BK103.out 14).trans rfl; have hfz39_0 := blk_frozen BK103.out 0; have hfz39_1 := blk_frozen BK103.out 1; have hfz39_2 := blk_frozen BK103.out 2; have hfz39_3 := blk_frozen BK103.out 3; have hfz39_4 := blk_frozen BK103.out 4; have hfz39_5 := blk_frozen BK103.out 5; have hfz39_6 := blk_frozen BK103.out 6; have hfz39_7 := blk_frozen BK103.out 7; have hfz39_8 := blk_frozen BK103.out 8; have hfz39_9 := blk_frozen BK103.out 9; have hfz39_10 := blk_frozen BK103.out 10; have hfz39_11 := blk_frozen BK103.out 11; have hfz39_12 := blk_frozen BK103.out 12; have hfz39_13 := blk_frozen BK103.out 13; have hfz39_14 := blk_frozen BK103.out 14))
      have n0_ : Aside0 ((((((((((((((((w37.setCell ⟨gb103, 0, none⟩ (.int .u8 a0_0)).setCell ⟨gb103, 1, none⟩ (.int .u8 a0_1)).setCell ⟨gb103, 2, none⟩ (.int .u8 a0_2)).setCell ⟨gb103, 3, none⟩ (.int .u8 a0_3)).setCell ⟨gb103, 4, none⟩ (.int .u8 a0_4)).setCell ⟨gb103, 5, none⟩ (.string a0_5)).setCell ⟨gb103, 6, none⟩ (.string a0_6)).setCell ⟨gb103, 7, none⟩ (.string a0_7)).setCell ⟨gb103, 8, none⟩ (.string a0_8)).setCell ⟨gb103, 9, none⟩ (.string a0_9)).setCell ⟨gb103, 10, none⟩ (.string a0_10)).setCell ⟨gb103, 11, none⟩ (.string a0_11)).setCell ⟨gb103, 12, none⟩ (.string a0_12)).setCell ⟨gb103, 13, none⟩ (.string a0_13)).setCell ⟨gb103, 14, none⟩ (.string a0_14)).heap[gb101]? = some (.cells #[.int .u8 a0_0, .int .u8 a0_1, .int .u8 a0_2, .int .u8 a0_3, .int .u8 a0_4, .string a0_5, .string a0_6, .string a0_7, .string a0_8, .string a0_9, .string a0_10, .string a0_11, .string a0_12, .string a0_13, .string a0_14] 25 (0, 0))) := ⟨by (with_reducible repeat (first | refine blk_drewN ?_ _ | refine blk_drew ?_ | refine blk_alloc ?_ _)); refine blk_far ?_ NB101_103.out _; (with_reducible repeat (first | refine blk_drewN ?_ _ | refine blk_drew ?_ | refine blk_alloc ?_ _)); refine blk_far ?_ NB101_103.out _; (with_reducible repeat (first | refine blk_drewN ?_ _ | refine blk_drew ?_ | refine blk_alloc ?_ _)); refine blk_far ?_ NB101_103.out _; (with_reducible repeat (first | refine blk_drewN ?_ _ | refine blk_drew ?_ | refine blk_alloc ?_ _)); refine blk_far ?_ NB101_103.out _; (with_reducible repeat (first | refine blk_drewN ?_ _ | refine blk_drew ?_ | refine blk_alloc ?_ _)); refine blk_far ?_ NB101_103.out _; (with_reducible repeat (first | refine blk_drewN ?_ _ | refine blk_drew ?_ | refine blk_alloc ?_ _)); refine blk_far ?_ NB101_103.out _; (with_reducible repeat (first | refine blk_drewN ?_ _ | refine blk_drew ?_ | refine blk_alloc ?_ _)); refine blk_far ?_ NB101_103.out _; (with_reducible repeat (first | refine blk_drewN ?_ _ | refine blk_drew ?_ | refine blk_alloc ?_ _)); refine blk_far ?_ NB101_103.out _; (with_reducible repeat (first | refine blk_drewN ?_ _ | refine blk_drew ?_ | refine blk_alloc ?_ _)); refine blk_far ?_ NB101_103.out _; (with_reducible repeat (first | refine blk_drewN ?_ _ | refine blk_drew ?_ | refine blk_alloc ?_ _)); refine blk_far ?_ NB101_103.out _; (with_reducible repeat (first | refine blk_drewN ?_ _ | refine blk_drew ?_ | refine blk_alloc ?_ _)); refine blk_far ?_ NB101_103.out _; (with_reducible repeat (first | refine blk_drewN ?_ _ | refine blk_drew ?_ | refine blk_alloc ?_ _)); refine blk_far ?_ NB101_103.out _; (with_reducible repeat (first | refine blk_drewN ?_ _ | refine blk_drew ?_ | refine blk_alloc ?_ _)); refine blk_far ?_ NB101_103.out _; (with_reducible repeat (first | refine blk_drewN ?_ _ | refine blk_drew ?_ | refine blk_alloc ?_ _)); refine blk_far ?_ NB101_103.out _; (with_reducible repeat (first | refine blk_drewN ?_ _ | refine blk_drew ?_ | refine blk_alloc ?_ _)); refine blk_far ?_ NB101_103.out _; (with_reducible repeat (first | refine blk_drewN ?_ _ | refine blk_drew ?_ | refine blk_alloc ?_ _)); exact BK101.out⟩
      have n1_ : Aside0 ((((((((((((((((w37.setCell ⟨gb103, 0, none⟩ (.int .u8 a0_0)).setCell ⟨gb103, 1, none⟩ (.int .u8 a0_1)).setCell ⟨gb103, 2, none⟩ (.int .u8 a0_2)).setCell ⟨gb103, 3, none⟩ (.int .u8 a0_3)).setCell ⟨gb103, 4, none⟩ (.int .u8 a0_4)).setCell ⟨gb103, 5, none⟩ (.string a0_5)).setCell ⟨gb103, 6, none⟩ (.string a0_6)).setCell ⟨gb103, 7, none⟩ (.string a0_7)).setCell ⟨gb103, 8, none⟩ (.string a0_8)).setCell ⟨gb103, 9, none⟩ (.string a0_9)).setCell ⟨gb103, 10, none⟩ (.string a0_10)).setCell ⟨gb103, 11, none⟩ (.string a0_11)).setCell ⟨gb103, 12, none⟩ (.string a0_12)).setCell ⟨gb103, 13, none⟩ (.string a0_13)).setCell ⟨gb103, 14, none⟩ (.string a0_14)).heap[gb103]? = some (.cells #[.int .u8 a0_0, .int .u8 a0_1, .int .u8 a0_2, .int .u8 a0_3, .int .u8 a0_4, .string a0_5, .string a0_6, .string a0_7, .string a0_8, .string a0_9, .string a0_10, .string a0_11, .string a0_12, .string a0_13, .string a0_14] 25 (0, 0))) := ⟨by (with_reducible repeat (first | refine blk_drewN ?_ _ | refine blk_drew ?_ | refine blk_alloc ?_ _)); refine blk_put (cs := #[.int .u8 a0_0, .int .u8 a0_1, .int .u8 a0_2, .int .u8 a0_3, .int .u8 a0_4, .string a0_5, .string a0_6, .string a0_7, .string a0_8, .string a0_9, .string a0_10, .string a0_11, .string a0_12, .string a0_13, .string (⟨#[]⟩ : ByteArray)]) ?_ 14 _ rfl; (with_reducible repeat (first | refine blk_drewN ?_ _ | refine blk_drew ?_ | refine blk_alloc ?_ _)); refine blk_put (cs := #[.int .u8 a0_0, .int .u8 a0_1, .int .u8 a0_2, .int .u8 a0_3, .int .u8 a0_4, .string a0_5, .string a0_6, .string a0_7, .string a0_8, .string a0_9, .string a0_10, .string a0_11, .string a0_12, .string (⟨#[]⟩ : ByteArray), .string (⟨#[]⟩ : ByteArray)]) ?_ 13 _ rfl; (with_reducible repeat (first | refine blk_drewN ?_ _ | refine blk_drew ?_ | refine blk_alloc ?_ _)); refine blk_put (cs := #[.int .u8 a0_0, .int .u8 a0_1, .int .u8 a0_2, .int .u8 a0_3, .int .u8 a0_4, .string a0_5, .string a0_6, .string a0_7, .string a0_8, .string a0_9, .string a0_10, .string a0_11, .string (⟨#[]⟩ : ByteArray), .string (⟨#[]⟩ : ByteArray), .string (⟨#[]⟩ : ByteArray)]) ?_ 12 _ rfl; (with_reducible repeat (first | refine blk_drewN ?_ _ | refine blk_drew ?_ | refine blk_alloc ?_ _)); refine blk_put (cs := #[.int .u8 a0_0, .int .u8 a0_1, .int .u8 a0_2, .int .u8 a0_3, .int .u8 a0_4, .string a0_5, .string a0_6, .string a0_7, .string a0_8, .string a0_9, .string a0_10, .string (⟨#[]⟩ : ByteArray), .string (⟨#[]⟩ : ByteArray), .string (⟨#[]⟩ : ByteArray), .string (⟨#[]⟩ : ByteArray)]) ?_ 11 _ rfl; (with_reducible repeat (first | refine blk_drewN ?_ _ | refine blk_drew ?_ | refine blk_alloc ?_ _)); refine blk_put (cs := #[.int .u8 a0_0, .int .u8 a0_1, .int .u8 a0_2, .int .u8 a0_3, .int .u8 a0_4, .string a0_5, .string a0_6, .string a0_7, .string a0_8, .string a0_9, .string (⟨#[]⟩ : ByteArray), .string (⟨#[]⟩ : ByteArray), .string (⟨#[]⟩ : ByteArray), .string (⟨#[]⟩ : ByteArray), .string (⟨#[]⟩ : ByteArray)]) ?_ 10 _ rfl; (with_reducible repeat (first | refine blk_drewN ?_ _ | refine blk_drew ?_ | refine blk_alloc ?_ _)); refine blk_put (cs := #[.int .u8 a0_0, .int .u8 a0_1, .int .u8 a0_2, .int .u8 a0_3, .int .u8 a0_4, .string a0_5, .string a0_6, .string a0_7, .string a0_8, .string (⟨#[]⟩ : ByteArray), .string (⟨#[]⟩ : ByteArray), .string (⟨#[]⟩ : ByteArray), .string (⟨#[]⟩ : ByteArray), .string (⟨#[]⟩ : ByteArray), .string (⟨#[]⟩ : ByteArray)]) ?_ 9 _ rfl; (with_reducible repeat (first | refine blk_drewN ?_ _ | refine blk_drew ?_ | refine blk_alloc ?_ _)); refine blk_put (cs := #[.int .u8 a0_0, .int .u8 a0_1, .int .u8 a0_2, .int .u8 a0_3, .int .u8 a0_4, .string a0_5, .string a0_6, .string a0_7, .string (⟨#[]⟩ : ByteArray), .string (⟨#[]⟩ : ByteArray), .string (⟨#[]⟩ : ByteArray), .string (⟨#[]⟩ : ByteArray), .string (⟨#[]⟩ : ByteArray), .string (⟨#[]⟩ : ByteArray), .string (⟨#[]⟩ : ByteArray)]) ?_ 8 _ rfl; (with_reducible repeat (first | refine blk_drewN ?_ _ | refine blk_drew ?_ | refine blk_alloc ?_ _)); refine blk_put (cs := #[.int .u8 a0_0, .int .u8 a0_1, .int .u8 a0_2, .int .u8 a0_3, .int .u8 a0_4, .string a0_5, .string a0_6, .string (⟨#[]⟩ : ByteArray), .string (⟨#[]⟩ : ByteArray), .string (⟨#[]⟩ : ByteArray), .string (⟨#[]⟩ : ByteArray), .string (⟨#[]⟩ : ByteArray), .string (⟨#[]⟩ : ByteArray), .string (⟨#[]⟩ : ByteArray), .string (⟨#[]⟩ : ByteArray)]) ?_ 7 _ rfl; (with_reducible repeat (first | refine blk_drewN ?_ _ | refine blk_drew ?_ | refine blk_alloc ?_ _)); refine blk_put (cs := #[.int .u8 a0_0, .int .u8 a0_1, .int .u8 a0_2, .int .u8 a0_3, .int .u8 a0_4, .string a0_5, .string (⟨#[]⟩ : ByteArray), .string (⟨#[]⟩ : ByteArray), .string (⟨#[]⟩ : ByteArray), .string (⟨#[]⟩ : ByteArray), .string (⟨#[]⟩ : ByteArray), .string (⟨#[]⟩ : ByteArray), .string (⟨#[]⟩ : ByteArray), .string (⟨#[]⟩ : ByteArray), .string (⟨#[]⟩ : ByteArray)]) ?_ 6 _ rfl; (with_reducible repeat (first | refine blk_drewN ?_ _ | refine blk_drew ?_ | refine blk_alloc ?_ _)); refine blk_put (cs := #[.int .u8 a0_0, .int .u8 a0_1, .int .u8 a0_2, .int .u8 a0_3, .int .u8 a0_4, .string (⟨#[]⟩ : ByteArray), .string (⟨#[]⟩ : ByteArray), .string (⟨#[]⟩ : ByteArray), .string (⟨#[]⟩ : ByteArray), .string (⟨#[]⟩ : ByteArray), .string (⟨#[]⟩ : ByteArray), .string (⟨#[]⟩ : ByteArray), .string (⟨#[]⟩ : ByteArray), .string (⟨#[]⟩ : ByteArray), .string (⟨#[]⟩ : ByteArray)]) ?_ 5 _ rfl; (with_reducible repeat (first | refine blk_drewN ?_ _ | refine blk_drew ?_ | refine blk_alloc ?_ _)); refine blk_put (cs := #[.int .u8 a0_0, .int .u8 a0_1, .int .u8 a0_2, .int .u8 a0_3, .int .u8 0, .string (⟨#[]⟩ : ByteArray), .string (⟨#[]⟩ : ByteArray), .string (⟨#[]⟩ : ByteArray), .string (⟨#[]⟩ : ByteArray), .string (⟨#[]⟩ : ByteArray), .string (⟨#[]⟩ : ByteArray), .string (⟨#[]⟩ : ByteArray), .string (⟨#[]⟩ : ByteArray), .string (⟨#[]⟩ : ByteArray), .string (⟨#[]⟩ : ByteArray)]) ?_ 4 _ rfl; (with_reducible repeat (first | refine blk_drewN ?_ _ | refine blk_drew ?_ | refine blk_alloc ?_ _)); refine blk_put (cs := #[.int .u8 a0_0, .int .u8 a0_1, .int .u8 a0_2, .int .u8 0, .int .u8 0, .string (⟨#[]⟩ : ByteArray), .string (⟨#[]⟩ : ByteArray), .string (⟨#[]⟩ : ByteArray), .string (⟨#[]⟩ : ByteArray), .string (⟨#[]⟩ : ByteArray), .string (⟨#[]⟩ : ByteArray), .string (⟨#[]⟩ : ByteArray), .string (⟨#[]⟩ : ByteArray), .string (⟨#[]⟩ : ByteArray), .string (⟨#[]⟩ : ByteArray)]) ?_ 3 _ rfl; (with_reducible repeat (first | refine blk_drewN ?_ _ | refine blk_drew ?_ | refine blk_alloc ?_ _)); refine blk_put (cs := #[.int .u8 a0_0, .int .u8 a0_1, .int .u8 0, .int .u8 0, .int .u8 0, .string (⟨#[]⟩ : ByteArray), .string (⟨#[]⟩ : ByteArray), .string (⟨#[]⟩ : ByteArray), .string (⟨#[]⟩ : ByteArray), .string (⟨#[]⟩ : ByteArray), .string (⟨#[]⟩ : ByteArray), .string (⟨#[]⟩ : ByteArray), .string (⟨#[]⟩ : ByteArray), .string (⟨#[]⟩ : ByteArray), .string (⟨#[]⟩ : ByteArray)]) ?_ 2 _ rfl; (with_reducible repeat (first | refine blk_drewN ?_ _ | refine blk_drew ?_ | refine blk_alloc ?_ _)); refine blk_put (cs := #[.int .u8 a0_0, .int .u8 0, .int .u8 0, .int .u8 0, .int .u8 0, .string (⟨#[]⟩ : ByteArray), .string (⟨#[]⟩ : ByteArray), .string (⟨#[]⟩ : ByteArray), .string (⟨#[]⟩ : ByteArray), .string (⟨#[]⟩ : ByteArray), .string (⟨#[]⟩ : ByteArray), .string (⟨#[]⟩ : ByteArray), .string (⟨#[]⟩ : ByteArray), .string (⟨#[]⟩ : ByteArray), .string (⟨#[]⟩ : ByteArray)]) ?_ 1 _ rfl; (with_reducible repeat (first | refine blk_drewN ?_ _ | refine blk_drew ?_ | refine blk_alloc ?_ _)); refine blk_put (cs := #[.int .u8 0, .int .u8 0, .int .u8 0, .int .u8 0, .int .u8 0, .string (⟨#[]⟩ : ByteArray), .string (⟨#[]⟩ : ByteArray), .string (⟨#[]⟩ : ByteArray), .string (⟨#[]⟩ : ByteArray), .string (⟨#[]⟩ : ByteArray), .string (⟨#[]⟩ : ByteArray), .string (⟨#[]⟩ : ByteArray), .string (⟨#[]⟩ : ByteArray), .string (⟨#[]⟩ : ByteArray), .string (⟨#[]⟩ : ByteArray)]) ?_ 0 _ rfl; (with_reducible repeat (first | refine blk_drewN ?_ _ | refine blk_drew ?_ | refine blk_alloc ?_ _)); exact BK103.out⟩
      have n2_ : Aside0 (Below w.heap.size w (((((((((((((((w37.setCell ⟨gb103, 0, none⟩ (.int .u8 a0_0)).setCell ⟨gb103, 1, none⟩ (.int .u8 a0_1)).setCell ⟨gb103, 2, none⟩ (.int .u8 a0_2)).setCell ⟨gb103, 3, none⟩ (.int .u8 a0_3)).setCell ⟨gb103, 4, none⟩ (.int .u8 a0_4)).setCell ⟨gb103, 5, none⟩ (.string a0_5)).setCell ⟨gb103, 6, none⟩ (.string a0_6)).setCell ⟨gb103, 7, none⟩ (.string a0_7)).setCell ⟨gb103, 8, none⟩ (.string a0_8)).setCell ⟨gb103, 9, none⟩ (.string a0_9)).setCell ⟨gb103, 10, none⟩ (.string a0_10)).setCell ⟨gb103, 11, none⟩ (.string a0_11)).setCell ⟨gb103, 12, none⟩ (.string a0_12)).setCell ⟨gb103, 13, none⟩ (.string a0_13)).setCell ⟨gb103, 14, none⟩ (.string a0_14))) := ⟨by repeat (first | (with_reducible first | exact HB.out | apply below_alloc | apply pw_below_drewN | apply below_drew1 | refine below_set ?_ GE101.out | refine below_set ?_ GE103.out) | exact HB.out)⟩
      (try clear BK101)
      (try clear BK103)
      (try clear HB)
      generalize (((((((((((((((w37.setCell ⟨gb103, 0, none⟩ (.int .u8 a0_0)).setCell ⟨gb103, 1, none⟩ (.int .u8 a0_1)).setCell ⟨gb103, 2, none⟩ (.int .u8 a0_2)).setCell ⟨gb103, 3, none⟩ (.int .u8 a0_3)).setCell ⟨gb103, 4, none⟩ (.int .u8 a0_4)).setCell ⟨gb103, 5, none⟩ (.string a0_5)).setCell ⟨gb103, 6, none⟩ (.string a0_6)).setCell ⟨gb103, 7, none⟩ (.string a0_7)).setCell ⟨gb103, 8, none⟩ (.string a0_8)).setCell ⟨gb103, 9, none⟩ (.string a0_9)).setCell ⟨gb103, 10, none⟩ (.string a0_10)).setCell ⟨gb103, 11, none⟩ (.string a0_11)).setCell ⟨gb103, 12, none⟩ (.string a0_12)).setCell ⟨gb103, 13, none⟩ (.string a0_13)).setCell ⟨gb103, 14, none⟩ (.string a0_14)) = w40 at n0_ n1_ n2_ ⊢
      have BK101 := n0_
      have BK103 := n1_
      have HB := n2_
      clear n0_ n1_ n2_
      have n0_ := Aside0.mk (blk_drew BK101.out)
      have n1_ := Aside0.mk (blk_drew BK103.out)
      have n2_ := Aside0.mk (below_drew1 HB.out)
      clear BK101
      clear BK103
      clear HB
      have BK101 := n0_
      have BK103 := n1_
      have HB := n2_
      clear n0_ n1_ n2_
      refine start_ (n := 8) (S := fun w' => w'.cell? ⟨gb101, 0, none⟩ = some (.int .u8 a0_0) ∧ w'.cell? ⟨gb101, 1, none⟩ = some (.int .u8 a0_1) ∧ w'.cell? ⟨gb101, 2, none⟩ = some (.int .u8 a0_2) ∧ w'.cell? ⟨gb101, 3, none⟩ = some (.int .u8 a0_3) ∧ w'.cell? ⟨gb101, 4, none⟩ = some (.int .u8 a0_4) ∧ w'.cell? ⟨gb101, 5, none⟩ = some (.string a0_5) ∧ w'.cell? ⟨gb101, 6, none⟩ = some (.string a0_6) ∧ w'.cell? ⟨gb101, 7, none⟩ = some (.string a0_7) ∧ w'.cell? ⟨gb101, 8, none⟩ = some (.string a0_8) ∧ w'.cell? ⟨gb101, 9, none⟩ = some (.string a0_9) ∧ w'.cell? ⟨gb101, 10, none⟩ = some (.string a0_10) ∧ w'.cell? ⟨gb101, 11, none⟩ = some (.string a0_11) ∧ w'.cell? ⟨gb101, 12, none⟩ = some (.string a0_12) ∧ w'.cell? ⟨gb101, 13, none⟩ = some (.string a0_13) ∧ w'.cell? ⟨gb101, 14, none⟩ = some (.string a0_14)) (ds := []) #[false, false, false, false, false, false, false, false] (by kernel_rfl) rfl rfl ⟨(blk_cell BK101.out 0).trans rfl, (blk_cell BK101.out 1).trans rfl, (blk_cell BK101.out 2).trans rfl, (blk_cell BK101.out 3).trans rfl, (blk_cell BK101.out 4).trans rfl, (blk_cell BK101.out 5).trans rfl, (blk_cell BK101.out 6).trans rfl, (blk_cell BK101.out 7).trans rfl, (blk_cell BK101.out 8).trans rfl, (blk_cell BK101.out 9).trans rfl, (blk_cell BK101.out 10).trans rfl, (blk_cell BK101.out 11).trans rfl, (blk_cell BK101.out 12).trans rfl, (blk_cell BK101.out 13).trans rfl, (blk_cell BK101.out 14).trans rfl⟩ (fun hHeld => ?_); refine with_tabW ack_Build.tab4 ack_Build.bits4 (fun HT_ HW_ => ?_)
      generalize w40.drew = w41 at BK101 BK103 HB hHeld ⊢
      refine pure_ (i := 0) (N := some 13) (v := ?_) (a' := ?_) #[true, false, false, false, false, false, false, false] rfl rfl (any_of HT_.out (by kernel_rfl)) (fun _ _ _ h => h) (Or.inl ⟨by rfl, ?_⟩) ?_ ?_
      rotate_left
      · intro w'
        go_simp
        with_reducible rfl
      rotate_left
      · simp only [Act.put, List.setIfInBounds_toArray, List.set_cons_zero, List.set_cons_succ, i64_w, i32_w]
        rfl
      refine pure_ (i := 2) (N := some 15) (v := ?_) (a' := ?_) #[true, false, true, false, false, false, false, false] rfl rfl (any_of HT_.out (by kernel_rfl)) (fun _ _ _ h => h) (Or.inl ⟨by rfl, ?_⟩) ?_ ?_
      rotate_left
      · intro w'
        go_simp
        with_reducible rfl
      rotate_left
      · simp only [Act.put, List.setIfInBounds_toArray, List.set_cons_zero, List.set_cons_succ, i64_w, i32_w]
        rfl
      refine take_ (i := 1) (N := some 14) (v := ?_) (a' := ?_) #[true, true, true, false, false, false, false, false] rfl rfl (take_ofW HT_.out HW_.out (by kernel_rfl)) (fun _ _ _ h => h) (Or.inl ⟨by rfl, ?_⟩) hHeld ?_ ?_
      rotate_left
      · rintro w' ⟨s0, s1, s2, s3, s4, s5, s6, s7, s8, s9, s10, s11, s12, s13, s14⟩
        go_simp
        with_reducible rfl
      rotate_left
      · simp only [Act.put, List.setIfInBounds_toArray, List.set_cons_zero, List.set_cons_succ, i64_w, i32_w]
        rfl
      refine pure_ (i := 4) (N := some 17) (v := ?_) (a' := ?_) #[true, true, true, false, true, false, false, false] rfl rfl (any_of HT_.out (by kernel_rfl)) (fun _ _ _ h => h) (Or.inl ⟨by rfl, ?_⟩) ?_ ?_
      rotate_left
      · intro w'
        go_simp
        with_reducible rfl
      rotate_left
      · simp only [Act.put, List.setIfInBounds_toArray, List.set_cons_zero, List.set_cons_succ, i64_w, i32_w]
        rfl
      refine take_ (i := 3) (N := some 16) (v := ?_) (a' := ?_) #[true, true, true, true, true, false, false, false] rfl rfl (take_ofW HT_.out HW_.out (by kernel_rfl)) (fun _ _ _ h => h) (Or.inl ⟨by rfl, ?_⟩) hHeld ?_ ?_
      rotate_left
      · rintro w' ⟨s0, s1, s2, s3, s4, s5, s6, s7, s8, s9, s10, s11, s12, s13, s14⟩
        go_simp
        with_reducible rfl
      rotate_left
      · simp only [Act.put, List.setIfInBounds_toArray, List.set_cons_zero, List.set_cons_succ, i64_w, i32_w]
        rfl
      refine one_ (i := 5) (N := none) #[true, true, true, true, true, true, false, false] rfl rfl (one_of HT_.out (by kernel_rfl)) (by decide) (fun K hK => ?_)
      have hs42 : w41.cell? ⟨gb103, 5, none⟩ = some (.string a0_5) := (blk_cell BK103.out 5).trans rfl
      have hfs42 := blk_frozen BK103.out 5
      have hns42_0 := NB101_103.out
      have hms42_0 := NB103_101.out
      refine skip_ (w1 := ?_) (by rfl) rfl ?_ ?_
      rotate_left
      · go_simp
        rfl
      refine hK.out _ _ ⟨((cell_far (p := ⟨gb103, _, none⟩) NB101_103.out _).trans (hHeld.1)), ((cell_far (p := ⟨gb103, _, none⟩) NB101_103.out _).trans (hHeld.2.1)), ((cell_far (p := ⟨gb103, _, none⟩) NB101_103.out _).trans (hHeld.2.2.1)), ((cell_far (p := ⟨gb103, _, none⟩) NB101_103.out _).trans (hHeld.2.2.2.1)), ((cell_far (p := ⟨gb103, _, none⟩) NB101_103.out _).trans (hHeld.2.2.2.2.1)), ((cell_far (p := ⟨gb103, _, none⟩) NB101_103.out _).trans (hHeld.2.2.2.2.2.1)), ((cell_far (p := ⟨gb103, _, none⟩) NB101_103.out _).trans (hHeld.2.2.2.2.2.2.1)), ((cell_far (p := ⟨gb103, _, none⟩) NB101_103.out _).trans (hHeld.2.2.2.2.2.2.2.1)), ((cell_far (p := ⟨gb103, _, none⟩) NB101_103.out _).trans (hHeld.2.2.2.2.2.2.2.2.1)), ((cell_far (p := ⟨gb103, _, none⟩) NB101_103.out _).trans (hHeld.2.2.2.2.2.2.2.2.2.1)), ((cell_far (p := ⟨gb103, _, none⟩) NB101_103.out _).trans (hHeld.2.2.2.2.2.2.2.2.2.2.1)), ((cell_far (p := ⟨gb103, _, none⟩) NB101_103.out _).trans (hHeld.2.2.2.2.2.2.2.2.2.2.2.1)), ((cell_far (p := ⟨gb103, _, none⟩) NB101_103.out _).trans (hHeld.2.2.2.2.2.2.2.2.2.2.2.2.1)), ((cell_far (p := ⟨gb103, _, none⟩) NB101_103.out _).trans (hHeld.2.2.2.2.2.2.2.2.2.2.2.2.2.1)), ((cell_far (p := ⟨gb103, _, none⟩) NB101_103.out _).trans (hHeld.2.2.2.2.2.2.2.2.2.2.2.2.2.2))⟩ (fun hHeld => ?_)
      clear hK K
      refine pure_ (i := 6) (N := some 18) (v := ?_) (a' := ?_) #[true, true, true, true, true, true, true, false] rfl rfl (any_of HT_.out (by kernel_rfl)) (fun _ _ _ h => h) (Or.inl ⟨by rfl, ?_⟩) ?_ ?_
      rotate_left
      · intro w'
        go_simp
        with_reducible rfl
      rotate_left
      · simp only [Act.put, List.setIfInBounds_toArray, List.set_cons_zero, List.set_cons_succ, i64_w, i32_w]
        rfl
      refine one_ (i := 7) (N := none) #[true, true, true, true, true, true, true, true] rfl rfl (one_of HT_.out (by kernel_rfl)) (by decide) (fun K hK => ?_)
      have hs43 : w41.cell? ⟨gb103, 7, none⟩ = some (.string a0_7) := (blk_cell BK103.out 7).trans rfl
      have hfs43 := blk_frozen BK103.out 7
      have hns43_0 := NB101_103.out
      have hms43_0 := NB103_101.out
      refine skip_ (w1 := ?_) (by rfl) rfl ?_ ?_
      rotate_left
      · go_simp
        rfl
      refine hK.out _ _ ⟨((cell_far (p := ⟨gb103, _, none⟩) NB101_103.out _).trans (hHeld.1)), ((cell_far (p := ⟨gb103, _, none⟩) NB101_103.out _).trans (hHeld.2.1)), ((cell_far (p := ⟨gb103, _, none⟩) NB101_103.out _).trans (hHeld.2.2.1)), ((cell_far (p := ⟨gb103, _, none⟩) NB101_103.out _).trans (hHeld.2.2.2.1)), ((cell_far (p := ⟨gb103, _, none⟩) NB101_103.out _).trans (hHeld.2.2.2.2.1)), ((cell_far (p := ⟨gb103, _, none⟩) NB101_103.out _).trans (hHeld.2.2.2.2.2.1)), ((cell_far (p := ⟨gb103, _, none⟩) NB101_103.out _).trans (hHeld.2.2.2.2.2.2.1)), ((cell_far (p := ⟨gb103, _, none⟩) NB101_103.out _).trans (hHeld.2.2.2.2.2.2.2.1)), ((cell_far (p := ⟨gb103, _, none⟩) NB101_103.out _).trans (hHeld.2.2.2.2.2.2.2.2.1)), ((cell_far (p := ⟨gb103, _, none⟩) NB101_103.out _).trans (hHeld.2.2.2.2.2.2.2.2.2.1)), ((cell_far (p := ⟨gb103, _, none⟩) NB101_103.out _).trans (hHeld.2.2.2.2.2.2.2.2.2.2.1)), ((cell_far (p := ⟨gb103, _, none⟩) NB101_103.out _).trans (hHeld.2.2.2.2.2.2.2.2.2.2.2.1)), ((cell_far (p := ⟨gb103, _, none⟩) NB101_103.out _).trans (hHeld.2.2.2.2.2.2.2.2.2.2.2.2.1)), ((cell_far (p := ⟨gb103, _, none⟩) NB101_103.out _).trans (hHeld.2.2.2.2.2.2.2.2.2.2.2.2.2.1)), ((cell_far (p := ⟨gb103, _, none⟩) NB101_103.out _).trans (hHeld.2.2.2.2.2.2.2.2.2.2.2.2.2.2))⟩ (fun hHeld => ?_)
      clear hK K
      refine done_ (done_of HT_.out (by kernel_rfl)) ?_
      try go_wp2
      have n0_ : Aside0 (((w41.setCell ⟨gb103, 5, none⟩ (.string a0_7)).setCell ⟨gb103, 7, none⟩ (.string a0_5)).heap[gb101]? = some (.cells #[.int .u8 a0_0, .int .u8 a0_1, .int .u8 a0_2, .int .u8 a0_3, .int .u8 a0_4, .string a0_5, .string a0_6, .string a0_7, .string a0_8, .string a0_9, .string a0_10, .string a0_11, .string a0_12, .string a0_13, .string a0_14] 25 (0, 0))) := ⟨by (with_reducible repeat (first | refine blk_drewN ?_ _ | refine blk_drew ?_ | refine blk_alloc ?_ _)); refine blk_far ?_ NB101_103.out _; (with_reducible repeat (first | refine blk_drewN ?_ _ | refine blk_drew ?_ | refine blk_alloc ?_ _)); refine blk_far ?_ NB101_103.out _; (with_reducible repeat (first | refine blk_drewN ?_ _ | refine blk_drew ?_ | refine blk_alloc ?_ _)); exact BK101.out⟩
      have n1_ : Aside0 (((w41.setCell ⟨gb103, 5, none⟩ (.string a0_7)).setCell ⟨gb103, 7, none⟩ (.string a0_5)).heap[gb103]? = some (.cells #[.int .u8 a0_0, .int .u8 a0_1, .int .u8 a0_2, .int .u8 a0_3, .int .u8 a0_4, .string a0_7, .string a0_6, .string a0_5, .string a0_8, .string a0_9, .string a0_10, .string a0_11, .string a0_12, .string a0_13, .string a0_14] 25 (0, 0))) := ⟨by (with_reducible repeat (first | refine blk_drewN ?_ _ | refine blk_drew ?_ | refine blk_alloc ?_ _)); refine blk_put (cs := #[.int .u8 a0_0, .int .u8 a0_1, .int .u8 a0_2, .int .u8 a0_3, .int .u8 a0_4, .string a0_7, .string a0_6, .string a0_7, .string a0_8, .string a0_9, .string a0_10, .string a0_11, .string a0_12, .string a0_13, .string a0_14]) ?_ 7 _ rfl; (with_reducible repeat (first | refine blk_drewN ?_ _ | refine blk_drew ?_ | refine blk_alloc ?_ _)); refine blk_put (cs := #[.int .u8 a0_0, .int .u8 a0_1, .int .u8 a0_2, .int .u8 a0_3, .int .u8 a0_4, .string a0_5, .string a0_6, .string a0_7, .string a0_8, .string a0_9, .string a0_10, .string a0_11, .string a0_12, .string a0_13, .string a0_14]) ?_ 5 _ rfl; (with_reducible repeat (first | refine blk_drewN ?_ _ | refine blk_drew ?_ | refine blk_alloc ?_ _)); exact BK103.out⟩
      have n2_ : Aside0 (Below w.heap.size w ((w41.setCell ⟨gb103, 5, none⟩ (.string a0_7)).setCell ⟨gb103, 7, none⟩ (.string a0_5))) := ⟨by repeat (first | (with_reducible first | exact HB.out | apply below_alloc | apply pw_below_drewN | apply below_drew1 | refine below_set ?_ GE101.out | refine below_set ?_ GE103.out) | exact HB.out)⟩
      (try clear BK101)
      (try clear BK103)
      (try clear HB)
      generalize ((w41.setCell ⟨gb103, 5, none⟩ (.string a0_7)).setCell ⟨gb103, 7, none⟩ (.string a0_5)) = w44 at n0_ n1_ n2_ ⊢
      have BK101 := n0_
      have BK103 := n1_
      have HB := n2_
      clear n0_ n1_ n2_
      have n0_ := Aside0.mk (blk_drew BK101.out)
      have n1_ := Aside0.mk (blk_drew BK103.out)
      have n2_ := Aside0.mk (below_drew1 HB.out)
      clear BK101
      clear BK103
      clear HB
      have BK101 := n0_
      have BK103 := n1_
      have HB := n2_
      clear n0_ n1_ n2_
      refine start_ (n := 8) (S := fun w' => w'.cell? ⟨gb101, 0, none⟩ = some (.int .u8 a0_0) ∧ w'.cell? ⟨gb101, 1, none⟩ = some (.int .u8 a0_1) ∧ w'.cell? ⟨gb101, 2, none⟩ = some (.int .u8 a0_2) ∧ w'.cell? ⟨gb101, 3, none⟩ = some (.int .u8 a0_3) ∧ w'.cell? ⟨gb101, 4, none⟩ = some (.int .u8 a0_4) ∧ w'.cell? ⟨gb101, 5, none⟩ = some (.string a0_5) ∧ w'.cell? ⟨gb101, 6, none⟩ = some (.string a0_6) ∧ w'.cell? ⟨gb101, 7, none⟩ = some (.string a0_7) ∧ w'.cell? ⟨gb101, 8, none⟩ = some (.string a0_8) ∧ w'.cell? ⟨gb101, 9, none⟩ = some (.string a0_9) ∧ w'.cell? ⟨gb101, 10, none⟩ = some (.string a0_10) ∧ w'.cell? ⟨gb101, 11, none⟩ = some (.string a0_11) ∧ w'.cell? ⟨gb101, 12, none⟩ = some (.string a0_12) ∧ w'.cell? ⟨gb101, 13, none⟩ = some (.string a0_13) ∧ w'.cell? ⟨gb101, 14, none⟩ = some (.string a0_14)) (ds := []) #[false, false, false, false, false, false, false, false] (by kernel_rfl) rfl rfl ⟨(blk_cell BK101.out 0).trans rfl, (blk_cell BK101.out 1).trans rfl, (blk_cell BK101.out 2).trans rfl, (blk_cell BK101.out 3).trans rfl, (blk_cell BK101.out 4).trans rfl, (blk_cell BK101.out 5).trans rfl, (blk_cell BK101.out 6).trans rfl, (blk_cell BK101.out 7).trans rfl, (blk_cell BK101.out 8).trans rfl, (blk_cell BK101.out 9).trans rfl, (blk_cell BK101.out 10).trans rfl, (blk_cell BK101.out 11).trans rfl, (blk_cell BK101.out 12).trans rfl, (blk_cell BK101.out 13).trans rfl, (blk_cell BK101.out 14).trans rfl⟩ (fun hHeld => ?_); refine with_tabW ack_Build.tab5 ack_Build.bits5 (fun HT_ HW_ => ?_)
      generalize w44.drew = w45 at BK101 BK103 HB hHeld ⊢
      refine pure_ (i := 0) (N := some 19) (v := ?_) (a' := ?_) #[true, false, false, false, false, false, false, false] rfl rfl (any_of HT_.out (by kernel_rfl)) (fun _ _ _ h => h) (Or.inl ⟨by rfl, ?_⟩) ?_ ?_
      rotate_left
      · intro w'
        go_simp
        with_reducible rfl
      rotate_left
      · simp only [Act.put, List.setIfInBounds_toArray, List.set_cons_zero, List.set_cons_succ, i64_w, i32_w]
        rfl
      refine pure_ (i := 2) (N := some 21) (v := ?_) (a' := ?_) #[true, false, true, false, false, false, false, false] rfl rfl (any_of HT_.out (by kernel_rfl)) (fun _ _ _ h => h) (Or.inl ⟨by rfl, ?_⟩) ?_ ?_
      rotate_left
      · intro w'
        go_simp
        with_reducible rfl
      rotate_left
      · simp only [Act.put, List.setIfInBounds_toArray, List.set_cons_zero, List.set_cons_succ, i64_w, i32_w]
        rfl
      refine take_ (i := 1) (N := some 20) (v := ?_) (a' := ?_) #[true, true, true, false, false, false, false, false] rfl rfl (take_ofW HT_.out HW_.out (by kernel_rfl)) (fun _ _ _ h => h) (Or.inl ⟨by rfl, ?_⟩) hHeld ?_ ?_
      rotate_left
      · rintro w' ⟨s0, s1, s2, s3, s4, s5, s6, s7, s8, s9, s10, s11, s12, s13, s14⟩
        go_simp
        with_reducible rfl
      rotate_left
      · simp only [Act.put, List.setIfInBounds_toArray, List.set_cons_zero, List.set_cons_succ, i64_w, i32_w]
        rfl
      refine pure_ (i := 4) (N := some 23) (v := ?_) (a' := ?_) #[true, true, true, false, true, false, false, false] rfl rfl (any_of HT_.out (by kernel_rfl)) (fun _ _ _ h => h) (Or.inl ⟨by rfl, ?_⟩) ?_ ?_
      rotate_left
      · intro w'
        go_simp
        with_reducible rfl
      rotate_left
      · simp only [Act.put, List.setIfInBounds_toArray, List.set_cons_zero, List.set_cons_succ, i64_w, i32_w]
        rfl
      refine take_ (i := 3) (N := some 22) (v := ?_) (a' := ?_) #[true, true, true, true, true, false, false, false] rfl rfl (take_ofW HT_.out HW_.out (by kernel_rfl)) (fun _ _ _ h => h) (Or.inl ⟨by rfl, ?_⟩) hHeld ?_ ?_
      rotate_left
      · rintro w' ⟨s0, s1, s2, s3, s4, s5, s6, s7, s8, s9, s10, s11, s12, s13, s14⟩
        go_simp
        with_reducible rfl
      rotate_left
      · simp only [Act.put, List.setIfInBounds_toArray, List.set_cons_zero, List.set_cons_succ, i64_w, i32_w]
        rfl
      refine one_ (i := 5) (N := none) #[true, true, true, true, true, true, false, false] rfl rfl (one_of HT_.out (by kernel_rfl)) (by decide) (fun K hK => ?_)
      have hs46 : w45.cell? ⟨gb103, 6, none⟩ = some (.string a0_6) := (blk_cell BK103.out 6).trans rfl
      have hfs46 := blk_frozen BK103.out 6
      have hns46_0 := NB101_103.out
      have hms46_0 := NB103_101.out
      refine skip_ (w1 := ?_) (by rfl) rfl ?_ ?_
      rotate_left
      · go_simp
        rfl
      refine hK.out _ _ ⟨((cell_far (p := ⟨gb103, _, none⟩) NB101_103.out _).trans (hHeld.1)), ((cell_far (p := ⟨gb103, _, none⟩) NB101_103.out _).trans (hHeld.2.1)), ((cell_far (p := ⟨gb103, _, none⟩) NB101_103.out _).trans (hHeld.2.2.1)), ((cell_far (p := ⟨gb103, _, none⟩) NB101_103.out _).trans (hHeld.2.2.2.1)), ((cell_far (p := ⟨gb103, _, none⟩) NB101_103.out _).trans (hHeld.2.2.2.2.1)), ((cell_far (p := ⟨gb103, _, none⟩) NB101_103.out _).trans (hHeld.2.2.2.2.2.1)), ((cell_far (p := ⟨gb103, _, none⟩) NB101_103.out _).trans (hHeld.2.2.2.2.2.2.1)), ((cell_far (p := ⟨gb103, _, none⟩) NB101_103.out _).trans (hHeld.2.2.2.2.2.2.2.1)), ((cell_far (p := ⟨gb103, _, none⟩) NB101_103.out _).trans (hHeld.2.2.2.2.2.2.2.2.1)), ((cell_far (p := ⟨gb103, _, none⟩) NB101_103.out _).trans (hHeld.2.2.2.2.2.2.2.2.2.1)), ((cell_far (p := ⟨gb103, _, none⟩) NB101_103.out _).trans (hHeld.2.2.2.2.2.2.2.2.2.2.1)), ((cell_far (p := ⟨gb103, _, none⟩) NB101_103.out _).trans (hHeld.2.2.2.2.2.2.2.2.2.2.2.1)), ((cell_far (p := ⟨gb103, _, none⟩) NB101_103.out _).trans (hHeld.2.2.2.2.2.2.2.2.2.2.2.2.1)), ((cell_far (p := ⟨gb103, _, none⟩) NB101_103.out _).trans (hHeld.2.2.2.2.2.2.2.2.2.2.2.2.2.1)), ((cell_far (p := ⟨gb103, _, none⟩) NB101_103.out _).trans (hHeld.2.2.2.2.2.2.2.2.2.2.2.2.2.2))⟩ (fun hHeld => ?_)
      clear hK K
      refine pure_ (i := 6) (N := some 24) (v := ?_) (a' := ?_) #[true, true, true, true, true, true, true, false] rfl rfl (any_of HT_.out (by kernel_rfl)) (fun _ _ _ h => h) (Or.inl ⟨by rfl, ?_⟩) ?_ ?_
      rotate_left
      · intro w'
        go_simp
        with_reducible rfl
      rotate_left
      · simp only [Act.put, List.setIfInBounds_toArray, List.set_cons_zero, List.set_cons_succ, i64_w, i32_w]
        rfl
      refine one_ (i := 7) (N := none) #[true, true, true, true, true, true, true, true] rfl rfl (one_of HT_.out (by kernel_rfl)) (by decide) (fun K hK => ?_)
      have hs47 : w45.cell? ⟨gb103, 8, none⟩ = some (.string a0_8) := (blk_cell BK103.out 8).trans rfl
      have hfs47 := blk_frozen BK103.out 8
      have hns47_0 := NB101_103.out
      have hms47_0 := NB103_101.out
      refine skip_ (w1 := ?_) (by rfl) rfl ?_ ?_
      rotate_left
      · go_simp
        rfl
      refine hK.out _ _ ⟨((cell_far (p := ⟨gb103, _, none⟩) NB101_103.out _).trans (hHeld.1)), ((cell_far (p := ⟨gb103, _, none⟩) NB101_103.out _).trans (hHeld.2.1)), ((cell_far (p := ⟨gb103, _, none⟩) NB101_103.out _).trans (hHeld.2.2.1)), ((cell_far (p := ⟨gb103, _, none⟩) NB101_103.out _).trans (hHeld.2.2.2.1)), ((cell_far (p := ⟨gb103, _, none⟩) NB101_103.out _).trans (hHeld.2.2.2.2.1)), ((cell_far (p := ⟨gb103, _, none⟩) NB101_103.out _).trans (hHeld.2.2.2.2.2.1)), ((cell_far (p := ⟨gb103, _, none⟩) NB101_103.out _).trans (hHeld.2.2.2.2.2.2.1)), ((cell_far (p := ⟨gb103, _, none⟩) NB101_103.out _).trans (hHeld.2.2.2.2.2.2.2.1)), ((cell_far (p := ⟨gb103, _, none⟩) NB101_103.out _).trans (hHeld.2.2.2.2.2.2.2.2.1)), ((cell_far (p := ⟨gb103, _, none⟩) NB101_103.out _).trans (hHeld.2.2.2.2.2.2.2.2.2.1)), ((cell_far (p := ⟨gb103, _, none⟩) NB101_103.out _).trans (hHeld.2.2.2.2.2.2.2.2.2.2.1)), ((cell_far (p := ⟨gb103, _, none⟩) NB101_103.out _).trans (hHeld.2.2.2.2.2.2.2.2.2.2.2.1)), ((cell_far (p := ⟨gb103, _, none⟩) NB101_103.out _).trans (hHeld.2.2.2.2.2.2.2.2.2.2.2.2.1)), ((cell_far (p := ⟨gb103, _, none⟩) NB101_103.out _).trans (hHeld.2.2.2.2.2.2.2.2.2.2.2.2.2.1)), ((cell_far (p := ⟨gb103, _, none⟩) NB101_103.out _).trans (hHeld.2.2.2.2.2.2.2.2.2.2.2.2.2.2))⟩ (fun hHeld => ?_)
      clear hK K
      refine done_ (done_of HT_.out (by kernel_rfl)) ?_
      have hcz48_0 : w45.cell? ⟨gb103, 0, none⟩ = some (.int .u8 a0_0) := (blk_cell BK103.out 0).trans rfl
      have hcz48_1 : w45.cell? ⟨gb103, 1, none⟩ = some (.int .u8 a0_1) := (blk_cell BK103.out 1).trans rfl
      have hcz48_2 : w45.cell? ⟨gb103, 2, none⟩ = some (.int .u8 a0_2) := (blk_cell BK103.out 2).trans rfl
      have hcz48_3 : w45.cell? ⟨gb103, 3, none⟩ = some (.int .u8 a0_3) := (blk_cell BK103.out 3).trans rfl
      have hcz48_4 : w45.cell? ⟨gb103, 4, none⟩ = some (.int .u8 a0_4) := (blk_cell BK103.out 4).trans rfl
      have hcz48_5 : w45.cell? ⟨gb103, 5, none⟩ = some (.string a0_7) := (blk_cell BK103.out 5).trans rfl
      have hcz48_6 : w45.cell? ⟨gb103, 6, none⟩ = some (.string a0_6) := (blk_cell BK103.out 6).trans rfl
      have hcz48_7 : w45.cell? ⟨gb103, 7, none⟩ = some (.string a0_5) := (blk_cell BK103.out 7).trans rfl
      have hcz48_8 : w45.cell? ⟨gb103, 8, none⟩ = some (.string a0_8) := (blk_cell BK103.out 8).trans rfl
      have hcz48_9 : w45.cell? ⟨gb103, 9, none⟩ = some (.string a0_9) := (blk_cell BK103.out 9).trans rfl
      have hcz48_10 : w45.cell? ⟨gb103, 10, none⟩ = some (.string a0_10) := (blk_cell BK103.out 10).trans rfl
      have hcz48_11 : w45.cell? ⟨gb103, 11, none⟩ = some (.string a0_11) := (blk_cell BK103.out 11).trans rfl
      have hcz48_12 : w45.cell? ⟨gb103, 12, none⟩ = some (.string a0_12) := (blk_cell BK103.out 12).trans rfl
      have hcz48_13 : w45.cell? ⟨gb103, 13, none⟩ = some (.string a0_13) := (blk_cell BK103.out 13).trans rfl
      have hcz48_14 : w45.cell? ⟨gb103, 14, none⟩ = some (.string a0_14) := (blk_cell BK103.out 14).trans rfl
      have hfz48_0 := blk_frozen BK103.out 0
      have hfz48_1 := blk_frozen BK103.out 1
      have hfz48_2 := blk_frozen BK103.out 2
      have hfz48_3 := blk_frozen BK103.out 3
      have hfz48_4 := blk_frozen BK103.out 4
      have hfz48_5 := blk_frozen BK103.out 5
      have hfz48_6 := blk_frozen BK103.out 6
      have hfz48_7 := blk_frozen BK103.out 7
      have hfz48_8 := blk_frozen BK103.out 8
      have hfz48_9 := blk_frozen BK103.out 9
      have hfz48_10 := blk_frozen BK103.out 10
      have hfz48_11 := blk_frozen BK103.out 11
      have hfz48_12 := blk_frozen BK103.out 12
      have hfz48_13 := blk_frozen BK103.out 13
      have hfz48_14 := blk_frozen BK103.out 14
      try go_wp2_with (first | ((with_reducible refine gate_callee (f := 8) rfl ?_); refine goesL_ (some 29) rfl rfl Tryd.func8 (by kernel_rfl) rfl #[.agg #[.int .u8 a0_0, .int .u8 a0_1, .int .u8 a0_2, .int .u8 a0_3, .int .u8 a0_4, .string a0_7, .string a0_8, .string a0_5, .string a0_6, .string a0_9, .string (⟨#[]⟩ : ByteArray), .string (⟨#[65, 67, 75]⟩ : ByteArray), .string a0_12, .string a0_13, .string a0_14]] rfl (by (try simp only [List.map_toArray, List.map_cons, List.map_nil]); first | done | rfl | (simp only [List.length_drop, List.length_take]; rfl)) ?_; (with_reducible refine (msh_Write.calls a0_0 a0_1 a0_2 a0_3 a0_4 a0_7 a0_8 a0_5 a0_6 a0_9 (⟨#[]⟩ : ByteArray) (⟨#[65, 67, 75]⟩ : ByteArray) a0_12 a0_13 a0_14 t104 t105 _ ?side1 A5.out).mono ?_); (case side1 => exact GlobA.below HG.out (by repeat (first | (with_reducible first | exact HB.out | apply below_alloc | apply pw_below_drewN | apply below_drew1 | refine below_set ?_ GE101.out | refine below_set ?_ GE103.out) | exact HB.out))); rintro e w49 ⟨rfl, hb⟩; refine ⟨_, rfl, ?_⟩; have n0_ := Aside0.mk (blk_below (g := gb101) (o := .cells #[.int .u8 a0_0, .int .u8 a0_1, .int .u8 a0_2, .int .u8 a0_3, .int .u8 a0_4, .string a0_5, .string a0_6, .string a0_7, .string a0_8, .string a0_9, .string a0_10, .string a0_11, .string a0_12, .string a0_13, .string a0_14] 25 (0, 0)) (by (with_reducible repeat (first | refine blk_drewN ?_ _ | refine blk_drew ?_ | refine blk_alloc ?_ _)); refine blk_far ?_ NB101_103.out _; (with_reducible repeat (first | refine blk_drewN ?_ _ | refine blk_drew ?_ | refine blk_alloc ?_ _)); refine blk_far ?_ NB101_103.out _; (with_reducible repeat (first | refine blk_drewN ?_ _ | refine blk_drew ?_ | refine blk_alloc ?_ _)); refine blk_far ?_ NB101_103.out _; (with_reducible repeat (first | refine blk_drewN ?_ _ | refine blk_drew ?_ | refine blk_alloc ?_ _)); refine blk_far ?_ NB101_103.out _; (with_reducible repeat (first | refine blk_drewN ?_ _ | refine blk_drew ?_ | refine blk_alloc ?_ _)); exact BK101.out) hb); have n1_ := Aside0.mk (blk_below (g := gb103) (o := .cells #[.int .u8 a0_0, .int .u8 a0_1, .int .u8 a0_2, .int .u8 a0_3, .int .u8 a0_4, .string a0_7, .string a0_8, .string a0_5, .string a0_6, .string a0_9, .string (⟨#[]⟩ : ByteArray), .string (⟨#[65, 67, 75]⟩ : ByteArray), .string a0_12, .string a0_13, .string a0_14] 25 (0, 0)) (by (with_reducible repeat (first | refine blk_drewN ?_ _ | refine blk_drew ?_ | refine blk_alloc ?_ _)); refine blk_put (cs := #[.int .u8 a0_0, .int .u8 a0_1, .int .u8 a0_2, .int .u8 a0_3, .int .u8 a0_4, .string a0_7, .string a0_8, .string a0_5, .string a0_6, .string a0_9, .string (⟨#[]⟩ : ByteArray), .string a0_11, .string a0_12, .string a0_13, .string a0_14]) ?_ 11 _ rfl; (with_reducible repeat (first | refine blk_drewN ?_ _ | refine blk_drew ?_ | refine blk_alloc ?_ _)); refine blk_put (cs := #[.int .u8 a0_0, .int .u8 a0_1, .int .u8 a0_2, .int .u8 a0_3, .int .u8 a0_4, .string a0_7, .string a0_8, .string a0_5, .string a0_6, .string a0_9, .string a0_10, .string a0_11, .string a0_12, .string a0_13, .string a0_14]) ?_ 10 _ rfl; (with_reducible repeat (first | refine blk_drewN ?_ _ | refine blk_drew ?_ | refine blk_alloc ?_ _)); refine blk_put (cs := #[.int .u8 a0_0, .int .u8 a0_1, .int .u8 a0_2, .int .u8 a0_3, .int .u8 a0_4, .string a0_7, .string a0_8, .string a0_5, .string a0_8, .string a0_9, .string a0_10, .string a0_11, .string a0_12, .string a0_13, .string a0_14]) ?_ 8 _ rfl; (with_reducible repeat (first | refine blk_drewN ?_ _ | refine blk_drew ?_ | refine blk_alloc ?_ _)); refine blk_put (cs := #[.int .u8 a0_0, .int .u8 a0_1, .int .u8 a0_2, .int .u8 a0_3, .int .u8 a0_4, .string a0_7, .string a0_6, .string a0_5, .string a0_8, .string a0_9, .string a0_10, .string a0_11, .string a0_12, .string a0_13, .string a0_14]) ?_ 6 _ rfl; (with_reducible repeat (first | refine blk_drewN ?_ _ | refine blk_drew ?_ | refine blk_alloc ?_ _)); exact BK103.out) hb); have n2_ := Aside0.mk (below_step (by repeat (first | (with_reducible first | exact HB.out | apply below_alloc | apply pw_below_drewN | apply below_drew1 | refine below_set ?_ GE101.out | refine below_set ?_ GE103.out) | exact HB.out)) hb); clear BK101; clear BK103; clear HB; have BK101 := n0_; have BK103 := n1_; have HB := n2_; clear n0_ n1_ n2_; (try clear hb); (try clear hb2); (try clear hk); (try clear hi)))
      go_ret2
      exact ⟨_, by first | rfl | (simp [errW_none, errW_some] <;> rfl) | (simp [*, errW_none, errW_some] <;> rfl), by first | exact Kd.R_nil _ _ _ _ _ | exact Kd.N_nil _ _ _ _ _ | exact Kd.V_nil _ _ _ _ _ | exact Kd.Q_nil _ _ _ _ _ | exact Kd.S_nil _ _ _ _ _, by repeat (first | (with_reducible first | exact HB.out | apply below_alloc | apply pw_below_drewN | apply below_drew1 | refine below_set ?_ GE101.out | refine below_set ?_ GE103.out) | exact HB.out)⟩
  · replace c4 := Bool.eq_false_iff.mpr c4
    subst c4
    have H1 : (some (([] : List Int), 17)) = some (r1, r2) := by rw [if_neg (show ¬ (false = true) by decide)] at H; exact H
    clear H
    have H := H1
    clear H1
    simp only [Option.some.injEq, Prod.mk.injEq] at H
    obtain ⟨rfl, rfl⟩ := H
    go_enter Tryd.func30, Tryd.ntmps30
    go_wp2_with (first | ((with_reducible refine gate_dst (N := 2) rfl ?_); refine box_event ?hg (N := 2) ?hd (cs := #[.int .u8 a0_0, .int .u8 a0_1, .int .u8 a0_2, .int .u8 a0_3, .int .u8 a0_4, .string a0_5, .string a0_6, .string a0_7, .string a0_8, .string a0_9, .string a0_10, .string a0_11, .string a0_12, .string a0_13, .string a0_14]) (t := 25) ?hr ?_; (case hd => rfl); (case hg => rfl); (case hr => first | (go_simp; done) | (go_simp; rfl)); intro gb101 hg w50 hbox hb; have n0_ := Aside0.mk (below_step (by repeat (first | (with_reducible first | exact HB.out | apply below_alloc | apply pw_below_drewN | apply below_drew1) | exact HB.out)) hb); have n1_ := Aside0.mk (hbox); have n2_ := Aside0.mk ((by rw [hg]; exact (below_size (by repeat (first | (with_reducible first | exact HB.out | apply below_alloc | apply pw_below_drewN | apply below_drew1) | exact HB.out))) : w.heap.size ≤ gb101)); have n3_ := Aside0.mk ((by rw [hg]; exact (below_size (by repeat (first | (with_reducible first | exact HB.out | apply below_alloc | apply pw_below_drewN | apply below_drew1) | exact HB.out))) : w.heap.size ≤ gb101)); clear HB; have HB := n0_; have BK101 := n1_; have GW101 := n2_; have GE101 := n3_; clear n0_ n1_ n2_ n3_; clear hb hbox hg) | ((with_reducible refine gate_callee (f := 38) rfl ?_); refine goesL_ (some 10) rfl rfl Tryd.func38 (by kernel_rfl) rfl #[.string a1] rfl (by (try simp only [List.map_toArray, List.map_cons, List.map_nil]); first | done | rfl | (simp only [List.length_drop, List.length_take]; rfl)) ?_; (with_reducible refine (ack_Known.calls a1 false _ ?side1 A3.out).mono ?_); (case side1 => exact GlobA.below HG.out (by repeat (first | (with_reducible first | exact HB.out | apply below_alloc | apply pw_below_drewN | apply below_drew1 | refine below_set ?_ GE101.out) | exact HB.out))); rintro e w51 ⟨rfl, hb⟩; refine ⟨_, rfl, ?_⟩; have n0_ := Aside0.mk (blk_below (g := gb101) (o := .cells #[.int .u8 a0_0, .int .u8 a0_1, .int .u8 a0_2, .int .u8 a0_3, .int .u8 a0_4, .string a0_5, .string a0_6, .string a0_7, .string a0_8, .string a0_9, .string a0_10, .string a0_11, .string a0_12, .string a0_13, .string a0_14] 25 (0, 0)) (by (with_reducible repeat (first | refine blk_drewN ?_ _ | refine blk_drew ?_ | refine blk_alloc ?_ _)); exact BK101.out) hb); have n1_ := Aside0.mk (below_step (by repeat (first | (with_reducible first | exact HB.out | apply below_alloc | apply pw_below_drewN | apply below_drew1 | refine below_set ?_ GE101.out) | exact HB.out)) hb); clear BK101; clear HB; have BK101 := n0_; have HB := n1_; clear n0_ n1_; (try clear hb); (try clear hb2); (try clear hk); (try clear hi)))
    go_ret2
    exact ⟨_, by first | rfl | (simp [errW_none, errW_some] <;> rfl) | (simp [*, errW_none, errW_some] <;> rfl), by first | exact Kd.R_nil _ _ _ _ _ | exact Kd.N_nil _ _ _ _ _ | exact Kd.V_nil _ _ _ _ _ | exact Kd.Q_nil _ _ _ _ _ | exact Kd.S_nil _ _ _ _ _, by repeat (first | (with_reducible first | exact HB.out | apply below_alloc | apply pw_below_drewN | apply below_drew1 | refine below_set ?_ GE101.out) | exact HB.out)⟩

end Go.Proofs.YtciagecaegoppaaDoor.QReply
namespace Go.Proofs.YtciagecaegoppaaDoor.QReply
open Go.RowKit Go.Proofs.YtciagecaegoppaaDoorW.PrintWords Go.Proofs.YtciagecaegoppaaDoorW.PrintLast Go.Proofs.YtciagecaegoppaaDoorW.PrintMore
attribute [local go_sem] max2_int min2_int max_two min_two max_three min_three max_four min_four   -- for this text's walks alone
set_option linter.unusedVariables false
set_option linter.unusedSimpArgs false

/-! ### accept_Reply: function 12 -/
mutual
def accept_Reply.j0 : Nat → Bool → ByteArray → Bool → Int → Int → Int → Int → Int → ByteArray → ByteArray → ByteArray → ByteArray → ByteArray → ByteArray → ByteArray → ByteArray → ByteArray → ByteArray → Option (List Int × Bool)
  | 0, _, _, _, _, _, _, _, _, _, _, _, _, _, _, _, _, _, _ => none
  | k + 1, x1, x7, x24, x134000, x134001, x134002, x134003, x134004, x134005, x134006, x134007, x134008, x134009, x134010, x134011, x134012, x134013, x134014 => if x24 = true then (some (([] : List Int), false)) else (if x7.toList = ([65, 65] : List UInt8) then (accept_Reply.j1 k x7 (!x1) x134000 x134001 x134002 x134003 x134004 x134005 x134006 x134007 x134008 x134009 x134010 x134011 x134012 x134013 x134014) else (accept_Reply.j1 k x7 false x134000 x134001 x134002 x134003 x134004 x134005 x134006 x134007 x134008 x134009 x134010 x134011 x134012 x134013 x134014))
def accept_Reply.j1 : Nat → ByteArray → Bool → Int → Int → Int → Int → Int → ByteArray → ByteArray → ByteArray → ByteArray → ByteArray → ByteArray → ByteArray → ByteArray → ByteArray → ByteArray → Option (List Int × Bool)
  | 0, _, _, _, _, _, _, _, _, _, _, _, _, _, _, _, _, _ => none
  | k + 1, x7, x30, x134000, x134001, x134002, x134003, x134004, x134005, x134006, x134007, x134008, x134009, x134010, x134011, x134012, x134013, x134014 => if x30 = true then (accept_Reply.j2 k (⟨#[65, 69]⟩ : ByteArray) x134000 x134001 x134002 x134003 x134004 x134005 x134006 x134007 x134008 x134009 x134010 x134011 x134012 x134013 x134014) else (accept_Reply.j2 k x7 x134000 x134001 x134002 x134003 x134004 x134005 x134006 x134007 x134008 x134009 x134010 x134011 x134012 x134013 x134014)
def accept_Reply.j2 : Nat → ByteArray → Int → Int → Int → Int → Int → ByteArray → ByteArray → ByteArray → ByteArray → ByteArray → ByteArray → ByteArray → ByteArray → ByteArray → ByteArray → Option (List Int × Bool)
  | 0, _, _, _, _, _, _, _, _, _, _, _, _, _, _, _, _ => none
  | k + 1, x7, x134000, x134001, x134002, x134003, x134004, x134005, x134006, x134007, x134008, x134009, x134010, x134011, x134012, x134013, x134014 => (ack_Build.f k x134000 x134001 x134002 x134003 x134004 x134005 x134006 x134007 x134008 x134009 x134010 x134011 x134012 x134013 x134014 x7).bind fun bt135 => (if bt135.2 = 0 then ((frameA_Wrap.f bt135.1).bind fun bt139 => (some (bt139.1, (bt139.2 == 0)))) else (some (([] : List Int), false)))
end
def accept_Reply.f (k : Nat) (l0 : List Int) (a1 : Bool) : Option (List Int × Bool) := (accept_Verdict.f l0).bind fun bt116 => (if bt116.2.2.2.2.2.2.2.2.2.2.2.2.2.2.2.1.toList = ([] : List UInt8) then (accept_Reply.j0 k a1 bt116.2.2.2.2.2.2.2.2.2.2.2.2.2.2.2.1 true bt116.1 bt116.2.1 bt116.2.2.1 bt116.2.2.2.1 bt116.2.2.2.2.1 bt116.2.2.2.2.2.1 bt116.2.2.2.2.2.2.1 bt116.2.2.2.2.2.2.2.1 bt116.2.2.2.2.2.2.2.2.1 bt116.2.2.2.2.2.2.2.2.2.1 bt116.2.2.2.2.2.2.2.2.2.2.1 bt116.2.2.2.2.2.2.2.2.2.2.2.1 bt116.2.2.2.2.2.2.2.2.2.2.2.2.1 bt116.2.2.2.2.2.2.2.2.2.2.2.2.2.1 bt116.2.2.2.2.2.2.2.2.2.2.2.2.2.2.1) else ((frameA_Good.f l0).bind fun t134 => (accept_Reply.j0 k a1 bt116.2.2.2.2.2.2.2.2.2.2.2.2.2.2.2.1 (!t134) bt116.1 bt116.2.1 bt116.2.2.1 bt116.2.2.2.1 bt116.2.2.2.2.1 bt116.2.2.2.2.2.1 bt116.2.2.2.2.2.2.1 bt116.2.2.2.2.2.2.2.1 bt116.2.2.2.2.2.2.2.2.1 bt116.2.2.2.2.2.2.2.2.2.1 bt116.2.2.2.2.2.2.2.2.2.2.1 bt116.2.2.2.2.2.2.2.2.2.2.2.1 bt116.2.2.2.2.2.2.2.2.2.2.2.2.1 bt116.2.2.2.2.2.2.2.2.2.2.2.2.2.1 bt116.2.2.2.2.2.2.2.2.2.2.2.2.2.2.1)))
theorem accept_Reply.mono_l : ∀ k, (∀ y0 y1 y2 y3 y4 y5 y6 y7 y8 y9 y10 y11 y12 y13 y14 y15 y16 y17, LeO (accept_Reply.j0 k y0 y1 y2 y3 y4 y5 y6 y7 y8 y9 y10 y11 y12 y13 y14 y15 y16 y17) (accept_Reply.j0 (k + 1) y0 y1 y2 y3 y4 y5 y6 y7 y8 y9 y10 y11 y12 y13 y14 y15 y16 y17)) ∧ (∀ y0 y1 y2 y3 y4 y5 y6 y7 y8 y9 y10 y11 y12 y13 y14 y15 y16, LeO (accept_Reply.j1 k y0 y1 y2 y3 y4 y5 y6 y7 y8 y9 y10 y11 y12 y13 y14 y15 y16) (accept_Reply.j1 (k + 1) y0 y1 y2 y3 y4 y5 y6 y7 y8 y9 y10 y11 y12 y13 y14 y15 y16)) ∧ (∀ y0 y1 y2 y3 y4 y5 y6 y7 y8 y9 y10 y11 y12 y13 y14 y15, LeO (accept_Reply.j2 k y0 y1 y2 y3 y4 y5 y6 y7 y8 y9 y10 y11 y12 y13 y14 y15) (accept_Reply.j2 (k + 1) y0 y1 y2 y3 y4 y5 y6 y7 y8 y9 y10 y11 y12 y13 y14 y15))
  | 0 => ⟨fun _ _ _ _ _ _ _ _ _ _ _ _ _ _ _ _ _ _ r h => by simp [accept_Reply.j0] at h, fun _ _ _ _ _ _ _ _ _ _ _ _ _ _ _ _ _ r h => by simp [accept_Reply.j1] at h, fun _ _ _ _ _ _ _ _ _ _ _ _ _ _ _ _ r h => by simp [accept_Reply.j2] at h⟩
  | k + 1 => by
    obtain ⟨ih0, ih1, ih2⟩ := accept_Reply.mono_l k
    refine ⟨?_, ?_, ?_⟩
    · intro y0 y1 y2 y3 y4 y5 y6 y7 y8 y9 y10 y11 y12 y13 y14 y15 y16 y17
      unfold accept_Reply.j0
      repeat' first
      | (with_reducible exact ih0 _ _ _ _ _ _ _ _ _ _ _ _ _ _ _ _ _ _)
      | (with_reducible exact ih1 _ _ _ _ _ _ _ _ _ _ _ _ _ _ _ _ _)
      | (with_reducible exact ih2 _ _ _ _ _ _ _ _ _ _ _ _ _ _ _ _)
      | (with_reducible exact ack_Build.mono _ _ _ _ _ _ _ _ _ _ _ _ _ _ _ _ _)
      | (with_reducible exact LeO.refl _)
      | (with_reducible exact LeO.none _)
      | (with_reducible refine LeO.ite ?_ ?_)
      | (with_reducible refine LeO.bind ?_ (fun _ => ?_))
      | exact ih0 _ _ _ _ _ _ _ _ _ _ _ _ _ _ _ _ _ _
      | exact ih1 _ _ _ _ _ _ _ _ _ _ _ _ _ _ _ _ _
      | exact ih2 _ _ _ _ _ _ _ _ _ _ _ _ _ _ _ _
      | exact ack_Build.mono _ _ _ _ _ _ _ _ _ _ _ _ _ _ _ _ _
      | exact LeO.none _
      | refine LeO.ite ?_ ?_
      | refine LeO.bind ?_ (fun _ => ?_)
    · intro y0 y1 y2 y3 y4 y5 y6 y7 y8 y9 y10 y11 y12 y13 y14 y15 y16
      unfold accept_Reply.j1
      repeat' first
      | (with_reducible exact ih0 _ _ _ _ _ _ _ _ _ _ _ _ _ _ _ _ _ _)
      | (with_reducible exact ih1 _ _ _ _ _ _ _ _ _ _ _ _ _ _ _ _ _)
      | (with_reducible exact ih2 _ _ _ _ _ _ _ _ _ _ _ _ _ _ _ _)
      | (with_reducible exact ack_Build.mono _ _ _ _ _ _ _ _ _ _ _ _ _ _ _ _ _)
      | (with_reducible exact LeO.refl _)
      | (with_reducible exact LeO.none _)
      | (with_reducible refine LeO.ite ?_ ?_)
      | (with_reducible refine LeO.bind ?_ (fun _ => ?_))
      | exact ih0 _ _ _ _ _ _ _ _ _ _ _ _ _ _ _ _ _ _
      | exact ih1 _ _ _ _ _ _ _ _ _ _ _ _ _ _ _ _ _
      | exact ih2 _ _ _ _ _ _ _ _ _ _ _ _ _ _ _ _
      | exact ack_Build.mono _ _ _ _ _ _ _ _ _ _ _ _ _ _ _ _ _
      | exact LeO.none _
      | refine LeO.ite ?_ ?_
      | refine LeO.bind ?_ (fun _ => ?_)
    · intro y0 y1 y2 y3 y4 y5 y6 y7 y8 y9 y10 y11 y12 y13 y14 y15
      unfold accept_Reply.j2
      repeat' first
      | (with_reducible exact ih0 _ _ _ _ _ _ _ _ _ _ _ _ _ _ _ _ _ _)
      | (with_reducible exact ih1 _ _ _ _ _ _ _ _ _ _ _ _ _ _ _ _ _)
      | (with_reducible exact ih2 _ _ _ _ _ _ _ _ _ _ _ _ _ _ _ _)
      | (with_reducible exact ack_Build.mono _ _ _ _ _ _ _ _ _ _ _ _ _ _ _ _ _)
      | (with_reducible exact LeO.refl _)
      | (with_reducible exact LeO.none _)
      | (with_reducible refine LeO.ite ?_ ?_)
      | (with_reducible refine LeO.bind ?_ (fun _ => ?_))
      | exact ih0 _ _ _ _ _ _ _ _ _ _ _ _ _ _ _ _ _ _
      | exact ih1 _ _ _ _ _ _ _ _ _ _ _ _ _ _ _ _ _
      | exact ih2 _ _ _ _ _ _ _ _ _ _ _ _ _ _ _ _
      | exact ack_Build.mono _ _ _ _ _ _ _ _ _ _ _ _ _ _ _ _ _
      | exact LeO.none _
      | refine LeO.ite ?_ ?_
      | refine LeO.bind ?_ (fun _ => ?_)
theorem accept_Reply.mono : ∀ a0 a1 k, LeO (accept_Reply.f k a0 a1) (accept_Reply.f (k + 1) a0 a1) := by
  intro a0 a1 k
  obtain ⟨ih0, ih1, ih2⟩ := accept_Reply.mono_l k
  unfold accept_Reply.f
  repeat' first
      | (with_reducible exact ih0 _ _ _ _ _ _ _ _ _ _ _ _ _ _ _ _ _ _)
      | (with_reducible exact ih1 _ _ _ _ _ _ _ _ _ _ _ _ _ _ _ _ _)
      | (with_reducible exact ih2 _ _ _ _ _ _ _ _ _ _ _ _ _ _ _ _)
      | (with_reducible exact ack_Build.mono _ _ _ _ _ _ _ _ _ _ _ _ _ _ _ _ _)
      | (with_reducible exact LeO.refl _)
      | (with_reducible exact LeO.none _)
      | (with_reducible refine LeO.ite ?_ ?_)
      | (with_reducible refine LeO.bind ?_ (fun _ => ?_))
      | exact ih0 _ _ _ _ _ _ _ _ _ _ _ _ _ _ _ _ _ _
      | exact ih1 _ _ _ _ _ _ _ _ _ _ _ _ _ _ _ _ _
      | exact ih2 _ _ _ _ _ _ _ _ _ _ _ _ _ _ _ _
      | exact ack_Build.mono _ _ _ _ _ _ _ _ _ _ _ _ _ _ _ _ _
      | exact LeO.none _
      | refine LeO.ite ?_ ?_
      | refine LeO.bind ?_ (fun _ => ?_)
set_option maxHeartbeats 8000000 in
set_option maxRecDepth 100000 in
theorem accept_Reply.calls (k : Nat) (A0 : Option Addr) (c0 : Nat) (l0 : List Int) (a1 : Bool) (r1 : List Int) (r2 : Bool) (w : World) (hG : GlobA w) (hr0 : Kd.C (Kd.int .u8) w A0 l0.length l0) (hc0 : l0.length ≤ c0) (h : accept_Reply.f k l0 a1 = some (r1, r2)) :
    Calls Tryd.prog 12 #[.slice A0 l0.length c0, .bool a1] w fun e w' => ∃ v0_ : Value, e = .returned (.tuple #[v0_, .bool r2]) ∧ Kd.R (Kd.int .u8) 5 w' w.heap.size (fun _ => True) v0_ r1 ∧ Below w.heap.size w w' := by
  have hu25 := Tryd.underlying25
  have HR0 := Aside0.mk hr0
  have HC0 := Aside0.mk hc0
  clear hr0 hc0
  have HG := Aside0.mk hG
  clear hG
  have HB := Aside0.mk (Below.refl w.heap.size w)
  have H : ((accept_Verdict.f l0).bind fun bt116 => (if bt116.2.2.2.2.2.2.2.2.2.2.2.2.2.2.2.1.toList = ([] : List UInt8) then (accept_Reply.j0 k a1 bt116.2.2.2.2.2.2.2.2.2.2.2.2.2.2.2.1 true bt116.1 bt116.2.1 bt116.2.2.1 bt116.2.2.2.1 bt116.2.2.2.2.1 bt116.2.2.2.2.2.1 bt116.2.2.2.2.2.2.1 bt116.2.2.2.2.2.2.2.1 bt116.2.2.2.2.2.2.2.2.1 bt116.2.2.2.2.2.2.2.2.2.1 bt116.2.2.2.2.2.2.2.2.2.2.1 bt116.2.2.2.2.2.2.2.2.2.2.2.1 bt116.2.2.2.2.2.2.2.2.2.2.2.2.1 bt116.2.2.2.2.2.2.2.2.2.2.2.2.2.1 bt116.2.2.2.2.2.2.2.2.2.2.2.2.2.2.1) else ((frameA_Good.f l0).bind fun t134 => (accept_Reply.j0 k a1 bt116.2.2.2.2.2.2.2.2.2.2.2.2.2.2.2.1 (!t134) bt116.1 bt116.2.1 bt116.2.2.1 bt116.2.2.2.1 bt116.2.2.2.2.1 bt116.2.2.2.2.2.1 bt116.2.2.2.2.2.2.1 bt116.2.2.2.2.2.2.2.1 bt116.2.2.2.2.2.2.2.2.1 bt116.2.2.2.2.2.2.2.2.2.1 bt116.2.2.2.2.2.2.2.2.2.2.1 bt116.2.2.2.2.2.2.2.2.2.2.2.1 bt116.2.2.2.2.2.2.2.2.2.2.2.2.1 bt116.2.2.2.2.2.2.2.2.2.2.2.2.2.1 bt116.2.2.2.2.2.2.2.2.2.2.2.2.2.2.1)))) = some (r1, r2) := h
  clear h
  replace H := Option.bind_eq_some_iff.mp H
  obtain ⟨⟨t116, t117, t118, t119, t120, t121, t122, t123, t124, t125, t126, t127, t128, t129, t130, t131, t132⟩, A30, H⟩ := H
  replace H : (if t131.toList = ([] : List UInt8) then (accept_Reply.j0 k a1 t131 true t116 t117 t118 t119 t120 t121 t122 t123 t124 t125 t126 t127 t128 t129 t130) else ((frameA_Good.f l0).bind fun t134 => (accept_Reply.j0 k a1 t131 (!t134) t116 t117 t118 t119 t120 t121 t122 t123 t124 t125 t126 t127 t128 t129 t130))) = some (r1, r2) := H
  have A3 := Aside0.mk A30
  clear A30
  have HC4 := Aside0.mk H
  clear H
  go_enter Tryd.func12, Tryd.ntmps12
  go_upto_region 2 with (first | ((with_reducible refine gate_callee (f := 10) rfl ?_); refine goesL_ (some 14) rfl rfl Tryd.func10 (by kernel_rfl) rfl #[.slice A0 l0.length c0] rfl (by (try simp only [List.map_toArray, List.map_cons, List.map_nil]); first | done | rfl | (simp only [List.length_drop, List.length_take]; rfl)) ?_; (with_reducible refine (accept_Verdict.calls _ _ l0 t116 t117 t118 t119 t120 t121 t122 t123 t124 t125 t126 t127 t128 t129 t130 t131 t132 _ ?side3 ?side1 ?side2 A3.out).mono ?_); (case side1 => repeat (first | exact HR0.out | (with_reducible refine Kd.C_alloc ?_ _) | (with_reducible refine Kd.C_drewN ?_ _) | (with_reducible refine Kd.C_drew ?_))); (case side2 => exact HC0.out); (case side3 => exact GlobA.below HG.out (by repeat (first | (with_reducible first | exact HB.out | apply below_alloc | apply pw_below_drewN | apply below_drew1) | exact HB.out))); rintro e w5 ⟨rfl, hb⟩; refine ⟨_, rfl, ?_⟩; have n0_ := Aside0.mk (below_step (by repeat (first | (with_reducible first | exact HB.out | apply below_alloc | apply pw_below_drewN | apply below_drew1) | exact HB.out)) hb); clear HB; have HB := n0_; clear n0_; (try clear hb); (try clear hb2); (try clear hk); (try clear hi)) | ((with_reducible refine gate_dst (N := 6) rfl ?_); refine box_event ?hg (N := 6) ?hd (cs := #[.int .u8 0, .int .u8 0, .int .u8 0, .int .u8 0, .int .u8 0, .string (⟨#[]⟩ : ByteArray), .string (⟨#[]⟩ : ByteArray), .string (⟨#[]⟩ : ByteArray), .string (⟨#[]⟩ : ByteArray), .string (⟨#[]⟩ : ByteArray), .string (⟨#[]⟩ : ByteArray), .string (⟨#[]⟩ : ByteArray), .string (⟨#[]⟩ : ByteArray), .string (⟨#[]⟩ : ByteArray), .string (⟨#[]⟩ : ByteArray)]) (t := 25) ?hr ?_; (case hd => rfl); (case hg => rfl); (case hr => first | (go_simp; done) | (go_simp; rfl)); intro gb133 hg w6 hbox hb; have n0_ := Aside0.mk (below_step (by repeat (first | (with_reducible first | exact HB.out | apply below_alloc | apply pw_below_drewN | apply below_drew1) | exact HB.out)) hb); have n1_ := Aside0.mk (hbox); have n2_ := Aside0.mk ((by rw [hg]; exact (below_size (by repeat (first | (with_reducible first | exact HB.out | apply below_alloc | apply pw_below_drewN | apply below_drew1) | exact HB.out))) : w.heap.size ≤ gb133)); have n3_ := Aside0.mk ((by rw [hg]; exact (below_size (by repeat (first | (with_reducible first | exact HB.out | apply below_alloc | apply pw_below_drewN | apply below_drew1) | exact HB.out))) : w.heap.size ≤ gb133)); clear HB; have HB := n0_; have BK133 := n1_; have GW133 := n2_; have GE133 := n3_; clear n0_ n1_ n2_ n3_; clear hb hbox hg; have hcz7_0 : w6.cell? ⟨gb133, 0, none⟩ = some (.int .u8 0) := (blk_cell BK133.out 0).trans rfl; have hcz7_1 : w6.cell? ⟨gb133, 1, none⟩ = some (.int .u8 0) := (blk_cell BK133.out 1).trans rfl; have hcz7_2 : w6.cell? ⟨gb133, 2, none⟩ = some (.int .u8 0) := (blk_cell BK133.out 2).trans rfl; have hcz7_3 : w6.cell? ⟨gb133, 3, none⟩ = some (.int .u8 0) := (blk_cell BK133.out 3).trans rfl; have hcz7_4 : w6.cell? ⟨gb133, 4, none⟩ = some (.int .u8 0) := (blk_cell BK133.out 4).trans rfl; have hcz7_5 : w6.cell? ⟨gb133, 5, none⟩ = some (.string (⟨#[]⟩ : ByteArray)) := (blk_cell BK133.out 5).trans rfl; have hcz7_6 : w6.cell? ⟨gb133, 6, none⟩ = some (.string (⟨#[]⟩ : ByteArray)) := (blk_cell BK133.out 6).trans rfl; have hcz7_7 : w6.cell? ⟨gb133, 7, none⟩ = some (.string (⟨#[]⟩ : ByteArray)) := (blk_cell BK133.out 7).trans rfl; have hcz7_8 : w6.cell? ⟨gb133, 8, none⟩ = some (.string (⟨#[]⟩ : ByteArray)) := (blk_cell BK133.out 8).trans rfl; have hcz7_9 : w6.cell? ⟨gb133, 9, none⟩ = some (.string (⟨#[]⟩ : ByteArray)) := (blk_cell BK133.out 9).trans rfl; have hcz7_10 : w6.cell? ⟨gb133, 10, none⟩ = some (.string (⟨#[]⟩ : ByteArray)) := (blk_cell BK133.out 10).trans rfl; have hcz7_11 : w6.cell? ⟨gb133, 11, none⟩ = some (.string (⟨#[]⟩ : ByteArray)) := (blk_cell BK133.out 11).trans rfl; have hcz7_12 : w6.cell? ⟨gb133, 12, none⟩ = some (.string (⟨#[]⟩ : ByteArray)) := (blk_cell BK133.out 12).trans rfl; have hcz7_13 : w6.cell? ⟨gb133, 13, none⟩ = some (.string (⟨#[]⟩ : ByteArray)) := (blk_cell BK133.out 13).trans rfl; have hcz7_14 : w6.cell? ⟨gb133, 14, none⟩ = some (.string (⟨#[]⟩ : ByteArray)) := (blk_cell BK133.out 14).trans rfl; have hfz7_0 := blk_frozen BK133.out 0; have hfz7_1 := blk_frozen BK133.out 1; have hfz7_2 := blk_frozen BK133.out 2; have hfz7_3 := blk_frozen BK133.out 3; have hfz7_4 := blk_frozen BK133.out 4; have hfz7_5 := blk_frozen BK133.out 5; have hfz7_6 := blk_frozen BK133.out 6; have hfz7_7 := blk_frozen BK133.out 7; have hfz7_8 := blk_frozen BK133.out 8; have hfz7_9 := blk_frozen BK133.out 9; have hfz7_10 := blk_frozen BK133.out 10; have hfz7_11 := blk_frozen BK133.out 11; have hfz7_12 := blk_frozen BK133.out 12; have hfz7_13 := blk_frozen BK133.out 13; have hfz7_14 := blk_frozen BK133.out 14))
  (try simp only [Act.put, List.setIfInBounds_toArray, List.set_cons_zero, List.set_cons_succ])
  go_cut [24] (fun v24 wc => ∃ (kq : Nat) (x24_3 : Bool), v24 = .bool x24_3 ∧ Aside0 (accept_Reply.j0 kq a1 t131 x24_3 t116 t117 t118 t119 t120 t121 t122 t123 t124 t125 t126 t127 t128 t129 t130 = some (r1, r2)) ∧ Aside0 (kq ≤ k) ∧ Aside0 (wc.heap[gb133]? = some (.cells #[.int .u8 t116, .int .u8 t117, .int .u8 t118, .int .u8 t119, .int .u8 t120, .string t121, .string t122, .string t123, .string t124, .string t125, .string t126, .string t127, .string t128, .string t129, .string t130] 25 (0, 0))) ∧ Aside0 (Below w.heap.size w wc))
  case first =>
    have H := HC4.out
    clear HC4
    by_cases c8 : t131.toList = ([] : List UInt8)
    · rw [if_pos c8] at H
      have c8b0 : (t131.toList == ([] : List UInt8)) = true := beq_iff_eq.mpr c8
      have c8b1 : (t131.toList != ([] : List UInt8)) = false := bne_eq_false_iff_eq.mpr c8
      clear c8
      (first | rw [c8b0] | (simp only [i64_w, i32_w]; rw [c8b0]) | skip)
      have H' := Aside0.mk H
      clear H
      go_wp2
      go_meet
      case rel => exact ⟨_, (true), (by first | rfl | (simp; done) | (simp [*]; done)), H', ⟨by first | omega | exact Nat.le_refl _⟩, ⟨by (with_reducible repeat (first | refine blk_drewN ?_ _ | refine blk_drew ?_ | refine blk_alloc ?_ _)); refine blk_put (cs := #[.int .u8 t116, .int .u8 t117, .int .u8 t118, .int .u8 t119, .int .u8 t120, .string t121, .string t122, .string t123, .string t124, .string t125, .string t126, .string t127, .string t128, .string t129, .string (⟨#[]⟩ : ByteArray)]) ?_ 14 _ rfl; (with_reducible repeat (first | refine blk_drewN ?_ _ | refine blk_drew ?_ | refine blk_alloc ?_ _)); refine blk_put (cs := #[.int .u8 t116, .int .u8 t117, .int .u8 t118, .int .u8 t119, .int .u8 t120, .string t121, .string t122, .string t123, .string t124, .string t125, .string t126, .string t127, .string t128, .string (⟨#[]⟩ : ByteArray), .string (⟨#[]⟩ : ByteArray)]) ?_ 13 _ rfl; (with_reducible repeat (first | refine blk_drewN ?_ _ | refine blk_drew ?_ | refine blk_alloc ?_ _)); refine blk_put (cs := #[.int .u8 t116, .int .u8 t117, .int .u8 t118, .int .u8 t119, .int .u8 t120, .string t121, .string t122, .string t123, .string t124, .string t125, .string t126, .string t127, .string (⟨#[]⟩ : ByteArray), .string (⟨#[]⟩ : ByteArray), .string (⟨#[]⟩ : ByteArray)]) ?_ 12 _ rfl; (with_reducible repeat (first | refine blk_drewN ?_ _ | refine blk_drew ?_ | refine blk_alloc ?_ _)); refine blk_put (cs := #[.int .u8 t116, .int .u8 t117, .int .u8 t118, .int .u8 t119, .int .u8 t120, .string t121, .string t122, .string t123, .string t124, .string t125, .string t126, .string (⟨#[]⟩ : ByteArray), .string (⟨#[]⟩ : ByteArray), .string (⟨#[]⟩ : ByteArray), .string (⟨#[]⟩ : ByteArray)]) ?_ 11 _ rfl; (with_reducible repeat (first | refine blk_drewN ?_ _ | refine blk_drew ?_ | refine blk_alloc ?_ _)); refine blk_put (cs := #[.int .u8 t116, .int .u8 t117, .int .u8 t118, .int .u8 t119, .int .u8 t120, .string t121, .string t122, .string t123, .string t124, .string t125, .string (⟨#[]⟩ : ByteArray), .string (⟨#[]⟩ : ByteArray), .string (⟨#[]⟩ : ByteArray), .string (⟨#[]⟩ : ByteArray), .string (⟨#[]⟩ : ByteArray)]) ?_ 10 _ rfl; (with_reducible repeat (first | refine blk_drewN ?_ _ | refine blk_drew ?_ | refine blk_alloc ?_ _)); refine blk_put (cs := #[.int .u8 t116, .int .u8 t117, .int .u8 t118, .int .u8 t119, .int .u8 t120, .string t121, .string t122, .string t123, .string t124, .string (⟨#[]⟩ : ByteArray), .string (⟨#[]⟩ : ByteArray), .string (⟨#[]⟩ : ByteArray), .string (⟨#[]⟩ : ByteArray), .string (⟨#[]⟩ : ByteArray), .string (⟨#[]⟩ : ByteArray)]) ?_ 9 _ rfl; (with_reducible repeat (first | refine blk_drewN ?_ _ | refine blk_drew ?_ | refine blk_alloc ?_ _)); refine blk_put (cs := #[.int .u8 t116, .int .u8 t117, .int .u8 t118, .int .u8 t119, .int .u8 t120, .string t121, .string t122, .string t123, .string (⟨#[]⟩ : ByteArray), .string (⟨#[]⟩ : ByteArray), .string (⟨#[]⟩ : ByteArray), .string (⟨#[]⟩ : ByteArray), .string (⟨#[]⟩ : ByteArray), .string (⟨#[]⟩ : ByteArray), .string (⟨#[]⟩ : ByteArray)]) ?_ 8 _ rfl; (with_reducible repeat (first | refine blk_drewN ?_ _ | refine blk_drew ?_ | refine blk_alloc ?_ _)); refine blk_put (cs := #[.int .u8 t116, .int .u8 t117, .int .u8 t118, .int .u8 t119, .int .u8 t120, .string t121, .string t122, .string (⟨#[]⟩ : ByteArray), .string (⟨#[]⟩ : ByteArray), .string (⟨#[]⟩ : ByteArray), .string (⟨#[]⟩ : ByteArray), .string (⟨#[]⟩ : ByteArray), .string (⟨#[]⟩ : ByteArray), .string (⟨#[]⟩ : ByteArray), .string (⟨#[]⟩ : ByteArray)]) ?_ 7 _ rfl; (with_reducible repeat (first | refine blk_drewN ?_ _ | refine blk_drew ?_ | refine blk_alloc ?_ _)); refine blk_put (cs := #[.int .u8 t116, .int .u8 t117, .int .u8 t118, .int .u8 t119, .int .u8 t120, .string t121, .string (⟨#[]⟩ : ByteArray), .string (⟨#[]⟩ : ByteArray), .string (⟨#[]⟩ : ByteArray), .string (⟨#[]⟩ : ByteArray), .string (⟨#[]⟩ : ByteArray), .string (⟨#[]⟩ : ByteArray), .string (⟨#[]⟩ : ByteArray), .string (⟨#[]⟩ : ByteArray), .string (⟨#[]⟩ : ByteArray)]) ?_ 6 _ rfl; (with_reducible repeat (first | refine blk_drewN ?_ _ | refine blk_drew ?_ | refine blk_alloc ?_ _)); refine blk_put (cs := #[.int .u8 t116, .int .u8 t117, .int .u8 t118, .int .u8 t119, .int .u8 t120, .string (⟨#[]⟩ : ByteArray), .string (⟨#[]⟩ : ByteArray), .string (⟨#[]⟩ : ByteArray), .string (⟨#[]⟩ : ByteArray), .string (⟨#[]⟩ : ByteArray), .string (⟨#[]⟩ : ByteArray), .string (⟨#[]⟩ : ByteArray), .string (⟨#[]⟩ : ByteArray), .string (⟨#[]⟩ : ByteArray), .string (⟨#[]⟩ : ByteArray)]) ?_ 5 _ rfl; (with_reducible repeat (first | refine blk_drewN ?_ _ | refine blk_drew ?_ | refine blk_alloc ?_ _)); refine blk_put (cs := #[.int .u8 t116, .int .u8 t117, .int .u8 t118, .int .u8 t119, .int .u8 0, .string (⟨#[]⟩ : ByteArray), .string (⟨#[]⟩ : ByteArray), .string (⟨#[]⟩ : ByteArray), .string (⟨#[]⟩ : ByteArray), .string (⟨#[]⟩ : ByteArray), .string (⟨#[]⟩ : ByteArray), .string (⟨#[]⟩ : ByteArray), .string (⟨#[]⟩ : ByteArray), .string (⟨#[]⟩ : ByteArray), .string (⟨#[]⟩ : ByteArray)]) ?_ 4 _ rfl; (with_reducible repeat (first | refine blk_drewN ?_ _ | refine blk_drew ?_ | refine blk_alloc ?_ _)); refine blk_put (cs := #[.int .u8 t116, .int .u8 t117, .int .u8 t118, .int .u8 0, .int .u8 0, .string (⟨#[]⟩ : ByteArray), .string (⟨#[]⟩ : ByteArray), .string (⟨#[]⟩ : ByteArray), .string (⟨#[]⟩ : ByteArray), .string (⟨#[]⟩ : ByteArray), .string (⟨#[]⟩ : ByteArray), .string (⟨#[]⟩ : ByteArray), .string (⟨#[]⟩ : ByteArray), .string (⟨#[]⟩ : ByteArray), .string (⟨#[]⟩ : ByteArray)]) ?_ 3 _ rfl; (with_reducible repeat (first | refine blk_drewN ?_ _ | refine blk_drew ?_ | refine blk_alloc ?_ _)); refine blk_put (cs := #[.int .u8 t116, .int .u8 t117, .int .u8 0, .int .u8 0, .int .u8 0, .string (⟨#[]⟩ : ByteArray), .string (⟨#[]⟩ : ByteArray), .string (⟨#[]⟩ : ByteArray), .string (⟨#[]⟩ : ByteArray), .string (⟨#[]⟩ : ByteArray), .string (⟨#[]⟩ : ByteArray), .string (⟨#[]⟩ : ByteArray), .string (⟨#[]⟩ : ByteArray), .string (⟨#[]⟩ : ByteArray), .string (⟨#[]⟩ : ByteArray)]) ?_ 2 _ rfl; (with_reducible repeat (first | refine blk_drewN ?_ _ | refine blk_drew ?_ | refine blk_alloc ?_ _)); refine blk_put (cs := #[.int .u8 t116, .int .u8 0, .int .u8 0, .int .u8 0, .int .u8 0, .string (⟨#[]⟩ : ByteArray), .string (⟨#[]⟩ : ByteArray), .string (⟨#[]⟩ : ByteArray), .string (⟨#[]⟩ : ByteArray), .string (⟨#[]⟩ : ByteArray), .string (⟨#[]⟩ : ByteArray), .string (⟨#[]⟩ : ByteArray), .string (⟨#[]⟩ : ByteArray), .string (⟨#[]⟩ : ByteArray), .string (⟨#[]⟩ : ByteArray)]) ?_ 1 _ rfl; (with_reducible repeat (first | refine blk_drewN ?_ _ | refine blk_drew ?_ | refine blk_alloc ?_ _)); refine blk_put (cs := #[.int .u8 0, .int .u8 0, .int .u8 0, .int .u8 0, .int .u8 0, .string (⟨#[]⟩ : ByteArray), .string (⟨#[]⟩ : ByteArray), .string (⟨#[]⟩ : ByteArray), .string (⟨#[]⟩ : ByteArray), .string (⟨#[]⟩ : ByteArray), .string (⟨#[]⟩ : ByteArray), .string (⟨#[]⟩ : ByteArray), .string (⟨#[]⟩ : ByteArray), .string (⟨#[]⟩ : ByteArray), .string (⟨#[]⟩ : ByteArray)]) ?_ 0 _ rfl; (with_reducible repeat (first | refine blk_drewN ?_ _ | refine blk_drew ?_ | refine blk_alloc ?_ _)); exact BK133.out⟩, ⟨by repeat (first | (with_reducible first | exact HB.out | apply below_alloc | apply pw_below_drewN | apply below_drew1 | refine below_set ?_ GE133.out) | exact HB.out)⟩⟩
    · rw [if_neg c8] at H
      have c8b0 : (t131.toList == ([] : List UInt8)) = false := beq_eq_false_iff_ne.mpr c8
      have c8b1 : (t131.toList != ([] : List UInt8)) = true := bne_iff_ne.mpr c8
      (first | rw [c8b0] | (simp only [i64_w, i32_w]; rw [c8b0]) | skip)
      replace H := Option.bind_eq_some_iff.mp H
      obtain ⟨t134, A90, H⟩ := H
      replace H : (accept_Reply.j0 k a1 t131 (!t134) t116 t117 t118 t119 t120 t121 t122 t123 t124 t125 t126 t127 t128 t129 t130) = some (r1, r2) := H
      have A9 := Aside0.mk A90
      clear A90
      have H' := Aside0.mk H
      clear H
      go_wp2_with (first | (go_at_call 29; (with_reducible refine (frameA_Good.calls _ _ l0 t134 _ ?side3 ?side1 ?side2 A9.out).mono ?_); (case side1 => exact Kd.C_below HR0.out (by repeat (first | (with_reducible first | exact HB.out | apply below_alloc | apply pw_below_drewN | apply below_drew1 | refine below_set ?_ GE133.out) | exact HB.out))); (case side2 => exact HC0.out); (case side3 => exact GlobA.below HG.out (by repeat (first | (with_reducible first | exact HB.out | apply below_alloc | apply pw_below_drewN | apply below_drew1 | refine below_set ?_ GE133.out) | exact HB.out))); rintro e w10 ⟨rfl, hb⟩; have n0_ := Aside0.mk (blk_below (g := gb133) (o := .cells #[.int .u8 t116, .int .u8 t117, .int .u8 t118, .int .u8 t119, .int .u8 t120, .string t121, .string t122, .string t123, .string t124, .string t125, .string t126, .string t127, .string t128, .string t129, .string t130] 25 (0, 0)) (by (with_reducible repeat (first | refine blk_drewN ?_ _ | refine blk_drew ?_ | refine blk_alloc ?_ _)); refine blk_put (cs := #[.int .u8 t116, .int .u8 t117, .int .u8 t118, .int .u8 t119, .int .u8 t120, .string t121, .string t122, .string t123, .string t124, .string t125, .string t126, .string t127, .string t128, .string t129, .string (⟨#[]⟩ : ByteArray)]) ?_ 14 _ rfl; (with_reducible repeat (first | refine blk_drewN ?_ _ | refine blk_drew ?_ | refine blk_alloc ?_ _)); refine blk_put (cs := #[.int .u8 t116, .int .u8 t117, .int .u8 t118, .int .u8 t119, .int .u8 t120, .string t121, .string t122, .string t123, .string t124, .string t125, .string t126, .string t127, .string t128, .string (⟨#[]⟩ : ByteArray), .string (⟨#[]⟩ : ByteArray)]) ?_ 13 _ rfl; (with_reducible repeat (first | refine blk_drewN ?_ _ | refine blk_drew ?_ | refine blk_alloc ?_ _)); refine blk_put (cs := #[.int .u8 t116, .int .u8 t117, .int .u8 t118, .int .u8 t119, .int .u8 t120, .string t121, .string t122, .string t123, .string t124, .string t125, .string t126, .string t127, .string (⟨#[]⟩ : ByteArray), .string (⟨#[]⟩ : ByteArray), .string (⟨#[]⟩ : ByteArray)]) ?_ 12 _ rfl; (with_reducible repeat (first | refine blk_drewN ?_ _ | refine blk_drew ?_ | refine blk_alloc ?_ _)); refine blk_put (cs := #[.int .u8 t116, .int .u8 t117, .int .u8 t118, .int .u8 t119, .int .u8 t120, .string t121, .string t122, .string t123, .string t124, .string t125, .string t126, .string (⟨#[]⟩ : ByteArray), .string (⟨#[]⟩ : ByteArray), .string (⟨#[]⟩ : ByteArray), .string (⟨#[]⟩ : ByteArray)]) ?_ 11 _ rfl; (with_reducible repeat (first | refine blk_drewN ?_ _ | refine blk_drew ?_ | refine blk_alloc ?_ _)); refine blk_put (cs := #[.int .u8 t116, .int .u8 t117, .int .u8 t118, .int .u8 t119, .int .u8 t120, .string t121, .string t122, .string t123, .string t124, .string t125, .string (⟨#[]⟩ : ByteArray), .string (⟨#[]⟩ : ByteArray), .string (⟨#[]⟩ : ByteArray), .string (⟨#[]⟩ : ByteArray), .string (⟨#[]⟩ : ByteArray)]) ?_ 10 _ rfl; (with_reducible repeat (first | refine blk_drewN ?_ _ | refine blk_drew ?_ | refine blk_alloc ?_ _)); refine blk_put (cs := #[.int .u8 t116, .int .u8 t117, .int .u8 t118, .int .u8 t119, .int .u8 t120, .string t121, .string t122, .string t123, .string t124, .string (⟨#[]⟩ : ByteArray), .string (⟨#[]⟩ : ByteArray), .string (⟨#[]⟩ : ByteArray), .string (⟨#[]⟩ : ByteArray), .string (⟨#[]⟩ : ByteArray), .string (⟨#[]⟩ : ByteArray)]) ?_ 9 _ rfl; (with_reducible repeat (first | refine blk_drewN ?_ _ | refine blk_drew ?_ | refine blk_alloc ?_ _)); refine blk_put (cs := #[.int .u8 t116, .int .u8 t117, .int .u8 t118, .int .u8 t119, .int .u8 t120, .string t121, .string t122, .string t123, .string (⟨#[]⟩ : ByteArray), .string (⟨#[]⟩ : ByteArray), .string (⟨#[]⟩ : ByteArray), .string (⟨#[]⟩ : ByteArray), .string (⟨#[]⟩ : ByteArray), .string (⟨#[]⟩ : ByteArray), .string (⟨#[]⟩ : ByteArray)]) ?_ 8 _ rfl; (with_reducible repeat (first | refine blk_drewN ?_ _ | refine blk_drew ?_ | refine blk_alloc ?_ _)); refine blk_put (cs := #[.int .u8 t116, .int .u8 t117, .int .u8 t118, .int .u8 t119, .int .u8 t120, .string t121, .string t122, .string (⟨#[]⟩ : ByteArray), .string (⟨#[]⟩ : ByteArray), .string (⟨#[]⟩ : ByteArray), .string (⟨#[]⟩ : ByteArray), .string (⟨#[]⟩ : ByteArray), .string (⟨#[]⟩ : ByteArray), .string (⟨#[]⟩ : ByteArray), .string (⟨#[]⟩ : ByteArray)]) ?_ 7 _ rfl; (with_reducible repeat (first | refine blk_drewN ?_ _ | refine blk_drew ?_ | refine blk_alloc ?_ _)); refine blk_put (cs := #[.int .u8 t116, .int .u8 t117, .int .u8 t118, .int .u8 t119, .int .u8 t120, .string t121, .string (⟨#[]⟩ : ByteArray), .string (⟨#[]⟩ : ByteArray), .string (⟨#[]⟩ : ByteArray), .string (⟨#[]⟩ : ByteArray), .string (⟨#[]⟩ : ByteArray), .string (⟨#[]⟩ : ByteArray), .string (⟨#[]⟩ : ByteArray), .string (⟨#[]⟩ : ByteArray), .string (⟨#[]⟩ : ByteArray)]) ?_ 6 _ rfl; (with_reducible repeat (first | refine blk_drewN ?_ _ | refine blk_drew ?_ | refine blk_alloc ?_ _)); refine blk_put (cs := #[.int .u8 t116, .int .u8 t117, .int .u8 t118, .int .u8 t119, .int .u8 t120, .string (⟨#[]⟩ : ByteArray), .string (⟨#[]⟩ : ByteArray), .string (⟨#[]⟩ : ByteArray), .string (⟨#[]⟩ : ByteArray), .string (⟨#[]⟩ : ByteArray), .string (⟨#[]⟩ : ByteArray), .string (⟨#[]⟩ : ByteArray), .string (⟨#[]⟩ : ByteArray), .string (⟨#[]⟩ : ByteArray), .string (⟨#[]⟩ : ByteArray)]) ?_ 5 _ rfl; (with_reducible repeat (first | refine blk_drewN ?_ _ | refine blk_drew ?_ | refine blk_alloc ?_ _)); refine blk_put (cs := #[.int .u8 t116, .int .u8 t117, .int .u8 t118, .int .u8 t119, .int .u8 0, .string (⟨#[]⟩ : ByteArray), .string (⟨#[]⟩ : ByteArray), .string (⟨#[]⟩ : ByteArray), .string (⟨#[]⟩ : ByteArray), .string (⟨#[]⟩ : ByteArray), .string (⟨#[]⟩ : ByteArray), .string (⟨#[]⟩ : ByteArray), .string (⟨#[]⟩ : ByteArray), .string (⟨#[]⟩ : ByteArray), .string (⟨#[]⟩ : ByteArray)]) ?_ 4 _ rfl; (with_reducible repeat (first | refine blk_drewN ?_ _ | refine blk_drew ?_ | refine blk_alloc ?_ _)); refine blk_put (cs := #[.int .u8 t116, .int .u8 t117, .int .u8 t118, .int .u8 0, .int .u8 0, .string (⟨#[]⟩ : ByteArray), .string (⟨#[]⟩ : ByteArray), .string (⟨#[]⟩ : ByteArray), .string (⟨#[]⟩ : ByteArray), .string (⟨#[]⟩ : ByteArray), .string (⟨#[]⟩ : ByteArray), .string (⟨#[]⟩ : ByteArray), .string (⟨#[]⟩ : ByteArray), .string (⟨#[]⟩ : ByteArray), .string (⟨#[]⟩ : ByteArray)]) ?_ 3 _ rfl; (with_reducible repeat (first | refine blk_drewN ?_ _ | refine blk_drew ?_ | refine blk_alloc ?_ _)); refine blk_put (cs := #[.int .u8 t116, .int .u8 t117, .int .u8 0, .int .u8 0, .int .u8 0, .string (⟨#[]⟩ : ByteArray), .string (⟨#[]⟩ : ByteArray), .string (⟨#[]⟩ : ByteArray), .string (⟨#[]⟩ : ByteArray), .string (⟨#[]⟩ : ByteArray), .string (⟨#[]⟩ : ByteArray), .string (⟨#[]⟩ : ByteArray), .string (⟨#[]⟩ : ByteArray), .string (⟨#[]⟩ : ByteArray), .string (⟨#[]⟩ : ByteArray)]) ?_ 2 _ rfl; (with_reducible repeat (first | refine blk_drewN ?_ _ | refine blk_drew ?_ | refine blk_alloc ?_ _)); refine blk_put (cs := #[.int .u8 t116, .int .u8 0, .int .u8 0, .int .u8 0, .int .u8 0, .string (⟨#[]⟩ : ByteArray), .string (⟨#[]⟩ : ByteArray), .string (⟨#[]⟩ : ByteArray), .string (⟨#[]⟩ : ByteArray), .string (⟨#[]⟩ : ByteArray), .string (⟨#[]⟩ : ByteArray), .string (⟨#[]⟩ : ByteArray), .string (⟨#[]⟩ : ByteArray), .string (⟨#[]⟩ : ByteArray), .string (⟨#[]⟩ : ByteArray)]) ?_ 1 _ rfl; (with_reducible repeat (first | refine blk_drewN ?_ _ | refine blk_drew ?_ | refine blk_alloc ?_ _)); refine blk_put (cs := #[.int .u8 0, .int .u8 0, .int .u8 0, .int .u8 0, .int .u8 0, .string (⟨#[]⟩ : ByteArray), .string (⟨#[]⟩ : ByteArray), .string (⟨#[]⟩ : ByteArray), .string (⟨#[]⟩ : ByteArray), .string (⟨#[]⟩ : ByteArray), .string (⟨#[]⟩ : ByteArray), .string (⟨#[]⟩ : ByteArray), .string (⟨#[]⟩ : ByteArray), .string (⟨#[]⟩ : ByteArray), .string (⟨#[]⟩ : ByteArray)]) ?_ 0 _ rfl; (with_reducible repeat (first | refine blk_drewN ?_ _ | refine blk_drew ?_ | refine blk_alloc ?_ _)); exact BK133.out) hb); have n1_ := Aside0.mk (below_step (by repeat (first | (with_reducible first | exact HB.out | apply below_alloc | apply pw_below_drewN | apply below_drew1 | refine below_set ?_ GE133.out) | exact HB.out)) hb); clear BK133; clear HB; have BK133 := n0_; have HB := n1_; clear n0_ n1_; (try clear hb); (try clear hb2); (try clear hk); (try clear hi)))
      go_meet
      case rel => exact ⟨_, (!t134), (by first | rfl | (simp; done) | (simp [*]; done)), H', ⟨by first | omega | exact Nat.le_refl _⟩, ⟨by (with_reducible repeat (first | refine blk_drewN ?_ _ | refine blk_drew ?_ | refine blk_alloc ?_ _)); exact BK133.out⟩, ⟨by repeat (first | (with_reducible first | exact HB.out | apply below_alloc | apply pw_below_drewN | apply below_drew1 | refine below_set ?_ GE133.out) | exact HB.out)⟩⟩
  case rest =>
    clear HC4
    try clear c1
    try clear p2
    try clear c8
    try clear c8b0
    try clear c8b1
    try clear c10
    try clear hcz7_0
    try clear hcz7_1
    try clear hcz7_10
    try clear hcz7_11
    try clear hcz7_12
    try clear hcz7_13
    try clear hcz7_14
    try clear hcz7_2
    try clear hcz7_3
    try clear hcz7_4
    try clear hcz7_5
    try clear hcz7_6
    try clear hcz7_7
    try clear hcz7_8
    try clear hcz7_9
    try clear hfz7_0
    try clear hfz7_1
    try clear hfz7_10
    try clear hfz7_11
    try clear hfz7_12
    try clear hfz7_13
    try clear hfz7_14
    try clear hfz7_2
    try clear hfz7_3
    try clear hfz7_4
    try clear hfz7_5
    try clear hfz7_6
    try clear hfz7_7
    try clear hfz7_8
    try clear hfz7_9
    obtain ⟨kq, x24_3, rfl, HA, HJ3, BK133, HB⟩ := hcut
    cases kq with
    | zero => exact absurd HA.out (by simp [accept_Reply.j0])
    | succ kj3 =>
      have H := HA.out
      clear HA
      simp only [accept_Reply.j0] at H
      by_cases c11 : x24_3 = true
      · subst c11
        have H1 : (some (([] : List Int), false)) = some (r1, r2) := by rw [if_pos rfl] at H; exact H
        clear H
        have H := H1
        clear H1
        simp only [Option.some.injEq, Prod.mk.injEq] at H
        obtain ⟨rfl, rfl⟩ := H
        go_wp2
        go_ret2
        exact ⟨_, by first | rfl | (simp [errW_none, errW_some] <;> rfl) | (simp [*, errW_none, errW_some] <;> rfl), by first | exact Kd.R_nil _ _ _ _ _ | exact Kd.N_nil _ _ _ _ _ | exact Kd.V_nil _ _ _ _ _ | exact Kd.Q_nil _ _ _ _ _ | exact Kd.S_nil _ _ _ _ _, by repeat (first | (with_reducible first | exact HB.out | apply below_alloc | apply pw_below_drewN | apply below_drew1 | refine below_set ?_ GE133.out) | exact HB.out)⟩
      · replace c11 := Bool.eq_false_iff.mpr c11
        subst c11
        have H1 : (if t131.toList = ([65, 65] : List UInt8) then (accept_Reply.j1 kj3 t131 (!a1) t116 t117 t118 t119 t120 t121 t122 t123 t124 t125 t126 t127 t128 t129 t130) else (accept_Reply.j1 kj3 t131 false t116 t117 t118 t119 t120 t121 t122 t123 t124 t125 t126 t127 t128 t129 t130)) = some (r1, r2) := by rw [if_neg (show ¬ (false = true) by decide)] at H; exact H
        clear H
        have H := H1
        clear H1
        have HC12 := Aside0.mk H
        clear H
        go_upto_region 4 with (fail)
        go_cut [30] (fun v30 wc => ∃ (kq : Nat) (x30_11 : Bool), v30 = .bool x30_11 ∧ Aside0 (accept_Reply.j1 kq t131 x30_11 t116 t117 t118 t119 t120 t121 t122 t123 t124 t125 t126 t127 t128 t129 t130 = some (r1, r2)) ∧ Aside0 (kq ≤ kj3) ∧ Aside0 (wc.heap[gb133]? = some (.cells #[.int .u8 t116, .int .u8 t117, .int .u8 t118, .int .u8 t119, .int .u8 t120, .string t121, .string t122, .string t123, .string t124, .string t125, .string t126, .string t127, .string t128, .string t129, .string t130] 25 (0, 0))) ∧ Aside0 (Below w.heap.size w wc))
        case first =>
          have H := HC12.out
          clear HC12
          by_cases c13 : t131.toList = ([65, 65] : List UInt8)
          · rw [if_pos c13] at H
            have c13b0 : (t131.toList == ([65, 65] : List UInt8)) = true := beq_iff_eq.mpr c13
            have c13b1 : (t131.toList != ([65, 65] : List UInt8)) = false := bne_eq_false_iff_eq.mpr c13
            clear c13
            (first | rw [c13b0] | (simp only [i64_w, i32_w]; rw [c13b0]) | skip)
            have H' := Aside0.mk H
            clear H
            go_wp2
            go_meet
            case rel => exact ⟨_, (!a1), (by first | rfl | (simp; done) | (simp [*]; done)), H', ⟨by have := HJ3.out; first | omega | exact Nat.le_refl _⟩, ⟨by (with_reducible repeat (first | refine blk_drewN ?_ _ | refine blk_drew ?_ | refine blk_alloc ?_ _)); exact BK133.out⟩, ⟨by repeat (first | (with_reducible first | exact HB.out | apply below_alloc | apply pw_below_drewN | apply below_drew1 | refine below_set ?_ GE133.out) | exact HB.out)⟩⟩
          · rw [if_neg c13] at H
            have c13b0 : (t131.toList == ([65, 65] : List UInt8)) = false := beq_eq_false_iff_ne.mpr c13
            have c13b1 : (t131.toList != ([65, 65] : List UInt8)) = true := bne_iff_ne.mpr c13
            (first | rw [c13b0] | (simp only [i64_w, i32_w]; rw [c13b0]) | skip)
            have H' := Aside0.mk H
            clear H
            go_wp2
            go_meet
            case rel => exact ⟨_, (false), (by first | rfl | (simp; done) | (simp [*]; done)), H', ⟨by have := HJ3.out; first | omega | exact Nat.le_refl _⟩, ⟨by (with_reducible repeat (first | refine blk_drewN ?_ _ | refine blk_drew ?_ | refine blk_alloc ?_ _)); exact BK133.out⟩, ⟨by repeat (first | (with_reducible first | exact HB.out | apply below_alloc | apply pw_below_drewN | apply below_drew1 | refine below_set ?_ GE133.out) | exact HB.out)⟩⟩
        case rest =>
          clear HC12
          try clear c1
          try clear p2
          try clear c8
          try clear c8b0
          try clear c8b1
          try clear c10
          try clear c11
          try clear c12
          try clear c13
          try clear c13b0
          try clear c13b1
          try clear hcz7_0
          try clear hcz7_1
          try clear hcz7_10
          try clear hcz7_11
          try clear hcz7_12
          try clear hcz7_13
          try clear hcz7_14
          try clear hcz7_2
          try clear hcz7_3
          try clear hcz7_4
          try clear hcz7_5
          try clear hcz7_6
          try clear hcz7_7
          try clear hcz7_8
          try clear hcz7_9
          try clear hfz7_0
          try clear hfz7_1
          try clear hfz7_10
          try clear hfz7_11
          try clear hfz7_12
          try clear hfz7_13
          try clear hfz7_14
          try clear hfz7_2
          try clear hfz7_3
          try clear hfz7_4
          try clear hfz7_5
          try clear hfz7_6
          try clear hfz7_7
          try clear hfz7_8
          try clear hfz7_9
          try clear p2
          obtain ⟨kq, x30_11, rfl, HA, HJ11, BK133, HB⟩ := hcut
          cases kq with
          | zero => exact absurd HA.out (by simp [accept_Reply.j1])
          | succ kj11 =>
            have H := HA.out
            clear HA
            simp only [accept_Reply.j1] at H
            have HC14 := Aside0.mk H
            clear H
            go_upto_if 30 with (fail)
            go_cut [7] (fun v7 wc => ∃ (kq : Nat) (x7_13 : ByteArray), v7 = .string x7_13 ∧ Aside0 (accept_Reply.j2 kq x7_13 t116 t117 t118 t119 t120 t121 t122 t123 t124 t125 t126 t127 t128 t129 t130 = some (r1, r2)) ∧ Aside0 (kq ≤ kj11) ∧ Aside0 (wc.heap[gb133]? = some (.cells #[.int .u8 t116, .int .u8 t117, .int .u8 t118, .int .u8 t119, .int .u8 t120, .string t121, .string t122, .string t123, .string t124, .string t125, .string t126, .string t127, .string t128, .string t129, .string t130] 25 (0, 0))) ∧ Aside0 (Below w.heap.size w wc))
            case first =>
              have H := HC14.out
              clear HC14
              by_cases c15 : x30_11 = true
              · subst c15
                have H1 : (accept_Reply.j2 kj11 (⟨#[65, 69]⟩ : ByteArray) t116 t117 t118 t119 t120 t121 t122 t123 t124 t125 t126 t127 t128 t129 t130) = some (r1, r2) := by rw [if_pos rfl] at H; exact H
                clear H
                have H := H1
                clear H1
                have H' := Aside0.mk H
                clear H
                go_wp2
                go_meet
                case rel => exact ⟨_, ((⟨#[65, 69]⟩ : ByteArray)), (by first | rfl | (simp; done) | (simp [*]; done)), H', ⟨by have := HJ3.out; have := HJ11.out; first | omega | exact Nat.le_refl _⟩, ⟨by (with_reducible repeat (first | refine blk_drewN ?_ _ | refine blk_drew ?_ | refine blk_alloc ?_ _)); exact BK133.out⟩, ⟨by repeat (first | (with_reducible first | exact HB.out | apply below_alloc | apply pw_below_drewN | apply below_drew1 | refine below_set ?_ GE133.out) | exact HB.out)⟩⟩
              · replace c15 := Bool.eq_false_iff.mpr c15
                subst c15
                have H1 : (accept_Reply.j2 kj11 t131 t116 t117 t118 t119 t120 t121 t122 t123 t124 t125 t126 t127 t128 t129 t130) = some (r1, r2) := by rw [if_neg (show ¬ (false = true) by decide)] at H; exact H
                clear H
                have H := H1
                clear H1
                have H' := Aside0.mk H
                clear H
                go_wp2
                go_meet
                case rel => exact ⟨_, (t131), (by first | rfl | (simp; done) | (simp [*]; done)), H', ⟨by have := HJ3.out; have := HJ11.out; first | omega | exact Nat.le_refl _⟩, ⟨by (with_reducible repeat (first | refine blk_drewN ?_ _ | refine blk_drew ?_ | refine blk_alloc ?_ _)); exact BK133.out⟩, ⟨by repeat (first | (with_reducible first | exact HB.out | apply below_alloc | apply pw_below_drewN | apply below_drew1 | refine below_set ?_ GE133.out) | exact HB.out)⟩⟩
            case rest =>
              clear HC14
              try clear c1
              try clear p2
              try clear c8
              try clear c8b0
              try clear c8b1
              try clear c10
              try clear c11
              try clear c12
              try clear c13
              try clear c13b0
              try clear c13b1
              try clear c15
              try clear hcz7_0
              try clear hcz7_1
              try clear hcz7_10
              try clear hcz7_11
              try clear hcz7_12
              try clear hcz7_13
              try clear hcz7_14
              try clear hcz7_2
              try clear hcz7_3
              try clear hcz7_4
              try clear hcz7_5
              try clear hcz7_6
              try clear hcz7_7
              try clear hcz7_8
              try clear hcz7_9
              try clear hfz7_0
              try clear hfz7_1
              try clear hfz7_10
              try clear hfz7_11
              try clear hfz7_12
              try clear hfz7_13
              try clear hfz7_14
              try clear hfz7_2
              try clear hfz7_3
              try clear hfz7_4
              try clear hfz7_5
              try clear hfz7_6
              try clear hfz7_7
              try clear hfz7_8
              try clear hfz7_9
              try clear p2
              obtain ⟨kq, x7_13, rfl, HA, HJ13, BK133, HB⟩ := hcut
              cases kq with
              | zero => exact absurd HA.out (by simp [accept_Reply.j2])
              | succ kj13 =>
                have H := HA.out
                clear HA
                simp only [accept_Reply.j2] at H
                replace H := Option.bind_eq_some_iff.mp H
                obtain ⟨⟨t135, t138⟩, A160, H⟩ := H
                replace H : (if t138 = 0 then ((frameA_Wrap.f t135).bind fun bt139 => (some (bt139.1, (bt139.2 == 0)))) else (some (([] : List Int), false))) = some (r1, r2) := H
                have A16 := Aside0.mk A160
                clear A160
                by_cases c17 : t138 = 0
                · rw [if_pos c17] at H
                  have c17b0 : (t138 == 0) = true := beq_iff_eq.mpr c17
                  have c17b1 : (t138 != 0) = false := bne_eq_false_iff_eq.mpr c17
                  clear c17
                  replace H := Option.bind_eq_some_iff.mp H
                  obtain ⟨⟨t139, t140⟩, A180, H⟩ := H
                  replace H : (some (t139, (t140 == 0))) = some (r1, r2) := H
                  have A18 := Aside0.mk A180
                  clear A180
                  simp only [Option.some.injEq, Prod.mk.injEq] at H
                  obtain ⟨rfl, rfl⟩ := H
                  have hcz19_0 : wc.cell? ⟨gb133, 0, none⟩ = some (.int .u8 t116) := (blk_cell BK133.out 0).trans rfl
                  have hcz19_1 : wc.cell? ⟨gb133, 1, none⟩ = some (.int .u8 t117) := (blk_cell BK133.out 1).trans rfl
                  have hcz19_2 : wc.cell? ⟨gb133, 2, none⟩ = some (.int .u8 t118) := (blk_cell BK133.out 2).trans rfl
                  have hcz19_3 : wc.cell? ⟨gb133, 3, none⟩ = some (.int .u8 t119) := (blk_cell BK133.out 3).trans rfl
                  have hcz19_4 : wc.cell? ⟨gb133, 4, none⟩ = some (.int .u8 t120) := (blk_cell BK133.out 4).trans rfl
                  have hcz19_5 : wc.cell? ⟨gb133, 5, none⟩ = some (.string t121) := (blk_cell BK133.out 5).trans rfl
                  have hcz19_6 : wc.cell? ⟨gb133, 6, none⟩ = some (.string t122) := (blk_cell BK133.out 6).trans rfl
                  have hcz19_7 : wc.cell? ⟨gb133, 7, none⟩ = some (.string t123) := (blk_cell BK133.out 7).trans rfl
                  have hcz19_8 : wc.cell? ⟨gb133, 8, none⟩ = some (.string t124) := (blk_cell BK133.out 8).trans rfl
                  have hcz19_9 : wc.cell? ⟨gb133, 9, none⟩ = some (.string t125) := (blk_cell BK133.out 9).trans rfl
                  have hcz19_10 : wc.cell? ⟨gb133, 10, none⟩ = some (.string t126) := (blk_cell BK133.out 10).trans rfl
                  have hcz19_11 : wc.cell? ⟨gb133, 11, none⟩ = some (.string t127) := (blk_cell BK133.out 11).trans rfl
                  have hcz19_12 : wc.cell? ⟨gb133, 12, none⟩ = some (.string t128) := (blk_cell BK133.out 12).trans rfl
                  have hcz19_13 : wc.cell? ⟨gb133, 13, none⟩ = some (.string t129) := (blk_cell BK133.out 13).trans rfl
                  have hcz19_14 : wc.cell? ⟨gb133, 14, none⟩ = some (.string t130) := (blk_cell BK133.out 14).trans rfl
                  have hfz19_0 := blk_frozen BK133.out 0
                  have hfz19_1 := blk_frozen BK133.out 1
                  have hfz19_2 := blk_frozen BK133.out 2
                  have hfz19_3 := blk_frozen BK133.out 3
                  have hfz19_4 := blk_frozen BK133.out 4
                  have hfz19_5 := blk_frozen BK133.out 5
                  have hfz19_6 := blk_frozen BK133.out 6
                  have hfz19_7 := blk_frozen BK133.out 7
                  have hfz19_8 := blk_frozen BK133.out 8
                  have hfz19_9 := blk_frozen BK133.out 9
                  have hfz19_10 := blk_frozen BK133.out 10
                  have hfz19_11 := blk_frozen BK133.out 11
                  have hfz19_12 := blk_frozen BK133.out 12
                  have hfz19_13 := blk_frozen BK133.out 13
                  have hfz19_14 := blk_frozen BK133.out 14
                  go_wp2_with (first | ((with_reducible refine gate_callee (f := 30) rfl ?_); refine goesL_ (some 34) rfl rfl Tryd.func30 (by kernel_rfl) rfl #[.agg #[.int .u8 t116, .int .u8 t117, .int .u8 t118, .int .u8 t119, .int .u8 t120, .string t121, .string t122, .string t123, .string t124, .string t125, .string t126, .string t127, .string t128, .string t129, .string t130], .string x7_13] rfl (by (try simp only [List.map_toArray, List.map_cons, List.map_nil]); first | done | rfl | (simp only [List.length_drop, List.length_take]; rfl)) ?_; (with_reducible refine (ack_Build.calls kj13 t116 t117 t118 t119 t120 t121 t122 t123 t124 t125 t126 t127 t128 t129 t130 x7_13 t135 t138 _ ?side1 A16.out).mono ?_); (case side1 => exact GlobA.below HG.out (by repeat (first | (with_reducible first | exact HB.out | apply below_alloc | apply pw_below_drewN | apply below_drew1 | refine below_set ?_ GE133.out) | exact HB.out))); rintro e w20 ⟨v136, rfl, ho0, hb⟩; refine ⟨_, rfl, ?_⟩; have n0_ := Aside0.mk (Kd.R_lower ho0 (below_size (by repeat (first | (with_reducible first | exact HB.out | apply below_alloc | apply pw_below_drewN | apply below_drew1 | refine below_set ?_ GE133.out) | exact HB.out)))); have n1_ := Aside0.mk (blk_below (g := gb133) (o := .cells #[.int .u8 t116, .int .u8 t117, .int .u8 t118, .int .u8 t119, .int .u8 t120, .string t121, .string t122, .string t123, .string t124, .string t125, .string t126, .string t127, .string t128, .string t129, .string t130] 25 (0, 0)) (by (with_reducible repeat (first | refine blk_drewN ?_ _ | refine blk_drew ?_ | refine blk_alloc ?_ _)); exact BK133.out) hb); have n2_ := Aside0.mk (below_step (by repeat (first | (with_reducible first | exact HB.out | apply below_alloc | apply pw_below_drewN | apply below_drew1 | refine below_set ?_ GE133.out) | exact HB.out)) hb); clear BK133; clear HB; have HO137 := n0_; have BK133 := n1_; have HB := n2_; clear n0_ n1_ n2_; (try clear hb); (try clear hb2); (try clear hk); (try clear hi); (try clear ho0); obtain ⟨Ao21, co21, eo21⟩ := Kd.R_slice HO137.out; subst eo21) | ((with_reducible refine gate_callee (f := 31) rfl ?_); refine goesL_ (some 41) rfl rfl Tryd.func31 (by kernel_rfl) rfl #[.slice Ao21 t135.length co21] rfl (by (try simp only [List.map_toArray, List.map_cons, List.map_nil]); first | done | rfl | (simp only [List.length_drop, List.length_take]; rfl)) ?_; (with_reducible refine (frameA_Wrap.calls _ _ t135 t139 t140 _ ?side3 ?side1 ?side2 A18.out).mono ?_); (case side1 => repeat (first | exact (Kd.R_reads' HO137.out).2.2 | (with_reducible refine Kd.C_alloc ?_ _) | (with_reducible refine Kd.C_drewN ?_ _) | (with_reducible refine Kd.C_drew ?_))); (case side2 => exact (Kd.R_reads' HO137.out).2.1); (case side3 => exact GlobA.below HG.out (by repeat (first | (with_reducible first | exact HB.out | apply below_alloc | apply pw_below_drewN | apply below_drew1 | refine below_set ?_ GE133.out) | exact HB.out))); rintro e w22 ⟨v141, rfl, ho0, hb⟩; refine ⟨_, rfl, ?_⟩; have n0_ := Aside0.mk (Kd.R_elder' (by (with_reducible repeat (first | apply Kd.R_alloc | apply Kd.R_drewN | apply Kd.R_drew)); exact HO137.out) (Kd.R_base ho0) hb); have n1_ := Aside0.mk (Kd.R_lower (Kd.R_new' ho0 (Kd.R_lt (by (with_reducible repeat (first | apply Kd.R_alloc | apply Kd.R_drewN | apply Kd.R_drew)); exact HO137.out))) (below_size (by repeat (first | (with_reducible first | exact HB.out | apply below_alloc | apply pw_below_drewN | apply below_drew1 | refine below_set ?_ GE133.out) | exact HB.out)))); have n2_ := Aside0.mk (blk_below (g := gb133) (o := .cells #[.int .u8 t116, .int .u8 t117, .int .u8 t118, .int .u8 t119, .int .u8 t120, .string t121, .string t122, .string t123, .string t124, .string t125, .string t126, .string t127, .string t128, .string t129, .string t130] 25 (0, 0)) (by (with_reducible repeat (first | refine blk_drewN ?_ _ | refine blk_drew ?_ | refine blk_alloc ?_ _)); exact BK133.out) hb); have n3_ := Aside0.mk (below_step (by repeat (first | (with_reducible first | exact HB.out | apply below_alloc | apply pw_below_drewN | apply below_drew1 | refine below_set ?_ GE133.out) | exact HB.out)) hb); clear HO137; clear BK133; clear HB; have HO137 := n0_; have HO142 := n1_; have BK133 := n2_; have HB := n3_; clear n0_ n1_ n2_ n3_; (try clear hb); (try clear hb2); (try clear hk); (try clear hi); (try clear ho0)))
                  go_ret2
                  exact ⟨_, by first | rfl | (simp [errW_none, errW_some] <;> rfl) | (simp [*, errW_none, errW_some] <;> rfl), by (with_reducible repeat (first | apply Kd.R_alloc | apply Kd.R_drewN | apply Kd.R_drew)); exact Kd.R_mono HO142.out (fun _ hk => trivial), by repeat (first | (with_reducible first | exact HB.out | apply below_alloc | apply pw_below_drewN | apply below_drew1 | refine below_set ?_ GE133.out) | exact HB.out)⟩
                · rw [if_neg c17] at H
                  have c17b0 : (t138 == 0) = false := beq_eq_false_iff_ne.mpr c17
                  have c17b1 : (t138 != 0) = true := bne_iff_ne.mpr c17
                  simp only [Option.some.injEq, Prod.mk.injEq] at H
                  obtain ⟨rfl, rfl⟩ := H
                  have hcz23_0 : wc.cell? ⟨gb133, 0, none⟩ = some (.int .u8 t116) := (blk_cell BK133.out 0).trans rfl
                  have hcz23_1 : wc.cell? ⟨gb133, 1, none⟩ = some (.int .u8 t117) := (blk_cell BK133.out 1).trans rfl
                  have hcz23_2 : wc.cell? ⟨gb133, 2, none⟩ = some (.int .u8 t118) := (blk_cell BK133.out 2).trans rfl
                  have hcz23_3 : wc.cell? ⟨gb133, 3, none⟩ = some (.int .u8 t119) := (blk_cell BK133.out 3).trans rfl
                  have hcz23_4 : wc.cell? ⟨gb133, 4, none⟩ = some (.int .u8 t120) := (blk_cell BK133.out 4).trans rfl
                  have hcz23_5 : wc.cell? ⟨gb133, 5, none⟩ = some (.string t121) := (blk_cell BK133.out 5).trans rfl
                  have hcz23_6 : wc.cell? ⟨gb133, 6, none⟩ = some (.string t122) := (blk_cell BK133.out 6).trans rfl
                  have hcz23_7 : wc.cell? ⟨gb133, 7, none⟩ = some (.string t123) := (blk_cell BK133.out 7).trans rfl
                  have hcz23_8 : wc.cell? ⟨gb133, 8, none⟩ = some (.string t124) := (blk_cell BK133.out 8).trans rfl
                  have hcz23_9 : wc.cell? ⟨gb133, 9, none⟩ = some (.string t125) := (blk_cell BK133.out 9).trans rfl
                  have hcz23_10 : wc.cell? ⟨gb133, 10, none⟩ = some (.string t126) := (blk_cell BK133.out 10).trans rfl
                  have hcz23_11 : wc.cell? ⟨gb133, 11, none⟩ = some (.string t127) := (blk_cell BK133.out 11).trans rfl
                  have hcz23_12 : wc.cell? ⟨gb133, 12, none⟩ = some (.string t128) := (blk_cell BK133.out 12).trans rfl
                  have hcz23_13 : wc.cell? ⟨gb133, 13, none⟩ = some (.string t129) := (blk_cell BK133.out 13).trans rfl
                  have hcz23_14 : wc.cell? ⟨gb133, 14, none⟩ = some (.string t130) := (blk_cell BK133.out 14).trans rfl
                  have hfz23_0 := blk_frozen BK133.out 0
                  have hfz23_1 := blk_frozen BK133.out 1
                  have hfz23_2 := blk_frozen BK133.out 2
                  have hfz23_3 := blk_frozen BK133.out 3
                  have hfz23_4 := blk_frozen BK133.out 4
                  have hfz23_5 := blk_frozen BK133.out 5
                  have hfz23_6 := blk_frozen BK133.out 6
                  have hfz23_7 := blk_frozen BK133.out 7
                  have hfz23_8 := blk_frozen BK133.out 8
                  have hfz23_9 := blk_frozen BK133.out 9
                  have hfz23_10 := blk_frozen BK133.out 10
                  have hfz23_11 := blk_frozen BK133.out 11
                  have hfz23_12 := blk_frozen BK133.out 12
                  have hfz23_13 := blk_frozen BK133.out 13
                  have hfz23_14 := blk_frozen BK133.out 14
                  go_wp2_with (first | ((with_reducible refine gate_callee (f := 30) rfl ?_); refine goesL_ (some 34) rfl rfl Tryd.func30 (by kernel_rfl) rfl #[.agg #[.int .u8 t116, .int .u8 t117, .int .u8 t118, .int .u8 t119, .int .u8 t120, .string t121, .string t122, .string t123, .string t124, .string t125, .string t126, .string t127, .string t128, .string t129, .string t130], .string x7_13] rfl (by (try simp only [List.map_toArray, List.map_cons, List.map_nil]); first | done | rfl | (simp only [List.length_drop, List.length_take]; rfl)) ?_; (with_reducible refine (ack_Build.calls kj13 t116 t117 t118 t119 t120 t121 t122 t123 t124 t125 t126 t127 t128 t129 t130 x7_13 t135 t138 _ ?side1 A16.out).mono ?_); (case side1 => exact GlobA.below HG.out (by repeat (first | (with_reducible first | exact HB.out | apply below_alloc | apply pw_below_drewN | apply below_drew1 | refine below_set ?_ GE133.out) | exact HB.out))); rintro e w24 ⟨v136, rfl, ho0, hb⟩; refine ⟨_, rfl, ?_⟩; have n0_ := Aside0.mk (Kd.R_lower ho0 (below_size (by repeat (first | (with_reducible first | exact HB.out | apply below_alloc | apply pw_below_drewN | apply below_drew1 | refine below_set ?_ GE133.out) | exact HB.out)))); have n1_ := Aside0.mk (blk_below (g := gb133) (o := .cells #[.int .u8 t116, .int .u8 t117, .int .u8 t118, .int .u8 t119, .int .u8 t120, .string t121, .string t122, .string t123, .string t124, .string t125, .string t126, .string t127, .string t128, .string t129, .string t130] 25 (0, 0)) (by (with_reducible repeat (first | refine blk_drewN ?_ _ | refine blk_drew ?_ | refine blk_alloc ?_ _)); exact BK133.out) hb); have n2_ := Aside0.mk (below_step (by repeat (first | (with_reducible first | exact HB.out | apply below_alloc | apply pw_below_drewN | apply below_drew1 | refine below_set ?_ GE133.out) | exact HB.out)) hb); clear BK133; clear HB; have HO137 := n0_; have BK133 := n1_; have HB := n2_; clear n0_ n1_ n2_; (try clear hb); (try clear hb2); (try clear hk); (try clear hi); (try clear ho0)))
                  go_ret2
                  exact ⟨_, by first | rfl | (simp [errW_none, errW_some] <;> rfl) | (simp [*, errW_none, errW_some] <;> rfl), by first | exact Kd.R_nil _ _ _ _ _ | exact Kd.N_nil _ _ _ _ _ | exact Kd.V_nil _ _ _ _ _ | exact Kd.Q_nil _ _ _ _ _ | exact Kd.S_nil _ _ _ _ _, by repeat (first | (with_reducible first | exact HB.out | apply below_alloc | apply pw_below_drewN | apply below_drew1 | refine below_set ?_ GE133.out) | exact HB.out)⟩

end Go.Proofs.YtciagecaegoppaaDoor.QReply
namespace Go.Proofs.YtciagecaegoppaaDoor
set_option linter.unusedVariables false
set_option linter.unusedSimpArgs false
set_option maxRecDepth 100000
open Go.RowKit Go.Proofs.YtciagecaegoppaaDoorW.PrintWords Go.Proofs.YtciagecaegoppaaDoorW.PrintLast Go.Proofs.YtciagecaegoppaaDoorW.PrintMore

def msgA : List Int := [77, 83, 72, 124, 94, 126, 92, 38, 124, 124, 124, 124, 124, 124, 124, 65, 68, 84, 124, 55, 124, 80, 124, 50, 46, 53]
def msgB : List Int := [77, 83, 72, 124, 94, 126, 92, 38, 124, 124, 124, 124, 124, 124, 124, 65, 68, 84, 124, 55, 124, 80, 124, 57]
def ansA : List Int := [11, 77, 83, 72, 124, 94, 126, 92, 38, 124, 124, 124, 124, 124, 124, 124, 65, 67, 75, 124, 55, 124, 80, 124, 50, 46, 53, 13, 77, 83, 65, 124, 65, 69, 124, 55, 13, 28, 13]
theorem verdict_A : accept_Verdict.f msgA = some (124, 94, 126, 92, 38, ⟨#[]⟩, ⟨#[]⟩, ⟨#[]⟩, ⟨#[]⟩, ⟨#[]⟩, ⟨#[]⟩, ⟨#[65, 68, 84]⟩, ⟨#[55]⟩, ⟨#[80]⟩, ⟨#[50, 46, 53]⟩, ⟨#[65, 65]⟩, 0) := by kernel_rfl
theorem verdict_B : accept_Verdict.f msgB = some (124, 94, 126, 92, 38, ⟨#[]⟩, ⟨#[]⟩, ⟨#[]⟩, ⟨#[]⟩, ⟨#[]⟩, ⟨#[]⟩, ⟨#[65, 68, 84]⟩, ⟨#[55]⟩, ⟨#[80]⟩, ⟨#[57]⟩, ⟨#[65, 82]⟩, 12) := by kernel_rfl
theorem reply_A : QReply.accept_Reply.f 20 msgA false = some (ansA, true) := by kernel_rfl

theorem const_cells (w : World) (cs : Array Value) (xs : List Int) (c : Nat × Nat) (hl : xs.length ≤ 9223372036854775807) (h : cs.toList = xs.map (Value.int .u8)) : Kd.C (Kd.int .u8) (w.alloc (.cells cs 5 c)) (some ⟨w.heap.size, 0, none⟩) xs.length xs := by
  refine Kd.C_of_reads (d := (0 : Int)) (enc := Value.int .u8) (h1 := fun _ => rfl) ⟨rfl, hl, fun hp => ⟨_, rfl, fun j hj => ?_⟩⟩
  rw [add_plain, World.cell?_alloc_mark, ← Array.getElem?_toList, h, List.getElem?_map, List.getElem?_eq_getElem hj, List.getD_eq_getElem?_getD, List.getElem?_eq_getElem hj]
  rfl
def law_alive.f : Option Bool := some true
theorem verdict_callA (b : Nat) (W : World) (hG : GlobA W) (h : Kd.C (Kd.int .u8) W (some ⟨b, 0, none⟩) 26 msgA) : Calls Tryd.prog 10 #[.slice (some ⟨b, 0, none⟩) 26 26] W fun e w' => e = .returned (.tuple #[.agg #[.int .u8 124, .int .u8 94, .int .u8 126, .int .u8 92, .int .u8 38, .string ⟨#[]⟩, .string ⟨#[]⟩, .string ⟨#[]⟩, .string ⟨#[]⟩, .string ⟨#[]⟩, .string ⟨#[]⟩, .string ⟨#[65, 68, 84]⟩, .string ⟨#[55]⟩, .string ⟨#[80]⟩, .string ⟨#[50, 46, 53]⟩], .string ⟨#[65, 65]⟩, .int .i64 0]) ∧ Below W.heap.size W w' :=
  accept_Verdict.calls (some ⟨b, 0, none⟩) 26 msgA 124 94 126 92 38 ⟨#[]⟩ ⟨#[]⟩ ⟨#[]⟩ ⟨#[]⟩ ⟨#[]⟩ ⟨#[]⟩ ⟨#[65, 68, 84]⟩ ⟨#[55]⟩ ⟨#[80]⟩ ⟨#[50, 46, 53]⟩ ⟨#[65, 65]⟩ 0 W hG h (by decide) verdict_A
theorem verdict_callB (b : Nat) (W : World) (hG : GlobA W) (h : Kd.C (Kd.int .u8) W (some ⟨b, 0, none⟩) 24 msgB) : Calls Tryd.prog 10 #[.slice (some ⟨b, 0, none⟩) 24 24] W fun e w' => e = .returned (.tuple #[.agg #[.int .u8 124, .int .u8 94, .int .u8 126, .int .u8 92, .int .u8 38, .string ⟨#[]⟩, .string ⟨#[]⟩, .string ⟨#[]⟩, .string ⟨#[]⟩, .string ⟨#[]⟩, .string ⟨#[]⟩, .string ⟨#[65, 68, 84]⟩, .string ⟨#[55]⟩, .string ⟨#[80]⟩, .string ⟨#[57]⟩], .string ⟨#[65, 82]⟩, .int .i64 12]) ∧ Below W.heap.size W w' :=
  accept_Verdict.calls (some ⟨b, 0, none⟩) 24 msgB 124 94 126 92 38 ⟨#[]⟩ ⟨#[]⟩ ⟨#[]⟩ ⟨#[]⟩ ⟨#[]⟩ ⟨#[]⟩ ⟨#[65, 68, 84]⟩ ⟨#[55]⟩ ⟨#[80]⟩ ⟨#[57]⟩ ⟨#[65, 82]⟩ 12 W hG h (by decide) verdict_B
theorem reply_callA (b : Nat) (W : World) (hG : GlobA W) (h : Kd.C (Kd.int .u8) W (some ⟨b, 0, none⟩) 26 msgA) : Calls Tryd.prog 12 #[.slice (some ⟨b, 0, none⟩) 26 26, .bool false] W fun e w' => ∃ v0 : Value, e = .returned (.tuple #[v0, .bool true]) ∧ Kd.R (Kd.int .u8) 5 w' W.heap.size (fun _ => True) v0 ansA ∧ Below W.heap.size W w' :=
  QReply.accept_Reply.calls 20 (some ⟨b, 0, none⟩) 26 msgA false ansA true W hG h (by decide) reply_A
set_option maxHeartbeats 2000000 in
theorem law_alive.calls (r : Bool) (w : World) (hG : GlobA w) (h : law_alive.f = some r) :
    Calls Tryd.prog 9 #[] w fun e w' => e = .returned (.bool r) ∧ Below w.heap.size w w' := by
  obtain rfl := Option.some.inj h
  have HG := Aside0.mk hG
  have HA := Aside0.mk (const_cells w #[.int .u8 77, .int .u8 83, .int .u8 72, .int .u8 124, .int .u8 94, .int .u8 126, .int .u8 92, .int .u8 38, .int .u8 124, .int .u8 124, .int .u8 124, .int .u8 124, .int .u8 124, .int .u8 124, .int .u8 124, .int .u8 65, .int .u8 68, .int .u8 84, .int .u8 124, .int .u8 55, .int .u8 124, .int .u8 80, .int .u8 124, .int .u8 50, .int .u8 46, .int .u8 53] msgA (26, 27) (by decide) rfl)
  have hc1 := Lib.run_convert_bytes_const (P := Tryd.prog) w 26 5 #[.int .u8 77, .int .u8 83, .int .u8 72, .int .u8 124, .int .u8 94, .int .u8 126, .int .u8 92, .int .u8 38, .int .u8 124, .int .u8 124, .int .u8 124, .int .u8 124, .int .u8 124, .int .u8 124, .int .u8 124, .int .u8 65, .int .u8 68, .int .u8 84, .int .u8 124, .int .u8 55, .int .u8 124, .int .u8 80, .int .u8 124, .int .u8 50, .int .u8 46, .int .u8 53] 26 26 Tryd.underlying26 Tryd.underlying5
  have heq : ((strOfNums ansA).toList == ([11, 77, 83, 72, 124, 94, 126, 92, 38, 124, 124, 124, 124, 124, 124, 124, 65, 67, 75, 124, 55, 124, 80, 124, 50, 46, 53, 13, 77, 83, 65, 124, 65, 69, 124, 55, 13, 28, 13] : List UInt8)) = true := by kernel_rfl
  clear hG h
  go_enter Tryd.func9, Tryd.ntmps9
  go_wp2_with (first
    | (go_at_call 10; refine (verdict_callB (w2.heap.size + 1) _ ?g2 ?r2).mono ?_; (case g2 => exact HG.out.below (below_alloc (below_alloc HB2.out _) _)); (case r2 => (have h := const_cells (w2.alloc (.cells #[.int .u8 124, .int .u8 94, .int .u8 126, .int .u8 92, .int .u8 38, .string ⟨#[]⟩, .string ⟨#[]⟩, .string ⟨#[]⟩, .string ⟨#[]⟩, .string ⟨#[]⟩, .string ⟨#[]⟩, .string ⟨#[65, 68, 84]⟩, .string ⟨#[55]⟩, .string ⟨#[80]⟩, .string ⟨#[50, 46, 53]⟩] 25)) #[.int .u8 77, .int .u8 83, .int .u8 72, .int .u8 124, .int .u8 94, .int .u8 126, .int .u8 92, .int .u8 38, .int .u8 124, .int .u8 124, .int .u8 124, .int .u8 124, .int .u8 124, .int .u8 124, .int .u8 124, .int .u8 65, .int .u8 68, .int .u8 84, .int .u8 124, .int .u8 55, .int .u8 124, .int .u8 80, .int .u8 124, .int .u8 57] msgB (24, 25) (by decide) rfl; rw [World.size_alloc] at h; exact h)); rintro e w4 ⟨rfl, hb4⟩; have HB4 := Aside0.mk (below_step (below_alloc (below_alloc HB2.out _) _) hb4); have HA4 := Aside0.mk (Kd.C_below (Kd.C_below HA2.out (below_alloc (below_alloc (Below.refl _ _) _) _)) hb4); clear hb4 hc2)
    | (go_at_call 10; refine (verdict_callA w.heap.size _ ?g1 ?r1).mono ?_; (case g1 => exact HG.out.below (below_alloc (Below.refl _ _) _)); (case r1 => exact HA.out); rintro e w2 ⟨rfl, hb2⟩; have HB2 := Aside0.mk (below_step (below_alloc (Below.refl _ _) _) hb2); have HA2 := Aside0.mk (Kd.C_below HA.out hb2); have hc2 := Lib.run_convert_bytes_const (P := Tryd.prog) (w2.alloc (.cells #[.int .u8 124, .int .u8 94, .int .u8 126, .int .u8 92, .int .u8 38, .string ⟨#[]⟩, .string ⟨#[]⟩, .string ⟨#[]⟩, .string ⟨#[]⟩, .string ⟨#[]⟩, .string ⟨#[]⟩, .string ⟨#[65, 68, 84]⟩, .string ⟨#[55]⟩, .string ⟨#[80]⟩, .string ⟨#[50, 46, 53]⟩] 25)) 26 5 #[.int .u8 77, .int .u8 83, .int .u8 72, .int .u8 124, .int .u8 94, .int .u8 126, .int .u8 92, .int .u8 38, .int .u8 124, .int .u8 124, .int .u8 124, .int .u8 124, .int .u8 124, .int .u8 124, .int .u8 124, .int .u8 65, .int .u8 68, .int .u8 84, .int .u8 124, .int .u8 55, .int .u8 124, .int .u8 80, .int .u8 124, .int .u8 57] 24 24 Tryd.underlying26 Tryd.underlying5; rw [World.size_alloc] at hc2; clear hb2 hc1)
    | (go_at_call 12; refine (reply_callA w.heap.size _ ?g3 ?r3).mono ?_; (case g3 => exact HG.out.below (below_alloc HB4.out _)); (case r3 => exact Kd.C_below HA4.out (below_alloc (Below.refl _ _) _)); rintro e w6 ⟨v0, rfl, hR, hb6⟩; have HB6 := Aside0.mk (below_step (below_alloc HB4.out _) hb6); have hcv := own_string (P := Tryd.prog) Tryd.underlying26 Tryd.underlying5 Tryd.underlying9 (Kd.own_of_R hR); clear hb6 hR))
  go_ret
  exact ⟨rfl, HB6.out⟩
end Go.Proofs.YtciagecaegoppaaDoor
namespace Go.Proofs.YtciagecaegoppaaDoor
set_option linter.unusedVariables false
set_option linter.unusedSimpArgs false
open Go.RowKit Go.Proofs.YtciagecaegoppaaDoorW.PrintWords Go.Proofs.YtciagecaegoppaaDoorW.PrintLast Go.Proofs.YtciagecaegoppaaDoorW.PrintMore

theorem size_strOf (l : List UInt8) : (strOf l).size = l.length := by simp [strOf, ByteArray.size]
theorem size_strOfNums (l : List Int) : (strOfNums l).size = l.length := by simp [strOfNums, ByteArray.size]
theorem pieces_le (c : UInt8) (l : List UInt8) : ∀ p ∈ pieces c l, p.length ≤ l.length := by
  induction l with
  | nil => simp [pieces]
  | cons b r ih =>
    rw [pieces]
    by_cases h : b = c
    · rw [if_pos h]
      intro p hp
      rcases List.mem_cons.1 hp with rfl | hp
      · simp
      · have := ih p hp
        simp
        omega
    · rw [if_neg h]
      cases hq : pieces c r with
      | nil => intro p hp; simp at hp; subst hp; simp
      | cons q qs =>
        rw [hq] at ih
        intro p hp
        rcases List.mem_cons.1 hp with rfl | hp
        · have := ih q List.mem_cons_self
          simp
          omega
        · have := ih p (List.mem_cons_of_mem _ hp)
          simp
          omega
theorem pieces_pos (c : UInt8) (l : List UInt8) : 0 < (pieces c l).length := by
  rw [(cut_pieces c l).1]
  simp
theorem pieces_one (c : UInt8) (l : List UInt8) (h : (pieces c l).length = 1) : pieces c l = [l] := by
  induction l with
  | nil => rfl
  | cons b r ih =>
    rw [pieces] at h ⊢
    have hp := pieces_pos c r
    by_cases hb : b = c
    · rw [if_pos hb] at h
      simp at h
      rw [h] at hp
      simp at hp
    · rw [if_neg hb] at h ⊢
      cases hq : pieces c r with
      | nil => rw [hq] at hp; simp at hp
      | cons q qs =>
        rw [hq] at h ih
        simp at h
        subst h
        have := ih rfl
        simp at this
        subst this
        rfl
theorem piecesS_le (c : Int) (s : ByteArray) : ∀ p ∈ piecesS c s, p.size ≤ s.size := by
  intro p hp
  obtain ⟨q, hq, rfl⟩ := List.mem_map.1 hp
  rw [size_strOf, ← data_length]
  exact pieces_le _ _ q hq
theorem getD_mem_or {α : Type} (l : List α) (i : Nat) (d : α) : l.getD i d ∈ l ∨ l.getD i d = d := by
  rw [List.getD_eq_getElem?_getD]
  cases h : l[i]? with
  | none => exact .inr rfl
  | some x => exact .inl (List.mem_of_getElem? h)
theorem foundIn_size (n : Int) (l : List ByteArray) (m : Nat) (h : ∀ p ∈ l, p.size ≤ m) : (foundIn n l).size ≤ m := by
  unfold foundIn
  split
  · rcases getD_mem_or l (n - 1).toNat ByteArray.empty with hm | hm
    · exact h _ hm
    · rw [hm]; exact Nat.zero_le _
  · exact Nat.zero_le _
theorem nth_tot (s : ByteArray) (c n : Int) (h : s.size < 4294967281) : segment_nth.f s c n = some (foundIn n (piecesS c s), ((piecesS c s).length : Int)) := if_pos h
theorem splitS_le (l : List Int) : ∀ p ∈ splitS l, p.size ≤ l.length := by
  have h := piecesS_le 13 (strOfNums l)
  rw [size_strOfNums] at h
  unfold splitS
  split
  · exact fun p hp => h p (List.dropLast_sublist _ |>.mem hp)
  · exact h
theorem splitS_pos (l : List Int) (hl : 0 < l.length) : 0 < (splitS l).length := by
  unfold splitS
  have hp := pieces_pos (13 : Int).toNat.toUInt8 (strOfNums l).data.toList
  have hlen : (piecesS 13 (strOfNums l)).length = (pieces (13 : Int).toNat.toUInt8 (strOfNums l).data.toList).length := by simp [piecesS]
  split
  · rename_i he
    rw [List.length_dropLast]
    rcases Nat.lt_or_ge 1 (piecesS 13 (strOfNums l)).length with h1 | h1
    · omega
    · exfalso
      have h2 := pieces_one _ _ (show (pieces (13 : Int).toNat.toUInt8 (strOfNums l).data.toList).length = 1 by omega)
      unfold piecesS at he
      rw [h2] at he
      simp [strOf, Lib.toList_data, strOfNums] at he
      subst he
      simp at hl
  · omega
theorem right_l0 : ∀ (k : Nat) (x3 x12 : List Int) (i : Int), 0 ≤ i → i ≤ (x12.length : Int) → (x12.length : Int) - i < k → x12.length < 1000 → ∃ r, QRight.delim_Right.l0 k x3 x12 (x12.length : Int) i = some r
  | 0, _, _, _, _, _, h, _ => by exfalso; omega
  | k + 1, x3, x12, i, h0, h1, h2, h3 => by
    unfold QRight.delim_Right.l0
    by_cases hi : i < (x12.length : Int)
    · have ih := right_l0 k x3 x12 (i + 1) (by omega) (by omega) (by omega) h3
      have hw : wrap64 (i + 1) = i + 1 := by unfold wrap64; omega
      rw [if_pos hi, if_pos h0, if_pos hi]
      simp only [bytes_IndexByte.f, Option.bind_some, hw]
      repeat' split
      all_goals first | exact ⟨_, rfl⟩ | exact ih
    · rw [if_neg hi]
      exact ⟨_, rfl⟩
theorem right_tot (d0 d1 d2 d3 d4 : Int) : ∃ r, QRight.delim_Right.f 10 d0 d1 d2 d3 d4 = some r := by
  unfold QRight.delim_Right.f
  simp only [QRight.delim_Plain.f, QRight.delim_five.f, Option.bind_some]
  split
  · exact ⟨_, rfl⟩
  · exact right_l0 10 _ [d0, d1, d2, d3, d4] 0 (Int.le_refl _) (by simp) (by simp) (by simp)
theorem read_tot (l : List Int) : ∃ r, delim_Read.f l = some r := by
  unfold delim_Read.f
  split
  · exact ⟨_, rfl⟩
  · split
    · exact ⟨_, rfl⟩
    · obtain ⟨r, hr⟩ := right_tot (l.getD 3 0) (l.getD 4 0) (l.getD 5 0) (l.getD 6 0) (l.getD 7 0)
      rw [hr]
      exact ⟨_, rfl⟩
theorem read_ok_len {l : List Int} {d0 d1 d2 d3 d4 : Int} (h : delim_Read.f l = some (d0, d1, d2, d3, d4, 0)) : 9 ≤ l.length := by
  rcases Nat.lt_or_ge l.length 9 with hl | hl
  · unfold delim_Read.f at h
    rw [if_pos hl] at h
    simp at h
  · exact hl
theorem mn_le (a : Int) (h : 0 ≤ a) : 0 ≤ mn a 3 ∧ mn a 3 ≤ a := by unfold mn; split <;> omega
theorem name_tot (s : ByteArray) : ∃ t, QField.segment_Name.f s = some t := by
  unfold QField.segment_Name.f
  have := mn_le (s.size : Int) (by omega)
  rw [if_pos this.1, if_pos this.2]
  exact ⟨_, rfl⟩
theorem size_extract (s : ByteArray) (a b : Nat) : (s.extract a b).size ≤ s.size := by
  rw [← data_length, ← data_length, Lib.extract_data, List.length_take, List.length_drop]
  omega
theorem cutPrefix_tot (a p : ByteArray) : ∃ x ok, QField.strings_CutPrefix.f a p = some (x, ok) ∧ x.size ≤ a.size := by
  unfold QField.strings_CutPrefix.f QField.stringslite_CutPrefix.f QField.stringslite_HasPrefix.f
  by_cases h : (a.size : Int) ≥ (p.size : Int)
  · rw [if_pos h, if_pos (by omega), if_pos (by omega)]
    simp only [Option.bind_some]
    split
    · (try rw [if_pos (by omega), if_pos (by omega)])
      exact ⟨_, _, rfl, size_extract _ _ _⟩
    · exact ⟨_, _, rfl, Nat.le_refl _⟩
  · rw [if_neg h]
    exact ⟨_, _, rfl, Nat.le_refl _⟩
theorem piecesS_lenS (c : Int) (s : ByteArray) : (piecesS c s).length ≤ s.size + 1 := by
  have := pieces_len c.toNat.toUInt8 s.data.toList
  rw [data_length] at this
  simpa [piecesS] using this
theorem cut_rest_le (l : List UInt8) (c : UInt8) (h : (Lib.cut l [c]).2.2 = true) : (Lib.cut l [c]).2.1.length ≤ l.length := Nat.le_of_lt ((cut_pieces c l).2 h)
theorem field_tot (s : ByteArray) (d0 d1 d2 d3 d4 k : Int) (h : s.size < 4294967281) (hk : 2 ≤ k ∧ k < 1000) : ∃ x b, QField.segment_Field.f s k d0 d1 d2 d3 d4 = some (x, b) ∧ x.size ≤ s.size := by
  unfold QField.segment_Field.f
  rw [if_neg (by omega)]
  have key : ∃ x n, QField.segment_field.f s k d0 d1 d2 d3 d4 = some (x, n) ∧ x.size ≤ s.size := by
    unfold QField.segment_field.f
    obtain ⟨t, ht⟩ := name_tot s
    rw [ht]
    simp only [Option.bind_some]
    split
    · rw [if_pos (by rw [size_strOfNums]; simp)]
      obtain ⟨x, ok, hx, hle⟩ := cutPrefix_tot s ((⟨#[77, 83, 72]⟩ : ByteArray) ++ strOfNums [d0])
      rw [hx]
      simp only [Option.bind_some]
      split
      · rw [nth_tot _ _ _ (by omega)]
        simp only [Option.bind_some]
        rw [if_neg (by omega)]
        exact ⟨_, _, rfl, Nat.le_trans (foundIn_size _ _ x.size (piecesS_le _ _)) hle⟩
      · exact ⟨_, _, rfl, Nat.zero_le _⟩
    · unfold strings_Cut.f
      rw [if_pos h]
      simp only [Option.bind_some]
      split
      · rename_i hc
        have hd : (strOfNums [d0]).data.toList = [UInt8.ofNat d0.toNat] := rfl
        rw [hd] at hc ⊢
        have hle := cut_rest_le _ _ hc
        have hsz : (⟨(Lib.cut s.data.toList [UInt8.ofNat d0.toNat]).2.1.toArray⟩ : ByteArray).size ≤ s.size := by
          rw [data_length] at hle
          show (List.toArray _).size ≤ s.size
          rw [List.size_toArray]
          exact hle
        rw [nth_tot _ _ _ (by omega)]
        simp only [Option.bind_some]
        exact ⟨_, _, rfl, Nat.le_trans (foundIn_size _ _ _ (piecesS_le _ _)) hsz⟩
      · exact ⟨_, _, rfl, Nat.zero_le _⟩
  obtain ⟨x, n, hx, hle⟩ := key
  rw [hx]
  exact ⟨_, _, rfl, hle⟩
theorem fieldOf_tot (s : ByteArray) (d0 d1 d2 d3 d4 k : Int) (h : s.size < 4294967281) (hk : 2 ≤ k ∧ k < 1000) : ∃ x, fieldOf s d0 d1 d2 d3 d4 k = some x ∧ x.size ≤ s.size := by
  obtain ⟨x, b, hx, hle⟩ := field_tot s d0 d1 d2 d3 d4 k h hk
  exact ⟨x, by unfold fieldOf; rw [hx]; rfl, hle⟩
/-- Ten texts that are no longer than n. -/
def headFit (n : Nat) (h : HeadT) : Prop := ∀ k, k < 10 → (vOf h.2.2.2.2.2.1 h.2.2.2.2.2.2.1 h.2.2.2.2.2.2.2.1 h.2.2.2.2.2.2.2.2.1 h.2.2.2.2.2.2.2.2.2.1 h.2.2.2.2.2.2.2.2.2.2.1 h.2.2.2.2.2.2.2.2.2.2.2.1 h.2.2.2.2.2.2.2.2.2.2.2.2.1 h.2.2.2.2.2.2.2.2.2.2.2.2.2.1 h.2.2.2.2.2.2.2.2.2.2.2.2.2.2.1 k).size ≤ n
theorem headFit_Z (n : Nat) (e : Int) : headFit n (headZ e) := by
  intro k hk
  rcases k with _ | _ | _ | _ | _ | _ | _ | _ | _ | _ | k
  all_goals first | exact Nat.zero_le _ | omega
theorem vOf_le (v0 v1 v2 v3 v4 v5 v6 v7 v8 v9 : ByteArray) (n : Nat) (h : v0.size ≤ n ∧ v1.size ≤ n ∧ v2.size ≤ n ∧ v3.size ≤ n ∧ v4.size ≤ n ∧ v5.size ≤ n ∧ v6.size ≤ n ∧ v7.size ≤ n ∧ v8.size ≤ n ∧ v9.size ≤ n) (k : Nat) (hk : k < 10) : (vOf v0 v1 v2 v3 v4 v5 v6 v7 v8 v9 k).size ≤ n := by
  obtain ⟨h0, h1, h2, h3, h4, h5, h6, h7, h8, h9⟩ := h
  rcases k with _ | _ | _ | _ | _ | _ | _ | _ | _ | _ | k
  · exact h0
  · exact h1
  · exact h2
  · exact h3
  · exact h4
  · exact h5
  · exact h6
  · exact h7
  · exact h8
  · exact h9
  · omega
theorem mshRead_tot (l : List Int) (hl : l.length < 4294967281) : ∃ r, msh_Read.f l = some r ∧ headFit l.length r := by
  unfold msh_Read.f
  obtain ⟨⟨d0, d1, d2, d3, d4, e0⟩, hd⟩ := read_tot l
  rw [hd]
  simp only [Option.bind_some]
  split
  · exact ⟨_, rfl, headFit_Z _ _⟩
  · rename_i he
    have he0 : e0 = 0 := by simpa using he
    subst he0
    have h9 := read_ok_len hd
    rw [show segment_Split.f l = some (splitS l) from if_pos hl]
    simp only [Option.bind_some]
    have hp := splitS_pos l (by omega)
    rw [if_pos hp]
    have hs : (rdOf ByteArray.empty (splitS l) 0).size ≤ l.length := by
      rcases getD_mem_or (splitS l) (0 : Int).toNat ByteArray.empty with hm | hm
      · exact splitS_le l _ hm
      · unfold rdOf; rw [hm]; exact Nat.zero_le _
    generalize rdOf ByteArray.empty (splitS l) 0 = s at hs ⊢
    obtain ⟨f, b, hf, hfs⟩ := field_tot s d0 d1 d2 d3 d4 2 (by omega) (by omega)
    rw [hf]
    simp only [Option.bind_some]
    split
    · exact ⟨_, rfl, headFit_Z _ _⟩
    · unfold msh_Read.rest
      obtain ⟨v0, h0, z0⟩ := fieldOf_tot s d0 d1 d2 d3 d4 3 (by omega) (by omega)
      obtain ⟨v1, h1, z1⟩ := fieldOf_tot s d0 d1 d2 d3 d4 4 (by omega) (by omega)
      obtain ⟨v2, h2, z2⟩ := fieldOf_tot s d0 d1 d2 d3 d4 5 (by omega) (by omega)
      obtain ⟨v3, h3, z3⟩ := fieldOf_tot s d0 d1 d2 d3 d4 6 (by omega) (by omega)
      obtain ⟨v4, h4, z4⟩ := fieldOf_tot s d0 d1 d2 d3 d4 7 (by omega) (by omega)
      obtain ⟨v5, h5, z5⟩ := fieldOf_tot s d0 d1 d2 d3 d4 8 (by omega) (by omega)
      obtain ⟨v6, h6, z6⟩ := fieldOf_tot s d0 d1 d2 d3 d4 9 (by omega) (by omega)
      obtain ⟨v7, h7, z7⟩ := fieldOf_tot s d0 d1 d2 d3 d4 10 (by omega) (by omega)
      obtain ⟨v8, h8, z8⟩ := fieldOf_tot s d0 d1 d2 d3 d4 11 (by omega) (by omega)
      obtain ⟨v9, h9', z9⟩ := fieldOf_tot s d0 d1 d2 d3 d4 12 (by omega) (by omega)
      rw [h0, h1, h2, h3, h4, h5, h6, h7, h8, h9']
      simp only [Option.bind_some]
      exact ⟨_, rfl, fun k hk => vOf_le v0 v1 v2 v3 v4 v5 v6 v7 v8 v9 l.length ⟨by omega, by omega, by omega, by omega, by omega, by omega, by omega, by omega, by omega, by omega⟩ k hk⟩
theorem first_tot (s : ByteArray) (d0 d1 d2 d3 d4 : Int) (h : s.size < 4294967281) : ∃ x, Qfirst.msh_first.f s d0 d1 d2 d3 d4 = some x := by
  unfold Qfirst.msh_first.f Qfirst.segment_Part.f Qfirst.segment_again.f
  rw [nth_tot _ _ _ h]
  simp only [Option.bind_some]
  rw [if_pos (by omega)]
  simp only [Option.bind_some]
  split
  · rw [nth_tot _ _ _ (Nat.lt_of_le_of_lt (foundIn_size _ _ s.size (piecesS_le _ _)) h)]
    simp only [Option.bind_some]
    rw [if_pos (by omega)]
    exact ⟨_, rfl⟩
  · exact ⟨_, rfl⟩
theorem check_tot (d0 d1 d2 d3 d4 : Int) (s5 s6 s7 s8 s9 s10 s11 s12 s13 s14 : ByteArray) (h13 : s13.size < 4294967281) (h14 : s14.size < 4294967281) : ∃ r, msh_Check.f d0 d1 d2 d3 d4 s5 s6 s7 s8 s9 s10 s11 s12 s13 s14 = some r := by
  unfold msh_Check.f
  split
  · exact ⟨_, rfl⟩
  · obtain ⟨v, hv⟩ := first_tot s14 d0 d1 d2 d3 d4 h14
    obtain ⟨p, hp⟩ := first_tot s13 d0 d1 d2 d3 d4 h13
    rw [hv, hp]
    simp only [Option.bind_some]
    split
    · exact ⟨_, rfl⟩
    · split <;> exact ⟨_, rfl⟩
end Go.Proofs.YtciagecaegoppaaDoor
namespace Go.Proofs.YtciagecaegoppaaDoor
set_option linter.unusedVariables false
set_option linter.unusedSimpArgs false
set_option maxRecDepth 20000
open Go.RowKit Go.Proofs.YtciagecaegoppaaDoorW.PrintWords Go.Proofs.YtciagecaegoppaaDoorW.PrintLast Go.Proofs.YtciagecaegoppaaDoorW.PrintMore

theorem joinTail_le (sep : List UInt8) (r : List (List UInt8)) (n : Nat) (h : ∀ x ∈ r, x.length ≤ n) : (Lib.joinTail sep r).length ≤ r.length * (n + sep.length) := by
  induction r with
  | nil => simp [Lib.joinTail]
  | cons x r ih =>
    have h1 := h x List.mem_cons_self
    have h2 := ih (fun y hy => h y (List.mem_cons_of_mem _ hy))
    unfold Lib.joinTail at h2 ⊢
    simp only [List.map_cons, List.flatten_cons, List.length_append, List.length_cons, Nat.succ_mul]
    omega
theorem join_le (xs : List (List UInt8)) (sep : List UInt8) (n : Nat) (h : ∀ x ∈ xs, x.length ≤ n) : (Lib.join xs sep).length ≤ xs.length * (n + sep.length) := by
  cases xs with
  | nil => simp [Lib.join_nil]
  | cons x r =>
    rw [Lib.join_cons]
    have h1 := h x List.mem_cons_self
    have h2 := joinTail_le sep r n (fun y hy => h y (List.mem_cons_of_mem _ hy))
    simp only [List.length_append, List.length_cons, Nat.succ_mul]
    omega
theorem joinS_le (l : List ByteArray) (sep : ByteArray) (n : Nat) (h : ∀ x ∈ l, x.size ≤ n) : (joinS l sep).length ≤ l.length * (n + sep.size) := by
  have := join_le (l.map (·.data.toList)) sep.data.toList n (fun x hx => by
    obtain ⟨y, hy, rfl⟩ := List.mem_map.1 hx
    rw [data_length]
    exact h y hy)
  rw [List.length_map, data_length] at this
  exact this
theorem size_mk (l : List UInt8) : (⟨l.toArray⟩ : ByteArray).size = l.length := by
  show (List.toArray _).size = _
  rw [List.size_toArray]
theorem join_tot (l : List ByteArray) (sep : ByteArray) (n : Nat) (h : ∀ x ∈ l, x.size ≤ n) (hl : l.length ≤ 100) (hn : n ≤ 1000000) (hs : sep.size ≤ 10) : strings_Join.f l sep = some ⟨(joinS l sep).toArray⟩ ∧ (⟨(joinS l sep).toArray⟩ : ByteArray).size ≤ l.length * (n + sep.size) := by
  have hj := joinS_le l sep n h
  have hb : l.length * (n + sep.size) ≤ 100 * (1000000 + 10) := Nat.mul_le_mul hl (by omega)
  exact ⟨by unfold strings_Join.f; rw [if_pos ⟨by omega, by omega⟩], by rw [size_mk]; exact hj⟩

/-- segment.Make answers; its text is no longer than its parts, and a sign more each. -/
theorem make_tot (d0 d1 d2 d3 d4 : Int) (nm : ByteArray) (l : List ByteArray) (n : Nat) (h : ∀ x ∈ l, x.size ≤ n) (hl : l.length ≤ 20) (hn : n ≤ 10000) (hnm : nm.size ≤ 10) : ∃ s, QMake.segment_Make.f d0 d1 d2 d3 d4 nm l = some s ∧ s.size ≤ 1000000 := by
  have hsep : (strOfNums [d0]).size = 1 := by rw [size_strOfNums]; rfl
  unfold QMake.segment_Make.f QMake.delim_Join.f
  have hmn : 0 ≤ mn (l.length : Int) 2 ∧ mn (l.length : Int) 2 ≤ l.length ∧ mn (l.length : Int) 2 ≤ 2 := by unfold mn; split <;> omega
  split
  · rw [if_pos hmn.1, if_pos hmn.2.1]
    obtain ⟨e1, b1⟩ := join_tot (l.take (mn (l.length : Int) 2).toNat) ⟨#[]⟩ n (fun x hx => h x (List.mem_of_mem_take hx)) (by rw [List.length_take]; omega) (by omega) (by decide)
    rw [e1]
    simp only [Option.bind_some]
    generalize (⟨(joinS (l.take (mn (l.length : Int) 2).toNat) ⟨#[]⟩).toArray⟩ : ByteArray) = t at b1
    have ht : t.size ≤ 20 * 10000 := Nat.le_trans b1 (Nat.mul_le_mul (by rw [List.length_take]; omega) (show n + 0 ≤ 10000 by omega))
    have hap : (nm ++ t).size = nm.size + t.size := ByteArray.size_append
    rw [if_pos (by omega), if_pos (by simp; omega)]
    obtain ⟨e2, b2⟩ := join_tot ([nm ++ t] ++ l.drop (mn (l.length : Int) 2).toNat) (strOfNums [d0]) 300000 (fun x hx => by
      rcases List.mem_append.1 hx with hx | hx
      · rw [List.mem_singleton.1 hx]; omega
      · have := h x (List.mem_of_mem_drop hx); omega) (by simp; omega) (by omega) (by omega)
    rw [e2]
    simp only [Option.bind_some]
    refine ⟨_, rfl, Nat.le_trans ?_ (show 100 * 10000 ≤ 1000000 by decide)⟩
    have hj := joinS_le ([nm ++ t] ++ l.drop (mn (l.length : Int) 2).toNat) (strOfNums [d0]) 300000
    rw [size_mk]
    have hx := join_le (([nm ++ t] ++ l.drop (mn (l.length : Int) 2).toNat).map (·.data.toList)) (strOfNums [d0]).data.toList
    have hh : (joinS ([nm ++ t] ++ l.drop (mn (l.length : Int) 2).toNat) (strOfNums [d0])).length ≤ (nm ++ t).size + (l.drop (mn (l.length : Int) 2).toNat).length * (n + 1) := by
      unfold joinS
      rw [List.singleton_append, List.map_cons, Lib.join_cons, List.length_append, data_length]
      have := joinTail_le (strOfNums [d0]).data.toList ((l.drop (mn (l.length : Int) 2).toNat).map (·.data.toList)) n (fun x hx => by
        obtain ⟨y, hy, rfl⟩ := List.mem_map.1 hx
        rw [data_length]
        exact h y (List.mem_of_mem_drop hy))
      rw [List.length_map, data_length, hsep] at this
      omega
    have hm : (l.drop (mn (l.length : Int) 2).toNat).length * (n + 1) ≤ 20 * 10001 := Nat.mul_le_mul (by rw [List.length_drop]; omega) (by omega)
    omega
  · simp only [Option.bind_some]
    rw [if_pos (by simp; omega)]
    obtain ⟨e2, b2⟩ := join_tot ([nm] ++ l) (strOfNums [d0]) 10000 (fun x hx => by
      rcases List.mem_append.1 hx with hx | hx
      · rw [List.mem_singleton.1 hx]; omega
      · have := h x hx; omega) (by simp; omega) (by omega) (by omega)
    rw [e2]
    simp only [Option.bind_some]
    refine ⟨_, rfl, Nat.le_trans b2 ?_⟩
    rw [hsep]
    have : ([nm] ++ l).length * (10000 + 1) ≤ 21 * 10001 := Nat.mul_le_mul (by simp; omega) (Nat.le_refl _)
    omega

theorem scan_tot (fl : ByteArray) (v : Nat → ByteArray) (hv : ∀ k, k < 10 → (v k).size < 4294967281) : ∀ m k, k + m = 10 → ∃ n, wScan fl v m k = some n
  | 0, k, h => ⟨k, rfl⟩
  | m + 1, k, h => by
    unfold wScan strings_Contains.f
    have hk := hv k (by omega)
    rw [if_pos hk, if_pos hk]
    simp only [Option.bind_some]
    split
    · exact ⟨_, rfl⟩
    · split
      · exact ⟨_, rfl⟩
      · exact scan_tot fl v hv m (k + 1) (by omega)
theorem write_tot (d0 d1 d2 d3 d4 : Int) (s5 s6 s7 s8 s9 s10 s11 s12 s13 s14 : ByteArray) (n : Nat) (hv : ∀ k, k < 10 → (vOf s5 s6 s7 s8 s9 s10 s11 s12 s13 s14 k).size ≤ n) (hn : n ≤ 9000) :
    ∃ s e, msh_Write.f d0 d1 d2 d3 d4 s5 s6 s7 s8 s9 s10 s11 s12 s13 s14 = some (s, e) ∧ s.size ≤ 1000000 := by
  unfold msh_Write.f
  obtain ⟨rt, hrt⟩ := right_tot d0 d1 d2 d3 d4
  rw [hrt]
  simp only [Option.bind_some]
  split
  · exact ⟨_, _, rfl, Nat.zero_le _⟩
  · obtain ⟨m, hm⟩ := scan_tot (strOfNums [d0]) (vOf s5 s6 s7 s8 s9 s10 s11 s12 s13 s14) (fun k hk => by have := hv k hk; omega) 10 0 rfl
    rw [hm]
    simp only [Option.bind_some]
    split
    · exact ⟨_, _, rfl, Nat.zero_le _⟩
    · have hin : ∀ x ∈ (wL (strOfNums [d0]) (strOfNums [d1, d2, d3, d4]) (vOf s5 s6 s7 s8 s9 s10 s11 s12 s13 s14) 10).take (wFull (vOf s5 s6 s7 s8 s9 s10 s11 s12 s13 s14) 10), x.size ≤ n + 4 := by
        intro x hx
        have hx := List.mem_of_mem_take hx
        unfold wL at hx
        rcases List.mem_append.1 hx with hx | hx
        · rcases List.mem_cons.1 hx with rfl | hx
          · rw [size_strOfNums]; simp
          · rw [List.mem_singleton.1 hx, size_strOfNums]; simp
        · obtain ⟨k, hk, rfl⟩ := List.mem_map.1 hx
          have := hv k (List.mem_range.1 hk)
          omega
      have hlen : ((wL (strOfNums [d0]) (strOfNums [d1, d2, d3, d4]) (vOf s5 s6 s7 s8 s9 s10 s11 s12 s13 s14) 10).take (wFull (vOf s5 s6 s7 s8 s9 s10 s11 s12 s13 s14) 10)).length ≤ 20 := by
        rw [List.length_take, wL_len]
        omega
      obtain ⟨s, hs, hle⟩ := make_tot d0 d1 d2 d3 d4 ⟨#[77, 83, 72]⟩ _ (n + 4) hin hlen (by omega) (by decide)
      rw [hs]
      exact ⟨s, 0, rfl, hle⟩

theorem Bytes_bytesOf (s : ByteArray) : Bytes (bytesOf s) := by
  intro x hx
  obtain ⟨b, _, rfl⟩ := List.mem_map.1 hx
  have := b.toNat_lt
  omega
/-- segment.Join of two. -/
theorem join2 (k : Nat) (s t : ByteArray) (hs : s.size ≤ 1000000) (ht : t.size ≤ 1000000) : QJoin.segment_Join.f (k + 3) [s, t] = some (bytesOf s ++ [13] ++ bytesOf t ++ [13]) := by
  have e0 : rdOf ByteArray.empty [s, t] 0 = s := rfl
  have e1 : rdOf ByteArray.empty [s, t] 1 = t := rfl
  have w1 : wrap64 (0 + 1) = 1 := by unfold wrap64; omega
  have w2 : wrap64 (1 + 1) = 2 := by unfold wrap64; omega
  have l1 := bytesOf_length s
  have l2 := bytesOf_length t
  unfold QJoin.segment_Join.f
  rw [QJoin.segment_Join.l0]
  simp only [List.length_cons, List.length_nil]
  rw [if_pos (by omega), if_pos (by omega), if_pos (by omega), e0, if_pos (by simp; omega)]
  simp only [Option.bind_some]
  rw [if_pos (by simp; omega), w1, QJoin.segment_Join.l0]
  simp only [List.length_cons, List.length_nil]
  rw [if_pos (by omega), if_pos (by omega), if_pos (by omega), e1, if_pos (by simp; omega)]
  simp only [Option.bind_some]
  rw [if_pos (by simp; omega), w2, QJoin.segment_Join.l0]
  rw [if_neg (by omega)]
  simp
theorem build_tot (k : Nat) (d0 d1 d2 d3 d4 : Int) (s5 s6 s7 s8 s9 s10 s11 s12 s13 s14 c : ByteArray) (n : Nat) (hv : ∀ k, k < 10 → (vOf s5 s6 s7 s8 s9 s10 s11 s12 s13 s14 k).size ≤ n) (hn : n ≤ 8990) (hc : c.size ≤ 10) :
    ∃ a e, QReply.ack_Build.f (k + 3) d0 d1 d2 d3 d4 s5 s6 s7 s8 s9 s10 s11 s12 s13 s14 c = some (a, e) ∧ Bytes a ∧ a.length ≤ 3000000 := by
  unfold QReply.ack_Build.f
  rw [show ack_Known.f c = some (Lib.containsS codesL c) from rfl]
  simp only [Option.bind_some]
  split
  · obtain ⟨s, e, hw, hle⟩ := write_tot d0 d1 d2 d3 d4 s7 s8 s5 s6 s9 ⟨#[]⟩ ⟨#[65, 67, 75]⟩ s12 s13 s14 (n + 3) (vOf_le s7 s8 s5 s6 s9 ⟨#[]⟩ ⟨#[65, 67, 75]⟩ s12 s13 s14 (n + 3) ⟨by have := hv 2 (by decide); exact Nat.le_add_right_of_le this, by have := hv 3 (by decide); exact Nat.le_add_right_of_le this, by have := hv 0 (by decide); exact Nat.le_add_right_of_le this, by have := hv 1 (by decide); exact Nat.le_add_right_of_le this, by have := hv 4 (by decide); exact Nat.le_add_right_of_le this, Nat.zero_le _, Nat.le_add_left _ _, by have := hv 7 (by decide); exact Nat.le_add_right_of_le this, by have := hv 8 (by decide); exact Nat.le_add_right_of_le this, by have := hv 9 (by decide); exact Nat.le_add_right_of_le this⟩) (by omega)
    rw [hw]
    simp only [Option.bind_some]
    split
    · have h12 : s12.size ≤ n := hv 7 (by decide)
      obtain ⟨t, ht, htl⟩ := make_tot d0 d1 d2 d3 d4 ⟨#[77, 83, 65]⟩ [c, s12] (n + 10) (fun x hx => by
        rcases List.mem_cons.1 hx with rfl | hx
        · omega
        · rw [List.mem_singleton.1 hx]; omega) (by simp) (by omega) (by decide)
      rw [ht]
      simp only [Option.bind_some]
      rw [join2 k s t hle htl]
      refine ⟨_, _, rfl, ?_, ?_⟩
      · exact (((Bytes_bytesOf s).append (by decide)).append (Bytes_bytesOf t)).append (by decide)
      · simp [bytesOf_length]
        omega
    · exact ⟨_, _, rfl, by decide, by simp⟩
  · exact ⟨_, _, rfl, by decide, by simp⟩
theorem wrap_tot (l : List Int) (h : Bytes l) (hl : l.length < 4294967281) : ∃ a e, frameA_Wrap.f l = some (a, e) := by
  unfold frameA_Wrap.f frame_Wrap.f frame_Good.f
  rw [if_pos ⟨h, hl⟩]
  exact ⟨_, _, rfl⟩
theorem verdict_tot (l : List Int) (h : Bytes l) (hl : l.length < 4294967281) : ∃ d0 d1 d2 d3 d4 s5 s6 s7 s8 s9 s10 s11 s12 s13 s14 c e, accept_Verdict.f l = some (d0, d1, d2, d3, d4, s5, s6, s7, s8, s9, s10, s11, s12, s13, s14, c, e) ∧
    (∀ k, k < 10 → (vOf s5 s6 s7 s8 s9 s10 s11 s12 s13 s14 k).size ≤ l.length) ∧ c.size ≤ 2 := by
  unfold accept_Verdict.f
  rw [if_pos ⟨h, hl⟩]
  obtain ⟨⟨d0, d1, d2, d3, d4, s5, s6, s7, s8, s9, s10, s11, s12, s13, s14, e0⟩, hr, hfit⟩ := mshRead_tot l hl
  rw [hr]
  simp only [Option.bind_some]
  split
  · exact ⟨_, _, _, _, _, _, _, _, _, _, _, _, _, _, _, _, _, rfl, headFit_Z _ 0, Nat.zero_le _⟩
  · split
    · exact ⟨_, _, _, _, _, _, _, _, _, _, _, _, _, _, _, _, _, rfl, headFit_Z _ 0, Nat.zero_le _⟩
    · have h13 : s13.size ≤ l.length := hfit 8 (by decide)
      have h14 : s14.size ≤ l.length := hfit 9 (by decide)
      obtain ⟨c, hc⟩ := check_tot d0 d1 d2 d3 d4 s5 s6 s7 s8 s9 s10 s11 s12 s13 s14 (by omega) (by omega)
      rw [hc]
      refine ⟨_, _, _, _, _, _, _, _, _, _, _, _, _, _, _, _, _, rfl, hfit, ?_⟩
      unfold codeOf
      split
      · decide
      · split <;> decide
theorem reply_tot (k : Nat) (l : List Int) (kept : Bool) (h : Bytes l) (hl : l.length ≤ 8000) : ∃ a b, QReply.accept_Reply.f (k + 6) l kept = some (a, b) := by
  obtain ⟨d0, d1, d2, d3, d4, s5, s6, s7, s8, s9, s10, s11, s12, s13, s14, c, e, hv, hfit, hc⟩ := verdict_tot l h (by omega)
  unfold QReply.accept_Reply.f
  rw [hv]
  simp only [Option.bind_some]
  have j2 : ∀ x : ByteArray, x.size ≤ 10 → ∃ a b, QReply.accept_Reply.j2 (k + 4) x d0 d1 d2 d3 d4 s5 s6 s7 s8 s9 s10 s11 s12 s13 s14 = some (a, b) := fun x hx => by
    rw [QReply.accept_Reply.j2]
    obtain ⟨a, e, hb, hby, hal⟩ := build_tot k d0 d1 d2 d3 d4 s5 s6 s7 s8 s9 s10 s11 s12 s13 s14 x l.length hfit (by omega) hx
    rw [hb]
    simp only [Option.bind_some]
    split
    · obtain ⟨a', e', hw⟩ := wrap_tot a hby (by omega)
      rw [hw]
      exact ⟨_, _, rfl⟩
    · exact ⟨_, _, rfl⟩
  have j1 : ∀ x : Bool, ∃ a b, QReply.accept_Reply.j1 (k + 5) c x d0 d1 d2 d3 d4 s5 s6 s7 s8 s9 s10 s11 s12 s13 s14 = some (a, b) := fun x => by
    rw [QReply.accept_Reply.j1]
    split
    · exact j2 _ (by decide)
    · exact j2 _ (by omega)
  have j0 : ∀ x : Bool, ∃ a b, QReply.accept_Reply.j0 (k + 6) kept c x d0 d1 d2 d3 d4 s5 s6 s7 s8 s9 s10 s11 s12 s13 s14 = some (a, b) := fun x => by
    rw [QReply.accept_Reply.j0]
    split
    · exact ⟨_, _, rfl⟩
    · split
      · exact j1 _
      · exact j1 _
  split
  · exact j0 _
  · rw [show frameA_Good.f l = some (goodS l) from if_pos ⟨h, by omega⟩]
    exact j0 _
end Go.Proofs.YtciagecaegoppaaDoor
namespace Go.Proofs.YtciagecaegoppaaDoor
set_option linter.unusedVariables false
open Go.RowKit

def strData {H : Type} (zs : List ByteArray) : DataW H := .agg (zs.map fun z => .lit (.string z.data.toList))
theorem cells_of_strs {H : Type} {enc : TypeId × Value → H} {P : Program} {w : World} {base : Nat} {sp : Nat → Bool} {held : Bool} {fuel : Nat} {t e : TypeId} {n : Nat} {cs : List Value} {zs : List ByteArray} {p : List MemPlace}
    (ht : P.underlying t = some (.array n e)) (he : P.underlying e = some .string) (hce : P.cellsOf e = 1) (hct : P.cellsOf t = n)
    (h : DataW.trod enc P w base sp held fuel t cs = some (strData zs, p)) : cs = zs.map fun z => Value.string z := by
  cases fuel with
  | zero => simp [DataW.trod] at h
  | succ fuel =>
    simp only [DataW.trod, ht, hce, hct, Nat.mul_one] at h
    split at h
    · rename_i hl
      obtain ⟨xs, hm, hx⟩ := Option.map_eq_some_iff.1 h
      have hxs : xs.map (·.1) = zs.map fun z => (DataW.lit (.string z.data.toList) : DataW H) := by
        have := congrArg Prod.fst hx
        simpa [strData] using this
      have hxl : xs.length = n := by simpa using Lib.mapM_length hm
      have hzl : zs.length = n := by
        have := congrArg List.length hxs
        simp at this
        omega
      apply List.ext_getElem?
      intro i
      by_cases hi : i < n
      · obtain ⟨b, hb, hf⟩ := Lib.mapM_at hm i i (by simp [hi])
        obtain ⟨s, hc, rfl, _⟩ := DataW.trod_string he hf
        have h1 : cs[i]? = some (.string s) := by
          have := congrArg (·[0]?) hc
          simpa [List.getElem?_take, List.getElem?_drop] using this
        have h2 : (xs.map (·.1))[i]? = some (DataW.lit (.string s.data.toList) : DataW H) := by simp [hb]
        rw [hxs] at h2
        simp only [List.getElem?_map, Option.map_eq_some_iff, DataW.lit.injEq, Lit.string.injEq] at h2
        obtain ⟨z', hz', hzz⟩ := h2
        have e : z' = s := WideShapes.bytes_inj hzz
        subst e
        simp [h1, hz']
      · rw [List.getElem?_eq_none (by omega), List.getElem?_eq_none (by simp; omega)]
    · cases h
theorem strs_of_head {P : Program} {W : World} {name : String} {zs : List ByteArray} {rest : List (String × DataW Unit)} {g : Nat} {t e : TypeId} {n : Nat}
    (hg : P.globalNamed name = some g) (hty : (P.globals[g]?).map (·.type) = some t) (ht : P.underlying t = some (.array n e)) (he : P.underlying e = some .string) (hce : P.cellsOf e = 1) (hct : P.cellsOf t = n)
    (h : laidMet P ((name, strData zs) :: rest) W) (i : Nat) (hi : i < zs.length) : W.cell? ⟨g, i, none⟩ = some (.string (zs.getD i ByteArray.empty)) := by
  obtain ⟨ps, ⟨g', t', cs, fuel, p, q, hg', ht', hvar, hd, _, _⟩, _⟩ := h
  obtain rfl := Option.some.inj (hg.symm.trans hg')
  obtain rfl := Option.some.inj (hty.symm.trans ht')
  have hc := cells_of_strs ht he hce hct hd
  have hv := World.var?_cell hg hvar i
  rw [hv, ← Array.getElem?_toList, hc]
  simp [List.getD, hi]

theorem glob_of {l : List (String × DataW Unit)} (hl : l = [("lamplighter/frame.ends", Rows.laid_lamplighter_frame_ends), ("lamplighter/msh.versions", Rows.laid_lamplighter_msh_versions), ("lamplighter/ack.codes", Rows.laid_lamplighter_ack_codes)]) {W : World} (h : laidMetH Tryd.prog l W) (hs : W.ShapedOpen Tryd.prog) : GlobA W := by
  subst hl
  have h1 : laidMet Tryd.prog [("lamplighter/frame.ends", Rows.laid_lamplighter_frame_ends), ("lamplighter/msh.versions", Rows.laid_lamplighter_msh_versions), ("lamplighter/ack.codes", Rows.laid_lamplighter_ack_codes)] W := h
  have h2 : laidMet Tryd.prog [("lamplighter/msh.versions", Rows.laid_lamplighter_msh_versions), ("lamplighter/ack.codes", Rows.laid_lamplighter_ack_codes)] W := h1.filter (fun x => x.1 != "lamplighter/frame.ends")
  have h3 : laidMet Tryd.prog [("lamplighter/ack.codes", Rows.laid_lamplighter_ack_codes)] W := h1.filter (fun x => x.1 == "lamplighter/ack.codes")
  have ht : Lib.TabIs Tryd.prog W "lamplighter/frame.ends" .u8 [28, 13] := Lib.tabIs_of_head (g := 1) (t := 73) (by kernel_rfl) (by kernel_rfl) Tryd.underlying73 Tryd.underlying5 (by kernel_rfl) (by kernel_rfl) h1
  refine ⟨⟨ht.cell (g := 1) (by kernel_rfl) 0 (by decide), ht.cell (g := 1) (by kernel_rfl) 1 (by decide), Tryd.laysM185.s1_3 W hs⟩, ?_, ?_⟩
  · exact fun j hj => strs_of_head (g := 2) (t := 99) (zs := codesL) (by kernel_rfl) (by kernel_rfl) Tryd.underlying99 Tryd.underlying9 (by kernel_rfl) (by kernel_rfl) h3 j hj
  · exact fun j hj => strs_of_head (g := 0) (t := 69) (zs := versionsL) (by kernel_rfl) (by kernel_rfl) Tryd.underlying69 Tryd.underlying9 (by kernel_rfl) (by kernel_rfl) h2 j hj
end Go.Proofs.YtciagecaegoppaaDoor
