/- The words of this seat: what the package-level variables hold, bytes, and what the shelf's contracts ask of a slice that reads as a list. -/
import Derived.Test.YtiffmklefiehkaaDoorProg
import Derived.Test.YtiffmklefiehkaaDoorWWords
import Derived.Test.YtiffmklefiehkaaDoorShelf
import Derived.WalkKit
import Derived.WalkSpells
import Derived.WalkLawsBesides
import Derived.BigQuiet
import Derived.Laws.Rows
namespace Go.Proofs.YtiffmklefiehkaaDoor
open Go.RowKit Go.Proofs.YtiffmklefiehkaaDoorW.PrintWords

/-- Each number is a byte's. -/
def Bytes (xs : List Int) : Prop := ∀ x ∈ xs, 0 ≤ x ∧ x < 256
instance (xs : List Int) : Decidable (Bytes xs) := inferInstanceAs (Decidable (∀ x ∈ xs, 0 ≤ x ∧ x < 256))

theorem Bytes.append {xs ys : List Int} (h : Bytes xs) (k : Bytes ys) : Bytes (xs ++ ys) := fun x hx => (List.mem_append.1 hx).elim (h x) (k x)
theorem Bytes.left {xs ys : List Int} (h : Bytes (xs ++ ys)) : Bytes xs := fun x hx => h x (List.mem_append_left _ hx)
theorem Bytes.right {xs ys : List Int} (h : Bytes (xs ++ ys)) : Bytes ys := fun x hx => h x (List.mem_append_right _ hx)
theorem Bytes.take {xs : List Int} (h : Bytes xs) (n : Nat) : Bytes (xs.take n) := fun x hx => h x (List.mem_of_mem_take hx)
theorem Bytes.drop {xs : List Int} (h : Bytes xs) (n : Nat) : Bytes (xs.drop n) := fun x hx => h x (List.mem_of_mem_drop hx)

/-- What the package-level variables hold: the frame's two last signs; some number. -/
structure Glob (w : World) : Prop where
  e0 : w.cell? ⟨0, 0, none⟩ = some (.int .u8 28)
  e1 : w.cell? ⟨0, 1, none⟩ = some (.int .u8 13)
  max : ∃ m : Int, w.cell? ⟨1, 0, none⟩ = some (.int .i64 m)

theorem Glob.below {w w' : World} (h : Glob w) (hb : Below w.heap.size w w') : Glob w' :=
  ⟨pw_cell_below hb h.e0, pw_cell_below hb h.e1, h.max.imp fun _ hm => pw_cell_below hb hm⟩
theorem Glob.alloc {w : World} (h : Glob w) (o : Obj) : Glob (w.alloc o) := h.below ((Below.refl _ w).alloc (Nat.le_refl _) o)
theorem Glob.drewN {w : World} (h : Glob w) (n : Nat) : Glob (w.drewN n) := h.below (pw_below_drewN (Below.refl _ w) n)

/-- The cells of a slice of bytes. -/
theorem cells_of_C {w : World} {a : Addr} {n : Nat} {xs : List Int} (h : Kd.C (Kd.int .u8) w (some a) n xs) : xs.length = n ∧ ∀ i, i < n → w.cell? (a.add i) = some (.int .u8 (xs.getD i 0)) := by
  refine ⟨h.1, fun i hi => ?_⟩
  obtain ⟨ad, e, hc⟩ := Kd.at_int h (i : Int) (by omega) (by omega)
  cases e
  simpa [rd] using hc

theorem in_of_C {w : World} {A : Option Addr} {n : Nat} {xs : List Int} (h : Kd.C (Kd.int .u8) w A n xs) : Lib.BytesIn w A n xs := by
  cases A with
  | none =>
    rcases Nat.eq_zero_or_pos n with rfl | hn
    · exact Lib.BytesIn.nil _ _ _
    · obtain ⟨ad, e, _⟩ := h.2.2 hn
      cases e
  | some a => exact Lib.BytesIn.of_cells (cells_of_C h).2

end Go.Proofs.YtiffmklefiehkaaDoor
