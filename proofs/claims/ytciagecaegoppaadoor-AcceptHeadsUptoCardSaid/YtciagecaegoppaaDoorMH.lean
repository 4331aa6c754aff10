/- A head that is written out is read back: the plain law of msh.Read. What a head's segment is, in plain lists. A message's verdict hangs on its first segment alone: the plain law of AcceptHeads. []byte(s), and bytes laid behind it. AcceptHeads: the walk. AcceptHeads: the walk and the plain law, joined. A head that comes in as an argument: its value written out. AcceptHeads: the walk, as the row asks for it. -/
import Derived.Test.YtciagecaegoppaaDoorMF
import Derived.Test.YtciagecaegoppaaDoorCards
import Derived.ArgAppend
import Derived.WalkKit
import Derived.ProofKit
import Derived.OpenShut
namespace Go.Proofs.YtciagecaegoppaaDoor
set_option linter.unusedVariables false
set_option linter.unusedSimpArgs false
set_option maxRecDepth 20000
open Go.RowKit Go.Proofs.YtciagecaegoppaaDoorW.PrintWords Go.Proofs.YtciagecaegoppaaDoorW.PrintLast Go.Proofs.YtciagecaegoppaaDoorW.PrintMore

/-- The numbers of bytes. -/
def numsB (l : List UInt8) : List Int := l.map fun b => (b.toNat : Int)
theorem bytes_numsB (l : List UInt8) : Lib.bytesOf (numsB l) = l := by
  unfold Lib.bytesOf numsB
  rw [List.map_map]
  conv => rhs; rw [← List.map_id l]
  apply List.map_congr_left
  intro b _
  simp
theorem str_numsB (l : List UInt8) : strOfNums (numsB l) = strOf l := by
  unfold strOf
  rw [← Lib.mk_data (strOfNums (numsB l)), ← Lib.toList_data, Lib.strOfNums_toList, bytes_numsB]
theorem Bytes_numsB (l : List UInt8) : Bytes (numsB l) := by
  intro x hx
  obtain ⟨b, _, rfl⟩ := List.mem_map.1 hx
  have := b.toNat_lt
  omega
/-- Texts, each with a sign ahead. -/
def cat (c : UInt8) : List (List UInt8) → List UInt8
  | [] => []
  | f :: fs => c :: (f ++ cat c fs)
theorem pieces_free (c : UInt8) (a : List UInt8) (h : c ∉ a) : pieces c a = [a] := by
  induction a with
  | nil => rfl
  | cons b r ih =>
    have hb : b ≠ c := fun e => h (e ▸ List.mem_cons_self)
    rw [pieces, if_neg hb, ih (fun hm => h (List.mem_cons_of_mem _ hm))]
theorem pieces_sep (c : UInt8) (a r : List UInt8) (h : c ∉ a) : pieces c (a ++ c :: r) = a :: pieces c r := by
  induction a with
  | nil => rw [List.nil_append, pieces, if_pos rfl]
  | cons b a ih =>
    have hb : b ≠ c := fun e => h (e ▸ List.mem_cons_self)
    rw [List.cons_append, pieces, if_neg hb, ih (fun hm => h (List.mem_cons_of_mem _ hm))]
theorem pieces_cat (c : UInt8) : ∀ (a : List UInt8) (fs : List (List UInt8)), c ∉ a → (∀ f ∈ fs, c ∉ f) → pieces c (a ++ cat c fs) = a :: fs
  | a, [], h, _ => by rw [cat, List.append_nil, pieces_free c a h]
  | a, f :: fs, h, hf => by
    rw [cat, pieces_sep c a _ h, pieces_cat c f fs (hf f List.mem_cons_self) (fun g hg => hf g (List.mem_cons_of_mem _ hg))]
theorem mem_cat {c x : UInt8} : ∀ {fs : List (List UInt8)}, x ∈ cat c fs → x = c ∨ ∃ f ∈ fs, x ∈ f
  | [], h => by simp [cat] at h
  | f :: fs, h => by
    rw [cat] at h
    rcases List.mem_cons.1 h with rfl | h
    · exact .inl rfl
    · rcases List.mem_append.1 h with h | h
      · exact .inr ⟨f, List.mem_cons_self, h⟩
      · rcases mem_cat h with h | ⟨g, hg, hx⟩
        · exact .inl h
        · exact .inr ⟨g, List.mem_cons_of_mem _ hg, hx⟩

section
variable (F o1 o2 o3 o4 : UInt8) (fs : List (List UInt8)) (R : List UInt8)
def headB : List UInt8 := 77 :: 83 :: 72 :: F :: o1 :: o2 :: o3 :: o4 :: cat F fs
def osB : List UInt8 := [o1, o2, o3, o4]

theorem first_seg (h13 : (13 : UInt8) ∉ headB F o1 o2 o3 o4 fs) (hR : R = [] ∨ ∃ R', R = 13 :: R') : rdOf ByteArray.empty (splitS (numsB (headB F o1 o2 o3 o4 fs ++ R))) 0 = strOf (headB F o1 o2 o3 o4 fs) := by
  have hc : (13 : Int).toNat.toUInt8 = (13 : UInt8) := rfl
  have hd : (strOf (headB F o1 o2 o3 o4 fs ++ R)).data.toList = headB F o1 o2 o3 o4 fs ++ R := by simp [strOf]
  unfold rdOf splitS piecesS
  rw [str_numsB, hd, hc]
  rcases hR with rfl | ⟨R', rfl⟩
  · rw [List.append_nil, pieces_free _ _ h13, if_neg (by simp [strOf, headB, Lib.toList_data])]
    rfl
  · rw [pieces_sep _ _ _ h13]
    have hp := pieces_pos 13 R'
    split
    · cases hq : pieces 13 R' with
      | nil => rw [hq] at hp; simp at hp
      | cons q qs => simp [List.dropLast]
    · rfl

theorem name_head : QField.segment_Name.f (strOf (headB F o1 o2 o3 o4 fs)) = some ⟨#[77, 83, 72]⟩ := by
  have hs : (strOf (headB F o1 o2 o3 o4 fs)).size = (headB F o1 o2 o3 o4 fs).length := size_strOf _
  have hl : 8 ≤ (headB F o1 o2 o3 o4 fs).length := by simp [headB]
  have hm : mn ((strOf (headB F o1 o2 o3 o4 fs)).size : Int) 3 = 3 := by unfold mn; rw [if_pos (by omega)]
  unfold QField.segment_Name.f
  rw [hm, if_pos (by omega), if_pos (by omega)]
  rfl

theorem field_head (k : Int) (hk : 2 ≤ k ∧ k < 1000) (hF : ∀ f ∈ fs, F ∉ f) (hO : F ∉ osB o1 o2 o3 o4) (hsz : (headB F o1 o2 o3 o4 fs).length < 4294967281) (d1 d2 d3 d4 : Int) :
    ∃ b, QField.segment_Field.f (strOf (headB F o1 o2 o3 o4 fs)) k (F.toNat : Int) d1 d2 d3 d4 = some (foundIn (k - 1) ((osB o1 o2 o3 o4 :: fs).map strOf), b) := by
  have hsF : strOfNums [((F.toNat : Nat) : Int)] = strOf [F] := str_numsB [F]
  have hpre : QField.strings_CutPrefix.f (strOf (headB F o1 o2 o3 o4 fs)) ((⟨#[77, 83, 72]⟩ : ByteArray) ++ strOf [F]) = some (strOf (osB o1 o2 o3 o4 ++ cat F fs), true) := by
    have hp4 : ((⟨#[77, 83, 72]⟩ : ByteArray) ++ strOf [F]).size = 4 := by rw [ByteArray.size_append]; rfl
    have hpd : ((⟨#[77, 83, 72]⟩ : ByteArray) ++ strOf [F]).toList = [77, 83, 72, F] := by
      rw [Lib.toList_data, ByteArray.data_append]
      simp [strOf]
    have hs : (strOf (headB F o1 o2 o3 o4 fs)).size = (headB F o1 o2 o3 o4 fs).length := size_strOf _
    have hl : 8 ≤ (headB F o1 o2 o3 o4 fs).length := by simp [headB]
    unfold QField.strings_CutPrefix.f QField.stringslite_CutPrefix.f QField.stringslite_HasPrefix.f
    rw [hp4, if_pos (by omega), if_pos (by omega), if_pos (by omega)]
    have hex : ((strOf (headB F o1 o2 o3 o4 fs)).extract 0 ((4 : Nat) : Int).toNat).toList = [77, 83, 72, F] := by
      rw [Lib.toList_data, Lib.extract_data]
      simp [strOf, headB]
    rw [hex, hpd]
    simp only [Option.bind_some]
    rw [if_pos (by simp), if_pos (by omega), if_pos (by omega)]
    simp only [Option.bind_some]
    congr 2
    apply WideShapes.bytes_inj
    rw [Lib.extract_data, hs]
    have e : (strOf (headB F o1 o2 o3 o4 fs)).data.toList = headB F o1 o2 o3 o4 fs := by simp [strOf]
    rw [e]
    simp [headB, osB, strOf]
  unfold QField.segment_Field.f QField.segment_field.f
  rw [if_neg (by omega), name_head]
  simp only [Option.bind_some]
  rw [if_pos (by rw [Lib.toList_data]), hsF, if_pos (by rw [size_strOf]; simp), hpre]
  simp only [Option.bind_some]
  rw [if_pos trivial]
  have hw : wrap64 (k - 1) = k - 1 := by unfold wrap64; omega
  have hn := nth_tot (strOf (osB o1 o2 o3 o4 ++ cat F fs)) ((F.toNat : Nat) : Int) (k - 1) (by rw [size_strOf]; simp [headB, osB] at hsz ⊢; omega)
  rw [hw, hn]
  simp only [Option.bind_some]
  rw [if_neg (by omega)]
  have hpc : piecesS ((F.toNat : Nat) : Int) (strOf (osB o1 o2 o3 o4 ++ cat F fs)) = (osB o1 o2 o3 o4 :: fs).map strOf := by
    unfold piecesS
    have e : (strOf (osB o1 o2 o3 o4 ++ cat F fs)).data.toList = osB o1 o2 o3 o4 ++ cat F fs := by simp [strOf]
    have ec : ((F.toNat : Nat) : Int).toNat.toUInt8 = F := by simp
    rw [e, ec, pieces_cat F _ fs hO hF]
  rw [hpc]
  exact ⟨_, rfl⟩

theorem found_field (i : Nat) : foundIn (((3 + i : Nat) : Int) - 1) ((osB o1 o2 o3 o4 :: fs).map strOf) = strOf (fs.getD i []) := by
  unfold foundIn
  rw [show (((3 + i : Nat) : Int) - 1 - 1).toNat = i + 1 by omega]
  by_cases h : i < fs.length
  · rw [if_pos (by simp; omega)]
    simp [List.getD, h]
  · rw [if_neg (by simp; omega)]
    rw [List.getD_eq_getElem?_getD, List.getElem?_eq_none (by omega)]
    rfl

/-- What is written out is read back. -/
theorem parse (hF : ∀ f ∈ fs, F ∉ f) (hO : F ∉ osB o1 o2 o3 o4) (h13 : (13 : UInt8) ∉ headB F o1 o2 o3 o4 fs) (hR : R = [] ∨ ∃ R', R = 13 :: R') (hne : fs ≠ [] ∨ R ≠ [])
    (hr : QRight.delim_Right.f 10 (F.toNat : Int) (o1.toNat : Int) (o2.toNat : Int) (o3.toNat : Int) (o4.toNat : Int) = some true) (hsz : (headB F o1 o2 o3 o4 fs ++ R).length < 4294967281) :
    msh_Read.f (numsB (headB F o1 o2 o3 o4 fs ++ R)) = some ((F.toNat : Int), (o1.toNat : Int), (o2.toNat : Int), (o3.toNat : Int), (o4.toNat : Int), strOf (fs.getD 0 []), strOf (fs.getD 1 []), strOf (fs.getD 2 []), strOf (fs.getD 3 []), strOf (fs.getD 4 []), strOf (fs.getD 5 []), strOf (fs.getD 6 []), strOf (fs.getD 7 []), strOf (fs.getD 8 []), strOf (fs.getD 9 []), 0) := by
  have hlen : (numsB (headB F o1 o2 o3 o4 fs ++ R)).length = (headB F o1 o2 o3 o4 fs ++ R).length := by simp [numsB]
  have hszS : (headB F o1 o2 o3 o4 fs).length < 4294967281 := by simp at hsz ⊢; omega
  -- the byte behind the signs
  obtain ⟨z, zs, hz, hz8⟩ : ∃ z zs, cat F fs ++ R = z :: zs ∧ (z = F ∨ z = 13) := by
    cases fs with
    | cons f fs => exact ⟨F, _, rfl, .inl rfl⟩
    | nil =>
      rcases hR with rfl | ⟨R', rfl⟩
      · simp at hne
      · exact ⟨13, R', rfl, .inr rfl⟩
  have hdr : delim_Read.f (numsB (headB F o1 o2 o3 o4 fs ++ R)) = some ((F.toNat : Int), (o1.toNat : Int), (o2.toNat : Int), (o3.toNat : Int), (o4.toNat : Int), 0) := by
    have hsh : numsB (headB F o1 o2 o3 o4 fs ++ R) = 77 :: 83 :: 72 :: (F.toNat : Int) :: (o1.toNat : Int) :: (o2.toNat : Int) :: (o3.toNat : Int) :: (o4.toNat : Int) :: (z.toNat : Int) :: numsB zs := by
      have : headB F o1 o2 o3 o4 fs ++ R = 77 :: 83 :: 72 :: F :: o1 :: o2 :: o3 :: o4 :: (cat F fs ++ R) := rfl
      rw [this, hz]
      rfl
    rw [hsh]
    unfold delim_Read.f
    rw [if_neg (by simp), if_neg (by simp [Lib.bytesOf, Lib.hasPrefix, List.isPrefixOf])]
    simp only [List.getD_cons_succ, List.getD_cons_zero]
    rw [hr]
    simp only [Option.map_some]
    rw [if_neg]
    rintro (h | ⟨h1, h2⟩)
    · cases h
    · rcases hz8 with rfl | rfl
      · exact h1 rfl
      · exact h2 rfl
  unfold msh_Read.f
  rw [hdr]
  simp only [Option.bind_some]
  rw [if_neg (by simp), show segment_Split.f (numsB (headB F o1 o2 o3 o4 fs ++ R)) = some (splitS (numsB (headB F o1 o2 o3 o4 fs ++ R))) from if_pos (by rw [hlen]; exact hsz)]
  simp only [Option.bind_some]
  rw [if_pos (splitS_pos _ (by rw [hlen]; simp [headB])), first_seg F o1 o2 o3 o4 fs R h13 hR]
  obtain ⟨b2, h2⟩ := field_head F o1 o2 o3 o4 fs 2 (by omega) hF hO hszS (o1.toNat : Int) (o2.toNat : Int) (o3.toNat : Int) (o4.toNat : Int)
  rw [h2]
  simp only [Option.bind_some]
  have hoth : strOfNums [((o1.toNat : Nat) : Int), ((o2.toNat : Nat) : Int), ((o3.toNat : Nat) : Int), ((o4.toNat : Nat) : Int)] = strOf (osB o1 o2 o3 o4) := str_numsB [o1, o2, o3, o4]
  have hf2 : foundIn ((2 : Int) - 1) ((osB o1 o2 o3 o4 :: fs).map strOf) = strOf (osB o1 o2 o3 o4) := by
    unfold foundIn
    rw [if_pos (by simp; omega)]
    rfl
  rw [hoth, hf2, if_neg (by simp)]
  unfold msh_Read.rest
  have hfo : ∀ i : Nat, i < 10 → fieldOf (strOf (headB F o1 o2 o3 o4 fs)) (F.toNat : Int) (o1.toNat : Int) (o2.toNat : Int) (o3.toNat : Int) (o4.toNat : Int) ((3 + i : Nat) : Int) = some (strOf (fs.getD i [])) := fun i hi => by
    obtain ⟨b, hb⟩ := field_head F o1 o2 o3 o4 fs ((3 + i : Nat) : Int) (by omega) hF hO hszS (o1.toNat : Int) (o2.toNat : Int) (o3.toNat : Int) (o4.toNat : Int)
    unfold fieldOf
    rw [hb, found_field]
    rfl
  rw [show fieldOf (strOf (headB F o1 o2 o3 o4 fs)) (F.toNat : Int) (o1.toNat : Int) (o2.toNat : Int) (o3.toNat : Int) (o4.toNat : Int) 3 = _ from hfo 0 (by decide), show fieldOf (strOf (headB F o1 o2 o3 o4 fs)) (F.toNat : Int) (o1.toNat : Int) (o2.toNat : Int) (o3.toNat : Int) (o4.toNat : Int) 4 = _ from hfo 1 (by decide), show fieldOf (strOf (headB F o1 o2 o3 o4 fs)) (F.toNat : Int) (o1.toNat : Int) (o2.toNat : Int) (o3.toNat : Int) (o4.toNat : Int) 5 = _ from hfo 2 (by decide), show fieldOf (strOf (headB F o1 o2 o3 o4 fs)) (F.toNat : Int) (o1.toNat : Int) (o2.toNat : Int) (o3.toNat : Int) (o4.toNat : Int) 6 = _ from hfo 3 (by decide), show fieldOf (strOf (headB F o1 o2 o3 o4 fs)) (F.toNat : Int) (o1.toNat : Int) (o2.toNat : Int) (o3.toNat : Int) (o4.toNat : Int) 7 = _ from hfo 4 (by decide), show fieldOf (strOf (headB F o1 o2 o3 o4 fs)) (F.toNat : Int) (o1.toNat : Int) (o2.toNat : Int) (o3.toNat : Int) (o4.toNat : Int) 8 = _ from hfo 5 (by decide), show fieldOf (strOf (headB F o1 o2 o3 o4 fs)) (F.toNat : Int) (o1.toNat : Int) (o2.toNat : Int) (o3.toNat : Int) (o4.toNat : Int) 9 = _ from hfo 6 (by decide), show fieldOf (strOf (headB F o1 o2 o3 o4 fs)) (F.toNat : Int) (o1.toNat : Int) (o2.toNat : Int) (o3.toNat : Int) (o4.toNat : Int) 10 = _ from hfo 7 (by decide), show fieldOf (strOf (headB F o1 o2 o3 o4 fs)) (F.toNat : Int) (o1.toNat : Int) (o2.toNat : Int) (o3.toNat : Int) (o4.toNat : Int) 11 = _ from hfo 8 (by decide), show fieldOf (strOf (headB F o1 o2 o3 o4 fs)) (F.toNat : Int) (o1.toNat : Int) (o2.toNat : Int) (o3.toNat : Int) (o4.toNat : Int) 12 = _ from hfo 9 (by decide)]
  simp only [Option.bind_some]
end
end Go.Proofs.YtciagecaegoppaaDoor
namespace Go.Proofs.YtciagecaegoppaaDoor
set_option linter.unusedVariables false
set_option linter.unusedSimpArgs false
set_option maxRecDepth 20000
open Go.RowKit Go.Proofs.YtciagecaegoppaaDoorW.PrintWords Go.Proofs.YtciagecaegoppaaDoorW.PrintLast Go.Proofs.YtciagecaegoppaaDoorW.PrintMore

theorem indexByte_mem : ∀ (l : List UInt8) (c : UInt8), 0 ≤ Lib.indexByte l c ↔ c ∈ l
  | [], c => by simp [Lib.indexByte]
  | b :: l, c => by
    have ih := indexByte_mem l c
    unfold Lib.indexByte
    by_cases hb : b = c
    · subst hb; simp
    · rw [if_neg (by simpa using hb)]
      split
      · rename_i h1
        have h1 : Lib.indexByte l c = -1 := by simpa using h1
        rw [h1] at ih
        simp only [List.mem_cons]
        constructor
        · intro h; omega
        · rintro (h | h)
          · exact absurd h.symm hb
          · exact absurd (ih.2 h) (by omega)
      · rename_i h1
        have := Lib.indexByte_ge l c
        have h1 : Lib.indexByte l c ≠ -1 := by simpa using h1
        have hm := ih.1 (by omega)
        simp only [List.mem_cons]
        exact ⟨fun _ => .inr hm, fun _ => by omega⟩
theorem contains_one_sign (s : List UInt8) (c : UInt8) : Lib.contains s [c] = false ↔ c ∉ s := by
  unfold Lib.contains
  rw [Lib.index_one, decide_eq_false_iff_not, indexByte_mem]

/-- A round of delim.Right. -/
theorem right_step (k : Nat) (x3 x12 : List Int) (n i : Int) (h : QRight.delim_Right.l0 (k + 1) x3 x12 n i = some true) (hi : i < n) :
    32 < rd x12 i ∧ rd x12 i ≤ 126 ∧ i ≤ Lib.indexByte (Lib.bytesOf x3) (rd x12 i).toNat.toUInt8 ∧ QRight.delim_Right.l0 k x3 x12 n (wrap64 (i + 1)) = some true := by
  unfold QRight.delim_Right.l0 at h
  rw [if_pos hi] at h
  simp only [bytes_IndexByte.f, Option.bind_some] at h
  repeat' split at h
  all_goals first
    | (cases h; done)
    | (refine ⟨by omega, by omega, by omega, h⟩)

theorem right_signs {d0 d1 d2 d3 d4 : Int} (h : QRight.delim_Right.f 10 d0 d1 d2 d3 d4 = some true) :
    (32 < d0 ∧ d0 ≤ 126) ∧ (32 < d1 ∧ d1 ≤ 126) ∧ (32 < d2 ∧ d2 ≤ 126) ∧ (32 < d3 ∧ d3 ≤ 126) ∧ (32 < d4 ∧ d4 ≤ 126) ∧ d0 ≠ d1 ∧ d0 ≠ d2 ∧ d0 ≠ d3 ∧ d0 ≠ d4 := by
  unfold QRight.delim_Right.f at h
  simp only [QRight.delim_Plain.f, QRight.delim_five.f, Option.bind_some] at h
  split at h
  · rename_i hp
    simp at hp
    obtain ⟨rfl, rfl, rfl, rfl, rfl⟩ := hp
    decide
  · have w1 : wrap64 (0 + 1) = 1 := by unfold wrap64; omega
    have w2 : wrap64 (1 + 1) = 2 := by unfold wrap64; omega
    have w3 : wrap64 (2 + 1) = 3 := by unfold wrap64; omega
    have w4 : wrap64 (3 + 1) = 4 := by unfold wrap64; omega
    obtain ⟨a1, a2, a3, h⟩ := right_step 9 _ _ _ _ h (by simp)
    rw [w1] at h
    obtain ⟨b1, b2, b3, h⟩ := right_step 8 _ _ _ _ h (by simp)
    rw [w2] at h
    obtain ⟨c1, c2, c3, h⟩ := right_step 7 _ _ _ _ h (by simp)
    rw [w3] at h
    obtain ⟨e1, e2, e3, h⟩ := right_step 6 _ _ _ _ h (by simp)
    rw [w4] at h
    obtain ⟨f1, f2, f3, h⟩ := right_step 5 _ _ _ _ h (by simp)
    have r0 : rd [d0, d1, d2, d3, d4] 0 = d0 := rfl
    have r1 : rd [d0, d1, d2, d3, d4] 1 = d1 := rfl
    have r2 : rd [d0, d1, d2, d3, d4] 2 = d2 := rfl
    have r3 : rd [d0, d1, d2, d3, d4] 3 = d3 := rfl
    have r4 : rd [d0, d1, d2, d3, d4] 4 = d4 := rfl
    rw [r0] at a1 a2 a3
    rw [r1] at b1 b2 b3
    rw [r2] at c1 c2 c3
    rw [r3] at e1 e2 e3
    rw [r4] at f1 f2 f3
    have hz : ∀ d : Int, d0 = d → Lib.indexByte (Lib.bytesOf [d0, d1, d2, d3, d4]) d.toNat.toUInt8 = 0 := by
      rintro d rfl
      simp [Lib.bytesOf, Lib.indexByte]
    refine ⟨⟨a1, a2⟩, ⟨b1, b2⟩, ⟨c1, c2⟩, ⟨e1, e2⟩, ⟨f1, f2⟩, fun e => ?_, fun e => ?_, fun e => ?_, fun e => ?_⟩
    · rw [hz _ e] at b3; omega
    · rw [hz _ e] at c3; omega
    · rw [hz _ e] at e3; omega
    · rw [hz _ e] at f3; omega

theorem joinTail_cat (c : UInt8) (fs : List (List UInt8)) : Lib.joinTail [c] fs = cat c fs := by
  induction fs with
  | nil => rfl
  | cons f fs ih => unfold Lib.joinTail at ih ⊢; rw [List.map_cons, List.flatten_cons, ih]; rfl

theorem strOf_toList (s : ByteArray) : strOf s.data.toList = s := by unfold strOf; exact Lib.mk_data s

theorem join_wide (l : List ByteArray) (sep : ByteArray) (n : Nat) (h : ∀ x ∈ l, x.size ≤ n) (hl : l.length ≤ 100) (hn : n ≤ 2000000) (hs : sep.size ≤ 10) : strings_Join.f l sep = some ⟨(joinS l sep).toArray⟩ ∧ (⟨(joinS l sep).toArray⟩ : ByteArray).size ≤ l.length * (n + sep.size) := by
  have hj := joinS_le l sep n h
  have hb : l.length * (n + sep.size) ≤ 100 * (2000000 + 10) := Nat.mul_le_mul hl (by omega)
  exact ⟨by unfold strings_Join.f; rw [if_pos ⟨by omega, by omega⟩], by rw [size_mk]; exact hj⟩
/-- segment.Make of a head's signs and texts. -/
theorem make_head (d0 d1 d2 d3 d4 : Int) (fl oth : ByteArray) (r : List ByteArray) (hfl : fl.size ≤ 10) (hoth : oth.size ≤ 10) (hr : ∀ x ∈ r, x.size ≤ 2000000) (hl : r.length ≤ 18) :
    QMake.segment_Make.f d0 d1 d2 d3 d4 ⟨#[77, 83, 72]⟩ (fl :: oth :: r) = some (strOf ([77, 83, 72] ++ fl.data.toList ++ oth.data.toList ++ cat d0.toNat.toUInt8 (r.map (·.data.toList)))) := by
  have hsep : (strOfNums [d0]).size = 1 := by rw [size_strOfNums]; rfl
  have hsd : (strOfNums [d0]).data.toList = [d0.toNat.toUInt8] := rfl
  have hmn : mn ((fl :: oth :: r).length : Int) 2 = 2 := by unfold mn; simp only [List.length_cons]; split <;> omega
  unfold QMake.segment_Make.f QMake.delim_Join.f
  rw [if_pos (by rw [Lib.toList_data]), hmn, if_pos (by omega), if_pos (by simp; omega)]
  have et : (fl :: oth :: r).take (2 : Int).toNat = [fl, oth] := rfl
  have ed : (fl :: oth :: r).drop (2 : Int).toNat = r := rfl
  rw [et, ed]
  obtain ⟨e1, b1⟩ := join_wide [fl, oth] ⟨#[]⟩ 10 (fun x hx => by
    rcases List.mem_cons.1 hx with rfl | hx
    · exact hfl
    · rw [List.mem_singleton.1 hx]; exact hoth) (by simp) (by omega) (by decide)
  have ej : joinS [fl, oth] ⟨#[]⟩ = fl.data.toList ++ oth.data.toList := by
    unfold joinS
    rw [List.map_cons, Lib.join_cons]
    simp [Lib.joinTail]
  rw [e1, ej]
  rw [ej] at b1
  simp only [Option.bind_some]
  have hs1 : (⟨(fl.data.toList ++ oth.data.toList).toArray⟩ : ByteArray).size ≤ 20 := b1
  rw [if_pos (by have : (⟨#[77, 83, 72]⟩ : ByteArray).size = 3 := rfl; omega), if_pos (by simp; omega)]
  obtain ⟨e2, b2⟩ := join_wide ([⟨#[77, 83, 72]⟩ ++ (⟨(fl.data.toList ++ oth.data.toList).toArray⟩ : ByteArray)] ++ r) (strOfNums [d0]) 2000000 (fun x hx => by
    rcases List.mem_append.1 hx with hx | hx
    · rw [List.mem_singleton.1 hx, ByteArray.size_append]
      have : (⟨#[77, 83, 72]⟩ : ByteArray).size = 3 := rfl
      omega
    · exact hr x hx) (by simp; omega) (by omega) (by omega)
  rw [e2]
  simp only [Option.bind_some]
  unfold strOf
  congr 3
  unfold joinS
  rw [List.singleton_append, List.map_cons, Lib.join_cons, hsd, joinTail_cat, ByteArray.data_append]
  simp

theorem scan_ten (fl : ByteArray) (v : Nat → ByteArray) (h : wScan fl v 10 0 = some 10) (k : Nat) (hk : k < 10) : wOk fl (v k) :=
  (wScan_spec fl v 10 0 10 h rfl).2.2.1 k (Nat.zero_le _) hk

theorem full_empty (v : Nat → ByteArray) : ∀ n k, k < n → wFull v n ≤ k + 2 → (v k).data.toList = []
  | 0, k, h, _ => by omega
  | n + 1, k, h, hf => by
    unfold wFull at hf
    split at hf
    · rename_i he
      rcases Nat.lt_or_ge k n with hkn | hkn
      · exact full_empty v n k hkn hf
      · obtain rfl : k = n := by omega
        rw [Lib.toList_data] at he
        exact List.isEmpty_iff.1 he
    · omega

/-- What msh.Write writes: a head of texts that are free of the field's sign and of the segment's end. -/
structure Written (F o1 o2 o3 o4 : UInt8) (v : Nat → ByteArray) (fs : List (List UInt8)) : Prop where
  free : ∀ f ∈ fs, F ∉ f
  no13 : (13 : UInt8) ∉ headB F o1 o2 o3 o4 fs
  signs : F ∉ osB o1 o2 o3 o4
  texts : ∀ k, k < 10 → strOf (fs.getD k []) = v k
  right : QRight.delim_Right.f 10 (F.toNat : Int) (o1.toNat : Int) (o2.toNat : Int) (o3.toNat : Int) (o4.toNat : Int) = some true
theorem write_form (F o1 o2 o3 o4 : UInt8) (s5 s6 s7 s8 s9 s10 s11 s12 s13 s14 : ByteArray) (hv : ∀ k, k < 10 → (vOf s5 s6 s7 s8 s9 s10 s11 s12 s13 s14 k).size ≤ 2000000) :
    ∃ s e, msh_Write.f (F.toNat : Int) (o1.toNat : Int) (o2.toNat : Int) (o3.toNat : Int) (o4.toNat : Int) s5 s6 s7 s8 s9 s10 s11 s12 s13 s14 = some (s, e) ∧
      (e = 0 → ∃ fs, s = strOf (headB F o1 o2 o3 o4 fs) ∧ Written F o1 o2 o3 o4 (vOf s5 s6 s7 s8 s9 s10 s11 s12 s13 s14) fs) := by
  generalize hV : vOf s5 s6 s7 s8 s9 s10 s11 s12 s13 s14 = v at hv
  unfold msh_Write.f
  obtain ⟨rt, hrt⟩ := right_tot (F.toNat : Int) (o1.toNat : Int) (o2.toNat : Int) (o3.toNat : Int) (o4.toNat : Int)
  rw [hrt, hV]
  simp only [Option.bind_some]
  split
  · exact ⟨_, _, rfl, fun h => by cases h⟩
  · rename_i hrt1
    obtain rfl : rt = true := by simpa using hrt1
    obtain ⟨m, hm⟩ := scan_tot (strOfNums [(F.toNat : Int)]) v (fun k hk => by have := hv k hk; omega) 10 0 rfl
    rw [hm]
    simp only [Option.bind_some]
    split
    · exact ⟨_, _, rfl, fun h => by cases h⟩
    · rename_i hm10
      have hle := (wScan_spec _ v 10 0 m hm rfl).2.1
      obtain rfl : m = 10 := by omega
      have hok := scan_ten _ v hm
      have hfw := wFull_le v 10
      obtain ⟨q, hq⟩ : ∃ q, wFull v 10 = q + 2 := ⟨wFull v 10 - 2, by omega⟩
      have hq10 : q ≤ 10 := by omega
      have eL : (wL (strOfNums [(F.toNat : Int)]) (strOfNums [(o1.toNat : Int), (o2.toNat : Int), (o3.toNat : Int), (o4.toNat : Int)]) v 10).take (wFull v 10) = strOfNums [(F.toNat : Int)] :: strOfNums [(o1.toNat : Int), (o2.toNat : Int), (o3.toNat : Int), (o4.toNat : Int)] :: ((List.range 10).map v).take q := by
        rw [hq]
        unfold wL
        rfl
      have hmem : ∀ x ∈ ((List.range 10).map v).take q, ∃ k, k < 10 ∧ x = v k := by
        intro x hx
        obtain ⟨k, hk, rfl⟩ := List.mem_map.1 (List.mem_of_mem_take hx)
        exact ⟨k, List.mem_range.1 hk, rfl⟩
      rw [eL, make_head _ _ _ _ _ _ _ _ (by rw [size_strOfNums]; simp) (by rw [size_strOfNums]; simp) (fun x hx => by obtain ⟨k, hk, rfl⟩ := hmem x hx; exact hv k hk) (by rw [List.length_take]; simp; omega)]
      refine ⟨_, _, rfl, fun _ => ⟨(((List.range 10).map v).take q).map (·.data.toList), ?_, ?_⟩⟩
      · have e1 : (strOfNums [(F.toNat : Int)]).data.toList = [F] := by
          rw [show strOfNums [(F.toNat : Int)] = strOf [F] from str_numsB [F]]; rfl
        have e2 : (strOfNums [(o1.toNat : Int), (o2.toNat : Int), (o3.toNat : Int), (o4.toNat : Int)]).data.toList = [o1, o2, o3, o4] := by
          rw [show strOfNums [(o1.toNat : Int), (o2.toNat : Int), (o3.toNat : Int), (o4.toNat : Int)] = strOf [o1, o2, o3, o4] from str_numsB [o1, o2, o3, o4]]; rfl
        rw [e1, e2]
        simp [headB]
      · obtain ⟨g0, g1, g2, g3, g4, n1, n2, n3, n4⟩ := right_signs hrt
        have hfree : ∀ k, k < 10 → F ∉ (v k).data.toList ∧ (13 : UInt8) ∉ (v k).data.toList := by
          intro k hk
          obtain ⟨c1, c2⟩ := hok k hk
          unfold strings_Contains.f at c1 c2
          have hs := hv k hk
          rw [if_pos (by omega)] at c1 c2
          have c1 := Option.some.inj c1
          have c2 := Option.some.inj c2
          rw [show (strOfNums [(F.toNat : Int)]).data.toList = [F] by rw [show strOfNums [(F.toNat : Int)] = strOf [F] from str_numsB [F]]; rfl] at c1
          exact ⟨(contains_one_sign _ _).1 c1, (contains_one_sign _ _).1 c2⟩
        have hfm : ∀ f ∈ (((List.range 10).map v).take q).map (·.data.toList), F ∉ f ∧ (13 : UInt8) ∉ f := by
          intro f hf
          obtain ⟨x, hx, rfl⟩ := List.mem_map.1 hf
          obtain ⟨k, hk, rfl⟩ := hmem x hx
          exact hfree k hk
        have ne : ∀ {a b : UInt8}, (a.toNat : Int) ≠ (b.toNat : Int) → a ≠ b := fun h e => h (by rw [e])
        have ne13 : ∀ {a : UInt8}, 32 < (a.toNat : Int) → (13 : UInt8) ≠ a := fun h e => by rw [← e] at h; exact absurd h (by decide)
        refine ⟨fun f hf => (hfm f hf).1, ?_, ?_, ?_, hrt⟩
        · unfold headB
          intro hm
          simp only [List.mem_cons] at hm
          rcases hm with h | h | h | h | h | h | h | h | h
          · exact absurd h (by decide)
          · exact absurd h (by decide)
          · exact absurd h (by decide)
          · exact ne13 g0.1 h
          · exact ne13 g1.1 h
          · exact ne13 g2.1 h
          · exact ne13 g3.1 h
          · exact ne13 g4.1 h
          · rcases mem_cat h with h | ⟨f, hf, hx⟩
            · exact ne13 g0.1 h
            · exact (hfm f hf).2 hx
        · unfold osB
          simp only [List.mem_cons, List.not_mem_nil, or_false]
          rintro (h | h | h | h)
          · exact ne n1 h
          · exact ne n2 h
          · exact ne n3 h
          · exact ne n4 h
        · intro k hk
          rw [List.getD_eq_getElem?_getD, List.getElem?_map, List.getElem?_take]
          by_cases hkq : k < q
          · rw [if_pos hkq, List.getElem?_map, List.getElem?_range hk]
            exact strOf_toList _
          · rw [if_neg hkq]
            have := full_empty v 10 k hk (by omega)
            rw [← strOf_toList (v k), this]
            rfl
end Go.Proofs.YtciagecaegoppaaDoor
namespace Go.Proofs.YtciagecaegoppaaDoor
set_option linter.unusedVariables false
set_option linter.unusedSimpArgs false
set_option maxRecDepth 20000
open Go.RowKit Go.Proofs.YtciagecaegoppaaDoorW.PrintWords Go.Proofs.YtciagecaegoppaaDoorW.PrintLast Go.Proofs.YtciagecaegoppaaDoorW.PrintMore

theorem indexByte_cut (a r : List UInt8) (c : UInt8) (h : c ∉ a) : Lib.indexByte (a ++ c :: r) c = (a.length : Nat) := by
  induction a with
  | nil => simp [Lib.indexByte]
  | cons b a ih =>
    have hb : b ≠ c := fun e => h (e ▸ List.mem_cons_self)
    have ih := ih (fun hm => h (List.mem_cons_of_mem _ hm))
    rw [List.cons_append, Lib.indexByte, if_neg (by simpa using hb), ih, if_neg (by simp)]
    (try simp)
theorem numsB_append (a b : List UInt8) : numsB (a ++ b) = numsB a ++ numsB b := by unfold numsB; rw [List.map_append]
theorem numsB_take (a : List UInt8) (n : Nat) : (numsB a).take n = numsB (a.take n) := by unfold numsB; rw [List.map_take]
theorem numsB_len (a : List UInt8) : (numsB a).length = a.length := by unfold numsB; rw [List.length_map]
theorem firstSeg_numsB (a r : List UInt8) (h : (13 : UInt8) ∉ a) : firstSeg (numsB (a ++ 13 :: r)) = numsB a := by
  have e : Lib.bytesOf [13] = [(13 : UInt8)] := rfl
  unfold firstSeg
  rw [bytes_numsB, e, Lib.index_one, indexByte_cut a r 13 h, if_pos (by omega), Int.toNat_natCast, numsB_take, List.take_left]

section
variable (F o1 o2 o3 o4 : UInt8) (s5 s6 s7 s8 s9 s10 s11 s12 s13 s14 : ByteArray) (fs : List (List UInt8)) (R : List UInt8)
theorem read_written (W : Written F o1 o2 o3 o4 (vOf s5 s6 s7 s8 s9 s10 s11 s12 s13 s14) fs) (hsz : (headB F o1 o2 o3 o4 fs ++ 13 :: R).length < 4294967281) :
    msh_Read.f (numsB (headB F o1 o2 o3 o4 fs ++ 13 :: R)) = some ((F.toNat : Int), (o1.toNat : Int), (o2.toNat : Int), (o3.toNat : Int), (o4.toNat : Int), s5, s6, s7, s8, s9, s10, s11, s12, s13, s14, 0) := by
  have hp := parse F o1 o2 o3 o4 fs (13 :: R) W.free W.signs W.no13 (.inr ⟨R, rfl⟩) (.inr (by simp)) W.right hsz
  rw [W.texts 0 (by decide), W.texts 1 (by decide), W.texts 2 (by decide), W.texts 3 (by decide), W.texts 4 (by decide), W.texts 5 (by decide), W.texts 6 (by decide), W.texts 7 (by decide), W.texts 8 (by decide), W.texts 9 (by decide)] at hp
  exact hp
theorem verdict_form_written (W : Written F o1 o2 o3 o4 (vOf s5 s6 s7 s8 s9 s10 s11 s12 s13 s14) fs) (hsz : (headB F o1 o2 o3 o4 fs ++ 13 :: R).length < 4294967281) (h28 : (28 : UInt8) ∈ headB F o1 o2 o3 o4 fs) :
    accept_Verdict.f (numsB (headB F o1 o2 o3 o4 fs ++ 13 :: R)) = some (verdictZ 10) := by
  unfold accept_Verdict.f
  rw [if_pos ⟨Bytes_numsB _, by rw [numsB_len]; exact hsz⟩, read_written F o1 o2 o3 o4 s5 s6 s7 s8 s9 s10 s11 s12 s13 s14 fs R W hsz]
  simp only [Option.bind_some]
  rw [if_neg (by simp), firstSeg_numsB _ _ W.no13, bytes_numsB, if_pos ((indexByte_mem _ _).2 h28)]
theorem verdict_on_written (W : Written F o1 o2 o3 o4 (vOf s5 s6 s7 s8 s9 s10 s11 s12 s13 s14) fs) (hsz : (headB F o1 o2 o3 o4 fs ++ 13 :: R).length < 4294967281) (h28 : (28 : UInt8) ∉ headB F o1 o2 o3 o4 fs) (c : Int) (hc : msh_Check.f (F.toNat : Int) (o1.toNat : Int) (o2.toNat : Int) (o3.toNat : Int) (o4.toNat : Int) s5 s6 s7 s8 s9 s10 s11 s12 s13 s14 = some c) :
    accept_Verdict.f (numsB (headB F o1 o2 o3 o4 fs ++ 13 :: R)) = some ((F.toNat : Int), (o1.toNat : Int), (o2.toNat : Int), (o3.toNat : Int), (o4.toNat : Int), s5, s6, s7, s8, s9, s10, s11, s12, s13, s14, codeOf c, c) := by
  unfold accept_Verdict.f
  rw [if_pos ⟨Bytes_numsB _, by rw [numsB_len]; exact hsz⟩, read_written F o1 o2 o3 o4 s5 s6 s7 s8 s9 s10 s11 s12 s13 s14 fs R W hsz]
  simp only [Option.bind_some]
  rw [if_neg (by simp), firstSeg_numsB _ _ W.no13, bytes_numsB, if_neg (fun h => h28 ((indexByte_mem _ _).1 h)), hc]
  rfl
end
end Go.Proofs.YtciagecaegoppaaDoor
namespace Go.Proofs.YtciagecaegoppaaDoor
set_option linter.unusedVariables false
set_option linter.unusedSimpArgs false
set_option maxRecDepth 20000
open Go.RowKit Go.Proofs.YtciagecaegoppaaDoorW.PrintWords Go.Proofs.YtciagecaegoppaaDoorW.PrintLast Go.Proofs.YtciagecaegoppaaDoorW.PrintMore

theorem below_setCells {B : Nat} {w : World} (b : Nat) (hb : B ≤ b) : ∀ (vs : List Value) (o : Nat) (W : World), Below B w W → Below B w (W.setCells b o vs)
  | [], _, _, h => h
  | v :: r, o, W, h => below_setCells b hb r (o + 1) _ (h.setCell hb _)

theorem conv_C (W : World) (s : ByteArray) (hs : s.size ≤ 9223372036854775807) : Kd.C (Kd.int .u8) (Lib.bytesWorld W 5 s) (some ⟨W.heap.size, 0, none⟩) s.size (bytesOf s) :=
  Kd.C_of_reads (d := (0 : Int)) (enc := Value.int .u8) (h1 := fun _ => rfl) (bytes_reads W 5 s hs)

theorem conv_cell (W : World) (s : ByteArray) (j : Nat) (hj : j < grownCap W s.size 0 5) : ((Lib.bytesWorld W 5 s).cell? ⟨W.heap.size, j, none⟩).isSome = true ∧ (Lib.bytesWorld W 5 s).frozen? ⟨W.heap.size, j, none⟩ = false := by
  have hg := grownCap_ge W s.size 0 5
  have hz : (Lib.bytesCells W 5 s).size = grownCap W s.size 0 5 := by
    unfold Lib.bytesCells
    rw [Array.size_append, Array.size_map, Array.size_replicate]
    show s.size + _ = _
    omega
  constructor
  · simp [World.cell?, Lib.bytesWorld_at_new, hz, hj]
  · simp only [World.frozen?, Lib.bytesWorld_at_new, Bool.and_eq_false_iff, decide_eq_false_iff_not]
    left
    rw [hz]
    omega

theorem conv_append (W : World) (s : ByteArray) (A : Option Addr) (c : Nat) (l : List Int) (hC : Kd.C (Kd.int .u8) W A l.length l) (hsz : s.size + l.length ≤ 100000) (ty : TypeId) :
    ∃ A' c' w', (Builtin.append_ #[26, 26] ty #[.slice (some ⟨W.heap.size, 0, none⟩) s.size (grownCap W s.size 0 5), .slice A l.length c]).run Tryd.prog (Lib.bytesWorld W 5 s) = .ok (.slice A' (s.size + l.length) c') w' ∧
      s.size + l.length ≤ c' ∧ Kd.C (Kd.int .u8) w' A' (s.size + l.length) (bytesOf s ++ l) ∧ Below W.heap.size W w' := by
  obtain ⟨i0, hi0, hz0, hz1, hz2⟩ := info_parts info5
  have hB : Below W.heap.size W (Lib.bytesWorld W 5 s) := bytes_below (Below.refl _ _) (Nat.le_refl _) 5 s
  have hCs := conv_C W s (by omega)
  have hC' : Kd.C (Kd.int .u8) (Lib.bytesWorld W 5 s) A l.length l := Kd.C_below hC hB
  have hge := grownCap_ge W s.size 0 5
  have hbl : (bytesOf s).length = s.size := bytesOf_length s
  rcases Nat.eq_zero_or_pos l.length with h0 | hp
  · obtain rfl : l = [] := List.length_eq_zero_iff.1 h0
    refine ⟨some ⟨W.heap.size, 0, none⟩, grownCap W s.size 0 5, Lib.bytesWorld W 5 s, ?_, hge, by rw [List.append_nil]; exact hCs, hB⟩
    cases A with
    | none => simp [Builtin.append_, run_underlying Tryd.underlying26, sizeOf, typeInfo, hi0, Builtin.lenOf, Builtin.firstCells, loadCells, loadCellsFrom, hge, storeCells]
    | some a => exact run_append_room_cells (Lib.bytesWorld W 5 s) 26 ty 5 i0 Tryd.underlying26 hi0 W.heap.size 0 s.size _ a 0 c [] (by simp) (by simp) (by simp) (by omega) (by simp) (by simp)
  · obtain ⟨h1, _, h3⟩ := Kd.reads_of_C (d := (0 : Int)) (enc := Value.int .u8) hC'
    obtain ⟨ad, rfl, hcell⟩ := h3 hp
    have hnews : ∀ j u, (l.map (Value.int .u8))[j]? = some u → (Lib.bytesWorld W 5 s).cell? (ad.add j) = some u := by
      intro j u hj
      rw [List.getElem?_map] at hj
      obtain ⟨x, hx, rfl⟩ := Option.map_eq_some_iff.1 hj
      have hlt : j < l.length := (List.getElem?_eq_some_iff.1 hx).1
      rw [hcell j hlt, List.getD_eq_getElem?_getD, hx]
      rfl
    by_cases hr : s.size + l.length ≤ grownCap W s.size 0 5
    · have hrun := run_append_room_cells (P := Tryd.prog) (Lib.bytesWorld W 5 s) 26 ty 5 i0 Tryd.underlying26 hi0 W.heap.size 0 s.size _ ad l.length c (l.map (Value.int .u8)) (by rw [List.length_map, hz1]; omega) hnews (by intro u hu; obtain ⟨x, _, rfl⟩ := List.mem_map.1 hu; rfl) hr
        (fun j hj => by rw [List.length_map] at hj; exact (conv_cell W s _ (by rw [hz1]; omega)).1) (fun j hj => by rw [List.length_map] at hj; exact (conv_cell W s _ (by rw [hz1]; omega)).2)
      rw [hz1] at hrun
      refine ⟨_, _, _, hrun, hr, Kd.C_of_reads (d := (0 : Int)) (enc := Value.int .u8) (h1 := fun _ => rfl) ⟨by rw [List.length_append, hbl], by omega, fun _ => ⟨_, rfl, fun j hj => ?_⟩⟩, below_setCells _ (Nat.le_refl _) _ _ _ hB⟩
      rw [add_plain]
      rcases Nat.lt_or_ge j s.size with hjs | hjs
      · rw [World.cell?_setCells_out _ _ _ _ _ (fun _ _ => .inl (by show j < _; omega))]
        obtain ⟨_, _, g3⟩ := bytes_reads W 5 s (by omega)
        obtain ⟨ad', e', hc'⟩ := g3 (by omega)
        cases e'
        have := hc' j hjs
        rw [add_plain] at this
        rw [this]
        simp [List.getD_eq_getElem?_getD, List.getElem?_append, hbl, hjs]
      · obtain ⟨k, rfl⟩ : ∃ k, j = s.size + k := ⟨j - s.size, by omega⟩
        have hk : k < l.length := by omega
        have := World.cell?_setCells_in W.heap.size (l.map (Value.int .u8)) (0 + s.size * 1) (Lib.bytesWorld W 5 s) (fun j hj => by rw [List.length_map] at hj; exact (conv_cell W s _ (by omega)).1) k (by rw [List.length_map]; exact hk)
        rw [show 0 + s.size * 1 + k = s.size + k by omega] at this
        rw [this]
        simp [List.getD_eq_getElem?_getD, List.getElem?_append, hbl, hk]
    · obtain ⟨v', w', hrun, hown, hgr⟩ := run_append_arg_grows (P := Tryd.prog) (Lib.bytesWorld W 5 s) 26 ty 5 i0 (.int .u8 0) 1 1 Tryd.underlying26 hi0 hz0 hz1 hz2 rfl (by decide) ⟨W.heap.size, 0, none⟩ s.size (grownCap W s.size 0 5) ((bytesOf s).map (Value.int .u8)) (by rw [List.length_map, hbl]; omega)
        (fun j u hj => by
          rw [List.getElem?_map] at hj
          obtain ⟨x, hx, rfl⟩ := Option.map_eq_some_iff.1 hj
          have hlt : j < s.size := by rw [← hbl]; exact (List.getElem?_eq_some_iff.1 hx).1
          obtain ⟨_, _, g3⟩ := bytes_reads W 5 s (by omega)
          obtain ⟨ad', e', hc'⟩ := g3 (by omega)
          cases e'
          rw [hc' j hlt, List.getD_eq_getElem?_getD, hx]
          rfl) ad l.length c (l.map (Value.int .u8)) (by rw [List.length_map]; omega) hnews (by omega) (by have : maxLen = 9223372036854775807 := rfl; omega) (by omega)
      have hBw : Below W.heap.size W w' := below_grown hB hgr hB.size (fun r e => by cases e)
      have hR : Kd.R (Kd.int .u8) 5 w' (Lib.bytesWorld W 5 s).heap.size (fun _ => True) v' (bytesOf s ++ l) := Kd.R_of_own (enc := Value.int .u8) (h1 := fun _ => rfl) (by rw [List.length_append, hbl, encs_append]; exact hown) (fun _ _ => trivial)
      obtain ⟨A1, c1, rfl⟩ := Kd.R_slice hR
      obtain ⟨_, hlc, hC1⟩ := Kd.R_reads' hR
      rw [List.length_append, hbl] at hrun hlc hC1
      exact ⟨A1, c1, w', hrun, hlc, hC1, hBw⟩
end Go.Proofs.YtciagecaegoppaaDoor
namespace Go.Proofs.YtciagecaegoppaaDoor
set_option linter.unusedVariables false
set_option linter.unusedSimpArgs false
set_option maxRecDepth 100000
open Go.RowKit Go.Proofs.YtciagecaegoppaaDoorW.PrintWords Go.Proofs.YtciagecaegoppaaDoorW.PrintLast Go.Proofs.YtciagecaegoppaaDoorW.PrintMore

section
variable (d0 d1 d2 d3 d4 : Int) (s5 s6 s7 s8 s9 s10 s11 s12 s13 s14 : ByteArray) (A0 : Option Addr) (c0 : Nat) (l0 : List Int) (w : World)

set_option maxHeartbeats 2000000 in
theorem heads_not (hG : GlobA w) (s : ByteArray) (e0 : Int) (hw : msh_Write.f d0 d1 d2 d3 d4 s5 s6 s7 s8 s9 s10 s11 s12 s13 s14 = some (s, e0)) (b1 b2 b3 : Bool) (h1 : (e0 == 0) = b1) (h2 : decide (s.size > 2000) = b2) (h3 : decide (l0.length > 1000) = b3) (hn : (b1 = false) ∨ b2 = true ∨ b3 = true) :
    Calls Tryd.prog 3 #[.agg #[.int .u8 d0, .int .u8 d1, .int .u8 d2, .int .u8 d3, .int .u8 d4, .string s5, .string s6, .string s7, .string s8, .string s9, .string s10, .string s11, .string s12, .string s13, .string s14], .slice A0 l0.length c0] w fun e w' => e = .returned (.bool true) ∧ Below w.heap.size w w' := by
  have HG := Aside0.mk hG; have HW := Aside0.mk hw
  have g2 : decide ((s.size : Int) > 2000) = b2 := by rw [← h2, Bool.eq_iff_iff]; simp; omega
  have g2' : decide (2000 < (s.size : Int)) = b2 := g2
  have g2'' : decide (2000 < s.size) = b2 := h2
  have g3 : decide ((l0.length : Int) > 1000) = b3 := by rw [← h3, Bool.eq_iff_iff]; simp; omega
  have g3' : decide (1000 < (l0.length : Int)) = b3 := g3
  have g3'' : decide (1000 < l0.length) = b3 := h3
  have g1 : (e0 != 0) = !b1 := by rw [← h1]; rfl
  clear hG hw
  cases b1 <;> cases b2 <;> cases b3
  case true.false.false => simp at hn
  all_goals
    clear hn
    simp only [Bool.not_false, Bool.not_true] at g1
    go_enter Tryd.func3, Tryd.ntmps3
    go_wp2_with (first
    | (go_at_call 8; refine (msh_Write.calls d0 d1 d2 d3 d4 s5 s6 s7 s8 s9 s10 s11 s12 s13 s14 s e0 _ ?g HW.out).mono ?_; (case g => exact HG.out.below (below_alloc (Below.refl _ _) _)); rintro e w2 ⟨rfl, hb2⟩; have HB2 := Aside0.mk (below_step (below_alloc (Below.refl _ _) _) hb2); clear hb2)
    | (go_at_call 9; refine (law_alive.calls true _ (HG.out.below HB2.out) rfl).mono ?_; rintro e w9 ⟨rfl, hb9⟩; have HB9 := Aside0.mk (below_step HB2.out hb9); clear hb9))
    go_ret
    exact ⟨rfl, HB9.out⟩
/-- A loop's measure, behind a name: the kernel must not look into 'wrap64' of a letter. -/
def mes (n : Nat) (v : Value) : Nat := n - (intOf v).toNat
theorem mes_lt (n k : Nat) (a : Int) (h : k < n) (ha : a = (k : Int) + 1) : mes n (.int .i64 a) < mes n (.int .i64 (k : Nat)) := by
  show n - a.toNat < n - ((k : Nat) : Int).toNat
  subst ha
  omega
theorem codeOf_ne (f : Int) : ((codeOf f).toList == ([] : List UInt8)) = false := by
  unfold codeOf
  split
  · simp [Lib.toList_data]
  · split <;> simp [Lib.toList_data]
theorem index_bt (s : ByteArray) (k : Nat) (hk : k < s.size) (W : World) : (Instr.index 9 (.string s) (.int .i64 (k : Nat))).run Tryd.prog W = .ok (.int .u8 (bt s (k : Nat))) W := by
  rw [run_index_string W 9 s .i64 (k : Nat) Tryd.underlying9]
  have h1 : ((k : Nat) : Int).toNat < s.size := by simpa using hk
  simp [bt, hk]
theorem bt_get (s : ByteArray) (k : Nat) (hk : k < s.size) : bt s (k : Nat) = ((s.data.toList[k]'(by rw [data_length]; exact hk)).toNat : Int) := by
  simp [bt, hk]
  rfl
theorem bt_not_mem (s : ByteArray) (k : Nat) (hk : k < s.size) (h : (28 : UInt8) ∉ s.data.toList) : ¬ bt s (k : Nat) = 28 := by
  rw [bt_get s k hk]
  intro e
  have hm : s.data.toList[k]'(by rw [data_length]; exact hk) ∈ s.data.toList := List.getElem_mem _
  generalize s.data.toList[k]'(by rw [data_length]; exact hk) = b at e hm
  have : b = 28 := by
    apply UInt8.toNat_inj.1
    show b.toNat = 28
    omega
  exact h (this ▸ hm)
theorem not_mem_bt (s : ByteArray) (h : ∀ j, j < s.size → ¬ bt s (j : Nat) = 28) : (28 : UInt8) ∉ s.data.toList := by
  intro hm
  obtain ⟨j, hj, e⟩ := List.getElem_of_mem hm
  rw [data_length] at hj
  refine h j hj ?_
  rw [bt_get s j hj, e]
  rfl
theorem eq_head (d0 d1 d2 d3 d4 : Int) (s5 s6 s7 s8 s9 s10 s11 s12 s13 s14 : ByteArray) (W : World) :
    (Op.equalIn 10000 25 (.agg #[.int .u8 d0, .int .u8 d1, .int .u8 d2, .int .u8 d3, .int .u8 d4, .string s5, .string s6, .string s7, .string s8, .string s9, .string s10, .string s11, .string s12, .string s13, .string s14]) (.agg #[.int .u8 d0, .int .u8 d1, .int .u8 d2, .int .u8 d3, .int .u8 d4, .string s5, .string s6, .string s7, .string s8, .string s9, .string s10, .string s11, .string s12, .string s13, .string s14])).run Tryd.prog W = .ok true W := by
  refine eqA_of (d := 9999) Tryd.underlying25 (by kernel_rfl) ?_
  refine eqf_cons (r := true) (s := true) (by rfl) (by go_simp; rfl) (by go_simp; rfl) (by have := QRight.eqA23 9997 W d0 d0 d1 d1 d2 d2 d3 d3 d4 d4; simpa using this) ?_
  iterate 9 refine eqf_cons (r := true) (s := true) (by rfl) (by go_simp; rfl) (by go_simp; rfl) (by go_simp) ?_
  exact eqf_last (by rfl) (by go_simp; rfl) (by go_simp; rfl) (by go_simp)

theorem verdict_len (v0 v1 v2 v3 v4 : Int) (t5 t6 t7 t8 t9 t10 t11 t12 t13 t14 cd : ByteArray) (f : Int) (A : Option Addr) (n c : Nat) (l : List Int) (hl : l.length = n) (W : World) (hG : GlobA W) (hC : Kd.C (Kd.int .u8) W A n l) (hc : n ≤ c) (h : accept_Verdict.f l = some (v0, v1, v2, v3, v4, t5, t6, t7, t8, t9, t10, t11, t12, t13, t14, cd, f)) :
    Calls Tryd.prog 10 #[.slice A n c] W fun e w' => e = .returned (.tuple #[.agg #[.int .u8 v0, .int .u8 v1, .int .u8 v2, .int .u8 v3, .int .u8 v4, .string t5, .string t6, .string t7, .string t8, .string t9, .string t10, .string t11, .string t12, .string t13, .string t14], .string cd, .int .i64 f]) ∧ Below W.heap.size W w' := by
  subst hl
  exact accept_Verdict.calls A c l v0 v1 v2 v3 v4 t5 t6 t7 t8 t9 t10 t11 t12 t13 t14 cd f W hG hC hc h

theorem wpList_convapp {ops : Array Oper} {rest : List Oper} {o : Oper} {a : Act} {Q : Exit → Act → World → Prop} (hgd : o.guard = none) (sl x : Operand) (ho : o.op = .call { callee := .builtin .append, args := #[sl, x], argTypes := #[26, 26] }) (W : World) (S : ByteArray) (A : Option Addr) (c : Nat) (l : List Int) (g : Nat) (hg : g = W.heap.size)
    (hs : a.eval sl = .slice (some ⟨g, 0, none⟩) S.size (grownCap W S.size 0 5)) (hx : a.eval x = .slice A l.length c) (hC : Kd.C (Kd.int .u8) W A l.length l) (hsz : S.size + l.length ≤ 100000)
    (h : ∀ A' c' w', S.size + l.length ≤ c' → Kd.C (Kd.int .u8) w' A' (S.size + l.length) (bytesOf S ++ l) → Below W.heap.size W w' → wpList Tryd.prog ops Q rest (a.put o.dst (.slice A' (S.size + l.length) c')) w') :
    wpList Tryd.prog ops Q (o :: rest) a (Lib.bytesWorld W 5 S) := by
  subst hg
  obtain ⟨A', c', w', hrun, hc', hC', hB⟩ := conv_append W S A c l hC hsz o.type
  refine wpList_plain hgd fun K hK' => ?_
  unfold Oper.wp
  simp [execOp, ho, resolve, invoke, builtin, hs, hx, hrun, Result.andThen]
  exact hK' _ _ (h A' c' w' hc' hC' hB)

set_option maxHeartbeats 8000000 in
theorem heads_form (hG : GlobA w) (hC : Kd.C (Kd.int .u8) w A0 l0.length l0) (s : ByteArray) (hw : msh_Write.f d0 d1 d2 d3 d4 s5 s6 s7 s8 s9 s10 s11 s12 s13 s14 = some (s, 0)) (hs : s.size ≤ 2000) (hl : l0.length ≤ 1000) (S : ByteArray) (hS : s ++ ⟨#[13]⟩ = S)
    (h28 : (28 : UInt8) ∈ s.data.toList) (hv1 : accept_Verdict.f (bytesOf S) = some (0, 0, 0, 0, 0, ⟨#[]⟩, ⟨#[]⟩, ⟨#[]⟩, ⟨#[]⟩, ⟨#[]⟩, ⟨#[]⟩, ⟨#[]⟩, ⟨#[]⟩, ⟨#[]⟩, ⟨#[]⟩, ⟨#[]⟩, 10)) (hv2 : accept_Verdict.f (bytesOf S ++ l0) = some (0, 0, 0, 0, 0, ⟨#[]⟩, ⟨#[]⟩, ⟨#[]⟩, ⟨#[]⟩, ⟨#[]⟩, ⟨#[]⟩, ⟨#[]⟩, ⟨#[]⟩, ⟨#[]⟩, ⟨#[]⟩, ⟨#[]⟩, 10)) :
    Calls Tryd.prog 3 #[.agg #[.int .u8 d0, .int .u8 d1, .int .u8 d2, .int .u8 d3, .int .u8 d4, .string s5, .string s6, .string s7, .string s8, .string s9, .string s10, .string s11, .string s12, .string s13, .string s14], .slice A0 l0.length c0] w fun e w' => e = .returned (.bool true) ∧ Below w.heap.size w w' := by
  have HG := Aside0.mk hG; have HW := Aside0.mk hw; have HC := Aside0.mk hC; have HV1 := Aside0.mk hv1; have HV2 := Aside0.mk hv2; have H28 := Aside0.mk h28
  have hsz : S.size = s.size + 1 := by rw [← hS, ByteArray.size_append]; rfl
  have HSZ : Aside0 (S.size + l0.length ≤ 100000) := ⟨by omega⟩
  have hnl : ¬ 9223372036854775807 < s.size + 1 := by omega
  have g2 : decide ((s.size : Int) > 2000) = false := decide_eq_false (by omega)
  have g2' : decide (2000 < (s.size : Int)) = false := g2
  have g2'' : decide (2000 < s.size) = false := decide_eq_false (by omega)
  have g3 : decide ((l0.length : Int) > 1000) = false := decide_eq_false (by omega)
  have g3' : decide (1000 < (l0.length : Int)) = false := g3
  have g3'' : decide (1000 < l0.length) = false := decide_eq_false (by omega)
  have kb := fun W : World => print_bytes (P := Tryd.prog) 9 26 5 Tryd.underlying9 Tryd.underlying26 Tryd.underlying5 S W
  clear hG hw hC hv1 hv2 hsz h28
  have HL := Aside0.mk hl; have HS := Aside0.mk hs
  clear hl hs
  go_enter Tryd.func3, Tryd.ntmps3
  go_wp2_with (first
    | (go_at_call 10; refine (verdict_len 0 0 0 0 0 ⟨#[]⟩ ⟨#[]⟩ ⟨#[]⟩ ⟨#[]⟩ ⟨#[]⟩ ⟨#[]⟩ ⟨#[]⟩ ⟨#[]⟩ ⟨#[]⟩ ⟨#[]⟩ ⟨#[]⟩ 10 A6 (S.size + l0.length) c6 (bytesOf S ++ l0) (by rw [List.length_append, bytesOf_length]) _ (HG.out.below HB6.out) HC6.out HL6.out HV2.out).mono ?_; rintro e w7 ⟨rfl, hb7⟩; have HB7 := Aside0.mk (below_step HB6.out hb7); have HBG7 := Aside0.mk (below_step HBG6.out hb7); clear hb7)
    | (go_at_call 10; refine (verdict_len 0 0 0 0 0 ⟨#[]⟩ ⟨#[]⟩ ⟨#[]⟩ ⟨#[]⟩ ⟨#[]⟩ ⟨#[]⟩ ⟨#[]⟩ ⟨#[]⟩ ⟨#[]⟩ ⟨#[]⟩ ⟨#[]⟩ 10 (some ⟨w2.heap.size, 0, none⟩) S.size _ (bytesOf S) (bytesOf_length S) _ (HG.out.below (bytes_below HB2.out HB2.out.size _ _)) (conv_C w2 S (by have := HSZ.out; omega)) (grownCap_ge _ _ _ _) HV1.out).mono ?_; rintro e w4 ⟨rfl, hb4⟩; have HB4 := Aside0.mk (below_step (bytes_below HB2.out HB2.out.size _ _) hb4); have HBLK4 := Aside0.mk (blk_below HBLK2.out (below_step (bytes_below (Below.refl _ _) (Nat.le_refl _) _ _) hb4)); clear hb4)
    | (go_at_call 8; refine (msh_Write.calls d0 d1 d2 d3 d4 s5 s6 s7 s8 s9 s10 s11 s12 s13 s14 s 0 _ ?g HW.out).mono ?_; (case g => exact HG.out.below (below_alloc (Below.refl _ _) _)); rintro e w2 ⟨rfl, hb2⟩; have HB2 := Aside0.mk (below_step (below_alloc (Below.refl _ _) _) hb2); have HBLK2 := Aside0.mk (blk_below (blk_new w (.cells #[.int .u8 d0, .int .u8 d1, .int .u8 d2, .int .u8 d3, .int .u8 d4, .string s5, .string s6, .string s7, .string s8, .string s9, .string s10, .string s11, .string s12, .string s13, .string s14] 25)) hb2); clear hb2)
    | ((with_reducible refine gate_builtin (b := .append) (xs := #[.tmp 43, .tmp 44]) rfl ?_); at_builtin; refine wpList_convapp rfl (.tmp 43) (.tmp 44) rfl _ S A0 c0 l0 (w4.heap.size + 1) (by simp) rfl rfl ?aC HSZ.out ?_; (case aC => exact Kd.C_below HC.out (below_alloc HB4.out _)); intro A6 c6 w6 hl6 hC6 hb6; have HL6 := Aside0.mk hl6; have HC6 := Aside0.mk hC6; have HB6 := Aside0.mk (below_step (below_alloc HB4.out _) hb6); have HBG6 := Aside0.mk hb6; clear hl6 hC6 hb6))
  obtain ⟨Wf, hWf⟩ : ∃ Wf, Wf = w7.alloc (.cells #[.int .u8 0, .int .u8 0, .int .u8 0, .int .u8 0, .int .u8 0, .string ⟨#[]⟩, .string ⟨#[]⟩, .string ⟨#[]⟩, .string ⟨#[]⟩, .string ⟨#[]⟩, .string ⟨#[]⟩, .string ⟨#[]⟩, .string ⟨#[]⟩, .string ⟨#[]⟩, .string ⟨#[]⟩] 25) := ⟨_, rfl⟩
  have HWB : Aside0 (Below w.heap.size w Wf) := ⟨by rw [hWf]; exact below_alloc HB7.out _⟩
  have HWh : Aside0 (Wf.heap[w.heap.size]? = some (.cells #[.int .u8 d0, .int .u8 d1, .int .u8 d2, .int .u8 d3, .int .u8 d4, .string s5, .string s6, .string s7, .string s8, .string s9, .string s10, .string s11, .string s12, .string s13, .string s14] 25 (0, 0))) := ⟨by rw [hWf]; exact blk_alloc (blk_below (blk_alloc HBLK4.out _) HBG7.out) _⟩
  have HWg : Aside0 (Wf.heap[w4.heap.size]? = some (.cells #[.int .u8 0, .int .u8 0, .int .u8 0, .int .u8 0, .int .u8 0, .string ⟨#[]⟩, .string ⟨#[]⟩, .string ⟨#[]⟩, .string ⟨#[]⟩, .string ⟨#[]⟩, .string ⟨#[]⟩, .string ⟨#[]⟩, .string ⟨#[]⟩, .string ⟨#[]⟩, .string ⟨#[]⟩] 25 (0, 0))) := ⟨by rw [hWf]; exact blk_alloc (blk_below (blk_new w4 _) HBG7.out) _⟩
  have HWi : Aside0 (Wf.heap[w7.heap.size]? = some (.cells #[.int .u8 0, .int .u8 0, .int .u8 0, .int .u8 0, .int .u8 0, .string ⟨#[]⟩, .string ⟨#[]⟩, .string ⟨#[]⟩, .string ⟨#[]⟩, .string ⟨#[]⟩, .string ⟨#[]⟩, .string ⟨#[]⟩, .string ⟨#[]⟩, .string ⟨#[]⟩, .string ⟨#[]⟩] 25 (0, 0))) := ⟨by rw [hWf]; exact blk_new w7 _⟩
  rw [← hWf]
  clear HB2 HB4 HB6 HB7 HBLK2 HBLK4 HBG6 HBG7 HC6 HL6 hWf kb hnl
  go_loopw [13, 52] (fun v13 v52 W => ∃ k : Nat, k ≤ s.size ∧ v52 = .int .i64 (k : Nat) ∧ Aside0 (W = Wf) ∧ Aside0 (∀ j, j < k → ¬ bt s (j : Nat) = 28)) (fun _ v52 _ => mes s.size v52)
  case atStart => exact ⟨0, Nat.zero_le _, rfl, ⟨rfl⟩, ⟨fun j hj => absurd hj (Nat.not_lt_zero _)⟩⟩
  case round =>
    obtain ⟨k, hk, rfl, HWW, HJ⟩ := hrel
    have hwk : wrap64 ((k : Int) + 1) = (k : Int) + 1 := by have := HS.out; unfold wrap64; omega
    obtain hWW := HWW.out
    subst hWW
    clear HWW
    rcases Nat.lt_or_ge k s.size with hks | hks
    · have hlt : decide ((k : Int) < (s.size : Int)) = true := decide_eq_true (by omega)
      have hlt' : decide (k < s.size) = true := decide_eq_true hks
      obtain ⟨x, hx⟩ : ∃ x, x = bt s (k : Nat) := ⟨_, rfl⟩
      have hidx : ∀ W : World, (Instr.index 9 (.string s) (.int .i64 (k : Nat))).run Tryd.prog W = .ok (.int .u8 x) W := fun W => by rw [hx]; exact index_bt s k hks W
      have HX := Aside0.mk hx; have HKS := Aside0.mk hks
      clear hx hks hk
      by_cases h8 : x = 28
      · subst h8
        go_wp2_with (go_at_call 9; refine (law_alive.calls true _ (HG.out.below HWB.out) rfl).mono ?_; rintro e w9 ⟨rfl, hb9⟩; have HB9 := Aside0.mk (below_step HWB.out hb9); clear hb9)
        go_ret
        exact ⟨rfl, HB9.out⟩
      · have hx1 : (x == 28) = false := by simpa using h8
        have hx2 : decide (x = 28) = false := decide_eq_false h8
        have HX8 := Aside0.mk h8
        clear h8
        go_wp2
        go_roundw
        case rel => exact ⟨k + 1, HKS.out, by go_num, ⟨by first | rfl | trivial⟩, ⟨fun j hj => by rcases Nat.lt_or_ge j k with hjk | hjk; exact HJ.out j hjk; (obtain rfl : j = k := by omega); rw [← HX.out]; exact HX8.out⟩⟩
        case measure => exact mes_lt s.size k _ HKS.out hwk
    · exact absurd H28.out (not_mem_bt s (fun j hj => HJ.out j (by omega)))
set_option maxHeartbeats 8000000 in
theorem heads_on (hG : GlobA w) (hC : Kd.C (Kd.int .u8) w A0 l0.length l0) (s : ByteArray) (hw : msh_Write.f d0 d1 d2 d3 d4 s5 s6 s7 s8 s9 s10 s11 s12 s13 s14 = some (s, 0)) (hs : s.size ≤ 2000) (hl : l0.length ≤ 1000) (S : ByteArray) (hS : s ++ ⟨#[13]⟩ = S)
    (f : Int) (h28 : (28 : UInt8) ∉ s.data.toList) (hk0 : msh_Check.f d0 d1 d2 d3 d4 s5 s6 s7 s8 s9 s10 s11 s12 s13 s14 = some f) (hv1 : accept_Verdict.f (bytesOf S) = some (d0, d1, d2, d3, d4, s5, s6, s7, s8, s9, s10, s11, s12, s13, s14, (codeOf f), f)) (hv2 : accept_Verdict.f (bytesOf S ++ l0) = some (d0, d1, d2, d3, d4, s5, s6, s7, s8, s9, s10, s11, s12, s13, s14, (codeOf f), f)) :
    Calls Tryd.prog 3 #[.agg #[.int .u8 d0, .int .u8 d1, .int .u8 d2, .int .u8 d3, .int .u8 d4, .string s5, .string s6, .string s7, .string s8, .string s9, .string s10, .string s11, .string s12, .string s13, .string s14], .slice A0 l0.length c0] w fun e w' => e = .returned (.bool true) ∧ Below w.heap.size w w' := by
  have HG := Aside0.mk hG; have HW := Aside0.mk hw; have HC := Aside0.mk hC; have HV1 := Aside0.mk hv1; have HV2 := Aside0.mk hv2; have H28 := Aside0.mk h28
  have HK0 := Aside0.mk hk0
  have hcne : ((codeOf f).toList == ([] : List UInt8)) = false := codeOf_ne f
  have hcne' : (codeOf f).toList ≠ [] := by simpa using hcne
  have hsz : S.size = s.size + 1 := by rw [← hS, ByteArray.size_append]; rfl
  have HSZ : Aside0 (S.size + l0.length ≤ 100000) := ⟨by omega⟩
  have hnl : ¬ 9223372036854775807 < s.size + 1 := by omega
  have g2 : decide ((s.size : Int) > 2000) = false := decide_eq_false (by omega)
  have g2' : decide (2000 < (s.size : Int)) = false := g2
  have g2'' : decide (2000 < s.size) = false := decide_eq_false (by omega)
  have g3 : decide ((l0.length : Int) > 1000) = false := decide_eq_false (by omega)
  have g3' : decide (1000 < (l0.length : Int)) = false := g3
  have g3'' : decide (1000 < l0.length) = false := decide_eq_false (by omega)
  have kb := fun W : World => print_bytes (P := Tryd.prog) 9 26 5 Tryd.underlying9 Tryd.underlying26 Tryd.underlying5 S W
  clear hG hw hC hv1 hv2 hsz h28 hk0
  have HL := Aside0.mk hl; have HS := Aside0.mk hs
  clear hl hs
  go_enter Tryd.func3, Tryd.ntmps3
  go_wp2_with (first
    | (go_at_call 10; refine (verdict_len d0 d1 d2 d3 d4 s5 s6 s7 s8 s9 s10 s11 s12 s13 s14 (codeOf f) f A6 (S.size + l0.length) c6 (bytesOf S ++ l0) (by rw [List.length_append, bytesOf_length]) _ (HG.out.below HB6.out) HC6.out HL6.out HV2.out).mono ?_; rintro e w7 ⟨rfl, hb7⟩; have HB7 := Aside0.mk (below_step HB6.out hb7); have HBG7 := Aside0.mk (below_step HBG6.out hb7); clear hb7)
    | (go_at_call 10; refine (verdict_len d0 d1 d2 d3 d4 s5 s6 s7 s8 s9 s10 s11 s12 s13 s14 (codeOf f) f (some ⟨w2.heap.size, 0, none⟩) S.size _ (bytesOf S) (bytesOf_length S) _ (HG.out.below (bytes_below HB2.out HB2.out.size _ _)) (conv_C w2 S (by have := HSZ.out; omega)) (grownCap_ge _ _ _ _) HV1.out).mono ?_; rintro e w4 ⟨rfl, hb4⟩; have HB4 := Aside0.mk (below_step (bytes_below HB2.out HB2.out.size _ _) hb4); have HBLK4 := Aside0.mk (blk_below HBLK2.out (below_step (bytes_below (Below.refl _ _) (Nat.le_refl _) _ _) hb4)); clear hb4)
    | (go_at_call 8; refine (msh_Write.calls d0 d1 d2 d3 d4 s5 s6 s7 s8 s9 s10 s11 s12 s13 s14 s 0 _ ?g HW.out).mono ?_; (case g => exact HG.out.below (below_alloc (Below.refl _ _) _)); rintro e w2 ⟨rfl, hb2⟩; have HB2 := Aside0.mk (below_step (below_alloc (Below.refl _ _) _) hb2); have HBLK2 := Aside0.mk (blk_below (blk_new w (.cells #[.int .u8 d0, .int .u8 d1, .int .u8 d2, .int .u8 d3, .int .u8 d4, .string s5, .string s6, .string s7, .string s8, .string s9, .string s10, .string s11, .string s12, .string s13, .string s14] 25)) hb2); clear hb2)
    | ((with_reducible refine gate_builtin (b := .append) (xs := #[.tmp 43, .tmp 44]) rfl ?_); at_builtin; refine wpList_convapp rfl (.tmp 43) (.tmp 44) rfl _ S A0 c0 l0 (w4.heap.size + 1) (by simp) rfl rfl ?aC HSZ.out ?_; (case aC => exact Kd.C_below HC.out (below_alloc HB4.out _)); intro A6 c6 w6 hl6 hC6 hb6; have HL6 := Aside0.mk hl6; have HC6 := Aside0.mk hC6; have HB6 := Aside0.mk (below_step (below_alloc HB4.out _) hb6); have HBG6 := Aside0.mk hb6; clear hl6 hC6 hb6))
  obtain ⟨Wf, hWf⟩ : ∃ Wf, Wf = w7.alloc (.cells #[.int .u8 d0, .int .u8 d1, .int .u8 d2, .int .u8 d3, .int .u8 d4, .string s5, .string s6, .string s7, .string s8, .string s9, .string s10, .string s11, .string s12, .string s13, .string s14] 25) := ⟨_, rfl⟩
  have HWB : Aside0 (Below w.heap.size w Wf) := ⟨by rw [hWf]; exact below_alloc HB7.out _⟩
  have HWh : Aside0 (Wf.heap[w.heap.size]? = some (.cells #[.int .u8 d0, .int .u8 d1, .int .u8 d2, .int .u8 d3, .int .u8 d4, .string s5, .string s6, .string s7, .string s8, .string s9, .string s10, .string s11, .string s12, .string s13, .string s14] 25 (0, 0))) := ⟨by rw [hWf]; exact blk_alloc (blk_below (blk_alloc HBLK4.out _) HBG7.out) _⟩
  have HWg : Aside0 (Wf.heap[w4.heap.size]? = some (.cells #[.int .u8 d0, .int .u8 d1, .int .u8 d2, .int .u8 d3, .int .u8 d4, .string s5, .string s6, .string s7, .string s8, .string s9, .string s10, .string s11, .string s12, .string s13, .string s14] 25 (0, 0))) := ⟨by rw [hWf]; exact blk_alloc (blk_below (blk_new w4 _) HBG7.out) _⟩
  have HWi : Aside0 (Wf.heap[w7.heap.size]? = some (.cells #[.int .u8 d0, .int .u8 d1, .int .u8 d2, .int .u8 d3, .int .u8 d4, .string s5, .string s6, .string s7, .string s8, .string s9, .string s10, .string s11, .string s12, .string s13, .string s14] 25 (0, 0))) := ⟨by rw [hWf]; exact blk_new w7 _⟩
  rw [← hWf]
  clear HB2 HB4 HB6 HB7 HBLK2 HBLK4 HBG6 HBG7 HC6 HL6 hWf kb hnl
  go_loopw [13, 52] (fun v13 v52 W => ∃ k : Nat, k ≤ s.size ∧ v52 = .int .i64 (k : Nat) ∧ Aside0 (W = Wf) ∧ Aside0 (∀ j, j < k → ¬ bt s (j : Nat) = 28)) (fun _ v52 _ => mes s.size v52)
  case atStart => exact ⟨0, Nat.zero_le _, rfl, ⟨rfl⟩, ⟨fun j hj => absurd hj (Nat.not_lt_zero _)⟩⟩
  case round =>
    obtain ⟨k, hk, rfl, HWW, HJ⟩ := hrel
    have hwk : wrap64 ((k : Int) + 1) = (k : Int) + 1 := by have := HS.out; unfold wrap64; omega
    obtain hWW := HWW.out
    subst hWW
    clear HWW
    rcases Nat.lt_or_ge k s.size with hks | hks
    · have hlt : decide ((k : Int) < (s.size : Int)) = true := decide_eq_true (by omega)
      have hlt' : decide (k < s.size) = true := decide_eq_true hks
      obtain ⟨x, hx⟩ : ∃ x, x = bt s (k : Nat) := ⟨_, rfl⟩
      have hidx : ∀ W : World, (Instr.index 9 (.string s) (.int .i64 (k : Nat))).run Tryd.prog W = .ok (.int .u8 x) W := fun W => by rw [hx]; exact index_bt s k hks W
      have HX := Aside0.mk hx; have HKS := Aside0.mk hks
      clear hx hks hk
      have h8 : ¬ x = 28 := by rw [HX.out]; exact bt_not_mem s k HKS.out H28.out
      have hx1 : (x == 28) = false := by simpa using h8
      have hx2 : decide (x = 28) = false := decide_eq_false h8
      have HX8 := Aside0.mk h8
      clear h8
      go_wp2
      go_roundw
      case rel => exact ⟨k + 1, HKS.out, by go_num, ⟨by first | rfl | trivial⟩, ⟨fun j hj => by rcases Nat.lt_or_ge j k with hjk | hjk; exact HJ.out j hjk; (obtain rfl : j = k := by omega); rw [← HX.out]; exact HX8.out⟩⟩
      case measure => exact mes_lt s.size k _ HKS.out hwk
    · obtain rfl : k = s.size := Nat.le_antisymm hk hks
      have heq : ∀ W : World, (Op.equalIn 10000 25 (.agg #[.int .u8 d0, .int .u8 d1, .int .u8 d2, .int .u8 d3, .int .u8 d4, .string s5, .string s6, .string s7, .string s8, .string s9, .string s10, .string s11, .string s12, .string s13, .string s14]) (.agg #[.int .u8 d0, .int .u8 d1, .int .u8 d2, .int .u8 d3, .int .u8 d4, .string s5, .string s6, .string s7, .string s8, .string s9, .string s10, .string s11, .string s12, .string s13, .string s14])).run Tryd.prog W = .ok true W := fun W => eq_head d0 d1 d2 d3 d4 s5 s6 s7 s8 s9 s10 s11 s12 s13 s14 W
      go_wp2_with (first
        | (go_at_call 11; refine (msh_Check.calls d0 d1 d2 d3 d4 s5 s6 s7 s8 s9 s10 s11 s12 s13 s14 f _ (HG.out.below HB9.out) HK0.out).mono ?_; rintro e wc ⟨rfl, hbc⟩; have HBc := Aside0.mk (below_step HB9.out hbc); clear hbc)
        | (go_at_call 9; refine (law_alive.calls true _ (HG.out.below HWB.out) rfl).mono ?_; rintro e w9 ⟨rfl, hb9⟩; have HB9 := Aside0.mk (below_step HWB.out hb9); have zh := blk_below HWh.out hb9; have zg := blk_below HWg.out hb9; have zi := blk_below HWi.out hb9; have ph0 : w9.cell? ⟨w.heap.size, 0, none⟩ = some (.int .u8 d0) := blk_cell zh 0; have ph1 : w9.cell? ⟨w.heap.size, 1, none⟩ = some (.int .u8 d1) := blk_cell zh 1; have ph2 : w9.cell? ⟨w.heap.size, 2, none⟩ = some (.int .u8 d2) := blk_cell zh 2; have ph3 : w9.cell? ⟨w.heap.size, 3, none⟩ = some (.int .u8 d3) := blk_cell zh 3; have ph4 : w9.cell? ⟨w.heap.size, 4, none⟩ = some (.int .u8 d4) := blk_cell zh 4; have ph5 : w9.cell? ⟨w.heap.size, 5, none⟩ = some (.string s5) := blk_cell zh 5; have ph6 : w9.cell? ⟨w.heap.size, 6, none⟩ = some (.string s6) := blk_cell zh 6; have ph7 : w9.cell? ⟨w.heap.size, 7, none⟩ = some (.string s7) := blk_cell zh 7; have ph8 : w9.cell? ⟨w.heap.size, 8, none⟩ = some (.string s8) := blk_cell zh 8; have ph9 : w9.cell? ⟨w.heap.size, 9, none⟩ = some (.string s9) := blk_cell zh 9; have ph10 : w9.cell? ⟨w.heap.size, 10, none⟩ = some (.string s10) := blk_cell zh 10; have ph11 : w9.cell? ⟨w.heap.size, 11, none⟩ = some (.string s11) := blk_cell zh 11; have ph12 : w9.cell? ⟨w.heap.size, 12, none⟩ = some (.string s12) := blk_cell zh 12; have ph13 : w9.cell? ⟨w.heap.size, 13, none⟩ = some (.string s13) := blk_cell zh 13; have ph14 : w9.cell? ⟨w.heap.size, 14, none⟩ = some (.string s14) := blk_cell zh 14; have pg0 : w9.cell? ⟨w4.heap.size, 0, none⟩ = some (.int .u8 d0) := blk_cell zg 0; have pg1 : w9.cell? ⟨w4.heap.size, 1, none⟩ = some (.int .u8 d1) := blk_cell zg 1; have pg2 : w9.cell? ⟨w4.heap.size, 2, none⟩ = some (.int .u8 d2) := blk_cell zg 2; have pg3 : w9.cell? ⟨w4.heap.size, 3, none⟩ = some (.int .u8 d3) := blk_cell zg 3; have pg4 : w9.cell? ⟨w4.heap.size, 4, none⟩ = some (.int .u8 d4) := blk_cell zg 4; have pg5 : w9.cell? ⟨w4.heap.size, 5, none⟩ = some (.string s5) := blk_cell zg 5; have pg6 : w9.cell? ⟨w4.heap.size, 6, none⟩ = some (.string s6) := blk_cell zg 6; have pg7 : w9.cell? ⟨w4.heap.size, 7, none⟩ = some (.string s7) := blk_cell zg 7; have pg8 : w9.cell? ⟨w4.heap.size, 8, none⟩ = some (.string s8) := blk_cell zg 8; have pg9 : w9.cell? ⟨w4.heap.size, 9, none⟩ = some (.string s9) := blk_cell zg 9; have pg10 : w9.cell? ⟨w4.heap.size, 10, none⟩ = some (.string s10) := blk_cell zg 10; have pg11 : w9.cell? ⟨w4.heap.size, 11, none⟩ = some (.string s11) := blk_cell zg 11; have pg12 : w9.cell? ⟨w4.heap.size, 12, none⟩ = some (.string s12) := blk_cell zg 12; have pg13 : w9.cell? ⟨w4.heap.size, 13, none⟩ = some (.string s13) := blk_cell zg 13; have pg14 : w9.cell? ⟨w4.heap.size, 14, none⟩ = some (.string s14) := blk_cell zg 14; have pi0 : w9.cell? ⟨w7.heap.size, 0, none⟩ = some (.int .u8 d0) := blk_cell zi 0; have pi1 : w9.cell? ⟨w7.heap.size, 1, none⟩ = some (.int .u8 d1) := blk_cell zi 1; have pi2 : w9.cell? ⟨w7.heap.size, 2, none⟩ = some (.int .u8 d2) := blk_cell zi 2; have pi3 : w9.cell? ⟨w7.heap.size, 3, none⟩ = some (.int .u8 d3) := blk_cell zi 3; have pi4 : w9.cell? ⟨w7.heap.size, 4, none⟩ = some (.int .u8 d4) := blk_cell zi 4; have pi5 : w9.cell? ⟨w7.heap.size, 5, none⟩ = some (.string s5) := blk_cell zi 5; have pi6 : w9.cell? ⟨w7.heap.size, 6, none⟩ = some (.string s6) := blk_cell zi 6; have pi7 : w9.cell? ⟨w7.heap.size, 7, none⟩ = some (.string s7) := blk_cell zi 7; have pi8 : w9.cell? ⟨w7.heap.size, 8, none⟩ = some (.string s8) := blk_cell zi 8; have pi9 : w9.cell? ⟨w7.heap.size, 9, none⟩ = some (.string s9) := blk_cell zi 9; have pi10 : w9.cell? ⟨w7.heap.size, 10, none⟩ = some (.string s10) := blk_cell zi 10; have pi11 : w9.cell? ⟨w7.heap.size, 11, none⟩ = some (.string s11) := blk_cell zi 11; have pi12 : w9.cell? ⟨w7.heap.size, 12, none⟩ = some (.string s12) := blk_cell zi 12; have pi13 : w9.cell? ⟨w7.heap.size, 13, none⟩ = some (.string s13) := blk_cell zi 13; have pi14 : w9.cell? ⟨w7.heap.size, 14, none⟩ = some (.string s14) := blk_cell zi 14; clear hb9 zh zg zi))
      go_ret
      exact ⟨rfl, HBc.out⟩
end
end Go.Proofs.YtciagecaegoppaaDoor
namespace Go.Proofs.YtciagecaegoppaaDoor
set_option linter.unusedVariables false
set_option linter.unusedSimpArgs false
set_option maxRecDepth 20000
open Go.RowKit Go.Proofs.YtciagecaegoppaaDoorW.PrintWords Go.Proofs.YtciagecaegoppaaDoorW.PrintLast Go.Proofs.YtciagecaegoppaaDoorW.PrintMore

theorem numsB_bytesOf (l : List Int) (h : Bytes l) : numsB (Lib.bytesOf l) = l := by
  unfold numsB Lib.bytesOf
  rw [List.map_map]
  conv => rhs; rw [← List.map_id l]
  apply List.map_congr_left
  intro x hx
  have hb := h x hx
  show ((x.toNat.toUInt8.toNat : Nat) : Int) = x
  have : x.toNat.toUInt8.toNat = x.toNat % 256 := by simp
  omega
theorem bytesOf_strOf (l : List UInt8) : bytesOf (strOf l) = numsB l := by
  unfold bytesOf numsB strOf
  rfl

theorem acceptHeads_true (F o1 o2 o3 o4 : UInt8) (s5 s6 s7 s8 s9 s10 s11 s12 s13 s14 : ByteArray) (A0 : Option Addr) (c0 : Nat) (l0 : List Int) (w : World) (hG : GlobA w) (hC : Kd.C (Kd.int .u8) w A0 l0.length l0) (hb : Bytes l0) (hv : ∀ k, k < 10 → (vOf s5 s6 s7 s8 s9 s10 s11 s12 s13 s14 k).size ≤ 2000000) :
    Calls Tryd.prog 3 #[.agg #[.int .u8 (F.toNat : Int), .int .u8 (o1.toNat : Int), .int .u8 (o2.toNat : Int), .int .u8 (o3.toNat : Int), .int .u8 (o4.toNat : Int), .string s5, .string s6, .string s7, .string s8, .string s9, .string s10, .string s11, .string s12, .string s13, .string s14], .slice A0 l0.length c0] w fun e w' => e = .returned (.bool true) ∧ Below w.heap.size w w' := by
  obtain ⟨s, e, hw, hf⟩ := write_form F o1 o2 o3 o4 s5 s6 s7 s8 s9 s10 s11 s12 s13 s14 hv
  by_cases hn : (e == 0) = false ∨ decide (s.size > 2000) = true ∨ decide (l0.length > 1000) = true
  · exact heads_not _ _ _ _ _ s5 s6 s7 s8 s9 s10 s11 s12 s13 s14 A0 c0 l0 w hG s e hw _ _ _ rfl rfl rfl hn
  have he : e = 0 := by
    rcases Int.decEq e 0 with h | h
    · exact absurd (.inl (by simpa using h)) hn
    · exact h
  have hs : s.size ≤ 2000 := by
    rcases Nat.lt_or_ge 2000 s.size with h | h
    · exact absurd (.inr (.inl (decide_eq_true h))) hn
    · exact h
  have hl : l0.length ≤ 1000 := by
    rcases Nat.lt_or_ge 1000 l0.length with h | h
    · exact absurd (.inr (.inr (decide_eq_true h))) hn
    · exact h
  obtain ⟨fs, rfl, W⟩ := hf he
  subst he
  have hsz : (headB F o1 o2 o3 o4 fs).length ≤ 2000 := by rw [size_strOf] at hs; exact hs
  have hS : strOf (headB F o1 o2 o3 o4 fs) ++ ⟨#[13]⟩ = strOf (headB F o1 o2 o3 o4 fs ++ [13]) := by
    apply WideShapes.bytes_inj
    rw [ByteArray.data_append]
    simp [strOf]
  have hb1 : bytesOf (strOf (headB F o1 o2 o3 o4 fs ++ [13])) = numsB (headB F o1 o2 o3 o4 fs ++ 13 :: []) := bytesOf_strOf _
  have hb2 : bytesOf (strOf (headB F o1 o2 o3 o4 fs ++ [13])) ++ l0 = numsB (headB F o1 o2 o3 o4 fs ++ 13 :: Lib.bytesOf l0) := by
    rw [bytesOf_strOf, show headB F o1 o2 o3 o4 fs ++ 13 :: Lib.bytesOf l0 = (headB F o1 o2 o3 o4 fs ++ [13]) ++ Lib.bytesOf l0 by simp, numsB_append (headB F o1 o2 o3 o4 fs ++ [13]) (Lib.bytesOf l0), numsB_bytesOf l0 hb]
  have hll : (Lib.bytesOf l0).length = l0.length := by unfold Lib.bytesOf; rw [List.length_map]
  have z1 : (headB F o1 o2 o3 o4 fs ++ 13 :: []).length < 4294967281 := by simp; omega
  have z2 : (headB F o1 o2 o3 o4 fs ++ 13 :: Lib.bytesOf l0).length < 4294967281 := by simp [hll]; omega
  have hd : (strOf (headB F o1 o2 o3 o4 fs)).data.toList = headB F o1 o2 o3 o4 fs := by simp [strOf]
  by_cases h28 : (28 : UInt8) ∈ headB F o1 o2 o3 o4 fs
  · exact heads_form _ _ _ _ _ s5 s6 s7 s8 s9 s10 s11 s12 s13 s14 A0 c0 l0 w hG hC _ hw hs hl _ hS (by rw [hd]; exact h28) (by rw [hb1]; exact verdict_form_written F o1 o2 o3 o4 s5 s6 s7 s8 s9 s10 s11 s12 s13 s14 fs [] W z1 h28) (by rw [hb2]; exact verdict_form_written F o1 o2 o3 o4 s5 s6 s7 s8 s9 s10 s11 s12 s13 s14 fs _ W z2 h28)
  · obtain ⟨c, hc⟩ := check_tot (F.toNat : Int) (o1.toNat : Int) (o2.toNat : Int) (o3.toNat : Int) (o4.toNat : Int) s5 s6 s7 s8 s9 s10 s11 s12 s13 s14 (by have := hv 8 (by decide); exact Nat.lt_of_le_of_lt this (by decide)) (by have := hv 9 (by decide); exact Nat.lt_of_le_of_lt this (by decide))
    exact heads_on _ _ _ _ _ s5 s6 s7 s8 s9 s10 s11 s12 s13 s14 A0 c0 l0 w hG hC _ hw hs hl _ hS c (by rw [hd]; exact h28) hc (by rw [hb1]; exact verdict_on_written F o1 o2 o3 o4 s5 s6 s7 s8 s9 s10 s11 s12 s13 s14 fs [] W z1 h28 c hc) (by rw [hb2]; exact verdict_on_written F o1 o2 o3 o4 s5 s6 s7 s8 s9 s10 s11 s12 s13 s14 fs _ W z2 h28 c hc)
end Go.Proofs.YtciagecaegoppaaDoor
namespace Go.Proofs.YtciagecaegoppaaDoor
open Go.ChangeShapes Go.WideShapes Go.ChangeAt Go.RowKit
set_option linter.unusedVariables false
set_option linter.unusedSimpArgs false
set_option maxRecDepth 100000

theorem array15 (cs : Array Value) (h : cs.size = 15) : ∃ c0 c1 c2 c3 c4 c5 c6 c7 c8 c9 c10 c11 c12 c13 c14, cs = #[c0, c1, c2, c3, c4, c5, c6, c7, c8, c9, c10, c11, c12, c13, c14] := by
  rcases cs with ⟨l⟩
  match l, h with
  | [c0, c1, c2, c3, c4, c5, c6, c7, c8, c9, c10, c11, c12, c13, c14], _ => exact ⟨c0, c1, c2, c3, c4, c5, c6, c7, c8, c9, c10, c11, c12, c13, c14, rfl⟩

theorem open_head {H : Type} {enc : TypeId × Value → H} {W : World} {base : Nat} {v : Value} {d : DataW H} {p : List MemPlace} (hv : Value.okWide Tryd.prog W .any base 25 v) (h : DataW.Trod enc Tryd.prog W 0 (fun _ => true) true 25 v d p) :
    ∃ (d0 d1 d2 d3 d4 : Int) (s5 s6 s7 s8 s9 s10 s11 s12 s13 s14 : ByteArray), v = .agg #[.int .u8 d0, .int .u8 d1, .int .u8 d2, .int .u8 d3, .int .u8 d4, .string s5, .string s6, .string s7, .string s8, .string s9, .string s10, .string s11, .string s12, .string s13, .string s14] ∧ d = .agg [.agg [.lit (.int .u8 d0), .lit (.int .u8 d1), .lit (.int .u8 d2), .lit (.int .u8 d3), .lit (.int .u8 d4)], .lit (.string s5.data.toList), .lit (.string s6.data.toList), .lit (.string s7.data.toList), .lit (.string s8.data.toList), .lit (.string s9.data.toList), .lit (.string s10.data.toList), .lit (.string s11.data.toList), .lit (.string s12.data.toList), .lit (.string s13.data.toList), .lit (.string s14.data.toList)] ∧ (Lit.int .u8 d0).wf = true ∧ (Lit.int .u8 d1).wf = true ∧ (Lit.int .u8 d2).wf = true ∧ (Lit.int .u8 d3).wf = true ∧ (Lit.int .u8 d4).wf = true := by
  obtain ⟨cs, rfl, hsz⟩ := okWide_struct Tryd.underlying25 hv
  have h15 : Tryd.prog.cellsOf 25 = 15 := by kernel_rfl
  have h5 : Tryd.prog.cellsOf 23 = 5 := by kernel_rfl
  have h1 : Tryd.prog.cellsOf 9 = 1 := by kernel_rfl
  have h1' : Tryd.prog.cellsOf 5 = 1 := by kernel_rfl
  rw [h15] at hsz
  obtain ⟨c0, c1, c2, c3, c4, c5, c6, c7, c8, c9, c10, c11, c12, c13, c14, rfl⟩ := array15 cs hsz
  obtain ⟨fuel, hf⟩ := h
  obtain ⟨xs, n, _, hx, _, hlen, hg⟩ := DataW.trod_struct Tryd.underlying25 hf
  match xs, hlen with
  | [y0, y1, y2, y3, y4, y5, y6, y7, y8, y9, y10], _ =>
    have q0 := hg 0 _ rfl
    simp [Value.cells, h1, h5] at q0
    have q1 := hg 1 _ rfl
    simp [Value.cells, h1, h5] at q1
    have q2 := hg 2 _ rfl
    simp [Value.cells, h1, h5] at q2
    have q3 := hg 3 _ rfl
    simp [Value.cells, h1, h5] at q3
    have q4 := hg 4 _ rfl
    simp [Value.cells, h1, h5] at q4
    have q5 := hg 5 _ rfl
    simp [Value.cells, h1, h5] at q5
    have q6 := hg 6 _ rfl
    simp [Value.cells, h1, h5] at q6
    have q7 := hg 7 _ rfl
    simp [Value.cells, h1, h5] at q7
    have q8 := hg 8 _ rfl
    simp [Value.cells, h1, h5] at q8
    have q9 := hg 9 _ rfl
    simp [Value.cells, h1, h5] at q9
    have q10 := hg 10 _ rfl
    simp [Value.cells, h1, h5] at q10
    obtain ⟨zs, m, _, hy0, _, hzl, hz⟩ := DataW.trod_struct Tryd.underlying23 q0
    match zs, hzl with
    | [z0, z1, z2, z3, z4], _ =>
      have r0 := hz 0 _ rfl
      simp [h1'] at r0
      obtain ⟨n0, e0, hz0, w0⟩ := DataW.trod_int Tryd.underlying5 r0
      obtain rfl : c0 = .int .u8 n0 := by simpa using e0
      have r1 := hz 1 _ rfl
      simp [h1'] at r1
      obtain ⟨n1, e1, hz1, w1⟩ := DataW.trod_int Tryd.underlying5 r1
      obtain rfl : c1 = .int .u8 n1 := by simpa using e1
      have r2 := hz 2 _ rfl
      simp [h1'] at r2
      obtain ⟨n2, e2, hz2, w2⟩ := DataW.trod_int Tryd.underlying5 r2
      obtain rfl : c2 = .int .u8 n2 := by simpa using e2
      have r3 := hz 3 _ rfl
      simp [h1'] at r3
      obtain ⟨n3, e3, hz3, w3⟩ := DataW.trod_int Tryd.underlying5 r3
      obtain rfl : c3 = .int .u8 n3 := by simpa using e3
      have r4 := hz 4 _ rfl
      simp [h1'] at r4
      obtain ⟨n4, e4, hz4, w4⟩ := DataW.trod_int Tryd.underlying5 r4
      obtain rfl : c4 = .int .u8 n4 := by simpa using e4
      obtain ⟨t1, f1, hy1, _⟩ := DataW.trod_string Tryd.underlying9 q1
      obtain rfl : c5 = .string t1 := by simpa using f1
      obtain ⟨t2, f2, hy2, _⟩ := DataW.trod_string Tryd.underlying9 q2
      obtain rfl : c6 = .string t2 := by simpa using f2
      obtain ⟨t3, f3, hy3, _⟩ := DataW.trod_string Tryd.underlying9 q3
      obtain rfl : c7 = .string t3 := by simpa using f3
      obtain ⟨t4, f4, hy4, _⟩ := DataW.trod_string Tryd.underlying9 q4
      obtain rfl : c8 = .string t4 := by simpa using f4
      obtain ⟨t5, f5, hy5, _⟩ := DataW.trod_string Tryd.underlying9 q5
      obtain rfl : c9 = .string t5 := by simpa using f5
      obtain ⟨t6, f6, hy6, _⟩ := DataW.trod_string Tryd.underlying9 q6
      obtain rfl : c10 = .string t6 := by simpa using f6
      obtain ⟨t7, f7, hy7, _⟩ := DataW.trod_string Tryd.underlying9 q7
      obtain rfl : c11 = .string t7 := by simpa using f7
      obtain ⟨t8, f8, hy8, _⟩ := DataW.trod_string Tryd.underlying9 q8
      obtain rfl : c12 = .string t8 := by simpa using f8
      obtain ⟨t9, f9, hy9, _⟩ := DataW.trod_string Tryd.underlying9 q9
      obtain rfl : c13 = .string t9 := by simpa using f9
      obtain ⟨t10, f10, hy10, _⟩ := DataW.trod_string Tryd.underlying9 q10
      obtain rfl : c14 = .string t10 := by simpa using f10
      refine ⟨n0, n1, n2, n3, n4, t1, t2, t3, t4, t5, t6, t7, t8, t9, t10, rfl, ?_, w0, w1, w2, w3, w4⟩
      have hd : d = _ := congrArg Prod.fst hx
      rw [hd]
      simp [hy0, hy1, hy2, hy3, hy4, hy5, hy6, hy7, hy8, hy9, hy10, hz0, hz1, hz2, hz3, hz4]
end Go.Proofs.YtciagecaegoppaaDoor
namespace Go.Proofs.YtciagecaegoppaaDoor
set_option linter.unusedVariables false
set_option linter.unusedSimpArgs false
set_option maxRecDepth 20000
open Go.RowKit Go.Proofs.YtciagecaegoppaaDoorW.PrintWords Go.Proofs.YtciagecaegoppaaDoorW.PrintLast Go.Proofs.YtciagecaegoppaaDoorW.PrintMore
theorem sign_of {d : Int} (h : (Lit.int .u8 d).wf = true) : ∃ F : UInt8, d = (F.toNat : Int) := by
  have hb := bytes_of_wf (xs := [d]) (fun n hn => by rw [List.mem_singleton.1 hn]; exact h) d (List.mem_singleton.2 rfl)
  refine ⟨d.toNat.toUInt8, ?_⟩
  have : d.toNat.toUInt8.toNat = d.toNat % 256 := by simp
  omega
theorem acceptHeads_walk (b0 b1 b2 b3 b4 : Int) (g5 g6 g7 g8 g9 g10 g11 g12 g13 g14 : ByteArray) (a0 : Option Addr) (len0 cap0 : Nat) (z0 : List Int) (w : World) (hG : GlobA w) (f0 : (Lit.int .u8 b0).wf = true) (f1 : (Lit.int .u8 b1).wf = true) (f2 : (Lit.int .u8 b2).wf = true) (f3 : (Lit.int .u8 b3).wf = true) (f4 : (Lit.int .u8 b4).wf = true)
    (hs : g5.size + g6.size + g7.size + g8.size + g9.size + g10.size + g11.size + g12.size + g13.size + g14.size ≤ 1048576) (w0 : (a0 = none ∧ len0 = 0 ∧ cap0 = 0 ∧ z0 = []) ∨ ∃ x, a0 = some x ∧ len0 ≤ cap0 ∧ cap0 ≤ maxLen ∧ z0.length = cap0 ∧ (∀ i, i < z0.length → w.cell? (x.add i) = some (.int .u8 (z0.getD i 0))) ∧ ∀ n ∈ z0, (Lit.int .u8 n).wf = true) (y0 : len0 * 1 ≤ 140737488351232) (x0 : len0 ≤ 1048576) :
    Calls Tryd.prog 3 #[.agg #[.int .u8 b0, .int .u8 b1, .int .u8 b2, .int .u8 b3, .int .u8 b4, .string g5, .string g6, .string g7, .string g8, .string g9, .string g10, .string g11, .string g12, .string g13, .string g14], .slice a0 len0 cap0] w fun e w' => e = .returned (.bool true) ∧ Below w.heap.size w w' := by
  obtain ⟨l0, rfl, hr0, hm0, hw0, hc0⟩ := ReadsInt.ofRowC w0
  have hC : Kd.C (Kd.int .u8) w a0 l0.length l0 := Kd.C_of_reads (d := (0 : Int)) (h1 := fun _ => rfl) hr0
  obtain ⟨F0, rfl⟩ := sign_of f0
  obtain ⟨F1, rfl⟩ := sign_of f1
  obtain ⟨F2, rfl⟩ := sign_of f2
  obtain ⟨F3, rfl⟩ := sign_of f3
  obtain ⟨F4, rfl⟩ := sign_of f4
  refine acceptHeads_true F0 F1 F2 F3 F4 g5 g6 g7 g8 g9 g10 g11 g12 g13 g14 a0 cap0 l0 w hG hC (bytes_of_wf hw0) ?_
  intro k hk
  rcases k with _ | _ | _ | _ | _ | _ | _ | _ | _ | _ | k
  iterate 10 (next => simp only [vOf]; omega)
  omega
end Go.Proofs.YtciagecaegoppaaDoor
