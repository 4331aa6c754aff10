/- The law AcceptAnswers: every input's call returns true and leaves its arguments as they were: the row, and its card, out of the walk and the plain law. Conditions: the row's own. -/
import Derived.Test.YtciagecaegoppaaDoorKAcceptAnswers5
import Derived.Test.YtciagecaegoppaaDoorKAcceptAnswers4
import Derived.Test.YtciagecaegoppaaDoorKAcceptAnswers1
import Derived.Test.YtciagecaegoppaaDoorRows
import Derived.Test.YtciagecaegoppaaDoorCards
import Derived.Test.YtciagecaegoppaaDoorTie
import Derived.Lib.LaidTab
import Derived.LaidSub
import Derived.SizedLaws
import Derived.ChangeSlices
import Derived.WalkKit
import Derived.ProofKit
import Derived.OpenShut
import Derived.ShutString
import Derived.ChangeOld
import Derived.Below
import Derived.Deep.DeepHandedRow
section
namespace Go.Proofs.YtciagecaegoppaaDoor
set_option linter.unusedVariables false
set_option linter.unusedSimpArgs false
set_option maxRecDepth 20000
open Go.RowKit Go.Proofs.YtciagecaegoppaaDoorW.PrintWords Go.Proofs.YtciagecaegoppaaDoorW.PrintLast Go.Proofs.YtciagecaegoppaaDoorW.PrintMore

theorem right_letter {d0 d1 d2 d3 d4 : Int} (h : QRight.delim_Right.f 10 d0 d1 d2 d3 d4 = some true) : Go.bits .or .u8 d0 32 < 97 ∨ 122 < Go.bits .or .u8 d0 32 := by
  unfold QRight.delim_Right.f at h
  simp only [QRight.delim_Plain.f, QRight.delim_five.f, Option.bind_some] at h
  split at h
  · rename_i hp
    simp at hp
    obtain ⟨rfl, rfl, rfl, rfl, rfl⟩ := hp
    decide
  · unfold QRight.delim_Right.l0 at h
    rw [if_pos (by simp), if_pos (by omega), if_pos (by simp)] at h
    have r0 : rd [d0, d1, d2, d3, d4] 0 = d0 := rfl
    rw [r0] at h
    by_cases h1 : Go.bits .or .u8 d0 32 ≥ 97
    · rw [if_pos h1] at h
      split at h
      · cases h
      · split at h
        · cases h
        · split at h
          · cases h
          · omega
    · omega
theorem sign_not (F : UInt8) (d1 d2 d3 d4 : Int) (h : QRight.delim_Right.f 10 (F.toNat : Int) d1 d2 d3 d4 = some true) (c : UInt8) (hc : ¬ (Go.bits .or .u8 (c.toNat : Int) 32 < 97 ∨ 122 < Go.bits .or .u8 (c.toNat : Int) 32)) : F ≠ c := by
  rintro rfl
  exact hc (right_letter h)

/-- The second segment of an answer. -/
def msaB (F : UInt8) (c i : List UInt8) : List UInt8 := 77 :: 83 :: 65 :: F :: (c ++ F :: i)
theorem name_msa (F : UInt8) (c i : List UInt8) : QField.segment_Name.f (strOf (msaB F c i)) = some ⟨#[77, 83, 65]⟩ := by
  have hs : (strOf (msaB F c i)).size = (msaB F c i).length := size_strOf _
  have hl : 5 ≤ (msaB F c i).length := by simp [msaB]; omega
  have hm : mn ((strOf (msaB F c i)).size : Int) 3 = 3 := by unfold mn; rw [if_pos (by omega)]
  unfold QField.segment_Name.f
  rw [hm, if_pos (by omega), if_pos (by omega)]
  rfl
theorem cut_free (F : UInt8) (a r : List UInt8) (h : F ∉ a) : Lib.cut (a ++ F :: r) [F] = (a, r, true) := by
  unfold Lib.cut
  rw [Lib.index_one, indexByte_cut a r F h, if_pos (by omega), Int.toNat_natCast]
  simp
theorem field_msa (F : UInt8) (c i : List UInt8) (k : Int) (hk : k = 1 ∨ k = 2) (h3 : F ∉ [77, 83, 65]) (hc : F ∉ c) (hi : F ∉ i) (hsz : (msaB F c i).length < 4294967281) (d1 d2 d3 d4 : Int) :
    ∃ b, QField.segment_Field.f (strOf (msaB F c i)) k (F.toNat : Int) d1 d2 d3 d4 = some (if k = 1 then strOf c else strOf i, b) := by
  have hsF : strOfNums [((F.toNat : Nat) : Int)] = strOf [F] := str_numsB [F]
  have hd : (strOf (msaB F c i)).data.toList = [77, 83, 65] ++ F :: (c ++ F :: i) := by simp [strOf, msaB]
  have hFd : (strOf [F]).data.toList = [F] := by simp [strOf]
  have hsize : (strOf (msaB F c i)).size < 4294967281 := by rw [size_strOf]; exact hsz
  have hU : ((F.toNat : Nat) : Int).toNat.toUInt8 = F := by simp
  have hrest : (⟨(c ++ F :: i).toArray⟩ : ByteArray) = strOf (c ++ F :: i) := rfl
  have hpc : piecesS ((F.toNat : Nat) : Int) (strOf (c ++ F :: i)) = [strOf c, strOf i] := by
    have e : (strOf (c ++ F :: i)).data.toList = c ++ F :: i := by simp [strOf]
    unfold piecesS
    rw [e, hU, pieces_sep F c i hc, pieces_free F i hi]
    rfl
  have hlen : (strOf (c ++ F :: i)).size < 4294967281 := by
    rw [size_strOf]
    simp [msaB] at hsz ⊢
    omega
  unfold QField.segment_Field.f QField.segment_field.f strings_Cut.f
  rw [if_neg (by omega), name_msa]
  simp only [Option.bind_some]
  rw [if_neg (by rw [Lib.toList_data]; decide), if_pos hsize, hd, hsF, hFd, cut_free F [77, 83, 65] _ h3]
  simp only [Option.bind_some]
  rw [if_pos trivial, hrest, nth_tot _ _ _ hlen, hpc]
  simp only [Option.bind_some]
  rcases hk with rfl | rfl
  · exact ⟨_, rfl⟩
  · exact ⟨_, rfl⟩

theorem make_msa (F : UInt8) (d1 d2 d3 d4 : Int) (c i : ByteArray) (hc : c.size ≤ 10) (hi : i.size ≤ 2000000) :
    QMake.segment_Make.f (F.toNat : Int) d1 d2 d3 d4 ⟨#[77, 83, 65]⟩ [c, i] = some (strOf (msaB F c.data.toList i.data.toList)) := by
  have hsep : (strOfNums [(F.toNat : Int)]).size = 1 := by rw [size_strOfNums]; rfl
  have hsd : (strOfNums [(F.toNat : Int)]).data.toList = [F] := by rw [show strOfNums [(F.toNat : Int)] = strOf [F] from str_numsB [F]]; rfl
  unfold QMake.segment_Make.f QMake.delim_Join.f
  rw [if_neg (by rw [Lib.toList_data]; decide)]
  simp only [Option.bind_some]
  rw [if_pos (by simp)]
  obtain ⟨e2, b2⟩ := join_wide ([⟨#[77, 83, 65]⟩] ++ [c, i]) (strOfNums [(F.toNat : Int)]) 2000000 (fun x hx => by
    simp only [List.cons_append, List.nil_append, List.mem_cons, List.not_mem_nil, or_false] at hx
    rcases hx with rfl | rfl | rfl
    · decide
    · omega
    · exact hi) (by simp) (by omega) (by omega)
  rw [e2]
  simp only [Option.bind_some]
  unfold strOf
  congr 3
  unfold joinS
  rw [List.singleton_append, List.map_cons, Lib.join_cons, hsd, joinTail_cat]
  simp [msaB, cat]

/-- What an answer's bytes are. -/
def ansB (F o1 o2 o3 o4 : UInt8) (fs : List (List UInt8)) (c i : List UInt8) : List UInt8 := headB F o1 o2 o3 o4 fs ++ 13 :: (msaB F c i ++ [13])
theorem read_ans (k : Nat) (F o1 o2 o3 o4 : UInt8) (s5 s6 s7 s8 s9 s10 s11 s12 s13 s14 : ByteArray) (fs : List (List UInt8)) (c i : List UInt8) (W : Written F o1 o2 o3 o4 (vOf s5 s6 s7 s8 s9 s10 s11 s12 s13 s14) fs)
    (h3 : F ∉ [77, 83, 65]) (hc : F ∉ c) (hi : F ∉ i) (hc13 : (13 : UInt8) ∉ c) (hi13 : (13 : UInt8) ∉ i) (hF13 : F ≠ 13) (hk : Lib.containsS codesL (strOf c) = true) (hsz : (ansB F o1 o2 o3 o4 fs c i).length < 4294967281) :
    QRead.ack_Read.f (k + 1) (numsB (ansB F o1 o2 o3 o4 fs c i)) = some (strOf c, strOf i, 0) := by
  have hread := read_written F o1 o2 o3 o4 s5 s6 s7 s8 s9 s10 s11 s12 s13 s14 fs (msaB F c i ++ [13]) W hsz
  have hm13 : (13 : UInt8) ∉ msaB F c i := by
    unfold msaB
    simp only [List.mem_cons, List.mem_append, not_or]
    exact ⟨by decide, by decide, by decide, fun e => hF13 e.symm, hc13, fun e => hF13 e.symm, hi13⟩
  have hmz : (msaB F c i).length < 4294967281 := by
    unfold ansB at hsz
    simp at hsz
    omega
  have hsp : splitS (numsB (ansB F o1 o2 o3 o4 fs c i)) = [strOf (headB F o1 o2 o3 o4 fs), strOf (msaB F c i)] := by
    have hcc : (13 : Int).toNat.toUInt8 = (13 : UInt8) := rfl
    have hd : (strOf (ansB F o1 o2 o3 o4 fs c i)).data.toList = ansB F o1 o2 o3 o4 fs c i := by simp [strOf]
    have hp : pieces 13 (ansB F o1 o2 o3 o4 fs c i) = [headB F o1 o2 o3 o4 fs, msaB F c i, []] := by
      unfold ansB
      rw [pieces_sep 13 _ _ W.no13, pieces_sep 13 _ _ hm13]
      rfl
    unfold splitS piecesS
    rw [str_numsB, hd, hcc, hp, if_pos (by simp [strOf, Lib.toList_data])]
    rfl
  have e1 : rdOf ByteArray.empty [strOf (headB F o1 o2 o3 o4 fs), strOf (msaB F c i)] 1 = strOf (msaB F c i) := rfl
  obtain ⟨b1, f1⟩ := field_msa F c i 1 (.inl rfl) h3 hc hi hmz (o1.toNat : Int) (o2.toNat : Int) (o3.toNat : Int) (o4.toNat : Int)
  obtain ⟨b2, f2⟩ := field_msa F c i 2 (.inr rfl) h3 hc hi hmz (o1.toNat : Int) (o2.toNat : Int) (o3.toNat : Int) (o4.toNat : Int)
  rw [if_pos rfl] at f1
  rw [if_neg (by decide)] at f2
  have hread' : msh_Read.f (numsB (ansB F o1 o2 o3 o4 fs c i)) = _ := hread
  unfold QRead.ack_Read.f
  rw [hread']
  simp only [Option.bind_some]
  rw [if_pos trivial, show segment_Split.f (numsB (ansB F o1 o2 o3 o4 fs c i)) = some (splitS (numsB (ansB F o1 o2 o3 o4 fs c i))) from if_pos (by rw [numsB_len]; exact hsz), hsp]
  simp only [Option.bind_some]
  rw [if_neg (by simp), if_pos (by simp), e1, name_msa]
  simp only [Option.bind_some]
  rw [QRead.ack_Read.j0, if_neg (by rw [Lib.toList_data]; decide), if_pos (by simp), e1, f1]
  simp only [Option.bind_some]
  rw [f2]
  simp only [Option.bind_some]
  rw [show ack_Known.f (strOf c) = some (Lib.containsS codesL (strOf c)) from rfl, hk]
  simp only [Option.bind_some]
  rw [if_pos trivial]

/-- What a verdict with a code is made of. -/
structure Judged (l : List Int) (d0 d1 d2 d3 d4 : Int) (s5 s6 s7 s8 s9 s10 s11 s12 s13 s14 cd : ByteArray) (e : Int) : Prop where
  read : msh_Read.f l = some (d0, d1, d2, d3, d4, s5, s6, s7, s8, s9, s10, s11, s12, s13, s14, 0)
  no28 : (28 : UInt8) ∉ Lib.bytesOf (firstSeg l)
  check : msh_Check.f d0 d1 d2 d3 d4 s5 s6 s7 s8 s9 s10 s11 s12 s13 s14 = some e
  code : cd = codeOf e
theorem verdict_parts {l : List Int} {d0 d1 d2 d3 d4 : Int} {s5 s6 s7 s8 s9 s10 s11 s12 s13 s14 cd : ByteArray} {e : Int} (h : accept_Verdict.f l = some (d0, d1, d2, d3, d4, s5, s6, s7, s8, s9, s10, s11, s12, s13, s14, cd, e)) :
    (cd = ⟨#[]⟩ ∧ e ≠ 0) ∨ Judged l d0 d1 d2 d3 d4 s5 s6 s7 s8 s9 s10 s11 s12 s13 s14 cd e := by
  unfold accept_Verdict.f at h
  split at h
  case isFalse => cases h
  obtain ⟨⟨e0, e1, e2, e3, e4, t5, t6, t7, t8, t9, t10, t11, t12, t13, t14, er⟩, hrd, h⟩ := Option.bind_eq_some_iff.1 h
  dsimp only at h
  by_cases he : er ≠ 0
  · rw [if_pos he] at h
    simp only [verdictZ, Option.some.injEq, Prod.mk.injEq] at h
    obtain ⟨_, _, _, _, _, _, _, _, _, _, _, _, _, _, _, rfl, rfl⟩ := h
    exact .inl ⟨rfl, he⟩
  · rw [if_neg he] at h
    obtain rfl : er = 0 := by omega
    by_cases h28 : 0 ≤ Lib.indexByte (Lib.bytesOf (firstSeg l)) 28
    · rw [if_pos h28] at h
      simp only [verdictZ, Option.some.injEq, Prod.mk.injEq] at h
      obtain ⟨_, _, _, _, _, _, _, _, _, _, _, _, _, _, _, rfl, rfl⟩ := h
      exact .inl ⟨rfl, by decide⟩
    · rw [if_neg h28] at h
      obtain ⟨c, hc, h⟩ := Option.map_eq_some_iff.1 h
      simp only [Prod.mk.injEq] at h
      obtain ⟨rfl, rfl, rfl, rfl, rfl, rfl, rfl, rfl, rfl, rfl, rfl, rfl, rfl, rfl, rfl, rfl, rfl⟩ := h
      exact .inr ⟨hrd, fun hm => h28 ((indexByte_mem _ _).2 hm), hc, rfl⟩
def codeK (e : Int) (kept : Bool) : List UInt8 := if e = 0 then if kept then [65, 65] else [65, 69] else if e = 14 then [65, 69] else [65, 82]
theorem codeK_mem (e : Int) (kept : Bool) : codeK e kept = [65, 65] ∨ codeK e kept = [65, 69] ∨ codeK e kept = [65, 82] := by
  unfold codeK
  split
  · split
    · exact .inl rfl
    · exact .inr (.inl rfl)
  · split
    · exact .inr (.inl rfl)
    · exact .inr (.inr rfl)

theorem goodL_free (l : List Int) (h : ∀ x ∈ l, x ≠ 11 ∧ x ≠ 28) : goodL l = true := by
  induction l with
  | nil => rfl
  | cons x r ih =>
    have hx := h x List.mem_cons_self
    rw [goodL, ih (fun y hy => h y (List.mem_cons_of_mem _ hy))]
    simp [hx.1, hx.2]
theorem goodL_no11 (l : List Int) (h : goodL l = true) : ∀ x ∈ l, x ≠ 11 := by
  induction l with
  | nil => intro x hx; simp at hx
  | cons y r ih =>
    rw [goodL, Bool.and_eq_true, Bool.and_eq_true] at h
    intro x hx
    rcases List.mem_cons.1 hx with rfl | hx
    · exact of_decide_eq_true h.1.1
    · exact ih h.2 x hx
theorem bytes_no11 (l : List Int) (hb : Bytes l) (h : goodL l = true) : (11 : UInt8) ∉ Lib.bytesOf l := by
  intro hm
  obtain ⟨x, hx, e⟩ := List.mem_map.1 hm
  have h1 := hb x hx
  have h2 := goodL_no11 l h x hx
  have h3 := congrArg UInt8.toNat e
  simp at h3
  omega

/-- What the answer to a message is. -/
structure Answered (l : List Int) (kept : Bool) (i : ByteArray) (e : Int) (a : List Int) : Prop where
  bytes : Bytes a
  good : goodL a = true
  len : a.length < 4000000
  read : ∀ k, QRead.ack_Read.f (k + 1) a = some (strOf (codeK e kept), i, 0)
set_option maxHeartbeats 1000000 in
theorem build_ans (k : Nat) {l : List Int} (hb : Bytes l) (hg : goodL l = true) (hl : l.length ≤ 8000) {d0 d1 d2 d3 d4 : Int} {s5 s6 s7 s8 s9 s10 s11 s12 s13 s14 cd : ByteArray} {e : Int} (J : Judged l d0 d1 d2 d3 d4 s5 s6 s7 s8 s9 s10 s11 s12 s13 s14 cd e)
    (hfit : ∀ k, k < 10 → (vOf s5 s6 s7 s8 s9 s10 s11 s12 s13 s14 k).size ≤ l.length) (kept : Bool) :
    ∃ a, QReply.ack_Build.f (k + 3) d0 d1 d2 d3 d4 s5 s6 s7 s8 s9 s10 s11 s12 s13 s14 (strOf (codeK e kept)) = some (a, 0) ∧ Answered l kept s12 e a := by
  obtain ⟨F, o1, o2, o3, o4, rfl, rfl, rfl, rfl, rfl, R⟩ := read_free l hb _ _ _ _ _ _ _ _ _ _ _ _ _ _ _ J.read
  have h11 := bytes_no11 l hb hg
  have hf13 := first_no13 l
  obtain ⟨g0, g1, g2, g3, g4, _, _, _, _⟩ := right_signs R.right
  have letters : ∀ c ∈ ([77, 83, 65, 67, 75, 69, 82] : List UInt8), F ≠ c := by
    intro c hc
    refine sign_not F _ _ _ _ R.right c ?_
    simp only [List.mem_cons, List.not_mem_nil, or_false] at hc
    rcases hc with rfl | rfl | rfl | rfl | rfl | rfl | rfl <;> decide
  -- the texts of the answer's head
  have hv : ∀ j, j < 10 → (vOf s7 s8 s5 s6 s9 ⟨#[]⟩ ⟨#[65, 67, 75]⟩ s12 s13 s14 j).size ≤ 2000000 ∧ F ∉ (vOf s7 s8 s5 s6 s9 ⟨#[]⟩ ⟨#[65, 67, 75]⟩ s12 s13 s14 j).data.toList ∧ ∀ x ∈ (vOf s7 s8 s5 s6 s9 ⟨#[]⟩ ⟨#[65, 67, 75]⟩ s12 s13 s14 j).data.toList, x ≠ 13 ∧ x ≠ 11 ∧ x ≠ 28 := by
    have key : ∀ j, j < 10 → (vOf s5 s6 s7 s8 s9 s10 s11 s12 s13 s14 j).size ≤ 2000000 ∧ F ∉ (vOf s5 s6 s7 s8 s9 s10 s11 s12 s13 s14 j).data.toList ∧ ∀ x ∈ (vOf s5 s6 s7 s8 s9 s10 s11 s12 s13 s14 j).data.toList, x ≠ 13 ∧ x ≠ 11 ∧ x ≠ 28 := by
      intro j hj
      have h := R.free j hj
      have hs := hfit j hj
      refine ⟨by omega, h.1, fun x hx => ⟨?_, ?_, ?_⟩⟩
      · rintro rfl
        exact hf13 (h.2 _ hx)
      · rintro rfl
        exact h11 (first_mem l _ (h.2 _ hx))
      · rintro rfl
        exact J.no28 (h.2 _ hx)
    intro j hj
    rcases j with _ | _ | _ | _ | _ | _ | _ | _ | _ | _ | j
    · exact key 2 (by decide)
    · exact key 3 (by decide)
    · exact key 0 (by decide)
    · exact key 1 (by decide)
    · exact key 4 (by decide)
    · exact ⟨by show (0 : Nat) ≤ _; omega, by simp [vOf], fun x hx => by simp [vOf] at hx⟩
    · refine ⟨by show (3 : Nat) ≤ _; omega, ?_, ?_⟩
      · show F ∉ ([65, 67, 75] : List UInt8)
        intro hm
        simp only [List.mem_cons, List.not_mem_nil, or_false] at hm
        rcases hm with h | h | h
        · exact letters 65 (by decide) h
        · exact letters 67 (by decide) h
        · exact letters 75 (by decide) h
      · intro x hx
        have hx : x ∈ ([65, 67, 75] : List UInt8) := hx
        simp only [List.mem_cons, List.not_mem_nil, or_false] at hx
        rcases hx with rfl | rfl | rfl <;> decide
    · exact key 7 (by decide)
    · exact key 8 (by decide)
    · exact key 9 (by decide)
    · omega
  obtain ⟨fs, hw, W, hfs⟩ := write_ok F o1 o2 o3 o4 s7 s8 s5 s6 s9 ⟨#[]⟩ ⟨#[65, 67, 75]⟩ s12 s13 s14 (fun j hj => (hv j hj).1) R.right (fun j hj => ⟨(hv j hj).2.1, fun hm => ((hv j hj).2.2 13 hm).1 rfl⟩)
  have h12 := hv 7 (by decide)
  have h12 : s12.size ≤ 2000000 ∧ F ∉ s12.data.toList ∧ ∀ x ∈ s12.data.toList, x ≠ 13 ∧ x ≠ 11 ∧ x ≠ 28 := h12
  have h12l : s12.size ≤ 8000 := Nat.le_trans (hfit 7 (by decide)) hl
  -- the code
  obtain ⟨c, hcd⟩ : ∃ c, c = codeK e kept := ⟨_, rfl⟩
  have hcm : c = [65, 65] ∨ c = [65, 69] ∨ c = [65, 82] := by rw [hcd]; exact codeK_mem e kept
  rw [← hcd]
  have hsc : (strOf c).size = 2 := by rcases hcm with h | h | h <;> (rw [h]; rfl)
  have hcc : (strOf c).data.toList = c := by simp [strOf]
  have hkn : Lib.containsS codesL (strOf c) = true := by rcases hcm with h | h | h <;> (rw [h]; decide)
  have hFc : F ∉ c ∧ ∀ x ∈ c, x ≠ 13 ∧ x ≠ 11 ∧ x ≠ 28 := by
    have k1 := letters 65 (by decide)
    have k2 := letters 69 (by decide)
    have k3 := letters 82 (by decide)
    rcases hcm with h | h | h <;> rw [h]
    · exact ⟨by simp [k1], fun x hx => by simp only [List.mem_cons, List.not_mem_nil, or_false] at hx; rcases hx with rfl | rfl <;> decide⟩
    · exact ⟨by simp [k1, k2], fun x hx => by simp only [List.mem_cons, List.not_mem_nil, or_false] at hx; rcases hx with rfl | rfl <;> decide⟩
    · exact ⟨by simp [k1, k3], fun x hx => by simp only [List.mem_cons, List.not_mem_nil, or_false] at hx; rcases hx with rfl | rfl <;> decide⟩
  have hF3 : F ∉ ([77, 83, 65] : List UInt8) := by
    intro hm
    simp only [List.mem_cons, List.not_mem_nil, or_false] at hm
    rcases hm with h | h | h
    · exact letters 77 (by decide) h
    · exact letters 83 (by decide) h
    · exact letters 65 (by decide) h
  have hF13 : F ≠ 13 := by rintro rfl; exact absurd g0.1 (by decide)
  obtain ⟨s', hw', hsl⟩ : ∃ s', msh_Write.f (F.toNat : Int) (o1.toNat : Int) (o2.toNat : Int) (o3.toNat : Int) (o4.toNat : Int) s7 s8 s5 s6 s9 ⟨#[]⟩ ⟨#[65, 67, 75]⟩ s12 s13 s14 = some (s', 0) ∧ s'.size ≤ 1000000 := by
    obtain ⟨s', e', h1, h2⟩ := write_tot (F.toNat : Int) (o1.toNat : Int) (o2.toNat : Int) (o3.toNat : Int) (o4.toNat : Int) s7 s8 s5 s6 s9 ⟨#[]⟩ ⟨#[65, 67, 75]⟩ s12 s13 s14 8000 (fun j hj => by
      rcases j with _ | _ | _ | _ | _ | _ | _ | _ | _ | _ | j
      · exact Nat.le_trans (hfit 2 (by decide)) hl
      · exact Nat.le_trans (hfit 3 (by decide)) hl
      · exact Nat.le_trans (hfit 0 (by decide)) hl
      · exact Nat.le_trans (hfit 1 (by decide)) hl
      · exact Nat.le_trans (hfit 4 (by decide)) hl
      · show (0 : Nat) ≤ _; omega
      · show (3 : Nat) ≤ _; omega
      · exact Nat.le_trans (hfit 7 (by decide)) hl
      · exact Nat.le_trans (hfit 8 (by decide)) hl
      · exact Nat.le_trans (hfit 9 (by decide)) hl
      · omega) (by omega)
    rw [hw] at h1
    obtain ⟨rfl, rfl⟩ := Prod.mk.inj (Option.some.inj h1)
    exact ⟨_, hw, h2⟩
  obtain rfl : s' = strOf (headB F o1 o2 o3 o4 fs) := by rw [hw] at hw'; exact (Prod.mk.inj (Option.some.inj hw')).1.symm
  have hmk := make_msa F (o1.toNat : Int) (o2.toNat : Int) (o3.toNat : Int) (o4.toNat : Int) (strOf c) s12 (by omega) h12.1
  rw [hcc] at hmk
  have hhl : (headB F o1 o2 o3 o4 fs).length ≤ 1000000 := by rw [size_strOf] at hsl; exact hsl
  have hml : (msaB F c s12.data.toList).length ≤ 9000 := by
    have : c.length = 2 := by rw [size_strOf] at hsc; exact hsc
    have h2 : s12.data.toList.length = s12.size := data_length s12
    simp [msaB]
    omega
  have hj := join2 k (strOf (headB F o1 o2 o3 o4 fs)) (strOf (msaB F c s12.data.toList)) hsl (by rw [size_strOf]; omega)
  have hbs : ∀ x : List UInt8, bytesOf (strOf x) = numsB x := fun x => rfl
  rw [hbs, hbs] at hj
  have hans : numsB (headB F o1 o2 o3 o4 fs) ++ [13] ++ numsB (msaB F c s12.data.toList) ++ [13] = numsB (ansB F o1 o2 o3 o4 fs c s12.data.toList) := by
    unfold ansB
    rw [show headB F o1 o2 o3 o4 fs ++ 13 :: (msaB F c s12.data.toList ++ [13]) = headB F o1 o2 o3 o4 fs ++ ([13] ++ (msaB F c s12.data.toList ++ [13])) from rfl, numsB_append, numsB_append, numsB_append]
    simp [numsB]
  rw [hans] at hj
  have hal : (ansB F o1 o2 o3 o4 fs c s12.data.toList).length < 4000000 := by
    unfold ansB
    simp
    omega
  have hfree : ∀ x ∈ ansB F o1 o2 o3 o4 fs c s12.data.toList, x ≠ 11 ∧ x ≠ 28 := by
    have sg : ∀ o : UInt8, 32 < (o.toNat : Int) → o ≠ 11 ∧ o ≠ 28 := fun o ho => ⟨fun e => by rw [e] at ho; exact absurd ho (by decide), fun e => by rw [e] at ho; exact absurd ho (by decide)⟩
    have hF := sg F g0.1
    intro x hx
    unfold ansB at hx
    rcases List.mem_append.1 hx with hx | hx
    · unfold headB at hx
      simp only [List.mem_cons] at hx
      rcases hx with rfl | rfl | rfl | rfl | rfl | rfl | rfl | rfl | hx
      · decide
      · decide
      · decide
      · exact hF
      · exact sg _ g1.1
      · exact sg _ g2.1
      · exact sg _ g3.1
      · exact sg _ g4.1
      · rcases mem_cat hx with rfl | ⟨f, hf, hxf⟩
        · exact hF
        · obtain ⟨j, hj, rfl⟩ := hfs f hf
          have := (hv j hj).2.2 x hxf
          exact ⟨this.2.1, this.2.2⟩
    · rcases List.mem_cons.1 hx with rfl | hx
      · decide
      · rcases List.mem_append.1 hx with hx | hx
        · unfold msaB at hx
          simp only [List.mem_cons, List.mem_append] at hx
          rcases hx with rfl | rfl | rfl | rfl | hx | rfl | hx
          · decide
          · decide
          · decide
          · exact hF
          · exact ⟨(hFc.2 x hx).2.1, (hFc.2 x hx).2.2⟩
          · exact hF
          · exact ⟨(h12.2.2 x hx).2.1, (h12.2.2 x hx).2.2⟩
        · rw [List.mem_singleton.1 hx]; decide
  refine ⟨numsB (ansB F o1 o2 o3 o4 fs c s12.data.toList), ?_, Bytes_numsB _, goodL_free _ ?_, by rw [numsB_len]; exact hal, fun k => ?_⟩
  · unfold QReply.ack_Build.f
    rw [show ack_Known.f (strOf c) = some (Lib.containsS codesL (strOf c)) from rfl, hkn]
    simp only [Option.bind_some]
    rw [if_pos trivial, hw]
    simp only [Option.bind_some]
    rw [if_pos trivial, hmk]
    simp only [Option.bind_some]
    rw [hj]
    rfl
  · intro x hx
    obtain ⟨b, hb2, rfl⟩ := List.mem_map.1 hx
    have := hfree b hb2
    exact ⟨fun e => this.1 (UInt8.toNat_inj.1 (by show b.toNat = 11; omega)), fun e => this.2 (UInt8.toNat_inj.1 (by show b.toNat = 28; omega))⟩
  · have := read_ans k F o1 o2 o3 o4 s7 s8 s5 s6 s9 ⟨#[]⟩ ⟨#[65, 67, 75]⟩ s12 s13 s14 fs c s12.data.toList W hF3 hFc.1 h12.2.1 (fun hm => (hFc.2 13 hm).1 rfl) (fun hm => (h12.2.2 13 hm).1 rfl) hF13 hkn (by omega)
    rw [strOf_toList, hcd] at this
    rw [hcd]
    exact this
end Go.Proofs.YtciagecaegoppaaDoor
end
section
namespace Go.Proofs.YtciagecaegoppaaDoor
set_option linter.unusedVariables false
set_option linter.unusedSimpArgs false
set_option maxRecDepth 20000
open Go.RowKit Go.Proofs.YtciagecaegoppaaDoorW.PrintWords Go.Proofs.YtciagecaegoppaaDoorW.PrintLast Go.Proofs.YtciagecaegoppaaDoorW.PrintMore

theorem reply_none (k : Nat) {l : List Int} (kept : Bool) {d0 d1 d2 d3 d4 : Int} {s5 s6 s7 s8 s9 s10 s11 s12 s13 s14 cd : ByteArray} {e : Int} (hv : accept_Verdict.f l = some (d0, d1, d2, d3, d4, s5, s6, s7, s8, s9, s10, s11, s12, s13, s14, cd, e)) (hc : cd = ⟨#[]⟩) :
    QReply.accept_Reply.f (k + 1) l kept = some ([], false) := by
  subst hc
  unfold QReply.accept_Reply.f
  rw [hv]
  simp only [Option.bind_some]
  rw [if_pos (by rw [Lib.toList_data]), QReply.accept_Reply.j0, if_pos rfl]
theorem codeOf_some (e : Int) : (codeOf e).toList ≠ [] := by
  unfold codeOf
  rw [Lib.toList_data]
  split
  · simp
  · split <;> simp
theorem reply_bad (k : Nat) {l : List Int} (hb : Bytes l) (hl : l.length ≤ 8000) (kept : Bool) {d0 d1 d2 d3 d4 : Int} {s5 s6 s7 s8 s9 s10 s11 s12 s13 s14 : ByteArray} {e : Int} (hv : accept_Verdict.f l = some (d0, d1, d2, d3, d4, s5, s6, s7, s8, s9, s10, s11, s12, s13, s14, codeOf e, e)) (hg : goodL l = false) :
    QReply.accept_Reply.f (k + 1) l kept = some ([], false) := by
  unfold QReply.accept_Reply.f
  rw [hv]
  simp only [Option.bind_some]
  rw [if_neg (codeOf_some e), show frameA_Good.f l = some (goodL l) from good_f l hb (by omega), hg]
  simp only [Option.bind_some, Bool.not_false]
  rw [QReply.accept_Reply.j0, if_pos rfl]
theorem codeOf_taken (e : Int) : (codeOf e).toList = [65, 65] ↔ e = 0 := by
  unfold codeOf
  rw [Lib.toList_data]
  split
  · rename_i h; simp [h]
  · rename_i h
    split <;> simp [h]
theorem codeK_of (e : Int) (kept : Bool) : strOf (codeK e kept) = if e = 0 ∧ kept = false then ⟨#[65, 69]⟩ else codeOf e := by
  unfold codeK codeOf
  by_cases h : e = 0
  · subst h
    cases kept <;> rfl
  · simp only [h, false_and, if_false]
    split <;> rfl
theorem reply_some (k : Nat) {l : List Int} (hb : Bytes l) (hg : goodL l = true) (hl : l.length ≤ 8000) {d0 d1 d2 d3 d4 : Int} {s5 s6 s7 s8 s9 s10 s11 s12 s13 s14 : ByteArray} {e : Int} (hv : accept_Verdict.f l = some (d0, d1, d2, d3, d4, s5, s6, s7, s8, s9, s10, s11, s12, s13, s14, codeOf e, e)) (J : Judged l d0 d1 d2 d3 d4 s5 s6 s7 s8 s9 s10 s11 s12 s13 s14 (codeOf e) e)
    (hfit : ∀ k, k < 10 → (vOf s5 s6 s7 s8 s9 s10 s11 s12 s13 s14 k).size ≤ l.length) (kept : Bool) :
    ∃ a, QReply.accept_Reply.f (k + 6) l kept = some (11 :: a ++ [28, 13], true) ∧ Answered l kept s12 e a ∧ QReply.ack_Build.f (k + 3) d0 d1 d2 d3 d4 s5 s6 s7 s8 s9 s10 s11 s12 s13 s14 (strOf (codeK e kept)) = some (a, 0) := by
  obtain ⟨a, hbd, A⟩ := build_ans k hb hg hl J hfit kept
  refine ⟨a, ?_, A, hbd⟩
  have hw : frameA_Wrap.f a = some (11 :: a ++ [28, 13], 0) := by
    unfold frameA_Wrap.f frame_Wrap.f
    rw [good_f a A.bytes (by have := A.len; omega), A.good]
    rfl
  have hbd' : ∀ c : ByteArray, c = strOf (codeK e kept) → QReply.ack_Build.f (k + 3) d0 d1 d2 d3 d4 s5 s6 s7 s8 s9 s10 s11 s12 s13 s14 c = some (a, 0) := by
    rintro c rfl
    exact hbd
  have hj2 : ∀ c : ByteArray, c = strOf (codeK e kept) → QReply.accept_Reply.j2 (k + 4) c d0 d1 d2 d3 d4 s5 s6 s7 s8 s9 s10 s11 s12 s13 s14 = some (11 :: a ++ [28, 13], true) := by
    intro c hc
    rw [QReply.accept_Reply.j2, hbd' c hc]
    simp only [Option.bind_some]
    rw [if_pos trivial, hw]
    rfl
  unfold QReply.accept_Reply.f
  rw [hv]
  simp only [Option.bind_some]
  rw [if_neg (codeOf_some e), show frameA_Good.f l = some (goodL l) from good_f l hb (by omega), hg]
  simp only [Option.bind_some]
  rw [QReply.accept_Reply.j0, if_neg (by decide)]
  by_cases he : e = 0
  · rw [if_pos ((codeOf_taken e).2 he), QReply.accept_Reply.j1]
    cases kept
    · rw [Bool.not_false, if_pos rfl]
      exact hj2 _ (by rw [codeK_of, if_pos ⟨he, rfl⟩])
    · rw [Bool.not_true, if_neg (by decide)]
      exact hj2 _ (by rw [codeK_of, if_neg (by simp)])
  · rw [if_neg (fun h => he ((codeOf_taken e).1 h)), QReply.accept_Reply.j1, if_neg (by decide)]
    exact hj2 _ (by rw [codeK_of, if_neg (fun h => he h.1)])
theorem stored_judged {l : List Int} {d0 d1 d2 d3 d4 : Int} {s5 s6 s7 s8 s9 s10 s11 s12 s13 s14 : ByteArray} {e : Int} (hv : accept_Verdict.f l = some (d0, d1, d2, d3, d4, s5, s6, s7, s8, s9, s10, s11, s12, s13, s14, codeOf e, e)) : QStored.accept_Stored.f l = some (e == 0) := by
  unfold QStored.accept_Stored.f
  rw [hv]
  simp only [Option.bind_some]
  congr 1
  rw [Bool.eq_iff_iff, beq_iff_eq, beq_iff_eq]
  exact codeOf_taken e
end Go.Proofs.YtciagecaegoppaaDoor
end
section
namespace Go.Proofs.YtciagecaegoppaaDoor.Pure
set_option linter.unusedVariables false
set_option maxRecDepth 20000
open Go.RowKit Go.Proofs.YtciagecaegoppaaDoorW.PrintWords Go.Proofs.YtciagecaegoppaaDoor Go.Proofs.YtciagecaegoppaaDoor.QAcceptAnswers

theorem ref_good_loop (a : List Int) (la : a.length ≤ 3000) (d : Nat) :
    ∀ (k i : Nat), i + d = a.length → d < k → lamplighterref04_Good.l0 k a (i : Int) = some (goodL (a.drop i)) := by
  induction d with
  | zero =>
    intro k i hd hk
    obtain ⟨k, rfl⟩ : ∃ m, k = m + 1 := ⟨k - 1, by omega⟩
    rw [lamplighterref04_Good.l0, if_neg (by omega), List.drop_eq_nil_of_le (by omega)]
    rfl
  | succ d ih =>
    intro k i hd hk
    obtain ⟨k, rfl⟩ : ∃ m, k = m + 1 := ⟨k - 1, by omega⟩
    have next := ih k (i + 1) (by omega) (by omega)
    have ew : wrap64 ((i : Int) + 1) = ((i + 1 : Nat) : Int) := by unfold wrap64; omega
    have hi : i < a.length := by omega
    have er : rd a (i : Int) = a[i] := by simp [rd, hi]
    rw [lamplighterref04_Good.l0, if_pos (by omega), if_pos (by omega), ew, er, List.drop_eq_getElem_cons hi, goodL, next]
    by_cases h1 : a[i] = 11
    · rw [if_pos h1]; simp [h1]
    rw [if_neg h1]
    by_cases h2 : a[i] = 28
    · rw [if_pos h2]
      by_cases h3 : ((i + 1 : Nat) : Int) = (a.length : Int)
      · rw [if_pos h3, List.drop_eq_nil_of_le (by omega)]
        simp [h2]
      · have hi' : i + 1 < a.length := by omega
        have er' : rd a ((i + 1 : Nat) : Int) = a[i + 1] := by simp only [rd, Int.toNat_natCast]; simp [hi']
        rw [if_neg h3, if_pos (by omega), if_pos (by omega), er', List.drop_eq_getElem_cons hi']
        by_cases h4 : a[i + 1] = 13
        · rw [if_pos h4]; simp [h2, h4]
        · rw [if_neg h4]; simp only [h2, List.isEmpty_cons, List.head?_cons, Option.some.injEq, h4]; simp
    · rw [if_neg h2]; simp [h1, h2]
theorem alive_f : law_alive.f = some true := rfl

theorem AcceptAnswers : QAcceptAnswers.lamplighterlaw11_AcceptAnswers.Pure := by
  intro l kept _ _ hw
  have hb := bytes_of_wf hw
  refine ⟨l.length + 6, ?_⟩
  unfold lamplighterlaw11_AcceptAnswers.f
  by_cases h1 : (l.length : Int) > 3000
  · rw [if_pos h1, alive_f]
    rfl
  rw [if_neg h1]
  have hl : l.length ≤ 3000 := by omega
  have hgood : lamplighterref04_Good.f (l.length + 6) l = some (goodL l) := ref_good_loop l hl l.length (l.length + 6) 0 (by omega) (by omega)
  obtain ⟨d0, d1, d2, d3, d4, s5, s6, s7, s8, s9, s10, s11, s12, s13, s14, c, e, hv, hfit, hc⟩ := verdict_tot l hb (by omega)
  rw [hv]
  simp only [Option.bind_some]
  rcases verdict_parts hv with ⟨hce, he⟩ | J
  · rw [reply_none (l.length + 5) kept hv hce, hce]
    simp only [Option.bind_some]
    rw [if_neg (by decide), alive_f]
    simp only [Option.bind_some]
    rw [if_pos trivial, if_pos (by simp), if_pos (by rw [Lib.toList_data])]
  · obtain rfl := J.code
    by_cases hg : goodL l = true
    · obtain ⟨a, hr, A, _⟩ := reply_some l.length hb hg (by omega) hv J hfit kept
      have hu : frameA_Unwrap.f (11 :: a ++ [28, 13]) = some (a, 0) := unwrap_wrap a A.bytes (by have := A.len; omega) A.good
      have hrd : QRead.ack_Read.f (l.length + 6) a = some (strOf (codeK e kept), s12, 0) := A.read _
      have hst := stored_judged hv
      rw [hr]
      simp only [Option.bind_some]
      rw [if_pos trivial, hu]
      simp only [Option.bind_some]
      rw [hrd]
      simp only [Option.bind_some]
      rw [if_pos trivial, if_pos trivial, if_pos trivial]
      have hj : ∀ x : Bool, x = false → lamplighterlaw11_AcceptAnswers.j0 (l.length + 6) l (codeOf e) e x (strOf (codeK e kept)) s12 = some true := by
        rintro x rfl
        rw [lamplighterlaw11_AcceptAnswers.j0, if_neg (by decide), alive_f]
        simp only [Option.bind_some]
        rw [if_pos trivial, hst]
        simp only [Option.bind_some]
        rw [if_pos (by simp), codeK_of]
        by_cases h : e = 0 ∧ kept = false
        · obtain ⟨rfl, rfl⟩ := h
          have hne : ¬ (codeOf 0).toList = (⟨#[65, 69]⟩ : ByteArray).toList := by rw [Lib.toList_data, Lib.toList_data]; decide
          have hx : (⟨#[65, 69]⟩ : ByteArray).toList = [65, 69] := by rw [Lib.toList_data]
          have ht := (codeOf_taken 0).2 rfl
          simp only [and_self, if_true]
          rw [if_neg hne, if_pos ht, hx]
          rfl
        · rw [if_neg h, if_pos rfl]
      have hk : ((strOf (codeK e kept)).toList == ([65, 65] : List UInt8)) = (e == 0 && kept) := by
        rw [codeK_of]
        by_cases h : e = 0
        · subst h
          cases kept
          · rw [if_pos ⟨rfl, rfl⟩, Lib.toList_data]; rfl
          · rw [if_neg (by simp), Bool.eq_iff_iff, beq_iff_eq, codeOf_taken]; simp
        · rw [if_neg (fun hh => h hh.1), Bool.eq_iff_iff, beq_iff_eq, codeOf_taken]; simp [h]
      rw [hk]
      cases kept
      · rw [if_neg (by decide)]
        exact hj _ (by simp)
      · rw [if_pos rfl, hst]
        simp only [Option.bind_some]
        exact hj _ (by simp)
    · have hg' : goodL l = false := by simpa using hg
      rw [reply_bad (l.length + 5) hb (by omega) kept hv hg']
      simp only [Option.bind_some]
      rw [if_neg (by decide), alive_f]
      simp only [Option.bind_some]
      rw [if_pos trivial, if_pos (by simp), if_neg (codeOf_some e), hgood, hg']
      rfl
end Go.Proofs.YtciagecaegoppaaDoor.Pure
end
section
namespace Go.Proofs.YtciagecaegoppaaDoor
set_option linter.unusedVariables false
open Go.RowKit

def strData {H : Type} (zs : List ByteArray) : DataW H := .agg (zs.map fun z => .lit (.string z.data.toList))
theorem cells_of_strs {H : Type} {enc : TypeId × Value → H} {P : Program} {w : World} {base : Nat} {sp : Nat → Bool} {held : Bool} {fuel : Nat} {t e : TypeId} {n : Nat} {cs : List Value} {zs : List ByteArray} {p : List MemPlace}
    (ht : P.underlying t = some (.array n e)) (he : P.underlying e = some .string) (hce : P.cellsOf e = 1) (hct : P.cellsOf t = n)
    (h : DataW.trod enc P w base sp held fuel t cs = some (strData zs, p)) : cs = zs.map fun z => Value.string z := by
  cases fuel with
  | zero => simp [DataW.trod] at h
  | succ fuel =>
    simp only [DataW.trod, ht, hce, hct, Nat.mul_one] at h
    split at h
    · rename_i hl
      obtain ⟨xs, hm, hx⟩ := Option.map_eq_some_iff.1 h
      have hxs : xs.map (·.1) = zs.map fun z => (DataW.lit (.string z.data.toList) : DataW H) := by
        have := congrArg Prod.fst hx
        simpa [strData] using this
      have hxl : xs.length = n := by simpa using Lib.mapM_length hm
      have hzl : zs.length = n := by
        have := congrArg List.length hxs
        simp at this
        omega
      apply List.ext_getElem?
      intro i
      by_cases hi : i < n
      · obtain ⟨b, hb, hf⟩ := Lib.mapM_at hm i i (by simp [hi])
        obtain ⟨s, hc, rfl, _⟩ := DataW.trod_string he hf
        have h1 : cs[i]? = some (.string s) := by
          have := congrArg (·[0]?) hc
          simpa [List.getElem?_take, List.getElem?_drop] using this
        have h2 : (xs.map (·.1))[i]? = some (DataW.lit (.string s.data.toList) : DataW H) := by simp [hb]
        rw [hxs] at h2
        simp only [List.getElem?_map, Option.map_eq_some_iff, DataW.lit.injEq, Lit.string.injEq] at h2
        obtain ⟨z', hz', hzz⟩ := h2
        have e : z' = s := WideShapes.bytes_inj hzz
        subst e
        simp [h1, hz']
      · rw [List.getElem?_eq_none (by omega), List.getElem?_eq_none (by simp; omega)]
    · cases h
theorem strs_of_head {P : Program} {W : World} {name : String} {zs : List ByteArray} {rest : List (String × DataW Unit)} {g : Nat} {t e : TypeId} {n : Nat}
    (hg : P.globalNamed name = some g) (hty : (P.globals[g]?).map (·.type) = some t) (ht : P.underlying t = some (.array n e)) (he : P.underlying e = some .string) (hce : P.cellsOf e = 1) (hct : P.cellsOf t = n)
    (h : laidMet P ((name, strData zs) :: rest) W) (i : Nat) (hi : i < zs.length) : W.cell? ⟨g, i, none⟩ = some (.string (zs.getD i ByteArray.empty)) := by
  obtain ⟨ps, ⟨g', t', cs, fuel, p, q, hg', ht', hvar, hd, _, _⟩, _⟩ := h
  obtain rfl := Option.some.inj (hg.symm.trans hg')
  obtain rfl := Option.some.inj (hty.symm.trans ht')
  have hc := cells_of_strs ht he hce hct hd
  have hv := World.var?_cell hg hvar i
  rw [hv, ← Array.getElem?_toList, hc]
  simp [List.getD, hi]

theorem glob_of {l : List (String × DataW Unit)} (hl : l = [("lamplighter/frame.ends", Rows.laid_lamplighter_frame_ends), ("lamplighter/msh.versions", Rows.laid_lamplighter_msh_versions), ("lamplighter/ack.codes", Rows.laid_lamplighter_ack_codes)]) {W : World} (h : laidMetH Tryd.prog l W) (hs : W.ShapedOpen Tryd.prog) : GlobA W := by
  subst hl
  have h1 : laidMet Tryd.prog [("lamplighter/frame.ends", Rows.laid_lamplighter_frame_ends), ("lamplighter/msh.versions", Rows.laid_lamplighter_msh_versions), ("lamplighter/ack.codes", Rows.laid_lamplighter_ack_codes)] W := h
  have h2 : laidMet Tryd.prog [("lamplighter/msh.versions", Rows.laid_lamplighter_msh_versions), ("lamplighter/ack.codes", Rows.laid_lamplighter_ack_codes)] W := h1.filter (fun x => x.1 != "lamplighter/frame.ends")
  have h3 : laidMet Tryd.prog [("lamplighter/ack.codes", Rows.laid_lamplighter_ack_codes)] W := h1.filter (fun x => x.1 == "lamplighter/ack.codes")
  have ht : Lib.TabIs Tryd.prog W "lamplighter/frame.ends" .u8 [28, 13] := Lib.tabIs_of_head (g := 1) (t := 73) (by kernel_rfl) (by kernel_rfl) Tryd.underlying73 Tryd.underlying5 (by kernel_rfl) (by kernel_rfl) h1
  refine ⟨⟨ht.cell (g := 1) (by kernel_rfl) 0 (by decide), ht.cell (g := 1) (by kernel_rfl) 1 (by decide), Tryd.laysM185.s1_3 W hs⟩, ?_, ?_⟩
  · exact fun j hj => strs_of_head (g := 2) (t := 99) (zs := codesL) (by kernel_rfl) (by kernel_rfl) Tryd.underlying99 Tryd.underlying9 (by kernel_rfl) (by kernel_rfl) h3 j hj
  · exact fun j hj => strs_of_head (g := 0) (t := 69) (zs := versionsL) (by kernel_rfl) (by kernel_rfl) Tryd.underlying69 Tryd.underlying9 (by kernel_rfl) (by kernel_rfl) h2 j hj
end Go.Proofs.YtciagecaegoppaaDoor
end
section
-- PRINTED WORDS (module Derived/Print/Sized.lean): go-gate-2's, for the rows of laws over slices: an AI agent of Go's test side, Tue Nov 17 2026; no person has read it. Lean checks it.
namespace Go.Proofs.YtciagecaegoppaaDoorW.PrintWords
open Go.ChangeShapes Go.WideShapes
theorem sized_ints {H : Type} {enc : TypeId × Value → H} {P : Program} {W : World} {base : Nat} {spare : Nat → Bool} {held : Bool} {t e : TypeId} {k : IntKind} {a : Option Addr} {len cap : Nat} {d : DataW H} {ps : List MemPlace} {ts : List TypeId} {ds : List (DataW H)} {j : Nat}
    (hsz : (DataW.weightsEach P ts ds).all (· ≤ reachBytes) = true) (ht : ts[j]? = some t) (hd : ds[j]? = some d) (hu : P.underlying t = some (.slice e)) (he : P.underlying e = some (.int k)) (hc : P.cellsOf e = 1) {B : Nat} (hB : P.bytesOf e = B)
    (h : DataW.Trod enc P W base spare held t (.slice a len cap) d ps) : len * B ≤ 140737488351232 := by
  obtain ⟨fuel, hf⟩ := h
  rcases open_ints hu he hc hf with ⟨hcs, _⟩ | ⟨x, l, c, zs, hcs, _, hl, _, hz, hx, _, _⟩
  · simp [Value.cells] at hcs
    obtain ⟨rfl, rfl, rfl⟩ := hcs
    simp
  · simp [Value.cells] at hcs
    obtain ⟨rfl, rfl, rfl⟩ := hcs
    obtain ⟨hx, _⟩ := Prod.mk.inj hx
    subst hx
    have z := sized_slice hsz ht hd hu
    rw [hB] at z
    have hl2 : len ≤ zs.length := by
      rw [hz]
      split
      · exact hl
      · exact Nat.le_refl _
    have h1 : (lits (H := H) k (zs.take len)).length + (lits (H := H) k (zs.drop len)).length = zs.length := by
      simp [lits]
      omega
    rw [h1] at z
    exact Nat.le_trans (Nat.mul_le_mul_right _ hl2) z
end Go.Proofs.YtciagecaegoppaaDoorW.PrintWords
end
section
namespace Go.Proofs.YtciagecaegoppaaDoor.acceptAnswers
open Go.ChangeShapes Go.WideShapes Go.ChangeAt Go.RowKit
open Go.ChangeMaps (open_string shut_string)
set_option linter.unusedVariables false
set_option linter.unusedSimpArgs false
theorem own : ownKnob Tryd.prog.godebug = none := by kernel_rfl
theorem laidOut : laidOutB Tryd.prog = true := by kernel_rfl
theorem glob {W : World} (h : laidMetH Tryd.prog Rows.acceptAnswersRow.laid W) (hs : W.ShapedOpen Tryd.prog) : GlobA W := glob_of rfl h hs
def IsRow (k : IntKind) (w : World) (a : Option Addr) (len cap : Nat) (zs : List Int) : Prop :=
  (a = none ∧ len = 0 ∧ cap = 0 ∧ zs = []) ∨
  ∃ x, a = some x ∧ len ≤ cap ∧ cap ≤ maxLen ∧ zs.length = cap ∧ (∀ i, i < zs.length → w.cell? (x.add i) = some (.int k (zs.getD i 0))) ∧ ∀ n ∈ zs, (Lit.int k n).wf = true
set_option maxRecDepth 100000 in
theorem contract (H : Type) (enc : TypeId × Value → H) (W : World) (base : Nat) (args : Array Value) (ds gs : List (DataW H)) (before : List MemPlace)
    (hval0 : ∀ (j : Nat) t v, Tryd.f7.params[j]? = some t → args[j]? = some v → Value.okWide Tryd.prog W .any base t v)
    (hW : DataW.Whole enc Tryd.prog Tryd.f7.params.toList Rows.acceptAnswersSpec.vars false W args.toList ds gs before)
    (hsz0 : (DataW.weightsEach Tryd.prog (Tryd.f7.params.toList ++ Rows.acceptAnswersSpec.plain.varTypes Tryd.prog) (ds ++ gs)).all (· ≤ reachBytes) = true)
    (hG : GlobA W) :
    Calls Tryd.prog 7 args W fun e W' => ∃ v, e = .returned v ∧ Rows.acceptAnswersSpec.post enc Tryd.prog Tryd.f7 false true false false W args v W' := by
  have hval : ∀ (j : Nat) t v, Tryd.f7.params[j]? = some t → args[j]? = some v → Value.okWide Tryd.prog W .any base t v := hval0
  have hsz : (DataW.weightsEach Tryd.prog (Tryd.f7.params.toList ++ Rows.acceptAnswersSpec.plain.varTypes Tryd.prog) (ds ++ gs)).all (· ≤ reachBytes) = true := hsz0
  have hW' := hW
  obtain ⟨p, q, hA0, hV, rfl, hfz, hnd⟩ := hW
  have hA : DataW.TrodAll enc Tryd.prog W 0 (fun _ => true) true Tryd.f7.params.toList args.toList ds p := hA0
  rw [Tryd.params7] at hA hval hsz
  obtain ⟨v0, vs0, d0, ds0, p0, q0, hargs, rfl, rfl, h0, r0⟩ := trodAll_cons hA
  obtain ⟨v1, vs1, d1, ds1, p1, q1, rfl, rfl, rfl, h1, r1⟩ := trodAll_cons r0
  obtain ⟨rfl, rfl, rfl⟩ := trodAll_nil r1
  obtain rfl : args = #[v0, v1] := by cases args; simp_all
  obtain ⟨rfl, rfl⟩ := trodVars_none hV
  obtain ⟨a0, len0, cap0, rfl⟩ := okWide_slice Tryd.underlying26 (hval 0 26 v0 rfl rfl)
  have k0 := h0
  have lt0 : ∀ x ∈ p0, x.block < W.heap.size := by obtain ⟨m, hm⟩ := k0; exact DataW.trod_lt m _ _ _ hm
  obtain ⟨z0, w0⟩ : ∃ zs, IsRow .u8 W a0 len0 cap0 zs := by
    obtain ⟨fuel, hf⟩ := h0
    rcases open_ints Tryd.underlying26 Tryd.underlying5 (by kernel_rfl) hf with ⟨hcs, _⟩ | ⟨x, l, c, zs, hcs, _, hl, hm, hz, _, hcell, hwz⟩
    · simp [Value.cells] at hcs
      obtain ⟨rfl, rfl, rfl⟩ := hcs
      exact ⟨[], .inl ⟨rfl, rfl, rfl, rfl⟩⟩
    · simp [Value.cells] at hcs
      obtain ⟨rfl, rfl, rfl⟩ := hcs
      exact ⟨zs, .inr ⟨_, rfl, hl, hm, by simpa using hz, hcell, hwz⟩⟩
  have y0 : len0 * 1 ≤ 140737488351232 := YtciagecaegoppaaDoorW.PrintWords.sized_ints hsz (j := 0) (t := 26) rfl rfl Tryd.underlying26 Tryd.underlying5 (by kernel_rfl) (by kernel_rfl) k0
  obtain ⟨a1, rfl, rfl, rfl⟩ := open_bool Tryd.underlying4 (hval 1 4 v1 rfl rfl) h1
  clear hA0 hval0 hsz0 hsz
  refine (QAcceptAnswers.lamplighterlaw11_AcceptAnswers.walk Pure.AcceptAnswers a0 len0 cap0 z0 a1 W hG w0 y0).mono fun e W' ⟨he, bel⟩ => ?_
  subst he
  exact ⟨_, rfl, _, _, _, [], _, [], hW', trodAll_mk1 (shut_bool Tryd.underlying4 _), (trodAll_cons_mk (Below.trod laidOut (by kernel_rfl) (of_decide_eq_true (by kernel_rfl)) k0 bel lt0) (trodAll_cons_mk (shut_bool Tryd.underlying4 _) trodAll_mk0)), rfl, bel.frame _, fun h => by cases h⟩
/-- A world for the witness: the settled one, the listed variables holding what their initialisers lay. -/
noncomputable def laidWorld (os : Os) : World :=
  { World.holding Tryd.prog os ⟨#[], #[], []⟩ with heap := ((((World.holding Tryd.prog os ⟨#[], #[], []⟩).heap.modify 0 fun
      | .cells _ t frozen => .cells #[.string ⟨#[50, 46, 49]⟩, .string ⟨#[50, 46, 50]⟩, .string ⟨#[50, 46, 51]⟩, .string ⟨#[50, 46, 51, 46, 49]⟩, .string ⟨#[50, 46, 52]⟩, .string ⟨#[50, 46, 53]⟩, .string ⟨#[50, 46, 53, 46, 49]⟩, .string ⟨#[50, 46, 54]⟩, .string ⟨#[50, 46, 55]⟩, .string ⟨#[50, 46, 56]⟩] t frozen
      | o => o).modify 1 fun
      | .cells _ t frozen => .cells #[.int .u8 28, .int .u8 13] t frozen
      | o => o).modify 2 fun
      | .cells _ t frozen => .cells #[.string ⟨#[65, 65]⟩, .string ⟨#[65, 69]⟩, .string ⟨#[65, 82]⟩] t frozen
      | o => o) }
theorem laid_met (os : Os) : laidMet Tryd.prog Rows.acceptAnswersRow.laid ((laidWorld os).forCall (fun _ _ => 0) ⟨#[], #[.slice none 0 0, .bool false], []⟩).memory :=
  laidMet_of_run' 8 (by kernel_rfl) (by kernel_rfl)
theorem reads (os : Os) {H : Type} (enc : TypeId × Value → H) : ∃ places, DataW.whole enc Tryd.prog ((laidWorld os).forCall (fun _ _ => 0) ⟨#[], #[.slice none 0 0, .bool false], []⟩).memory Tryd.f7.params.toList Rows.acceptAnswersSpec.vars false (#[.slice none 0 0, .bool false] : Array Value).toList 8 = some ([.nil, .lit (.bool false)], [], places) :=
  ⟨[], by kernel_rfl⟩
set_option maxRecDepth 100000 in
theorem lifted (os : Os) (started : os.Started) (H : Type) (enc : TypeId × Value → H) (F : Stop.Interp) :
    ReturnsInHanded {} Tryd.checked os 7 .any ((OpenSpec.ofChange Rows.acceptAnswersSpec).preRow enc Tryd.prog Tryd.f7 Rows.acceptAnswersRow.domain false Rows.acceptAnswersRow.laid) (((OpenSpec.ofChange Rows.acceptAnswersSpec).at F).post enc Tryd.prog Tryd.f7 false true false false) := by
  obtain ⟨places, hx⟩ := reads os enc
  refine returnsInHanded_of_row (C := Tryd.checked) (s := OpenSpec.ofChange Rows.acceptAnswersSpec) own started (by kernel_rfl) Tryd.func7
    (witness_row_at (enc := enc) (C := Tryd.checked) false (laidWorld os) #[.slice none 0 0, .bool false] rfl (by kernel_rfl) (by kernel_rfl) (by kernel_rfl)
      (OpenSpec.preRow_of_cond 8 hx (by kernel_rfl) (fun k hk => by cases hk) (by kernel_rfl) (laid_met os))) ?_
  intro W base args ds gs before hval hW _ hcond hsz hL hsh _
  exact contract H enc W base args ds gs before hval hW hsz (glob hL hsh)
theorem said : Rows.AcceptAnswersSaid :=
  OpenClaim.holds_of_cond 7 Tryd.f7 rfl rfl rfl rfl rfl rfl rfl ⟨rfl, rfl, rfl, rfl, rfl⟩ rfl rfl rfl rfl rfl (by kernel_rfl) Tryd.func7 (by kernel_rfl)
    (of_decide_eq_true (by kernel_rfl)) (by unfold Func.isWrapper; rw [if_neg (of_decide_eq_false (by kernel_rfl))]; exact ⟨rfl, rfl⟩)
    (fun os started H enc _ F => by rw [OpenClaim.pre_eq_preRow]; exact lifted os started H enc F)
theorem plain (f : FuncId) (fn : Func) (hf : Tryd.pinned.checked.prog.funcNamed "lamplighter/lamplighterlaw11.AcceptAnswers" = some f) (hfn : Tryd.pinned.checked.prog.funcs[f]? = some fn) :
    false = Tryd.pinned.checked.prog.looks [] ∧ ∀ (j : Nat) t, fn.params[j]? = some t → Tryd.pinned.checked.prog.wantsStandIn t = false := by
  obtain rfl : f = 7 := Option.some.inj ((show Tryd.prog.funcNamed "lamplighter/lamplighterlaw11.AcceptAnswers" = some 7 by kernel_rfl).symm.trans hf) |>.symm
  obtain rfl : fn = Tryd.f7 := (Option.some.inj (Tryd.func7.symm.trans hfn)).symm
  refine ⟨by kernel_rfl, fun j t ht => ?_⟩
  rw [Tryd.params7] at ht
  have hm := Array.mem_of_getElem? ht
  have hm' : t = 26 ∨ t = 4 := by simpa using hm
  rcases hm' with rfl | rfl
  · exact (show Tryd.prog.wantsStandIn 26 = false by kernel_rfl)
  · exact (show Tryd.prog.wantsStandIn 4 = false by kernel_rfl)
theorem card : Rows.AcceptAnswersCardSaid :=
  Claim7.holds_tied_plain_at .later [] _ _ _ _ said (fun _ h => by cases h) (by kernel_rfl) (fun _ h => by cases h) acceptAnswers_row_tie rfl ⟨rfl, rfl⟩ (by kernel_rfl) rfl plain (by kernel_rfl)
#print axioms card
end Go.Proofs.YtciagecaegoppaaDoor.acceptAnswers
namespace Go.Proofs.YtciagecaegoppaaDoor
/-- The card, under a short name, for the claim. -/
theorem acceptAnswers_card : Rows.AcceptAnswersCardSaid := acceptAnswers.card
end Go.Proofs.YtciagecaegoppaaDoor
end
