/- Fields of dependencies of Dpkg, in plain words: the form and what is in it. Walks of ddep's small functions and of its reader's steps. Walks of ddep's reader: its steps. Walks of ddep's reader: until, word, relation, archs. Walks of ddep's reader: word, relation. Walks of ddep's reader: archs. -/
import Derived.Test.YtdnncbhbajciaaaDoorVerT
import Derived.Test.YtdnncbhbajciaaaDoorMem
import Derived.Deep.CutBlock
import Derived.Deep.DeepCutAuto
namespace Go.Proofs.YtdnncbhbajciaaaDoor
/-- A term. -/
structure Tm where
  name : List UInt8
  op : Int
  ver : List UInt8
  qual : List UInt8
  archs : List (List UInt8)
def vEnds : List UInt8 := [32, 44, 124, 40, 41, 91, 93]
def nEnds : List UInt8 := [32, 44, 124, 40, 41, 91, 93, 58]
def wEnds : List UInt8 := [32, 44, 124, 40, 41, 91, 93, 58, 33]
def isBl (c : UInt8) : Bool := decide (c = 32)
def skipB (r : List UInt8) : List UInt8 := past isBl r
def noEnd (e : List UInt8) (c : UInt8) : Bool := !inB e c
def upTo (e r : List UInt8) : List UInt8 := r.takeWhile (noEnd e)
def behind (e r : List UInt8) : List UInt8 := past (noEnd e) r
/-- A thing that is read: kind 0 a term begins, 1 a name, 2 a word, 3 a version; what is left from its beginning on; its text. -/
structure It where
  kind : Nat
  rest : List UInt8
  text : List UInt8
inductive Res (α : Type) where
  | bad (r : List UInt8)
  | ok (a : α) (r : List UInt8) (its : List It)
def pOp (r : List UInt8) : Int × List UInt8 := match r with
  | 61 :: t => (3, t)
  | 60 :: 60 :: t => (1, t)
  | 60 :: 61 :: t => (2, t)
  | 60 :: t => (0, t)
  | 62 :: 62 :: t => (5, t)
  | 62 :: 61 :: t => (4, t)
  | 62 :: t => (0, t)
  | r => (0, r)
def pRel2 (op : Int) (r : List UInt8) : Res (Int × List UInt8) :=
  if upTo vEnds r = [] then .bad r
  else match skipB (behind vEnds r) with
    | 41 :: t => .ok (op, upTo vEnds r) (skipB t) [⟨3, r, upTo vEnds r⟩]
    | q => .bad q
/-- What is behind a (. -/
def pRel (r : List UInt8) : Res (Int × List UInt8) :=
  if (pOp (skipB r)).1 = 0 then .bad (pOp (skipB r)).2 else pRel2 (pOp (skipB r)).1 (skipB (pOp (skipB r)).2)
def notP (r : List UInt8) : List UInt8 × List UInt8 := match r with
  | 33 :: t => ([33], t)
  | r => ([], r)
theorem skipB_len (r : List UInt8) : (skipB r).length ≤ r.length := past_len _ r
theorem notP_len (r : List UInt8) : (notP r).2.length ≤ r.length := by
  unfold notP
  split
  · simp
  · exact Nat.le_refl _
theorem past_app (p : UInt8 → Bool) (r : List UInt8) : (past p r).length + (r.takeWhile p).length = r.length := by
  unfold past; rw [List.length_drop]; have := tw_len p r; omega
theorem behind_len (e r : List UInt8) : (behind e r).length + (upTo e r).length = r.length := past_app (noEnd e) r
theorem upTo_pos (e r : List UInt8) (h : upTo e r ≠ []) : (behind e r).length < r.length := by
  have := behind_len e r
  have : 0 < (upTo e r).length := List.length_pos_iff.2 h
  omega
/-- What is behind a [ and its blanks. -/
def pArchs (r : List UInt8) (acc : List (List UInt8)) (its : List It) : Res (List (List UInt8)) :=
  if h : upTo wEnds (notP r).2 = [] then .bad (notP r).2
  else match skipB (behind wEnds (notP r).2) with
    | 93 :: t => .ok (acc ++ [(notP r).1 ++ upTo wEnds (notP r).2]) (skipB t) (its ++ [⟨2, (notP r).2, upTo wEnds (notP r).2⟩])
    | q => if (skipB (behind wEnds (notP r).2)).length = (behind wEnds (notP r).2).length then .bad q
      else pArchs (skipB (behind wEnds (notP r).2)) (acc ++ [(notP r).1 ++ upTo wEnds (notP r).2]) (its ++ [⟨2, (notP r).2, upTo wEnds (notP r).2⟩])
termination_by r.length
decreasing_by
  have h1 := skipB_len (behind wEnds (notP r).2)
  have h2 := upTo_pos wEnds (notP r).2 h
  have h3 := notP_len r
  omega
/-- A qualifier, if there is one. -/
def pQual (r : List UInt8) : Res (List UInt8) := match r with
  | 58 :: t => if upTo wEnds t = [] then .bad t else .ok (upTo wEnds t) (behind wEnds t) [⟨2, t, upTo wEnds t⟩]
  | r => .ok [] r []
def pRelQ (r : List UInt8) : Res (Int × List UInt8) := match r with
  | 40 :: t => pRel t
  | r => .ok (0, []) r []
def pArchQ (r : List UInt8) : Res (List (List UInt8)) := match r with
  | 91 :: t => pArchs (skipB t) [] []
  | r => .ok [] r []
def pTerm3 (r nm q : List UInt8) (i : List It) (op : Int) (v r2 : List UInt8) : Res Tm := match pArchQ r2 with
  | .bad b => .bad b
  | .ok a r3 i3 => .ok ⟨nm, op, v, q, a⟩ r3 (⟨0, r, []⟩ :: ⟨1, r, nm⟩ :: (i ++ i3))
def pTerm2 (r nm q : List UInt8) (i : List It) (r1 : List UInt8) : Res Tm := match pRelQ (skipB r1) with
  | .bad b => .bad b
  | .ok ov r2 i2 => pTerm3 r nm q (i ++ i2) ov.1 ov.2 r2
def pTerm1 (r nm r0 : List UInt8) : Res Tm := match pQual r0 with
  | .bad b => .bad b
  | .ok q r1 i1 => pTerm2 r nm q i1 r1
def pTerm (r : List UInt8) : Res Tm := if upTo nEnds r = [] then .bad r else pTerm1 r (upTo nEnds r) (behind nEnds r)
theorem pOp_len (r : List UInt8) : (pOp r).2.length ≤ r.length := by
  unfold pOp
  split <;> simp <;> omega
theorem pRel2_len (op : Int) (r : List UInt8) : ∀ a q i, pRel2 op r = .ok a q i → q.length ≤ r.length := by
  intro a q i h
  unfold pRel2 at h
  split at h
  · cases h
  · split at h
    · rename_i t ht
      injection h with _ h2 _
      rw [← h2]
      have h1 := skipB_len t
      have h3 := skipB_len (behind vEnds r)
      have h4 := behind_len vEnds r
      rw [ht, List.length_cons] at h3
      omega
    · cases h
theorem pRel_len (r : List UInt8) : ∀ a q i, pRel r = .ok a q i → q.length ≤ r.length := by
  intro a q i h
  unfold pRel at h
  split at h
  · cases h
  · have h1 := pRel2_len _ _ a q i h
    have h2 := skipB_len (pOp (skipB r)).2
    have h3 := pOp_len (skipB r)
    have h4 := skipB_len r
    omega
theorem pArchs_len (r : List UInt8) (acc : List (List UInt8)) (its : List It) : ∀ a q i, pArchs r acc its = .ok a q i → q.length ≤ r.length := by
  induction hn : r.length using Nat.strongRecOn generalizing r acc its with
  | ind n ih =>
    intro a q i h
    rw [pArchs] at h
    have h3 := notP_len r
    have h4 := skipB_len (behind wEnds (notP r).2)
    have h5 := behind_len wEnds (notP r).2
    split at h
    · cases h
    · rename_i hne
      have h6 := upTo_pos _ _ hne
      split at h
      · rename_i t ht
        injection h with _ h2 _
        rw [← h2]
        have h1 := skipB_len t
        rw [ht, List.length_cons] at h4
        omega
      · split at h
        · cases h
        · have := ih _ (by omega) _ _ _ rfl a q i h
          omega
theorem pQual_len (r : List UInt8) : ∀ a q i, pQual r = .ok a q i → q.length ≤ r.length := by
  intro a q i h
  unfold pQual at h
  split at h
  · rename_i t
    split at h
    · cases h
    · injection h with _ h2 _
      rw [← h2]
      have := behind_len wEnds t
      simp; omega
  · injection h with _ h2 _
    rw [← h2]; exact Nat.le_refl _
theorem pRelQ_len (r : List UInt8) : ∀ a q i, pRelQ r = .ok a q i → q.length ≤ r.length := by
  intro a q i h
  unfold pRelQ at h
  split at h
  · rename_i t
    have := pRel_len t a q i h
    simp; omega
  · injection h with _ h2 _
    rw [← h2]; exact Nat.le_refl _
theorem pArchQ_len (r : List UInt8) : ∀ a q i, pArchQ r = .ok a q i → q.length ≤ r.length := by
  intro a q i h
  unfold pArchQ at h
  split at h
  · rename_i t
    have := pArchs_len (skipB t) _ _ a q i h
    have := skipB_len t
    simp; omega
  · injection h with _ h2 _
    rw [← h2]; exact Nat.le_refl _
theorem pTerm_len (r : List UInt8) : ∀ a q i, pTerm r = .ok a q i → q.length < r.length := by
  intro a q i h
  unfold pTerm at h
  split at h
  · cases h
  · rename_i hne
    have h0 := upTo_pos nEnds r hne
    unfold pTerm1 at h
    split at h
    · cases h
    · rename_i q1 r1 i1 e1
      have h1 := pQual_len _ _ _ _ e1
      have h1' := skipB_len r1
      unfold pTerm2 at h
      split at h
      · cases h
      · rename_i ov r2 i2 e2
        have h2 := pRelQ_len _ _ _ _ e2
        unfold pTerm3 at h
        split at h
        · cases h
        · rename_i a3 r3 i3 e3
          have h3 := pArchQ_len _ _ _ _ e3
          injection h with _ h4 _
          rw [← h4]
          omega
def pGroup (r : List UInt8) (acc : List Tm) (its : List It) : Res (List Tm) :=
  match h : pTerm r with
  | .bad b => .bad b
  | .ok t r1 i => match h2 : r1 with
    | 124 :: q => pGroup (skipB q) (acc ++ [t]) (its ++ i)
    | q => .ok (acc ++ [t]) q (its ++ i)
termination_by r.length
decreasing_by
  have h1 := pTerm_len _ _ _ _ h
  have h3 := skipB_len q
  simp only [List.length_cons] at h1
  omega
theorem pGroup_bad (r : List UInt8) (acc : List Tm) (its : List It) (b : List UInt8) (h : pTerm r = .bad b) : pGroup r acc its = .bad b := by
  rw [pGroup]
  split
  · rename_i b' e; rw [h] at e; injection e with e; rw [e]
  · rename_i e; rw [h] at e; cases e
theorem pGroup_next (r : List UInt8) (acc : List Tm) (its : List It) (t : Tm) (q : List UInt8) (i : List It) (h : pTerm r = .ok t (124 :: q) i) : pGroup r acc its = pGroup (skipB q) (acc ++ [t]) (its ++ i) := by
  rw [pGroup]
  split
  · rename_i e; rw [h] at e; cases e
  · rename_i t' r1 i' e
    rw [h] at e
    injection e with e1 e2 e3
    subst e1 e2 e3
    rfl
theorem pGroup_end (r : List UInt8) (acc : List Tm) (its : List It) (t : Tm) (q : List UInt8) (i : List It) (h : pTerm r = .ok t q i) (hq : ∀ u, q ≠ 124 :: u) : pGroup r acc its = .ok (acc ++ [t]) q (its ++ i) := by
  rw [pGroup]
  split
  · rename_i e; rw [h] at e; cases e
  · rename_i t' r1 i' e
    rw [h] at e
    injection e with e1 e2 e3
    subst e1 e2 e3
    split
    · exact absurd rfl (hq _)
    · rfl
theorem pGroup_len (r : List UInt8) (acc : List Tm) (its : List It) : ∀ a q i, pGroup r acc its = .ok a q i → q.length < r.length := by
  induction hn : r.length using Nat.strongRecOn generalizing r acc its with
  | ind n ih =>
    intro a q i h
    cases ht : pTerm r with
    | bad b => rw [pGroup_bad r acc its b ht] at h; cases h
    | ok t r1 i1 =>
      have h1 := pTerm_len _ _ _ _ ht
      by_cases hd : ∃ u, r1 = 124 :: u
      · obtain ⟨u, rfl⟩ := hd
        rw [pGroup_next r acc its t u i1 ht] at h
        have h2 := skipB_len u
        rw [List.length_cons] at h1
        have := ih _ (by omega) _ _ _ rfl a q i h
        omega
      · rw [pGroup_end r acc its t r1 i1 ht (fun u e => hd ⟨u, e⟩)] at h
        injection h with _ h2 _
        rw [← h2]
        omega
def pField (r : List UInt8) (acc : List (List Tm)) (its : List It) : Res (List (List Tm)) :=
  match h : pGroup r [] [] with
  | .bad b => .bad b
  | .ok g r1 i => match h2 : r1 with
    | [] => .ok (acc ++ [g]) [] (its ++ i)
    | 44 :: q => pField (skipB q) (acc ++ [g]) (its ++ i)
    | q => .bad q
termination_by r.length
decreasing_by
  have h1 := pGroup_len _ _ _ _ _ _ h
  have h3 := skipB_len q
  simp only [List.length_cons] at h1
  omega
theorem pField_bad (r : List UInt8) (acc : List (List Tm)) (its : List It) (b : List UInt8) (h : pGroup r [] [] = .bad b) : pField r acc its = .bad b := by
  rw [pField]
  split
  · rename_i b' e; rw [h] at e; injection e with e; rw [e]
  · rename_i e; rw [h] at e; cases e
theorem pField_end (r : List UInt8) (acc : List (List Tm)) (its : List It) (g : List Tm) (i : List It) (h : pGroup r [] [] = .ok g [] i) : pField r acc its = .ok (acc ++ [g]) [] (its ++ i) := by
  rw [pField]
  split
  · rename_i e; rw [h] at e; cases e
  · rename_i t' r1 i' e
    rw [h] at e
    injection e with e1 e2 e3
    subst e1 e2 e3
    rfl
theorem pField_next (r : List UInt8) (acc : List (List Tm)) (its : List It) (g : List Tm) (q : List UInt8) (i : List It) (h : pGroup r [] [] = .ok g (44 :: q) i) : pField r acc its = pField (skipB q) (acc ++ [g]) (its ++ i) := by
  rw [pField]
  split
  · rename_i e; rw [h] at e; cases e
  · rename_i t' r1 i' e
    rw [h] at e
    injection e with e1 e2 e3
    subst e1 e2 e3
    rfl
theorem pField_no (r : List UInt8) (acc : List (List Tm)) (its : List It) (g : List Tm) (q : List UInt8) (i : List It) (h : pGroup r [] [] = .ok g q i) (h0 : q ≠ []) (h44 : ∀ u, q ≠ 44 :: u) : pField r acc its = .bad q := by
  rw [pField]
  split
  · rename_i e; rw [h] at e; cases e
  · rename_i t' r1 i' e
    rw [h] at e
    injection e with e1 e2 e3
    subst e1 e2 e3
    split
    · exact absurd rfl h0
    · exact absurd rfl (h44 _)
    · rfl
def pAll (s : List UInt8) : Res (List (List Tm)) := if skipB s = [] then .ok [] [] [] else pField (skipB s) [] []
/-- Small letters, digits and others, the first one none of these. -/
def isLow (c : UInt8) : Bool := isSmall c || isDig c
def lowB (s o : List UInt8) : Bool := s.all (fun c => isLow c || inB o c) && (match s with | [] => false | c :: _ => isLow c)
def nameB (s : List UInt8) : Bool := decide (2 ≤ s.length) && decide (s.length ≤ 64) && lowB s [43, 46, 45]
def wordB (s : List UInt8) : Bool := decide (s.length ≤ 32) && lowB s [45]
/-- What is wrong with a thing. -/
def itErr (it : It) : Int := if it.kind = 1 then (if nameB it.text = true then 0 else 10) else if it.kind = 2 then (if wordB it.text = true then 0 else 10) else if it.kind = 3 then vErr 1 it.text else 0
/-- How many terms, and the first thing that is wrong: what is left from it on, and the error (0: none). -/
structure Nt where
  terms : Nat
  rest : List UInt8
  code : Int
def Nt.note (n : Nt) (r : List UInt8) (e : Int) : Nt := if n.code = 0 ∧ e ≠ 0 then ⟨n.terms, r, e⟩ else n
def Nt.step (n : Nt) (it : It) : Nt := if it.kind = 0 then Nt.note ⟨n.terms + 1, n.rest, n.code⟩ it.rest (if 64 < n.terms + 1 then 4 else 0) else n.note it.rest (itErr it)
def Nt.all (n : Nt) (its : List It) : Nt := its.foldl Nt.step n
theorem Nt.all_app (n : Nt) (a b : List It) : n.all (a ++ b) = (n.all a).all b := by simp [Nt.all]
end Go.Proofs.YtdnncbhbajciaaaDoor
namespace Go.Proofs.YtdnncbhbajciaaaDoor
open Go.RowKit
def headLow (s : List UInt8) : Bool := match s with
  | [] => false
  | c :: _ => isLow c
theorem lowB_eq (s o : List UInt8) : lowB s o = (s.all (fun c => isLow c || inB o c) && headLow s) := by
  cases s <;> rfl
set_option maxRecDepth 20000 in
set_option maxHeartbeats 2000000 in
theorem starts_any (s : List UInt8) (w : World) : Calls Tryd.prog 89 #[.string (bs s)] w fun e w' => e = .returned (.bool (headLow s)) ∧ w = w' := by
  cases s with
  | nil =>
    have hn1 : (bs []).toList = [] := toList_bs []
    have hn2 : (bs []).toList.isEmpty = true := by rw [toList_bs]; rfl
    go_enter Tryd.func89, Tryd.ntmps89
    go_wp2_with fail
    go_ret
    exact ⟨rfl, rfl⟩
  | cons c t =>
    have hi2 : (0 : Int) < ((bs (c :: t)).size : Int) := by rw [bs_size]; simp
    have hne2 : ¬ (bs (c :: t)).toList = [] := by rw [toList_bs]; simp
    have hne : (bs (c :: t)).toList.isEmpty = false := by rw [toList_bs]; rfl
    obtain ⟨b, hb⟩ : ∃ b, b = (bs (c :: t))[0]'(by rw [bs_size]; simp) := ⟨_, rfl⟩
    have HG : Hid (isLow c = ((decide ((97 : Int) ≤ b.toNat) && decide ((b.toNat : Int) ≤ 122)) || (decide ((48 : Int) ≤ b.toNat) && decide ((b.toNat : Int) ≤ 57)))) := Lib.hid (by
      rw [hb]
      show isLow c = ((decide ((97 : Int) ≤ c.toNat) && decide ((c.toNat : Int) ≤ 122)) || (decide ((48 : Int) ≤ c.toNat) && decide ((c.toNat : Int) ≤ 57)))
      rw [isLow, isSmall, isDig, Bool.eq_iff_iff]; simp; omega)
    cases h1 : decide ((97 : Int) ≤ b.toNat) <;> cases h2 : decide ((b.toNat : Int) ≤ 122) <;> cases h3 : decide ((48 : Int) ≤ b.toNat) <;> cases h4 : decide ((b.toNat : Int) ≤ 57)
    all_goals
      have k1 := h1
      have k2 := h2
      have k3 := h3
      have k4 := h4
      rw [hb] at k1 k2 k3 k4
      have HB := Lib.hid hb
      clear hb
      rw [h1, h2, h3, h4] at HG
      clear h1 h2 h3 h4
      go_enter Tryd.func89, Tryd.ntmps89
      go_wp2_with fail
      go_ret
      exact ⟨by rw [headLow, HG.out]; rfl, rfl⟩
theorem drop_head (s : List UInt8) (k : Nat) (h : k < s.length) : headLow (s.drop k) = isLow s[k] := by rw [List.drop_eq_getElem_cons h]; rfl
set_option maxRecDepth 20000 in
set_option maxHeartbeats 2000000 in
theorem dmade_any (s o : List UInt8) (w : World) (hs : s.length ≤ 1000000000) : Calls Tryd.prog 53 #[.string (bs s), .string (bs o)] w fun e w' => e = .returned (.bool (lowB s o)) ∧ w = w' := by
  have hz : ((bs s).size : Int) = (s.length : Int) := by rw [bs_size]
  go_enter Tryd.func53, Tryd.ntmps53
  go_wp2_with fail
  go_loopg [8] s.length (fun g s8 wr => ∃ k : Nat, k ≤ s.length ∧ g = s.length - k ∧ s8 = .int .i64 k ∧ w = wr ∧ Hid (s.all (fun c => isLow c || inB o c) = (s.drop k).all (fun c => isLow c || inB o c)))
  case atStart => exact ⟨0, Nat.zero_le _, rfl, rfl, rfl, Lib.hid rfl⟩
  case round =>
    obtain ⟨k, hk, rfl, rfl, rfl, HE⟩ := hrel
    by_cases hlt : k < s.length
    · have hks : (k : Int) < ((bs s).size : Int) := by omega
      have hks2 : k < (bs s).size := by rw [bs_size]; exact hlt
      have hi1 : (0 : Int) ≤ (k : Int) := by omega
      have hi2 : (k : Int) ≤ ((bs s).size : Int) := by omega
      have HX : Hid ((bs s).extract k (bs s).size = bs (s.drop k)) := Lib.hid (by rw [ext_drop]; rfl)
      have HD := Lib.hid (drop_head s k hlt)
      have hst : (s.drop k).all (fun c => isLow c || inB o c) = ((isLow s[k] || inB o s[k]) && (s.drop (k + 1)).all (fun c => isLow c || inB o c)) := by rw [List.drop_eq_getElem_cons hlt, List.all_cons]; rfl
      have HST := Lib.hid hst
      clear hst
      go_wp2_with fail
      rw [HX.out]
      refine (starts_any (s.drop k) _).mono ?_
      rintro e wq ⟨rfl, rfl⟩
      rw [HD.out]
      cases hl : isLow s[k] with
      | true =>
        go_wp2_with fail
        go_roundg (s.length - (k + 1))
        case measure => omega
        case rel => exact ⟨k + 1, by omega, rfl, by go_num, rfl, Lib.hid (by rw [HE.out, HST.out, hl]; rfl)⟩
      | false =>
        go_wp2_with fail
        refine (ib (bs o) ((bs s)[k]'hks2) _).mono ?_
        rintro e wq ⟨rfl, rfl⟩
        rw [bs_list, show (bs s)[k]'hks2 = s[k] from rfl]
        cases hi : inB o s[k] with
        | true =>
          have hib : decide (Lib.indexByte o s[k] < 0) = false := by simp [inB] at hi; simp; omega
          go_wp2_with fail
          go_roundg (s.length - (k + 1))
          case measure => omega
          case rel => exact ⟨k + 1, by omega, rfl, by go_num, rfl, Lib.hid (by rw [HE.out, HST.out, hl, hi]; rfl)⟩
        | false =>
          have hib : decide (Lib.indexByte o s[k] < 0) = true := by simp [inB] at hi; simp; omega
          go_wp2_with fail
          go_ret
          exact ⟨by rw [lowB_eq, HE.out, HST.out, hl, hi]; rfl, rfl⟩
    · obtain rfl : k = s.length := by omega
      go_wp2_with fail
      refine (starts_any s _).mono ?_
      rintro e wq ⟨rfl, rfl⟩
      go_wp2_with fail
      go_ret
      exact ⟨by rw [lowB_eq, HE.out, List.drop_length]; rfl, rfl⟩
set_option maxHeartbeats 1000000 in
theorem dname_any (s : List UInt8) (w : World) (hs : s.length ≤ 1000000000) : Calls Tryd.prog 22 #[.string (bs s)] w fun e w' => e = .returned (.bool (nameB s)) ∧ w = w' := by
  have hz : ((bs s).size : Int) = (s.length : Int) := by rw [bs_size]
  have HV : Hid (nameB s = (decide ((2 : Int) ≤ ((bs s).size : Int)) && decide (((bs s).size : Int) ≤ 64) && lowB s [43, 46, 45])) := Lib.hid (by
    rw [nameB, hz]; congr 2 <;> (rw [Bool.eq_iff_iff]; simp; try omega))
  clear hz
  cases h1 : decide ((2 : Int) ≤ ((bs s).size : Int)) with
  | false =>
    go_enter Tryd.func22, Tryd.ntmps22
    go_wp2_with fail
    go_ret
    exact ⟨by rw [HV.out, h1]; rfl, rfl⟩
  | true =>
    cases h2 : decide (((bs s).size : Int) ≤ 64) with
    | false =>
      go_enter Tryd.func22, Tryd.ntmps22
      go_wp2_with fail
      go_ret
      exact ⟨by rw [HV.out, h1, h2]; rfl, rfl⟩
    | true =>
      go_enter Tryd.func22, Tryd.ntmps22
      go_wp2_with fail
      refine (dmade_any s [43, 46, 45] _ hs).mono ?_
      rintro e wq ⟨rfl, rfl⟩
      go_wp2_with fail
      go_ret
      exact ⟨by rw [HV.out, h1, h2]; rfl, rfl⟩
set_option maxHeartbeats 1000000 in
theorem dword_any (s : List UInt8) (w : World) (hs : s.length ≤ 1000000000) : Calls Tryd.prog 87 #[.string (bs s)] w fun e w' => e = .returned (.bool (wordB s)) ∧ w = w' := by
  have hz : ((bs s).size : Int) = (s.length : Int) := by rw [bs_size]
  have HV : Hid (wordB s = (decide (((bs s).size : Int) ≤ 32) && lowB s [45])) := Lib.hid (by
    rw [wordB, hz]; congr 1; rw [Bool.eq_iff_iff]; simp; try omega)
  clear hz
  cases h2 : decide (((bs s).size : Int) ≤ 32) with
  | false =>
    go_enter Tryd.func87, Tryd.ntmps87
    go_wp2_with fail
    go_ret
    exact ⟨by rw [HV.out, h2]; rfl, rfl⟩
  | true =>
    go_enter Tryd.func87, Tryd.ntmps87
    go_wp2_with fail
    refine (dmade_any s [45] _ hs).mono ?_
    rintro e wq ⟨rfl, rfl⟩
    go_wp2_with fail
    go_ret
    exact ⟨by rw [HV.out, h2]; rfl, rfl⟩
end Go.Proofs.YtdnncbhbajciaaaDoor
namespace Go.Proofs.YtdnncbhbajciaaaDoor
open Go.RowKit
def wAt (s : List UInt8) (n : Nt) : Int := if n.code = 0 then 0 else (s.length : Int) - n.rest.length
/-- The reader of s in block g: r is left, n was noted. -/
def Rd (w : World) (g : Nat) (s r : List UInt8) (n : Nt) : Prop :=
  ∃ k : Nat, k ≤ s.length ∧ r = s.drop k ∧ Blk w g 86 #[.string (bs s), .int .i64 k, .int .i64 n.terms, .string ⟨#[]⟩, .int .i64 (wAt s n), .int .i64 n.code]
theorem Rd.keep {X : Nat → Prop} {w w' : World} {g : Nat} {s r : List UInt8} {n : Nt} (h : Rd w g s r n) (k : Kept X w w') (hg : ¬ X g) : Rd w' g s r n := by
  obtain ⟨i, h1, h2, h3⟩ := h
  exact ⟨i, h1, h2, k.blk h3 hg⟩
/-- In memory nothing but the reader was turned. -/
abbrev Only (g : Nat) (w w' : World) : Prop := Kept (fun k => k = g) w w'
theorem Only.set {g : Nat} {a w : World} (h : Only g a w) (i : Nat) (u : Value) : Only g a (w.setCell ⟨g, i, none⟩ u) := h.setCell u fun _ => rfl
theorem skipB_cons (r : List UInt8) : skipB (32 :: r) = skipB r := by simp [skipB, past, isBl]
theorem skipB_stop (r : List UInt8) (h : ∀ t, r ≠ 32 :: t) : skipB r = r := by
  cases r with
  | nil => rfl
  | cons c t =>
    have : c ≠ 32 := fun e => h t (by rw [e])
    simp [skipB, past, isBl, this]
theorem drop_is (s : List UInt8) (k : Nat) (h : k < s.length) (h' : k < (bs s).size) : s.drop k = (bs s)[k]'h' :: s.drop (k + 1) := List.drop_eq_getElem_cons h
set_option maxRecDepth 20000 in
set_option maxHeartbeats 4000000 in
theorem blanks_any (g : Nat) (s r : List UInt8) (n : Nt) (w : World) (hs : s.length ≤ 1000000) (h : Rd w g s r n) :
    Calls Tryd.prog 92 #[.pointer (some ⟨g, 0, none⟩)] w fun e w' => e = .returned (.bool (decide ((skipB r).length < r.length))) ∧ Rd w' g s (skipB r) n ∧ Only g w w' := by
  obtain ⟨k0, hk0, rfl, hB⟩ := h
  have c1 := hB.cell 1
  simp at c1
  have hz : ((bs s).size : Int) = (s.length : Int) := by rw [bs_size]
  go_enter Tryd.func92, Tryd.ntmps92
  go_wp2_with fail
  clear c1
  go_loopg [] (s.length - k0) (fun G wr => ∃ k : Nat, k0 ≤ k ∧ k ≤ s.length ∧ G = s.length - k ∧ Blk wr g 86 #[.string (bs s), .int .i64 k, .int .i64 n.terms, .string ⟨#[]⟩, .int .i64 (wAt s n), .int .i64 n.code] ∧ Only g w wr ∧ Hid (skipB (s.drop k0) = skipB (s.drop k)))
  case atStart => exact ⟨k0, Nat.le_refl _, hk0, rfl, hB, Kept.refl _ _, Lib.hid rfl⟩
  case round =>
    clear hB
    obtain ⟨k, hk1, hk, rfl, hB, hO, HE⟩ := hrel
    have c0 := hB.cell 0
    have c1 := hB.cell 1
    have f1 := hB.free 1
    simp at c0 c1
    by_cases hlt : k < s.length
    · have hks : (k : Int) < ((bs s).size : Int) := by omega
      have hks2 : k < (bs s).size := by rw [bs_size]; exact hlt
      have hi1 : (0 : Int) ≤ (k : Int) := by omega
      have hd1 : decide ((k : Int) < ((bs s).size : Int)) = true := by simpa using hks
      have HD := Lib.hid (drop_is s k hlt hks2)
      by_cases hc : (bs s)[k]'hks2 = 32
      · have hb : ((((bs s)[k]'hks2).toNat : Int) == 32) = true := (beq_byte _ 32).trans (by simpa using hc)
        have HE2 : Hid (skipB (s.drop k0) = skipB (s.drop (k + 1))) := Lib.hid (by rw [HE.out, HD.out, hc, skipB_cons])
        clear hc
        go_wp2_with fail
        refine wp_region_plan (fun W => W.cell? ⟨g, 0, none⟩ = some (.string (bs s)) ∧ W.cell? ⟨g, 1, none⟩ = some (.int .i64 k)) [(false, 0), (false, 1), (false, 2), (false, 3), (false, 4), (false, 5), (false, 6), (false, 7), (false, 8), (false, 9), (false, 10), (false, 11), (false, 12), (false, 13), (false, 14), (false, 15), (false, 16), (false, 17), (false, 18), (false, 19), (false, 20), (false, 21)] (by kernel_rfl) (by kernel_rfl) (⟨by simpa using c0, by simpa using c1⟩) ?_
        simp only [planOps, List.map, List.getD_cons_zero, List.getD_cons_succ]
        iterate 22 ((first | refine plan_quiet_guarded (v := ?_) rfl (fun w' hw' => ?_) ?_ | refine plan_calm_guarded (v := ?_) (tt_of) (fun w' hw' => ?_) ?_); rotate_left; (focus (go_simp <;> with_reducible rfl)); simp only [Act.put, List.setIfInBounds_toArray, List.set_cons_zero, List.set_cons_succ])
        refine plan_end ?_
        go_wp2_with fail
        go_roundg (s.length - (k + 1))
        case measure => omega
        case rel =>
          refine ⟨k + 1, by omega, by omega, rfl, ?_, (Only.set hO 1 _).drew, HE2⟩
          have := (hB.set (u := .int .i64 ((k : Int) + 1)) 1).drew
          simpa using this
      · have hb : ((((bs s)[k]'hks2).toNat : Int) == 32) = false := (beq_byte _ 32).trans (by simpa using hc)
        have HE2 : Hid (skipB (s.drop k0) = s.drop k) := Lib.hid (by rw [HE.out, skipB_stop _ (fun t e => hc (by rw [HD.out] at e; injection e))])
        clear hc
        go_wp2_with fail
        refine wp_region_plan (fun W => W.cell? ⟨g, 0, none⟩ = some (.string (bs s)) ∧ W.cell? ⟨g, 1, none⟩ = some (.int .i64 k)) [(false, 0), (false, 1), (false, 2), (false, 3), (false, 4), (false, 5), (false, 6), (false, 7), (false, 8), (false, 9), (false, 10), (false, 11), (false, 12), (false, 13), (false, 14), (false, 15), (false, 16), (false, 17), (false, 18), (false, 19), (false, 20), (false, 21)] (by kernel_rfl) (by kernel_rfl) (⟨by simpa using c0, by simpa using c1⟩) ?_
        simp only [planOps, List.map, List.getD_cons_zero, List.getD_cons_succ]
        iterate 22 ((first | refine plan_quiet_guarded (v := ?_) rfl (fun w' hw' => ?_) ?_ | refine plan_calm_guarded (v := ?_) (tt_of) (fun w' hw' => ?_) ?_); rotate_left; (focus (go_simp <;> with_reducible rfl)); simp only [Act.put, List.setIfInBounds_toArray, List.set_cons_zero, List.set_cons_succ])
        refine plan_end ?_
        go_wp2_with fail
        go_ret
        refine ⟨?_, ⟨k, hk, HE2.out, hB.drew⟩, hO.drew⟩
        rw [HE2.out, List.length_drop, List.length_drop]
        show Ending.returned (.bool (decide (k0 < k))) = _
        congr 3
        rw [eq_iff_iff]; omega
    · obtain rfl : k = s.length := by omega
      have hd1 : decide ((s.length : Int) < ((bs s).size : Int)) = false := by rw [hz]; simp
      have HE2 : Hid (skipB (s.drop k0) = s.drop s.length) := Lib.hid (by rw [HE.out, List.drop_length]; rfl)
      go_wp2_with fail
      refine wp_region_plan (fun W => W.cell? ⟨g, 0, none⟩ = some (.string (bs s)) ∧ W.cell? ⟨g, 1, none⟩ = some (.int .i64 s.length)) [(false, 0), (false, 1), (false, 2), (false, 3), (false, 4), (false, 5), (false, 6), (false, 7), (false, 8), (false, 9), (false, 10), (false, 11), (false, 12), (false, 13), (false, 14), (false, 15), (false, 16), (false, 17), (false, 18), (false, 19), (false, 20), (false, 21)] (by kernel_rfl) (by kernel_rfl) (⟨by simpa using c0, by simpa using c1⟩) ?_
      simp only [planOps, List.map, List.getD_cons_zero, List.getD_cons_succ]
      iterate 22 ((first | refine plan_quiet_guarded (v := ?_) rfl (fun w' hw' => ?_) ?_ | refine plan_calm_guarded (v := ?_) (tt_of) (fun w' hw' => ?_) ?_); rotate_left; (focus (go_simp <;> with_reducible rfl)); simp only [Act.put, List.setIfInBounds_toArray, List.set_cons_zero, List.set_cons_succ])
      refine plan_end ?_
      go_wp2_with fail
      go_ret
      refine ⟨?_, ⟨s.length, Nat.le_refl _, HE2.out, hB.drew⟩, hO.drew⟩
      rw [HE2.out, List.length_drop, List.length_drop]
      show Ending.returned (.bool (decide (k0 < s.length))) = _
      congr 3
      rw [eq_iff_iff]; omega
/-- What is left behind a sign, if it stands there. -/
def signR (c : UInt8) (r : List UInt8) : List UInt8 := if hasB r c = true then r.tail else r
theorem hasB_drop (s : List UInt8) (c : UInt8) (k : Nat) (h : k < s.length) (h' : k < (bs s).size) : hasB (s.drop k) c = decide ((bs s)[k]'h' = c) := by rw [drop_is s k h h']; rfl
set_option maxRecDepth 20000 in
set_option maxHeartbeats 4000000 in
theorem sign_any (c : UInt8) (g : Nat) (s r : List UInt8) (n : Nt) (w : World) (hs : s.length ≤ 1000000) (h : Rd w g s r n) :
    Calls Tryd.prog 94 #[.pointer (some ⟨g, 0, none⟩), .int .u8 (c.toNat : Int)] w fun e w' => e = .returned (.bool (hasB r c)) ∧ Rd w' g s (signR c r) n ∧ Only g w w' := by
  obtain ⟨k, hk, rfl, hB⟩ := h
  have c0 := hB.cell 0
  have c1 := hB.cell 1
  have f1 := hB.free 1
  simp at c0 c1
  have hz : ((bs s).size : Int) = (s.length : Int) := by rw [bs_size]
  by_cases hlt : k < s.length
  · have hks : (k : Int) < ((bs s).size : Int) := by omega
    have hks2 : k < (bs s).size := by rw [bs_size]; exact hlt
    have hi1 : (0 : Int) ≤ (k : Int) := by omega
    have hd1 : decide ((k : Int) < ((bs s).size : Int)) = true := by simpa using hks
    have HD := Lib.hid (hasB_drop s c k hlt hks2)
    by_cases hc : (bs s)[k]'hks2 = c
    · have hb : ((((bs s)[k]'hks2).toNat : Int) == (c.toNat : Int)) = true := (beq_byte _ c).trans (by simpa using hc)
      have HV : Hid (hasB (s.drop k) c = true) := Lib.hid (by rw [HD.out]; simpa using hc)
      clear hc
      go_enter Tryd.func94, Tryd.ntmps94
      go_wp2_with fail
      refine wp_region_plan (fun W => W.cell? ⟨g, 0, none⟩ = some (.string (bs s)) ∧ W.cell? ⟨g, 1, none⟩ = some (.int .i64 k)) [(false, 0), (false, 1), (false, 2), (false, 3), (false, 4), (false, 5), (false, 6), (false, 7), (false, 8), (false, 9), (false, 10), (false, 11), (false, 12), (false, 13), (false, 14), (false, 15), (false, 16), (false, 17), (false, 18), (false, 19), (false, 20), (false, 21), (false, 22)] (by kernel_rfl) (by kernel_rfl) (⟨by simpa using c0, by simpa using c1⟩) ?_
      simp only [planOps, List.map, List.getD_cons_zero, List.getD_cons_succ]
      iterate 23 ((first | refine plan_quiet_guarded (v := ?_) rfl (fun w' hw' => ?_) ?_ | refine plan_calm_guarded (v := ?_) (tt_of) (fun w' hw' => ?_) ?_); rotate_left; (focus (go_simp <;> with_reducible rfl)); simp only [Act.put, List.setIfInBounds_toArray, List.set_cons_zero, List.set_cons_succ])
      refine plan_end ?_
      go_wp2_with fail
      go_ret
      refine ⟨by rw [HV.out]; rfl, ⟨k + 1, by omega, by rw [signR, if_pos HV.out, List.tail_drop], ?_⟩, (Only.set (Kept.refl _ _) 1 _).drew⟩
      have := (hB.set (u := .int .i64 ((k : Int) + 1)) 1).drew
      simpa using this
    · have hb : ((((bs s)[k]'hks2).toNat : Int) == (c.toNat : Int)) = false := (beq_byte _ c).trans (by simpa using hc)
      have HV : Hid (hasB (s.drop k) c = false) := Lib.hid (by rw [HD.out]; simpa using hc)
      clear hc
      go_enter Tryd.func94, Tryd.ntmps94
      go_wp2_with fail
      refine wp_region_plan (fun W => W.cell? ⟨g, 0, none⟩ = some (.string (bs s)) ∧ W.cell? ⟨g, 1, none⟩ = some (.int .i64 k)) [(false, 0), (false, 1), (false, 2), (false, 3), (false, 4), (false, 5), (false, 6), (false, 7), (false, 8), (false, 9), (false, 10), (false, 11), (false, 12), (false, 13), (false, 14), (false, 15), (false, 16), (false, 17), (false, 18), (false, 19), (false, 20), (false, 21), (false, 22)] (by kernel_rfl) (by kernel_rfl) (⟨by simpa using c0, by simpa using c1⟩) ?_
      simp only [planOps, List.map, List.getD_cons_zero, List.getD_cons_succ]
      iterate 23 ((first | refine plan_quiet_guarded (v := ?_) rfl (fun w' hw' => ?_) ?_ | refine plan_calm_guarded (v := ?_) (tt_of) (fun w' hw' => ?_) ?_); rotate_left; (focus (go_simp <;> with_reducible rfl)); simp only [Act.put, List.setIfInBounds_toArray, List.set_cons_zero, List.set_cons_succ])
      refine plan_end ?_
      go_wp2_with fail
      go_ret
      exact ⟨by rw [HV.out]; rfl, ⟨k, by omega, by rw [signR, if_neg (by rw [HV.out]; simp)], hB.drew⟩, (Kept.refl _ _).drew⟩
  · obtain rfl : k = s.length := by omega
    have hd1 : decide ((s.length : Int) < ((bs s).size : Int)) = false := by rw [hz]; simp
    have HV : Hid (hasB (s.drop s.length) c = false) := Lib.hid (by rw [List.drop_length]; rfl)
    go_enter Tryd.func94, Tryd.ntmps94
    go_wp2_with fail
    refine wp_region_plan (fun W => W.cell? ⟨g, 0, none⟩ = some (.string (bs s)) ∧ W.cell? ⟨g, 1, none⟩ = some (.int .i64 s.length)) [(false, 0), (false, 1), (false, 2), (false, 3), (false, 4), (false, 5), (false, 6), (false, 7), (false, 8), (false, 9), (false, 10), (false, 11), (false, 12), (false, 13), (false, 14), (false, 15), (false, 16), (false, 17), (false, 18), (false, 19), (false, 20), (false, 21), (false, 22)] (by kernel_rfl) (by kernel_rfl) (⟨by simpa using c0, by simpa using c1⟩) ?_
    simp only [planOps, List.map, List.getD_cons_zero, List.getD_cons_succ]
    iterate 23 ((first | refine plan_quiet_guarded (v := ?_) rfl (fun w' hw' => ?_) ?_ | refine plan_calm_guarded (v := ?_) (tt_of) (fun w' hw' => ?_) ?_); rotate_left; (focus (go_simp <;> with_reducible rfl)); simp only [Act.put, List.setIfInBounds_toArray, List.set_cons_zero, List.set_cons_succ])
    refine plan_end ?_
    go_wp2_with fail
    go_ret
    exact ⟨by rw [HV.out]; rfl, ⟨s.length, by omega, by rw [signR, if_neg (by rw [HV.out]; simp)], hB.drew⟩, (Kept.refl _ _).drew⟩
theorem wAt_note (s : List UInt8) (n : Nt) (r : List UInt8) (e : Int) (h : n.code = 0 ∧ e ≠ 0) : wAt s (n.note r e) = (s.length : Int) - r.length ∧ (n.note r e).code = e ∧ (n.note r e).terms = n.terms := by
  rw [Nt.note, if_pos h]
  exact ⟨by rw [wAt, if_neg h.2], rfl, rfl⟩
set_option maxRecDepth 20000 in
set_option maxHeartbeats 4000000 in
theorem note_any (q : List UInt8) (code : Int) (g : Nat) (s r : List UInt8) (n : Nt) (w : World) (hq : q.length ≤ s.length) (h : Rd w g s r n) :
    Calls Tryd.prog 139 #[.pointer (some ⟨g, 0, none⟩), .int .i64 ((s.length : Int) - q.length), .int .i64 code] w fun e w' => e = .returned (.tuple #[]) ∧ Rd w' g s r (n.note q code) ∧ Only g w w' := by
  obtain ⟨k, hk, rfl, hB⟩ := h
  have c3 := hB.cell 3
  have c4 := hB.cell 4
  have c5 := hB.cell 5
  have f3 := hB.free 3
  have f4 := hB.free 4
  have f5 := hB.free 5
  simp at c3 c4 c5
  obtain ⟨m, Hm⟩ : ∃ m, Hid (n.code = m) := ⟨_, Lib.hid rfl⟩
  rw [Hm.out] at c5
  by_cases h0 : m = 0
  · subst h0
    by_cases he : code = 0
    · have HN : Hid (n.note q code = n) := Lib.hid (by rw [Nt.note, if_neg (fun h => h.2 he)])
      have hb : (code != 0) = false := by simpa using he
      clear he
      go_enter Tryd.func139, Tryd.ntmps139
      go_wp2_with fail
      go_end0
      exact ⟨rfl, ⟨k, hk, rfl, by rw [HN.out]; exact hB⟩, Kept.refl _ _⟩
    · have hb : (code != 0) = true := by simpa using he
      have HN := Lib.hid (wAt_note s n q code ⟨Hm.out, he⟩)
      clear he
      go_enter Tryd.func139, Tryd.ntmps139
      go_wp2_with fail
      go_end0
      refine ⟨rfl, ⟨k, hk, rfl, ?_⟩, Only.set (Only.set (Only.set (Kept.refl _ _) 3 _) 4 _) 5 _⟩
      rw [HN.out.1, HN.out.2.1, HN.out.2.2]
      have := ((hB.set (u := .string ⟨#[]⟩) 3).set (u := .int .i64 ((s.length : Int) - q.length)) 4).set (u := .int .i64 code) 5
      simpa using this
  · have hb : (m == 0) = false := by simpa using h0
    have HN : Hid (n.note q code = n) := Lib.hid (by rw [Nt.note, if_neg (fun h => h0 (by rw [← Hm.out]; exact h.1))])
    clear h0
    go_enter Tryd.func139, Tryd.ntmps139
    go_wp2_with fail
    go_end0
    exact ⟨rfl, ⟨k, hk, rfl, by rw [HN.out]; exact hB⟩, Kept.refl _ _⟩
end Go.Proofs.YtdnncbhbajciaaaDoor
namespace Go.Proofs.YtdnncbhbajciaaaDoor
open Go.RowKit
theorem upTo_cons (e : List UInt8) (c : UInt8) (t : List UInt8) (h : inB e c = false) : upTo e (c :: t) = c :: upTo e t ∧ behind e (c :: t) = behind e t := by
  have : noEnd e c = true := by simp [noEnd, h]
  exact ⟨by simp [upTo, List.takeWhile_cons, this], by simp [behind, past, List.takeWhile_cons, this]⟩
theorem upTo_stop (e : List UInt8) (c : UInt8) (t : List UInt8) (h : inB e c = true) : upTo e (c :: t) = [] ∧ behind e (c :: t) = c :: t := by
  have : noEnd e c = false := by simp [noEnd, h]
  exact ⟨by simp [upTo, List.takeWhile_cons, this], by simp [behind, past, List.takeWhile_cons, this]⟩
set_option maxRecDepth 20000 in
set_option maxHeartbeats 8000000 in
theorem until_any (e : List UInt8) (g : Nat) (s r : List UInt8) (n : Nt) (w : World) (hs : s.length ≤ 1000000) (h : Rd w g s r n) :
    Calls Tryd.prog 138 #[.pointer (some ⟨g, 0, none⟩), .string (bs e)] w fun en w' => en = .returned (.tuple #[.string (bs (upTo e r)), .bool (!(upTo e r).isEmpty)]) ∧ Rd w' g s (behind e r) n ∧ Only g w w' := by
  obtain ⟨k0, hk0, rfl, hB⟩ := h
  have c1 := hB.cell 1
  simp at c1
  have hz : ((bs s).size : Int) = (s.length : Int) := by rw [bs_size]
  go_enter Tryd.func138, Tryd.ntmps138
  go_wp2_with fail
  clear c1
  go_loopg [] (s.length - k0) (fun G wr => ∃ k : Nat, k0 ≤ k ∧ k ≤ s.length ∧ G = s.length - k ∧ Blk wr g 86 #[.string (bs s), .int .i64 k, .int .i64 n.terms, .string ⟨#[]⟩, .int .i64 (wAt s n), .int .i64 n.code] ∧ Only g w wr ∧ Hid ((upTo e (s.drop k0)).length = (k - k0) + (upTo e (s.drop k)).length ∧ behind e (s.drop k0) = behind e (s.drop k)))
  case atStart => exact ⟨k0, Nat.le_refl _, hk0, rfl, hB, Kept.refl _ _, Lib.hid ⟨by omega, rfl⟩⟩
  case round =>
    clear hB
    obtain ⟨k, hk1, hk, rfl, hB, hO, HE⟩ := hrel
    have c0 := hB.cell 0
    have c1 := hB.cell 1
    have f1 := hB.free 1
    simp at c0 c1
    have fin : (upTo e (s.drop k)).length = 0 → behind e (s.drop k) = s.drop k → Hid ((bs s).extract k0 k = bs (upTo e (s.drop k0)) ∧ behind e (s.drop k0) = s.drop k ∧ (!(upTo e (s.drop k0)).isEmpty) = decide (k0 < k)) := fun h1 h2 => Lib.hid (by
      have hl := HE.out.1
      rw [h1, Nat.add_zero] at hl
      refine ⟨?_, by rw [HE.out.2, h2], ?_⟩
      · rw [ext_mid, ← hl, show (s.drop k0).take (upTo e (s.drop k0)).length = upTo e (s.drop k0) from take_tw _ _]
      · cases hu : upTo e (s.drop k0) with
        | nil => rw [hu] at hl; simp at hl; simp; omega
        | cons a b => rw [hu] at hl; simp at hl; simp; omega)
    by_cases hlt : k < s.length
    · have hks : (k : Int) < ((bs s).size : Int) := by omega
      have hks2 : k < (bs s).size := by rw [bs_size]; exact hlt
      have hi1 : (0 : Int) ≤ (k : Int) := by omega
      have hd1 : decide ((k : Int) < ((bs s).size : Int)) = true := by simpa using hks
      have HD := Lib.hid (drop_is s k hlt hks2)
      have Hfin := Lib.hid fin
      clear fin
      cases hin : inB e ((bs s)[k]'hks2) with
      | false =>
        have hib : decide (Lib.indexByte e ((bs s)[k]'hks2) < 0) = true := by simp [inB] at hin; simp; omega
        have HE2 : Hid ((upTo e (s.drop k0)).length = (k + 1 - k0) + (upTo e (s.drop (k + 1))).length ∧ behind e (s.drop k0) = behind e (s.drop (k + 1))) := Lib.hid (by
          have hc := upTo_cons e _ (s.drop (k + 1)) hin
          rw [HE.out.1, HE.out.2, HD.out, hc.1, hc.2, List.length_cons]
          exact ⟨by omega, rfl⟩)
        clear hin
        go_wp2_with fail
        refine wp_region_plan (fun W => W.cell? ⟨g, 0, none⟩ = some (.string (bs s)) ∧ W.cell? ⟨g, 1, none⟩ = some (.int .i64 k)) [(false, 0), (false, 1), (false, 2), (false, 3), (false, 4), (false, 5), (false, 6), (false, 7), (false, 8), (false, 9), (false, 10), (false, 11), (false, 12), (false, 13), (false, 14), (false, 15), (false, 16), (false, 17), (false, 18), (false, 19), (false, 20), (false, 21), (false, 22), (false, 23)] (by kernel_rfl) (by kernel_rfl) (⟨by simpa using c0, by simpa using c1⟩) ?_
        simp only [planOps, List.map, List.getD_cons_zero, List.getD_cons_succ]
        iterate 24 ((first | refine plan_quiet_guarded (v := ?_) rfl (fun w' hw' => ?_) ?_ | refine plan_calm_guarded (v := ?_) (tt_of) (fun w' hw' => ?_) ?_); rotate_left; (focus (go_simp <;> (first | with_reducible rfl | (refine (ib (bs e) ((bs s)[k]'hks2) _).mono ?_; rintro e w2 ⟨rfl, rfl⟩; constructor <;> with_reducible rfl)))); simp only [Act.put, List.setIfInBounds_toArray, List.set_cons_zero, List.set_cons_succ])
        refine plan_end ?_
        rw [bs_list, hib]
        go_wp2_with fail
        go_roundg (s.length - (k + 1))
        case measure => omega
        case rel =>
          refine ⟨k + 1, by omega, by omega, rfl, ?_, (Only.set hO 1 _).drew, HE2⟩
          have := (hB.set (u := .int .i64 ((k : Int) + 1)) 1).drew
          simpa using this
      | true =>
        have hib : decide (Lib.indexByte e ((bs s)[k]'hks2) < 0) = false := by simp [inB] at hin; simp; omega
        have HF := Hfin.out (by rw [HD.out, (upTo_stop e _ _ hin).1]; rfl) (by rw [HD.out, (upTo_stop e _ _ hin).2])
        clear hin Hfin
        have hj1 : (0 : Int) ≤ (k0 : Int) := by omega
        have hj2 : (k0 : Int) ≤ (k : Int) := by omega
        have hj3 : (k : Int) ≤ ((bs s).size : Int) := by omega
        go_wp2_with fail
        refine wp_region_plan (fun W => W.cell? ⟨g, 0, none⟩ = some (.string (bs s)) ∧ W.cell? ⟨g, 1, none⟩ = some (.int .i64 k)) [(false, 0), (false, 1), (false, 2), (false, 3), (false, 4), (false, 5), (false, 6), (false, 7), (false, 8), (false, 9), (false, 10), (false, 11), (false, 12), (false, 13), (false, 14), (false, 15), (false, 16), (false, 17), (false, 18), (false, 19), (false, 20), (false, 21), (false, 22), (false, 23)] (by kernel_rfl) (by kernel_rfl) (⟨by simpa using c0, by simpa using c1⟩) ?_
        simp only [planOps, List.map, List.getD_cons_zero, List.getD_cons_succ]
        iterate 24 ((first | refine plan_quiet_guarded (v := ?_) rfl (fun w' hw' => ?_) ?_ | refine plan_calm_guarded (v := ?_) (tt_of) (fun w' hw' => ?_) ?_); rotate_left; (focus (go_simp <;> (first | with_reducible rfl | (refine (ib (bs e) ((bs s)[k]'hks2) _).mono ?_; rintro e w2 ⟨rfl, rfl⟩; constructor <;> with_reducible rfl)))); simp only [Act.put, List.setIfInBounds_toArray, List.set_cons_zero, List.set_cons_succ])
        refine plan_end ?_
        rw [bs_list, hib]
        go_wp2_with fail
        refine wp_region_plan (fun W => W.cell? ⟨g, 0, none⟩ = some (.string (bs s)) ∧ W.cell? ⟨g, 1, none⟩ = some (.int .i64 k)) [(false, 0), (false, 1), (false, 2), (false, 3), (false, 4), (false, 5), (false, 6), (false, 7), (false, 8), (false, 9), (false, 10), (false, 11), (false, 12), (false, 13), (false, 14), (false, 15), (false, 16), (false, 17)] (by kernel_rfl) (by kernel_rfl) (⟨by simpa using c0, by simpa using c1⟩) ?_
        simp only [planOps, List.map, List.getD_cons_zero, List.getD_cons_succ]
        iterate 18 ((first | refine plan_quiet (v := ?_) rfl rfl (fun w' hw' => ?_) ?_ | refine plan_calm (v := ?_) (tt_of) rfl (fun w' hw' => ?_) ?_); rotate_left; (focus (go_simp <;> with_reducible rfl)); simp only [Act.put, List.setIfInBounds_toArray, List.set_cons_zero, List.set_cons_succ])
        refine plan_end ?_
        go_wp2_with fail
        go_ret2
        refine ⟨?_, ⟨k, hk, HF.out.2.1, hB.drew⟩, hO.drew.drew⟩
        rw [HF.out.2.2, ← HF.out.1]
        show Ending.returned (.tuple #[.string ((bs s).extract k0 k), .bool (decide (k0 < k))]) = _
        rfl
    · obtain rfl : k = s.length := by omega
      have hd1 : decide ((s.length : Int) < ((bs s).size : Int)) = false := by rw [hz]; simp
      have HF := fin (by rw [List.drop_length]; rfl) (by rw [List.drop_length]; rfl)
      clear fin
      have hj1 : (0 : Int) ≤ (k0 : Int) := by omega
      have hj2 : (k0 : Int) ≤ (s.length : Int) := by omega
      have hj3 : (s.length : Int) ≤ ((bs s).size : Int) := by omega
      go_wp2_with fail
      refine wp_region_plan (fun W => W.cell? ⟨g, 0, none⟩ = some (.string (bs s)) ∧ W.cell? ⟨g, 1, none⟩ = some (.int .i64 s.length)) [(false, 0), (false, 1), (false, 2), (false, 3), (false, 4), (false, 5), (false, 6), (false, 7), (false, 8), (false, 9), (false, 10), (false, 11), (false, 12), (false, 13), (false, 14), (false, 15), (false, 16), (false, 17), (false, 18), (false, 19), (false, 20), (false, 21), (false, 22), (false, 23)] (by kernel_rfl) (by kernel_rfl) (⟨by simpa using c0, by simpa using c1⟩) ?_
      simp only [planOps, List.map, List.getD_cons_zero, List.getD_cons_succ]
      iterate 24 ((first | refine plan_quiet_guarded (v := ?_) rfl (fun w' hw' => ?_) ?_ | refine plan_calm_guarded (v := ?_) (tt_of) (fun w' hw' => ?_) ?_); rotate_left; (focus (go_simp <;> (first | with_reducible rfl | (refine (ib (bs e) _ _).mono ?_; rintro e w2 ⟨rfl, rfl⟩; constructor <;> with_reducible rfl)))); simp only [Act.put, List.setIfInBounds_toArray, List.set_cons_zero, List.set_cons_succ])
      refine plan_end ?_
      go_wp2_with fail
      refine wp_region_plan (fun W => W.cell? ⟨g, 0, none⟩ = some (.string (bs s)) ∧ W.cell? ⟨g, 1, none⟩ = some (.int .i64 s.length)) [(false, 0), (false, 1), (false, 2), (false, 3), (false, 4), (false, 5), (false, 6), (false, 7), (false, 8), (false, 9), (false, 10), (false, 11), (false, 12), (false, 13), (false, 14), (false, 15), (false, 16), (false, 17)] (by kernel_rfl) (by kernel_rfl) (⟨by simpa using c0, by simpa using c1⟩) ?_
      simp only [planOps, List.map, List.getD_cons_zero, List.getD_cons_succ]
      iterate 18 ((first | refine plan_quiet (v := ?_) rfl rfl (fun w' hw' => ?_) ?_ | refine plan_calm (v := ?_) (tt_of) rfl (fun w' hw' => ?_) ?_); rotate_left; (focus (go_simp <;> with_reducible rfl)); simp only [Act.put, List.setIfInBounds_toArray, List.set_cons_zero, List.set_cons_succ])
      refine plan_end ?_
      go_wp2_with fail
      go_ret2
      refine ⟨?_, ⟨s.length, hk, HF.out.2.1, hB.drew⟩, hO.drew.drew⟩
      rw [HF.out.2.2, ← HF.out.1]
      rfl
end Go.Proofs.YtdnncbhbajciaaaDoor
namespace Go.Proofs.YtdnncbhbajciaaaDoor
open Go.RowKit
theorem note_at (k : Nat) (q : List UInt8) (code : Int) (g : Nat) (s r : List UInt8) (n : Nt) (w : World) (hk : k + q.length = s.length) (h : Rd w g s r n) :
    Calls Tryd.prog 139 #[.pointer (some ⟨g, 0, none⟩), .int .i64 (k : Int), .int .i64 code] w fun e w' => e = .returned (.tuple #[]) ∧ Rd w' g s r (n.note q code) ∧ Only g w w' := by
  have := note_any q code g s r n w (by omega) h
  rw [show (s.length : Int) - q.length = k by omega] at this
  exact this
theorem Rd.at {w : World} {g : Nat} {s r : List UInt8} {n : Nt} (h : Rd w g s r n) : ∃ k : Nat, k + r.length = s.length ∧ w.cell? ⟨g, 1, none⟩ = some (.int .i64 k) := by
  obtain ⟨k, hk, rfl, hB⟩ := h
  exact ⟨k, by rw [List.length_drop]; omega, by simpa using hB.cell 1⟩
theorem Rd.len {w : World} {g : Nat} {s r : List UInt8} {n : Nt} (h : Rd w g s r n) : r.length ≤ s.length := by
  obtain ⟨k, hk, _⟩ := h.at
  omega
/-- What was noted behind a word. -/
def wordN (n : Nt) (r : List UInt8) : Nt := if upTo wEnds r = [] then n else n.step ⟨2, r, upTo wEnds r⟩
theorem step2 (n : Nt) (r q : List UInt8) : n.step ⟨2, r, q⟩ = n.note r (if wordB q = true then 0 else 10) := rfl
theorem step3 (n : Nt) (r q : List UInt8) : n.step ⟨3, r, q⟩ = n.note r (vErr 1 q) := rfl
theorem note0 (n : Nt) (r : List UInt8) : n.note r 0 = n := by rw [Nt.note, if_neg (fun h => h.2 rfl)]
set_option maxRecDepth 20000 in
set_option maxHeartbeats 4000000 in
theorem rword_any (g : Nat) (s r : List UInt8) (n : Nt) (w : World) (hs : s.length ≤ 1000000) (h : Rd w g s r n) :
    Calls Tryd.prog 140 #[.pointer (some ⟨g, 0, none⟩)] w fun en w' => en = .returned (.tuple #[.string (bs (upTo wEnds r)), .bool (!(upTo wEnds r).isEmpty)]) ∧ Rd w' g s (behind wEnds r) (wordN n r) ∧ Only g w w' := by
  obtain ⟨k, hk, hc⟩ := h.at
  have hul := behind_len wEnds r
  go_enter Tryd.func140, Tryd.ntmps140
  go_wp2_with fail
  refine (until_any wEnds g s r n _ hs h).mono ?_
  rintro e w1 ⟨rfl, hR1, hO1⟩
  clear hc
  obtain ⟨q, Hq⟩ : ∃ q, Hid (upTo wEnds r = q) := ⟨_, Lib.hid rfl⟩
  have HN : Hid (wordN n r = if q = [] then n else n.step ⟨2, r, q⟩) := Lib.hid (by rw [wordN, Hq.out])
  rw [Hq.out] at hul
  rw [Hq.out]
  by_cases h0 : q = []
  · have hb : q.isEmpty = true := by simpa using h0
    rw [hb]
    go_wp2_with fail
    go_ret2
    exact ⟨by rw [Hq.out, h0]; rfl, by rw [HN.out, if_pos h0]; exact hR1, hO1⟩
  · have hb : q.isEmpty = false := by simpa using h0
    rw [hb]
    have HN2 : Hid (wordN n r = n.note r (if wordB q = true then 0 else 10)) := Lib.hid (by rw [HN.out, if_neg h0, step2])
    have HB := Lib.hid hb
    clear h0 hb HN
    go_wp2_with fail
    refine (dword_any q _ (by omega)).mono ?_
    rintro e wq ⟨rfl, rfl⟩
    cases hw : wordB q with
    | true =>
      go_wp2_with fail
      go_ret2
      exact ⟨by rw [Hq.out, HB.out]; rfl, by rw [HN2.out, hw, if_pos rfl, note0]; exact hR1, hO1⟩
    | false =>
      go_wp2_with fail
      refine (note_at k r 10 g s _ n _ hk hR1).mono ?_
      rintro e w2 ⟨rfl, hR2, hO2⟩
      go_wp2_with fail
      go_ret2
      exact ⟨by rw [Hq.out, HB.out]; rfl, by rw [HN2.out, hw]; exact hR2, hO1.trans hO2⟩
/-- The words' table lies elsewhere. -/
theorem Words.kept {X : Nat → Prop} {w w' : World} (h : Words w) (k : Kept X w w') (hg : ¬ X 2) : Words w' := fun i hi => k.cell (h i hi) hg
/-- What reading a relation gives. -/
def RelR (g : Nat) (s : List UInt8) (n : Nt) (w : World) (x : Res (Int × List UInt8)) (e : Ending) (w' : World) : Prop := match x with
  | .bad b => (∃ n', Rd w' g s b n') ∧ e = .returned (.tuple #[.int .i64 0, .string (bs []), .bool false]) ∧ Only g w w'
  | .ok v q its => e = .returned (.tuple #[.int .i64 v.1, .string (bs v.2), .bool true]) ∧ Rd w' g s q (n.all its) ∧ Only g w w'
theorem hasB_is (r : List UInt8) (c : UInt8) : (∃ t, r = c :: t ∧ hasB r c = true ∧ signR c r = t) ∨ (hasB r c = false ∧ signR c r = r ∧ ∀ t, r ≠ c :: t) := by
  by_cases h : ∃ t, r = c :: t
  · obtain ⟨t, rfl⟩ := h
    exact .inl ⟨t, rfl, by simp [hasB], by simp [signR, hasB]⟩
  · have hb := hasB_no r c (fun t e => h ⟨t, e⟩)
    exact .inr ⟨hb, by rw [signR, hb]; rfl, fun t e => h ⟨t, e⟩⟩
theorem pOp_61 (t : List UInt8) : pOp (61 :: t) = (3, t) := rfl
theorem pOp_60 (t : List UInt8) (h1 : ∀ u, t ≠ 60 :: u) (h2 : ∀ u, t ≠ 61 :: u) : pOp (60 :: t) = (0, t) := by
  cases t with
  | nil => rfl
  | cons a u =>
    have n1 : a ≠ 60 := fun e => h1 u (by rw [e])
    have n2 : a ≠ 61 := fun e => h2 u (by rw [e])
    simp [pOp, n1, n2]
theorem pOp_62 (t : List UInt8) (h1 : ∀ u, t ≠ 62 :: u) (h2 : ∀ u, t ≠ 61 :: u) : pOp (62 :: t) = (0, t) := by
  cases t with
  | nil => rfl
  | cons a u =>
    have n1 : a ≠ 62 := fun e => h1 u (by rw [e])
    have n2 : a ≠ 61 := fun e => h2 u (by rw [e])
    simp [pOp, n1, n2]
theorem pOp_no (r : List UInt8) (h1 : ∀ t, r ≠ 61 :: t) (h2 : ∀ t, r ≠ 60 :: t) (h3 : ∀ t, r ≠ 62 :: t) : pOp r = (0, r) := by
  unfold pOp
  split
  · exact absurd rfl (h1 _)
  · exact absurd rfl (h2 _)
  · exact absurd rfl (h2 _)
  · exact absurd rfl (h2 _)
  · exact absurd rfl (h3 _)
  · exact absurd rfl (h3 _)
  · exact absurd rfl (h3 _)
  · rfl
set_option maxRecDepth 20000 in
set_option maxHeartbeats 16000000 in
theorem relation_any (g : Nat) (s r : List UInt8) (n : Nt) (w : World) (hs : s.length ≤ 1000000) (h : Rd w g s r n) (hw : Words w) (hg : 2 ≠ g) :
    Calls Tryd.prog 141 #[.pointer (some ⟨g, 0, none⟩)] w (RelR g s n w (pRel r)) := by
  go_enter Tryd.func141, Tryd.ntmps141
  go_wp2_with fail
  refine (blanks_any g s r n _ hs h).mono ?_
  rintro e w1 ⟨rfl, hR1, hO1⟩
  have hrl := h.len
  have hb1 := skipB_len r
  have HP : Hid (pRel r = if (pOp (skipB r)).1 = 0 then .bad (pOp (skipB r)).2 else pRel2 (pOp (skipB r)).1 (skipB (pOp (skipB r)).2)) := Lib.hid rfl
  generalize skipB r = r1 at hR1 HP hb1
  go_upto_block 0 with fail
  go_cut [2, 8, 11, 14, 17, 20, 23, 26] (fun s2 s8 s11 s14 s17 s20 s23 s26 wx => s2 = .int .i64 (pOp r1).1 ∧ Rd wx g s (pOp r1).2 n ∧ Only g w wx)
  case first =>
    go_wp2_with fail
    refine (sign_any 61 g s r1 n _ hs hR1).mono ?_
    rintro e w2 ⟨rfl, hR2, hO2⟩
    have q2 := hO1.trans hO2
    clear hO1 hO2 hR1
    rcases hasB_is r1 61 with ⟨t, rfl, hb, hsr⟩ | ⟨hb, hsr, hno⟩
    · rw [hb]
      rw [hsr] at hR2
      go_wp2_with fail
      go_meet
      exact ⟨rfl, hR2, q2⟩
    · rw [hb]
      rw [hsr] at hR2
      clear hb hsr
      go_wp2_with fail
      refine (sign_any 60 g s r1 n _ hs hR2).mono ?_
      rintro e w3 ⟨rfl, hR3, hO3⟩
      have q3 := q2.trans hO3
      clear q2 hO3 hR2
      rcases hasB_is r1 60 with ⟨t, rfl, hb, hsr⟩ | ⟨hb, hsr, hno2⟩
      · rw [hb]
        rw [hsr] at hR3
        clear hb hsr hno
        go_wp2_with fail
        refine (sign_any 60 g s t n _ hs hR3).mono ?_
        rintro e w4 ⟨rfl, hR4, hO4⟩
        have q4 := q3.trans hO4
        clear q3 hO4 hR3
        rcases hasB_is t 60 with ⟨u, rfl, hb, hsr⟩ | ⟨hb, hsr, hno2⟩
        · rw [hb]
          rw [hsr] at hR4
          go_wp2_with fail
          go_meet
          exact ⟨rfl, hR4, q4⟩
        · rw [hb]
          rw [hsr] at hR4
          clear hb hsr
          go_wp2_with fail
          refine (sign_any 61 g s t n _ hs hR4).mono ?_
          rintro e w5 ⟨rfl, hR5, hO5⟩
          have q5 := q4.trans hO5
          clear q4 hO5 hR4
          rcases hasB_is t 61 with ⟨u, rfl, hb, hsr⟩ | ⟨hb, hsr, hno3⟩
          · rw [hb]
            rw [hsr] at hR5
            go_wp2_with fail
            go_meet
            exact ⟨rfl, hR5, q5⟩
          · rw [hb]
            rw [hsr] at hR5
            have HX := Lib.hid (pOp_60 t hno2 hno3)
            clear hno2 hno3
            go_wp2_with fail
            go_meet
            rw [HX.out]
            exact ⟨rfl, hR5, q5⟩
      · rw [hb]
        rw [hsr] at hR3
        clear hb hsr
        go_wp2_with fail
        refine (sign_any 62 g s r1 n _ hs hR3).mono ?_
        rintro e w4 ⟨rfl, hR4, hO4⟩
        have q4 := q3.trans hO4
        clear q3 hO4 hR3
        rcases hasB_is r1 62 with ⟨t, rfl, hb, hsr⟩ | ⟨hb, hsr, hno3⟩
        · rw [hb]
          rw [hsr] at hR4
          clear hb hsr hno hno2
          go_wp2_with fail
          refine (sign_any 62 g s t n _ hs hR4).mono ?_
          rintro e w5 ⟨rfl, hR5, hO5⟩
          have q5 := q4.trans hO5
          clear q4 hO5 hR4
          rcases hasB_is t 62 with ⟨u, rfl, hb, hsr⟩ | ⟨hb, hsr, hno2⟩
          · rw [hb]
            rw [hsr] at hR5
            go_wp2_with fail
            go_meet
            exact ⟨rfl, hR5, q5⟩
          · rw [hb]
            rw [hsr] at hR5
            clear hb hsr
            go_wp2_with fail
            refine (sign_any 61 g s t n _ hs hR5).mono ?_
            rintro e w6 ⟨rfl, hR6, hO6⟩
            have q6 := q5.trans hO6
            clear q5 hO6 hR5
            rcases hasB_is t 61 with ⟨u, rfl, hb, hsr⟩ | ⟨hb, hsr, hno3⟩
            · rw [hb]
              rw [hsr] at hR6
              go_wp2_with fail
              go_meet
              exact ⟨rfl, hR6, q6⟩
            · rw [hb]
              rw [hsr] at hR6
              have HX := Lib.hid (pOp_62 t hno2 hno3)
              clear hno2 hno3
              go_wp2_with fail
              go_meet
              rw [HX.out]
              exact ⟨rfl, hR6, q6⟩
        · rw [hb]
          rw [hsr] at hR4
          have HX := Lib.hid (pOp_no r1 hno hno2 hno3)
          clear hno hno2 hno3
          go_wp2_with fail
          go_meet
          rw [HX.out]
          exact ⟨rfl, hR4, q4⟩
  case rest =>
    obtain ⟨rfl, hR, hO⟩ := hcut
    clear hR1 hO1
    have hol := pOp_len r1
    generalize (pOp r1).1 = op at HP
    generalize (pOp r1).2 = r2 at HP hR hol
    by_cases h0 : op = 0
    · have HB : Hid (pRel r = .bad r2) := Lib.hid (by rw [HP.out, if_pos h0])
      subst h0
      go_wp2_with fail
      go_ret3
      rw [HB.out]
      exact ⟨⟨n, hR⟩, rfl, hO⟩
    · have hob : (op == 0) = false := by simpa using h0
      have HP2 : Hid (pRel r = pRel2 op (skipB r2)) := Lib.hid (by rw [HP.out, if_neg h0])
      clear h0 HP
      go_wp2_with fail
      refine (blanks_any g s r2 n _ hs hR).mono ?_
      rintro e w3 ⟨rfl, hR3, hO3⟩
      have q3 := hO.trans hO3
      have hl3 := skipB_len r2
      clear hR hO hO3
      generalize skipB r2 = r3 at hR3 hl3 HP2
      obtain ⟨k, hk, hc⟩ := hR3.at
      go_wp2_with fail
      refine (until_any vEnds g s r3 n _ hs hR3).mono ?_
      rintro e w4 ⟨rfl, hR4, hO4⟩
      have q4 := q3.trans hO4
      have hw4 := hw.kept q4 hg
      have hvl := behind_len vEnds r3
      clear hc hR3 q3 hO4
      have HR2 : Hid (pRel2 op r3 = if upTo vEnds r3 = [] then .bad r3 else match skipB (behind vEnds r3) with | 41 :: t => .ok (op, upTo vEnds r3) (skipB t) [⟨3, r3, upTo vEnds r3⟩] | q => .bad q) := Lib.hid rfl
      obtain ⟨v, Hv⟩ : ∃ v, Hid (upTo vEnds r3 = v) := ⟨_, Lib.hid rfl⟩
      obtain ⟨r4, Hr4⟩ : ∃ x, Hid (behind vEnds r3 = x) := ⟨_, Lib.hid rfl⟩
      rw [Hv.out] at hvl HR2
      rw [Hr4.out] at hR4 hvl HR2
      rw [Hv.out]
      by_cases hv0 : v = []
      · have hb : v.isEmpty = true := by simpa using hv0
        have HB : Hid (pRel r = .bad r3) := Lib.hid (by rw [HP2.out, HR2.out, if_pos hv0])
        have Hr3 : Hid (r4 = r3) := Lib.hid (by rw [← Hr4.out]; unfold behind past; rw [show (r3.takeWhile (noEnd vEnds)) = v from Hv.out, hv0]; rfl)
        rw [hb]
        clear hv0 hb
        go_wp2_with fail
        go_ret3
        rw [HB.out]
        exact ⟨⟨n, by rw [← Hr3.out]; exact hR4⟩, rfl, q4⟩
      · have hb : v.isEmpty = false := by simpa using hv0
        have HR3 : Hid (pRel r = match skipB r4 with | 41 :: t => .ok (op, v) (skipB t) [⟨3, r3, v⟩] | q => .bad q) := Lib.hid (by rw [HP2.out, HR2.out, if_neg hv0])
        rw [hb]
        clear hv0 hb HR2 HP2 Hr4
        go_wp2_with fail
        refine (check_any 1 v _ (by omega) hw4).mono ?_
        rintro e w5 ⟨rfl, hb5⟩
        have q5 := q4.trans (Kept.of_below hb5 _)
        have hR5 := hR4.keep (Kept.of_below hb5 nowhere) (fun h => h)
        clear hb5 q4 hR4 hw4
        go_wp2_with fail
        refine (note_at k r3 (vErr 1 v) g s r4 n _ hk hR5).mono ?_
        rintro e w6 ⟨rfl, hR6, hO6⟩
        have q6 := q5.trans hO6
        rw [← step3] at hR6
        clear hR5 hO6 q5
        go_wp2_with fail
        refine (blanks_any g s r4 _ _ hs hR6).mono ?_
        rintro e w7 ⟨rfl, hR7, hO7⟩
        have q7 := q6.trans hO7
        clear hR6 hO7 q6
        generalize skipB r4 = r5 at hR7 HR3
        go_wp2_with fail
        refine (sign_any 41 g s r5 _ _ hs hR7).mono ?_
        rintro e w8 ⟨rfl, hR8, hO8⟩
        have q8 := q7.trans hO8
        clear hR7 hO8 q7
        rcases hasB_is r5 41 with ⟨t, rfl, hb, hsr⟩ | ⟨hb, hsr, hno⟩
        · rw [hb]
          rw [hsr] at hR8
          have HV : Hid (pRel r = .ok (op, v) (skipB t) [⟨3, r3, v⟩]) := Lib.hid HR3.out
          clear hb hsr HR3
          go_wp2_with fail
          refine (blanks_any g s t _ _ hs hR8).mono ?_
          rintro e w9 ⟨rfl, hR9, hO9⟩
          have q9 := q8.trans hO9
          go_wp2_with fail
          go_ret3
          rw [HV.out]
          exact ⟨rfl, hR9, q9⟩
        · rw [hb]
          rw [hsr] at hR8
          have HV : Hid (pRel r = .bad r5) := Lib.hid (by
            rw [HR3.out]
            split
            · exact absurd rfl (hno _)
            · rfl)
          clear hb hsr HR3 hno
          go_wp2_with fail
          go_ret3
          rw [HV.out]
          exact ⟨⟨_, hR8⟩, rfl, q8⟩
end Go.Proofs.YtdnncbhbajciaaaDoor
namespace Go.Proofs.YtdnncbhbajciaaaDoor
open Go.RowKit
theorem info_str : (Tryd.prog.info? 9).map (fun i => (i.zero, i.size, i.bytes)) = some (some (.string ⟨#[]⟩), 1, 16) := by kernel_rfl
/-- What reading architectures gives. -/
def ArchR (g : Nat) (s : List UInt8) (n : Nt) (w : World) (x : Res (List (List UInt8))) (e : Ending) (w' : World) : Prop := match x with
  | .bad b => (∃ n', Rd w' g s b n') ∧ e = .returned (.tuple #[.slice none 0 0, .bool false]) ∧ Only g w w'
  | .ok l q its => (∃ v, e = .returned (.tuple #[v, .bool true]) ∧ Sl 1 Rtext (old w.heap.size) w' v l) ∧ Rd w' g s q (n.all its) ∧ Only g w w'
theorem Only.old {g B : Nat} {w w' : World} (h : Only g w w') (hg : g < B) : Kept (old B) w w' := h.mono fun k _ hk => by subst hk; exact hg
/-- A row of one's own grows: what was there ahead of it all stays. -/
theorem Kept.row {X : Nat → Prop} {a b c : World} {v : Value} (h : Kept X a b) (k : Kept (fun i => v.ownBlock = some i) b c) (hv : ∀ i, v.ownBlock = some i → a.heap.size ≤ i) : Kept X a c :=
  Kept.mono (X := fun i => X i ∨ v.ownBlock = some i) ((h.mono fun _ _ hx => .inl hx).trans (k.mono fun _ _ hx => .inr hx)) fun i hi hx => hx.elim id fun h => by have := hv i h; omega
theorem OwnL.new {α : Type} {sz : Nat} {R : Rel α} {e : TypeId} {base B : Nat} {w : World} {v : Value} {l : List α} (h : OwnL sz R e base (old B) w v l) : ∀ i, v.ownBlock = some i → B ≤ i := by
  obtain ⟨_, _, _, hX, _⟩ := h
  intro i hi
  have := hX i hi
  unfold Go.Proofs.YtdnncbhbajciaaaDoor.old at this
  omega
theorem notP_one (r : List UInt8) : (notP r).1.length ≤ 1 := by
  unfold notP
  split <;> simp
set_option maxRecDepth 20000 in
set_option maxHeartbeats 16000000 in
theorem archs_any (g : Nat) (s r : List UInt8) (n : Nt) (w : World) (hs : s.length ≤ 1000000) (h : Rd w g s r n) :
    Calls Tryd.prog 142 #[.pointer (some ⟨g, 0, none⟩)] w (ArchR g s n w (pArchs (skipB r) [] [])) := by
  have hgw : g < w.heap.size := by obtain ⟨_, _, _, hB⟩ := h; exact hB.lt
  have hrl := h.len
  obtain ⟨x, hx⟩ : ∃ x, pArchs (skipB r) [] [] = x := ⟨_, rfl⟩
  rw [hx]
  have HX0 := Lib.hid hx
  clear hx
  go_enter Tryd.func142, Tryd.ntmps142
  go_wp2_with fail
  refine (blanks_any g s r n _ hs h).mono ?_
  rintro e w1 ⟨rfl, hR1, hO1⟩
  have hb1 := skipB_len r
  generalize skipB r = r0 at hR1 hb1 HX0
  clear h
  go_wp2_with fail
  go_loopg [4] r0.length (fun G s4 wr => ∃ (r' : List UInt8) (acc : List (List UInt8)) (its : List It), G = r'.length ∧ r'.length ≤ r0.length ∧ acc.length + r'.length ≤ r0.length ∧ OwnL 1 Rtext 9 w.heap.size (old w.heap.size) wr s4 acc ∧ Rd wr g s r' (n.all its) ∧ Only g w wr ∧ Hid (x = pArchs r' acc its))
  case atStart => exact ⟨r0, [], [], rfl, Nat.le_refl _, by simp, OwnL.nil _ _ _ _ _ _, hR1, hO1, Lib.hid HX0.out.symm⟩
  case round =>
    clear hR1 hO1 HX0
    obtain ⟨r', acc, its, rfl, hl1, hl2, hown, hR, hO, HE⟩ := hrel
    obtain ⟨A4, cap4, rfl⟩ := hown.form
    have HA : Hid (x = if upTo wEnds (notP r').2 = [] then .bad (notP r').2
      else match skipB (behind wEnds (notP r').2) with
        | 93 :: t => .ok (acc ++ [(notP r').1 ++ upTo wEnds (notP r').2]) (skipB t) (its ++ [⟨2, (notP r').2, upTo wEnds (notP r').2⟩])
        | q => if (skipB (behind wEnds (notP r').2)).length = (behind wEnds (notP r').2).length then .bad q
          else pArchs (skipB (behind wEnds (notP r').2)) (acc ++ [(notP r').1 ++ upTo wEnds (notP r').2]) (its ++ [⟨2, (notP r').2, upTo wEnds (notP r').2⟩])) := Lib.hid (by rw [HE.out, pArchs]; split <;> rfl)
    have hnl := notP_len r'
    clear HE
    go_wp2_with fail
    refine (sign_any 33 g s r' _ _ hs hR).mono ?_
    rintro e w2 ⟨rfl, hR2, hO2⟩
    have hown2 := hown.keep good_text (hO2.old hgw)
    have q2 := hO.trans hO2
    clear hR hO hO2 hown
    go_upto_if 12 with fail
    go_cut [5] (fun s5 wx => s5 = .string (bs (notP r').1) ∧ Rd wx g s (notP r').2 (n.all its) ∧ w2 = wx)
    case first =>
      rcases hasB_is r' 33 with ⟨t, rfl, hb, hsr⟩ | ⟨hb, hsr, hno⟩
      · rw [hb]
        rw [hsr] at hR2
        go_wp2_with fail
        go_meet
        exact ⟨rfl, hR2, rfl⟩
      · rw [hb]
        rw [hsr] at hR2
        have HX : Hid (notP r' = ([], r')) := Lib.hid (by
          unfold notP
          split
          · exact absurd rfl (hno _)
          · rfl)
        clear hb hsr hno
        go_wp2_with fail
        go_meet
        rw [HX.out]
        exact ⟨rfl, hR2, rfl⟩
    case rest =>
      obtain ⟨rfl, hR3, rfl⟩ := hcut
      clear hR2
      have hno1 := notP_one r'
      generalize (notP r').1 = no at HA hno1
      generalize (notP r').2 = r1 at HA hR3 hnl
      go_wp2_with fail
      refine (rword_any g s r1 _ _ hs hR3).mono ?_
      rintro e w3 ⟨rfl, hR4, hO3⟩
      have hown3 := hown2.keep good_text (hO3.old hgw)
      have q3 := q2.trans hO3
      have hbl := behind_len wEnds r1
      clear hR3 hO3 hown2 q2
      by_cases h0 : upTo wEnds r1 = []
      · have HB : Hid (x = .bad r1) := Lib.hid (by rw [HA.out, if_pos h0])
        have Hb1 : Hid (behind wEnds r1 = r1 ∧ wordN (n.all its) r1 = n.all its) := Lib.hid ⟨by unfold behind past; rw [show (r1.takeWhile (noEnd wEnds)) = [] from h0]; rfl, by rw [wordN, if_pos h0]⟩
        rw [h0]
        clear h0 HA
        go_wp2_with fail
        go_ret2
        rw [HB.out]
        exact ⟨⟨_, by rw [← Hb1.out.1]; exact hR4⟩, rfl, q3⟩
      · have hup := upTo_pos wEnds r1 h0
        have HA2 : Hid (x = match skipB (behind wEnds r1) with
          | 93 :: t => .ok (acc ++ [no ++ upTo wEnds r1]) (skipB t) (its ++ [⟨2, r1, upTo wEnds r1⟩])
          | q => if (skipB (behind wEnds r1)).length = (behind wEnds r1).length then .bad q
            else pArchs (skipB (behind wEnds r1)) (acc ++ [no ++ upTo wEnds r1]) (its ++ [⟨2, r1, upTo wEnds r1⟩])) := Lib.hid (by rw [HA.out, if_neg h0])
        have Hn : Hid (wordN (n.all its) r1 = n.all (its ++ [⟨2, r1, upTo wEnds r1⟩])) := Lib.hid (by rw [wordN, if_neg h0, Nt.all_app]; rfl)
        have he : (upTo wEnds r1).isEmpty = false := by simpa using h0
        rw [Hn.out] at hR4
        rw [he]
        clear h0 HA Hn he
        generalize upTo wEnds r1 = q at HA2 hR4 hbl
        generalize behind wEnds r1 = r2 at HA2 hR4 hbl hup
        have hov : (bs no).size + (bs q).size ≤ 9223372036854775807 := by rw [bs_size, bs_size]; omega
        have hcat : bs no ++ bs q = bs (no ++ q) := bs_of _ _ (by simp [bs])
        go_wp2_with (at_builtin; refine wpList_appendL (l := acc) good_text rfl _ _ _ _ _ 16 rfl Tryd.underlying48 info_str rfl (by omega) w.heap.size rfl hown3 [.string (bs (no ++ q))] (no ++ q) rfl rfl (by omega) (by omega) q3.size (fun k hk hk2 => by have := q3.size; unfold old at hk2; omega) ?_; intro v5 w5 hown5 hk5)
        have hk5 : Kept (fun k => (Value.slice A4 acc.length cap4).ownBlock = some k) w3 w5 := hk5
        have hnew := hown3.new
        have q5 := q3.row hk5 hnew
        have hR5 := hR4.keep hk5 (fun h => by have := hnew g h; omega)
        clear hk5 hown3 q3 hR4 hcat hov hnew
        refine (blanks_any g s r2 _ _ hs hR5).mono ?_
        rintro e w6 ⟨rfl, hR6, hO6⟩
        have hown6 := hown5.keep good_text (hO6.old hgw)
        have q6 := q5.trans hO6
        have hbl2 := skipB_len r2
        obtain ⟨A6, cap6, hv6⟩ := hown6.form
        rw [List.length_append, List.length_singleton] at hv6
        subst hv6
        clear hR5 hO6 q5 hown5
        generalize skipB r2 = r3 at HA2 hR6 hbl2
        go_wp2_with fail
        refine (sign_any 93 g s r3 _ _ hs hR6).mono ?_
        rintro e w7 ⟨rfl, hR7, hO7⟩
        have hown7 := hown6.keep good_text (hO7.old hgw)
        have q7 := q6.trans hO7
        clear hR6 hO7 q6 hown6
        rcases hasB_is r3 93 with ⟨t, rfl, hb, hsr⟩ | ⟨hb, hsr, hno⟩
        · rw [hb]
          rw [hsr] at hR7
          have HV : Hid (x = .ok (acc ++ [no ++ q]) (skipB t) (its ++ [⟨2, r1, q⟩])) := Lib.hid HA2.out
          clear hb hsr HA2
          go_wp2_with fail
          refine (blanks_any g s t _ _ hs hR7).mono ?_
          rintro e w8 ⟨rfl, hR8, hO8⟩
          have hown8 := hown7.keep good_text (hO8.old hgw)
          have q8 := q7.trans hO8
          go_wp2_with fail
          go_ret2
          rw [HV.out]
          exact ⟨⟨_, rfl, hown8.sl good_text⟩, hR8, q8⟩
        · rw [hb]
          rw [hsr] at hR7
          have HV : Hid (x = if r3.length = r2.length then .bad r3 else pArchs r3 (acc ++ [no ++ q]) (its ++ [⟨2, r1, q⟩])) := Lib.hid (by
            rw [HA2.out]
            split
            · exact absurd rfl (hno _)
            · rfl)
          clear hb hsr HA2 hno
          by_cases hsame : r3.length = r2.length
          · have hd : decide (r3.length < r2.length) = false := by simp; omega
            rw [hd]
            have HV2 : Hid (x = .bad r3) := Lib.hid (by rw [HV.out, if_pos hsame])
            clear hsame hd HV
            go_wp2_with fail
            go_ret2
            rw [HV2.out]
            exact ⟨⟨_, hR7⟩, rfl, q7⟩
          · have hd : decide (r3.length < r2.length) = true := by simp; omega
            rw [hd]
            have HV2 := Lib.hid (HV.out.trans (if_neg hsame))
            clear hd HV
            go_wp2_with fail
            go_roundg r3.length
            case measure => omega
            case rel => exact ⟨r3, acc ++ [no ++ q], its ++ [⟨2, r1, q⟩], rfl, by omega, by simp; omega, hown7, hR7, q7, HV2⟩
end Go.Proofs.YtdnncbhbajciaaaDoor
