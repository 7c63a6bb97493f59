/- The order of cores is that of their texts: the pieces of a text of Apk. -/
import Derived.Test.YtdfpdmddiapnmaaDoorVmWs
namespace Go.Proofs.YtdfpdmddiapnmaaDoor
theorem nums_pc (l : List Int) : ∀ (n k : Int) (r : List UInt8) (acc : List Pc), (n :: l).all numOk = true → NoDig r → (∀ t, r ≠ 46 :: t) → numsP k (numsT (n :: l) ++ r) acc = some (acc ++ (k, decI n, 0) :: l.map numPc, r) := by
  induction l with
  | nil =>
    intro n k r acc h hr h46
    simp only [List.all_cons, Bool.and_eq_true] at h
    have hn := dec_num n h.1
    rw [numsT_one]
    obtain ⟨d1, d2⟩ := digs_app (decI n) r hn.dig hr
    rw [nums_end _ _ _ (by rw [d1]; exact hn.ne) (by rw [d2]; exact h46), d1, d2]
    rfl
  | cons m l ih =>
    intro n k r acc h hr h46
    rw [List.all_cons, Bool.and_eq_true] at h
    have hn := dec_num n h.1
    rw [numsT_cons, List.append_assoc, List.cons_append]
    obtain ⟨d1, d2⟩ := digs_app (decI n) (46 :: (numsT (m :: l) ++ r)) hn.dig (fun c t e => by injection e with e _; rw [← e]; decide +kernel)
    rw [nums_dot _ _ _ _ (by rw [d1]; exact hn.ne) d2, ih m 6 r _ h.2 hr h46, d1]
    simp [numPc]
theorem apk_pc (c : Co) (h : Fit 3 c) : ∃ p r, apkP (textC 3 c) = some (corePc c, p, r) := by
  have ht : textC 3 c = propT 3 c ++ (45 :: 114 :: decI c.rev) := by
    unfold textC epT dashF
    rw [if_neg (fun x => x.1 rfl), if_pos rfl]
    rfl
  have hrev := dec_num _ h.rev
  have hb : numB (decI c.rev) = true := by
    simp only [numB, Bool.and_eq_true, List.all_eq_true]
    exact ⟨by cases hd : decI c.rev with | nil => exact absurd hd hrev.ne | cons => rfl, hrev.dig⟩
  obtain ⟨R, hR⟩ : ∃ R, R = 45 :: 114 :: decI c.rev := ⟨_, rfl⟩
  have hw : ∀ acc, wordsP (preT 3 c ++ R) acc = some (acc ++ prePc c.pre c.preNum, R) := by
    intro acc
    unfold preT prePc
    split
    · rw [List.nil_append, List.append_nil]
      exact words_end R acc (fun t e => by rw [hR] at e; injection e with e; cases e)
    · rename_i hp
      have hm : c.pre ∈ presL := by
        rcases h.pre with ⟨e, _⟩ | ⟨_, e⟩
        · exact absurd e hp
        · exact e
      have hpn := dec_num _ h.pn
      have hsm : ∃ d t, decI c.preNum ++ R = d :: t ∧ isSmall d = false := by
        cases hd : decI c.preNum with
        | nil => exact absurd hd hpn.ne
        | cons d t => exact ⟨d, t ++ R, rfl, dig_small d (hpn.dig d (by rw [hd]; simp))⟩
      obtain ⟨s1, s2⟩ := smalls_app c.pre (decI c.preNum ++ R) (pre_mem c h.pre) hsm
      obtain ⟨d1, d2⟩ := digs_app (decI c.preNum) R hpn.dig (fun x t e => by rw [hR] at e; injection e with e _; rw [← e]; decide +kernel)
      have hk : wKind (wordI c.pre) = 0 := by
        have := rank_in c.pre hm
        rw [wordI_rank c.pre hm, wKind, if_neg (by omega)]
      rw [show (sgnB 3 :: (c.pre ++ decI c.preNum)) ++ R = 95 :: (c.pre ++ (decI c.preNum ++ R)) by simp [sgnB], words_next _ _ (by rw [s1]; exact word_rank _ hm), s1, s2, d2, hk, wAcc, d1, if_neg hpn.ne]
      rw [words_end R _ (fun t e => by rw [hR] at e; injection e with e; cases e)]
      simp
  have hend : ∀ l b, apkEnd l (some (b, R)) = some (b ++ [(2, decI c.rev, 0), (1, [], 0)], l.take (l.length - R.length), decI c.rev) := by
    intro l b
    have h1 : revT R = some (decI c.rev) := by rw [hR]; show (if numB (decI c.rev) = true then _ else _) = _; rw [if_pos hb]
    have h2 : R ≠ [] := by rw [hR]; simp
    simp [apkEnd, h1, h2]
  have hprop : propT 3 c ++ R = numsT c.nums ++ (c.letter ++ (preT 3 c ++ R)) := by simp [propT]
  have hnd : NoDig (c.letter ++ (preT 3 c ++ R)) ∧ ∀ t, c.letter ++ (preT 3 c ++ R) ≠ 46 :: t := by
    have hlm := let_mem _ h.lt
    cases hl : c.letter with
    | nil =>
      unfold preT
      split
      · refine ⟨fun x t e => ?_, fun t e => ?_⟩
        · rw [hR] at e; simp at e; rw [← e.1]; decide +kernel
        · rw [hR] at e; simp at e
      · refine ⟨fun x t e => ?_, fun t e => ?_⟩
        · simp at e; rw [← e.1]; decide +kernel
        · simp [sgnB] at e
    | cons d u =>
      have hd := hlm d (by rw [hl]; simp)
      refine ⟨fun x t e => ?_, fun t e => ?_⟩
      · rw [List.cons_append] at e
        injection e with e _
        rw [← e]
        cases hx : isDig d with
        | false => rfl
        | true => rw [dig_small d hx] at hd; cases hd
      · rw [List.cons_append] at e
        injection e with e _
        rw [e] at hd
        revert hd
        decide +kernel
  have hsign : ∀ acc, signP (c.letter ++ (preT 3 c ++ R)) acc = (acc ++ letPc c.letter, preT 3 c ++ R) := by
    intro acc
    have hlt := h.lt
    match hl : c.letter, hlt with
    | [], _ =>
      rw [List.nil_append]
      have : ∀ x t, preT 3 c ++ R = x :: t → isSmall x = false := by
        intro x t e
        unfold preT at e
        split at e
        · rw [hR] at e; simp at e; rw [← e.1]; decide +kernel
        · simp at e; rw [← e.1]; decide +kernel
      cases hq : preT 3 c ++ R with
      | nil => simp [signP, letPc]
      | cons x t => simp [signP, this x t hq, letPc]
    | [d], hlt =>
      have hd : isSmall d = true := hlt
      rw [List.singleton_append]
      simp [signP, hd, letPc]
    | d :: e :: u, hlt => simp [letOk] at hlt
  have hnums := h.nums
  unfold apkP corePc
  rw [ht, ← hR, hprop]
  cases hn0 : c.nums with
  | nil => exact absurd hn0 h.n0
  | cons n l =>
    rw [hn0] at hnums
    rw [nums_pc l n 7 _ [] hnums hnd.1 hnd.2]
    simp only [hsign, hw, hend]
    refine ⟨_, _, congrArg some (Prod.ext ?_ rfl)⟩
    simp [endPc]
end Go.Proofs.YtdfpdmddiapnmaaDoor
