/- The order of cores is that of their texts. -/
import Derived.Test.YtdfpdmddiapnmaaDoorVmWt
import Derived.Test.YtdfpdmddiapnmaaDoorVmP
import Derived.Test.YtdfpdmddiapnmaaDoorVerP
namespace Go.Proofs.YtdfpdmddiapnmaaDoor
theorem cmpO_eq (x y : Co) : cmpO x y = if cmpI x.epoch y.epoch = 0 then (if propC x y = 0 then cmpI x.rev y.rev else propC x y) else cmpI x.epoch y.epoch := by
  unfold cmpO propC
  by_cases h0 : cmpI x.epoch y.epoch = 0
  · rw [if_pos h0, if_pos h0]
    by_cases h1 : cmpNums x.nums y.nums = 0
    · rw [if_pos h1, if_pos h1]
      unfold endC
      by_cases h2 : cmpB x.letter y.letter = 0
      · rw [if_pos h2, orL, if_pos h2]
        by_cases h3 : cmpI (preRank x.pre) (preRank y.pre) = 0
        · rw [if_pos h3, orL, if_pos h3]
          by_cases h4 : cmpI x.preNum y.preNum = 0
          · rw [if_pos h4, orL, if_pos h4, orL]
            split
            · rename_i h5; rw [h5]; rfl
            · rfl
          · rw [if_neg h4, orL, if_neg h4]
        · rw [if_neg h3, if_neg h3, orL, if_neg h3]
      · rw [if_neg h2, if_neg h2, orL, if_neg h2]
    · rw [if_neg h1, if_neg h1, if_neg h1]
  · rw [if_neg h0, if_neg h0]
theorem orL_3 (a b c : Int) : orL [a, b, c] = if a = 0 then (if b = 0 then c else b) else a := by
  rw [orL3]
  by_cases h : c = 0
  · rw [if_pos h, h]
  · rw [if_neg h]
theorem order_core (f : Int) (hf : fmtOk f = true) (x y : Co) (hx : Fit f x) (hy : Fit f y) : vCmp f (textC f x) (textC f y) = cmpO x y := by
  simp only [fmtOk, Bool.or_eq_true, decide_eq_true_eq] at hf
  rw [cmpO_eq]
  rcases hf with (rfl | rfl) | rfl
  · obtain ⟨a1, a2⟩ := part1 x hx
    obtain ⟨b1, b2⟩ := part1 y hy
    rw [vCmp, if_pos ⟨(back1 x hx).1, (back1 y hy).1⟩, if_neg (by omega), a1, a2, b1, b2]
    show orL [cmpN (dEp (textC 1 x)) (dEp (textC 1 y)), cmpD (propT 1 x) (propT 1 y), cmpD (decI x.rev) (decI y.rev)] = _
    rw [ep_cmp 1 (by omega) x y hx hy, propD x y hx hy, decD _ _ hx.rev hy.rev, orL_3]
  · obtain ⟨a1, a2⟩ := part2 x hx
    obtain ⟨b1, b2⟩ := part2 y hy
    rw [vCmp, if_pos ⟨(back2 x hx).1, (back2 y hy).1⟩, if_neg (by omega), a1, a2, b1, b2]
    show orL [cmpN (dEp (textC 2 x)) (dEp (textC 2 y)), cmpR (propT 2 x) (propT 2 y), cmpR (decI x.rev) (decI y.rev)] = _
    rw [ep_cmp 2 (by omega) x y hx hy, propRp x y hx hy, decR _ _ hx.rev hy.rev, orL_3]
  · obtain ⟨p, r, hp⟩ := apk_pc x hx
    obtain ⟨q, s, hq⟩ := apk_pc y hy
    have e1 : apkL (textC 3 x) = corePc x := by rw [apkL, hp]
    have e2 : apkL (textC 3 y) = corePc y := by rw [apkL, hq]
    rw [vCmp, if_pos ⟨(back3 x hx).1, (back3 y hy).1⟩, if_pos rfl, e1, e2, corePc_cmp x y hx hy, (hx.apk rfl).1, (hy.apk rfl).1, cmpI_same, if_pos rfl]
theorem cmpB_zero : ∀ (a b : List UInt8), cmpB a b = 0 → a = b
  | [], [], _ => rfl
  | [], _ :: _, h => by simp [cmpB] at h
  | _ :: _, [], h => by simp [cmpB] at h
  | a :: u, b :: v, h => by
    rw [cmpB] at h
    by_cases e : a = b
    · rw [if_pos e] at h
      rw [e, cmpB_zero u v h]
    · rw [if_neg e] at h
      split at h <;> omega
theorem nums_zero : ∀ (a b : List Int), cmpNums a b = 0 → a = b
  | [], [], _ => rfl
  | [], _ :: _, h => by simp [cmpNums] at h
  | _ :: _, [], h => by simp [cmpNums] at h
  | a :: u, b :: v, h => by
    rw [cmpNums] at h
    by_cases e : cmpI a b = 0
    · rw [if_pos e] at h
      rw [cmpI_zero e, nums_zero u v h]
    · rw [if_neg e] at h
      exact absurd h e
theorem rank_same (w w' : List UInt8) (k k' : Int) (h : PreR w k) (h' : PreR w' k') (e : preRank w = preRank w') : w = w' := by
  rcases h with ⟨rfl, _⟩ | ⟨_, hm⟩ <;> rcases h' with ⟨rfl, _⟩ | ⟨_, hm'⟩
  · rfl
  · have := rank_in w' hm'; rw [rank_4] at e; omega
  · have := rank_in w hm; rw [rank_4] at e; omega
  · have := words_rank w w' hm hm'
    rw [e, cmpI_same] at this
    exact cmpB_zero _ _ this
theorem core_zero (f : Int) (x y : Co) (hx : Fit f x) (hy : Fit f y) (h : cmpO x y = 0) : x = y := by
  rw [cmpO_eq] at h
  by_cases h0 : cmpI x.epoch y.epoch = 0
  · rw [if_pos h0] at h
    by_cases h1 : propC x y = 0
    · rw [if_pos h1] at h
      unfold propC at h1
      by_cases h2 : cmpNums x.nums y.nums = 0
      · rw [if_pos h2, endC] at h1
        by_cases h3 : cmpB x.letter y.letter = 0
        · rw [if_pos h3] at h1
          by_cases h4 : cmpI (preRank x.pre) (preRank y.pre) = 0
          · rw [if_pos h4] at h1
            have e1 := cmpI_zero h0
            have e2 := nums_zero _ _ h2
            have e3 := cmpB_zero _ _ h3
            have e4 := rank_same _ _ _ _ hx.pre hy.pre (cmpI_zero h4)
            have e5 := cmpI_zero h1
            have e6 := cmpI_zero h
            cases x
            cases y
            simp only at e1 e2 e3 e4 e5 e6
            subst e1 e2 e3 e4 e5 e6
            rfl
          · rw [if_neg h4] at h1; exact absurd h1 h4
        · rw [if_neg h3] at h1; exact absurd h1 h3
      · rw [if_neg h2] at h1; exact absurd h1 h2
    · rw [if_neg h1] at h; exact absurd h h1
  · rw [if_neg h0] at h; exact absurd h h0
theorem core_self (x : Co) : cmpO x x = 0 := by
  have hn : ∀ l : List Int, cmpNums l l = 0 := fun l => by
    induction l with
    | nil => rfl
    | cons a l ih => rw [cmpNums, cmpI_same, if_pos rfl, ih]
  have hb : ∀ l : List UInt8, cmpB l l = 0 := fun l => by
    induction l with
    | nil => rfl
    | cons a l ih => rw [cmpB, if_pos rfl, ih]
  rw [cmpO_eq, cmpI_same, if_pos rfl, propC, hn, if_pos rfl, endC, hb, if_pos rfl, cmpI_same, if_pos rfl, cmpI_same, if_pos rfl, cmpI_same]
end Go.Proofs.YtdfpdmddiapnmaaDoor
