/- The walk of version.Compare. -/
import Derived.Test.YtdnncbhbajciaaaDoorVerP
namespace Go.Proofs.YtdnncbhbajciaaaDoor
open Go.RowKit
def apkL (a : List UInt8) : List Pc := match apkP a with
  | some (ps, _, _) => ps
  | none => []
def vAg (f : Int) : List UInt8 → List UInt8 → Int := if f = 2 then cmpR else cmpD
/-- Two versions of a format. -/
def vCmp (f : Int) (a b : List UInt8) : Int :=
  if vErr f a = 0 ∧ vErr f b = 0 then
    (if f = 3 then listC cmpP (apkL a) (apkL b) else orL [cmpN (vPart f a).1 (vPart f b).1, vAg f (vPart f a).2.1 (vPart f b).2.1, vAg f (vPart f a).2.2 (vPart f b).2.2])
  else 0
theorem numsP_len (k : Int) (r : List UInt8) (acc : List Pc) : ∀ a q, numsP k r acc = some (a, q) → q.length ≤ r.length := by
  induction hn : r.length using Nat.strongRecOn generalizing k r acc with
  | ind n ih =>
    intro a q h
    by_cases h0 : digs r = []
    · rw [nums_none k r acc h0] at h; cases h
    · by_cases hd : ∃ t, past isDig r = 46 :: t
      · obtain ⟨t, ht⟩ := hd
        rw [nums_dot k r t acc h0 ht] at h
        have h1 := past_len isDig r
        rw [ht, List.length_cons] at h1
        have := ih t.length (by omega) 6 t _ rfl a q h
        omega
      · rw [nums_end k r acc h0 (fun t e => hd ⟨t, e⟩)] at h
        simp only [Option.some.injEq, Prod.mk.injEq] at h
        rw [← h.2, ← hn]
        exact past_len isDig r
theorem vErr_small (f : Int) (l : List UInt8) (h : vErr f l = 0) : l.length ≤ 64 ∧ (f = 1 ∨ f = 2 ∨ f = 3) ∧ vOk f l = true := by
  unfold vErr at h
  split at h
  · rename_i h1
    split at h
    · omega
    · split at h
      · exact ⟨by omega, h1, by assumption⟩
      · omega
  · omega
theorem dEp_len (l : List UInt8) : (dEp l).length ≤ l.length := by
  unfold dEp; split
  · exact cutA_len l 58
  · simp
theorem dRest_len (l : List UInt8) : (dRest l).length ≤ l.length := by
  unfold dRest; split
  · exact cutB_len l 58
  · exact Nat.le_refl _
theorem dPr_len (l : List UInt8) : (dPr l).length ≤ l.length := by
  unfold dPr; split
  · rw [List.length_take]; omega
  · exact Nat.le_refl _
theorem dRev_len (l : List UInt8) : (dRev l).length ≤ l.length := by
  unfold dRev; split
  · rw [List.length_drop]; omega
  · simp
theorem vPart_len (f : Int) (l : List UInt8) (hf : f = 1 ∨ f = 2) : (vPart f l).1.length ≤ l.length ∧ (vPart f l).2.1.length ≤ l.length ∧ (vPart f l).2.2.length ≤ l.length := by
  have h1 := dEp_len l
  have h2 := dRest_len l
  rcases hf with rfl | rfl
  · have h3 := dPr_len (dRest l)
    have h4 := dRev_len (dRest l)
    exact ⟨h1, Nat.le_trans h3 h2, Nat.le_trans h4 h2⟩
  · have h3 := cutA_len (dRest l) 45
    have h4 := cutB_len (dRest l) 45
    exact ⟨h1, Nat.le_trans h3 h2, Nat.le_trans h4 h2⟩
/-- The pieces of a version, where they lie. -/
theorem pieces_at {w w' : World} {l : List UInt8} {e : Ending} (h : PiecesR w (apkP l) e w') (hok : (apkP l).isSome = true) :
    ∃ g cap p r, e = .returned (.tuple #[.slice (some ⟨g, 0, none⟩) (apkL l).length cap, .string p, .string r, .bool true]) ∧ g < w'.heap.size ∧ SP w' g (apkL l) ∧ (apkL l).length ≤ maxLen ∧ Below w.heap.size w w' := by
  obtain ⟨v, p, r, rfl, hx, hb⟩ := h
  obtain ⟨⟨ps, a, b⟩, hs⟩ := Option.isSome_iff_exists.1 hok
  obtain ⟨rfl, rfl, hown⟩ := hx ps a b hs
  have hl : apkL l = ps := by rw [apkL, hs]
  have hpos : 0 < ps.length := by
    rw [apkP] at hs
    split at hs
    · cases hs
    · rename_i u q _
      unfold apkEnd at hs
      split at hs
      · cases hs
      · split at hs
        · simp only [Option.some.injEq, Prod.mk.injEq] at hs
          rw [← hs.1]; simp
        · split at hs
          · simp only [Option.some.injEq, Prod.mk.injEq] at hs
            rw [← hs.1]; simp
          · cases hs
  obtain ⟨g, cap, rfl, hg1, hg2, hg3, hg4⟩ := own_at hown hpos
  refine ⟨g, cap, _, _, by rw [hl, hs]; rfl, hg2, ?_, by rw [hl]; omega, hb⟩
  rw [hl]
  intro j hj
  exact hown.cellAt j (by omega)
theorem orL3 (x y z : Int) : orL [x, y, z] = if x = 0 then (if y = 0 then (if z = 0 then 0 else z) else y) else x := rfl
set_option maxRecDepth 20000 in
set_option maxHeartbeats 8000000 in
theorem compare_any (f : Int) (a b : List UInt8) (w : World) (ha : a.length ≤ 1000000) (hb : b.length ≤ 1000000) (hw : Words w) :
    Calls Tryd.prog 15 #[.int .i64 f, .string (bs a), .string (bs b)] w fun e w' => e = .returned (.int .i64 (vCmp f a b)) ∧ Below w.heap.size w w' := by
  go_enter Tryd.func15, Tryd.ntmps15
  go_wp2_with fail
  refine (split_any f a _ ha hw).mono ?_
  rintro e w1 ⟨rfl, hb1⟩
  obtain ⟨ea, Hea⟩ : ∃ x, Hid (vErr f a = x) := ⟨_, Lib.hid rfl⟩
  rw [Hea.out]
  by_cases hea : ea = 0
  · subst hea
    have hw1 := hw.below hb1
    rw [vSplit, if_pos Hea.out]
    go_wp2_with fail
    refine (split_any f b _ hb hw1).mono ?_
    rintro e w2 ⟨rfl, hb2⟩
    obtain ⟨eb, Heb⟩ : ∃ x, Hid (vErr f b = x) := ⟨_, Lib.hid rfl⟩
    rw [Heb.out]
    by_cases heb : eb = 0
    · subst heb
      have hw2 := hw1.below hb2
      have hb12 := below_trans hb1 hb2
      rw [vSplit, if_pos Heb.out]
      obtain ⟨hal, hf, hoka⟩ := vErr_small f a Hea.out
      obtain ⟨hbl, _, hokb⟩ := vErr_small f b Heb.out
      have HV : Hid (vCmp f a b = if f = 3 then listC cmpP (apkL a) (apkL b) else orL [cmpN (vPart f a).1 (vPart f b).1, vAg f (vPart f a).2.1 (vPart f b).2.1, vAg f (vPart f a).2.2 (vPart f b).2.2]) := Lib.hid (by rw [vCmp, if_pos ⟨Hea.out, Heb.out⟩])
      by_cases h3 : f = 3
      · subst h3
        clear hf hw1 hb1 hb2
        go_wp2_with fail
        refine (pieces_any a _ ha hw2).mono ?_
        intro e w3 h3
        obtain ⟨g1, c1, p1, r1, rfl, hg1, sp1, hl1, hb3⟩ := pieces_at h3 hoka
        clear h3
        have hw3 := hw2.below hb3
        go_wp2_with fail
        refine (pieces_any b _ hb hw3).mono ?_
        intro e w4 h4
        obtain ⟨g2, c2, p2, r2, rfl, hg2, sp2, hl2, hb4⟩ := pieces_at h4 hokb
        clear h4
        have hlt1 : g1 < w4.heap.size := by have := hb4.size; omega
        have sp1 := sp1.below hg1 hb4
        go_wp2_with fail
        refine (compareFunc_any g1 g2 c1 c2 (apkL a) (apkL b) _ hlt1 hg2 sp1 sp2 hl1 hl2).mono ?_
        rintro e w5 ⟨rfl, hb5⟩
        go_wp2_with fail
        go_ret
        exact ⟨by rw [HV.out, if_pos trivial]; rfl, below_trans hb12 (below_trans hb3 (below_trans hb4 hb5))⟩
      · have hf12 : f = 1 ∨ f = 2 := by omega
        obtain ⟨la1, la2, la3⟩ := vPart_len f a hf12
        obtain ⟨lb1, lb2, lb3⟩ := vPart_len f b hf12
        obtain ⟨x, Hx⟩ : ∃ x, Hid (cmpN (vPart f a).1 (vPart f b).1 = x) := ⟨_, Lib.hid rfl⟩
        obtain ⟨y, Hy⟩ : ∃ x, Hid (vAg f (vPart f a).2.1 (vPart f b).2.1 = x) := ⟨_, Lib.hid rfl⟩
        obtain ⟨z, Hz⟩ : ∃ x, Hid (vAg f (vPart f a).2.2 (vPart f b).2.2 = x) := ⟨_, Lib.hid rfl⟩
        have HV2 : Hid (vCmp f a b = orL [x, y, z]) := Lib.hid (by rw [HV.out, if_neg h3, Hx.out, Hy.out, Hz.out])
        clear hf h3 hw1 hb1 hb2 HV
        rcases hf12 with rfl | rfl
        · go_wp2_with fail
          refine (numbers_any (vPart 1 a).1 (vPart 1 b).1 _).mono ?_
          rintro e w3 ⟨rfl, hb3⟩
          rw [Hx.out]
          go_wp2_with fail
          refine (againstDpkg_any (vPart 1 a).2.1 (vPart 1 b).2.1 _ (by omega) (by omega)).mono ?_
          rintro e w4 ⟨rfl, hb4⟩
          rw [show cmpD (vPart 1 a).2.1 (vPart 1 b).2.1 = y from Hy.out]
          go_wp2_with fail
          refine (againstDpkg_any (vPart 1 a).2.2 (vPart 1 b).2.2 _ (by omega) (by omega)).mono ?_
          rintro e w5 ⟨rfl, hb5⟩
          rw [show cmpD (vPart 1 a).2.2 (vPart 1 b).2.2 = z from Hz.out]
          go_wp2_with fail
          refine (or_any w5.heap.size 3 [x, y, z] _ (by simp) ?_).mono ?_
          · intro j hj
            match j, hj with
            | 0, _ => simp
            | 1, _ => simp
            | 2, _ => simp
          · rintro e wq ⟨rfl, rfl⟩
            go_wp2_with fail
            go_ret
            exact ⟨by rw [HV2.out]; rfl, below_trans hb12 (below_trans hb3 (below_trans hb4 (below_trans hb5 ((Below.refl _ _).alloc (Nat.le_refl _) _))))⟩
        · go_wp2_with fail
          refine (numbers_any (vPart 2 a).1 (vPart 2 b).1 _).mono ?_
          rintro e w3 ⟨rfl, hb3⟩
          rw [Hx.out]
          go_wp2_with fail
          refine (againstRpm_any (vPart 2 a).2.1 (vPart 2 b).2.1 _ (by omega) (by omega)).mono ?_
          rintro e w4 ⟨rfl, hb4⟩
          rw [show cmpR (vPart 2 a).2.1 (vPart 2 b).2.1 = y from Hy.out]
          go_wp2_with fail
          refine (againstRpm_any (vPart 2 a).2.2 (vPart 2 b).2.2 _ (by omega) (by omega)).mono ?_
          rintro e w5 ⟨rfl, hb5⟩
          rw [show cmpR (vPart 2 a).2.2 (vPart 2 b).2.2 = z from Hz.out]
          go_wp2_with fail
          refine (or_any w5.heap.size 3 [x, y, z] _ (by simp) ?_).mono ?_
          · intro j hj
            match j, hj with
            | 0, _ => simp
            | 1, _ => simp
            | 2, _ => simp
          · rintro e wq ⟨rfl, rfl⟩
            go_wp2_with fail
            go_ret
            exact ⟨by rw [HV2.out]; rfl, below_trans hb12 (below_trans hb3 (below_trans hb4 (below_trans hb5 ((Below.refl _ _).alloc (Nat.le_refl _) _))))⟩
    · have hcb : (eb != 0) = true := by simpa using heb
      have HV : Hid (vCmp f a b = 0) := Lib.hid (by rw [vCmp, if_neg (fun h => heb (by rw [← Heb.out]; exact h.2))])
      clear heb
      go_wp2_with fail
      go_ret
      exact ⟨by rw [HV.out]; rfl, below_trans hb1 hb2⟩
  · have hcb : (ea != 0) = true := by simpa using hea
    have HV : Hid (vCmp f a b = 0) := Lib.hid (by rw [vCmp, if_neg (fun h => hea (by rw [← Hea.out]; exact h.1))])
    clear hea
    go_wp2_with fail
    go_ret
    exact ⟨by rw [HV.out]; rfl, hb1⟩
end Go.Proofs.YtdnncbhbajciaaaDoor
