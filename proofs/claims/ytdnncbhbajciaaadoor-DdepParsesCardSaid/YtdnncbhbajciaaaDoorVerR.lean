/- The versions of a format stand in one order; the walks of the laws' own test of the document's examples and of the law on the order. -/
import Derived.Test.YtdnncbhbajciaaaDoorVerP
namespace Go.Proofs.YtdnncbhbajciaaaDoor
open Go.RowKit
theorem Ord3.congr {α : Type} {P : α → Prop} {f g : α → α → Int} (h : Ord3 P g) (e : ∀ a b, P a → P b → f a b = g a b) : Ord3 P f :=
  ⟨fun a b ha hb => by rw [e a b ha hb]; exact h.val a b ha hb, fun a b ha hb => by rw [e a b ha hb, e b a hb ha]; exact h.sym a b ha hb,
   fun a b c ha hb hc => by rw [e a b ha hb, e b c hb hc, e a c ha hc]; exact h.trans a b c ha hb hc⟩
theorem digs_all (r : List UInt8) : ∀ x ∈ digs r, isDig x = true := fun x hx => List.all_eq_true.1 (List.all_takeWhile (p := isDig) (l := r)) x hx
theorem pcOk_digs (k : Int) (r : List UInt8) (h : digs r ≠ []) : PcOk (k, digs r, 0) := ⟨fun _ => dig_pos (digs_all r), fun _ => ⟨h, digs_all r⟩⟩
theorem ok_app {a : List Pc} {p : Pc} (h : ∀ x ∈ a, PcOk x) (hp : PcOk p) : ∀ x ∈ a ++ [p], PcOk x := fun x hx => by
  rcases List.mem_append.1 hx with h1 | h1
  · exact h x h1
  · rw [List.mem_singleton.1 h1]; exact hp
theorem numsP_ok (k : Int) (r : List UInt8) (acc : List Pc) (hacc : ∀ x ∈ acc, PcOk x) : ∀ a q, numsP k r acc = some (a, q) → ∀ x ∈ a, PcOk x := by
  induction hn : r.length using Nat.strongRecOn generalizing k r acc with
  | ind n ih =>
    intro a q h
    by_cases h0 : digs r = []
    · rw [nums_none k r acc h0] at h; cases h
    · by_cases hd : ∃ t, past isDig r = 46 :: t
      · obtain ⟨t, ht⟩ := hd
        rw [nums_dot k r t acc h0 ht] at h
        have h1 := past_len isDig r
        rw [ht, List.length_cons] at h1
        exact ih t.length (by omega) 6 t _ (ok_app hacc (pcOk_digs k r h0)) rfl a q h
      · rw [nums_end k r acc h0 (fun t e => hd ⟨t, e⟩)] at h
        simp only [Option.some.injEq, Prod.mk.injEq] at h
        rw [← h.1]
        exact ok_app hacc (pcOk_digs k r h0)
theorem pcOk_other (k : Int) (t : List UInt8) (x : Int) (h5 : k ≠ 5) (h6 : k ≠ 6) : PcOk (k, t, x) := ⟨fun h => absurd h h5, fun h => absurd h h6⟩
theorem wKind_cases (wd : Int) : wKind wd = 0 ∨ wKind wd = 4 := by unfold wKind; split <;> simp
theorem wordsP_ok (r : List UInt8) (acc : List Pc) (hacc : ∀ x ∈ acc, PcOk x) : ∀ a q, wordsP r acc = some (a, q) → ∀ x ∈ a, PcOk x := by
  induction hn : r.length using Nat.strongRecOn generalizing r acc with
  | ind n ih =>
    intro a q h
    by_cases hd : ∃ t, r = 95 :: t
    · obtain ⟨t, rfl⟩ := hd
      by_cases hw : wordI (smalls t) < 0
      · rw [words_none t acc hw] at h; cases h
      · rw [words_next t acc hw] at h
        have h1 := past_len isSmall t
        have h2 := past_len isDig (past isSmall t)
        rw [List.length_cons] at hn
        refine ih _ (by omega) _ _ ?_ rfl a q h
        have hk := wKind_cases (wordI (smalls t))
        have hw1 := ok_app hacc (pcOk_other (wKind (wordI (smalls t))) (smalls t) (wordI (smalls t)) (by omega) (by omega))
        unfold wAcc
        split
        · exact hw1
        · exact ok_app hw1 (pcOk_other 3 _ 0 (by decide) (by decide))
    · rw [words_end r acc (fun t e => hd ⟨t, e⟩)] at h
      simp only [Option.some.injEq, Prod.mk.injEq] at h
      rw [← h.1]
      exact hacc
theorem apkL_ok (l : List UInt8) : ∀ x ∈ apkL l, PcOk x := by
  unfold apkL
  split
  · rename_i ps a b hs
    rw [apkP] at hs
    split at hs
    · cases hs
    · rename_i u q hnum
      have h1 := numsP_ok 7 l [] (fun x hx => by simp at hx) u q hnum
      have h2 : ∀ x ∈ (signP q u).1, PcOk x := by
        unfold signP
        split
        · split
          · rename_i c t hc
            refine ok_app h1 ⟨fun _ x hx => ?_, fun h => absurd (show (5 : Int) = 6 from h) (by decide)⟩
            rw [List.mem_singleton.1 hx]
            simp [isSmall] at hc
            omega
          · exact h1
        · exact h1
      cases hwd : wordsP (signP q u).2 (signP q u).1 with
      | none => rw [hwd] at hs; cases hs
      | some bq =>
        obtain ⟨b', q'⟩ := bq
        have h3 := wordsP_ok _ _ h2 b' q' hwd
        rw [hwd] at hs
        unfold apkEnd at hs
        simp only at hs
        split at hs
        · simp only [Option.some.injEq, Prod.mk.injEq] at hs
          rw [← hs.1]
          exact ok_app h3 (pcOk_other 1 _ 0 (by decide) (by decide))
        · split at hs
          · rename_i _ t _
            simp only [Option.some.injEq, Prod.mk.injEq] at hs
            rw [← hs.1]
            have := ok_app (ok_app h3 (pcOk_other 2 t 0 (by decide) (by decide))) (pcOk_other 1 [] 0 (by decide) (by decide))
            simpa using this
          · cases hs
  · intro x hx
    simp at hx
/-- The versions of a format stand in one order. -/
theorem vOrd (f : Int) : Ord3 (fun l => vErr f l = 0) (vCmp f) := by
  by_cases h3 : f = 3
  · refine Ord3.congr (ord_pieces.pull (k := apkL) (Q := fun l => vErr f l = 0) (fun b _ => apkL_ok b)) (fun a b ha hb => ?_)
    rw [vCmp, if_pos ⟨ha, hb⟩, if_pos h3]
  · have hag : Ord3 (fun _ => True) (vAg f) := by
      unfold vAg
      split
      · exact ord_rpm
      · exact ord_dpkg
    have o1 : Ord3 (fun l => vErr f l = 0) (fun a b => cmpN (vPart f a).1 (vPart f b).1) := ord_num.pull (k := fun l => (vPart f l).1) (fun _ _ => trivial)
    have o2 : Ord3 (fun l => vErr f l = 0) (fun a b => vAg f (vPart f a).2.1 (vPart f b).2.1) := hag.pull (k := fun l => (vPart f l).2.1) (fun _ _ => trivial)
    have o3 : Ord3 (fun l => vErr f l = 0) (fun a b => vAg f (vPart f a).2.2 (vPart f b).2.2) := hag.pull (k := fun l => (vPart f l).2.2) (fun _ _ => trivial)
    refine Ord3.congr (o1.or (o2.or o3)) (fun a b ha hb => ?_)
    rw [vCmp, if_pos ⟨ha, hb⟩, if_neg h3, orL3]
    split
    · split
      · split
        · rename_i h; exact h.symm
        · rfl
      · rfl
    · rfl
theorem e1 : vCmp 1 [49, 46, 48, 126, 114, 99, 49] [49, 46, 48] = -1 := by decide +kernel
theorem e2 : vCmp 1 [49, 46, 50] [48, 58, 49, 46, 50, 45, 48] = 0 := by decide +kernel
theorem e3 : vCmp 2 [49, 46, 48, 94, 97, 45, 49] [49, 46, 48, 45, 49] = 1 := by decide +kernel
theorem e4 : vCmp 3 [49, 46, 50, 95, 114, 99, 49] [49, 46, 50] = -1 := by decide +kernel
theorem e5 : vErr 3 [49, 46, 50, 45, 114, 48] = 0 := by decide +kernel
theorem e6 : vErr 2 [49, 46, 50] = 3 := by decide +kernel
set_option maxRecDepth 20000 in
set_option maxHeartbeats 2000000 in
theorem awakeV (w : World) (hw : Words w) : Calls Tryd.prog 10 #[] w fun e w' => e = .returned (.bool true) ∧ Below w.heap.size w w' := by
  go_enter Tryd.func10, Tryd.ntmps10
  go_wp2_with fail
  refine (compare_any 1 [49, 46, 48, 126, 114, 99, 49] [49, 46, 48] _ (by decide) (by decide) hw).mono ?_
  rintro e w1 ⟨rfl, hb1⟩
  rw [e1]
  have hw1 := hw.below hb1
  go_wp2_with fail
  refine (compare_any 1 [49, 46, 50] [48, 58, 49, 46, 50, 45, 48] _ (by decide) (by decide) hw1).mono ?_
  rintro e w2 ⟨rfl, hb2⟩
  rw [e2]
  have hw2 := hw1.below hb2
  go_wp2_with fail
  refine (compare_any 2 [49, 46, 48, 94, 97, 45, 49] [49, 46, 48, 45, 49] _ (by decide) (by decide) hw2).mono ?_
  rintro e w3 ⟨rfl, hb3⟩
  rw [e3]
  have hw3 := hw2.below hb3
  go_wp2_with fail
  refine (compare_any 3 [49, 46, 50, 95, 114, 99, 49] [49, 46, 50] _ (by decide) (by decide) hw3).mono ?_
  rintro e w4 ⟨rfl, hb4⟩
  rw [e4]
  have hw4 := hw3.below hb4
  go_wp2_with fail
  refine (check_any 3 [49, 46, 50, 45, 114, 48] _ (by decide) hw4).mono ?_
  rintro e w5 ⟨rfl, hb5⟩
  rw [e5]
  have hw5 := hw4.below hb5
  go_wp2_with fail
  refine (check_any 2 [49, 46, 50] _ (by decide) hw5).mono ?_
  rintro e w6 ⟨rfl, hb6⟩
  rw [e6]
  go_wp2_with fail
  go_ret
  exact ⟨rfl, below_trans hb1 (below_trans hb2 (below_trans hb3 (below_trans hb4 (below_trans hb5 hb6))))⟩
theorem isLong (l : List UInt8) (h : 2000 < l.length) : decide ((2000 : Int) < ((bs l).size : Int)) = true := by rw [bs_size]; simp; omega
theorem notLong (l : List UInt8) (h : ¬ 2000 < l.length) : decide ((2000 : Int) < ((bs l).size : Int)) = false := by rw [bs_size]; simp; omega
set_option maxRecDepth 20000 in
set_option maxHeartbeats 8000000 in
theorem law_order (f : Int) (s t u : ByteArray) (w : World) (_ : -9223372036854775808 ≤ f ∧ f ≤ 9223372036854775807) (hs : s.size ≤ maxLen) (ht : t.size ≤ maxLen) (hu : u.size ≤ maxLen) (hw : Words w) :
    Calls Tryd.prog 4 #[.int .i64 f, .string s, .string t, .string u] w fun e w' => e = .returned (.bool true) ∧ Below w.heap.size w w' := by
  obtain ⟨a, rfl⟩ : ∃ l, s = bs l := ⟨_, bs_self s⟩
  obtain ⟨b, rfl⟩ : ∃ l, t = bs l := ⟨_, bs_self t⟩
  obtain ⟨c, rfl⟩ : ∃ l, u = bs l := ⟨_, bs_self u⟩
  clear hs ht hu
  by_cases ha : 2000 < a.length
  · have da := isLong a ha
    go_enter Tryd.func4, Tryd.ntmps4
    go_wp2_with fail
    refine (awakeV _ hw).mono ?_
    rintro e w1 ⟨rfl, hb1⟩
    go_wp2_with fail
    go_ret
    exact ⟨rfl, hb1⟩
  · have da := notLong a ha
    by_cases hb : 2000 < b.length
    · have db := isLong b hb
      go_enter Tryd.func4, Tryd.ntmps4
      go_wp2_with fail
      refine (awakeV _ hw).mono ?_
      rintro e w1 ⟨rfl, hb1⟩
      go_wp2_with fail
      go_ret
      exact ⟨rfl, hb1⟩
    · have db := notLong b hb
      by_cases hc : 2000 < c.length
      · have dc := isLong c hc
        go_enter Tryd.func4, Tryd.ntmps4
        go_wp2_with fail
        refine (awakeV _ hw).mono ?_
        rintro e w1 ⟨rfl, hb1⟩
        go_wp2_with fail
        go_ret
        exact ⟨rfl, hb1⟩
      · have dc := notLong c hc
        obtain ⟨ea, Hea⟩ : ∃ x, Hid (vErr f a = x) := ⟨_, Lib.hid rfl⟩
        obtain ⟨eb, Heb⟩ : ∃ x, Hid (vErr f b = x) := ⟨_, Lib.hid rfl⟩
        obtain ⟨ec, Hec⟩ : ∃ x, Hid (vErr f c = x) := ⟨_, Lib.hid rfl⟩
        go_enter Tryd.func4, Tryd.ntmps4
        go_wp2_with fail
        refine (awakeV _ hw).mono ?_
        rintro e w1 ⟨rfl, hb1⟩
        have hw1 := hw.below hb1
        go_wp2_with fail
        refine (check_any f a _ (by omega) hw1).mono ?_
        rintro e w2 ⟨rfl, hb2⟩
        rw [Hea.out]
        have hw2 := hw1.below hb2
        by_cases hea : ea = 0
        · subst hea
          go_wp2_with fail
          refine (check_any f b _ (by omega) hw2).mono ?_
          rintro e w3 ⟨rfl, hb3⟩
          rw [Heb.out]
          have hw3 := hw2.below hb3
          by_cases heb : eb = 0
          · subst heb
            go_wp2_with fail
            refine (check_any f c _ (by omega) hw3).mono ?_
            rintro e w4 ⟨rfl, hb4⟩
            rw [Hec.out]
            have hw4 := hw3.below hb4
            by_cases hec : ec = 0
            · subst hec
              have O := vOrd f
              have v1 := O.val a b Hea.out Heb.out
              have v2 := O.val b c Heb.out Hec.out
              have v3 := O.val a c Hea.out Hec.out
              have t1 := O.trans a b c Hea.out Heb.out Hec.out
              have t2 := O.up a b c Hea.out Heb.out Hec.out
              have s1 := O.sym a b Hea.out Heb.out
              have s2 := O.same a Hea.out
              clear O da db dc
              obtain ⟨ab, Hab⟩ : ∃ x, Hid (vCmp f a b = x) := ⟨_, Lib.hid rfl⟩
              obtain ⟨bc, Hbc⟩ : ∃ x, Hid (vCmp f b c = x) := ⟨_, Lib.hid rfl⟩
              obtain ⟨ac, Hac⟩ : ∃ x, Hid (vCmp f a c = x) := ⟨_, Lib.hid rfl⟩
              rw [Hab.out] at v1 t1 t2 s1
              rw [Hbc.out] at v2 t1 t2
              rw [Hac.out] at v3 t1 t2
              have S1 := Lib.hid s1
              have S2 := Lib.hid s2
              clear s1 s2
              have q4 := below_trans hb1 (below_trans hb2 (below_trans hb3 hb4))
              clear hb1 hb2 hb3 hb4 hw1 hw2 hw3
              have T1 := Lib.hid t1
              have T2 := Lib.hid t2
              clear t1 t2
              have V := Lib.hid (And.intro v1 (And.intro v2 v3))
              clear v1 v2 v3
              go_wp2_with fail
              refine (compare_any f a b _ (by omega) (by omega) hw4).mono ?_
              rintro e w5 ⟨rfl, hb5⟩
              rw [Hab.out]
              have hw5 := hw4.below hb5
              go_wp2_with fail
              refine (compare_any f b c _ (by omega) (by omega) hw5).mono ?_
              rintro e w6 ⟨rfl, hb6⟩
              rw [Hbc.out]
              have hw6 := hw5.below hb6
              go_wp2_with fail
              refine (compare_any f a c _ (by omega) (by omega) hw6).mono ?_
              rintro e w7 ⟨rfl, hb7⟩
              rw [Hac.out]
              have hw7 := hw6.below hb7
              go_wp2_with fail
              refine (compare_any f b a _ (by omega) (by omega) hw7).mono ?_
              rintro e w8 ⟨rfl, hb8⟩
              rw [S1.out]
              have hw8 := hw7.below hb8
              have q8 := below_trans q4 (below_trans hb5 (below_trans hb6 (below_trans hb7 hb8)))
              clear q4 hb5 hb6 hb7 hb8 hw7 hw6 hw5 hw4
              obtain ⟨v1, v2, v3⟩ := V.out
              have t1 := T1.out
              have t2 := T2.out
              clear V T1 T2 S1 Hab Hbc Hac
              rcases v1 with rfl | rfl | rfl <;> rcases v2 with rfl | rfl | rfl <;> rcases v3 with rfl | rfl | rfl
              all_goals first
                | (exfalso; omega)
                | (clear t1 t2
                   go_wp2_with fail
                   refine (compare_any f a a _ (by omega) (by omega) hw8).mono ?_
                   rintro e w9 ⟨rfl, hb9⟩
                   rw [S2.out]
                   go_wp2_with fail
                   go_ret
                   exact ⟨rfl, below_trans q8 hb9⟩)
            · have hcb : (ec != 0) = true := by simpa using hec
              clear hec
              go_wp2_with fail
              go_ret
              exact ⟨rfl, below_trans hb1 (below_trans hb2 (below_trans hb3 hb4))⟩
          · have hcb : (eb != 0) = true := by simpa using heb
            clear heb
            go_wp2_with fail
            go_ret
            exact ⟨rfl, below_trans hb1 (below_trans hb2 hb3)⟩
        · have hcb : (ea != 0) = true := by simpa using hea
          clear hea
          go_wp2_with fail
          go_ret
          exact ⟨rfl, below_trans hb1 hb2⟩
end Go.Proofs.YtdnncbhbajciaaaDoor
