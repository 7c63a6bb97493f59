/- The walks of version's piece.against, of slices.CompareFunc at it, and of version.Compare. The walk of version.Compare. -/
import Derived.Test.YtdfpdmddiapnmaaDoorVerO
namespace Go.Proofs.YtdfpdmddiapnmaaDoor
open Go.RowKit
def pcV (p : Pc) : Value := .agg #[.int .i64 p.1, .string (bs p.2.1), .int .i64 p.2.2]
set_option maxRecDepth 20000 in
set_option maxHeartbeats 4000000 in
theorem against_any (p q : Pc) (w : World) : Calls Tryd.prog 37 #[pcV p, pcV q] w fun e w' => e = .returned (.int .i64 (cmpP p q)) ∧ Below w.heap.size w w' := by
  obtain ⟨k, s, x⟩ := p
  obtain ⟨m, t, y⟩ := q
  have hbl : ∀ o o' : Obj, Below w.heap.size w ((w.alloc o).alloc o') := fun o o' => ((Below.refl _ _).alloc (Nat.le_refl _) _).alloc (by simp) _
  have HB := Lib.hid hbl
  clear hbl
  show Calls Tryd.prog 37 #[.agg #[.int .i64 k, .string (bs s), .int .i64 x], .agg #[.int .i64 m, .string (bs t), .int .i64 y]] w _
  by_cases hkm : k = m
  · subst hkm
    by_cases h04 : k = 0 ∨ k = 4
    · have HV : Hid (cmpP (k, s, x) (k, t, y) = cmpI x y) := Lib.hid (by simp only [cmpP]; rw [if_pos trivial, if_pos h04])
      rcases h04 with rfl | rfl
      all_goals
        go_enter Tryd.func37, Tryd.ntmps37
        go_wp2_with fail
        refine (ccmp x y _).mono ?_
        rintro e wq ⟨rfl, rfl⟩
        go_wp2_with fail
        go_ret
        exact ⟨by rw [HV.out]; rfl, HB.out _ _⟩
    · by_cases h5 : k = 5
      · have HV : Hid (cmpP (k, s, x) (k, t, y) = cmpB s t) := Lib.hid (by simp only [cmpP]; rw [if_pos trivial, if_neg h04, if_pos (.inl h5)])
        subst h5
        clear h04
        go_enter Tryd.func37, Tryd.ntmps37
        go_wp2_with fail
        refine (scmp s t _).mono ?_
        rintro e wq ⟨rfl, rfl⟩
        go_wp2_with fail
        go_ret
        exact ⟨by rw [HV.out]; rfl, HB.out _ _⟩
      · by_cases h6 : k = 6
        · by_cases hn : noughtB s = true ∨ noughtB t = true
          · have HV : Hid (cmpP (k, s, x) (k, t, y) = cmpB s t) := Lib.hid (by simp only [cmpP]; rw [if_pos trivial, if_neg h04, if_pos (.inr ⟨h6, hn⟩)])
            subst h6
            clear h04 h5
            cases hs : noughtB s with
            | true =>
              clear hn
              go_enter Tryd.func37, Tryd.ntmps37
              go_wp2_with fail
              refine (nought_any (bs s) _).mono ?_
              rintro e wq ⟨rfl, rfl⟩
              rw [bs_list, hs]
              go_wp2_with fail
              refine (scmp s t _).mono ?_
              rintro e wq ⟨rfl, rfl⟩
              go_wp2_with fail
              go_ret
              exact ⟨by rw [HV.out]; rfl, HB.out _ _⟩
            | false =>
              have ht : noughtB t = true := by simpa [hs] using hn
              clear hn
              go_enter Tryd.func37, Tryd.ntmps37
              go_wp2_with fail
              refine (nought_any (bs s) _).mono ?_
              rintro e wq ⟨rfl, rfl⟩
              rw [bs_list, hs]
              go_wp2_with fail
              refine (nought_any (bs t) _).mono ?_
              rintro e wq ⟨rfl, rfl⟩
              rw [bs_list, ht]
              go_wp2_with fail
              refine (scmp s t _).mono ?_
              rintro e wq ⟨rfl, rfl⟩
              go_wp2_with fail
              go_ret
              exact ⟨by rw [HV.out]; rfl, HB.out _ _⟩
          · have HV : Hid (cmpP (k, s, x) (k, t, y) = cmpN s t) := Lib.hid (by simp only [cmpP]; rw [if_pos trivial, if_neg h04, if_neg (by simp [h5, hn])])
            have hs : noughtB s = false := by simpa using fun h => hn (.inl h)
            have ht : noughtB t = false := by simpa using fun h => hn (.inr h)
            subst h6
            clear h04 h5 hn
            go_enter Tryd.func37, Tryd.ntmps37
            go_wp2_with fail
            refine (nought_any (bs s) _).mono ?_
            rintro e wq ⟨rfl, rfl⟩
            rw [bs_list, hs]
            go_wp2_with fail
            refine (nought_any (bs t) _).mono ?_
            rintro e wq ⟨rfl, rfl⟩
            rw [bs_list, ht]
            go_wp2_with fail
            refine (numbers_any s t _).mono ?_
            rintro e w1 ⟨rfl, hb1⟩
            go_wp2_with fail
            go_ret
            exact ⟨by rw [HV.out]; rfl, below_trans (HB.out _ _) hb1⟩
        · have HV : Hid (cmpP (k, s, x) (k, t, y) = cmpN s t) := Lib.hid (by simp only [cmpP]; rw [if_pos trivial, if_neg h04, if_neg (by simp [h5, h6])])
          have b0 : (k == 0) = false := beq_eq_false_iff_ne.2 (fun e => h04 (.inl e))
          have b4 : (k == 4) = false := beq_eq_false_iff_ne.2 (fun e => h04 (.inr e))
          have b5 : (k == 5) = false := beq_eq_false_iff_ne.2 h5
          have b6 : (k == 6) = false := beq_eq_false_iff_ne.2 h6
          have bk : (k != k) = false := by simp
          clear h04 h5 h6
          go_enter Tryd.func37, Tryd.ntmps37
          go_wp2_with fail
          refine (numbers_any s t _).mono ?_
          rintro e w1 ⟨rfl, hb1⟩
          go_wp2_with fail
          go_ret
          exact ⟨by rw [HV.out]; rfl, below_trans (HB.out _ _) hb1⟩
  · have HV : Hid (cmpP (k, s, x) (m, t, y) = cmpI k m) := Lib.hid (by simp only [cmpP]; rw [if_neg hkm])
    have hb : (k != m) = true := by simpa using hkm
    clear hkm
    go_enter Tryd.func37, Tryd.ntmps37
    go_wp2_with fail
    refine (ccmp k m _).mono ?_
    rintro e wq ⟨rfl, rfl⟩
    go_wp2_with fail
    go_ret
    exact ⟨by rw [HV.out]; rfl, HB.out _ _⟩
/-- A slice that reads as pieces. -/
def SP (w : World) (g : Nat) (ps : List Pc) : Prop := ∀ j, j < ps.length * 3 → w.cell? ⟨g, j, none⟩ = (pcs ps)[j]?
theorem pcs_at (ps : List Pc) (k : Nat) (h : k < ps.length) : (pcs ps)[k * 3]? = some (.int .i64 ps[k].1) ∧ (pcs ps)[k * 3 + 1]? = some (.string (bs ps[k].2.1)) ∧ (pcs ps)[k * 3 + 2]? = some (.int .i64 ps[k].2.2) := by
  induction ps generalizing k with
  | nil => simp at h
  | cons p ps ih =>
    cases k with
    | zero => exact ⟨rfl, rfl, rfl⟩
    | succ k =>
      have := ih k (by simpa using h)
      rw [show (k + 1) * 3 = k * 3 + 3 by omega]
      exact this
theorem SP.at {w : World} {g : Nat} {ps : List Pc} (h : SP w g ps) (k : Nat) (hk : k < ps.length) :
    w.cell? ⟨g, k * 3, none⟩ = some (.int .i64 ps[k].1) ∧ w.cell? ⟨g, k * 3 + 1, none⟩ = some (.string (bs ps[k].2.1)) ∧ w.cell? ⟨g, k * 3 + 2, none⟩ = some (.int .i64 ps[k].2.2) := by
  have := pcs_at ps k hk
  exact ⟨by rw [h _ (by omega)]; exact this.1, by rw [h _ (by omega)]; exact this.2.1, by rw [h _ (by omega)]; exact this.2.2⟩
theorem SP.below {w w' : World} {g : Nat} {ps : List Pc} (h : SP w g ps) (hg : g < w.heap.size) (hb : Below w.heap.size w w') : SP w' g ps := fun j hj => by
  rw [hb.cell (p := ⟨g, j, none⟩) hg]
  exact h j hj
theorem listC_step (ps qs : List Pc) (k : Nat) (h1 : k < ps.length) (h2 : k < qs.length) : listC cmpP (ps.drop k) (qs.drop k) = if cmpP ps[k] qs[k] = 0 then listC cmpP (ps.drop (k + 1)) (qs.drop (k + 1)) else cmpP ps[k] qs[k] := by
  rw [List.drop_eq_getElem_cons h1, List.drop_eq_getElem_cons h2, listC]
set_option maxRecDepth 20000 in
set_option maxHeartbeats 4000000 in
theorem compareFunc_any (g1 g2 c1 c2 : Nat) (ps qs : List Pc) (w : World) (hg1 : g1 < w.heap.size) (hg2 : g2 < w.heap.size) (h1 : SP w g1 ps) (h2 : SP w g2 qs) (hl1 : ps.length ≤ maxLen) (hl2 : qs.length ≤ maxLen) :
    Calls Tryd.prog 36 #[.slice (some ⟨g1, 0, none⟩) ps.length c1, .slice (some ⟨g2, 0, none⟩) qs.length c2, .func (.func 37) #[] #[]] w fun e w' => e = .returned (.int .i64 (listC cmpP ps qs)) ∧ Below w.heap.size w w' := by
  have H1 := Lib.hid h1
  have H2 := Lib.hid h2
  clear h1 h2
  unfold maxLen at hl1 hl2
  go_enter Tryd.func36, Tryd.ntmps36
  go_wp2_with fail
  go_loopg [13] ps.length (fun g s13 wr => ∃ k : Nat, k ≤ ps.length ∧ k ≤ qs.length ∧ s13 = .int .i64 k ∧ g = ps.length - k ∧ Below w.heap.size w wr ∧ Hid (listC cmpP ps qs = listC cmpP (ps.drop k) (qs.drop k)))
  case atStart => exact ⟨0, Nat.zero_le _, Nat.zero_le _, rfl, rfl, Below.refl _ _, Lib.hid rfl⟩
  case round =>
    obtain ⟨k, hk1, hk2, rfl, rfl, hbw, HE⟩ := hrel
    have hws := hbw.size
    by_cases hlt : k < ps.length
    · obtain ⟨a1, a2, a3⟩ := (H1.out.below hg1 hbw).at k hlt
      by_cases hlt2 : k < qs.length
      · obtain ⟨b1, b2, b3⟩ := (H2.out.below hg2 hbw).at k hlt2
        have hst := Lib.hid (listC_step ps qs k hlt hlt2)
        obtain ⟨p, hp⟩ : ∃ p, ps[k] = p := ⟨_, rfl⟩
        obtain ⟨q, hq⟩ : ∃ q, qs[k] = q := ⟨_, rfl⟩
        rw [hp] at a1 a2 a3 hst
        rw [hq] at b1 b2 b3 hst
        clear hp hq
        have old : ∀ (o : Obj) (j : Nat), (wr.alloc o).cell? ⟨g2, j, none⟩ = wr.cell? ⟨g2, j, none⟩ := fun o j => World.cell?_alloc_lt _ _ _ (by show g2 < wr.heap.size; omega)
        have dq : decide (qs.length ≤ k) = false := by simp; omega
        obtain ⟨c, Hc⟩ : ∃ c, Hid (cmpP p q = c) := ⟨_, Lib.hid rfl⟩
        go_wp2_with fail
        refine (against_any p q _).mono ?_
        rintro e w1 ⟨rfl, hb1⟩
        rw [Hc.out]
        have hbw1 := below_trans ((hbw.alloc hws _).alloc (by simp; omega) _) hb1
        clear old a1 a2 a3 b1 b2 b3
        by_cases hc : c = 0
        · subst hc
          go_wp2_with fail
          go_roundg (ps.length - (k + 1))
          case measure => omega
          case rel => exact ⟨k + 1, by omega, by omega, by go_num, rfl, hbw1, Lib.hid (by rw [HE.out, hst.out, Hc.out, if_pos rfl])⟩
        · have hcb : (c != 0) = true := by simpa using hc
          go_wp2_with fail
          go_ret
          exact ⟨by rw [HE.out, hst.out, Hc.out, if_neg hc]; rfl, hbw1⟩
      · obtain rfl : k = qs.length := by omega
        have HV : Hid (listC cmpP ps qs = 1) := Lib.hid (by
          rw [HE.out, List.drop_length, List.drop_eq_getElem_cons hlt]
          rfl)
        have dq : decide (qs.length ≤ qs.length) = true := by simp
        clear HE
        go_wp2_with fail
        go_ret
        exact ⟨by rw [HV.out]; rfl, hbw.alloc hws _⟩
    · obtain rfl : k = ps.length := by omega
      by_cases hlt2 : ps.length < qs.length
      · have HV : Hid (listC cmpP ps qs = -1) := Lib.hid (by
          rw [HE.out, List.drop_length, List.drop_eq_getElem_cons hlt2]
          rfl)
        have dq : decide (ps.length < qs.length) = true := by simp; omega
        clear HE
        go_wp2_with fail
        go_ret
        exact ⟨by rw [HV.out]; rfl, hbw⟩
      · have HV : Hid (listC cmpP ps qs = 0) := Lib.hid (by
          rw [HE.out, List.drop_length, show qs.drop ps.length = [] from List.drop_of_length_le (by omega)]
          rfl)
        have dq : decide (ps.length < qs.length) = false := by simp; omega
        clear HE
        go_wp2_with fail
        go_ret
        exact ⟨by rw [HV.out]; rfl, hbw⟩
end Go.Proofs.YtdfpdmddiapnmaaDoor
namespace Go.Proofs.YtdfpdmddiapnmaaDoor
open Go.RowKit
def apkL (a : List UInt8) : List Pc := match apkP a with
  | some (ps, _, _) => ps
  | none => []
def vAg (f : Int) : List UInt8 → List UInt8 → Int := if f = 2 then cmpR else cmpD
/-- Two versions of a format. -/
def vCmp (f : Int) (a b : List UInt8) : Int :=
  if vErr f a = 0 ∧ vErr f b = 0 then
    (if f = 3 then listC cmpP (apkL a) (apkL b) else orL [cmpN (vPart f a).1 (vPart f b).1, vAg f (vPart f a).2.1 (vPart f b).2.1, vAg f (vPart f a).2.2 (vPart f b).2.2])
  else 0
/-- The pieces of a version, where they lie. -/
theorem pieces_at {w w' : World} {l : List UInt8} {e : Ending} (h : PiecesR w (apkP l) e w') (hok : (apkP l).isSome = true) :
    ∃ g cap p r, e = .returned (.tuple #[.slice (some ⟨g, 0, none⟩) (apkL l).length cap, .string p, .string r, .bool true]) ∧ g < w'.heap.size ∧ SP w' g (apkL l) ∧ (apkL l).length ≤ maxLen ∧ Below w.heap.size w w' := by
  obtain ⟨v, p, r, rfl, hx, hb⟩ := h
  obtain ⟨⟨ps, a, b⟩, hs⟩ := Option.isSome_iff_exists.1 hok
  obtain ⟨rfl, rfl, hown⟩ := hx ps a b hs
  have hl : apkL l = ps := by rw [apkL, hs]
  have hpos : 0 < ps.length := by
    rw [apkP] at hs
    split at hs
    · cases hs
    · rename_i u q _
      unfold apkEnd at hs
      split at hs
      · cases hs
      · split at hs
        · simp only [Option.some.injEq, Prod.mk.injEq] at hs
          rw [← hs.1]; simp
        · split at hs
          · simp only [Option.some.injEq, Prod.mk.injEq] at hs
            rw [← hs.1]; simp
          · cases hs
  obtain ⟨g, cap, rfl, hg1, hg2, hg3, hg4⟩ := own_at hown hpos
  refine ⟨g, cap, _, _, by rw [hl, hs]; rfl, hg2, ?_, by rw [hl]; omega, hb⟩
  rw [hl]
  intro j hj
  exact hown.cellAt j (by omega)
theorem orL3 (x y z : Int) : orL [x, y, z] = if x = 0 then (if y = 0 then (if z = 0 then 0 else z) else y) else x := rfl
set_option maxRecDepth 20000 in
set_option maxHeartbeats 8000000 in
theorem compare_any (f : Int) (a b : List UInt8) (w : World) (ha : a.length ≤ 1000000) (hb : b.length ≤ 1000000) (hw : Words w) :
    Calls Tryd.prog 14 #[.int .i64 f, .string (bs a), .string (bs b)] w fun e w' => e = .returned (.int .i64 (vCmp f a b)) ∧ Below w.heap.size w w' := by
  go_enter Tryd.func14, Tryd.ntmps14
  go_wp2_with fail
  refine (split_any f a _ ha hw).mono ?_
  rintro e w1 ⟨rfl, hb1⟩
  obtain ⟨ea, Hea⟩ : ∃ x, Hid (vErr f a = x) := ⟨_, Lib.hid rfl⟩
  rw [Hea.out]
  by_cases hea : ea = 0
  · subst hea
    have hw1 := hw.below hb1
    rw [vSplit, if_pos Hea.out]
    go_wp2_with fail
    refine (split_any f b _ hb hw1).mono ?_
    rintro e w2 ⟨rfl, hb2⟩
    obtain ⟨eb, Heb⟩ : ∃ x, Hid (vErr f b = x) := ⟨_, Lib.hid rfl⟩
    rw [Heb.out]
    by_cases heb : eb = 0
    · subst heb
      have hw2 := hw1.below hb2
      have hb12 := below_trans hb1 hb2
      rw [vSplit, if_pos Heb.out]
      obtain ⟨hal, hf, hoka⟩ := vErr_small f a Hea.out
      obtain ⟨hbl, _, hokb⟩ := vErr_small f b Heb.out
      have HV : Hid (vCmp f a b = if f = 3 then listC cmpP (apkL a) (apkL b) else orL [cmpN (vPart f a).1 (vPart f b).1, vAg f (vPart f a).2.1 (vPart f b).2.1, vAg f (vPart f a).2.2 (vPart f b).2.2]) := Lib.hid (by rw [vCmp, if_pos ⟨Hea.out, Heb.out⟩])
      by_cases h3 : f = 3
      · subst h3
        clear hf hw1 hb1 hb2
        go_wp2_with fail
        refine (pieces_any a _ ha hw2).mono ?_
        intro e w3 h3
        obtain ⟨g1, c1, p1, r1, rfl, hg1, sp1, hl1, hb3⟩ := pieces_at h3 hoka
        clear h3
        have hw3 := hw2.below hb3
        go_wp2_with fail
        refine (pieces_any b _ hb hw3).mono ?_
        intro e w4 h4
        obtain ⟨g2, c2, p2, r2, rfl, hg2, sp2, hl2, hb4⟩ := pieces_at h4 hokb
        clear h4
        have hlt1 : g1 < w4.heap.size := by have := hb4.size; omega
        have sp1 := sp1.below hg1 hb4
        go_wp2_with fail
        refine (compareFunc_any g1 g2 c1 c2 (apkL a) (apkL b) _ hlt1 hg2 sp1 sp2 hl1 hl2).mono ?_
        rintro e w5 ⟨rfl, hb5⟩
        go_wp2_with fail
        go_ret
        exact ⟨by rw [HV.out, if_pos trivial]; rfl, below_trans hb12 (below_trans hb3 (below_trans hb4 hb5))⟩
      · have hf12 : f = 1 ∨ f = 2 := by omega
        obtain ⟨la1, la2, la3⟩ := vPart_len f a hf12
        obtain ⟨lb1, lb2, lb3⟩ := vPart_len f b hf12
        obtain ⟨x, Hx⟩ : ∃ x, Hid (cmpN (vPart f a).1 (vPart f b).1 = x) := ⟨_, Lib.hid rfl⟩
        obtain ⟨y, Hy⟩ : ∃ x, Hid (vAg f (vPart f a).2.1 (vPart f b).2.1 = x) := ⟨_, Lib.hid rfl⟩
        obtain ⟨z, Hz⟩ : ∃ x, Hid (vAg f (vPart f a).2.2 (vPart f b).2.2 = x) := ⟨_, Lib.hid rfl⟩
        have HV2 : Hid (vCmp f a b = orL [x, y, z]) := Lib.hid (by rw [HV.out, if_neg h3, Hx.out, Hy.out, Hz.out])
        clear hf h3 hw1 hb1 hb2 HV
        rcases hf12 with rfl | rfl
        · go_wp2_with fail
          refine (numbers_any (vPart 1 a).1 (vPart 1 b).1 _).mono ?_
          rintro e w3 ⟨rfl, hb3⟩
          rw [Hx.out]
          go_wp2_with fail
          refine (againstDpkg_any (vPart 1 a).2.1 (vPart 1 b).2.1 _ (by omega) (by omega)).mono ?_
          rintro e w4 ⟨rfl, hb4⟩
          rw [show cmpD (vPart 1 a).2.1 (vPart 1 b).2.1 = y from Hy.out]
          go_wp2_with fail
          refine (againstDpkg_any (vPart 1 a).2.2 (vPart 1 b).2.2 _ (by omega) (by omega)).mono ?_
          rintro e w5 ⟨rfl, hb5⟩
          rw [show cmpD (vPart 1 a).2.2 (vPart 1 b).2.2 = z from Hz.out]
          go_wp2_with fail
          refine (or_any w5.heap.size 3 [x, y, z] _ (by simp) ?_).mono ?_
          · intro j hj
            match j, hj with
            | 0, _ => simp
            | 1, _ => simp
            | 2, _ => simp
          · rintro e wq ⟨rfl, rfl⟩
            go_wp2_with fail
            go_ret
            exact ⟨by rw [HV2.out]; rfl, below_trans hb12 (below_trans hb3 (below_trans hb4 (below_trans hb5 ((Below.refl _ _).alloc (Nat.le_refl _) _))))⟩
        · go_wp2_with fail
          refine (numbers_any (vPart 2 a).1 (vPart 2 b).1 _).mono ?_
          rintro e w3 ⟨rfl, hb3⟩
          rw [Hx.out]
          go_wp2_with fail
          refine (againstRpm_any (vPart 2 a).2.1 (vPart 2 b).2.1 _ (by omega) (by omega)).mono ?_
          rintro e w4 ⟨rfl, hb4⟩
          rw [show cmpR (vPart 2 a).2.1 (vPart 2 b).2.1 = y from Hy.out]
          go_wp2_with fail
          refine (againstRpm_any (vPart 2 a).2.2 (vPart 2 b).2.2 _ (by omega) (by omega)).mono ?_
          rintro e w5 ⟨rfl, hb5⟩
          rw [show cmpR (vPart 2 a).2.2 (vPart 2 b).2.2 = z from Hz.out]
          go_wp2_with fail
          refine (or_any w5.heap.size 3 [x, y, z] _ (by simp) ?_).mono ?_
          · intro j hj
            match j, hj with
            | 0, _ => simp
            | 1, _ => simp
            | 2, _ => simp
          · rintro e wq ⟨rfl, rfl⟩
            go_wp2_with fail
            go_ret
            exact ⟨by rw [HV2.out]; rfl, below_trans hb12 (below_trans hb3 (below_trans hb4 (below_trans hb5 ((Below.refl _ _).alloc (Nat.le_refl _) _))))⟩
    · have hcb : (eb != 0) = true := by simpa using heb
      have HV : Hid (vCmp f a b = 0) := Lib.hid (by rw [vCmp, if_neg (fun h => heb (by rw [← Heb.out]; exact h.2))])
      clear heb
      go_wp2_with fail
      go_ret
      exact ⟨by rw [HV.out]; rfl, below_trans hb1 hb2⟩
  · have hcb : (ea != 0) = true := by simpa using hea
    have HV : Hid (vCmp f a b = 0) := Lib.hid (by rw [vCmp, if_neg (fun h => hea (by rw [← Hea.out]; exact h.1))])
    clear hea
    go_wp2_with fail
    go_ret
    exact ⟨by rw [HV.out]; rfl, hb1⟩
end Go.Proofs.YtdfpdmddiapnmaaDoor
