/- The walks of version's piece.against, of slices.CompareFunc at it, and of version.Compare. -/
import Derived.Test.YtdnncbhbajciaaaDoorVerO
namespace Go.Proofs.YtdnncbhbajciaaaDoor
open Go.RowKit
def pcV (p : Pc) : Value := .agg #[.int .i64 p.1, .string (bs p.2.1), .int .i64 p.2.2]
set_option maxRecDepth 20000 in
set_option maxHeartbeats 4000000 in
theorem against_any (p q : Pc) (w : World) : Calls Tryd.prog 42 #[pcV p, pcV q] w fun e w' => e = .returned (.int .i64 (cmpP p q)) ∧ Below w.heap.size w w' := by
  obtain ⟨k, s, x⟩ := p
  obtain ⟨m, t, y⟩ := q
  have hbl : ∀ o o' : Obj, Below w.heap.size w ((w.alloc o).alloc o') := fun o o' => ((Below.refl _ _).alloc (Nat.le_refl _) _).alloc (by simp) _
  have HB := Lib.hid hbl
  clear hbl
  show Calls Tryd.prog 42 #[.agg #[.int .i64 k, .string (bs s), .int .i64 x], .agg #[.int .i64 m, .string (bs t), .int .i64 y]] w _
  by_cases hkm : k = m
  · subst hkm
    by_cases h04 : k = 0 ∨ k = 4
    · have HV : Hid (cmpP (k, s, x) (k, t, y) = cmpI x y) := Lib.hid (by simp only [cmpP]; rw [if_pos trivial, if_pos h04])
      rcases h04 with rfl | rfl
      all_goals
        go_enter Tryd.func42, Tryd.ntmps42
        go_wp2_with fail
        refine (ccmp x y _).mono ?_
        rintro e wq ⟨rfl, rfl⟩
        go_wp2_with fail
        go_ret
        exact ⟨by rw [HV.out]; rfl, HB.out _ _⟩
    · by_cases h5 : k = 5
      · have HV : Hid (cmpP (k, s, x) (k, t, y) = cmpB s t) := Lib.hid (by simp only [cmpP]; rw [if_pos trivial, if_neg h04, if_pos (.inl h5)])
        subst h5
        clear h04
        go_enter Tryd.func42, Tryd.ntmps42
        go_wp2_with fail
        refine (scmp s t _).mono ?_
        rintro e wq ⟨rfl, rfl⟩
        go_wp2_with fail
        go_ret
        exact ⟨by rw [HV.out]; rfl, HB.out _ _⟩
      · by_cases h6 : k = 6
        · by_cases hn : noughtB s = true ∨ noughtB t = true
          · have HV : Hid (cmpP (k, s, x) (k, t, y) = cmpB s t) := Lib.hid (by simp only [cmpP]; rw [if_pos trivial, if_neg h04, if_pos (.inr ⟨h6, hn⟩)])
            subst h6
            clear h04 h5
            cases hs : noughtB s with
            | true =>
              clear hn
              go_enter Tryd.func42, Tryd.ntmps42
              go_wp2_with fail
              refine (nought_any (bs s) _).mono ?_
              rintro e wq ⟨rfl, rfl⟩
              rw [bs_list, hs]
              go_wp2_with fail
              refine (scmp s t _).mono ?_
              rintro e wq ⟨rfl, rfl⟩
              go_wp2_with fail
              go_ret
              exact ⟨by rw [HV.out]; rfl, HB.out _ _⟩
            | false =>
              have ht : noughtB t = true := by simpa [hs] using hn
              clear hn
              go_enter Tryd.func42, Tryd.ntmps42
              go_wp2_with fail
              refine (nought_any (bs s) _).mono ?_
              rintro e wq ⟨rfl, rfl⟩
              rw [bs_list, hs]
              go_wp2_with fail
              refine (nought_any (bs t) _).mono ?_
              rintro e wq ⟨rfl, rfl⟩
              rw [bs_list, ht]
              go_wp2_with fail
              refine (scmp s t _).mono ?_
              rintro e wq ⟨rfl, rfl⟩
              go_wp2_with fail
              go_ret
              exact ⟨by rw [HV.out]; rfl, HB.out _ _⟩
          · have HV : Hid (cmpP (k, s, x) (k, t, y) = cmpN s t) := Lib.hid (by simp only [cmpP]; rw [if_pos trivial, if_neg h04, if_neg (by simp [h5, hn])])
            have hs : noughtB s = false := by simpa using fun h => hn (.inl h)
            have ht : noughtB t = false := by simpa using fun h => hn (.inr h)
            subst h6
            clear h04 h5 hn
            go_enter Tryd.func42, Tryd.ntmps42
            go_wp2_with fail
            refine (nought_any (bs s) _).mono ?_
            rintro e wq ⟨rfl, rfl⟩
            rw [bs_list, hs]
            go_wp2_with fail
            refine (nought_any (bs t) _).mono ?_
            rintro e wq ⟨rfl, rfl⟩
            rw [bs_list, ht]
            go_wp2_with fail
            refine (numbers_any s t _).mono ?_
            rintro e w1 ⟨rfl, hb1⟩
            go_wp2_with fail
            go_ret
            exact ⟨by rw [HV.out]; rfl, below_trans (HB.out _ _) hb1⟩
        · have HV : Hid (cmpP (k, s, x) (k, t, y) = cmpN s t) := Lib.hid (by simp only [cmpP]; rw [if_pos trivial, if_neg h04, if_neg (by simp [h5, h6])])
          have b0 : (k == 0) = false := beq_eq_false_iff_ne.2 (fun e => h04 (.inl e))
          have b4 : (k == 4) = false := beq_eq_false_iff_ne.2 (fun e => h04 (.inr e))
          have b5 : (k == 5) = false := beq_eq_false_iff_ne.2 h5
          have b6 : (k == 6) = false := beq_eq_false_iff_ne.2 h6
          have bk : (k != k) = false := by simp
          clear h04 h5 h6
          go_enter Tryd.func42, Tryd.ntmps42
          go_wp2_with fail
          refine (numbers_any s t _).mono ?_
          rintro e w1 ⟨rfl, hb1⟩
          go_wp2_with fail
          go_ret
          exact ⟨by rw [HV.out]; rfl, below_trans (HB.out _ _) hb1⟩
  · have HV : Hid (cmpP (k, s, x) (m, t, y) = cmpI k m) := Lib.hid (by simp only [cmpP]; rw [if_neg hkm])
    have hb : (k != m) = true := by simpa using hkm
    clear hkm
    go_enter Tryd.func42, Tryd.ntmps42
    go_wp2_with fail
    refine (ccmp k m _).mono ?_
    rintro e wq ⟨rfl, rfl⟩
    go_wp2_with fail
    go_ret
    exact ⟨by rw [HV.out]; rfl, HB.out _ _⟩
/-- A slice that reads as pieces. -/
def SP (w : World) (g : Nat) (ps : List Pc) : Prop := ∀ j, j < ps.length * 3 → w.cell? ⟨g, j, none⟩ = (pcs ps)[j]?
theorem pcs_at (ps : List Pc) (k : Nat) (h : k < ps.length) : (pcs ps)[k * 3]? = some (.int .i64 ps[k].1) ∧ (pcs ps)[k * 3 + 1]? = some (.string (bs ps[k].2.1)) ∧ (pcs ps)[k * 3 + 2]? = some (.int .i64 ps[k].2.2) := by
  induction ps generalizing k with
  | nil => simp at h
  | cons p ps ih =>
    cases k with
    | zero => exact ⟨rfl, rfl, rfl⟩
    | succ k =>
      have := ih k (by simpa using h)
      rw [show (k + 1) * 3 = k * 3 + 3 by omega]
      exact this
theorem SP.at {w : World} {g : Nat} {ps : List Pc} (h : SP w g ps) (k : Nat) (hk : k < ps.length) :
    w.cell? ⟨g, k * 3, none⟩ = some (.int .i64 ps[k].1) ∧ w.cell? ⟨g, k * 3 + 1, none⟩ = some (.string (bs ps[k].2.1)) ∧ w.cell? ⟨g, k * 3 + 2, none⟩ = some (.int .i64 ps[k].2.2) := by
  have := pcs_at ps k hk
  exact ⟨by rw [h _ (by omega)]; exact this.1, by rw [h _ (by omega)]; exact this.2.1, by rw [h _ (by omega)]; exact this.2.2⟩
theorem SP.below {w w' : World} {g : Nat} {ps : List Pc} (h : SP w g ps) (hg : g < w.heap.size) (hb : Below w.heap.size w w') : SP w' g ps := fun j hj => by
  rw [hb.cell (p := ⟨g, j, none⟩) hg]
  exact h j hj
theorem listC_step (ps qs : List Pc) (k : Nat) (h1 : k < ps.length) (h2 : k < qs.length) : listC cmpP (ps.drop k) (qs.drop k) = if cmpP ps[k] qs[k] = 0 then listC cmpP (ps.drop (k + 1)) (qs.drop (k + 1)) else cmpP ps[k] qs[k] := by
  rw [List.drop_eq_getElem_cons h1, List.drop_eq_getElem_cons h2, listC]
set_option maxRecDepth 20000 in
set_option maxHeartbeats 4000000 in
theorem compareFunc_any (g1 g2 c1 c2 : Nat) (ps qs : List Pc) (w : World) (hg1 : g1 < w.heap.size) (hg2 : g2 < w.heap.size) (h1 : SP w g1 ps) (h2 : SP w g2 qs) (hl1 : ps.length ≤ maxLen) (hl2 : qs.length ≤ maxLen) :
    Calls Tryd.prog 41 #[.slice (some ⟨g1, 0, none⟩) ps.length c1, .slice (some ⟨g2, 0, none⟩) qs.length c2, .func (.func 42) #[] #[]] w fun e w' => e = .returned (.int .i64 (listC cmpP ps qs)) ∧ Below w.heap.size w w' := by
  have H1 := Lib.hid h1
  have H2 := Lib.hid h2
  clear h1 h2
  unfold maxLen at hl1 hl2
  go_enter Tryd.func41, Tryd.ntmps41
  go_wp2_with fail
  go_loopg [13] ps.length (fun g s13 wr => ∃ k : Nat, k ≤ ps.length ∧ k ≤ qs.length ∧ s13 = .int .i64 k ∧ g = ps.length - k ∧ Below w.heap.size w wr ∧ Hid (listC cmpP ps qs = listC cmpP (ps.drop k) (qs.drop k)))
  case atStart => exact ⟨0, Nat.zero_le _, Nat.zero_le _, rfl, rfl, Below.refl _ _, Lib.hid rfl⟩
  case round =>
    obtain ⟨k, hk1, hk2, rfl, rfl, hbw, HE⟩ := hrel
    have hws := hbw.size
    by_cases hlt : k < ps.length
    · obtain ⟨a1, a2, a3⟩ := (H1.out.below hg1 hbw).at k hlt
      by_cases hlt2 : k < qs.length
      · obtain ⟨b1, b2, b3⟩ := (H2.out.below hg2 hbw).at k hlt2
        have hst := Lib.hid (listC_step ps qs k hlt hlt2)
        obtain ⟨p, hp⟩ : ∃ p, ps[k] = p := ⟨_, rfl⟩
        obtain ⟨q, hq⟩ : ∃ q, qs[k] = q := ⟨_, rfl⟩
        rw [hp] at a1 a2 a3 hst
        rw [hq] at b1 b2 b3 hst
        clear hp hq
        have old : ∀ (o : Obj) (j : Nat), (wr.alloc o).cell? ⟨g2, j, none⟩ = wr.cell? ⟨g2, j, none⟩ := fun o j => World.cell?_alloc_lt _ _ _ (by show g2 < wr.heap.size; omega)
        have dq : decide (qs.length ≤ k) = false := by simp; omega
        obtain ⟨c, Hc⟩ : ∃ c, Hid (cmpP p q = c) := ⟨_, Lib.hid rfl⟩
        go_wp2_with fail
        refine (against_any p q _).mono ?_
        rintro e w1 ⟨rfl, hb1⟩
        rw [Hc.out]
        have hbw1 := below_trans ((hbw.alloc hws _).alloc (by simp; omega) _) hb1
        clear old a1 a2 a3 b1 b2 b3
        by_cases hc : c = 0
        · subst hc
          go_wp2_with fail
          go_roundg (ps.length - (k + 1))
          case measure => omega
          case rel => exact ⟨k + 1, by omega, by omega, by go_num, rfl, hbw1, Lib.hid (by rw [HE.out, hst.out, Hc.out, if_pos rfl])⟩
        · have hcb : (c != 0) = true := by simpa using hc
          go_wp2_with fail
          go_ret
          exact ⟨by rw [HE.out, hst.out, Hc.out, if_neg hc]; rfl, hbw1⟩
      · obtain rfl : k = qs.length := by omega
        have HV : Hid (listC cmpP ps qs = 1) := Lib.hid (by
          rw [HE.out, List.drop_length, List.drop_eq_getElem_cons hlt]
          rfl)
        have dq : decide (qs.length ≤ qs.length) = true := by simp
        clear HE
        go_wp2_with fail
        go_ret
        exact ⟨by rw [HV.out]; rfl, hbw.alloc hws _⟩
    · obtain rfl : k = ps.length := by omega
      by_cases hlt2 : ps.length < qs.length
      · have HV : Hid (listC cmpP ps qs = -1) := Lib.hid (by
          rw [HE.out, List.drop_length, List.drop_eq_getElem_cons hlt2]
          rfl)
        have dq : decide (ps.length < qs.length) = true := by simp; omega
        clear HE
        go_wp2_with fail
        go_ret
        exact ⟨by rw [HV.out]; rfl, hbw⟩
      · have HV : Hid (listC cmpP ps qs = 0) := Lib.hid (by
          rw [HE.out, List.drop_length, show qs.drop ps.length = [] from List.drop_of_length_le (by omega)]
          rfl)
        have dq : decide (ps.length < qs.length) = false := by simp; omega
        clear HE
        go_wp2_with fail
        go_ret
        exact ⟨by rw [HV.out]; rfl, hbw⟩
end Go.Proofs.YtdnncbhbajciaaaDoor
