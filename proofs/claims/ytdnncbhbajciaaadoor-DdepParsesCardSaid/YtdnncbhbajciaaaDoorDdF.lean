/- Walks of ddep's reader: term. Walks of ddep's reader: group, field. Walks of ddep's reader: field; of ddep.Parse. The walk of ddep.Parse. -/
import Derived.Test.YtdnncbhbajciaaaDoorDdA
namespace Go.Proofs.YtdnncbhbajciaaaDoor
open Go.RowKit
/-- What reading a term gives. -/
def TermR (g : Nat) (s : List UInt8) (n : Nt) (w : World) (x : Res Tm) (e : Ending) (w' : World) : Prop := match x with
  | .bad b => (∃ n', Rd w' g s b n') ∧ (∃ (x0 : ByteArray) (x1 : Int) (x2 x3 : ByteArray), e = .returned (.tuple #[.agg #[.string x0, .int .i64 x1, .string x2, .string x3, .slice none 0 0], .bool false])) ∧ Only g w w'
  | .ok t q its => (∃ v, e = .returned (.tuple #[.agg #[.string (bs t.name), .int .i64 t.op, .string (bs t.ver), .string (bs t.qual), v], .bool true]) ∧ Sl 1 Rtext (old w.heap.size) w' v t.archs) ∧ Rd w' g s q (n.all its) ∧ Only g w w'
/-- The term that is being made. -/
abbrev TB (w' : World) (gt : Nat) (nm : List UInt8) (op : Int) (ver qual : List UInt8) (v : Value) : Prop :=
  Blk w' gt 50 #[.string (bs nm), .int .i64 op, .string (bs ver), .string (bs qual), v]
/-- A fifth cell that is a slice: the load of the whole. -/
theorem TB.cells {w' : World} {gt : Nat} {nm : List UInt8} {op : Int} {ver qual : List UInt8} {v : Value} (h : TB w' gt nm op ver qual v) :
    w'.cell? ⟨gt, 0, none⟩ = some (.string (bs nm)) ∧ w'.cell? ⟨gt, 1, none⟩ = some (.int .i64 op) ∧ w'.cell? ⟨gt, 2, none⟩ = some (.string (bs ver)) ∧ w'.cell? ⟨gt, 3, none⟩ = some (.string (bs qual)) ∧ w'.cell? ⟨gt, 4, none⟩ = some v :=
  ⟨by simpa using Blk.cell h 0, by simpa using Blk.cell h 1, by simpa using Blk.cell h 2, by simpa using Blk.cell h 3, by simpa using Blk.cell h 4⟩
/-- The whole, stored over itself. -/
theorem set5 {w : World} {g : Nat} {t : TypeId} {a b c d e : Value} (h : Blk w g t #[a, b, c, d, e]) :
    Blk (((((w.setCell ⟨g, 0, none⟩ a).setCell ⟨g, 1, none⟩ b).setCell ⟨g, 2, none⟩ c).setCell ⟨g, 3, none⟩ d).setCell ⟨g, 4, none⟩ e) g t #[a, b, c, d, e] := by
  have := ((((h.set (u := a) 0).set (u := b) 1).set (u := c) 2).set (u := d) 3).set (u := e) 4
  simpa using this
theorem kept_set5 {X : Nat → Prop} {a w : World} {g : Nat} (h : Kept X a w) (hg : a.heap.size ≤ g) (x0 x1 x2 x3 x4 : Value) :
    Kept X a (((((w.setCell ⟨g, 0, none⟩ x0).setCell ⟨g, 1, none⟩ x1).setCell ⟨g, 2, none⟩ x2).setCell ⟨g, 3, none⟩ x3).setCell ⟨g, 4, none⟩ x4) := by
  have hp : ∀ i, (⟨g, i, none⟩ : Addr).block < a.heap.size → X (⟨g, i, none⟩ : Addr).block := fun i h' => by simp only at h'; omega
  exact ((((h.setCell x0 (hp 0)).setCell x1 (hp 1)).setCell x2 (hp 2)).setCell x3 (hp 3)).setCell x4 (hp 4)
theorem kept_self5 {w : World} {g : Nat} (x0 x1 x2 x3 x4 : Value) :
    Kept (fun k => k = g) w (((((w.setCell ⟨g, 0, none⟩ x0).setCell ⟨g, 1, none⟩ x1).setCell ⟨g, 2, none⟩ x2).setCell ⟨g, 3, none⟩ x3).setCell ⟨g, 4, none⟩ x4) :=
  Only.set (Only.set (Only.set (Only.set (Only.set (Kept.refl _ _) 0 _) 1 _) 2 _) 3 _) 4 _
def headN (n : Nt) (r : List UInt8) : Nt := n.step ⟨0, r, []⟩
theorem headN_eq (n : Nt) (r : List UInt8) : headN n r = Nt.note ⟨n.terms + 1, n.rest, n.code⟩ r (if 64 < n.terms + 1 then 4 else 0) := rfl
theorem note_terms (n : Nt) (r : List UInt8) (e : Int) : (n.note r e).terms = n.terms := by unfold Nt.note; split <;> rfl
theorem step1 (n : Nt) (r q : List UInt8) : n.step ⟨1, r, q⟩ = n.note r (if nameB q = true then 0 else 10) := rfl
set_option maxRecDepth 20000 in
set_option maxHeartbeats 16000000 in
theorem term_any (g : Nat) (s r : List UInt8) (n : Nt) (w : World) (hs : s.length ≤ 1000000) (hn : n.terms ≤ 1000000000) (h : Rd w g s r n) (hw : Words w) (hg : 2 ≠ g) :
    Calls Tryd.prog 120 #[.pointer (some ⟨g, 0, none⟩)] w (TermR g s n w (pTerm r)) := by
  have hgw : g < w.heap.size := by obtain ⟨_, _, _, hB⟩ := h; exact hB.lt
  have hrl := h.len
  obtain ⟨k, hk, hc⟩ := h.at
  obtain ⟨x, hx⟩ : ∃ x, pTerm r = x := ⟨_, rfl⟩
  rw [hx]
  have HX := Lib.hid hx
  clear hx
  have a0 := (Kept.refl (fun k => k = g) w).alloc (.cells #[.string ⟨#[]⟩, .int .i64 0, .string ⟨#[]⟩, .string ⟨#[]⟩, .slice none 0 0] 50)
  have b0 : TB (w.alloc (.cells #[.string ⟨#[]⟩, .int .i64 0, .string ⟨#[]⟩, .string ⟨#[]⟩, .slice none 0 0] 50)) w.heap.size [] 0 [] [] (.slice none 0 0) := Blk.new w _ _
  have h0 := h.keep (Kept.of_below ((Below.refl _ _).alloc (Nat.le_refl _) (.cells #[.string ⟨#[]⟩, .int .i64 0, .string ⟨#[]⟩, .string ⟨#[]⟩, .slice none 0 0] 50)) nowhere) (fun h => h)
  clear h
  go_enter Tryd.func120, Tryd.ntmps120
  go_wp2_with fail
  refine (until_any nEnds g s r n _ hs h0).mono ?_
  rintro e w1 ⟨rfl, hR1, hO1⟩
  have q1 := a0.trans hO1
  have b1 : TB w1 w.heap.size [] 0 [] [] (.slice none 0 0) := hO1.blk b0 (by omega)
  have hup := behind_len nEnds r
  clear a0 b0 h0 hO1 hc
  obtain ⟨nm, Hnm⟩ : ∃ x, Hid (upTo nEnds r = x) := ⟨_, Lib.hid rfl⟩
  rw [Hnm.out]
  obtain ⟨d0, d1, d2, d3, d4⟩ := b1.cells
  have f0 := Blk.free b1 0
  have f1 := Blk.free b1 1
  have f2 := Blk.free b1 2
  have f3 := Blk.free b1 3
  have f4 := Blk.free b1 4
  have qs1 : Kept (fun k => k = g) w (w1.setCell ⟨w.heap.size, 0, none⟩ (.string (bs nm))) := q1.setCell _ (fun h => by simp only at h; omega)
  have bs1 : TB (w1.setCell ⟨w.heap.size, 0, none⟩ (.string (bs nm))) w.heap.size nm 0 [] [] (.slice none 0 0) := by
    have := Blk.set (u := .string (bs nm)) b1 0
    simpa using this
  have rs1 : Rd (w1.setCell ⟨w.heap.size, 0, none⟩ (.string (bs nm))) g s (behind nEnds r) n := hR1.keep (Only.set (Kept.refl _ _) 0 _) (fun h => by omega)
  by_cases hnm : nm = []
  · have hb : nm.isEmpty = true := by simpa using hnm
    have HB : Hid (x = .bad r) := Lib.hid (by rw [← HX.out, pTerm, if_pos (by rw [Hnm.out]; exact hnm)])
    have Hb1 : Hid (behind nEnds r = r) := Lib.hid (by unfold behind past; rw [show (r.takeWhile (noEnd nEnds)) = nm from Hnm.out, hnm]; rfl)
    rw [Hb1.out] at rs1
    rw [hb]
    clear hnm hb hR1 q1 b1
    go_wp2_with fail
    generalize w1.setCell ⟨w.heap.size, 0, none⟩ (.string (bs nm)) = W at qs1 bs1 rs1 ⊢
    have BW := bs1
    have QW := qs1
    have RW := rs1
    have B5 := set5 BW
    have K5 := kept_set5 QW (Nat.le_refl _) (.string (bs nm)) (.int .i64 0) (.string (bs [])) (.string (bs [])) (.slice none 0 0)
    have K6 := kept_self5 (w := W) (g := w.heap.size) (.string (bs nm)) (.int .i64 0) (.string (bs [])) (.string (bs [])) (.slice none 0 0)
    have R5 := RW.keep K6 (fun h => by omega)
    generalize (((((W).setCell ⟨w.heap.size, 0, none⟩ (.string (bs nm))).setCell ⟨w.heap.size, 1, none⟩ (.int .i64 0)).setCell ⟨w.heap.size, 2, none⟩ (.string (bs []))).setCell ⟨w.heap.size, 3, none⟩ (.string (bs []))).setCell ⟨w.heap.size, 4, none⟩ (.slice none 0 0) = W5 at B5 K5 R5 K6 ⊢
    obtain ⟨e0, e1, e2, e3, e4⟩ := TB.cells B5
    refine bodyPost_ret (v := .tuple #[.agg #[.string (bs nm), .int .i64 0, .string (bs []), .string (bs []), .slice none 0 0], .bool false]) (by simp [results, Tryd.results120, go_sem, e0, e1, e2, e3, e4]) rfl ?_
    rw [HB.out]
    exact ⟨⟨_, R5⟩, ⟨_, _, _, _, rfl⟩, K5⟩
  · have hb : nm.isEmpty = false := by simpa using hnm
    have HT : Hid (x = pTerm1 r nm (behind nEnds r)) := Lib.hid (by rw [← HX.out, pTerm, if_neg (by rw [Hnm.out]; exact hnm), Hnm.out])
    rw [hb]
    rw [Hnm.out] at hup
    clear hnm hb HX
    generalize behind nEnds r = r1 at HT rs1 hup hR1
    go_upto_region 5 with fail
    generalize w1.setCell ⟨w.heap.size, 0, none⟩ (.string (bs nm)) = W at qs1 bs1 rs1 ⊢
    clear hR1 q1 b1 d0 d1 d2 d3 d4 f0 f1 f2 f3 f4
    have rs2 := rs1
    obtain ⟨k1, hk1, hr1, hB1⟩ := rs2
    have g2 := hB1.cell 2
    have gf2 := hB1.free 2
    simp at g2
    have rs3 : Rd (W.setCell ⟨g, 2, none⟩ (.int .i64 ((n.terms : Int) + 1))) g s r1 ⟨n.terms + 1, n.rest, n.code⟩ := ⟨k1, hk1, hr1, by
      have := hB1.set (u := .int .i64 ((n.terms : Int) + 1)) 2
      simpa [wAt] using this⟩
    have qs3 := Only.set qs1 2 (.int .i64 ((n.terms : Int) + 1))
    have bs3 : TB (W.setCell ⟨g, 2, none⟩ (.int .i64 ((n.terms : Int) + 1))) w.heap.size nm 0 [] [] (.slice none 0 0) := Blk.other bs1 _ (by show w.heap.size ≠ g; omega)
    have hn1 : (0 : Int) ≤ (n.terms : Int) := by omega
    go_upto_if 30 with fail
    clear g2 gf2 hB1 hr1
    generalize W.setCell ⟨g, 2, none⟩ (.int .i64 ((n.terms : Int) + 1)) = W3 at rs3 qs3 bs3 ⊢
    clear rs1 qs1 bs1
    go_cut [] (fun wx => TB wx w.heap.size nm 0 [] [] (.slice none 0 0) ∧ Rd wx g s r1 (headN n r) ∧ Only g w wx)
    case first =>
      by_cases h64 : 64 < n.terms + 1
      · have hd : decide ((64 : Int) < (n.terms : Int) + 1) = true := by simp; omega
        have HH : Hid (headN n r = Nt.note ⟨n.terms + 1, n.rest, n.code⟩ r 4) := Lib.hid (by rw [headN_eq, if_pos h64])
        clear h64
        rw [hd]
        go_wp2_with fail
        refine (note_at k r 4 g s r1 _ _ hk rs3).mono ?_
        rintro e w4 ⟨rfl, hR4, hO4⟩
        go_wp2_with fail
        go_meet
        exact ⟨hO4.blk bs3 (by omega), by rw [HH.out]; exact hR4, qs3.trans hO4⟩
      · have hd : decide ((64 : Int) < (n.terms : Int) + 1) = false := by simp; omega
        have HH : Hid (headN n r = ⟨n.terms + 1, n.rest, n.code⟩) := Lib.hid (by rw [headN_eq, if_neg h64, note0])
        clear h64
        rw [hd]
        go_wp2_with fail
        go_meet
        exact ⟨bs3, by rw [HH.out]; exact rs3, qs3⟩
    case rest =>
      clear rs3 qs3 bs3
      obtain ⟨b4, R4, q4⟩ := hcut
      obtain ⟨d0, _⟩ := TB.cells b4
      go_wp2_with fail
      refine (dname_any nm _ (by omega)).mono ?_
      rintro e wq ⟨rfl, rfl⟩
      go_upto_if 38 with fail
      go_cut [] (fun wx => TB wx w.heap.size nm 0 [] [] (.slice none 0 0) ∧ Rd wx g s r1 ((headN n r).step ⟨1, r, nm⟩) ∧ Only g w wx)
      case first =>
        cases hv : nameB nm with
        | true =>
          have HH : Hid ((headN n r).step ⟨1, r, nm⟩ = headN n r) := Lib.hid (by rw [step1, hv, if_pos rfl, note0])
          go_wp2_with fail
          go_meet
          exact ⟨b4, by rw [HH.out]; exact R4, q4⟩
        | false =>
          have HH : Hid ((headN n r).step ⟨1, r, nm⟩ = (headN n r).note r 10) := Lib.hid (by rw [step1, hv]; rfl)
          go_wp2_with fail
          refine (note_at k r 10 g s r1 _ _ hk R4).mono ?_
          rintro e w5 ⟨rfl, hR5, hO5⟩
          go_wp2_with fail
          go_meet
          exact ⟨hO5.blk b4 (by omega), by rw [HH.out]; exact hR5, q4.trans hO5⟩
      case rest =>
        clear b4 R4 q4 d0
        obtain ⟨b5, R5, q5⟩ := hcut
        have HN : Hid ((headN n r).step ⟨1, r, nm⟩ = n.all [⟨0, r, []⟩, ⟨1, r, nm⟩]) := Lib.hid rfl
        rw [HN.out] at R5
        generalize n.all [⟨0, r, []⟩, ⟨1, r, nm⟩] = n1 at R5 HN
        go_wp2_with fail
        refine (sign_any 58 g s r1 n1 _ hs R5).mono ?_
        rintro e w6 ⟨rfl, R6, hO6⟩
        have q6 := q5.trans hO6
        have b6 : TB w6 w.heap.size nm 0 [] [] (.slice none 0 0) := hO6.blk b5 (by omega)
        clear b5 R5 q5 hO6
        go_upto_if 43 with fail
        go_cut [3] (fun s3 wx => ∃ q r2 i1, Hid (pQual r1 = .ok q r2 i1) ∧ TB wx w.heap.size nm 0 [] q (.slice none 0 0) ∧ Rd wx g s r2 (n1.all i1) ∧ Only g w wx ∧ r2.length ≤ s.length)
        case first =>
          rcases hasB_is r1 58 with ⟨u, rfl, hb, hsr⟩ | ⟨hb, hsr, hno⟩
          · rw [hb]
            rw [hsr] at R6
            have HQ : Hid (pQual (58 :: u) = if upTo wEnds u = [] then .bad u else .ok (upTo wEnds u) (behind wEnds u) [⟨2, u, upTo wEnds u⟩]) := Lib.hid rfl
            clear hb hsr
            go_wp2_with fail
            refine (rword_any g s u n1 _ hs R6).mono ?_
            rintro e w7 ⟨rfl, R7, hO7⟩
            have q7 := q6.trans hO7
            have b7 : TB w7 w.heap.size nm 0 [] [] (.slice none 0 0) := hO7.blk b6 (by omega)
            have hbl := behind_len wEnds u
            clear R6 hO7 q6 b6
            obtain ⟨q, Hq⟩ : ∃ q, Hid (upTo wEnds u = q) := ⟨_, Lib.hid rfl⟩
            rw [Hq.out] at HQ hbl
            rw [Hq.out]
            have qs7 : Kept (fun k => k = g) w (w7.setCell ⟨w.heap.size, 3, none⟩ (.string (bs q))) := q7.setCell _ (fun h => by simp only at h; omega)
            have bs7 : TB (w7.setCell ⟨w.heap.size, 3, none⟩ (.string (bs q))) w.heap.size nm 0 [] q (.slice none 0 0) := by
              have := Blk.set (u := .string (bs q)) b7 3
              simpa using this
            have rs7 := R7.keep (Only.set (Kept.refl _ w7) (g := w.heap.size) 3 (.string (bs q))) (fun h => by omega)
            obtain ⟨d0, d1, d2, d3, d4⟩ := TB.cells b7
            have f0 := Blk.free b7 0
            have f1 := Blk.free b7 1
            have f2 := Blk.free b7 2
            have f3 := Blk.free b7 3
            have f4 := Blk.free b7 4
            by_cases hq0 : q = []
            · have he : q.isEmpty = true := by simpa using hq0
              have HB : Hid (x = .bad u) := Lib.hid (by rw [HT.out, pTerm1, HQ.out, if_pos hq0])
              have Hb1 : Hid (behind wEnds u = u) := Lib.hid (by unfold behind past; rw [show (u.takeWhile (noEnd wEnds)) = q from Hq.out, hq0]; rfl)
              rw [Hb1.out] at rs7
              rw [he]
              clear hq0 he b7 q7 R7
              go_wp2_with fail
              generalize w7.setCell ⟨w.heap.size, 3, none⟩ (.string (bs q)) = W at qs7 bs7 rs7 ⊢
              have BW := bs7
              have QW := qs7
              have RW := rs7
              have B5 := set5 BW
              have K5 := kept_set5 QW (Nat.le_refl _) (.string (bs nm)) (.int .i64 0) (.string (bs [])) (.string (bs q)) (.slice none 0 0)
              have K6 := kept_self5 (w := W) (g := w.heap.size) (.string (bs nm)) (.int .i64 0) (.string (bs [])) (.string (bs q)) (.slice none 0 0)
              have R5 := RW.keep K6 (fun h => by omega)
              generalize (((((W).setCell ⟨w.heap.size, 0, none⟩ (.string (bs nm))).setCell ⟨w.heap.size, 1, none⟩ (.int .i64 0)).setCell ⟨w.heap.size, 2, none⟩ (.string (bs []))).setCell ⟨w.heap.size, 3, none⟩ (.string (bs q))).setCell ⟨w.heap.size, 4, none⟩ (.slice none 0 0) = W5 at B5 K5 R5 K6 ⊢
              obtain ⟨e0, e1, e2, e3, e4⟩ := TB.cells B5
              refine bodyPost_ret (v := .tuple #[.agg #[.string (bs nm), .int .i64 0, .string (bs []), .string (bs q), .slice none 0 0], .bool false]) (by simp [results, Tryd.results120, go_sem, e0, e1, e2, e3, e4]) rfl ?_
              rw [HB.out]
              exact ⟨⟨_, R5⟩, ⟨_, _, _, _, rfl⟩, K5⟩
            · have he : q.isEmpty = false := by simpa using hq0
              have HQ2 : Hid (pQual (58 :: u) = .ok q (behind wEnds u) [⟨2, u, q⟩]) := Lib.hid (by rw [HQ.out, if_neg hq0])
              have Hw : Hid (wordN n1 u = n1.all [⟨2, u, q⟩]) := Lib.hid (by rw [wordN, Hq.out, if_neg hq0]; rfl)
              rw [Hw.out] at rs7
              rw [he]
              clear hq0 he b7 q7 R7
              go_wp2_with fail
              go_meet
              exact ⟨q, behind wEnds u, _, HQ2, bs7, rs7, qs7, by rw [List.length_cons] at hup; omega⟩
          · rw [hb]
            rw [hsr] at R6
            have HQ : Hid (pQual r1 = .ok [] r1 []) := Lib.hid (by
              unfold pQual
              split
              · exact absurd rfl (hno _)
              · rfl)
            clear hb hsr hno
            go_wp2_with fail
            go_meet
            exact ⟨[], r1, [], HQ, b6, R6, q6, by omega⟩
        case rest =>
          clear R6 q6 b6
          obtain ⟨q, r2, i1, HQ, b7, R7, q7, hl7⟩ := hcut
          have HT2 : Hid (x = pTerm2 r nm q i1 r2) := Lib.hid (by rw [HT.out, pTerm1, HQ.out])
          clear HT HQ
          go_wp2_with fail
          refine (blanks_any g s r2 _ _ hs R7).mono ?_
          rintro e w8 ⟨rfl, R8, hO8⟩
          have q8 := q7.trans hO8
          have b8 : TB w8 w.heap.size nm 0 [] q (.slice none 0 0) := hO8.blk b7 (by omega)
          have hl8 := skipB_len r2
          clear R7 q7 b7 hO8
          have HT2 : Hid (x = match pRelQ (skipB r2) with
            | .bad b => .bad b
            | .ok ov r2 i2 => pTerm3 r nm q (i1 ++ i2) ov.1 ov.2 r2) := Lib.hid (by rw [HT2.out, pTerm2]; cases pRelQ (skipB r2) <;> rfl)
          generalize skipB r2 = r3 at HT2 R8 hl8
          go_wp2_with fail
          refine (sign_any 40 g s r3 _ _ hs R8).mono ?_
          rintro e w9 ⟨rfl, R9, hO9⟩
          have q9 := q8.trans hO9
          have b9 : TB w9 w.heap.size nm 0 [] q (.slice none 0 0) := hO9.blk b8 (by omega)
          clear R8 q8 b8 hO9
          go_upto_if 56 with fail
          go_cut [3] (fun s3 wx => ∃ op v r4 i2, Hid (pRelQ r3 = .ok (op, v) r4 i2) ∧ TB wx w.heap.size nm op v q (.slice none 0 0) ∧ Rd wx g s r4 ((n1.all i1).all i2) ∧ Only g w wx)
          case first =>
            rcases hasB_is r3 40 with ⟨u, rfl, hb, hsr⟩ | ⟨hb, hsr, hno⟩
            · rw [hb]
              rw [hsr] at R9
              have HR : Hid (pRelQ (40 :: u) = pRel u) := Lib.hid rfl
              clear hb hsr
              have hw9 := hw.kept q9 hg
              go_wp2_with fail
              refine (relation_any g s u _ _ hs R9 hw9 hg).mono ?_
              intro e w10 hrel
              cases hp : pRel u with
              | bad b =>
                rw [hp] at hrel
                obtain ⟨⟨n', R10⟩, rfl, hO10⟩ := hrel
                have q10 := q9.trans hO10
                have b10 : TB w10 w.heap.size nm 0 [] q (.slice none 0 0) := hO10.blk b9 (by omega)
                have HB : Hid (x = .bad b) := Lib.hid (by rw [HT2.out, HR.out, hp])
                have qs10 : Kept (fun k => k = g) w ((w10.setCell ⟨w.heap.size, 1, none⟩ (.int .i64 0)).setCell ⟨w.heap.size, 2, none⟩ (.string (bs []))) := (q10.setCell _ (fun h => by simp only at h; omega)).setCell _ (fun h => by simp only at h; omega)
                have bs10 : TB ((w10.setCell ⟨w.heap.size, 1, none⟩ (.int .i64 0)).setCell ⟨w.heap.size, 2, none⟩ (.string (bs []))) w.heap.size nm 0 [] q (.slice none 0 0) := by
                  have := Blk.set (u := .string (bs [])) (Blk.set (u := .int .i64 0) b10 1) 2
                  simpa using this
                have rs10 := R10.keep (Only.set (Only.set (Kept.refl _ w10) (g := w.heap.size) 1 (.int .i64 0)) 2 (.string (bs []))) (fun h => by omega)
                obtain ⟨d0, d1, d2, d3, d4⟩ := TB.cells b10
                have f0 := Blk.free b10 0
                have f1 := Blk.free b10 1
                have f2 := Blk.free b10 2
                have f3 := Blk.free b10 3
                have f4 := Blk.free b10 4
                clear R9 q9 b9 R10 q10 b10 hp HR hO10
                go_wp2_with fail
                generalize (w10.setCell ⟨w.heap.size, 1, none⟩ (.int .i64 0)).setCell ⟨w.heap.size, 2, none⟩ (.string (bs [])) = W at qs10 bs10 rs10 ⊢
                have BW := bs10
                have QW := qs10
                have RW := rs10
                have B5 := set5 BW
                have K5 := kept_set5 QW (Nat.le_refl _) (.string (bs nm)) (.int .i64 0) (.string (bs [])) (.string (bs q)) (.slice none 0 0)
                have K6 := kept_self5 (w := W) (g := w.heap.size) (.string (bs nm)) (.int .i64 0) (.string (bs [])) (.string (bs q)) (.slice none 0 0)
                have R5 := RW.keep K6 (fun h => by omega)
                generalize (((((W).setCell ⟨w.heap.size, 0, none⟩ (.string (bs nm))).setCell ⟨w.heap.size, 1, none⟩ (.int .i64 0)).setCell ⟨w.heap.size, 2, none⟩ (.string (bs []))).setCell ⟨w.heap.size, 3, none⟩ (.string (bs q))).setCell ⟨w.heap.size, 4, none⟩ (.slice none 0 0) = W5 at B5 K5 R5 K6 ⊢
                obtain ⟨e0, e1, e2, e3, e4⟩ := TB.cells B5
                refine bodyPost_ret (v := .tuple #[.agg #[.string (bs nm), .int .i64 0, .string (bs []), .string (bs q), .slice none 0 0], .bool false]) (by simp [results, Tryd.results120, go_sem, e0, e1, e2, e3, e4]) rfl ?_
                rw [HB.out]
                exact ⟨⟨_, R5⟩, ⟨_, _, _, _, rfl⟩, K5⟩
              | ok v r4 i2 =>
                rw [hp] at hrel
                obtain ⟨rfl, R10, hO10⟩ := hrel
                obtain ⟨op, v⟩ := v
                have q10 := q9.trans hO10
                have b10 : TB w10 w.heap.size nm 0 [] q (.slice none 0 0) := hO10.blk b9 (by omega)
                have HR2 : Hid (pRelQ (40 :: u) = .ok (op, v) r4 i2) := Lib.hid (by rw [HR.out, hp])
                have qs10 : Kept (fun k => k = g) w ((w10.setCell ⟨w.heap.size, 1, none⟩ (.int .i64 op)).setCell ⟨w.heap.size, 2, none⟩ (.string (bs v))) := (q10.setCell _ (fun h => by simp only at h; omega)).setCell _ (fun h => by simp only at h; omega)
                have bs10 : TB ((w10.setCell ⟨w.heap.size, 1, none⟩ (.int .i64 op)).setCell ⟨w.heap.size, 2, none⟩ (.string (bs v))) w.heap.size nm op v q (.slice none 0 0) := by
                  have := Blk.set (u := .string (bs v)) (Blk.set (u := .int .i64 op) b10 1) 2
                  simpa using this
                have rs10 := R10.keep (Only.set (Only.set (Kept.refl _ w10) (g := w.heap.size) 1 (.int .i64 op)) 2 (.string (bs v))) (fun h => by omega)
                obtain ⟨d0, d1, d2, d3, d4⟩ := TB.cells b10
                have f0 := Blk.free b10 0
                have f1 := Blk.free b10 1
                have f2 := Blk.free b10 2
                have f3 := Blk.free b10 3
                have f4 := Blk.free b10 4
                clear R9 q9 b9 R10 q10 b10 hp HR hO10
                go_wp2_with fail
                go_meet
                exact ⟨op, v, r4, i2, HR2, bs10, rs10, qs10⟩
            · rw [hb]
              rw [hsr] at R9
              have HR : Hid (pRelQ r3 = .ok (0, []) r3 []) := Lib.hid (by
                unfold pRelQ
                split
                · exact absurd rfl (hno _)
                · rfl)
              clear hb hsr hno
              go_wp2_with fail
              go_meet
              exact ⟨0, [], r3, [], HR, b9, R9, q9⟩
          case rest =>
            clear R9 q9 b9
            obtain ⟨op, v, r4, i2, HR, b10, R10, q10⟩ := hcut
            have HT3 : Hid (x = pTerm3 r nm q (i1 ++ i2) op v r4) := Lib.hid (by rw [HT2.out, HR.out])
            clear HT2 HR
            go_wp2_with fail
            refine (sign_any 91 g s r4 _ _ hs R10).mono ?_
            rintro e w11 ⟨rfl, R11, hO11⟩
            have q11 := q10.trans hO11
            have b11 : TB w11 w.heap.size nm op v q (.slice none 0 0) := hO11.blk b10 (by omega)
            clear R10 q10 b10 hO11
            go_upto_if 71 with fail
            go_cut [3] (fun s3 wx => ∃ ar r5 i3 val, Hid (pArchQ r4 = .ok ar r5 i3) ∧ TB wx w.heap.size nm op v q val ∧ Sl 1 Rtext (old (w.heap.size + 1)) wx val ar ∧ Rd wx g s r5 (((n1.all i1).all i2).all i3) ∧ Only g w wx)
            case first =>
              rcases hasB_is r4 91 with ⟨u, rfl, hb, hsr⟩ | ⟨hb, hsr, hno⟩
              · rw [hb]
                rw [hsr] at R11
                have HA : Hid (pArchQ (91 :: u) = pArchs (skipB u) [] []) := Lib.hid rfl
                clear hb hsr
                go_wp2_with fail
                refine (archs_any g s u _ _ hs R11).mono ?_
                intro e w12 harch
                cases hp : pArchs (skipB u) [] [] with
                | bad b =>
                  rw [hp] at harch
                  obtain ⟨⟨n', R12⟩, rfl, hO12⟩ := harch
                  have q12 := q11.trans hO12
                  have b12 : TB w12 w.heap.size nm op v q (.slice none 0 0) := hO12.blk b11 (by omega)
                  have HB : Hid (x = .bad b) := Lib.hid (by rw [HT3.out, pTerm3, HA.out, hp])
                  have qs12 : Kept (fun k => k = g) w (w12.setCell ⟨w.heap.size, 4, none⟩ (.slice none 0 0)) := q12.setCell _ (fun h => by simp only at h; omega)
                  have bs12 : TB (w12.setCell ⟨w.heap.size, 4, none⟩ (.slice none 0 0)) w.heap.size nm op v q (.slice none 0 0) := by
                    have := Blk.set (u := .slice none 0 0) b12 4
                    simpa using this
                  have rs12 := R12.keep (Only.set (Kept.refl _ w12) (g := w.heap.size) 4 (.slice none 0 0)) (fun h => by omega)
                  obtain ⟨d0, d1, d2, d3, d4⟩ := TB.cells b12
                  have f0 := Blk.free b12 0
                  have f1 := Blk.free b12 1
                  have f2 := Blk.free b12 2
                  have f3 := Blk.free b12 3
                  have f4 := Blk.free b12 4
                  clear R11 q11 b11 R12 q12 b12 hp HA hO12
                  go_wp2_with fail
                  generalize w12.setCell ⟨w.heap.size, 4, none⟩ (.slice none 0 0) = W at qs12 bs12 rs12 ⊢
                  have BW := bs12
                  have QW := qs12
                  have RW := rs12
                  have B5 := set5 BW
                  have K5 := kept_set5 QW (Nat.le_refl _) (.string (bs nm)) (.int .i64 op) (.string (bs v)) (.string (bs q)) (.slice none 0 0)
                  have K6 := kept_self5 (w := W) (g := w.heap.size) (.string (bs nm)) (.int .i64 op) (.string (bs v)) (.string (bs q)) (.slice none 0 0)
                  have R5 := RW.keep K6 (fun h => by omega)
                  generalize (((((W).setCell ⟨w.heap.size, 0, none⟩ (.string (bs nm))).setCell ⟨w.heap.size, 1, none⟩ (.int .i64 op)).setCell ⟨w.heap.size, 2, none⟩ (.string (bs v))).setCell ⟨w.heap.size, 3, none⟩ (.string (bs q))).setCell ⟨w.heap.size, 4, none⟩ (.slice none 0 0) = W5 at B5 K5 R5 K6 ⊢
                  obtain ⟨e0, e1, e2, e3, e4⟩ := TB.cells B5
                  refine bodyPost_ret (v := .tuple #[.agg #[.string (bs nm), .int .i64 op, .string (bs v), .string (bs q), .slice none 0 0], .bool false]) (by simp [results, Tryd.results120, go_sem, e0, e1, e2, e3, e4]) rfl ?_
                  rw [HB.out]
                  exact ⟨⟨_, R5⟩, ⟨_, _, _, _, rfl⟩, K5⟩
                | ok ar r5 i3 =>
                  rw [hp] at harch
                  obtain ⟨⟨val, rfl, hsl⟩, R12, hO12⟩ := harch
                  have q12 := q11.trans hO12
                  have b12 : TB w12 w.heap.size nm op v q (.slice none 0 0) := hO12.blk b11 (by omega)
                  have HA2 : Hid (pArchQ (91 :: u) = .ok ar r5 i3) := Lib.hid (by rw [HA.out, hp])
                  have hgt : w.heap.size < w11.heap.size := Blk.lt b11
                  obtain ⟨A5, cap5, rfl, _, _⟩ := hsl.form
                  have qs12 : Kept (fun k => k = g) w (w12.setCell ⟨w.heap.size, 4, none⟩ (.slice A5 ar.length cap5)) := q12.setCell _ (fun h => by simp only at h; omega)
                  have bs12 : TB (w12.setCell ⟨w.heap.size, 4, none⟩ (.slice A5 ar.length cap5)) w.heap.size nm op v q (.slice A5 ar.length cap5) := by
                    have := Blk.set (u := .slice A5 ar.length cap5) b12 4
                    simpa using this
                  have kset := Only.set (Kept.refl _ w12) (g := w.heap.size) 4 (.slice A5 ar.length cap5)
                  have rs12 := R12.keep kset (fun h => by omega)
                  have sl12 : Sl 1 Rtext (old (w.heap.size + 1)) (w12.setCell ⟨w.heap.size, 4, none⟩ (.slice A5 ar.length cap5)) (.slice A5 ar.length cap5) ar := (hsl.keep good_text (kset.mono fun i _ hi => by unfold old; omega)).mono good_text (by omega) (fun i _ hi => by unfold old at hi ⊢; omega)
                  obtain ⟨d0, d1, d2, d3, d4⟩ := TB.cells b12
                  have f0 := Blk.free b12 0
                  have f1 := Blk.free b12 1
                  have f2 := Blk.free b12 2
                  have f3 := Blk.free b12 3
                  have f4 := Blk.free b12 4
                  clear R11 q11 b11 R12 q12 b12 hp HA hO12 hsl kset
                  go_wp2_with fail
                  go_meet
                  exact ⟨ar, r5, i3, _, HA2, bs12, sl12, rs12, qs12⟩
              · rw [hb]
                rw [hsr] at R11
                have HA : Hid (pArchQ r4 = .ok [] r4 []) := Lib.hid (by
                  unfold pArchQ
                  split
                  · exact absurd rfl (hno _)
                  · rfl)
                clear hb hsr hno
                go_wp2_with fail
                go_meet
                exact ⟨[], r4, [], _, HA, b11, Sl.nil _ _ _ _, R11, q11⟩
            case rest =>
              clear R11 q11 b11
              obtain ⟨ar, r5, i3, val, HA, BW, hsl, RW, QW⟩ := hcut
              have HB : Hid (x = .ok ⟨nm, op, v, q, ar⟩ r5 (⟨0, r, []⟩ :: ⟨1, r, nm⟩ :: ((i1 ++ i2) ++ i3))) := Lib.hid (by rw [HT3.out, pTerm3, HA.out])
              have HN2 : Hid (((n1.all i1).all i2).all i3 = n.all (⟨0, r, []⟩ :: ⟨1, r, nm⟩ :: ((i1 ++ i2) ++ i3))) := Lib.hid (by
                rw [show (⟨0, r, []⟩ :: ⟨1, r, nm⟩ :: ((i1 ++ i2) ++ i3) : List It) = [⟨0, r, []⟩, ⟨1, r, nm⟩] ++ ((i1 ++ i2) ++ i3) from rfl, Nt.all_app, Nt.all_app, Nt.all_app, ← HN.out]
                rfl)
              rw [HN2.out] at RW
              obtain ⟨A5, cap5, rfl, _, _⟩ := hsl.form
              obtain ⟨d0, d1, d2, d3, d4⟩ := TB.cells BW
              have f0 := Blk.free BW 0
              have f1 := Blk.free BW 1
              have f2 := Blk.free BW 2
              have f3 := Blk.free BW 3
              have f4 := Blk.free BW 4
              have sl5 := (hsl.keep good_text ((kept_self5 (w := wc) (g := w.heap.size) (.string (bs nm)) (.int .i64 op) (.string (bs v)) (.string (bs q)) (.slice A5 ar.length cap5)).mono fun i _ hi => by unfold old; omega)).mono (Y := old w.heap.size) good_text (by omega) (fun i _ hi => by unfold old at hi ⊢; omega)
              go_wp2_with fail
              have B5 := set5 BW
              have K5 := kept_set5 QW (Nat.le_refl _) (.string (bs nm)) (.int .i64 op) (.string (bs v)) (.string (bs q)) (.slice A5 ar.length cap5)
              have K6 := kept_self5 (w := wc) (g := w.heap.size) (.string (bs nm)) (.int .i64 op) (.string (bs v)) (.string (bs q)) (.slice A5 ar.length cap5)
              have R5 := RW.keep K6 (fun h => by omega)
              generalize (((((wc).setCell ⟨w.heap.size, 0, none⟩ (.string (bs nm))).setCell ⟨w.heap.size, 1, none⟩ (.int .i64 op)).setCell ⟨w.heap.size, 2, none⟩ (.string (bs v))).setCell ⟨w.heap.size, 3, none⟩ (.string (bs q))).setCell ⟨w.heap.size, 4, none⟩ (.slice A5 ar.length cap5) = W5 at B5 K5 R5 K6 sl5 ⊢
              obtain ⟨e0, e1, e2, e3, e4⟩ := TB.cells B5
              refine bodyPost_ret (v := .tuple #[.agg #[.string (bs nm), .int .i64 op, .string (bs v), .string (bs q), .slice A5 ar.length cap5], .bool true]) (by simp [results, Tryd.results120, go_sem, e0, e1, e2, e3, e4]) rfl ?_
              rw [HB.out]
              exact ⟨⟨_, rfl, sl5⟩, R5, K5⟩
end Go.Proofs.YtdnncbhbajciaaaDoor
namespace Go.Proofs.YtdnncbhbajciaaaDoor
open Go.RowKit
/-- A term in memory. -/
def Rterm : Rel Tm := fun X w cs t => ∃ v, cs = [.string (bs t.name), .int .i64 t.op, .string (bs t.ver), .string (bs t.qual), v] ∧ Sl 1 Rtext X w v t.archs
theorem good_term : Good 5 Rterm :=
  ⟨fun ⟨v, h1, h2⟩ k => ⟨v, h1, h2.keep good_text k⟩, fun ⟨v, h1, h2⟩ k => ⟨v, h1, h2.mono good_text (by omega) k⟩, (fun ⟨v, h1, _⟩ => by subst h1; rfl), (fun ⟨v, h1, h2⟩ u hu => by
    subst h1
    obtain ⟨A, cap, rfl, _⟩ := h2
    simp only [List.mem_cons, List.not_mem_nil, or_false] at hu
    rcases hu with rfl | rfl | rfl | rfl | rfl <;> rfl)⟩
theorem info_term : (Tryd.prog.info? 50).map (fun i => (i.zero, i.size, i.bytes)) = some (some (.agg #[.string ⟨#[]⟩, .int .i64 0, .string ⟨#[]⟩, .string ⟨#[]⟩, .slice none 0 0]), 5, 80) := by kernel_rfl
theorem info_group : (Tryd.prog.info? 45).map (fun i => (i.zero, i.size, i.bytes)) = some (some (.slice none 0 0), 1, 24) := by kernel_rfl
theorem OwnL.lt {α : Type} {sz : Nat} {R : Rel α} {e : TypeId} {base : Nat} {X : Nat → Prop} {w : World} {v : Value} {l : List α} (h : OwnL sz R e base X w v l) : ∀ i, v.ownBlock = some i → i < w.heap.size := by
  obtain ⟨_, ho, _⟩ := h
  exact fun i hi => (ho.lt i hi).2
theorem all_terms (its : List It) (h : ∀ it ∈ its, it.kind ≠ 0) (n : Nt) : (n.all its).terms = n.terms := by
  induction its generalizing n with
  | nil => rfl
  | cons it its ih =>
    show ((n.step it).all its).terms = _
    rw [ih (fun x hx => h x (by simp [hx])), Nt.step, if_neg (h it (by simp)), note_terms]
theorem pArchs_kind (r : List UInt8) (acc : List (List UInt8)) (its : List It) (h0 : ∀ it ∈ its, it.kind ≠ 0) : ∀ a q i, pArchs r acc its = .ok a q i → ∀ it ∈ i, it.kind ≠ 0 := by
  induction hn : r.length using Nat.strongRecOn generalizing r acc its with
  | ind n ih =>
    intro a q i h
    rw [pArchs] at h
    have h3 := notP_len r
    have h4 := skipB_len (behind wEnds (notP r).2)
    have h5 := behind_len wEnds (notP r).2
    have hs : ∀ it ∈ its ++ [(⟨2, (notP r).2, upTo wEnds (notP r).2⟩ : It)], it.kind ≠ 0 := fun it hit => by
      rcases List.mem_append.1 hit with h | h
      · exact h0 it h
      · rw [List.mem_singleton.1 h]; simp
    split at h
    · cases h
    · rename_i hne
      have h6 := upTo_pos _ _ hne
      split at h
      · injection h with _ _ h2
        rw [← h2]; exact hs
      · split at h
        · cases h
        · exact ih _ (by omega) _ _ _ hs rfl a q i h
theorem pTerm_terms (r : List UInt8) (n : Nt) : ∀ a q i, pTerm r = .ok a q i → (n.all i).terms = n.terms + 1 := by
  intro a q i h
  unfold pTerm at h
  split at h
  · cases h
  · unfold pTerm1 at h
    split at h
    · cases h
    · rename_i q1 r1 i1 e1
      have k1 : ∀ it ∈ i1, it.kind ≠ 0 := by
        unfold pQual at e1
        split at e1
        · split at e1
          · cases e1
          · injection e1 with _ _ e; rw [← e]; intro it hit; rw [List.mem_singleton.1 hit]; simp
        · injection e1 with _ _ e; rw [← e]; simp
      unfold pTerm2 at h
      split at h
      · cases h
      · rename_i ov r2 i2 e2
        have k2 : ∀ it ∈ i2, it.kind ≠ 0 := by
          unfold pRelQ at e2
          split at e2
          · unfold pRel at e2
            split at e2
            · cases e2
            · unfold pRel2 at e2
              split at e2
              · cases e2
              · split at e2
                · injection e2 with _ _ e; rw [← e]; intro it hit; rw [List.mem_singleton.1 hit]; simp
                · cases e2
          · injection e2 with _ _ e; rw [← e]; simp
        unfold pTerm3 at h
        split at h
        · cases h
        · rename_i a3 r3 i3 e3
          have k3 : ∀ it ∈ i3, it.kind ≠ 0 := by
            unfold pArchQ at e3
            split at e3
            · exact pArchs_kind _ _ _ (by simp) _ _ _ e3
            · injection e3 with _ _ e; rw [← e]; simp
          injection h with _ _ h4
          rw [← h4]
          show (((n.step ⟨0, r, []⟩).step ⟨1, r, upTo nEnds r⟩).all ((i1 ++ i2) ++ i3)).terms = _
          rw [all_terms _ (fun it hit => by
            rcases List.mem_append.1 hit with h | h
            · rcases List.mem_append.1 h with h | h
              · exact k1 it h
              · exact k2 it h
            · exact k3 it h), step1, note_terms]
          show (headN n r).terms = _
          rw [headN_eq, note_terms]
/-- What reading a group gives. -/
def GroupR (g : Nat) (s : List UInt8) (n : Nt) (w : World) (x : Res (List Tm)) (e : Ending) (w' : World) : Prop := match x with
  | .bad b => (∃ n', Rd w' g s b n') ∧ e = .returned (.tuple #[.slice none 0 0, .bool false]) ∧ Only g w w'
  | .ok l q its => (∃ v, e = .returned (.tuple #[v, .bool true]) ∧ Sl 5 Rterm (old w.heap.size) w' v l) ∧ Rd w' g s q (n.all its) ∧ Only g w w'
set_option maxRecDepth 20000 in
set_option maxHeartbeats 16000000 in
theorem group_any (g : Nat) (s r : List UInt8) (n : Nt) (w : World) (hs : s.length ≤ 1000000) (hn : n.terms + r.length ≤ 100000000) (h : Rd w g s r n) (hw : Words w) (hg : 2 ≠ g) :
    Calls Tryd.prog 93 #[.pointer (some ⟨g, 0, none⟩)] w (GroupR g s n w (pGroup r [] [])) := by
  have hgw : g < w.heap.size := by obtain ⟨_, _, _, hB⟩ := h; exact hB.lt
  obtain ⟨x, hx⟩ : ∃ x, pGroup r [] [] = x := ⟨_, rfl⟩
  rw [hx]
  have HX := Lib.hid hx
  clear hx
  go_enter Tryd.func93, Tryd.ntmps93
  go_wp2_with fail
  go_loopg [4] r.length (fun G s4 wr => ∃ (r' : List UInt8) (acc : List Tm) (its : List It), G = r'.length ∧ acc.length + r'.length ≤ r.length ∧ (n.all its).terms + r'.length ≤ n.terms + r.length ∧ OwnL 5 Rterm 50 w.heap.size (old w.heap.size) wr s4 acc ∧ Rd wr g s r' (n.all its) ∧ Only g w wr ∧ Hid (x = pGroup r' acc its))
  case atStart => exact ⟨r, [], [], rfl, by simp, Nat.le_refl _, OwnL.nil _ _ _ _ _ _, h, Kept.refl _ _, Lib.hid HX.out.symm⟩
  case round =>
    clear h HX
    obtain ⟨r', acc, its, rfl, hl1, hl2, hown, hR, hO, HE⟩ := hrel
    obtain ⟨A4, cap4, rfl⟩ := hown.form
    have hw1 := hw.kept hO hg
    go_wp2_with fail
    refine (term_any g s r' _ _ hs (by omega) hR hw1 hg).mono ?_
    intro e w1 ht
    cases hp : pTerm r' with
    | bad b =>
      rw [hp] at ht
      obtain ⟨⟨n', R1⟩, ⟨x0, x1, x2, x3, rfl⟩, hO1⟩ := ht
      have HB : Hid (x = .bad b) := Lib.hid (by rw [HE.out, pGroup_bad r' acc its b hp])
      have q1 := hO.trans hO1
      have kal := Kept.of_below ((Below.refl w1.heap.size w1).alloc (Nat.le_refl _) (.cells #[.string x0, .int .i64 x1, .string x2, .string x3, .slice none 0 0] 50)) nowhere
      have R2 := R1.keep kal (fun h => h)
      have q2 := q1.trans (kal.mono fun _ _ h => h.elim)
      clear hp HE kal R1 q1
      go_wp2_with fail
      go_ret2
      rw [HB.out]
      exact ⟨⟨_, R2⟩, rfl, q2⟩
    | ok t q i =>
      rw [hp] at ht
      obtain ⟨⟨v, rfl, hsl⟩, R1, hO1⟩ := ht
      have q1 := hO.trans hO1
      have hlen := pTerm_len r' _ _ _ hp
      have htm := pTerm_terms r' (n.all its) _ _ _ hp
      rw [← Nt.all_app] at htm R1
      have hown1 := hown.keep good_term (hO1.old hgw)
      have hrow : ∀ k, (Value.slice A4 acc.length cap4).ownBlock = some k → k < wr.heap.size := hown.lt
      have hRt : Rterm (fun k => old w.heap.size k ∨ (Value.slice A4 acc.length cap4).ownBlock = some k) w1 [.string (bs t.name), .int .i64 t.op, .string (bs t.ver), .string (bs t.qual), v] t := ⟨v, rfl, hsl.mono good_text (by omega) (fun k _ hk => by
        have := hO.size
        rcases hk with h | h
        · unfold old at h ⊢; omega
        · exact hrow k h)⟩
      obtain ⟨A5, cap5, rfl, _, _⟩ := hsl.form
      have HP := Lib.hid hp
      clear hp hsl hown hR hO hO1 hrow
      have kal := Kept.of_below ((Below.refl w1.heap.size w1).alloc (Nat.le_refl _) (.cells #[.string (bs t.name), .int .i64 t.op, .string (bs t.ver), .string (bs t.qual), .slice A5 t.archs.length cap5] 50)) nowhere
      have hown2 := hown1.keep good_term (kal.mono fun _ _ h => h.elim)
      have hRt2 := good_term.keep hRt (kal.mono fun _ _ h => h.elim)
      have R2 := R1.keep kal (fun h => h)
      have q2 := q1.trans (kal.mono fun _ _ h => h.elim)
      have bT := Blk.new w1 50 #[.string (bs t.name), .int .i64 t.op, .string (bs t.ver), .string (bs t.qual), .slice A5 t.archs.length cap5]
      clear hown1 hRt R1 q1 kal
      go_upto_region 5 with fail
      generalize w1.alloc (.cells #[.string (bs t.name), .int .i64 t.op, .string (bs t.ver), .string (bs t.qual), .slice A5 t.archs.length cap5] 50) = W at hown2 hRt2 R2 q2 bT ⊢
      obtain ⟨d0, d1, d2, d3, d4⟩ := TB.cells bT
      go_wp2_with (at_builtin; refine wpList_appendL (l := acc) good_term rfl _ _ _ _ _ 80 rfl Tryd.underlying45 info_term rfl (by omega) w.heap.size rfl hown2 [.string (bs t.name), .int .i64 t.op, .string (bs t.ver), .string (bs t.qual), .slice A5 t.archs.length cap5] t rfl hRt2 (by omega) (by omega) q2.size (fun k hk hk2 => by have := q2.size; unfold old at hk2; omega) ?_; intro v5 w5 hown5 hk5)
      have hk5 : Kept (fun k => (Value.slice A4 acc.length cap4).ownBlock = some k) W w5 := hk5
      have hnew := hown2.new
      have q5 := q2.row hk5 hnew
      have R5 := R2.keep hk5 (fun h => by have := hnew g h; omega)
      obtain ⟨A6, cap6, hv6⟩ := hown5.form
      rw [List.length_append, List.length_singleton] at hv6
      subst hv6
      clear hk5 hown2 q2 R2 hnew bT d0 d1 d2 d3 d4 hRt2
      refine (sign_any 124 g s q _ _ hs R5).mono ?_
      rintro e w6 ⟨rfl, R6, hO6⟩
      have hown6 := hown5.keep good_term (hO6.old hgw)
      have q6 := q5.trans hO6
      clear R5 q5 hO6 hown5
      rcases hasB_is q 124 with ⟨u, rfl, hb, hsr⟩ | ⟨hb, hsr, hno⟩
      · rw [hb]
        rw [hsr] at R6
        have HV : Hid (x = pGroup (skipB u) (acc ++ [t]) (its ++ i)) := Lib.hid (by rw [HE.out, pGroup_next r' acc its t u i HP.out])
        rw [List.length_cons] at hlen
        clear hb hsr HE HP
        go_wp2_with fail
        refine (blanks_any g s u _ _ hs R6).mono ?_
        rintro e w7 ⟨rfl, R7, hO7⟩
        have hown7 := hown6.keep good_term (hO7.old hgw)
        have q7 := q6.trans hO7
        have hsl := skipB_len u
        go_wp2_with fail
        go_roundg (skipB u).length
        case measure => omega
        case rel => exact ⟨skipB u, acc ++ [t], its ++ i, rfl, by simp; omega, by omega, hown7, R7, q7, HV⟩
      · rw [hb]
        rw [hsr] at R6
        have HV : Hid (x = .ok (acc ++ [t]) q (its ++ i)) := Lib.hid (by rw [HE.out, pGroup_end r' acc its t q i HP.out hno])
        clear hb hsr HE HP hno
        go_wp2_with fail
        go_ret2
        rw [HV.out]
        exact ⟨⟨_, rfl, hown6.sl good_term⟩, R6, q6⟩
end Go.Proofs.YtdnncbhbajciaaaDoor
namespace Go.Proofs.YtdnncbhbajciaaaDoor
open Go.RowKit
theorem pGroup_terms (r : List UInt8) (acc : List Tm) (its : List It) (n : Nt) : ∀ a q i, pGroup r acc its = .ok a q i → (n.all i).terms + q.length ≤ (n.all its).terms + r.length := by
  induction hn : r.length using Nat.strongRecOn generalizing r acc its with
  | ind m ih =>
    intro a q i h
    cases ht : pTerm r with
    | bad b => rw [pGroup_bad r acc its b ht] at h; cases h
    | ok t r1 i1 =>
      have h1 := pTerm_len _ _ _ _ ht
      have h2 := pTerm_terms r (n.all its) _ _ _ ht
      rw [← Nt.all_app] at h2
      by_cases hd : ∃ u, r1 = 124 :: u
      · obtain ⟨u, rfl⟩ := hd
        rw [pGroup_next r acc its t u i1 ht] at h
        have h3 := skipB_len u
        rw [List.length_cons] at h1
        have := ih _ (by omega) _ _ _ rfl a q i h
        omega
      · rw [pGroup_end r acc its t r1 i1 ht (fun u e => hd ⟨u, e⟩)] at h
        injection h with _ h3 h4
        rw [← h3, ← h4]
        omega
abbrev Rgroup : Rel (List Tm) := Rslice 5 Rterm
theorem good_group : Good 1 Rgroup := good_slice good_term (by omega)
/-- What reading a field gives. -/
def FieldR (g : Nat) (s : List UInt8) (n : Nt) (w : World) (x : Res (List (List Tm))) (e : Ending) (w' : World) : Prop := match x with
  | .bad b => (∃ n', Rd w' g s b n') ∧ e = .returned (.tuple #[.slice none 0 0, .bool false]) ∧ Only g w w'
  | .ok l _ its => (∃ v, e = .returned (.tuple #[v, .bool true]) ∧ Sl 1 Rgroup (old w.heap.size) w' v l) ∧ (∃ q, Rd w' g s q (n.all its)) ∧ Only g w w'
theorem Rd.at2 {w : World} {g : Nat} {s r : List UInt8} {n : Nt} (h : Rd w g s r n) : ∃ k : Nat, w.cell? ⟨g, 0, none⟩ = some (.string (bs s)) ∧ w.cell? ⟨g, 1, none⟩ = some (.int .i64 k) ∧ (((k : Int) == ((bs s).size : Int)) = r.isEmpty) := by
  obtain ⟨k, hk, rfl, hB⟩ := h
  refine ⟨k, by simpa using hB.cell 0, by simpa using hB.cell 1, ?_⟩
  rw [bs_size]
  by_cases he : k = s.length
  · subst he; simp
  · have : (s.drop k).isEmpty = false := by
      cases hd : s.drop k with
      | nil => have := congrArg List.length hd; rw [List.length_drop] at this; simp at this; omega
      | cons => rfl
    rw [this]
    exact beq_eq_false_iff_ne.2 (by omega)
theorem Rd.drew {w : World} {g : Nat} {s r : List UInt8} {n : Nt} (h : Rd w g s r n) : Rd w.drew g s r n := h.keep (Kept.refl nowhere w).drew (fun h => h)
set_option maxRecDepth 20000 in
set_option maxHeartbeats 16000000 in
theorem field_any (g : Nat) (s r : List UInt8) (n : Nt) (w : World) (hs : s.length ≤ 1000000) (hn : n.terms + r.length ≤ 100000000) (h : Rd w g s r n) (hw : Words w) (hg : 2 ≠ g) :
    Calls Tryd.prog 55 #[.pointer (some ⟨g, 0, none⟩)] w (FieldR g s n w (pAll r)) := by
  have hgw : g < w.heap.size := by obtain ⟨_, _, _, hB⟩ := h; exact hB.lt
  obtain ⟨x, hx⟩ : ∃ x, pAll r = x := ⟨_, rfl⟩
  rw [hx]
  have HX := Lib.hid hx
  clear hx
  go_enter Tryd.func55, Tryd.ntmps55
  go_wp2_with fail
  refine (blanks_any g s r n _ hs h).mono ?_
  rintro e w1 ⟨rfl, R1, q1⟩
  have hl1 := skipB_len r
  have HX : Hid (x = if skipB r = [] then .ok [] [] [] else pField (skipB r) [] []) := Lib.hid (by rw [← HX.out]; rfl)
  generalize skipB r = r0 at HX hl1 R1
  clear h
  obtain ⟨k, c0, c1, ck⟩ := R1.at2
  by_cases h0 : r0 = []
  · have hb : r0.isEmpty = true := by simpa using h0
    have HV : Hid (x = .ok [] [] []) := Lib.hid (by rw [HX.out, if_pos h0])
    rw [hb] at ck
    clear hb HX
    go_wp2_with fail
    refine wp_region_plan (fun W => W.cell? ⟨g, 0, none⟩ = some (.string (bs s)) ∧ W.cell? ⟨g, 1, none⟩ = some (.int .i64 k)) [(false, 0), (false, 1), (false, 2), (false, 3), (false, 4), (false, 5), (false, 6), (false, 7), (false, 8), (false, 9)] (by kernel_rfl) (by kernel_rfl) (⟨by simpa using c0, by simpa using c1⟩) ?_
    simp only [planOps, List.map, List.getD_cons_zero, List.getD_cons_succ]
    iterate 10 ((first | refine plan_quiet (v := ?_) rfl rfl (fun w' hw' => ?_) ?_ | refine plan_calm (v := ?_) (tt_of) rfl (fun w' hw' => ?_) ?_); rotate_left; (focus (go_simp <;> with_reducible rfl)); simp only [Act.put, List.setIfInBounds_toArray, List.set_cons_zero, List.set_cons_succ])
    refine plan_end ?_
    go_wp2_with fail
    go_ret2
    rw [HV.out]
    exact ⟨⟨_, rfl, Sl.nil _ _ _ _⟩, ⟨_, R1.drew⟩, q1.drew⟩
  · have hb : r0.isEmpty = false := by simpa using h0
    have HV : Hid (x = pField r0 [] []) := Lib.hid (by rw [HX.out, if_neg h0])
    rw [hb] at ck
    clear hb HX h0
    go_wp2_with fail
    refine wp_region_plan (fun W => W.cell? ⟨g, 0, none⟩ = some (.string (bs s)) ∧ W.cell? ⟨g, 1, none⟩ = some (.int .i64 k)) [(false, 0), (false, 1), (false, 2), (false, 3), (false, 4), (false, 5), (false, 6), (false, 7), (false, 8), (false, 9)] (by kernel_rfl) (by kernel_rfl) (⟨by simpa using c0, by simpa using c1⟩) ?_
    simp only [planOps, List.map, List.getD_cons_zero, List.getD_cons_succ]
    iterate 10 ((first | refine plan_quiet (v := ?_) rfl rfl (fun w' hw' => ?_) ?_ | refine plan_calm (v := ?_) (tt_of) rfl (fun w' hw' => ?_) ?_); rotate_left; (focus (go_simp <;> with_reducible rfl)); simp only [Act.put, List.setIfInBounds_toArray, List.set_cons_zero, List.set_cons_succ])
    refine plan_end ?_
    go_wp2_with fail
    have R2 := R1.drew
    have q2 := q1.drew
    clear R1 q1 c0 c1 ck
    go_loopg [4] r0.length (fun G s4 wr => ∃ (r' : List UInt8) (acc : List (List Tm)) (its : List It), G = r'.length ∧ acc.length + r'.length ≤ r0.length ∧ (n.all its).terms + r'.length ≤ n.terms + r0.length ∧ OwnL 1 Rgroup 45 w.heap.size (old w.heap.size) wr s4 acc ∧ Rd wr g s r' (n.all its) ∧ Only g w wr ∧ Hid (x = pField r' acc its))
    case atStart => exact ⟨r0, [], [], rfl, by simp, Nat.le_refl _, OwnL.nil _ _ _ _ _ _, R2, q2, HV⟩
    case round =>
      clear R2 q2 HV
      obtain ⟨r', acc, its, rfl, hm1, hm2, hown, hR, hO, HE⟩ := hrel
      obtain ⟨A4, cap4, rfl⟩ := hown.form
      have hw1 := hw.kept hO hg
      go_wp2_with fail
      refine (group_any g s r' _ _ hs (by omega) hR hw1 hg).mono ?_
      intro e w1 ht
      cases hp : pGroup r' [] [] with
      | bad b =>
        rw [hp] at ht
        obtain ⟨⟨n', R1⟩, rfl, hO1⟩ := ht
        have HB : Hid (x = .bad b) := Lib.hid (by rw [HE.out, pField_bad r' acc its b hp])
        have q1 := hO.trans hO1
        clear hp HE
        go_wp2_with fail
        go_ret2
        rw [HB.out]
        exact ⟨⟨_, R1⟩, rfl, q1⟩
      | ok t q i =>
        rw [hp] at ht
        obtain ⟨⟨v, rfl, hsl⟩, R1, hO1⟩ := ht
        have q1 := hO.trans hO1
        have hlen := pGroup_len r' _ _ _ _ _ hp
        have htm := pGroup_terms r' _ _ (n.all its) _ _ _ hp
        rw [← Nt.all_app] at htm R1
        have htm : (n.all (its ++ i)).terms + q.length ≤ (n.all its).terms + r'.length := htm
        have hown1 := hown.keep good_group (hO1.old hgw)
        have hrow : ∀ k, (Value.slice A4 acc.length cap4).ownBlock = some k → k < wr.heap.size := hown.lt
        have hRt : Rgroup (fun k => old w.heap.size k ∨ (Value.slice A4 acc.length cap4).ownBlock = some k) w1 [v] t := ⟨v, rfl, hsl.mono good_term (by omega) (fun k _ hk => by
          have := hO.size
          rcases hk with h | h
          · unfold old at h ⊢; omega
          · exact hrow k h)⟩
        obtain ⟨A5, cap5, rfl, _, _⟩ := hsl.form
        have HP := Lib.hid hp
        clear hp hsl hown hR hO hO1 hrow
        go_wp2_with (at_builtin; refine wpList_appendL (l := acc) good_group rfl _ _ _ _ _ 24 rfl Tryd.underlying33 info_group rfl (by omega) w.heap.size rfl hown1 [.slice A5 t.length cap5] t rfl hRt (by omega) (by omega) q1.size (fun k hk hk2 => by have := q1.size; unfold old at hk2; omega) ?_; intro v5 w5 hown5 hk5)
        have hk5 : Kept (fun k => (Value.slice A4 acc.length cap4).ownBlock = some k) w1 w5 := hk5
        have hnew := hown1.new
        have q5 := q1.row hk5 hnew
        have R5 := R1.keep hk5 (fun h => by have := hnew g h; omega)
        obtain ⟨A6, cap6, hv6⟩ := hown5.form
        rw [List.length_append, List.length_singleton] at hv6
        subst hv6
        clear hk5 hown1 q1 R1 hnew hRt
        obtain ⟨k, c0, c1, ck⟩ := R5.at2
        by_cases h0 : q = []
        · have hb : q.isEmpty = true := by simpa using h0
          have HV : Hid (x = .ok (acc ++ [t]) [] (its ++ i)) := Lib.hid (by rw [HE.out, pField_end r' acc its t i (by rw [HP.out, h0])])
          rw [hb] at ck
          clear hb HE
          go_wp2_with fail
          refine wp_region_plan (fun W => W.cell? ⟨g, 0, none⟩ = some (.string (bs s)) ∧ W.cell? ⟨g, 1, none⟩ = some (.int .i64 k)) [(false, 0), (false, 1), (false, 2), (false, 3), (false, 4), (false, 5), (false, 6), (false, 7), (false, 8), (false, 9)] (by kernel_rfl) (by kernel_rfl) (⟨by simpa using c0, by simpa using c1⟩) ?_
          simp only [planOps, List.map, List.getD_cons_zero, List.getD_cons_succ]
          iterate 10 ((first | refine plan_quiet (v := ?_) rfl rfl (fun w' hw' => ?_) ?_ | refine plan_calm (v := ?_) (tt_of) rfl (fun w' hw' => ?_) ?_); rotate_left; (focus (go_simp <;> with_reducible rfl)); simp only [Act.put, List.setIfInBounds_toArray, List.set_cons_zero, List.set_cons_succ])
          refine plan_end ?_
          go_wp2_with fail
          go_ret2
          rw [HV.out]
          exact ⟨⟨_, rfl, (hown5.keep good_group (Kept.refl _ _).drew).sl good_group⟩, ⟨_, R5.drew⟩, q5.drew⟩
        · have hb : q.isEmpty = false := by simpa using h0
          have H0 := Lib.hid h0
          rw [hb] at ck
          clear hb h0
          go_wp2_with fail
          refine wp_region_plan (fun W => W.cell? ⟨g, 0, none⟩ = some (.string (bs s)) ∧ W.cell? ⟨g, 1, none⟩ = some (.int .i64 k)) [(false, 0), (false, 1), (false, 2), (false, 3), (false, 4), (false, 5), (false, 6), (false, 7), (false, 8), (false, 9)] (by kernel_rfl) (by kernel_rfl) (⟨by simpa using c0, by simpa using c1⟩) ?_
          simp only [planOps, List.map, List.getD_cons_zero, List.getD_cons_succ]
          iterate 10 ((first | refine plan_quiet (v := ?_) rfl rfl (fun w' hw' => ?_) ?_ | refine plan_calm (v := ?_) (tt_of) rfl (fun w' hw' => ?_) ?_); rotate_left; (focus (go_simp <;> with_reducible rfl)); simp only [Act.put, List.setIfInBounds_toArray, List.set_cons_zero, List.set_cons_succ])
          refine plan_end ?_
          go_wp2_with fail
          have R6 := R5.drew
          have q6 := q5.drew
          have hown6 := hown5.keep good_group (Kept.refl (old w.heap.size) w5).drew
          clear R5 q5 hown5 c0 c1 ck
          refine (sign_any 44 g s q _ _ hs R6).mono ?_
          rintro e w7 ⟨rfl, R7, hO7⟩
          have hown7 := hown6.keep good_group (hO7.old hgw)
          have q7 := q6.trans hO7
          clear R6 q6 hO7 hown6
          rcases hasB_is q 44 with ⟨u, rfl, hb, hsr⟩ | ⟨hb, hsr, hno⟩
          · rw [hb]
            rw [hsr] at R7
            have HV : Hid (x = pField (skipB u) (acc ++ [t]) (its ++ i)) := Lib.hid (by rw [HE.out, pField_next r' acc its t u i HP.out])
            rw [List.length_cons] at hlen htm
            clear hb hsr HE HP
            go_wp2_with fail
            refine (blanks_any g s u _ _ hs R7).mono ?_
            rintro e w8 ⟨rfl, R8, hO8⟩
            have hown8 := hown7.keep good_group (hO8.old hgw)
            have q8 := q7.trans hO8
            have hsl := skipB_len u
            go_wp2_with fail
            go_roundg (skipB u).length
            case measure => omega
            case rel => exact ⟨skipB u, acc ++ [t], its ++ i, rfl, by simp; omega, by omega, hown8, R8, q8, HV⟩
          · rw [hb]
            rw [hsr] at R7
            have HV : Hid (x = .bad q) := Lib.hid (by rw [HE.out, pField_no r' acc its t q i HP.out H0.out hno])
            clear hb hsr HE HP hno
            go_wp2_with fail
            go_ret2
            rw [HV.out]
            exact ⟨⟨_, R7⟩, rfl, q7⟩
end Go.Proofs.YtdnncbhbajciaaaDoor
namespace Go.Proofs.YtdnncbhbajciaaaDoor
open Go.RowKit
def nt0 : Nt := ⟨0, [], 0⟩
/-- What a field is: its groups, or none; where it is wrong, and the error. -/
def parseS (s : List UInt8) : List (List Tm) × Int × Int := match pAll s with
  | .bad b => ([], (s.length : Int) - b.length, 3)
  | .ok l _ its => if (nt0.all its).code = 0 then (l, 0, 0) else ([], wAt s (nt0.all its), (nt0.all its).code)
def faultV (at_ code : Int) : Value := .agg #[.string ⟨#[]⟩, .int .i64 at_, .int .i64 code]
def ParseR (w : World) (x : List (List Tm) × Int × Int) (e : Ending) (w' : World) : Prop :=
  (∃ v, e = .returned (.tuple #[v, .agg #[.string ⟨#[]⟩, .int .i64 x.2.1, .int .i64 x.2.2]]) ∧ Sl 1 Rgroup (old w.heap.size) w' v x.1) ∧ Below w.heap.size w w'
theorem set3 {w : World} {g : Nat} {t : TypeId} {a b c : Value} (h : Blk w g t #[a, b, c]) (a' b' c' : Value) :
    Blk (((w.setCell ⟨g, 0, none⟩ a').setCell ⟨g, 1, none⟩ b').setCell ⟨g, 2, none⟩ c') g t #[a', b', c'] := by
  have := ((h.set (u := a') 0).set (u := b') 1).set (u := c') 2
  simpa using this
theorem only_set3 (w : World) (g : Nat) (a b c : Value) : Only g w (((w.setCell ⟨g, 0, none⟩ a).setCell ⟨g, 1, none⟩ b).setCell ⟨g, 2, none⟩ c) := Only.set (Only.set (Only.set (Kept.refl _ _) 0 _) 1 _) 2 _
set_option maxRecDepth 20000 in
set_option maxHeartbeats 16000000 in
theorem parse_any (s : List UInt8) (w : World) (hs : s.length ≤ 1000000) (hw : Words w) :
    Calls Tryd.prog 24 #[.string (bs s)] w (ParseR w (parseS s)) := by
  have hwl : 2 < w.heap.size := lt_of_cell (hw 0 (by omega))
  have k1 := ((Kept.refl nowhere w).alloc (.cells #[.string ⟨#[]⟩, .int .i64 0, .int .i64 0] 41)).alloc (.cells #[.string (bs s), .int .i64 0, .int .i64 0, .string ⟨#[]⟩, .int .i64 0, .int .i64 0] 86)
  have bF := (Blk.new w 41 #[.string ⟨#[]⟩, .int .i64 0, .int .i64 0]).alloc (.cells #[.string (bs s), .int .i64 0, .int .i64 0, .string ⟨#[]⟩, .int .i64 0, .int .i64 0] 86)
  have bR := Blk.new (w.alloc (.cells #[.string ⟨#[]⟩, .int .i64 0, .int .i64 0] 41)) 86 #[.string (bs s), .int .i64 0, .int .i64 0, .string ⟨#[]⟩, .int .i64 0, .int .i64 0]
  rw [show (w.alloc (.cells #[.string ⟨#[]⟩, .int .i64 0, .int .i64 0] 41)).heap.size = w.heap.size + 1 by simp] at bR
  have hsz : ((w.alloc (.cells #[.string ⟨#[]⟩, .int .i64 0, .int .i64 0] 41)).alloc (.cells #[.string (bs s), .int .i64 0, .int .i64 0, .string ⟨#[]⟩, .int .i64 0, .int .i64 0] 86)).heap.size = w.heap.size + 2 := by simp
  go_enter Tryd.func24, Tryd.ntmps24
  go_wp2_with fail
  generalize (w.alloc (.cells #[.string ⟨#[]⟩, .int .i64 0, .int .i64 0] 41)).alloc (.cells #[.string (bs s), .int .i64 0, .int .i64 0, .string ⟨#[]⟩, .int .i64 0, .int .i64 0] 86) = w1 at k1 bF bR hsz ⊢
  have R1 : Rd w1 (w.heap.size + 1) s s nt0 := ⟨0, Nat.zero_le _, rfl, bR⟩
  have hw1 := hw.kept k1 (fun h => h)
  refine (field_any (w.heap.size + 1) s s nt0 _ hs (by show 0 + s.length ≤ _; omega) R1 hw1 (by omega)).mono ?_
  intro e w2 hf
  cases hp : pAll s with
  | bad b =>
    rw [hp] at hf
    obtain ⟨⟨n', R2⟩, rfl, hO⟩ := hf
    have HV : Hid (parseS s = ([], (s.length : Int) - b.length, 3)) := Lib.hid (by rw [parseS, hp])
    have bF2 := hO.blk bF (by omega)
    have q2 : Kept (fun k => k = w.heap.size + 1) w w2 := (k1.mono fun _ _ h => h.elim).trans hO
    obtain ⟨k, hk, c1⟩ := R2.at
    have f0 := bF2.free 0
    have f1 := bF2.free 1
    have f2 := bF2.free 2
    have e0 := bF2.cell 0
    have e1 := bF2.cell 1
    have e2 := bF2.cell 2
    simp at e0 e1 e2
    clear hp R1 bR bF hO k1 hw1 hsz
    go_wp2_with fail
    refine wp_region_plan (fun W => W.cell? ⟨w.heap.size + 1, 1, none⟩ = some (.int .i64 k)) [(false, 0), (false, 1), (false, 2), (false, 3), (false, 4), (false, 5), (true, 6)] (by kernel_rfl) (by kernel_rfl) (by simpa using c1) ?_
    simp only [planOps, List.map, List.getD_cons_zero, List.getD_cons_succ]
    iterate 6 ((first | refine plan_quiet (v := ?_) rfl rfl (fun w' hw' => ?_) ?_ | refine plan_calm (v := ?_) (tt_of) rfl (fun w' hw' => ?_) ?_); rotate_left; (focus (go_simp <;> with_reducible rfl)); simp only [Act.put, List.setIfInBounds_toArray, List.set_cons_zero, List.set_cons_succ])
    refine plan_loud rfl (fun K hK => ?_)
    go_simp
    have K4 := only_set3 w2 w.heap.size (.string ⟨#[]⟩) (.int .i64 k) (.int .i64 3)
    refine hK _ _ ((K4.drew.cell c1 (by show ¬ w.heap.size + 1 = w.heap.size; omega))) ?_
    clear hK K
    (try simp only [Act.put, List.setIfInBounds_toArray, List.set_cons_zero, List.set_cons_succ])
    refine plan_end ?_
    have B5 := set3 bF2 (.string ⟨#[]⟩) (.int .i64 k) (.int .i64 3)
    have K5 := only_set3 w2 w.heap.size (.string ⟨#[]⟩) (.int .i64 k) (.int .i64 3)
    generalize ((w2.setCell ⟨w.heap.size, 0, none⟩ (.string ⟨#[]⟩)).setCell ⟨w.heap.size, 1, none⟩ (.int .i64 k)).setCell ⟨w.heap.size, 2, none⟩ (.int .i64 3) = W5 at B5 K5 ⊢
    have z0 := B5.cell 0
    have z1 := B5.cell 1
    have z2 := B5.cell 2
    simp at z0 z1 z2
    have q5 : Below w.heap.size w W5 := ((q2.mono (Y := fun k => k = w.heap.size + 1 ∨ k = w.heap.size) fun _ _ h => .inl h).trans (K5.mono fun _ _ h => .inr h)).below (Nat.le_refl _) (fun k hk h => by omega)
    go_wp2_with fail
    refine bodyPost_ret (v := .tuple #[.slice none 0 0, .agg #[.string ⟨#[]⟩, .int .i64 k, .int .i64 3]]) (by simp [results, Tryd.results24, go_sem, z0, z1, z2]) rfl ?_
    rw [HV.out]
    exact ⟨⟨_, by rw [show (s.length : Int) - b.length = k by omega], Sl.nil _ _ _ _⟩, q5.drew⟩
  | ok l q its =>
    rw [hp] at hf
    obtain ⟨⟨v, rfl, hsl⟩, ⟨q', R2⟩, hO⟩ := hf
    have HV : Hid (parseS s = if (nt0.all its).code = 0 then (l, 0, 0) else ([], wAt s (nt0.all its), (nt0.all its).code)) := Lib.hid (by rw [parseS, hp])
    have bF2 := hO.blk bF (by omega)
    have q2 : Kept (fun k => k = w.heap.size + 1) w w2 := (k1.mono fun _ _ h => h.elim).trans hO
    have f0 := bF2.free 0
    have f1 := bF2.free 1
    have f2 := bF2.free 2
    have e0 := bF2.cell 0
    have e1 := bF2.cell 1
    have e2 := bF2.cell 2
    simp at e0 e1 e2
    obtain ⟨k, hk, _, hB⟩ := R2
    have c3 := hB.cell 3
    have c4 := hB.cell 4
    have c5 := hB.cell 5
    simp at c3 c4 c5
    generalize nt0.all its = m at HV c4 c5 hB
    obtain ⟨cd, Hcd⟩ : ∃ x, Hid (m.code = x) := ⟨_, Lib.hid rfl⟩
    obtain ⟨wa, Hwa⟩ : ∃ x, Hid (wAt s m = x) := ⟨_, Lib.hid rfl⟩
    rw [Hcd.out] at c5 HV
    rw [Hwa.out] at c4 HV
    have hsl2 : Sl 1 Rgroup (fun k => k < w.heap.size + 2) w2 v l := hsl.mono good_group (by omega) (fun k _ hk => by unfold old; omega)
    obtain ⟨A5, cap5, rfl, _, _⟩ := hsl.form
    clear hp R1 bR bF hO k1 hw1 hsz hsl hB
    by_cases h0 : cd = 0
    · subst h0
      have HV2 := Lib.hid (HV.out.trans (if_pos rfl))
      go_wp2_with fail
      have B5 := set3 bF2 (.string ⟨#[]⟩) (.int .i64 0) (.int .i64 0)
      have K5 := only_set3 w2 w.heap.size (.string ⟨#[]⟩) (.int .i64 0) (.int .i64 0)
      generalize ((w2.setCell ⟨w.heap.size, 0, none⟩ (.string ⟨#[]⟩)).setCell ⟨w.heap.size, 1, none⟩ (.int .i64 0)).setCell ⟨w.heap.size, 2, none⟩ (.int .i64 0) = W5 at B5 K5 ⊢
      have z0 := B5.cell 0
      have z1 := B5.cell 1
      have z2 := B5.cell 2
      simp at z0 z1 z2
      have q5 : Below w.heap.size w W5 := ((q2.mono (Y := fun k => k = w.heap.size + 1 ∨ k = w.heap.size) fun _ _ h => .inl h).trans (K5.mono fun _ _ h => .inr h)).below (Nat.le_refl _) (fun k hk h => by omega)
      have sl5 := (hsl2.keep good_group (K5.mono fun k _ h => by show k < w.heap.size + 2; omega)).mono (Y := old w.heap.size) good_group (by omega) (fun k _ h => by unfold old at h; show k < w.heap.size + 2; omega)
      refine bodyPost_ret (v := .tuple #[.slice A5 l.length cap5, .agg #[.string ⟨#[]⟩, .int .i64 0, .int .i64 0]]) (by simp [results, Tryd.results24, go_sem, z0, z1, z2]) rfl ?_
      rw [HV2.out]
      exact ⟨⟨_, rfl, sl5⟩, q5⟩
    · have hcb : (cd != 0) = true := by simpa using h0
      have HV2 := Lib.hid (HV.out.trans (if_neg h0))
      clear h0
      go_wp2_with fail
      refine wp_region_plan (fun W => W.cell? ⟨w.heap.size + 1, 3, none⟩ = some (.string ⟨#[]⟩) ∧ W.cell? ⟨w.heap.size + 1, 4, none⟩ = some (.int .i64 wa) ∧ W.cell? ⟨w.heap.size + 1, 5, none⟩ = some (.int .i64 cd)) [(false, 0), (false, 1), (false, 2), (false, 3), (false, 4), (true, 5)] (by kernel_rfl) (by kernel_rfl) (⟨by simpa using c3, by simpa using c4, by simpa using c5⟩) ?_
      simp only [planOps, List.map, List.getD_cons_zero, List.getD_cons_succ]
      iterate 5 ((first | refine plan_quiet (v := ?_) rfl rfl (fun w' hw' => ?_) ?_ | refine plan_calm (v := ?_) (tt_of) rfl (fun w' hw' => ?_) ?_); rotate_left; (focus (go_simp <;> with_reducible rfl)); simp only [Act.put, List.setIfInBounds_toArray, List.set_cons_zero, List.set_cons_succ])
      refine plan_loud rfl (fun K hK => ?_)
      go_simp
      have K4 := only_set3 w2 w.heap.size (.string ⟨#[]⟩) (.int .i64 wa) (.int .i64 cd)
      refine hK _ _ ((⟨K4.drew.cell c3 (by show ¬ w.heap.size + 1 = w.heap.size; omega), K4.drew.cell c4 (by show ¬ w.heap.size + 1 = w.heap.size; omega), K4.drew.cell c5 (by show ¬ w.heap.size + 1 = w.heap.size; omega)⟩)) ?_
      clear hK K
      (try simp only [Act.put, List.setIfInBounds_toArray, List.set_cons_zero, List.set_cons_succ])
      refine plan_end ?_
      have B5 := set3 bF2 (.string ⟨#[]⟩) (.int .i64 wa) (.int .i64 cd)
      have K5 := only_set3 w2 w.heap.size (.string ⟨#[]⟩) (.int .i64 wa) (.int .i64 cd)
      generalize ((w2.setCell ⟨w.heap.size, 0, none⟩ (.string ⟨#[]⟩)).setCell ⟨w.heap.size, 1, none⟩ (.int .i64 wa)).setCell ⟨w.heap.size, 2, none⟩ (.int .i64 cd) = W5 at B5 K5 ⊢
      have z0 := B5.cell 0
      have z1 := B5.cell 1
      have z2 := B5.cell 2
      simp at z0 z1 z2
      have q5 : Below w.heap.size w W5 := ((q2.mono (Y := fun k => k = w.heap.size + 1 ∨ k = w.heap.size) fun _ _ h => .inl h).trans (K5.mono fun _ _ h => .inr h)).below (Nat.le_refl _) (fun k hk h => by omega)
      go_wp2_with fail
      refine bodyPost_ret (v := .tuple #[.slice none 0 0, .agg #[.string ⟨#[]⟩, .int .i64 wa, .int .i64 cd]]) (by simp [results, Tryd.results24, go_sem, z0, z1, z2]) rfl ?_
      rw [HV2.out]
      exact ⟨⟨_, rfl, Sl.nil _ _ _ _⟩, q5.drew⟩
end Go.Proofs.YtdnncbhbajciaaaDoor
