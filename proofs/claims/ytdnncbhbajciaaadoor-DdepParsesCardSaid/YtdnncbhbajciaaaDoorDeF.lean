/- The document's Parse of ddep. -/
import Derived.Test.YtdnncbhbajciaaaDoorDeE
import Derived.Test.YtdnncbhbajciaaaDoorDdN
namespace Go.Proofs.YtdnncbhbajciaaaDoor
open Go.RowKit
def TextOk (its : List It) : Prop := ∀ it ∈ its, it.text.length ≤ it.rest.length
theorem TextOk.nil : TextOk [] := fun _ h => by cases h
theorem TextOk.app {a b : List It} (h : TextOk a) (k : TextOk b) : TextOk (a ++ b) := fun it hit => (List.mem_append.1 hit).elim (h it) (k it)
theorem TextOk.one (k : Nat) (e r : List UInt8) : TextOk [⟨k, r, upTo e r⟩] := fun it hit => by
  rw [List.mem_singleton.1 hit]
  have := behind_len e r
  show (upTo e r).length ≤ r.length
  omega
theorem pArchs_text (r : List UInt8) (acc : List (List UInt8)) (its : List It) : ∀ a q i, pArchs r acc its = .ok a q i → TextOk its → TextOk i := by
  induction hn : r.length using Nat.strongRecOn generalizing r acc its with
  | ind n ih =>
    intro a q i h ht
    rw [pArchs] at h
    have h3 := notP_len r
    have h4 := skipB_len (behind wEnds (notP r).2)
    split at h
    · cases h
    · rename_i hne
      have h6 := upTo_pos _ _ hne
      split at h
      · injection h with _ h2 h7
        subst h7
        exact ht.app (TextOk.one _ _ _)
      · split at h
        · cases h
        · exact ih _ (by omega) _ _ _ rfl a q i h (ht.app (TextOk.one _ _ _))
theorem pTerm_text (r : List UInt8) : ∀ a q i, pTerm r = .ok a q i → TextOk i := by
  intro a q i h
  unfold pTerm at h
  split at h
  · cases h
  · unfold pTerm1 at h
    split at h
    · cases h
    · rename_i q1 r1 i1 e1
      have t1 : TextOk i1 := by
        unfold pQual at e1
        split at e1
        · split at e1
          · cases e1
          · injection e1 with _ _ e; rw [← e]; exact TextOk.one _ _ _
        · injection e1 with _ _ e; rw [← e]; exact TextOk.nil
      unfold pTerm2 at h
      split at h
      · cases h
      · rename_i ov r2 i2 e2
        have t2 : TextOk i2 := by
          unfold pRelQ at e2
          split at e2
          · unfold pRel at e2
            split at e2
            · cases e2
            · unfold pRel2 at e2
              split at e2
              · cases e2
              · split at e2
                · injection e2 with _ _ e; rw [← e]; exact TextOk.one _ _ _
                · cases e2
          · injection e2 with _ _ e; rw [← e]; exact TextOk.nil
        unfold pTerm3 at h
        split at h
        · cases h
        · rename_i a3 r3 i3 e3
          have t3 : TextOk i3 := by
            unfold pArchQ at e3
            split at e3
            · exact pArchs_text _ _ _ _ _ _ e3 TextOk.nil
            · injection e3 with _ _ e; rw [← e]; exact TextOk.nil
          injection h with _ _ h4
          rw [← h4]
          have t0 : TextOk [⟨0, r, []⟩] := fun it hit => by rw [List.mem_singleton.1 hit]; exact Nat.zero_le _
          exact t0.app ((TextOk.one 1 nEnds r).app ((t1.app t2).app t3))
theorem pGroup_text (r : List UInt8) (acc : List Tm) (its : List It) : ∀ a q i, pGroup r acc its = .ok a q i → TextOk its → TextOk i := by
  induction hn : r.length using Nat.strongRecOn generalizing r acc its with
  | ind n ih =>
    intro a q i h hk
    cases ht : pTerm r with
    | bad b => rw [pGroup_bad r acc its b ht] at h; cases h
    | ok t r1 i1 =>
      have h1 := pTerm_len _ _ _ _ ht
      have t1 := pTerm_text _ _ _ _ ht
      by_cases hd : ∃ u, r1 = 124 :: u
      · obtain ⟨u, rfl⟩ := hd
        rw [pGroup_next r acc its t u i1 ht] at h
        have h2 := skipB_len u
        rw [List.length_cons] at h1
        exact ih _ (by omega) _ _ _ rfl a q i h (hk.app t1)
      · rw [pGroup_end r acc its t r1 i1 ht (fun u e => hd ⟨u, e⟩)] at h
        injection h with _ _ h4
        subst h4
        exact hk.app t1
theorem pField_text (r : List UInt8) (acc : List (List Tm)) (its : List It) : ∀ a q i, pField r acc its = .ok a q i → TextOk its → TextOk i := by
  induction hn : r.length using Nat.strongRecOn generalizing r acc its with
  | ind n ih =>
    intro a q i h hk
    cases ht : pGroup r [] [] with
    | bad b => rw [pField_bad r acc its b ht] at h; cases h
    | ok t r1 i1 =>
      have h1 := pGroup_len _ _ _ _ _ _ ht
      have t1 := pGroup_text _ _ _ _ _ _ ht TextOk.nil
      by_cases h0 : r1 = []
      · subst h0
        rw [pField_end r acc its t _ ht] at h
        injection h with _ _ h4
        subst h4
        exact hk.app t1
      · by_cases hd : ∃ u, r1 = 44 :: u
        · obtain ⟨u, rfl⟩ := hd
          rw [pField_next r acc its t u _ ht] at h
          have h2 := skipB_len u
          rw [List.length_cons] at h1
          exact ih _ (by omega) _ _ _ rfl a q i h (hk.app t1)
        · rw [pField_no r acc its t r1 _ ht h0 (fun u e => hd ⟨u, e⟩)] at h
          cases h
theorem pAll_text (s : List UInt8) : ∀ a q i, pAll s = .ok a q i → ∀ it ∈ i, it.text.length ≤ s.length := by
  intro a q i h it hit
  have hsp := (pAll_span _ _ _ _ h).1 it hit
  have : TextOk i := by
    unfold pAll at h
    split at h
    · injection h with _ _ h4; rw [← h4]; exact TextOk.nil
    · exact pField_text _ _ _ _ _ _ h TextOk.nil
  have := this it hit
  omega
theorem Sl.part {X : Nat → Prop} {w : World} {s : List UInt8} {A : Option Addr} {n cap : Nat} {l : List It} (h : Sl 3 (Rpart s) X w (.slice A n cap) l) (hn : 0 < n) :
    ∃ b off, A = some ⟨b, off, none⟩ ∧ ∀ j (h : j < l.length), w.cell? ⟨b, off + j * 3, none⟩ = some (.int .i64 (l[j].kind : Int)) ∧ w.cell? ⟨b, off + j * 3 + 1, none⟩ = some (.int .i64 (itAt s l[j])) ∧ w.cell? ⟨b, off + j * 3 + 2, none⟩ = some (.string (bs l[j].text)) := by
  obtain ⟨_, _, _, h4⟩ := h.at
  obtain ⟨b, off, hA, _, hc⟩ := h4 hn
  refine ⟨b, off, hA, fun j hj => ?_⟩
  obtain ⟨cs, hcs, rfl⟩ := hc j hj
  exact ⟨by simpa using hcs 0 _ rfl, hcs 1 _ rfl, hcs 2 _ rfl⟩
theorem Sl.head {X : Nat → Prop} {w : World} {s : List UInt8} {A : Option Addr} {n cap : Nat} {l : List It} (h : Sl 1 (Rhead s) X w (.slice A n cap) l) (hn : 0 < n) :
    ∃ b off, A = some ⟨b, off, none⟩ ∧ ∀ j (h : j < l.length), w.cell? ⟨b, off + j, none⟩ = some (.int .i64 (itAt s l[j])) := by
  obtain ⟨_, _, _, h4⟩ := h.at
  obtain ⟨b, off, hA, _, hc⟩ := h4 hn
  refine ⟨b, off, hA, fun j hj => ?_⟩
  obtain ⟨cs, hcs, rfl⟩ := hc j hj
  simpa using hcs 0 _ rfl
theorem scanR_drop (s : List UInt8) (L : Int) (ps : List It) (i : Nat) (h : i < ps.length) : scanR s L (ps.drop i) = if L ≤ itAt s ps[i] then none else if itErr ps[i] = 0 then scanR s L (ps.drop (i + 1)) else some (itAt s ps[i], itErr ps[i]) := by
  rw [List.drop_eq_getElem_cons h]; rfl
set_option maxRecDepth 20000 in
set_option maxHeartbeats 32000000 in
theorem eparse_any (s : List UInt8) (w : World) (hs : s.length ≤ 1000000) :
    Calls Tryd.prog 25 #[.string (bs s)] w (ParseR w (parseS s)) := by
  have Href := Lib.hid (ref_is s)
  have k1 := ((Kept.refl nowhere w).alloc (.cells #[.string ⟨#[]⟩, .int .i64 0, .int .i64 0] 41)).alloc (.cells #[.string (bs s), .int .i64 0, .bool false, .slice none 0 0, .slice none 0 0, .slice none 0 0] 93)
  have bF := (Blk.new w 41 #[.string ⟨#[]⟩, .int .i64 0, .int .i64 0]).alloc (.cells #[.string (bs s), .int .i64 0, .bool false, .slice none 0 0, .slice none 0 0, .slice none 0 0] 93)
  have bR := Blk.new (w.alloc (.cells #[.string ⟨#[]⟩, .int .i64 0, .int .i64 0] 41)) 93 #[.string (bs s), .int .i64 0, .bool false, .slice none 0 0, .slice none 0 0, .slice none 0 0]
  rw [show (w.alloc (.cells #[.string ⟨#[]⟩, .int .i64 0, .int .i64 0] 41)).heap.size = w.heap.size + 1 by simp] at bR
  have hsz : ((w.alloc (.cells #[.string ⟨#[]⟩, .int .i64 0, .int .i64 0] 41)).alloc (.cells #[.string (bs s), .int .i64 0, .bool false, .slice none 0 0, .slice none 0 0, .slice none 0 0] 93)).heap.size = w.heap.size + 2 := by simp
  go_enter Tryd.func25, Tryd.ntmps25
  go_wp2_with fail
  generalize (w.alloc (.cells #[.string ⟨#[]⟩, .int .i64 0, .int .i64 0] 41)).alloc (.cells #[.string (bs s), .int .i64 0, .bool false, .slice none 0 0, .slice none 0 0, .slice none 0 0] 93) = w1 at k1 bF bR hsz ⊢
  have S1 : St w1 (w.heap.size + 1) s s false (.slice none 0 0) [] := ⟨0, .slice none 0 0, .slice none 0 0, Nat.zero_le _, rfl, bR, OwnL.nil _ _ _ _ _ _, OwnL.nil _ _ _ _ _ _⟩
  refine (efield_any (w.heap.size + 1) s _ hs S1).mono ?_
  rintro e w2 ⟨rfl, q2, hx⟩
  have bFx := q2.blk bF (by omega)
  have hbx : Below w.heap.size w w2 := ((k1.mono (Y := fun k => w.heap.size + 1 ≤ k) fun _ _ h => h.elim).trans q2).below (Nat.le_refl _) (fun k hk h => by omega)
  have bFx0 := bFx.lt
  clear S1 bR bF k1 q2
  cases hp : pAll s with
  | bad b =>
    rw [hp] at hx
    obtain ⟨vl, its', S2⟩ := hx
    have HV : Hid (parseS s = ([], (s.length : Int) - b.length, 3)) := Lib.hid (by rw [parseS, hp])
    obtain ⟨cb, fb⟩ := S2.badc
    obtain ⟨k, vp, vh, hk, hb, hB, _, _⟩ := S2
    have hkb : (s.length : Int) - b.length = k := by rw [hb, List.length_drop]; omega
    have c1 := hB.cell 1
    simp at c1
    have HK := Lib.hid hkb
    have f0 := bFx.free 0
    have f1 := bFx.free 1
    have f2 := bFx.free 2
    have e0 := bFx.cell 0
    have e1 := bFx.cell 1
    have e2 := bFx.cell 2
    simp at e0 e1 e2
    clear hp hB hb hkb hsz
    go_wp2_with fail
    refine wp_region_plan (fun W => W.cell? ⟨w.heap.size + 1, 1, none⟩ = some (.int .i64 k)) [(false, 0), (false, 1), (false, 2), (false, 3), (false, 4), (false, 5), (true, 6)] (by kernel_rfl) (by kernel_rfl) (by simpa using c1) ?_
    simp only [planOps, List.map, List.getD_cons_zero, List.getD_cons_succ]
    iterate 6 ((first | refine plan_quiet (v := ?_) rfl rfl (fun w' hw' => ?_) ?_ | refine plan_calm (v := ?_) (tt_of) rfl (fun w' hw' => ?_) ?_); rotate_left; (focus (go_simp <;> with_reducible rfl)); simp only [Act.put, List.setIfInBounds_toArray, List.set_cons_zero, List.set_cons_succ])
    refine plan_loud rfl (fun K hK => ?_)
    go_simp
    have K4 := only_set3 w2 w.heap.size (.string ⟨#[]⟩) (.int .i64 k) (.int .i64 3)
    refine hK _ _ ((K4.drew.cell c1 (by show ¬ w.heap.size + 1 = w.heap.size; omega))) ?_
    clear hK K
    (try simp only [Act.put, List.setIfInBounds_toArray, List.set_cons_zero, List.set_cons_succ])
    refine plan_end ?_
    have B5 := set3 bFx (.string ⟨#[]⟩) (.int .i64 k) (.int .i64 3)
    have K5 := only_set3 w2 w.heap.size (.string ⟨#[]⟩) (.int .i64 k) (.int .i64 3)
    generalize ((w2.setCell ⟨w.heap.size, 0, none⟩ (.string ⟨#[]⟩)).setCell ⟨w.heap.size, 1, none⟩ (.int .i64 k)).setCell ⟨w.heap.size, 2, none⟩ (.int .i64 3) = W5 at B5 K5 ⊢
    have z0 := B5.cell 0
    have z1 := B5.cell 1
    have z2 := B5.cell 2
    simp at z0 z1 z2
    have q5 : Below w.heap.size w W5 := ((Kept.of_below hbx (fun k => k = w.heap.size)).trans K5).below (Nat.le_refl _) (fun k hk h => by omega)
    go_wp2_with fail
    refine bodyPost_ret (v := .tuple #[.slice none 0 0, .agg #[.string ⟨#[]⟩, .int .i64 k, .int .i64 3]]) (by simp [results, Tryd.results25, go_sem, z0, z1, z2]) rfl ?_
    rw [HV.out]
    exact ⟨⟨_, by rw [HK.out], Sl.nil _ _ _ _⟩, q5.drew⟩
  | ok l q its =>
    rw [hp] at hx
    obtain ⟨vl, S2, hsl⟩ := hx
    have htx := pAll_text _ _ _ _ hp
    have HR : Hid (parseS s = match scanR s (largeR s (its.filter isHd) 64) (its.filter isPt) with
      | some x => ([], x.1, x.2)
      | none => if 64 < (its.filter isHd).length then ([], largeR s (its.filter isHd) 64, 4) else (l, 0, 0)) := Lib.hid (by rw [← Href.out, refS, hp]; rfl)
    have HTX : Hid (∀ it ∈ its.filter isPt, it.text.length ≤ s.length) := Lib.hid (fun it hit => htx it (List.mem_filter.1 hit).1)
    obtain ⟨cb, fb⟩ := S2.badc
    obtain ⟨k, vp, vh, hk, hb, hB, hpp, hhh⟩ := id S2
    have sp := hpp.sl (good_part s)
    have sh := hhh.sl (good_head s)
    have c3 := hB.cell 3
    have c4 := hB.cell 4
    have c5 := hB.cell 5
    simp at c3 c4 c5
    have hsl2 : Sl 1 Rgroup (fun k => k < w.heap.size + 2) w2 vl l := hsl.mono good_group (by omega) (fun k _ hk => .inl (by omega))
    obtain ⟨Al, capl, rfl, _, _⟩ := hsl.form
    clear hp hB hb hpp hhh htx Href hsl S2 hsz hk
    generalize its.filter isPt = ps at HR HTX sp
    generalize its.filter isHd = hd at HR sh
    obtain ⟨Ap, capp, rfl, hp1, hp2⟩ := sp.form
    obtain ⟨Ah, caph, rfl, hh1, hh2⟩ := sh.form
    unfold maxLen at hp2 hh2
    have hz : ((bs s).size : Int) = (s.length : Int) := by rw [bs_size]
    have hz0 : (0 : Int) ≤ ((bs s).size : Int) := by omega
    have hz1 : ((bs s).size : Int) ≤ 1000000 := by omega
    obtain ⟨L, HL⟩ : ∃ L, Hid (largeR s hd 64 = L) := ⟨_, Lib.hid rfl⟩
    rw [HL.out] at HR
    go_upto_if 31 with fail
    go_cut [5] (fun s5 wx => s5 = .int .i64 L ∧ w2 = wx)
    case first =>
      by_cases h64 : 64 < hd.length
      · have hd1 : decide ((64 : Int) < (hd.length : Int)) = true := by simp; omega
        obtain ⟨b, off, rfl, hc⟩ := sh.head (by omega)
        have ck := hc 64 h64
        have HL2 : Hid (itAt s hd[64] = L) := Lib.hid (by rw [← HL.out, largeR, List.getElem?_eq_getElem h64])
        rw [HL2.out] at ck
        clear hc
        rw [hd1]
        go_wp2_with fail
        go_meet
        exact ⟨rfl, rfl⟩
      · have hd1 : decide ((64 : Int) < (hd.length : Int)) = false := by simp; omega
        have HL2 : Hid ((s.length : Int) + 1 = L) := Lib.hid (by rw [← HL.out, largeR, List.getElem?_eq_none (by omega)])
        rw [hd1]
        go_wp2_with fail
        go_meet
        exact ⟨by rw [HL2.out], rfl⟩
    case rest =>
      obtain ⟨rfl, rfl⟩ := hcut
      go_upto_block 0 with fail
      go_cut [] (fun wx => Hid (scanR s L ps = none) ∧ Below w2.heap.size w2 wx)
      case first =>
        go_wp2_with fail
        go_loopg [6] ps.length (fun G s6 wr => ∃ i : Nat, i ≤ ps.length ∧ G = ps.length - i ∧ s6 = .int .i64 i ∧ Below w2.heap.size w2 wr ∧ Hid (scanR s L ps = scanR s L (ps.drop i)))
        case atStart => exact ⟨0, Nat.zero_le _, rfl, rfl, Below.refl _ _, Lib.hid rfl⟩
        case round =>
          obtain ⟨i, hi, rfl, rfl, hbw, HE⟩ := hrel
          have c3' := (hbw.cell (p := ⟨w.heap.size + 1, 3, none⟩) (lt_of_cell c3)).trans c3
          by_cases hlt : i < ps.length
          · have spx := sp.keep (good_part s) (Kept.of_below hbw _)
            obtain ⟨b, off, rfl, hc⟩ := spx.part (by omega)
            obtain ⟨p0, p1, p2⟩ := hc i hlt
            have HS := Lib.hid (HE.out.trans (scanR_drop s L ps i hlt))
            have htl := HTX.out _ (List.getElem_mem hlt)
            clear hc HE spx
            have bFr := bFx.below hbw bFx.lt
            have hbr : Below w.heap.size w wr := hbx.trans (hbw.mono hbx.size)
            generalize ps[i] = it at p0 p1 p2 HS htl
            obtain ⟨kd, rs, tx⟩ := it
            obtain ⟨at_, HAT⟩ : ∃ a, Hid (itAt s ⟨kd, rs, tx⟩ = a) := ⟨_, Lib.hid rfl⟩
            rw [HAT.out] at p1 HS
            have p0 : wr.cell? ⟨b, off + i * 3, none⟩ = some (.int .i64 (kd : Int)) := p0
            have p2 : wr.cell? ⟨b, off + i * 3 + 2, none⟩ = some (.string (bs tx)) := p2
            have htl : tx.length ≤ s.length := htl
            go_upto_region 12 with fail
            have bP := Blk.new wr 95 #[.int .i64 (kd : Int), .int .i64 at_, .string (bs tx)]
            have hbA : Below wr.heap.size wr (wr.alloc (.cells #[.int .i64 (kd : Int), .int .i64 at_, .string (bs tx)] 95)) := (Below.refl _ _).alloc (Nat.le_refl _) _
            generalize wr.alloc (.cells #[.int .i64 (kd : Int), .int .i64 at_, .string (bs tx)] 95) = W at bP hbA ⊢
            have d0 := bP.cell 0
            have d1 := bP.cell 1
            have d2 := bP.cell 2
            simp at d0 d1 d2
            have hbW : Below w2.heap.size w2 W := hbw.trans (hbA.mono hbw.size)
            have bFx := bFr.below hbA bFr.lt
            have hbx : Below w.heap.size w W := hbr.trans (hbA.mono hbr.size)
            clear p0 p1 p2 c3' bFr hbr
            by_cases hL : L ≤ at_
            · have hd1 : decide (L ≤ at_) = true := by simpa using hL
              have HV : Hid (scanR s L ps = none) := Lib.hid (by rw [HS.out, if_pos hL])
              go_wp2_with fail
              go_meet
              exact ⟨HV, hbW⟩
            · have hd1 : decide (L ≤ at_) = false := by simpa using hL
              have HS2 : Hid (scanR s L ps = if itErr ⟨kd, rs, tx⟩ = 0 then scanR s L (ps.drop (i + 1)) else some (at_, itErr ⟨kd, rs, tx⟩)) := Lib.hid (by rw [HS.out, if_neg hL])
              clear hL HS
              by_cases k1 : kd = 1
              · have b1 : ((kd : Int) == 1) = true := beq_iff_eq.2 (by omega)
                have b2 : ((kd : Int) == 2) = false := beq_eq_false_iff_ne.2 (by omega)
                have b3 : ((kd : Int) == 3) = false := beq_eq_false_iff_ne.2 (by omega)
                have HI : Hid (itErr ⟨kd, rs, tx⟩ = if nameB tx = true then 0 else 10) := Lib.hid (by rw [itErr, if_pos k1])
                clear k1
                go_wp2_with fail
                refine (ename_any tx _ (by omega)).mono ?_
                rintro e wq ⟨rfl, rfl⟩
                cases hv : nameB tx with
                | true =>
                  have HE2 : Hid (scanR s L ps = scanR s L (ps.drop (i + 1))) := Lib.hid (by rw [HS2.out, HI.out, hv]; rfl)
                  go_wp2_with fail
                  go_roundg (ps.length - (i + 1))
                  case measure => omega
                  case rel => exact ⟨i + 1, by omega, rfl, by go_num, hbW, HE2⟩
                | false =>
                  have HV : Hid (parseS s = ([], at_, 10)) := Lib.hid (by rw [HR.out, HS2.out, HI.out, hv]; rfl)
                  have f0 := bFx.free 0
                  have f1 := bFx.free 1
                  have f2 := bFx.free 2
                  have e0 := bFx.cell 0
                  have e1 := bFx.cell 1
                  have e2 := bFx.cell 2
                  simp at e0 e1 e2
                  go_wp2_with fail
                  refine wp_region_plan (fun X => X.cell? ⟨wr.heap.size, 1, none⟩ = some (.int .i64 at_)) [(false, 0), (false, 1), (false, 2), (false, 3), (true, 4)] (by kernel_rfl) (by kernel_rfl) (by simpa using d1) ?_
                  simp only [planOps, List.map, List.getD_cons_zero, List.getD_cons_succ]
                  iterate 4 ((first | refine plan_quiet (v := ?_) rfl rfl (fun w' hw' => ?_) ?_ | refine plan_calm (v := ?_) (tt_of) rfl (fun w' hw' => ?_) ?_); rotate_left; (focus (go_simp <;> with_reducible rfl)); simp only [Act.put, List.setIfInBounds_toArray, List.set_cons_zero, List.set_cons_succ])
                  refine plan_loud rfl (fun K hK => ?_)
                  go_simp
                  have K4 := only_set3 W w.heap.size (.string ⟨#[]⟩) (.int .i64 at_) (.int .i64 10)
                  refine hK _ _ ((K4.drew.cell d1 (by show ¬ wr.heap.size = w.heap.size; have := hbw.size; have := bFx0; omega))) ?_
                  clear hK K
                  (try simp only [Act.put, List.setIfInBounds_toArray, List.set_cons_zero, List.set_cons_succ])
                  refine plan_end ?_
                  have B5 := set3 bFx (.string ⟨#[]⟩) (.int .i64 at_) (.int .i64 10)
                  have K5 := only_set3 W w.heap.size (.string ⟨#[]⟩) (.int .i64 at_) (.int .i64 10)
                  generalize ((W.setCell ⟨w.heap.size, 0, none⟩ (.string ⟨#[]⟩)).setCell ⟨w.heap.size, 1, none⟩ (.int .i64 at_)).setCell ⟨w.heap.size, 2, none⟩ (.int .i64 10) = W5 at B5 K5 ⊢
                  have z0 := B5.cell 0
                  have z1 := B5.cell 1
                  have z2 := B5.cell 2
                  simp at z0 z1 z2
                  have q5 : Below w.heap.size w W5 := ((Kept.of_below hbx (fun k => k = w.heap.size)).trans K5).below (Nat.le_refl _) (fun k hk h => by omega)
                  go_wp2_with fail
                  refine bodyPost_ret (v := .tuple #[.slice none 0 0, .agg #[.string ⟨#[]⟩, .int .i64 at_, .int .i64 10]]) (by simp [results, Tryd.results25, go_sem, z0, z1, z2]) rfl ?_
                  rw [HV.out]
                  exact ⟨⟨_, rfl, Sl.nil _ _ _ _⟩, q5.drew⟩
              by_cases k2 : kd = 2
              · have b1 : ((kd : Int) == 1) = false := beq_eq_false_iff_ne.2 (by omega)
                have b2 : ((kd : Int) == 2) = true := beq_iff_eq.2 (by omega)
                have b3 : ((kd : Int) == 3) = false := beq_eq_false_iff_ne.2 (by omega)
                have HI : Hid (itErr ⟨kd, rs, tx⟩ = if wordB tx = true then 0 else 10) := Lib.hid (by rw [itErr, if_neg k1, if_pos k2])
                clear k1 k2
                go_wp2_with fail
                refine (eword_any tx _ (by omega)).mono ?_
                rintro e wq ⟨rfl, rfl⟩
                cases hv : wordB tx with
                | true =>
                  have HE2 : Hid (scanR s L ps = scanR s L (ps.drop (i + 1))) := Lib.hid (by rw [HS2.out, HI.out, hv]; rfl)
                  go_wp2_with fail
                  go_roundg (ps.length - (i + 1))
                  case measure => omega
                  case rel => exact ⟨i + 1, by omega, rfl, by go_num, hbW, HE2⟩
                | false =>
                  have HV : Hid (parseS s = ([], at_, 10)) := Lib.hid (by rw [HR.out, HS2.out, HI.out, hv]; rfl)
                  have f0 := bFx.free 0
                  have f1 := bFx.free 1
                  have f2 := bFx.free 2
                  have e0 := bFx.cell 0
                  have e1 := bFx.cell 1
                  have e2 := bFx.cell 2
                  simp at e0 e1 e2
                  go_wp2_with fail
                  refine wp_region_plan (fun X => X.cell? ⟨wr.heap.size, 1, none⟩ = some (.int .i64 at_)) [(false, 0), (false, 1), (false, 2), (false, 3), (true, 4)] (by kernel_rfl) (by kernel_rfl) (by simpa using d1) ?_
                  simp only [planOps, List.map, List.getD_cons_zero, List.getD_cons_succ]
                  iterate 4 ((first | refine plan_quiet (v := ?_) rfl rfl (fun w' hw' => ?_) ?_ | refine plan_calm (v := ?_) (tt_of) rfl (fun w' hw' => ?_) ?_); rotate_left; (focus (go_simp <;> with_reducible rfl)); simp only [Act.put, List.setIfInBounds_toArray, List.set_cons_zero, List.set_cons_succ])
                  refine plan_loud rfl (fun K hK => ?_)
                  go_simp
                  have K4 := only_set3 W w.heap.size (.string ⟨#[]⟩) (.int .i64 at_) (.int .i64 10)
                  refine hK _ _ ((K4.drew.cell d1 (by show ¬ wr.heap.size = w.heap.size; have := hbw.size; have := bFx0; omega))) ?_
                  clear hK K
                  (try simp only [Act.put, List.setIfInBounds_toArray, List.set_cons_zero, List.set_cons_succ])
                  refine plan_end ?_
                  have B5 := set3 bFx (.string ⟨#[]⟩) (.int .i64 at_) (.int .i64 10)
                  have K5 := only_set3 W w.heap.size (.string ⟨#[]⟩) (.int .i64 at_) (.int .i64 10)
                  generalize ((W.setCell ⟨w.heap.size, 0, none⟩ (.string ⟨#[]⟩)).setCell ⟨w.heap.size, 1, none⟩ (.int .i64 at_)).setCell ⟨w.heap.size, 2, none⟩ (.int .i64 10) = W5 at B5 K5 ⊢
                  have z0 := B5.cell 0
                  have z1 := B5.cell 1
                  have z2 := B5.cell 2
                  simp at z0 z1 z2
                  have q5 : Below w.heap.size w W5 := ((Kept.of_below hbx (fun k => k = w.heap.size)).trans K5).below (Nat.le_refl _) (fun k hk h => by omega)
                  go_wp2_with fail
                  refine bodyPost_ret (v := .tuple #[.slice none 0 0, .agg #[.string ⟨#[]⟩, .int .i64 at_, .int .i64 10]]) (by simp [results, Tryd.results25, go_sem, z0, z1, z2]) rfl ?_
                  rw [HV.out]
                  exact ⟨⟨_, rfl, Sl.nil _ _ _ _⟩, q5.drew⟩
              have b1 : ((kd : Int) == 1) = false := beq_eq_false_iff_ne.2 (by omega)
              have b2 : ((kd : Int) == 2) = false := beq_eq_false_iff_ne.2 (by omega)
              by_cases k3 : kd = 3
              · have b3 : ((kd : Int) == 3) = true := beq_iff_eq.2 (by omega)
                have HI : Hid (itErr ⟨kd, rs, tx⟩ = vErr 1 tx) := Lib.hid (by rw [itErr, if_neg k1, if_neg k2, if_pos k3])
                clear k1 k2 k3
                go_wp2_with fail
                refine (rcheck_any 1 tx _ (by omega)).mono ?_
                rintro e wk ⟨rfl, hbk⟩
                have d1 := (hbk.cell (p := ⟨wr.heap.size, 1, none⟩) (lt_of_cell d1)).trans d1
                have hbW := hbW.trans (hbk.mono hbW.size)
                have bFx := bFx.below hbk bFx.lt
                have hbx := hbx.trans (hbk.mono hbx.size)
                obtain ⟨ve, Hve⟩ : ∃ y, Hid (vErr 1 tx = y) := ⟨_, Lib.hid rfl⟩
                rw [Hve.out] at HI
                rw [Hve.out]
                clear hbk bP d0 d2
                by_cases h0 : ve = 0
                · have hb0 : (ve != 0) = false := by simpa using h0
                  have HE2 : Hid (scanR s L ps = scanR s L (ps.drop (i + 1))) := Lib.hid (by rw [HS2.out, HI.out, if_pos h0])
                  clear h0
                  go_wp2_with fail
                  go_roundg (ps.length - (i + 1))
                  case measure => omega
                  case rel => exact ⟨i + 1, by omega, rfl, by go_num, hbW, HE2⟩
                · have hb0 : (ve != 0) = true := by simpa using h0
                  have HV : Hid (parseS s = ([], at_, ve)) := Lib.hid (by rw [HR.out, HS2.out, HI.out, if_neg h0])
                  clear h0
                  have f0 := bFx.free 0
                  have f1 := bFx.free 1
                  have f2 := bFx.free 2
                  have e0 := bFx.cell 0
                  have e1 := bFx.cell 1
                  have e2 := bFx.cell 2
                  simp at e0 e1 e2
                  go_wp2_with fail
                  refine wp_region_plan (fun X => X.cell? ⟨wr.heap.size, 1, none⟩ = some (.int .i64 at_)) [(false, 0), (false, 1), (false, 2), (false, 3), (false, 4), (true, 5)] (by kernel_rfl) (by kernel_rfl) (by simpa using d1) ?_
                  simp only [planOps, List.map, List.getD_cons_zero, List.getD_cons_succ]
                  iterate 5 ((first | refine plan_quiet (v := ?_) rfl rfl (fun w' hw' => ?_) ?_ | refine plan_calm (v := ?_) (tt_of) rfl (fun w' hw' => ?_) ?_); rotate_left; (focus (go_simp <;> with_reducible rfl)); simp only [Act.put, List.setIfInBounds_toArray, List.set_cons_zero, List.set_cons_succ])
                  refine plan_loud rfl (fun K hK => ?_)
                  go_simp
                  have K4 := only_set3 wk w.heap.size (.string ⟨#[]⟩) (.int .i64 at_) (.int .i64 ve)
                  refine hK _ _ ((K4.drew.cell d1 (by show ¬ wr.heap.size = w.heap.size; have := hbw.size; have := bFx0; omega))) ?_
                  clear hK K
                  (try simp only [Act.put, List.setIfInBounds_toArray, List.set_cons_zero, List.set_cons_succ])
                  refine plan_end ?_
                  have B5 := set3 bFx (.string ⟨#[]⟩) (.int .i64 at_) (.int .i64 ve)
                  have K5 := only_set3 wk w.heap.size (.string ⟨#[]⟩) (.int .i64 at_) (.int .i64 ve)
                  generalize ((wk.setCell ⟨w.heap.size, 0, none⟩ (.string ⟨#[]⟩)).setCell ⟨w.heap.size, 1, none⟩ (.int .i64 at_)).setCell ⟨w.heap.size, 2, none⟩ (.int .i64 ve) = W5 at B5 K5 ⊢
                  have z0 := B5.cell 0
                  have z1 := B5.cell 1
                  have z2 := B5.cell 2
                  simp at z0 z1 z2
                  have q5 : Below w.heap.size w W5 := ((Kept.of_below hbx (fun k => k = w.heap.size)).trans K5).below (Nat.le_refl _) (fun k hk h => by omega)
                  go_wp2_with fail
                  refine bodyPost_ret (v := .tuple #[.slice none 0 0, .agg #[.string ⟨#[]⟩, .int .i64 at_, .int .i64 ve]]) (by simp [results, Tryd.results25, go_sem, z0, z1, z2]) rfl ?_
                  rw [HV.out]
                  exact ⟨⟨_, rfl, Sl.nil _ _ _ _⟩, q5.drew⟩
              · have b3 : ((kd : Int) == 3) = false := beq_eq_false_iff_ne.2 (by omega)
                have HE2 : Hid (scanR s L ps = scanR s L (ps.drop (i + 1))) := Lib.hid (by rw [HS2.out, itErr, if_neg k1, if_neg k2, if_neg k3]; rfl)
                clear k1 k2 k3
                go_wp2_with fail
                go_roundg (ps.length - (i + 1))
                case measure => omega
                case rel => exact ⟨i + 1, by omega, rfl, by go_num, hbW, HE2⟩
          · obtain rfl : i = ps.length := by omega
            have HV : Hid (scanR s L ps = none) := Lib.hid (by rw [HE.out, List.drop_length]; rfl)
            go_wp2_with fail
            go_meet
            exact ⟨HV, hbw⟩
      case rest =>
        obtain ⟨HN, hbw⟩ := hcut
        have HR2 : Hid (parseS s = if 64 < hd.length then ([], L, 4) else (l, 0, 0)) := Lib.hid (by rw [HR.out, HN.out])
        have c4' := (hbw.cell (p := ⟨w.heap.size + 1, 4, none⟩) (lt_of_cell c4)).trans c4
        have c5' := (hbw.cell (p := ⟨w.heap.size + 1, 5, none⟩) (lt_of_cell c5)).trans c5
        have bFx := bFx.below hbw bFx.lt
        have hsl3 := hsl2.keep good_group (Kept.of_below hbw _)
        have hbx := hbx.trans (hbw.mono hbx.size)
        clear c3 c4 c5 cb fb
        have f0 := bFx.free 0
        have f1 := bFx.free 1
        have f2 := bFx.free 2
        have e0 := bFx.cell 0
        have e1 := bFx.cell 1
        have e2 := bFx.cell 2
        simp at e0 e1 e2
        by_cases h64 : 64 < hd.length
        · have hd1 : decide ((64 : Int) < (hd.length : Int)) = true := by simp; omega
          have HV : Hid (parseS s = ([], L, 4)) := Lib.hid (by rw [HR2.out, if_pos h64])
          go_wp2_with fail
          have B5 := set3 bFx (.string ⟨#[]⟩) (.int .i64 L) (.int .i64 4)
          have K5 := only_set3 wc w.heap.size (.string ⟨#[]⟩) (.int .i64 L) (.int .i64 4)
          generalize ((wc.setCell ⟨w.heap.size, 0, none⟩ (.string ⟨#[]⟩)).setCell ⟨w.heap.size, 1, none⟩ (.int .i64 L)).setCell ⟨w.heap.size, 2, none⟩ (.int .i64 4) = W5 at B5 K5 ⊢
          have z0 := B5.cell 0
          have z1 := B5.cell 1
          have z2 := B5.cell 2
          simp at z0 z1 z2
          have q5 : Below w.heap.size w W5 := ((Kept.of_below hbx (fun k => k = w.heap.size)).trans K5).below (Nat.le_refl _) (fun k hk h => by omega)
          refine bodyPost_ret (v := .tuple #[.slice none 0 0, .agg #[.string ⟨#[]⟩, .int .i64 L, .int .i64 4]]) (by simp [results, Tryd.results25, go_sem, z0, z1, z2]) rfl ?_
          rw [HV.out]
          exact ⟨⟨_, rfl, Sl.nil _ _ _ _⟩, q5⟩
        · have hd1 : decide ((64 : Int) < (hd.length : Int)) = false := by simp; omega
          have HV : Hid (parseS s = (l, 0, 0)) := Lib.hid (by rw [HR2.out, if_neg h64])
          go_wp2_with fail
          have B5 := set3 bFx (.string ⟨#[]⟩) (.int .i64 0) (.int .i64 0)
          have K5 := only_set3 wc w.heap.size (.string ⟨#[]⟩) (.int .i64 0) (.int .i64 0)
          generalize ((wc.setCell ⟨w.heap.size, 0, none⟩ (.string ⟨#[]⟩)).setCell ⟨w.heap.size, 1, none⟩ (.int .i64 0)).setCell ⟨w.heap.size, 2, none⟩ (.int .i64 0) = W5 at B5 K5 ⊢
          have z0 := B5.cell 0
          have z1 := B5.cell 1
          have z2 := B5.cell 2
          simp at z0 z1 z2
          have q5 : Below w.heap.size w W5 := ((Kept.of_below hbx (fun k => k = w.heap.size)).trans K5).below (Nat.le_refl _) (fun k hk h => by omega)
          refine bodyPost_ret (v := .tuple #[.slice Al l.length capl, .agg #[.string ⟨#[]⟩, .int .i64 0, .int .i64 0]]) (by simp [results, Tryd.results25, go_sem, z0, z1, z2]) rfl ?_
          have sl5 := (hsl3.keep good_group (K5.mono fun k _ h => by show k < w.heap.size + 2; omega)).mono (Y := old w.heap.size) good_group (by omega) (fun k _ h => by unfold old at h; show k < w.heap.size + 2; omega)
          rw [HV.out]
          exact ⟨⟨_, rfl, sl5⟩, q5⟩
end Go.Proofs.YtdnncbhbajciaaaDoor
