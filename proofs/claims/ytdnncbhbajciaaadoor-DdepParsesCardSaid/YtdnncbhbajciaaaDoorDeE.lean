/- The document's reader of ddep: field. -/
import Derived.Test.YtdnncbhbajciaaaDoorDeD
namespace Go.Proofs.YtdnncbhbajciaaaDoor
open Go.RowKit
theorem skipB_idem (r : List UInt8) : skipB (skipB r) = skipB r := by
  induction r with
  | nil => rfl
  | cons c t ih =>
    by_cases hc : c = 32
    · subst hc; rw [skipB_cons]; exact ih
    · rw [skipB_stop (c :: t) (fun u e => hc (by injection e))]
      exact skipB_stop _ (fun u e => hc (by injection e))
theorem pArchs_its (r : List UInt8) (acc : List (List UInt8)) (its : List It) : ∀ a q i, pArchs r acc its = .ok a q i → i.length + q.length ≤ its.length + r.length := by
  induction hn : r.length using Nat.strongRecOn generalizing r acc its with
  | ind n ih =>
    intro a q i h
    rw [pArchs] at h
    have h3 := notP_len r
    have h4 := skipB_len (behind wEnds (notP r).2)
    split at h
    · cases h
    · rename_i hne
      have h6 := upTo_pos _ _ hne
      split at h
      · rename_i t ht
        injection h with _ h2 h7
        subst h2 h7
        have h1 := skipB_len t
        rw [ht, List.length_cons] at h4
        simp; omega
      · split at h
        · cases h
        · have := ih _ (by omega) _ _ _ rfl a q i h
          simp at this
          omega
theorem pQual_its (r : List UInt8) : ∀ a q i, pQual r = .ok a q i → i.length + q.length ≤ r.length := by
  intro a q i h
  unfold pQual at h
  split at h
  · split at h
    · cases h
    · rename_i t hne
      injection h with _ h2 h4
      subst h2 h4
      have := upTo_pos wEnds t hne
      simp; omega
  · injection h with _ h2 h4
    subst h2 h4
    simp
theorem pRelQ_its (r : List UInt8) : ∀ a q i, pRelQ r = .ok a q i → i.length + q.length ≤ r.length := by
  intro a q i h
  unfold pRelQ at h
  split at h
  · rename_i t
    unfold pRel at h
    split at h
    · cases h
    · have h2 := skipB_len (pOp (skipB t)).2
      have h3 := pOp_len (skipB t)
      have h4 := skipB_len t
      unfold pRel2 at h
      split at h
      · cases h
      · rename_i hne
        split at h
        · rename_i u hu
          injection h with _ e2 e4
          subst e2 e4
          have k1 := skipB_len u
          have k3 := skipB_len (behind vEnds (skipB (pOp (skipB t)).2))
          have k4 := upTo_pos vEnds _ hne
          rw [hu, List.length_cons] at k3
          simp; omega
        · cases h
  · injection h with _ h2 h4
    subst h2 h4
    simp
theorem pTerm_its (r : List UInt8) : ∀ a q i, pTerm r = .ok a q i → i.length + 2 * q.length ≤ 2 * r.length := by
  intro a q i h
  unfold pTerm at h
  split at h
  · cases h
  · rename_i hne
    have h0 := upTo_pos nEnds r hne
    unfold pTerm1 at h
    split at h
    · cases h
    · rename_i q1 r1 i1 e1
      have h1 := pQual_its _ _ _ _ e1
      have h1' := skipB_len r1
      unfold pTerm2 at h
      split at h
      · cases h
      · rename_i ov r2 i2 e2
        have h2 := pRelQ_its _ _ _ _ e2
        unfold pTerm3 at h
        split at h
        · cases h
        · rename_i a3 r3 i3 e3
          injection h with _ h4 h5
          subst h4 h5
          have h3 : i3.length + r3.length ≤ r2.length := by
            unfold pArchQ at e3
            split at e3
            · rename_i t
              have := pArchs_its _ _ _ _ _ _ e3
              have := skipB_len t
              simp at *; omega
            · injection e3 with _ h2 h4
              subst h2 h4
              simp
          simp only [List.length_cons, List.length_append]
          omega
/-- The state's list, set. -/
theorem St.setL {w : World} {g : Nat} {s r : List UInt8} {bad : Bool} {vl : Value} {its : List It} (h : St w g s r bad vl its) (v' : Value) :
    St (w.setCell ⟨g, 4, none⟩ v') g s r bad v' its ∧ Mv g w (w.setCell ⟨g, 4, none⟩ v') := by
  obtain ⟨k, vp, vh, hk, rfl, hB, hp, hh⟩ := h
  have hB' : Blk (w.setCell ⟨g, 4, none⟩ v') g 93 #[.string (bs s), .int .i64 k, .bool bad, vp, v', vh] := by
    have := hB.set (u := v') 4
    simpa using this
  have hO : Only g w (w.setCell ⟨g, 4, none⟩ v') := Only.set (Kept.refl _ _) 4 _
  exact ⟨⟨k, vp, vh, hk, rfl, hB', hp.keepP (pure_part s) hO (fun i hi hz => by have := hp.ge i hi; omega), hh.keepP (pure_head s) hO (fun i hi hz => by have := hh.ge i hi; omega)⟩, Mv.of_only hB hB' hO⟩
theorem St.lc {w : World} {g : Nat} {s r : List UInt8} {bad : Bool} {vl : Value} {its : List It} (h : St w g s r bad vl its) : w.cell? ⟨g, 4, none⟩ = some vl ∧ w.frozen? ⟨g, 4, none⟩ = false := by
  obtain ⟨_, _, _, hB⟩ := h.free1
  exact ⟨by simpa using hB.cell 4, hB.free 4⟩
/-- Nothing ahead of g was turned. -/
abbrev From (g : Nat) (w w' : World) : Prop := Kept (fun k => g ≤ k) w w'
theorem St.from {w w' : World} {g : Nat} {s r : List UInt8} {bad : Bool} {vl : Value} {its : List It} (h : St w g s r bad vl its) (hM : Mv g w w') : From g w w' := hM.kept.mono fun k _ hk => (h.dlt k hk).1
/-- What reading a field gives. -/
def EFieldR (g : Nat) (s : List UInt8) (w : World) (x : Res (List (List Tm))) (e : Ending) (w' : World) : Prop := e = .returned (.tuple #[]) ∧ From g w w' ∧ match x with
  | .bad b => ∃ vl its', St w' g s b true vl its'
  | .ok l q i => ∃ vl, St w' g s q false vl i ∧ Sl 1 Rgroup (Off w.heap.size g w') w' vl l
theorem off_new {B g : Nat} {w : World} {s r : List UInt8} {bad : Bool} {vl : Value} {its : List It} (h : St w g s r bad vl its) (hB : B ≤ w.heap.size) : ∀ k, w.heap.size ≤ k → ¬ Off B g w k := fun k hk ho => by
  rcases ho with h1 | h1
  · omega
  · have := (h.dlt k h1).2; omega
set_option maxRecDepth 20000 in
set_option maxHeartbeats 32000000 in
theorem efield_any (g : Nat) (s : List UInt8) (w : World) (hs : s.length ≤ 1000000) (h : St w g s s false (.slice none 0 0) []) :
    Calls Tryd.prog 56 #[.pointer (some ⟨g, 0, none⟩)] w (EFieldR g s w (pAll s)) := by
  have hgw : g < w.heap.size := h.lt
  obtain ⟨x, hx⟩ : ∃ x, pAll s = x := ⟨_, rfl⟩
  rw [hx]
  have HX : Hid (x = if skipB s = [] then .ok [] [] [] else pField (skipB s) [] []) := Lib.hid (by rw [← hx]; rfl)
  clear hx
  go_enter Tryd.func56, Tryd.ntmps56
  go_wp2_with fail
  refine (eblanks_any g s s false _ [] _ hs h).mono ?_
  rintro e w1 ⟨rfl, S1, M1⟩
  have q1 := h.from M1
  have hl1 := skipB_len s
  have Hsk := Lib.hid (skipB_idem s)
  clear h M1
  generalize skipB s = r0 at HX S1 hl1 Hsk
  go_wp2_with fail
  refine (has_any g s r0 false _ [] _ S1).mono ?_
  rintro e w2 ⟨rfl, S2, M2⟩
  have q2 := q1.trans (S1.from M2)
  clear S1 M2 q1
  by_cases h0 : r0 = []
  · have hb : r0.isEmpty = true := by simpa using h0
    have HV : Hid (x = .ok [] [] []) := Lib.hid (by rw [HX.out, if_pos h0])
    rw [hb]
    rw [h0] at S2
    clear hb h0 HX
    go_wp2_with fail
    go_end0
    refine ⟨rfl, q2, ?_⟩
    rw [HV.out]
    exact ⟨_, S2, Sl.nil _ _ _ _⟩
  · have hb : r0.isEmpty = false := by simpa using h0
    have HV : Hid (x = pField (skipB r0) [] []) := Lib.hid (by rw [HX.out, if_neg h0, Hsk.out])
    rw [hb]
    clear hb h0 HX
    go_wp2_with fail
    go_loopg [] r0.length (fun G wr => ∃ (r' : List UInt8) (acc : List (List Tm)) (its : List It) (vl : Value), G = r'.length ∧ acc.length + r'.length ≤ r0.length ∧ its.length + 2 * r'.length ≤ 10000000 ∧ St wr g s r' false vl its ∧ OwnL 1 Rgroup 45 w.heap.size (Off w.heap.size g wr) wr vl acc ∧ From g w wr ∧ Hid (x = pField (skipB r') acc its))
    case atStart => exact ⟨r0, [], [], _, rfl, by simp, by simp; omega, S2, OwnL.nil _ _ _ _ _ _, q2, HV⟩
    case round =>
      clear S2 q2 HV
      obtain ⟨r', acc, its, vl, rfl, hm1, hm2, S3, hownL, q3, HE⟩ := hrel
      obtain ⟨wo, rfl⟩ : ∃ wo : World, wo = wr := ⟨_, rfl⟩
      have hlt := hownL.ltw
      have HLT := Lib.hid hlt
      clear hlt
      go_wp2_with fail
      go_loopg [2] r'.length (fun G s2 wx => ∃ (r2 : List UInt8) (ga : List Tm) (ig : List It), G = r2.length ∧ r2.length ≤ r'.length ∧ ga.length + r2.length ≤ r'.length ∧ (its ++ ig).length + 2 * r2.length ≤ 10000000 ∧ St wx g s r2 false vl (its ++ ig) ∧ OwnL 5 Rterm 50 wo.heap.size (Off wo.heap.size g wx) wx s2 ga ∧ Mv g wo wx ∧ Hid (pGroup (skipB r') [] [] = pGroup (skipB r2) ga ig))
      case atStart => exact ⟨r', [], [], rfl, Nat.le_refl _, by simp, by rw [List.append_nil]; exact hm2, by rw [List.append_nil]; exact S3, OwnL.nil _ _ _ _ _ _, Mv.refl _ _, Lib.hid rfl⟩
      case round =>
        obtain ⟨r2, ga, ig, rfl, hn0, hn1, hn2, S4, hown, M4, HG⟩ := hrel
        obtain ⟨A4, cap4, rfl⟩ := hown.form
        go_wp2_with fail
        refine (eblanks_any g s r2 false vl _ _ hs S4).mono ?_
        rintro e w5 ⟨rfl, S5, M5⟩
        have hown5 := hown.mv good_term M5
        have M45 := M4.trans M5
        have hl2 := skipB_len r2
        clear S4 hown M4 M5
        go_wp2_with fail
        refine (eterm_any g s (skipB r2) vl _ _ hs (by omega) S5).mono ?_
        intro e w6 ht
        cases hp : pTerm (skipB r2) with
        | bad b =>
          rw [hp] at ht
          obtain ⟨⟨its', S6⟩, ⟨x0, x1, x2, x3, A6, n6, c6, rfl⟩, M6⟩ := ht
          have HB : Hid (x = .bad b) := Lib.hid (by rw [HE.out, pField_bad _ acc its b (by rw [HG.out, pGroup_bad _ ga ig b hp])])
          have q6 := q3.trans (S3.from (M45.trans M6))
          have kal := Kept.of_below ((Below.refl w6.heap.size w6).alloc (Nat.le_refl _) (.cells #[.string x0, .int .i64 x1, .string x2, .string x3, .slice A6 n6 c6] 50)) nowhere
          have S7 := (S6.keep kal (fun _ _ h => h)).1
          have q7 := q6.trans (kal.mono fun _ _ h => h.elim)
          obtain ⟨cb, fb⟩ := S7.badc
          clear hp HE HG kal S6 q6 S5
          go_wp2_with fail
          go_end0
          refine ⟨rfl, q7, ?_⟩
          rw [HB.out]
          exact ⟨_, _, S7⟩
        | ok t q i =>
          rw [hp] at ht
          obtain ⟨⟨v, rfl, hsl⟩, S6, M6⟩ := ht
          have hlen := pTerm_len _ _ _ _ hp
          have hits := pTerm_its _ _ _ _ hp
          have hrow5 := hown5.ltw
          have hown6 := hown5.mv good_term M6
          have hRt : Rterm (fun k => Off wo.heap.size g w6 k ∨ (Value.slice A4 ga.length cap4).ownBlock = some k) w6 [.string (bs t.name), .int .i64 t.op, .string (bs t.ver), .string (bs t.qual), v] t := ⟨v, rfl, hsl.mono good_text (by omega) (fun k _ hk => by
            have := M45.kept.size
            rcases hk with (h | h) | h
            · exact .inl (by omega)
            · exact .inr h
            · exact .inl (hrow5 k h))⟩
          obtain ⟨A5, cap5, rfl, _, _⟩ := hsl.form
          have HP := Lib.hid hp
          have M456 := M45.trans M6
          clear hp hsl hown5 S5 M45 M6 hrow5
          have kal := Kept.of_below ((Below.refl w6.heap.size w6).alloc (Nat.le_refl _) (.cells #[.string (bs t.name), .int .i64 t.op, .string (bs t.ver), .string (bs t.qual), .slice A5 t.archs.length cap5] 50)) nowhere
          obtain ⟨S7, hd7⟩ := S6.keep kal (fun _ _ h => h)
          have hown7 : OwnL 5 Rterm 50 wo.heap.size (Off wo.heap.size g w6) _ _ ga := hown6.keep good_term (kal.mono fun _ _ h => h.elim)
          have hRt7 := good_term.keep hRt (kal.mono fun _ _ h => h.elim)
          have M7 : Mv g wo _ := ⟨M456.kept.trans (kal.mono fun _ _ h => h.elim), fun k hk hd => M456.new k hk ((hd7 k).1 hd)⟩
          have hOf : Hid (∀ k, Off wo.heap.size g (w6.alloc (.cells #[.string (bs t.name), .int .i64 t.op, .string (bs t.ver), .string (bs t.qual), .slice A5 t.archs.length cap5] 50)) k ↔ Off wo.heap.size g w6 k) := Lib.hid (fun k => or_congr Iff.rfl (hd7 k))
          have bT := Blk.new w6 50 #[.string (bs t.name), .int .i64 t.op, .string (bs t.ver), .string (bs t.qual), .slice A5 t.archs.length cap5]
          have hnO := Lib.hid (off_new S6 M456.kept.size)
          have hs6 : w6.heap.size ≤ (w6.alloc (.cells #[.string (bs t.name), .int .i64 t.op, .string (bs t.ver), .string (bs t.qual), .slice A5 t.archs.length cap5] 50)).heap.size := by simp
          obtain ⟨cb, fb⟩ := S7.badc
          clear hown6 hRt kal M456 hd7
          go_upto_region 5 with fail
          generalize w6.alloc (.cells #[.string (bs t.name), .int .i64 t.op, .string (bs t.ver), .string (bs t.qual), .slice A5 t.archs.length cap5] 50) = W at hown7 hRt7 S7 M7 bT cb fb hOf hs6 ⊢
          obtain ⟨d0, d1, d2, d3, d4⟩ := TB.cells bT
          have hsz := M7.kept.size
          go_wp2_with (at_builtin; refine wpList_appendL (l := ga) good_term rfl _ _ _ _ _ 80 rfl Tryd.underlying45 info_term rfl (by omega) wo.heap.size rfl hown7 [.string (bs t.name), .int .i64 t.op, .string (bs t.ver), .string (bs t.qual), .slice A5 t.archs.length cap5] t rfl hRt7 (by omega) (by omega) hsz (fun k hk hk2 => hnO.out k (by omega) hk2) ?_; intro v8 w8 hown8 hk8)
          have hk8 : Kept (fun k => (Value.slice A4 ga.length cap4).ownBlock = some k) W w8 := hk8
          obtain ⟨S8, hd8⟩ := S7.keep hk8 (fun k hk hz => hown7.off k hz ((hOf.out k).1 (.inr hk)))
          have hge := hown7.ge
          have M8 : Mv g wo w8 := ⟨⟨hk8.os.trans M7.kept.os, hk8.tape.trans M7.kept.tape, hk8.output.trans M7.kept.output, Nat.le_trans M7.kept.size hk8.size, fun k hk hx => (hk8.block k (by omega) (fun e => by have := hge k e; omega)).trans (M7.kept.block k hk hx)⟩, fun k hk hd => M7.new k hk ((hd8 k).1 hd)⟩
          have hown8' : OwnL 5 Rterm 50 wo.heap.size (Off wo.heap.size g w8) w8 v8 (ga ++ [t]) := hown8.mono good_term (fun k _ hk => (hOf.out k).1 (hk.imp id (hd8 k).1)) (fun k hk hk2 => hown8.off k hk ((hOf.out k).1 (hk2.imp id (hd8 k).1)))
          obtain ⟨A8, cap8, hv8⟩ := hown8.form
          rw [List.length_append, List.length_singleton] at hv8
          subst hv8
          clear hk8 hown7 S7 M7 hge bT d0 d1 d2 d3 d4 hRt7 hd8 hown8 cb fb hOf hnO hsz hs6
          rw [List.append_assoc] at S8
          refine (etake_any 124 g s q false vl _ _ hs S8).mono ?_
          rintro e w9 ⟨rfl, S9, M9⟩
          have hown9 := hown8'.mv good_term M9
          have M89 := M8.trans M9
          clear S8 M8 M9 hown8'
          rcases hasB_is q 124 with ⟨u, rfl, hb, hsr⟩ | ⟨hb, hsr, hno⟩
          · rw [hb]
            rw [hsr] at S9
            have HG2 : Hid (pGroup (skipB r') [] [] = pGroup (skipB u) (ga ++ [t]) (ig ++ i)) := Lib.hid (by rw [HG.out, pGroup_next _ ga ig t u i HP.out])
            rw [List.length_cons] at hlen hits
            clear hb hsr HG HP
            go_wp2_with fail
            go_roundg u.length
            case measure => omega
            case rel => exact ⟨u, ga ++ [t], ig ++ i, rfl, by omega, by simp; omega, by simp only [List.length_append] at hn2 ⊢; omega, S9, hown9, M89, HG2⟩
          · rw [hb]
            rw [hsr] at S9
            have HG2 : Hid (pGroup (skipB r') [] [] = .ok (ga ++ [t]) q (ig ++ i)) := Lib.hid (by rw [HG.out, pGroup_end _ ga ig t q i HP.out hno])
            have hsl9 := hown9.sl good_term
            have hownL9 := hownL.mv good_group M89
            have hRg : Rgroup (fun k => Off w.heap.size g w9 k ∨ vl.ownBlock = some k) w9 [.slice A8 (ga.length + 1) cap8] (ga ++ [t]) := ⟨_, rfl, hsl9.mono good_term (by omega) (fun k _ hk => by
              have := q3.size
              rcases hk with (h | h) | h
              · exact .inl (by omega)
              · exact .inr h
              · exact .inl (HLT.out k h))⟩
            obtain ⟨cl, fl⟩ := S9.lc
            have hnO := Lib.hid (off_new (B := w.heap.size) S9 (Nat.le_trans q3.size M89.kept.size))
            have hsz : w.heap.size ≤ w9.heap.size := Nat.le_trans q3.size M89.kept.size
            have q9 := q3.trans (S3.from M89)
            obtain ⟨Al, capl, rfl⟩ := hownL.form
            clear hb hsr HG HP hno hsl9 hown9
            go_wp2_with (at_builtin; refine wpList_appendL (l := acc) good_group rfl _ _ _ _ _ 24 rfl Tryd.underlying33 info_group rfl (by omega) w.heap.size rfl hownL9 [.slice A8 (ga.length + 1) cap8] (ga ++ [t]) rfl hRg (by omega) (by omega) hsz (fun k hk hk2 => hnO.out k hk hk2) ?_; intro v10 w10 hown10 hk10; (obtain ⟨S10, hd10⟩ := S9.keep hk10 (fun k hk hz => hownL9.off k hz (.inr hk))); (have HD10 := Lib.hid hd10); clear hd10; (obtain ⟨cl', fl'⟩ := S10.lc); (obtain ⟨A10, cap10, hv10⟩ := hown10.form); rw [List.length_append, List.length_singleton] at hv10; subst hv10)
            obtain ⟨S11, M11⟩ := S10.setL (.slice A10 (acc.length + 1) cap10)
            have hownL10 : OwnL 1 Rgroup 45 w.heap.size (Off w.heap.size g w10) w10 (.slice A10 (acc.length + 1) cap10) (acc ++ [ga ++ [t]]) := hown10.mono good_group (fun k _ hk => hk.imp id (HD10.out k).1) (fun k hk hk2 => hown10.off k hk (hk2.imp id (HD10.out k).1))
            have hownL11 := hownL10.mv good_group M11
            have q10 : From g w w10 := q9.trans (Kept.mono hk10 fun k _ hk => by have := hownL9.ge k hk; omega)
            have q11 := q10.trans (S10.from M11)
            clear S10 hownL10 hown10 hk10 HD10 cl' fl' M11 q10 q9 hownL9 hRg cl fl hnO hsz S9 M89 hownL S3 q3 HLT
            generalize w10.setCell ⟨g, 4, none⟩ (.slice A10 (acc.length + 1) cap10) = W11 at S11 hownL11 q11 ⊢
            refine (etake_any 44 g s q false _ _ _ hs S11).mono ?_
            rintro e w12 ⟨rfl, S12, M12⟩
            have hownL12 := hownL11.mv good_group M12
            have q12 := q11.trans (S11.from M12)
            clear S11 hownL11 q11 M12
            rcases hasB_is q 44 with ⟨u, rfl, hb, hsr⟩ | ⟨hb, hsr, hno44⟩
            · rw [hb]
              rw [hsr] at S12
              have HE2 : Hid (x = pField (skipB u) (acc ++ [ga ++ [t]]) (its ++ (ig ++ i))) := Lib.hid (by rw [HE.out, pField_next _ acc its _ u _ HG2.out])
              rw [List.length_cons] at hlen hits
              clear hb hsr HE HG2
              go_wp2_with fail
              go_roundg u.length
              case measure => omega
              case rel => exact ⟨u, acc ++ [ga ++ [t]], its ++ (ig ++ i), _, rfl, by simp; omega, by simp only [List.length_append] at hn2 ⊢; omega, S12, hownL12, q12, HE2⟩
            · rw [hb]
              rw [hsr] at S12
              clear hb hsr
              go_wp2_with fail
              refine (has_any g s q false _ _ _ S12).mono ?_
              rintro e w13 ⟨rfl, S13, M13⟩
              have hownL13 := hownL12.mv good_group M13
              have q13 := q12.trans (S12.from M13)
              clear S12 hownL12 q12 M13
              by_cases h0 : q = []
              · have hb : q.isEmpty = true := by simpa using h0
                have HV : Hid (x = .ok (acc ++ [ga ++ [t]]) [] (its ++ (ig ++ i))) := Lib.hid (by rw [HE.out, pField_end _ acc its _ _ (by rw [HG2.out, h0])])
                rw [hb]
                rw [h0] at S13
                clear hb h0 HE HG2 hno44
                go_wp2_with fail
                go_end0
                refine ⟨rfl, q13, ?_⟩
                rw [HV.out]
                exact ⟨_, S13, hownL13.sl good_group⟩
              · have hb : q.isEmpty = false := by simpa using h0
                have HB : Hid (x = .bad q) := Lib.hid (by rw [HE.out, pField_no _ acc its _ q _ HG2.out h0 hno44])
                rw [hb]
                obtain ⟨cb, fb⟩ := S13.badc
                obtain ⟨S14, M14⟩ := S13.bad
                have q14 := q13.trans (S13.from M14)
                clear hb h0 HE HG2 hno44
                go_wp2_with fail
                go_end0
                refine ⟨rfl, q14, ?_⟩
                rw [HB.out]
                exact ⟨_, _, S14⟩
end Go.Proofs.YtdnncbhbajciaaaDoor
