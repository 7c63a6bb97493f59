/- The walk of the reader's line. -/
import Derived.Test.YthcgomainhaemaaDoorPaJ
namespace Go.Proofs.YthcgomainhaemaaDoor
open Go.RowKit
theorem info_slp : (Tryd.prog.info? tP).map (fun i => (i.zero, i.size, i.bytes)) = some (some (.slice none 0 0), 1, 24) := by kernel_rfl
theorem lit_text (w : World) (B : Nat) (x : List UInt8) (hB : B ≤ w.heap.size) (v : Value) : OwnL 1 Rtext tS B (old' w v) (w.alloc (.cells #[.string (bs x)] tS)) (.slice (some ⟨w.heap.size, 0, none⟩) 1 1) [x] := by
  refine ⟨[[.string (bs x)]], ⟨rfl, .inr ⟨w.heap.size, 1, _, rfl, hB, heap_alloc_new w _, Nat.le_refl _, by unfold maxLen; omega, rfl, rfl⟩⟩, rfl, fun k hk h => ?_, fun j h h' => ?_⟩
  · simp [Value.ownBlock] at hk
    have := h.1
    omega
  · have : j = 0 := by simpa using h
    subst this
    rfl
theorem info_field : (Tryd.prog.info? tF).map (fun i => (i.zero, i.size, i.bytes)) = some (some (.agg #[.string ⟨#[]⟩, .string ⟨#[]⟩]), 2, 32) := by kernel_rfl
theorem line_is (s : PSt) (l : List UInt8) : lineP s l = if ctlB l = true then (s, 3) else if blankL l = true then (⟨endP s, []⟩, 0) else if l.head? = some 32 then (if s.cur = [] then (s, 15) else (⟨s.all, addL s.cur l.tail⟩, 0)) else fieldP s l := rfl
set_option maxRecDepth 20000 in
set_option maxHeartbeats 16000000 in
theorem line_any (B rb T : Nat) (s : PSt) (l : List UInt8) (w : World) (h : RS B rb T s w) (hT : T + l.length + 1 ≤ 1000000000) :
    Calls Tryd.prog 28 #[.pointer (some ⟨rb, 0, none⟩), .string (bs l)] w fun e w' => e = .returned (.int .i64 (lineP s l).2) ∧ ((lineP s l).2 = 0 → RS B rb (T + l.length + 1) (lineP s l).1 w') ∧ Below B w w' := by
  have HL := Lib.hid (line_is s l)
  go_enter Tryd.func28, Tryd.ntmps28
  go_wp2_with fail
  refine (ctl_any l _ (by omega)).mono ?_
  rintro e w1 ⟨rfl, hb1⟩
  have h1 := h.below hb1
  have q1 := hb1.mono h.le
  clear hb1 h
  cases hc : ctlB l with
  | true =>
    have HX : Hid (lineP s l = (s, 3)) := Lib.hid (by rw [HL.out, hc]; rfl)
    go_wp2_with fail
    go_ret
    rw [HX.out]
    exact ⟨rfl, fun h0 => absurd (show (3 : Int) = 0 from h0) (by decide), q1⟩
  | false =>
    have HL2 := Lib.hid (show lineP s l = if blankL l = true then (⟨endP s, []⟩, 0) else if l.head? = some 32 then (if s.cur = [] then (s, 15) else (⟨s.all, addL s.cur l.tail⟩, 0)) else fieldP s l by rw [HL.out, hc]; rfl)
    clear HL hc
    go_wp2_with fail
    refine (blank_any l _ (by omega)).mono ?_
    rintro e w2 ⟨rfl, hb2⟩
    have h2 := h1.below hb2
    have q2 := q1.trans (hb2.mono h1.le)
    clear hb2 q1 h1
    cases hb : blankL l with
    | true =>
      have HX : Hid (lineP s l = (⟨endP s, []⟩, 0)) := Lib.hid (by rw [HL2.out, hb]; rfl)
      clear HL2 hb
      go_wp2_with fail
      refine (end_any B rb T s _ h2 (by omega)).mono ?_
      rintro e w3 ⟨rfl, h3, hb3⟩
      obtain ⟨av, nv, lv, hbk⟩ := h3.blk
      have hfz := hbk.frozen 1
      have c1 : w3.cell? ⟨rb, 1, none⟩ = some nv := by rw [hbk.cell]; rfl
      go_wp2_with fail
      go_ret
      rw [HX.out]
      exact ⟨rfl, fun _ => h3.drop.1.mono (by omega), (q2.trans hb3).trans h3.drop.2⟩
    | false =>
      have HL3 := Lib.hid (show lineP s l = if l.head? = some 32 then (if s.cur = [] then (s, 15) else (⟨s.all, addL s.cur l.tail⟩, 0)) else fieldP s l by rw [HL2.out, hb]; rfl)
      obtain ⟨c, t, hl⟩ : ∃ c t, l = c :: t := by
        cases l with
        | nil => cases hb
        | cons c t => exact ⟨c, t, rfl⟩
      clear HL2 hb
      have hks2 : 0 < (bs l).size := by rw [bs_size, hl]; simp
      have hbb : (bs l)[0]'hks2 = c := by subst hl; rfl
      have HLC := Lib.hid hl
      clear hl
      cases hb : ((c.toNat : Int) == 32) with
      | true =>
        have hh : l.head? = some 32 := by
          rw [HLC.out]
          have : (c.toNat : Int) = 32 := by simpa using hb
          exact congrArg some (UInt8.toNat_inj.1 (by show c.toNat = 32; omega))
        obtain ⟨r1, r2, r3, r4⟩ := h2
        rcases r4 with ⟨hcu, av, lv, ls, hr⟩ | ⟨mb, av, cv, lv, cm, nm, ls, n, m, hr, hls, hlT, hjT, hcur, hI, hn⟩
        · have HX : Hid (lineP s l = (s, 15)) := Lib.hid (by rw [HL3.out, if_pos hh, if_pos hcu])
          have c1 : w2.cell? ⟨rb, 1, none⟩ = some (.map none) := by rw [hr.blk.cell]; rfl
          have q := eqlNil
          clear HL3 hh
          go_wp2_with fail
          go_ret
          rw [HX.out]
          exact ⟨rfl, fun h0 => absurd (show (15 : Int) = 0 from h0) (by decide), q2⟩
        · have hne : s.cur ≠ [] := by rw [hcur]; simp
          have HX : Hid (lineP s l = (⟨s.all, addL s.cur l.tail⟩, 0)) := Lib.hid (by rw [HL3.out, if_pos hh, if_neg hne])
          have hadd : addL s.cur l.tail = cm ++ [(nm, Lib.join (ls ++ [l.tail]) [10])] := by
            rw [hcur, addL, join_add ls _ hls]; simp
          have c1 : w2.cell? ⟨rb, 1, none⟩ = some (.map (some mb)) := by rw [hr.blk.cell]; rfl
          have c2 : w2.cell? ⟨rb, 2, none⟩ = some lv := by rw [hr.blk.cell]; rfl
          have q := eqlSome
          have hext : (bs l).extract 1 (bs l).size = bs l.tail := by rw [ext_drop, bs_list, List.drop_one]
          have hsz1 : (1 : Int) ≤ ((bs l).size : Int) := by omega
          clear HL3 hh
          go_upto_region 10 with fail
          clear hb hbb
          refine wp_region_plan2 (wkD [37]) (fun W => W.cell? ⟨rb, 2, none⟩ = some lv) (fun _ => True) (fun _ _ => trivial) [(false, 0), (false, 1), (false, 2), (false, 3), (false, 4), (false, 5), (false, 6), (true, 7), (true, 8), (false, 9), (false, 10), (true, 11)] (by kernel_rfl) (by kernel_rfl) (by simpa using c2) ?_
          simp only [planOps, List.map, List.getD_cons_zero, List.getD_cons_succ]
          iterate 7 ((first | refine plan_quiet (v := ?_) rfl rfl (fun w' hw' => ?_) ?_ | refine plan_calm (v := ?_) (fun _ _ => trivial) rfl (fun w' hw' => ?_) ?_); rotate_left; (focus (go_simp <;> with_reducible rfl)); simp only [Act.put, List.setIfInBounds_toArray, List.set_cons_zero, List.set_cons_succ])
          refine plan_loud rfl (fun K hK => ?_)
          have b0 : Below w2.heap.size w2 w2.drew := (Below.refl _ w2).drew
          have r0 := hr.below b0
          have q0 := q2.trans (b0.mono (Nat.le_trans hr.hb (Nat.le_of_lt hr.blk.lt)))
          have d2 : w2.drew.cell? ⟨rb, 2, none⟩ = some lv := by simpa using c2
          clear c1 c2 b0 hr q2 hext hsz1 hks2 q
          generalize w2.drew = W at r0 q0 d2 ⊢
          go_simp
          have hlt := lt_of_cell d2
          refine hK _ _ ((by rw [World.cell?_alloc_lt _ _ ⟨rb, 2, none⟩ hlt]; exact d2)) ?_
          clear hK K
          (try simp only [Act.put, List.setIfInBounds_toArray, List.set_cons_zero, List.set_cons_succ])
          refine plan_loud rfl (fun K hK => ?_)
          have hWB : B ≤ W.heap.size := Nat.le_trans r0.hb (Nat.le_of_lt r0.blk.lt)
          have ka : Kept (fun k => lv.ownBlock = some k) W (W.alloc (Obj.cells #[Value.string (bs l.tail)] tS)) := (Kept.refl _ W).alloc _
          refine wp_appendL (X := old' W lv) (l := ls) good_text _ _ _ _ _ 16 rfl Tryd.underlying54 info_str rfl (by omega) B rfl ((r0.ln.old free_text).kept free_text ((Kept.refl nowhere W).alloc _) (fun _ _ h => h)) W.heap.size 1 [.string (bs l.tail)] l.tail rfl (Blk.new W _ _) rfl (by omega) (by omega) (by simp; omega) (fun k hk hk2 => by simp at hk; have := hk2.1; omega) ?_
          intro v5 w5 hown5 hk5
          have kk := ka.trans hk5
          obtain ⟨A5, cap5, rfl⟩ := hown5.form
          have bl5 : Blk w5 rb tR #[av, .map (some mb), lv] := kk.blk r0.blk fun e => r0.ln.apartB r0.blk neRS e
          have d5 : w5.cell? ⟨rb, 2, none⟩ = some lv := by rw [bl5.cell]; rfl
          have hfz := bl5.frozen 2
          have rL := r0.lines kk hown5
          have hll : (ls ++ [l.tail]).length = ls.length + 1 := by simp
          rw [hll] at rL
          refine hK _ _ (d5) ?_
          clear hK K
          (try simp only [Act.put, List.setIfInBounds_toArray, List.set_cons_zero, List.set_cons_succ])
          iterate 2 ((first | refine plan_quiet (v := ?_) rfl rfl (fun w' hw' => ?_) ?_ | refine plan_calm (v := ?_) (fun _ _ => trivial) rfl (fun w' hw' => ?_) ?_); rotate_left; (focus (go_simp <;> with_reducible rfl)); simp only [Act.put, List.setIfInBounds_toArray, List.set_cons_zero, List.set_cons_succ])
          refine plan_last rfl (by kernel_rfl) (by kernel_rfl) (fun K hK => ?_)
          go_simp
          refine hK _ _ (trivial) ?_
          clear hK K
          (try simp only [Act.put, List.setIfInBounds_toArray, List.set_cons_zero, List.set_cons_succ])
          refine plan_end ?_
          go_wp2_with fail
          go_ret
          rw [HX.out]
          refine ⟨rfl, fun _ => ?_, q0.trans rL.2⟩
          have hjl : (Lib.join (ls ++ [l.tail]) [10]).length ≤ T + l.length + 1 := by
            rw [join_add ls _ hls, List.length_append, List.length_cons]
            have := HLC.out
            rw [this] at hT ⊢
            simp at hT ⊢
            omega
          have hcl : s.cur.length = cm.length + 1 := by rw [hcur]; simp
          refine ⟨by show s.all.length ≤ _; omega, ⟨r2.1, fun _ => r2.2 hne⟩, by show (addL s.cur l.tail).length ≤ _; rw [hadd]; simp; omega, Or.inr ?_⟩
          refine ⟨mb, _, _, _, cm, nm, ls ++ [l.tail], n, m, rL.1, by simp, by simp; omega, hjl, hadd, ?_, by omega⟩
          show InM m ((addL s.cur l.tail).map (·.1))
          rw [hadd]
          rw [hcur] at hI
          simpa using hI
      | false =>
        have hh : ¬ l.head? = some 32 := by
          rw [HLC.out]
          intro e
          injection e with e
          rw [e] at hb
          cases hb
        have HX := Lib.hid (show lineP s l = fieldP s l by rw [HL3.out, if_neg hh])
        clear HL3 hh HLC
        obtain ⟨ca, cb, cc⟩ := cut58 l
        have HF : Hid (fieldP s l = if inB l 58 = true then (if nmOk (trimR (preC58 l)) = true then (if hasName s.cur (trimR (preC58 l)) = true then (s, 8) else if s.cur = [] ∧ s.all.length = 4096 then (s, 4) else (⟨s.all, s.cur ++ [(trimR (preC58 l), bareL (cutB l 58))]⟩, 0)) else (s, 10)) else (s, 3)) := Lib.hid (by
          rw [fieldP, ca]
          by_cases hx : l.contains 58 = true
          · rw [cc (by rw [ca]; exact hx)]
          · rw [if_neg hx, if_neg hx])
        have hC := cut_any (bs l) 58 w2 (by rw [bs_size]; omega)
        rw [bs_list, cb] at hC
        have hcl1 := cutA_len l 58
        have hcl2 := (cutB_len l 58).1
        rw [cb] at hcl1
        clear ca cb cc
        generalize preC58 l = pre at HF hC hcl1
        generalize cutB l 58 = rst at HF hC hcl2
        go_upto_region 12 with fail
        clear hb hbb hks2
        go_wp2_with fail
        refine hC.mono ?_
        rintro e w3 ⟨rfl, hb3⟩
        have h3 := h2.below hb3
        have q3 := q2.trans (hb3.mono h2.le)
        clear hC hb3 q2 h2
        cases hin : inB l 58 with
        | false =>
          have HX2 := Lib.hid (show lineP s l = (s, 3) by rw [HX.out, HF.out, hin]; rfl)
          clear HX HF hin
          go_wp2_with fail
          go_ret
          rw [HX2.out]
          exact ⟨rfl, fun h0 => absurd (show (3 : Int) = 0 from h0) (by decide), q3⟩
        | true =>
          have HX2 := Lib.hid (show lineP s l = (if nmOk (trimR pre) = true then (if hasName s.cur (trimR pre) = true then (s, 8) else if s.cur = [] ∧ s.all.length = 4096 then (s, 4) else (⟨s.all, s.cur ++ [(trimR pre, bareL rst)]⟩, 0)) else (s, 10)) by rw [HX.out, HF.out, hin]; rfl)
          clear HX HF hin
          have hTR : Calls Tryd.prog 39 #[.string (bs pre), .string ⟨#[32]⟩] w3 fun e w' => e = .returned (.string (bs (trimR pre))) ∧ w' = w3 := by
            have := Tryd.strings_TrimRight_one (bs pre) 32 (by decide) w3 (by rw [bs_size]; omega)
            rw [bs_list, trimR_is] at this
            exact this
          have hnl := trimR_len pre
          generalize trimR pre = nm at hTR HX2 hnl
          go_wp2_with fail
          refine hTR.mono ?_
          rintro e w4 ⟨rfl, rfl⟩
          clear hTR
          go_wp2_with fail
          refine (pname_any nm _ (by omega)).mono ?_
          rintro e w5 ⟨rfl, rfl⟩
          cases hnm : nmOk nm with
          | false =>
            have HX := Lib.hid (show lineP s l = (s, 10) by rw [HX2.out, hnm]; rfl)
            clear HX2 hnm
            go_wp2_with fail
            go_ret
            rw [HX.out]
            exact ⟨rfl, fun h0 => absurd (show (10 : Int) = 0 from h0) (by decide), q3⟩
          | true =>
            have HX := Lib.hid (show lineP s l = (if hasName s.cur nm = true then (s, 8) else if s.cur = [] ∧ s.all.length = 4096 then (s, 4) else (⟨s.all, s.cur ++ [(nm, bareL rst)]⟩, 0)) by rw [HX2.out, hnm]; rfl)
            clear HX2 hnm
            go_upto_region 18 with fail
            go_cut [9] (fun s9 wx => s9 = .bool (hasName s.cur nm) ∧ w4 = wx)
            case first =>
              obtain ⟨r1, r2, r3, r4⟩ := h3
              rcases r4 with ⟨hcu, av, lv, ls, hr⟩ | ⟨mb, av, cv, lv, cm, nmx, ls, n, m, hr, hls, hlT, hjT, hcur, hI, hn⟩
              · have c1 : w4.cell? ⟨rb, 1, none⟩ = some (.map none) := by rw [hr.blk.cell]; rfl
                have hlk := nlook_nil w4 nm (by omega)
                go_wp2_with fail
                go_meet
                exact ⟨by rw [hcu]; rfl, rfl⟩
              · have c1 : w4.cell? ⟨rb, 1, none⟩ = some (.map (some mb)) := by rw [hr.blk.cell]; rfl
                have hIf := hI nm
                rw [hasName_is] at hIf
                clear hcur hI
                go_wp2_with (at_lookup; refine wpList_nlook _ rfl _ _ rfl _ _ m rfl hr.map nm rfl (by omega) ?_; rintro vl -; rw [hIf])
                go_meet
                exact ⟨rfl, rfl⟩
            case rest =>
              obtain ⟨rfl, rfl⟩ := hcut
              cases hn : hasName s.cur nm with
              | true =>
                have HX2 := Lib.hid (show lineP s l = (s, 8) by rw [HX.out, hn]; rfl)
                clear HX hn
                go_wp2_with fail
                go_ret
                rw [HX2.out]
                exact ⟨rfl, fun h0 => absurd (show (8 : Int) = 0 from h0) (by decide), q3⟩
              | false =>
                have HX2 := Lib.hid (show lineP s l = (if s.cur = [] ∧ s.all.length = 4096 then (s, 4) else (⟨s.all, s.cur ++ [(nm, bareL rst)]⟩, 0)) by rw [HX.out, hn]; rfl)
                have HN := Lib.hid hn
                clear HX hn
                go_upto_region 21 with fail
                go_cut [74] (fun s74 wx => s74 = .bool (decide (s.cur = [] ∧ s.all.length = 4096)) ∧ w4 = wx)
                case first =>
                  obtain ⟨r1, r2, r3, r4⟩ := h3
                  rcases r4 with ⟨hcu, av, lv, ls, hr⟩ | ⟨mb, av, cv, lv, cm, nmx, ls, n, m, hr, hls, hlT, hjT, hcur, hI, hn⟩
                  · have c1 : w4.cell? ⟨rb, 1, none⟩ = some (.map none) := by rw [hr.blk.cell]; rfl
                    have c0 : w4.cell? ⟨rb, 0, none⟩ = some av := by rw [hr.blk.cell]; rfl
                    obtain ⟨vs, v1, v2, v3⟩ := hr.out
                    obtain ⟨A0, cap0, hav⟩ := v2.form
                    rw [v1] at hav
                    subst hav
                    have q := eqlNil
                    have hd : decide (s.cur = [] ∧ s.all.length = 4096) = ((s.all.length : Int) == 4096) := by
                      rw [Bool.eq_iff_iff]; simp [hcu]; omega
                    go_wp2_with fail
                    go_meet
                    exact ⟨by rw [hd], rfl⟩
                  · have c1 : w4.cell? ⟨rb, 1, none⟩ = some (.map (some mb)) := by rw [hr.blk.cell]; rfl
                    have q := eqlSome
                    have hd : decide (s.cur = [] ∧ s.all.length = 4096) = false := by simp [hcur]
                    go_wp2_with fail
                    go_meet
                    exact ⟨by rw [hd], rfl⟩
                case rest =>
                  obtain ⟨rfl, rfl⟩ := hcut
                  cases hd : decide (s.cur = [] ∧ s.all.length = 4096) with
                  | true =>
                    have HX := Lib.hid (show lineP s l = (s, 4) by rw [HX2.out, if_pos (of_decide_eq_true hd)])
                    clear HX2 hd
                    go_wp2_with fail
                    go_ret
                    rw [HX.out]
                    exact ⟨rfl, fun h0 => absurd (show (4 : Int) = 0 from h0) (by decide), q3⟩
                  | false =>
                    have hnd := of_decide_eq_false hd
                    have HX := Lib.hid (show lineP s l = (⟨s.all, s.cur ++ [(nm, bareL rst)]⟩, 0) by rw [HX2.out, if_neg hnd])
                    have HND := Lib.hid hnd
                    clear HX2 hd hnd
                    go_wp2_with fail
                    refine (end_any B rb T s _ h3 (by omega)).mono ?_
                    rintro e w5 ⟨rfl, h5, hb5⟩
                    have q5 := q3.trans hb5
                    clear q3 hb5 h3
                    go_upto_region 24 with fail
                    go_cut [81] (fun s81 wx => s81 = .bool (decide (s.cur = [])) ∧ w5 = wx)
                    case first =>
                      obtain ⟨r1, r2, r3, r4⟩ := h5
                      rcases r4 with ⟨hcu, av, lv, ls, hr⟩ | ⟨mb, av, cv, lv, ls, n, m, hr, hne, hI, hn⟩
                      · have c1 : w5.cell? ⟨rb, 1, none⟩ = some (.map none) := by rw [hr.blk.cell]; rfl
                        have q := eqlNil
                        go_wp2_with fail
                        go_meet
                        exact ⟨by simp [hcu], rfl⟩
                      · have c1 : w5.cell? ⟨rb, 1, none⟩ = some (.map (some mb)) := by rw [hr.blk.cell]; rfl
                        have q := eqlSome
                        go_wp2_with fail
                        go_meet
                        exact ⟨by simp [hne], rfl⟩
                    case rest =>
                      obtain ⟨rfl, rfl⟩ := hcut
                      go_upto_if 81 with fail
                      go_cut [] (fun wx => Below B w wx ∧ s.all.length + 1 ≤ 4096 ∧ s.all.length ≤ T ∧ s.cur.length ≤ T ∧ ∃ mb av cv lv ls n m, RA B rb mb av cv lv s.all s.cur ls n m wx ∧ InM m (s.cur.map (·.1)) ∧ n ≤ T)
                      case first =>
                        obtain ⟨r1, r2, r3, r4⟩ := h5
                        rcases r4 with ⟨hcu, av, lv, ls, hr⟩ | ⟨mb, av, cv, lv, ls, n, m, hr, hne, hI, hn⟩
                        · have hde : decide (s.cur = []) = true := by simp [hcu]
                          have hlen : s.all.length + 1 ≤ 4096 := by
                            have := HND.out
                            have := r2.1
                            by_cases h4 : s.all.length = 4096
                            · exact absurd ⟨hcu, h4⟩ HND.out
                            · omega
                          obtain ⟨av0, lv0, hav0⟩ : ∃ a b, a = av ∧ b = lv := ⟨_, _, rfl, rfl⟩
                          have fz1 := (hr.blk.alloc (.map #[] 0)).frozen 1
                          have c1 : (w5.alloc (.map #[] 0)).cell? ⟨rb, 1, none⟩ = some (.map none) := by rw [(hr.blk.alloc (.map #[] 0)).cell]; rfl
                          have hmm := @run_makeMap Tryd.prog
                          rw [hde]
                          go_upto_region 26 with fail
                          have hmd := hr.made
                          have q6 := q5.trans hmd.2
                          have hR := hmd.1
                          clear hmd fz1 c1 hmm hde hr q5 hav0
                          generalize ((w5.alloc (.map #[] 0)).setCell ⟨rb, 1, none⟩ (.map (some w5.heap.size))) = w6 at hR q6 ⊢
                          generalize w5.heap.size = mb at hR
                          obtain ⟨vs, v1, v2, v3⟩ := id hR.out
                          have hW6 := Nat.le_trans hR.hb (Nat.le_of_lt hR.blk.lt)
                          have c0 : w6.cell? ⟨rb, 0, none⟩ = some av := by rw [hR.blk.cell]; rfl
                          go_wp2_with (at_builtin; revert hW6)
                          intro hW6
                          refine wpList_appendL (X := old' w6 av) (l := vs) good_val rfl _ _ _ _ (.slice none 0 0) 24 rfl Tryd.underlying22 info_slp rfl (by omega) B rfl (v2.old free_val) [.slice none 0 0] (.slice none 0 0) rfl ⟨rfl, rfl⟩ (by omega) (by omega) hW6 (fun k hk hk2 => by have := hk2.1; omega) ?_
                          intro v7 w7 hown7 hk7
                          have hBg := hR.begin v1 v2 v3 hk7 hown7
                          have hvl : (vs ++ [Value.slice none 0 0]).length = s.all.length + 1 := by simp [v1]
                          have bl7 : Blk w7 rb tR #[av, .map (some mb), lv] := hk7.blk hR.blk fun e => v2.apartB hR.blk neRP e
                          have fz7 := bl7.frozen 0
                          have c7 : w7.cell? ⟨rb, 0, none⟩ = some av := by rw [bl7.cell]; rfl
                          obtain ⟨A7, cap7, rfl⟩ := hown7.form
                          rw [hvl] at hBg
                          go_wp2_with fail
                          go_meet
                          refine ⟨q6.trans hBg.2, hlen, r1, r3, mb, _, _, lv, ls, 0, _, by rw [hcu]; exact hBg.1, fun x => by rw [hcu]; rfl, Nat.zero_le _⟩
                        · have hde : decide (s.cur = []) = false := by simp [hne]
                          rw [hde]
                          go_wp2_with fail
                          go_meet
                          exact ⟨q5, r2.2 hne, r1, r3, mb, av, cv, lv, ls, n, m, hr, hI, hn⟩
                      case rest =>
                        obtain ⟨q6, hlen, r1, r3, mb, av, cv, lv, ls, n, m, hr, hI, hn⟩ := hcut
                        clear q5 h5
                        obtain ⟨vs, v1, v2, v3⟩ := hr.out
                        obtain ⟨ga, capa, hav, hga⟩ := own_slice v2 (by simp)
                        have hl1 : (vs ++ [cv]).length = s.all.length + 1 := by simp [v1]
                        rw [hl1] at hav
                        obtain ⟨Ac, capc, hcv⟩ := hr.cur.form
                        have c0 := hr.blk.cell 0
                        have c1 := hr.blk.cell 1
                        simp at c0 c1
                        have ca := (own_val v2).1
                        rw [hav, hl1] at ca
                        have ca := ca.cellAt s.all.length (by omega)
                        rw [show (vs ++ [cv])[s.all.length]? = some cv by rw [← v1]; simp] at ca
                        obtain ⟨p, hp⟩ : ∃ p, s.all.length = p := ⟨_, rfl⟩
                        obtain ⟨cl, hcl⟩ : ∃ cl, s.cur.length = cl := ⟨_, rfl⟩
                        rw [hp] at hav ca hlen
                        rw [hcl] at hcv
                        subst hav hcv
                        have hwp : IntKind.i64.wrap (p : Int) = p := i64_in _ (by omega) (by omega)
                        have hpl : (p : Int) < (p : Int) + 1 := by omega
                        have hp0 : (0 : Int) ≤ (p : Int) := by omega
                        go_upto_region 28 with fail
                        refine wp_region_plan (fun W => W.cell? ⟨rb, 0, none⟩ = some (.slice (some ⟨ga, 0, none⟩) (p + 1) capa) ∧ W.cell? ⟨rb, 1, none⟩ = some (.map (some mb)) ∧ W.cell? ⟨ga, p, none⟩ = some (.slice Ac cl capc)) [(false, 0), (false, 1), (false, 2), (false, 3), (false, 4), (false, 5), (false, 6), (false, 7), (false, 8), (false, 9), (false, 10), (false, 11), (false, 12), (true, 13)] (by kernel_rfl) (by kernel_rfl) (⟨by simpa using c0, by simpa using c1, by simpa using ca⟩) ?_
                        simp only [planOps, List.map, List.getD_cons_zero, List.getD_cons_succ]
                        iterate 13 ((first | refine plan_quiet (v := ?_) rfl rfl (fun w' hw' => ?_) ?_ | refine plan_calm (v := ?_) (tt_of) rfl (fun w' hw' => ?_) ?_); rotate_left; (focus (go_simp <;> with_reducible rfl)); simp only [Act.put, List.setIfInBounds_toArray, List.set_cons_zero, List.set_cons_succ])
                        refine plan_loud rfl (fun K hK => ?_)
                        have b0 : Below wc.heap.size wc wc.drew := (Below.refl _ wc).drew
                        have r0 := hr.below b0
                        have q7 := q6.trans (b0.mono (Nat.le_trans hr.hb (Nat.le_of_lt hr.blk.lt)))
                        clear hr q6 b0 c0 c1 ca v2 v3
                        generalize wc.drew = W at r0 q7 ⊢
                        refine wp_nput _ _ _ _ rfl mb n m rfl r0.map (by omega) nm rfl (by omega) cl rfl (wf_nat (by omega)) ?_
                        intro w8 hM8 hk8
                        have rM := r0.maps hk8 hM8
                        have q8 := q7.trans rM.2
                        have r8 := rM.1
                        clear rM hM8 hk8 q7 r0
                        obtain ⟨vs, v1, v2, v3⟩ := r8.out
                        have c0 := r8.blk.cell 0
                        have c1 := r8.blk.cell 1
                        simp at c0 c1
                        have ca := (own_val v2).1
                        have hl1 : (vs ++ [Value.slice Ac cl capc]).length = p + 1 := by simp [v1, hp]
                        rw [hl1] at ca
                        have ca := ca.cellAt p (by omega)
                        rw [show (vs ++ [Value.slice Ac cl capc])[p]? = some (Value.slice Ac cl capc) by rw [← hp, ← v1]; simp] at ca
                        refine hK _ _ (⟨c0, c1, ca⟩) ?_
                        clear hK K
                        (try simp only [Act.put, List.setIfInBounds_toArray, List.set_cons_zero, List.set_cons_succ])
                        refine plan_end ?_
                        go_upto_region 29 with fail
                        refine wp_region_plan (fun W => W.cell? ⟨rb, 0, none⟩ = some (.slice (some ⟨ga, 0, none⟩) (p + 1) capa) ∧ W.cell? ⟨ga, p, none⟩ = some (.slice Ac cl capc)) [(false, 0), (false, 1), (false, 2), (false, 3), (false, 4), (false, 5), (false, 6), (false, 7), (false, 8), (false, 9), (false, 10), (false, 11), (false, 12), (false, 13), (true, 14), (true, 15), (false, 16), (true, 17)] (by kernel_rfl) (by kernel_rfl) (⟨by simpa using c0, by simpa using ca⟩) ?_
                        simp only [planOps, List.map, List.getD_cons_zero, List.getD_cons_succ]
                        iterate 14 ((first | refine plan_quiet (v := ?_) rfl rfl (fun w' hw' => ?_) ?_ | refine plan_calm (v := ?_) (tt_of) rfl (fun w' hw' => ?_) ?_); rotate_left; (focus (go_simp <;> with_reducible rfl)); simp only [Act.put, List.setIfInBounds_toArray, List.set_cons_zero, List.set_cons_succ])
                        refine plan_loud rfl (fun K hK => ?_)
                        have b0 : Below w8.heap.size w8 w8.drew := (Below.refl _ w8).drew
                        have r0 := r8.below b0
                        have q9 := q8.trans (b0.mono (Nat.le_trans r8.hb (Nat.le_of_lt r8.blk.lt)))
                        have d0 : w8.drew.cell? ⟨rb, 0, none⟩ = some (.slice (some ⟨ga, 0, none⟩) (p + 1) capa) := by simpa using c0
                        have da : w8.drew.cell? ⟨ga, p, none⟩ = some (.slice Ac cl capc) := by simpa using ca
                        clear r8 q8 b0 c0 c1 ca v2 v3
                        generalize w8.drew = W at r0 q9 d0 da ⊢
                        go_simp
                        refine hK _ _ (⟨by rw [World.cell?_alloc_lt _ _ ⟨rb, 0, none⟩ (lt_of_cell d0)]; exact d0, by rw [World.cell?_alloc_lt _ _ ⟨ga, p, none⟩ (lt_of_cell da)]; exact da⟩) ?_
                        clear hK K
                        (try simp only [Act.put, List.setIfInBounds_toArray, List.set_cons_zero, List.set_cons_succ])
                        refine plan_loud rfl (fun K hK => ?_)
                        have hWB : B ≤ W.heap.size := Nat.le_trans r0.hb (Nat.le_of_lt r0.blk.lt)
                        have ka : Kept (fun k => (Value.slice Ac cl capc).ownBlock = some k) W (W.alloc (Obj.cells #[Value.string (bs nm), Value.string ⟨#[]⟩] tF)) := (Kept.refl _ W).alloc _
                        refine wp_appendL (X := old' W (Value.slice Ac cl capc)) (l := s.cur) good_field _ _ _ _ _ 32 rfl Tryd.underlying38 info_field rfl (by omega) B rfl ((r0.cur.old free_field).kept free_field ((Kept.refl nowhere W).alloc _) (fun _ _ h => h)) W.heap.size 1 [.string (bs nm), .string (bs [])] (nm, []) rfl (Blk.new W _ _) rfl (by omega) (by omega) (by simp; omega) (fun k hk hk2 => by simp at hk; have := hk2.1; omega) ?_
                        intro v10 w10 hown10 hk10
                        have kk := ka.trans hk10
                        obtain ⟨A10, cap10, rfl⟩ := hown10.form
                        have hll : (s.cur ++ [(nm, ([] : List UInt8))]).length = cl + 1 := by simp [hcl]
                        have rC := r0.curs kk hown10 rfl
                        rw [hll, hp] at rC
                        have q10 := q9.trans rC.2
                        obtain ⟨vs, v1, v2, v3⟩ := r0.out
                        have av10 := v2.kept free_val kk fun k e => v2.apart r0.cur nePF e
                        have hl1 : (vs ++ [Value.slice Ac cl capc]).length = p + 1 := by simp [v1, hp]
                        have ca := (own_val av10).1
                        rw [hl1] at ca
                        have ca := ca.cellAt p (by omega)
                        rw [show (vs ++ [Value.slice Ac cl capc])[p]? = some (Value.slice Ac cl capc) by rw [← hp, ← v1]; simp] at ca
                        obtain ⟨_, csg, hbg⟩ := av10.typed (g := ga) rfl
                        have hfz := hbg.frozen p
                        have bl10 : Blk w10 rb tR #[.slice (some ⟨ga, 0, none⟩) (p + 1) capa, .map (some mb), lv] := kk.blk r0.blk fun e => r0.cur.apartB r0.blk neRF e
                        have e0 := bl10.cell 0
                        simp at e0
                        have r11 := rC.1
                        clear rC r0 kk hown10 hk10 av10 v2 v3 q9 d0 da ka
                        refine hK _ _ (⟨e0, ca⟩) ?_
                        clear hK K
                        (try simp only [Act.put, List.setIfInBounds_toArray, List.set_cons_zero, List.set_cons_succ])
                        iterate 1 ((first | refine plan_quiet (v := ?_) rfl rfl (fun w' hw' => ?_) ?_ | refine plan_calm (v := ?_) (tt_of) rfl (fun w' hw' => ?_) ?_); rotate_left; (focus (go_simp <;> with_reducible rfl)); simp only [Act.put, List.setIfInBounds_toArray, List.set_cons_zero, List.set_cons_succ])
                        refine plan_last rfl (by kernel_rfl) (by kernel_rfl) (fun K hK => ?_)
                        go_simp
                        refine hK _ _ (trivial) ?_
                        clear hK K
                        (try simp only [Act.put, List.setIfInBounds_toArray, List.set_cons_zero, List.set_cons_succ])
                        refine plan_end ?_
                        clear hfz ca e0 bl10 hbg
                        generalize (w10.setCell ⟨ga, p, none⟩ (Value.slice A10 (cl + 1) cap10)) = w11 at r11 q10 ⊢
                        have hTR : Calls Tryd.prog 40 #[.string (bs rst), .string ⟨#[32]⟩] w11 fun e w' => e = .returned (.string (bs (bareL rst))) ∧ Below w11.heap.size w11 w' := by
                          have := Tryd.strings_Trim_one (bs rst) 32 (by decide) w11 (by rw [bs_size]; omega)
                          rw [bs_list, trimB_is] at this
                          refine this.mono ?_
                          rintro e w' ⟨rfl, hw⟩
                          refine ⟨rfl, ?_⟩
                          rcases hw with rfl | rfl
                          · exact Below.refl _ _
                          · exact (Below.refl _ _).drew
                        have hbl := bareL_len rst
                        have hcu : (s.cur ++ [(nm, ([] : List UInt8))]).length ≤ T + 1 := by rw [hll]; omega
                        generalize bareL rst = bv at hTR HX hbl
                        go_wp2_with fail
                        refine hTR.mono ?_
                        rintro e w12 ⟨rfl, hb12⟩
                        have r12 := r11.below hb12
                        have h11 := Nat.le_trans r11.hb (Nat.le_of_lt r11.blk.lt)
                        have q12 := q10.trans (hb12.mono h11)
                        have h12 := Nat.le_trans h11 hb12.size
                        clear hTR hb12 q10 r11
                        have rL := r12.lines (w1 := w12.alloc (.cells #[.string (bs bv)] tS)) ((Kept.refl _ w12).alloc _) (lit_text w12 B bv h12 lv)
                        have hfz := (r12.blk.alloc (.cells #[.string (bs bv)] tS)).frozen 2
                        have e2 := (r12.blk.alloc (.cells #[.string (bs bv)] tS)).cell 2
                        simp at e2
                        clear r12
                        go_wp2_with fail
                        go_ret
                        rw [HX.out]
                        refine ⟨rfl, fun _ => ?_, q12.trans rL.2⟩
                        refine ⟨by show s.all.length ≤ _; omega, ⟨by show s.all.length ≤ _; omega, fun _ => by show s.all.length + 1 ≤ _; omega⟩, ?_, Or.inr ?_⟩
                        · show (s.cur ++ [(nm, bv)]).length ≤ _
                          simp
                          omega
                        · refine ⟨mb, _, _, _, s.cur, nm, [bv], n + 1, _, rL.1, by simp, by simp, by rw [Lib.join_one]; omega, by rw [Lib.join_one], ?_, by omega⟩
                          show InM _ ((s.cur ++ [(nm, bv)]).map (·.1))
                          have := hI.put nm cl
                          simpa using this
end Go.Proofs.YthcgomainhaemaaDoor
