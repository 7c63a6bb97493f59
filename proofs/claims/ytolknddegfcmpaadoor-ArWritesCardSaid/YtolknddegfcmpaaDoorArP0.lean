/- The walk of the document's Write of ar in the style 0. Printed by gen_arp.py. -/
import Derived.Test.YtolknddegfcmpaaDoorArM
import Derived.Test.YtolknddegfcmpaaDoorArC
import Derived.Test.YtolknddegfcmpaaDoorArF
namespace Go.Proofs.YtolknddegfcmpaaDoor
open Go.RowKit
set_option maxRecDepth 20000 in
set_option maxHeartbeats 16000000 in
/-- The document's Write in the style 0. -/
theorem rwrite0_any (l : List It) (v : Value) (X : Nat → Prop) (w : World) (hsl : Sl 6 Rit X w v l) (hS : SmallI l) :
    Calls Tryd.prog 20 #[v, .int .i64 0] w (ArW w 0 l) := by
  have hsl0 : Sl 6 Rit (fun k => w.heap.size ≤ k) w v l := hsl.mono good_it (by omega) fun k hk h => absurd h (by omega)
  clear hsl
  obtain ⟨A, cap, rfl, hc1, hc2⟩ := hsl0.form
  unfold maxLen at hc2
  obtain ⟨hS1, hS2⟩ := hS
  have HS := Lib.hid hS2
  clear hS2
  obtain ⟨R, HR⟩ : ∃ R, Hid (arErr 0 l = R) := ⟨_, Lib.hid rfl⟩
  have HC0 : Hid (R = if chkIs l ≠ 0 then chkIs l else if ((0 : Int) = 0 ∧ longs l = true) then 10 else 0) := Lib.hid (by rw [← HR.out, arErr, if_neg (by omega), if_neg (by omega)])
  have hl4 : decide ((4096 : Int) < (l.length : Int)) = false := decide_eq_false (by omega)
  go_enter Tryd.func20, Tryd.ntmps20
  go_wp2_with fail
  go_loopg [6] l.length (fun G s6 wr => ∃ k : Nat, k ≤ l.length ∧ G = l.length - k ∧ s6 = .int .i64 k ∧ Below w.heap.size w wr ∧ Hid (chkIs l = chkIs (l.drop k)))
  case atStart => exact ⟨0, Nat.zero_le _, rfl, rfl, Below.refl _ _, Lib.hid rfl⟩
  case round =>
    obtain ⟨k, hk, rfl, rfl, hbw, HE⟩ := hrel
    by_cases hlt : k < l.length
    · have HST := Lib.hid (HE.out.trans (chkIs_step l k hlt))
      have hslr := hsl0.keep good_it (Kept.low hbw)
      obtain ⟨b, off, rfl, _, hc⟩ := hslr.it (by omega)
      obtain ⟨dv, hat, hdv⟩ := hc k hlt
      obtain ⟨Ad, capd, rfl, _, _⟩ := hdv.form
      have HEB := HS.out _ (List.getElem_mem hlt)
      obtain ⟨e, He⟩ : ∃ e, Hid (l[k] = e) := ⟨_, Lib.hid rfl⟩
      rw [He.out] at hat hdv HEB HST
      obtain ⟨ln, ld⟩ := HEB
      obtain ⟨c0, c1, c2, c3, c4, c5⟩ := hat
      have i1 : (0 : Int) ≤ (k : Int) := by omega
      have i2 : (k : Int) < (l.length : Int) := by omega
      have hlt' : decide ((k : Int) < (l.length : Int)) = true := decide_eq_true i2
      clear hc
      clear hdv HE
      obtain ⟨q, HQ⟩ : ∃ q, Hid (chkI e = q) := ⟨_, Lib.hid rfl⟩
      rw [HQ.out] at HST
      have hck : ∀ W, Calls Tryd.prog 22 #[.agg #[.string (bs e.name), .int .i64 e.mtime, .int .i64 e.uid, .int .i64 e.gid, .int .i64 e.mode, .slice Ad e.data.length capd]] W fun r w' => r = .returned (.int .i64 q) ∧ Below W.heap.size W w' := fun W => by
        have := richeck_any e Ad capd W (by omega)
        rw [HQ.out] at this
        exact this
      by_cases hq : q = 0
      rotate_left
      · have hqb : (q != 0) = true := by simpa using hq
        have HV : Hid (R = q) := Lib.hid (by rw [HC0.out, HST.out, if_pos hq, if_pos hq])
        have HQN := Lib.hid hq
        clear hq
        go_wp2_with (go_at_call 22; refine (hck _).mono ?_; rintro r W2 ⟨rfl, hb2⟩)
        go_ret2
        refine ⟨_, by rw [HR.out, HV.out]; rfl, hbw.trans (hb2.mono hbw.size), ?_⟩
        rw [HR.out, HV.out, if_neg HQN.out]
        exact Sl.nil _ _ _ _
      · subst hq
        have HV := Lib.hid (HST.out.trans (if_neg (by simp)))
        go_wp2_with (go_at_call 22; refine (hck _).mono ?_; rintro r W2 ⟨rfl, hb2⟩)
        have hb3 := hbw.trans (hb2.mono hbw.size)
        clear hck hb2 hslr hbw
        go_roundg (l.length - (k + 1))
        case measure => omega
        case rel => exact ⟨k + 1, by omega, rfl, by first | (simp; done) | (simp; omega), hb3, HV⟩
    · have hlt' : decide ((k : Int) < (l.length : Int)) = false := decide_eq_false (by omega)
      have HCK : Hid (chkIs l = 0) := Lib.hid (by rw [HE.out, List.drop_eq_nil_of_le (by omega)]; rfl)
      have HALL := Lib.hid (chkIs_all l HCK.out)
      have HC1 : Hid (R = if ((0 : Int) = 0 ∧ longs l = true) then 10 else 0) := Lib.hid (by first | (rw [HC0.out, if_neg (fun h => h HCK.out)]; done) | (rw [HC0.out, if_neg (fun h => h HCK.out)]; simp))
      clear HE HC0 HCK hk
      have HTL := Lib.hid (tabU_le 0 l fun x hx => (chkI_facts (HALL.out x hx)).2.1)
      go_wp2_with fail
      clear hlt' hlt
      go_loopg [8, 9, 10] l.length (fun G s8 s9 s10 wr => ∃ (k : Nat) (B : List UInt8), k ≤ l.length ∧ G = l.length - k ∧ s8 = .string ⟨#[]⟩ ∧ s9 = .string (bs B) ∧ s10 = .int .i64 k ∧ Hid (B = bodyU 0 l k) ∧ B.length ≤ k * 200000 ∧ Hid (longs l = longs (l.drop k)) ∧ Below w.heap.size w wr)
      case atStart => exact ⟨0, [], Nat.zero_le _, rfl, rfl, rfl, rfl, Lib.hid rfl, Nat.zero_le _, Lib.hid rfl, hbw⟩
      case round =>
        clear hbw
        obtain ⟨k, B, hk, rfl, rfl, rfl, rfl, HBB, hBl, HLG, hbw⟩ := hrel
        by_cases hlt : k < l.length
        · have HST := Lib.hid (bodyU_step 0 l k hlt)
          have HTN2 := Lib.hid (tabU_no (st := 0) (by decide) l k hk)
          have HLS := Lib.hid (HLG.out.trans (longs_step l k hlt))
          have HF := Lib.hid (HALL.out _ (List.getElem_mem hlt))
          have hslr := hsl0.keep good_it (Kept.low hbw)
          obtain ⟨b, off, rfl, _, hc⟩ := hslr.it (by omega)
          obtain ⟨dv, hat, hdv⟩ := hc k hlt
          obtain ⟨Ad, capd, rfl, _, _⟩ := hdv.form
          have HEB := HS.out _ (List.getElem_mem hlt)
          obtain ⟨e, He⟩ : ∃ e, Hid (l[k] = e) := ⟨_, Lib.hid rfl⟩
          rw [He.out] at hat hdv HEB HST
          obtain ⟨ln, ld⟩ := HEB
          obtain ⟨c0, c1, c2, c3, c4, c5⟩ := hat
          have i1 : (0 : Int) ≤ (k : Int) := by omega
          have i2 : (k : Int) < (l.length : Int) := by omega
          have hlt' : decide ((k : Int) < (l.length : Int)) = true := decide_eq_true i2
          clear hc
          rw [He.out] at HF HLS
          go_upto_region 17 with fail
          have bE := Blk.new wr 46 #[.string (bs e.name), .int .i64 e.mtime, .int .i64 e.uid, .int .i64 e.gid, .int .i64 e.mode, .slice Ad e.data.length capd]
          have hq : Below wr.heap.size wr (wr.alloc (.cells #[.string (bs e.name), .int .i64 e.mtime, .int .i64 e.uid, .int .i64 e.gid, .int .i64 e.mode, .slice Ad e.data.length capd] 46)) := (Below.refl _ _).alloc (Nat.le_refl _) _
          have hbw2 := hbw.trans (hq.mono hbw.size)
          have hst := str8 (Below.sl good_byte hq hdv).sb8
          clear hslr hq hdv c0 c1 c2 c3 c4 c5 hbw
          generalize wr.alloc (.cells #[.string (bs e.name), .int .i64 e.mtime, .int .i64 e.uid, .int .i64 e.gid, .int .i64 e.mode, .slice Ad e.data.length capd] 46) = W1 at bE hbw2 hst ⊢
          generalize wr.heap.size = g at bE ⊢
          have hst2 : (convert 26 9 (.slice Ad e.data.length capd)).run Tryd.prog W1 = .ok (.string (bs e.data)) W1 := hst
          clear hst
          obtain ⟨name, mtime, uid, gid, mode, data⟩ := e
          have HFF := Lib.hid (chkI_facts HF.out)
          have HFT := Lib.hid (fields_fit HF.out)
          obtain ⟨pl, HP⟩ : ∃ x, Hid ((tabU 0 l k).length = x) := ⟨_, Lib.hid rfl⟩
          have hpl : pl ≤ k * 202 := by rw [← HP.out]; exact HTL.out k hk
          have HMW : Hid (memW 0 pl ⟨name, mtime, uid, gid, mode, data⟩ = memI (nameW 0 pl name) (Lib.decDigits mtime.toNat) (Lib.decDigits uid.toNat) (Lib.decDigits gid.toNat) (octD mode.toNat) (dataW 0 name data)) := Lib.hid rfl
          simp only at bE ln ld HFF HFT HMW hst2 HLS ⊢
          rw [HP.out] at HST
          have d0 := bE.cell 0
          have d1 := bE.cell 1
          have d2 := bE.cell 2
          have d3 := bE.cell 3
          have d4 := bE.cell 4
          have d5 := bE.cell 5
          simp at d0 d1 d2 d3 d4 d5
          clear bE
          obtain ⟨n1, n2, m1, m2, u1, u2, g1, g2, o1, o2⟩ := HFF.out
          obtain ⟨mt, rfl⟩ := Int.eq_ofNat_of_zero_le m1
          obtain ⟨ui, rfl⟩ := Int.eq_ofNat_of_zero_le u1
          obtain ⟨gi, rfl⟩ := Int.eq_ofNat_of_zero_le g1
          obtain ⟨mo, rfl⟩ := Int.eq_ofNat_of_zero_le o1
          simp only [Int.toNat_natCast] at HFT HMW
          have DC1 := Lib.hid (fun W => rdec_any mt W (by omega))
          have DC2 := Lib.hid (fun W => rdec_any ui W (by omega))
          have DC3 := Lib.hid (fun W => rdec_any gi W (by omega))
          have DC4 := Lib.hid (fun W => roct_any mo W (by omega))
          obtain ⟨D1, HD1⟩ : ∃ x, Hid (Lib.decDigits mt = x) := ⟨_, Lib.hid rfl⟩
          obtain ⟨D2, HD2⟩ : ∃ x, Hid (Lib.decDigits ui = x) := ⟨_, Lib.hid rfl⟩
          obtain ⟨D3, HD3⟩ : ∃ x, Hid (Lib.decDigits gi = x) := ⟨_, Lib.hid rfl⟩
          obtain ⟨D4, HD4⟩ : ∃ x, Hid (octD mo = x) := ⟨_, Lib.hid rfl⟩
          rw [HD1.out, HD2.out, HD3.out, HD4.out] at HFT HMW
          rw [HD1.out] at DC1
          rw [HD2.out] at DC2
          rw [HD3.out] at DC3
          rw [HD4.out] at DC4
          clear HFF m1 u1 g1 o1
          have hns := bs_size name
          have hnd := bs_size data
          have hnB := bs_size B
          by_cases hq : 16 < name.length
          · have t1 : decide ((16 : Int) < (name.length : Int)) = true := decide_eq_true (by omega)
            have t1b : decide (16 < name.length) = true := decide_eq_true hq
            have HV : Hid (R = 10) := Lib.hid (by rw [HC1.out, HLS.out, t1b]; simp)
            clear hq
            go_wp2_with fail
            go_ret2
            refine ⟨_, by rw [HR.out, HV.out]; rfl, hbw2, ?_⟩
            rw [HR.out, HV.out, if_neg (by decide)]
            exact Sl.nil _ _ _ _
          · have t1 : decide ((16 : Int) < (name.length : Int)) = false := decide_eq_false (by omega)
            have t1b : decide (16 < name.length) = false := decide_eq_false hq
            have HLN : Hid (longs l = longs (l.drop (k + 1))) := Lib.hid (by rw [HLS.out, t1b, Bool.false_or])
            have HMM : Hid (memW 0 pl ⟨name, (mt : Int), (ui : Int), (gi : Int), (mo : Int), data⟩ = memI name D1 D2 D3 D4 data) := Lib.hid (by rw [HMW.out]; rfl)
            have HNM : Hid (name.length ≤ 16) := Lib.hid (by omega)
            have HDM : Hid (data.length ≤ 100000000) := Lib.hid (by omega)
            have HDS : Hid (data.length ≤ 10000) := Lib.hid (by omega)
            have hbF := hbw2
            clear hq HLS hbw2
            have hmm0 := Lib.hid (fun W => rimember_any (name) D1 D2 D3 D4 (data) W (by have := HNM.out; omega) (by have := HFT.out.1; omega) (by have := HFT.out.2.1; omega) (by have := HFT.out.2.2.1; omega) (by have := HFT.out.2.2.2; omega) HDM.out)
            have HML0 : Hid ((memI (name) D1 D2 D3 D4 (data)).length ≤ 200000) := Lib.hid (by
              have := memI_len (name) D1 D2 D3 D4 (data) HNM.out HFT.out.1 HFT.out.2.1 HFT.out.2.2.1 HFT.out.2.2.2 (by have := HDM.out; omega)
              have := HDS.out
              omega)
            obtain ⟨M0, HM0⟩ : ∃ x, Hid (memI (name) D1 D2 D3 D4 (data) = x) := ⟨_, Lib.hid rfl⟩
            rw [HM0.out] at HMM HML0 hmm0
            have hml := HML0.out
            have hsm := bs_size M0
            have rB : bs B ++ bs M0 = bs (B ++ M0) := bs_app B M0
            have hcat : ¬ 9223372036854775807 < B.length + M0.length := by omega
            have hcat2 : ¬ (9223372036854775807 : Int) < (B.length : Int) + (M0.length : Int) := by omega
            go_upto_region 30 with fail

            have KS : ∀ W', Below W1.heap.size W1 W' → (fun W => W.cell? ⟨g, 1, none⟩ = some (.int .i64 (mt : Int)) ∧ W.cell? ⟨g, 2, none⟩ = some (.int .i64 (ui : Int)) ∧ W.cell? ⟨g, 3, none⟩ = some (.int .i64 (gi : Int)) ∧ W.cell? ⟨g, 4, none⟩ = some (.int .i64 (mo : Int))) W' := fun W' hb => by
              have q := Kept.of_below hb nowhere
              exact ⟨q.cell d1 fun h => h, q.cell d2 fun h => h, q.cell d3 fun h => h, q.cell d4 fun h => h⟩
            refine wp_region_plan (fun W => W.cell? ⟨g, 1, none⟩ = some (.int .i64 (mt : Int)) ∧ W.cell? ⟨g, 2, none⟩ = some (.int .i64 (ui : Int)) ∧ W.cell? ⟨g, 3, none⟩ = some (.int .i64 (gi : Int)) ∧ W.cell? ⟨g, 4, none⟩ = some (.int .i64 (mo : Int))) [(false, 0), (false, 1), (false, 2), (false, 3), (false, 5), (false, 6), (false, 8), (false, 9), (false, 11), (false, 12), (false, 14), (true, 4), (true, 7), (true, 10), (true, 13), (true, 15), (false, 16), (false, 17)] (by kernel_rfl) (by kernel_rfl) (KS _ ((Below.refl _ W1).drew)) ?_
            simp only [planOps, List.map, List.getD_cons_zero, List.getD_cons_succ]
            iterate 11 ((first | refine plan_quiet (v := ?_) rfl rfl (fun w' hw' => ?_) ?_ | refine plan_calm (v := ?_) (tt_of) rfl (fun w' hw' => ?_) ?_); rotate_left; (focus (go_simp <;> (first | with_reducible rfl | (rw [if_neg (by simp [undef])]; try rfl) | omega))); simp only [Act.put, List.setIfInBounds_toArray, List.set_cons_zero, List.set_cons_succ])
            refine plan_loud rfl (fun K hK => ?_)
            go_simp
            have hz0 := (Below.refl W1.heap.size W1).drew
            refine (DC1.out _).mono ?_
            rintro r Z1 ⟨rfl, hz⟩
            go_simp
            have hz1 := hz0.trans (hz.mono hz0.size)
            refine hK _ _ (KS _ hz1) ?_
            clear hK K
            (try simp only [Act.put, List.setIfInBounds_toArray, List.set_cons_zero, List.set_cons_succ])
            refine plan_loud rfl (fun K hK => ?_)
            go_simp
            refine (DC2.out _).mono ?_
            rintro r Z2 ⟨rfl, hz⟩
            go_simp
            have hz2 := hz1.trans (hz.mono hz1.size)
            refine hK _ _ (KS _ hz2) ?_
            clear hK K
            (try simp only [Act.put, List.setIfInBounds_toArray, List.set_cons_zero, List.set_cons_succ])
            refine plan_loud rfl (fun K hK => ?_)
            go_simp
            refine (DC3.out _).mono ?_
            rintro r Z3 ⟨rfl, hz⟩
            go_simp
            have hz3 := hz2.trans (hz.mono hz2.size)
            refine hK _ _ (KS _ hz3) ?_
            clear hK K
            (try simp only [Act.put, List.setIfInBounds_toArray, List.set_cons_zero, List.set_cons_succ])
            refine plan_loud rfl (fun K hK => ?_)
            go_simp
            refine (DC4.out _).mono ?_
            rintro r Z4 ⟨rfl, hz⟩
            go_simp
            have hz4 := hz3.trans (hz.mono hz3.size)
            refine hK _ _ (KS _ hz4) ?_
            clear hK K
            (try simp only [Act.put, List.setIfInBounds_toArray, List.set_cons_zero, List.set_cons_succ])
            refine plan_loud rfl (fun K hK => ?_)
            go_simp
            refine (hmm0.out _).mono ?_
            rintro r Z5 ⟨rfl, hz⟩
            go_simp
            have hz5 := hz4.trans (hz.mono hz4.size)
            refine hK _ _ (KS _ hz5) ?_
            clear hK K
            (try simp only [Act.put, List.setIfInBounds_toArray, List.set_cons_zero, List.set_cons_succ])
            iterate 2 ((first | refine plan_quiet (v := ?_) rfl rfl (fun w' hw' => ?_) ?_ | refine plan_calm (v := ?_) (tt_of) rfl (fun w' hw' => ?_) ?_); rotate_left; (focus (go_simp <;> (first | with_reducible rfl | (rw [if_neg (by simp [undef])]; try rfl) | omega))); simp only [Act.put, List.setIfInBounds_toArray, List.set_cons_zero, List.set_cons_succ])
            refine plan_end ?_
            have hb6 := hbF.trans (hz5.mono hbF.size)
            have HBN : Hid (B ++ M0 = bodyU 0 l (k + 1)) := Lib.hid (by rw [HST.out, HMM.out, HBB.out])
            have hBN : (B ++ M0).length ≤ (k + 1) * 200000 := by rw [List.length_append]; omega
            clear hz hz0 hz1 hz2 hz3 hz4 hz5 KS hbF d0 d1 d2 d3 d4 d5 DC1 DC2 DC3 DC4
            go_wp2_with fail
            go_roundg (l.length - (k + 1))
            case measure => omega
            case rel => exact ⟨k + 1, B ++ M0, by omega, rfl, rfl, rfl, by first | (simp; done) | (simp; omega), HBN, hBN, HLN, hb6⟩
        · have hlt' : decide ((k : Int) < (l.length : Int)) = false := decide_eq_false (by omega)
          have hke : k = l.length := by omega
          subst hke
          have HLN : Hid (longs l = false) := Lib.hid (by rw [HLG.out, List.drop_eq_nil_of_le (by omega)]; rfl)
          have HC : Hid (R = 0) := Lib.hid (by rw [HC1.out, HLN.out]; rfl)
          have hnB := bs_size B
          have hsz : B.length ≤ 20000000 := by omega
          have hfs : (markA ++ B).length ≤ 1000000000 := by rw [List.length_append]; have : markA.length = 8 := rfl; omega
          obtain ⟨FF, HFF⟩ : ∃ x, Hid (markA ++ B = x) := ⟨_, Lib.hid rfl⟩
          have rM : (⟨#[33, 60, 97, 114, 99, 104, 62, 10]⟩ : ByteArray) ++ bs B = bs FF := by rw [← HFF.out]; exact bs_app markA B
          rw [HFF.out] at hfs
          have HEQ : Hid (FF = arB 0 l) := Lib.hid (by rw [← HFF.out, arB, tabU_no (by decide) l _ (Nat.le_refl _), HBB.out, headW, if_pos rfl, List.nil_append])
          obtain ⟨gc, cc, Wc, hcv, hbc, hgc, hsc⟩ := conv_sl2 (P := Tryd.prog) wr 9 26 5 FF Tryd.underlying9 Tryd.underlying26 Tryd.underlying5 hfs
          go_wp2_with fail
          go_ret2
          refine ⟨_, by rw [HR.out, HC.out]; rfl, hbw.trans (hbc.mono hbw.size), ?_⟩
          rw [HR.out, HC.out, if_pos rfl, ← HEQ.out]
          exact hsc nowhere fun h => h
end Go.Proofs.YtolknddegfcmpaaDoor
