/- The walk of the document's Write of ar in the style 1. Printed by gen_arp.py. -/
import Derived.Test.YtolknddegfcmpaaDoorArM
import Derived.Test.YtolknddegfcmpaaDoorArC
import Derived.Test.YtolknddegfcmpaaDoorArF
namespace Go.Proofs.YtolknddegfcmpaaDoor
open Go.RowKit
set_option maxRecDepth 20000 in
set_option maxHeartbeats 16000000 in
/-- The document's Write in the style 1. -/
theorem rwrite1_any (l : List It) (v : Value) (X : Nat → Prop) (w : World) (hsl : Sl 6 Rit X w v l) (hS : SmallI l) :
    Calls Tryd.prog 20 #[v, .int .i64 1] w (ArW w 1 l) := by
  have hsl0 : Sl 6 Rit (fun k => w.heap.size ≤ k) w v l := hsl.mono good_it (by omega) fun k hk h => absurd h (by omega)
  clear hsl
  obtain ⟨A, cap, rfl, hc1, hc2⟩ := hsl0.form
  unfold maxLen at hc2
  obtain ⟨hS1, hS2⟩ := hS
  have HS := Lib.hid hS2
  clear hS2
  obtain ⟨R, HR⟩ : ∃ R, Hid (arErr 1 l = R) := ⟨_, Lib.hid rfl⟩
  have HC0 : Hid (R = if chkIs l ≠ 0 then chkIs l else if ((1 : Int) = 0 ∧ longs l = true) then 10 else 0) := Lib.hid (by rw [← HR.out, arErr, if_neg (by omega), if_neg (by omega)])
  have hl4 : decide ((4096 : Int) < (l.length : Int)) = false := decide_eq_false (by omega)
  go_enter Tryd.func20, Tryd.ntmps20
  go_wp2_with fail
  go_loopg [6] l.length (fun G s6 wr => ∃ k : Nat, k ≤ l.length ∧ G = l.length - k ∧ s6 = .int .i64 k ∧ Below w.heap.size w wr ∧ Hid (chkIs l = chkIs (l.drop k)))
  case atStart => exact ⟨0, Nat.zero_le _, rfl, rfl, Below.refl _ _, Lib.hid rfl⟩
  case round =>
    obtain ⟨k, hk, rfl, rfl, hbw, HE⟩ := hrel
    by_cases hlt : k < l.length
    · have HST := Lib.hid (HE.out.trans (chkIs_step l k hlt))
      have hslr := hsl0.keep good_it (Kept.low hbw)
      obtain ⟨b, off, rfl, _, hc⟩ := hslr.it (by omega)
      obtain ⟨dv, hat, hdv⟩ := hc k hlt
      obtain ⟨Ad, capd, rfl, _, _⟩ := hdv.form
      have HEB := HS.out _ (List.getElem_mem hlt)
      obtain ⟨e, He⟩ : ∃ e, Hid (l[k] = e) := ⟨_, Lib.hid rfl⟩
      rw [He.out] at hat hdv HEB HST
      obtain ⟨ln, ld⟩ := HEB
      obtain ⟨c0, c1, c2, c3, c4, c5⟩ := hat
      have i1 : (0 : Int) ≤ (k : Int) := by omega
      have i2 : (k : Int) < (l.length : Int) := by omega
      have hlt' : decide ((k : Int) < (l.length : Int)) = true := decide_eq_true i2
      clear hc
      clear hdv HE
      obtain ⟨q, HQ⟩ : ∃ q, Hid (chkI e = q) := ⟨_, Lib.hid rfl⟩
      rw [HQ.out] at HST
      have hck : ∀ W, Calls Tryd.prog 22 #[.agg #[.string (bs e.name), .int .i64 e.mtime, .int .i64 e.uid, .int .i64 e.gid, .int .i64 e.mode, .slice Ad e.data.length capd]] W fun r w' => r = .returned (.int .i64 q) ∧ Below W.heap.size W w' := fun W => by
        have := richeck_any e Ad capd W (by omega)
        rw [HQ.out] at this
        exact this
      by_cases hq : q = 0
      rotate_left
      · have hqb : (q != 0) = true := by simpa using hq
        have HV : Hid (R = q) := Lib.hid (by rw [HC0.out, HST.out, if_pos hq, if_pos hq])
        have HQN := Lib.hid hq
        clear hq
        go_wp2_with (go_at_call 22; refine (hck _).mono ?_; rintro r W2 ⟨rfl, hb2⟩)
        go_ret2
        refine ⟨_, by rw [HR.out, HV.out]; rfl, hbw.trans (hb2.mono hbw.size), ?_⟩
        rw [HR.out, HV.out, if_neg HQN.out]
        exact Sl.nil _ _ _ _
      · subst hq
        have HV := Lib.hid (HST.out.trans (if_neg (by simp)))
        go_wp2_with (go_at_call 22; refine (hck _).mono ?_; rintro r W2 ⟨rfl, hb2⟩)
        have hb3 := hbw.trans (hb2.mono hbw.size)
        clear hck hb2 hslr hbw
        go_roundg (l.length - (k + 1))
        case measure => omega
        case rel => exact ⟨k + 1, by omega, rfl, by first | (simp; done) | (simp; omega), hb3, HV⟩
    · have hlt' : decide ((k : Int) < (l.length : Int)) = false := decide_eq_false (by omega)
      have HCK : Hid (chkIs l = 0) := Lib.hid (by rw [HE.out, List.drop_eq_nil_of_le (by omega)]; rfl)
      have HALL := Lib.hid (chkIs_all l HCK.out)
      have HC1 : Hid (R = if ((1 : Int) = 0 ∧ longs l = true) then 10 else 0) := Lib.hid (by first | (rw [HC0.out, if_neg (fun h => h HCK.out)]; done) | (rw [HC0.out, if_neg (fun h => h HCK.out)]; simp))
      clear HE HC0 HCK hk
      have HTL := Lib.hid (tabU_le 1 l fun x hx => (chkI_facts (HALL.out x hx)).2.1)
      go_wp2_with fail
      clear hlt' hlt
      go_loopg [8, 9, 10] l.length (fun G s8 s9 s10 wr => ∃ (k : Nat) (T B : List UInt8), k ≤ l.length ∧ G = l.length - k ∧ s8 = .string (bs T) ∧ s9 = .string (bs B) ∧ s10 = .int .i64 k ∧ Hid (T = tabU 1 l k) ∧ T.length ≤ k * 202 ∧ Hid (B = bodyU 1 l k) ∧ B.length ≤ k * 200000 ∧ Below w.heap.size w wr)
      case atStart => exact ⟨0, [], [], Nat.zero_le _, rfl, rfl, rfl, rfl, Lib.hid rfl, Nat.zero_le _, Lib.hid rfl, Nat.zero_le _, hbw⟩
      case round =>
        clear hbw
        obtain ⟨k, T, B, hk, rfl, rfl, rfl, rfl, HTT, hTl, HBB, hBl, hbw⟩ := hrel
        by_cases hlt : k < l.length
        · have HST := Lib.hid (bodyU_step 1 l k hlt)
          have HST2 := Lib.hid (tabU_step 1 l k hlt)
    
          have HF := Lib.hid (HALL.out _ (List.getElem_mem hlt))
          have hslr := hsl0.keep good_it (Kept.low hbw)
          obtain ⟨b, off, rfl, _, hc⟩ := hslr.it (by omega)
          obtain ⟨dv, hat, hdv⟩ := hc k hlt
          obtain ⟨Ad, capd, rfl, _, _⟩ := hdv.form
          have HEB := HS.out _ (List.getElem_mem hlt)
          obtain ⟨e, He⟩ : ∃ e, Hid (l[k] = e) := ⟨_, Lib.hid rfl⟩
          rw [He.out] at hat hdv HEB HST
          obtain ⟨ln, ld⟩ := HEB
          obtain ⟨c0, c1, c2, c3, c4, c5⟩ := hat
          have i1 : (0 : Int) ≤ (k : Int) := by omega
          have i2 : (k : Int) < (l.length : Int) := by omega
          have hlt' : decide ((k : Int) < (l.length : Int)) = true := decide_eq_true i2
          clear hc
          rw [He.out] at HF HST2
          go_upto_region 17 with fail
          have bE := Blk.new wr 46 #[.string (bs e.name), .int .i64 e.mtime, .int .i64 e.uid, .int .i64 e.gid, .int .i64 e.mode, .slice Ad e.data.length capd]
          have hq : Below wr.heap.size wr (wr.alloc (.cells #[.string (bs e.name), .int .i64 e.mtime, .int .i64 e.uid, .int .i64 e.gid, .int .i64 e.mode, .slice Ad e.data.length capd] 46)) := (Below.refl _ _).alloc (Nat.le_refl _) _
          have hbw2 := hbw.trans (hq.mono hbw.size)
          have hst := str8 (Below.sl good_byte hq hdv).sb8
          clear hslr hq hdv c0 c1 c2 c3 c4 c5 hbw
          generalize wr.alloc (.cells #[.string (bs e.name), .int .i64 e.mtime, .int .i64 e.uid, .int .i64 e.gid, .int .i64 e.mode, .slice Ad e.data.length capd] 46) = W1 at bE hbw2 hst ⊢
          generalize wr.heap.size = g at bE ⊢
          have hst2 : (convert 26 9 (.slice Ad e.data.length capd)).run Tryd.prog W1 = .ok (.string (bs e.data)) W1 := hst
          clear hst
          obtain ⟨name, mtime, uid, gid, mode, data⟩ := e
          have HFF := Lib.hid (chkI_facts HF.out)
          have HFT := Lib.hid (fields_fit HF.out)
          obtain ⟨pl, HP⟩ : ∃ x, Hid ((tabU 1 l k).length = x) := ⟨_, Lib.hid rfl⟩
          have hpl : pl ≤ k * 202 := by rw [← HP.out]; exact HTL.out k hk
          have HMW : Hid (memW 1 pl ⟨name, mtime, uid, gid, mode, data⟩ = memI (nameW 1 pl name) (Lib.decDigits mtime.toNat) (Lib.decDigits uid.toNat) (Lib.decDigits gid.toNat) (octD mode.toNat) (dataW 1 name data)) := Lib.hid rfl
          simp only at bE ln ld HFF HFT HMW hst2 HST2 ⊢
          rw [HP.out] at HST
          have d0 := bE.cell 0
          have d1 := bE.cell 1
          have d2 := bE.cell 2
          have d3 := bE.cell 3
          have d4 := bE.cell 4
          have d5 := bE.cell 5
          simp at d0 d1 d2 d3 d4 d5
          clear bE
          obtain ⟨n1, n2, m1, m2, u1, u2, g1, g2, o1, o2⟩ := HFF.out
          obtain ⟨mt, rfl⟩ := Int.eq_ofNat_of_zero_le m1
          obtain ⟨ui, rfl⟩ := Int.eq_ofNat_of_zero_le u1
          obtain ⟨gi, rfl⟩ := Int.eq_ofNat_of_zero_le g1
          obtain ⟨mo, rfl⟩ := Int.eq_ofNat_of_zero_le o1
          simp only [Int.toNat_natCast] at HFT HMW
          have DC1 := Lib.hid (fun W => rdec_any mt W (by omega))
          have DC2 := Lib.hid (fun W => rdec_any ui W (by omega))
          have DC3 := Lib.hid (fun W => rdec_any gi W (by omega))
          have DC4 := Lib.hid (fun W => roct_any mo W (by omega))
          obtain ⟨D1, HD1⟩ : ∃ x, Hid (Lib.decDigits mt = x) := ⟨_, Lib.hid rfl⟩
          obtain ⟨D2, HD2⟩ : ∃ x, Hid (Lib.decDigits ui = x) := ⟨_, Lib.hid rfl⟩
          obtain ⟨D3, HD3⟩ : ∃ x, Hid (Lib.decDigits gi = x) := ⟨_, Lib.hid rfl⟩
          obtain ⟨D4, HD4⟩ : ∃ x, Hid (octD mo = x) := ⟨_, Lib.hid rfl⟩
          rw [HD1.out, HD2.out, HD3.out, HD4.out] at HFT HMW
          rw [HD1.out] at DC1
          rw [HD2.out] at DC2
          rw [HD3.out] at DC3
          rw [HD4.out] at DC4
          clear HFF m1 u1 g1 o1
          have hns := bs_size name
          have hnd := bs_size data
          have hnB := bs_size B
          by_cases h15 : 15 < name.length
          · have t15 : decide ((15 : Int) < (name.length : Int)) = true := decide_eq_true (by omega)
            have t15b : decide (15 < name.length) = true := decide_eq_true h15
            have HIT : Hid (inTab name = true) := Lib.hid (by rw [inTab, t15b, Bool.true_or])
            clear h15
            have hit : inTab name = true := HIT.out
            have hdp := rdec_any pl W1 (by omega)
            obtain ⟨D0, HD0⟩ : ∃ x, Hid (Lib.decDigits pl = x) := ⟨_, Lib.hid rfl⟩
            rw [HD0.out] at hdp
            have hD0l : D0.length ≤ 6 := by rw [← HD0.out]; exact nd_len pl 6 (by omega) (by omega)
            have hD0s := bs_size D0
            have hdp2 : Calls Tryd.prog 41 #[.int .i64 (pl : Int)] W1 fun e w' => e = .returned (.string (bs D0)) ∧ Below W1.heap.size W1 w' := hdp
            have hTsz : (bs T).size = pl := by rw [bs_size, HTT.out]; exact HP.out
            have HMM : Hid (memW 1 pl ⟨name, (mt : Int), (ui : Int), (gi : Int), (mo : Int), data⟩ = memI ([47] ++ D0) D1 D2 D3 D4 data) := Lib.hid (by rw [HMW.out]; simp only [nameW, dataW, if_pos, hit, HD0.out]; rfl)
            have HNM : Hid (([47] ++ D0).length ≤ 16) := Lib.hid (by simp; omega)
            have HDM : Hid (data.length ≤ 100000000) := Lib.hid (by omega)
            have HDS : Hid (data.length ≤ 10000) := Lib.hid (by omega)
            have r1 : (⟨#[47]⟩ : ByteArray) ++ bs D0 = bs ([47] ++ D0) := bs_app [47] D0
            have r2 : bs T ++ bs name = bs (T ++ name) := bs_app T name
            have r3 : bs (T ++ name) ++ (⟨#[47, 10]⟩ : ByteArray) = bs (T ++ (name ++ [47, 10])) := by rw [← List.append_assoc]; exact bs_app (T ++ name) [47, 10]
            have hsT2 := bs_size (T ++ name)
            rw [List.length_append] at hsT2
            have hTle : T.length = pl := by rw [HTT.out]; exact HP.out
            have HTN : Hid (T ++ (name ++ [47, 10]) = tabU 1 l (k + 1)) := Lib.hid (by rw [HST2.out, HTT.out]; simp [hit, List.append_assoc])
            have hTN : (T ++ (name ++ [47, 10])).length ≤ (k + 1) * 202 := by simp; omega
            clear hdp hit

            have hmm0 := Lib.hid (fun W => rimember_any ([47] ++ D0) D1 D2 D3 D4 (data) W (by have := HNM.out; omega) (by have := HFT.out.1; omega) (by have := HFT.out.2.1; omega) (by have := HFT.out.2.2.1; omega) (by have := HFT.out.2.2.2; omega) HDM.out)
            have HML0 : Hid ((memI ([47] ++ D0) D1 D2 D3 D4 (data)).length ≤ 200000) := Lib.hid (by
              have := memI_len ([47] ++ D0) D1 D2 D3 D4 (data) HNM.out HFT.out.1 HFT.out.2.1 HFT.out.2.2.1 HFT.out.2.2.2 (by have := HDM.out; omega)
              have := HDS.out
              omega)
            obtain ⟨M0, HM0⟩ : ∃ x, Hid (memI ([47] ++ D0) D1 D2 D3 D4 (data) = x) := ⟨_, Lib.hid rfl⟩
            rw [HM0.out] at HMM HML0 hmm0
            have hml := HML0.out
            have hsm := bs_size M0
            have rB : bs B ++ bs M0 = bs (B ++ M0) := bs_app B M0
            have hcat : ¬ 9223372036854775807 < B.length + M0.length := by omega
            have hcat2 : ¬ (9223372036854775807 : Int) < (B.length : Int) + (M0.length : Int) := by omega
            go_upto_region 30 with (go_at_call 41; refine hdp2.mono ?_; clear hdp2; rintro r W3 ⟨rfl, hb3⟩)

            have hbF := hbw2.trans (hb3.mono hbw2.size)
            replace d1 := (Kept.of_below hb3 nowhere).cell d1 fun h => h
            replace d2 := (Kept.of_below hb3 nowhere).cell d2 fun h => h
            replace d3 := (Kept.of_below hb3 nowhere).cell d3 fun h => h
            replace d4 := (Kept.of_below hb3 nowhere).cell d4 fun h => h
            clear hb3 hbw2
            have KS : ∀ W', Below W3.heap.size W3 W' → (fun W => W.cell? ⟨g, 1, none⟩ = some (.int .i64 (mt : Int)) ∧ W.cell? ⟨g, 2, none⟩ = some (.int .i64 (ui : Int)) ∧ W.cell? ⟨g, 3, none⟩ = some (.int .i64 (gi : Int)) ∧ W.cell? ⟨g, 4, none⟩ = some (.int .i64 (mo : Int))) W' := fun W' hb => by
              have q := Kept.of_below hb nowhere
              exact ⟨q.cell d1 fun h => h, q.cell d2 fun h => h, q.cell d3 fun h => h, q.cell d4 fun h => h⟩
            refine wp_region_plan (fun W => W.cell? ⟨g, 1, none⟩ = some (.int .i64 (mt : Int)) ∧ W.cell? ⟨g, 2, none⟩ = some (.int .i64 (ui : Int)) ∧ W.cell? ⟨g, 3, none⟩ = some (.int .i64 (gi : Int)) ∧ W.cell? ⟨g, 4, none⟩ = some (.int .i64 (mo : Int))) [(false, 0), (false, 1), (false, 2), (false, 3), (false, 5), (false, 6), (false, 8), (false, 9), (false, 11), (false, 12), (false, 14), (true, 4), (true, 7), (true, 10), (true, 13), (true, 15), (false, 16), (false, 17)] (by kernel_rfl) (by kernel_rfl) (KS _ ((Below.refl _ W3).drew)) ?_
            simp only [planOps, List.map, List.getD_cons_zero, List.getD_cons_succ]
            iterate 11 ((first | refine plan_quiet (v := ?_) rfl rfl (fun w' hw' => ?_) ?_ | refine plan_calm (v := ?_) (tt_of) rfl (fun w' hw' => ?_) ?_); rotate_left; (focus (go_simp <;> (first | with_reducible rfl | (rw [if_neg (by simp [undef])]; try rfl) | omega))); simp only [Act.put, List.setIfInBounds_toArray, List.set_cons_zero, List.set_cons_succ])
            refine plan_loud rfl (fun K hK => ?_)
            go_simp
            have hz0 := (Below.refl W3.heap.size W3).drew
            refine (DC1.out _).mono ?_
            rintro r Z1 ⟨rfl, hz⟩
            go_simp
            have hz1 := hz0.trans (hz.mono hz0.size)
            refine hK _ _ (KS _ hz1) ?_
            clear hK K
            (try simp only [Act.put, List.setIfInBounds_toArray, List.set_cons_zero, List.set_cons_succ])
            refine plan_loud rfl (fun K hK => ?_)
            go_simp
            refine (DC2.out _).mono ?_
            rintro r Z2 ⟨rfl, hz⟩
            go_simp
            have hz2 := hz1.trans (hz.mono hz1.size)
            refine hK _ _ (KS _ hz2) ?_
            clear hK K
            (try simp only [Act.put, List.setIfInBounds_toArray, List.set_cons_zero, List.set_cons_succ])
            refine plan_loud rfl (fun K hK => ?_)
            go_simp
            refine (DC3.out _).mono ?_
            rintro r Z3 ⟨rfl, hz⟩
            go_simp
            have hz3 := hz2.trans (hz.mono hz2.size)
            refine hK _ _ (KS _ hz3) ?_
            clear hK K
            (try simp only [Act.put, List.setIfInBounds_toArray, List.set_cons_zero, List.set_cons_succ])
            refine plan_loud rfl (fun K hK => ?_)
            go_simp
            refine (DC4.out _).mono ?_
            rintro r Z4 ⟨rfl, hz⟩
            go_simp
            have hz4 := hz3.trans (hz.mono hz3.size)
            refine hK _ _ (KS _ hz4) ?_
            clear hK K
            (try simp only [Act.put, List.setIfInBounds_toArray, List.set_cons_zero, List.set_cons_succ])
            refine plan_loud rfl (fun K hK => ?_)
            go_simp
            refine (hmm0.out _).mono ?_
            rintro r Z5 ⟨rfl, hz⟩
            go_simp
            have hz5 := hz4.trans (hz.mono hz4.size)
            refine hK _ _ (KS _ hz5) ?_
            clear hK K
            (try simp only [Act.put, List.setIfInBounds_toArray, List.set_cons_zero, List.set_cons_succ])
            iterate 2 ((first | refine plan_quiet (v := ?_) rfl rfl (fun w' hw' => ?_) ?_ | refine plan_calm (v := ?_) (tt_of) rfl (fun w' hw' => ?_) ?_); rotate_left; (focus (go_simp <;> (first | with_reducible rfl | (rw [if_neg (by simp [undef])]; try rfl) | omega))); simp only [Act.put, List.setIfInBounds_toArray, List.set_cons_zero, List.set_cons_succ])
            refine plan_end ?_
            have hb6 := hbF.trans (hz5.mono hbF.size)
            have HBN : Hid (B ++ M0 = bodyU 1 l (k + 1)) := Lib.hid (by rw [HST.out, HMM.out, HBB.out])
            have hBN : (B ++ M0).length ≤ (k + 1) * 200000 := by rw [List.length_append]; omega
            clear hz hz0 hz1 hz2 hz3 hz4 hz5 KS hbF d0 d1 d2 d3 d4 d5 DC1 DC2 DC3 DC4
            go_wp2_with fail
            go_roundg (l.length - (k + 1))
            case measure => omega
            case rel => exact ⟨k + 1, T ++ (name ++ [47, 10]), B ++ M0, by omega, rfl, rfl, rfl, by first | (simp; done) | (simp; omega), HTN, hTN, HBN, hBN, hb6⟩
          · have t15 : decide ((15 : Int) < (name.length : Int)) = false := decide_eq_false (by omega)
            have t15b : decide (15 < name.length) = false := decide_eq_false h15
            have hn15 : name.length ≤ 15 := by omega
            clear h15
            by_cases h1 : name = [35, 49]
            · have t2 : ((bs name).toList == [35, 49]) = true := by rw [toList_bs, h1]; rfl
              have HIT : Hid (inTab name = true) := Lib.hid (by rw [inTab, h1]; rfl)
              clear h1
              have hit : inTab name = true := HIT.out
              have hdp := rdec_any pl W1 (by omega)
              obtain ⟨D0, HD0⟩ : ∃ x, Hid (Lib.decDigits pl = x) := ⟨_, Lib.hid rfl⟩
              rw [HD0.out] at hdp
              have hD0l : D0.length ≤ 6 := by rw [← HD0.out]; exact nd_len pl 6 (by omega) (by omega)
              have hD0s := bs_size D0
              have hdp2 : Calls Tryd.prog 41 #[.int .i64 (pl : Int)] W1 fun e w' => e = .returned (.string (bs D0)) ∧ Below W1.heap.size W1 w' := hdp
              have hTsz : (bs T).size = pl := by rw [bs_size, HTT.out]; exact HP.out
              have HMM : Hid (memW 1 pl ⟨name, (mt : Int), (ui : Int), (gi : Int), (mo : Int), data⟩ = memI ([47] ++ D0) D1 D2 D3 D4 data) := Lib.hid (by rw [HMW.out]; simp only [nameW, dataW, if_pos, hit, HD0.out]; rfl)
              have HNM : Hid (([47] ++ D0).length ≤ 16) := Lib.hid (by simp; omega)
              have HDM : Hid (data.length ≤ 100000000) := Lib.hid (by omega)
              have HDS : Hid (data.length ≤ 10000) := Lib.hid (by omega)
              have r1 : (⟨#[47]⟩ : ByteArray) ++ bs D0 = bs ([47] ++ D0) := bs_app [47] D0
              have r2 : bs T ++ bs name = bs (T ++ name) := bs_app T name
              have r3 : bs (T ++ name) ++ (⟨#[47, 10]⟩ : ByteArray) = bs (T ++ (name ++ [47, 10])) := by rw [← List.append_assoc]; exact bs_app (T ++ name) [47, 10]
              have hsT2 := bs_size (T ++ name)
              rw [List.length_append] at hsT2
              have hTle : T.length = pl := by rw [HTT.out]; exact HP.out
              have HTN : Hid (T ++ (name ++ [47, 10]) = tabU 1 l (k + 1)) := Lib.hid (by rw [HST2.out, HTT.out]; simp [hit, List.append_assoc])
              have hTN : (T ++ (name ++ [47, 10])).length ≤ (k + 1) * 202 := by simp; omega
              clear hdp hit

              have hmm0 := Lib.hid (fun W => rimember_any ([47] ++ D0) D1 D2 D3 D4 (data) W (by have := HNM.out; omega) (by have := HFT.out.1; omega) (by have := HFT.out.2.1; omega) (by have := HFT.out.2.2.1; omega) (by have := HFT.out.2.2.2; omega) HDM.out)
              have HML0 : Hid ((memI ([47] ++ D0) D1 D2 D3 D4 (data)).length ≤ 200000) := Lib.hid (by
                have := memI_len ([47] ++ D0) D1 D2 D3 D4 (data) HNM.out HFT.out.1 HFT.out.2.1 HFT.out.2.2.1 HFT.out.2.2.2 (by have := HDM.out; omega)
                have := HDS.out
                omega)
              obtain ⟨M0, HM0⟩ : ∃ x, Hid (memI ([47] ++ D0) D1 D2 D3 D4 (data) = x) := ⟨_, Lib.hid rfl⟩
              rw [HM0.out] at HMM HML0 hmm0
              have hml := HML0.out
              have hsm := bs_size M0
              have rB : bs B ++ bs M0 = bs (B ++ M0) := bs_app B M0
              have hcat : ¬ 9223372036854775807 < B.length + M0.length := by omega
              have hcat2 : ¬ (9223372036854775807 : Int) < (B.length : Int) + (M0.length : Int) := by omega
              go_upto_region 30 with (go_at_call 41; refine hdp2.mono ?_; clear hdp2; rintro r W3 ⟨rfl, hb3⟩)

              have hbF := hbw2.trans (hb3.mono hbw2.size)
              replace d1 := (Kept.of_below hb3 nowhere).cell d1 fun h => h
              replace d2 := (Kept.of_below hb3 nowhere).cell d2 fun h => h
              replace d3 := (Kept.of_below hb3 nowhere).cell d3 fun h => h
              replace d4 := (Kept.of_below hb3 nowhere).cell d4 fun h => h
              clear hb3 hbw2
              have KS : ∀ W', Below W3.heap.size W3 W' → (fun W => W.cell? ⟨g, 1, none⟩ = some (.int .i64 (mt : Int)) ∧ W.cell? ⟨g, 2, none⟩ = some (.int .i64 (ui : Int)) ∧ W.cell? ⟨g, 3, none⟩ = some (.int .i64 (gi : Int)) ∧ W.cell? ⟨g, 4, none⟩ = some (.int .i64 (mo : Int))) W' := fun W' hb => by
                have q := Kept.of_below hb nowhere
                exact ⟨q.cell d1 fun h => h, q.cell d2 fun h => h, q.cell d3 fun h => h, q.cell d4 fun h => h⟩
              refine wp_region_plan (fun W => W.cell? ⟨g, 1, none⟩ = some (.int .i64 (mt : Int)) ∧ W.cell? ⟨g, 2, none⟩ = some (.int .i64 (ui : Int)) ∧ W.cell? ⟨g, 3, none⟩ = some (.int .i64 (gi : Int)) ∧ W.cell? ⟨g, 4, none⟩ = some (.int .i64 (mo : Int))) [(false, 0), (false, 1), (false, 2), (false, 3), (false, 5), (false, 6), (false, 8), (false, 9), (false, 11), (false, 12), (false, 14), (true, 4), (true, 7), (true, 10), (true, 13), (true, 15), (false, 16), (false, 17)] (by kernel_rfl) (by kernel_rfl) (KS _ ((Below.refl _ W3).drew)) ?_
              simp only [planOps, List.map, List.getD_cons_zero, List.getD_cons_succ]
              iterate 11 ((first | refine plan_quiet (v := ?_) rfl rfl (fun w' hw' => ?_) ?_ | refine plan_calm (v := ?_) (tt_of) rfl (fun w' hw' => ?_) ?_); rotate_left; (focus (go_simp <;> (first | with_reducible rfl | (rw [if_neg (by simp [undef])]; try rfl) | omega))); simp only [Act.put, List.setIfInBounds_toArray, List.set_cons_zero, List.set_cons_succ])
              refine plan_loud rfl (fun K hK => ?_)
              go_simp
              have hz0 := (Below.refl W3.heap.size W3).drew
              refine (DC1.out _).mono ?_
              rintro r Z1 ⟨rfl, hz⟩
              go_simp
              have hz1 := hz0.trans (hz.mono hz0.size)
              refine hK _ _ (KS _ hz1) ?_
              clear hK K
              (try simp only [Act.put, List.setIfInBounds_toArray, List.set_cons_zero, List.set_cons_succ])
              refine plan_loud rfl (fun K hK => ?_)
              go_simp
              refine (DC2.out _).mono ?_
              rintro r Z2 ⟨rfl, hz⟩
              go_simp
              have hz2 := hz1.trans (hz.mono hz1.size)
              refine hK _ _ (KS _ hz2) ?_
              clear hK K
              (try simp only [Act.put, List.setIfInBounds_toArray, List.set_cons_zero, List.set_cons_succ])
              refine plan_loud rfl (fun K hK => ?_)
              go_simp
              refine (DC3.out _).mono ?_
              rintro r Z3 ⟨rfl, hz⟩
              go_simp
              have hz3 := hz2.trans (hz.mono hz2.size)
              refine hK _ _ (KS _ hz3) ?_
              clear hK K
              (try simp only [Act.put, List.setIfInBounds_toArray, List.set_cons_zero, List.set_cons_succ])
              refine plan_loud rfl (fun K hK => ?_)
              go_simp
              refine (DC4.out _).mono ?_
              rintro r Z4 ⟨rfl, hz⟩
              go_simp
              have hz4 := hz3.trans (hz.mono hz3.size)
              refine hK _ _ (KS _ hz4) ?_
              clear hK K
              (try simp only [Act.put, List.setIfInBounds_toArray, List.set_cons_zero, List.set_cons_succ])
              refine plan_loud rfl (fun K hK => ?_)
              go_simp
              refine (hmm0.out _).mono ?_
              rintro r Z5 ⟨rfl, hz⟩
              go_simp
              have hz5 := hz4.trans (hz.mono hz4.size)
              refine hK _ _ (KS _ hz5) ?_
              clear hK K
              (try simp only [Act.put, List.setIfInBounds_toArray, List.set_cons_zero, List.set_cons_succ])
              iterate 2 ((first | refine plan_quiet (v := ?_) rfl rfl (fun w' hw' => ?_) ?_ | refine plan_calm (v := ?_) (tt_of) rfl (fun w' hw' => ?_) ?_); rotate_left; (focus (go_simp <;> (first | with_reducible rfl | (rw [if_neg (by simp [undef])]; try rfl) | omega))); simp only [Act.put, List.setIfInBounds_toArray, List.set_cons_zero, List.set_cons_succ])
              refine plan_end ?_
              have hb6 := hbF.trans (hz5.mono hbF.size)
              have HBN : Hid (B ++ M0 = bodyU 1 l (k + 1)) := Lib.hid (by rw [HST.out, HMM.out, HBB.out])
              have hBN : (B ++ M0).length ≤ (k + 1) * 200000 := by rw [List.length_append]; omega
              clear hz hz0 hz1 hz2 hz3 hz4 hz5 KS hbF d0 d1 d2 d3 d4 d5 DC1 DC2 DC3 DC4
              go_wp2_with fail
              go_roundg (l.length - (k + 1))
              case measure => omega
              case rel => exact ⟨k + 1, T ++ (name ++ [47, 10]), B ++ M0, by omega, rfl, rfl, rfl, by first | (simp; done) | (simp; omega), HTN, hTN, HBN, hBN, hb6⟩
            · have t2 : ((bs name).toList == [35, 49]) = false := by rw [toList_bs]; simpa using h1
              have HIT : Hid (inTab name = false) := Lib.hid (by rw [inTab, t15b, decide_eq_false h1]; rfl)
              clear h1
              have HMM : Hid (memW 1 pl ⟨name, (mt : Int), (ui : Int), (gi : Int), (mo : Int), data⟩ = memI (name ++ [47]) D1 D2 D3 D4 data) := Lib.hid (by rw [HMW.out]; simp only [nameW, dataW, if_pos, HIT.out]; rfl)
              have HNM : Hid ((name ++ [47]).length ≤ 16) := Lib.hid (by simp; omega)
              have HDM : Hid (data.length ≤ 100000000) := Lib.hid (by omega)
              have HDS : Hid (data.length ≤ 10000) := Lib.hid (by omega)
              have r1 : bs name ++ (⟨#[47]⟩ : ByteArray) = bs (name ++ [47]) := bs_app name [47]
              have hTN : T.length ≤ (k + 1) * 202 := by omega
              have HTN : Hid (T = tabU 1 l (k + 1)) := Lib.hid (by rw [HST2.out, HTT.out]; simp [HIT.out])
              have hbF := hbw2
              clear hbw2
              have hmm0 := Lib.hid (fun W => rimember_any (name ++ [47]) D1 D2 D3 D4 (data) W (by have := HNM.out; omega) (by have := HFT.out.1; omega) (by have := HFT.out.2.1; omega) (by have := HFT.out.2.2.1; omega) (by have := HFT.out.2.2.2; omega) HDM.out)
              have HML0 : Hid ((memI (name ++ [47]) D1 D2 D3 D4 (data)).length ≤ 200000) := Lib.hid (by
                have := memI_len (name ++ [47]) D1 D2 D3 D4 (data) HNM.out HFT.out.1 HFT.out.2.1 HFT.out.2.2.1 HFT.out.2.2.2 (by have := HDM.out; omega)
                have := HDS.out
                omega)
              obtain ⟨M0, HM0⟩ : ∃ x, Hid (memI (name ++ [47]) D1 D2 D3 D4 (data) = x) := ⟨_, Lib.hid rfl⟩
              rw [HM0.out] at HMM HML0 hmm0
              have hml := HML0.out
              have hsm := bs_size M0
              have rB : bs B ++ bs M0 = bs (B ++ M0) := bs_app B M0
              have hcat : ¬ 9223372036854775807 < B.length + M0.length := by omega
              have hcat2 : ¬ (9223372036854775807 : Int) < (B.length : Int) + (M0.length : Int) := by omega
              go_upto_region 30 with fail

              have KS : ∀ W', Below W1.heap.size W1 W' → (fun W => W.cell? ⟨g, 1, none⟩ = some (.int .i64 (mt : Int)) ∧ W.cell? ⟨g, 2, none⟩ = some (.int .i64 (ui : Int)) ∧ W.cell? ⟨g, 3, none⟩ = some (.int .i64 (gi : Int)) ∧ W.cell? ⟨g, 4, none⟩ = some (.int .i64 (mo : Int))) W' := fun W' hb => by
                have q := Kept.of_below hb nowhere
                exact ⟨q.cell d1 fun h => h, q.cell d2 fun h => h, q.cell d3 fun h => h, q.cell d4 fun h => h⟩
              refine wp_region_plan (fun W => W.cell? ⟨g, 1, none⟩ = some (.int .i64 (mt : Int)) ∧ W.cell? ⟨g, 2, none⟩ = some (.int .i64 (ui : Int)) ∧ W.cell? ⟨g, 3, none⟩ = some (.int .i64 (gi : Int)) ∧ W.cell? ⟨g, 4, none⟩ = some (.int .i64 (mo : Int))) [(false, 0), (false, 1), (false, 2), (false, 3), (false, 5), (false, 6), (false, 8), (false, 9), (false, 11), (false, 12), (false, 14), (true, 4), (true, 7), (true, 10), (true, 13), (true, 15), (false, 16), (false, 17)] (by kernel_rfl) (by kernel_rfl) (KS _ ((Below.refl _ W1).drew)) ?_
              simp only [planOps, List.map, List.getD_cons_zero, List.getD_cons_succ]
              iterate 11 ((first | refine plan_quiet (v := ?_) rfl rfl (fun w' hw' => ?_) ?_ | refine plan_calm (v := ?_) (tt_of) rfl (fun w' hw' => ?_) ?_); rotate_left; (focus (go_simp <;> (first | with_reducible rfl | (rw [if_neg (by simp [undef])]; try rfl) | omega))); simp only [Act.put, List.setIfInBounds_toArray, List.set_cons_zero, List.set_cons_succ])
              refine plan_loud rfl (fun K hK => ?_)
              go_simp
              have hz0 := (Below.refl W1.heap.size W1).drew
              refine (DC1.out _).mono ?_
              rintro r Z1 ⟨rfl, hz⟩
              go_simp
              have hz1 := hz0.trans (hz.mono hz0.size)
              refine hK _ _ (KS _ hz1) ?_
              clear hK K
              (try simp only [Act.put, List.setIfInBounds_toArray, List.set_cons_zero, List.set_cons_succ])
              refine plan_loud rfl (fun K hK => ?_)
              go_simp
              refine (DC2.out _).mono ?_
              rintro r Z2 ⟨rfl, hz⟩
              go_simp
              have hz2 := hz1.trans (hz.mono hz1.size)
              refine hK _ _ (KS _ hz2) ?_
              clear hK K
              (try simp only [Act.put, List.setIfInBounds_toArray, List.set_cons_zero, List.set_cons_succ])
              refine plan_loud rfl (fun K hK => ?_)
              go_simp
              refine (DC3.out _).mono ?_
              rintro r Z3 ⟨rfl, hz⟩
              go_simp
              have hz3 := hz2.trans (hz.mono hz2.size)
              refine hK _ _ (KS _ hz3) ?_
              clear hK K
              (try simp only [Act.put, List.setIfInBounds_toArray, List.set_cons_zero, List.set_cons_succ])
              refine plan_loud rfl (fun K hK => ?_)
              go_simp
              refine (DC4.out _).mono ?_
              rintro r Z4 ⟨rfl, hz⟩
              go_simp
              have hz4 := hz3.trans (hz.mono hz3.size)
              refine hK _ _ (KS _ hz4) ?_
              clear hK K
              (try simp only [Act.put, List.setIfInBounds_toArray, List.set_cons_zero, List.set_cons_succ])
              refine plan_loud rfl (fun K hK => ?_)
              go_simp
              refine (hmm0.out _).mono ?_
              rintro r Z5 ⟨rfl, hz⟩
              go_simp
              have hz5 := hz4.trans (hz.mono hz4.size)
              refine hK _ _ (KS _ hz5) ?_
              clear hK K
              (try simp only [Act.put, List.setIfInBounds_toArray, List.set_cons_zero, List.set_cons_succ])
              iterate 2 ((first | refine plan_quiet (v := ?_) rfl rfl (fun w' hw' => ?_) ?_ | refine plan_calm (v := ?_) (tt_of) rfl (fun w' hw' => ?_) ?_); rotate_left; (focus (go_simp <;> (first | with_reducible rfl | (rw [if_neg (by simp [undef])]; try rfl) | omega))); simp only [Act.put, List.setIfInBounds_toArray, List.set_cons_zero, List.set_cons_succ])
              refine plan_end ?_
              have hb6 := hbF.trans (hz5.mono hbF.size)
              have HBN : Hid (B ++ M0 = bodyU 1 l (k + 1)) := Lib.hid (by rw [HST.out, HMM.out, HBB.out])
              have hBN : (B ++ M0).length ≤ (k + 1) * 200000 := by rw [List.length_append]; omega
              clear hz hz0 hz1 hz2 hz3 hz4 hz5 KS hbF d0 d1 d2 d3 d4 d5 DC1 DC2 DC3 DC4
              go_wp2_with fail
              go_roundg (l.length - (k + 1))
              case measure => omega
              case rel => exact ⟨k + 1, T, B ++ M0, by omega, rfl, rfl, rfl, by first | (simp; done) | (simp; omega), HTN, hTN, HBN, hBN, hb6⟩
        · have hlt' : decide ((k : Int) < (l.length : Int)) = false := decide_eq_false (by omega)
          have hke : k = l.length := by omega
          subst hke
    
          have HC : Hid (R = 0) := Lib.hid (by rw [HC1.out]; rw [if_neg (fun h => absurd h.1 (by decide))])
          have hnB := bs_size B
          have hnT := bs_size T
          by_cases hz : T = []
          · have t0 : ((bs T).toList == []) = true := by rw [toList_bs, hz]; rfl
            have t0b : (bs T).toList.isEmpty = true := by rw [toList_bs, hz]; rfl
            have t0c : decide (T = []) = true := decide_eq_true hz
            have HZ := Lib.hid hz
            have hsz : B.length ≤ 20000000 := by omega
            have hfs : (markA ++ B).length ≤ 1000000000 := by rw [List.length_append]; have : markA.length = 8 := rfl; omega
            obtain ⟨FF, HFF⟩ : ∃ x, Hid (markA ++ B = x) := ⟨_, Lib.hid rfl⟩
            have rM : (⟨#[33, 60, 97, 114, 99, 104, 62, 10]⟩ : ByteArray) ++ bs B = bs FF := by rw [← HFF.out]; exact bs_app markA B
            rw [HFF.out] at hfs
            have HEQ : Hid (FF = arB 1 l) := Lib.hid (by rw [← HFF.out, arB, ← HTT.out, HBB.out, headW, if_pos HZ.out, List.nil_append])
            obtain ⟨gc, cc, Wc, hcv, hbc, hgc, hsc⟩ := conv_sl2 (P := Tryd.prog) wr 9 26 5 FF Tryd.underlying9 Tryd.underlying26 Tryd.underlying5 hfs
            clear hz
            go_wp2_with fail
            go_ret2
            refine ⟨_, by rw [HR.out, HC.out]; rfl, hbw.trans (hbc.mono hbw.size), ?_⟩
            rw [HR.out, HC.out, if_pos rfl, ← HEQ.out]
            exact hsc nowhere fun h => h
          · have t0 : ((bs T).toList == []) = false := by rw [toList_bs]; simpa using hz
            have t0b : (bs T).toList.isEmpty = false := by rw [toList_bs]; simpa using hz
            have t0c : decide (T = []) = false := decide_eq_false hz
            have HZ := Lib.hid hz
            clear hz
            obtain ⟨MM, HMM⟩ : ∃ x, Hid (memI [47, 47] [] [] [] [] T = x) := ⟨_, Lib.hid rfl⟩
            have hmm := rimember_any [47, 47] [] [] [] [] T wr (by decide) (by decide) (by decide) (by decide) (by decide) (by omega)
            rw [HMM.out] at hmm
            have hmm2 : Calls Tryd.prog 43 #[.string ⟨#[47, 47]⟩, .string ⟨#[]⟩, .string ⟨#[]⟩, .string ⟨#[]⟩, .string ⟨#[]⟩, .string (bs T)] wr fun e w' => e = .returned (.string (bs MM)) ∧ Below wr.heap.size wr w' := hmm
            clear hmm
            have hMl : MM.length ≤ 1000000 := by
              rw [← HMM.out]
              have := memI_len [47, 47] [] [] [] [] T (by decide) (by decide) (by decide) (by decide) (by decide) (by omega)
              omega
            have hsM := bs_size MM
            have rA : bs MM ++ bs B = bs (MM ++ B) := bs_app MM B
            have hsA := bs_size (MM ++ B)
            rw [List.length_append] at hsA
            have hfs : (markA ++ (MM ++ B)).length ≤ 1000000000 := by rw [List.length_append, List.length_append]; have : markA.length = 8 := rfl; omega
            obtain ⟨FF, HFF⟩ : ∃ x, Hid (markA ++ (MM ++ B) = x) := ⟨_, Lib.hid rfl⟩
            have rM : (⟨#[33, 60, 97, 114, 99, 104, 62, 10]⟩ : ByteArray) ++ bs (MM ++ B) = bs FF := by rw [← HFF.out]; exact bs_app markA (MM ++ B)
            rw [HFF.out] at hfs
            have HEQ : Hid (FF = arB 1 l) := Lib.hid (by rw [← HFF.out, ← HMM.out, arB, ← HTT.out, HBB.out, headW, if_neg HZ.out])
            have HCV := Lib.hid (fun (W : World) => conv_sl2 (P := Tryd.prog) W 9 26 5 FF Tryd.underlying9 Tryd.underlying26 Tryd.underlying5 hfs)
            go_wp2_with (go_at_call 43; refine hmm2.mono ?_; rintro r W2 ⟨rfl, hb2⟩; obtain ⟨gc, cc, Wc, hcv, hbc, hgc, hsc⟩ := HCV.out W2)
            go_ret2
            refine ⟨_, by rw [HR.out, HC.out]; rfl, (hbw.trans (hb2.mono hbw.size)).trans (hbc.mono (hbw.trans (hb2.mono hbw.size)).size), ?_⟩
            rw [HR.out, HC.out, if_pos rfl, ← HEQ.out]
            exact hsc nowhere fun h => h
end Go.Proofs.YtolknddegfcmpaaDoor
