/- The walk of ar.Write in the style 1. Printed by gen_arn.py. -/
import Derived.Test.YtolknddegfcmpaaDoorArM
namespace Go.Proofs.YtolknddegfcmpaaDoor
open Go.RowKit
set_option maxRecDepth 20000 in
set_option maxHeartbeats 16000000 in
/-- ar.Write in the style 1. -/
theorem write1_any (l : List It) (v : Value) (X : Nat → Prop) (w : World) (hsl : Sl 6 Rit X w v l) (hS : SmallI l) (hT : Tab w) (hD : Deb w) :
    Calls Tryd.prog 19 #[v, .int .i64 1] w (ArW w 1 l) := by
  have hsl0 : Sl 6 Rit (fun k => w.heap.size ≤ k) w v l := hsl.mono good_it (by omega) fun k hk h => absurd h (by omega)
  clear hsl
  obtain ⟨A, cap, rfl, hc1, hc2⟩ := hsl0.form
  unfold maxLen at hc2
  obtain ⟨hS1, hS2⟩ := hS
  have HS := Lib.hid hS2
  clear hS2
  have HT := Lib.hid (fun W (hb : Below w.heap.size w W) => (⟨hT.below hb, hD.below (B := 0) hb⟩ : Tab W ∧ Deb W))
  have hgT := hT.lt
  clear hT hD
  obtain ⟨R, HR⟩ : ∃ R, Hid (arErr 1 l = R) := ⟨_, Lib.hid rfl⟩
  have HC0 : Hid (R = if chkIs l ≠ 0 then chkIs l else if ((1 : Int) = 0 ∧ longs l = true) then 10 else 0) := Lib.hid (by rw [← HR.out, arErr, if_neg (by omega), if_neg (by omega)])
  have hl4 : decide ((4096 : Int) < (l.length : Int)) = false := decide_eq_false (by omega)
  go_enter Tryd.func19, Tryd.ntmps19
  go_wp2_with fail
  go_loopg [33] l.length (fun G s33 wr => ∃ k : Nat, k ≤ l.length ∧ G = l.length - k ∧ s33 = .int .i64 k ∧ Below w.heap.size w wr ∧ Hid (chkIs l = chkIs (l.drop k)))
  case atStart => exact ⟨0, Nat.zero_le _, rfl, rfl, Below.refl _ _, Lib.hid rfl⟩
  case round =>
    obtain ⟨k, hk, rfl, rfl, hbw, HE⟩ := hrel
    by_cases hlt : k < l.length
    · have HST := Lib.hid (HE.out.trans (chkIs_step l k hlt))
      have hslr := hsl0.keep good_it (Kept.low hbw)
      obtain ⟨b, off, rfl, _, hc⟩ := hslr.it (by omega)
      obtain ⟨dv, hat, hdv⟩ := hc k hlt
      obtain ⟨Ad, capd, rfl, _, _⟩ := hdv.form
      have HEB := HS.out _ (List.getElem_mem hlt)
      obtain ⟨e, He⟩ : ∃ e, Hid (l[k] = e) := ⟨_, Lib.hid rfl⟩
      rw [He.out] at hat hdv HEB HST
      obtain ⟨ln, ld⟩ := HEB
      obtain ⟨c0, c1, c2, c3, c4, c5⟩ := hat
      have i1 : (0 : Int) ≤ (k : Int) := by omega
      have i2 : (k : Int) < (l.length : Int) := by omega
      have hlt' : decide ((k : Int) < (l.length : Int)) = true := decide_eq_true i2
      clear hc
      clear hdv HE
      obtain ⟨q, HQ⟩ : ∃ q, Hid (chkI e = q) := ⟨_, Lib.hid rfl⟩
      rw [HQ.out] at HST
      have hck : ∀ W, Calls Tryd.prog 21 #[.agg #[.string (bs e.name), .int .i64 e.mtime, .int .i64 e.uid, .int .i64 e.gid, .int .i64 e.mode, .slice Ad e.data.length capd]] W fun r w' => r = .returned (.int .i64 q) ∧ Below W.heap.size W w' := fun W => by
        have := icheck_any e Ad capd W (by omega)
        rw [HQ.out] at this
        exact this
      go_upto_region 8 with fail
      have bE := Blk.new wr 46 #[.string (bs e.name), .int .i64 e.mtime, .int .i64 e.uid, .int .i64 e.gid, .int .i64 e.mode, .slice Ad e.data.length capd]
      have hq : Below wr.heap.size wr (wr.alloc (.cells #[.string (bs e.name), .int .i64 e.mtime, .int .i64 e.uid, .int .i64 e.gid, .int .i64 e.mode, .slice Ad e.data.length capd] 46)) := (Below.refl _ _).alloc (Nat.le_refl _) _
      have hbw2 := hbw.trans (hq.mono hbw.size)
      clear hslr hq c0 c1 c2 c3 c4 c5 hbw
      generalize wr.alloc (.cells #[.string (bs e.name), .int .i64 e.mtime, .int .i64 e.uid, .int .i64 e.gid, .int .i64 e.mode, .slice Ad e.data.length capd] 46) = W1 at bE hbw2 ⊢
      generalize wr.heap.size = g at bE ⊢
      have d0 := bE.cell 0
      have d1 := bE.cell 1
      have d2 := bE.cell 2
      have d3 := bE.cell 3
      have d4 := bE.cell 4
      have d5 := bE.cell 5
      simp at d0 d1 d2 d3 d4 d5
      clear bE
      by_cases hq : q = 0
      rotate_left
      · have hqb : (q != 0) = true := by simpa using hq
        have HV : Hid (R = q) := Lib.hid (by rw [HC0.out, HST.out, if_pos hq, if_pos hq])
        have HQN := Lib.hid hq
        clear hq
        go_wp2_with (go_at_call 21; refine (hck _).mono ?_; rintro r W2 ⟨rfl, hb2⟩)
        go_ret2
        refine ⟨_, by rw [HR.out, HV.out]; rfl, hbw2.trans (hb2.mono hbw2.size), ?_⟩
        rw [HR.out, HV.out, if_neg HQN.out]
        exact Sl.nil _ _ _ _
      · subst hq
        have HV := Lib.hid (HST.out.trans (if_neg (by simp)))
        go_wp2_with (go_at_call 21; refine (hck _).mono ?_; rintro r W2 ⟨rfl, hb2⟩)
        have hb3 := hbw2.trans (hb2.mono hbw2.size)
        clear hck d0 d1 d2 d3 d4 d5 hb2 hbw2
        go_roundg (l.length - (k + 1))
        case measure => omega
        case rel => exact ⟨k + 1, by omega, rfl, by first | (simp; done) | (simp; omega), hb3, HV⟩
    · have hlt' : decide ((k : Int) < (l.length : Int)) = false := decide_eq_false (by omega)
      have HCK : Hid (chkIs l = 0) := Lib.hid (by rw [HE.out, List.drop_eq_nil_of_le (by omega)]; rfl)
      have HALL := Lib.hid (chkIs_all l HCK.out)
      clear HE
      have HC : Hid (R = 0) := Lib.hid (by rw [HC0.out, if_neg (fun h => h HCK.out), if_neg (fun h => absurd h.1 (by decide))])
      have HL16 : Fit16 1 l := fun x hx h => absurd h (by decide)
      have HTB := Lib.hid (tabU_le 1 l fun x hx => (chkI_facts (HALL.out x hx)).2.1)
      clear HC0 HCK hk
      go_wp2_with fail
      clear hlt' hlt
      go_loopg [9, 45] l.length (fun G s9 s45 wr => ∃ k : Nat, k ≤ l.length ∧ G = l.length - k ∧ s45 = .int .i64 k ∧ Below w.heap.size w wr ∧ wr.ownsRow w.heap.size 5 1 s9 (tabU 1 l k).length (bvs (tabU 1 l k)))
      case atStart => exact ⟨0, Nat.zero_le _, rfl, rfl, hbw, World.ownsRow_nil _ _ _ _⟩
      case round =>
        clear hbw
        obtain ⟨k, hk, rfl, rfl, hbw, hrow⟩ := hrel
        have hb1 := HTB.out k hk
        by_cases hlt : k < l.length
        · have HST := Lib.hid (tabU_step 1 l k hlt)
          have hslr := hsl0.keep good_it (Kept.low hbw)
          obtain ⟨b, off, rfl, _, hc⟩ := hslr.it (by omega)
          obtain ⟨dv, hat, hdv⟩ := hc k hlt
          obtain ⟨Ad, capd, rfl, _, _⟩ := hdv.form
          have HEB := HS.out _ (List.getElem_mem hlt)
          obtain ⟨e, He⟩ : ∃ e, Hid (l[k] = e) := ⟨_, Lib.hid rfl⟩
          rw [He.out] at hat hdv HEB HST
          obtain ⟨ln, ld⟩ := HEB
          obtain ⟨c0, c1, c2, c3, c4, c5⟩ := hat
          have i1 : (0 : Int) ≤ (k : Int) := by omega
          have i2 : (k : Int) < (l.length : Int) := by omega
          have hlt' : decide ((k : Int) < (l.length : Int)) = true := decide_eq_true i2
          clear hc
          clear hdv
          have hns := bs_size e.name
          have hit := intab_any e.name
          obtain ⟨tb, HTK⟩ : ∃ x, Hid (tabU 1 l k = x) := ⟨_, Lib.hid rfl⟩
          rw [HTK.out] at HST hrow hb1
          rw [if_pos rfl] at HST
          obtain ⟨A9, c9, rfl⟩ := own_form hrow
          go_upto_region 16 with fail
          have bE := Blk.new wr 46 #[.string (bs e.name), .int .i64 e.mtime, .int .i64 e.uid, .int .i64 e.gid, .int .i64 e.mode, .slice Ad e.data.length capd]
          have hq : Below wr.heap.size wr (wr.alloc (.cells #[.string (bs e.name), .int .i64 e.mtime, .int .i64 e.uid, .int .i64 e.gid, .int .i64 e.mode, .slice Ad e.data.length capd] 46)) := (Below.refl _ _).alloc (Nat.le_refl _) _
          have hbw2 := hbw.trans (hq.mono hbw.size)
          have hrow2 := own_below hrow hq
          clear hrow hslr hq c0 c1 c2 c3 c4 c5 hbw
          generalize wr.alloc (.cells #[.string (bs e.name), .int .i64 e.mtime, .int .i64 e.uid, .int .i64 e.gid, .int .i64 e.mode, .slice Ad e.data.length capd] 46) = W1 at bE hbw2 hrow2 ⊢
          generalize wr.heap.size = g at bE ⊢
          have d0 := bE.cell 0
          have d1 := bE.cell 1
          have d2 := bE.cell 2
          have d3 := bE.cell 3
          have d4 := bE.cell 4
          have d5 := bE.cell 5
          simp at d0 d1 d2 d3 d4 d5
          cases hqb : inTab e.name with
          | true =>
            rw [hqb] at hit HST
            have HV := Lib.hid (HST.out.trans (by rw [if_pos rfl]) : tabU 1 l (k + 1) = tb ++ (e.name ++ [47, 10]))
            clear hqb HST bE
            have hr := Row8.first hrow2 hbw2.size
            have r1 : bs e.name ++ (⟨#[47, 10]⟩ : ByteArray) = bs (e.name ++ [47, 10]) := bs_app e.name [47, 10]
            go_wp2_with (first
              | (go_at_call 36; refine (hit _).mono ?_; rintro r W3 ⟨rfl, rfl⟩)
              | (at_builtin; refine wpList_row_text rfl _ _ 26 9 rfl Tryd.underlying26 Tryd.underlying9 u8info rfl hr (e.name ++ [47, 10]) rfl (by simp; omega) ?_; intro v1 w1 hr1; obtain ⟨A1, c1, rfl⟩ := own_form hr1.own))
            have hb4 := hbw2.trans (hr1.bel fun k hk => (hrow2.lt k hk).1)
            have ho4 := hr1.own
            have hll : (tb ++ (e.name ++ [47, 10])).length = tb.length + (e.name.length + 2) := by simp
            have HLL := Lib.hid hll
            clear hll
            clear d0 d1 d2 d3 d4 d5 hit hr hr1 hbw2 hrow2
            go_roundg (l.length - (k + 1))
            case measure => omega
            case rel => exact ⟨k + 1, by omega, rfl, by first | (simp; done) | (simp; omega), hb4, by rw [HV.out, ← HLL.out]; exact ho4⟩
          | false =>
            rw [hqb] at hit HST
            have HV := Lib.hid (HST.out.trans (by rw [if_neg (by simp), List.append_nil]) : tabU 1 l (k + 1) = tb)
            clear hqb HST bE
            go_wp2_with (go_at_call 36; refine (hit _).mono ?_; rintro r W3 ⟨rfl, rfl⟩)
            clear d0 d1 d2 d3 d4 d5 hit
            go_roundg (l.length - (k + 1))
            case measure => omega
            case rel => exact ⟨k + 1, by omega, rfl, by first | (simp; done) | (simp; omega), hbw2, by rw [HV.out]; exact hrow2⟩
        · have hlt' : decide ((k : Int) < (l.length : Int)) = false := decide_eq_false (by omega)
          have hke : k = l.length := by omega
          subst hke
          clear hk
          obtain ⟨tb, HTK⟩ : ∃ x, Hid (tabU 1 l l.length = x) := ⟨_, Lib.hid rfl⟩
          rw [HTK.out] at hrow hb1
          obtain ⟨A9, c9, rfl⟩ := own_form hrow
          by_cases hz : tb.length = 0
          · have hqz : decide ((0 : Int) < (tb.length : Int)) = false := decide_eq_false (by omega)
            have hqzb : decide (0 < tb.length) = false := decide_eq_false (by omega)
            have HTN : Hid (tabU 1 l l.length = []) := Lib.hid (by rw [HTK.out]; exact List.eq_nil_of_length_eq_zero hz)
            clear hz hrow
            have e1 : (wr.alloc (.cells #[.int .u8 33, .int .u8 60, .int .u8 97, .int .u8 114, .int .u8 99, .int .u8 104, .int .u8 62, .int .u8 10] 5)).heap.size = wr.heap.size + 1 := by simp
            have hcv : (convert 26 26 (.slice (some ⟨wr.heap.size, 0, none⟩) 8 8)).run Tryd.prog (wr.alloc (.cells #[.int .u8 33, .int .u8 60, .int .u8 97, .int .u8 114, .int .u8 99, .int .u8 104, .int .u8 62, .int .u8 10] 5)) = .ok (.slice (some ⟨wr.heap.size, 0, none⟩) 8 8) (wr.alloc (.cells #[.int .u8 33, .int .u8 60, .int .u8 97, .int .u8 114, .int .u8 99, .int .u8 104, .int .u8 62, .int .u8 10] 5 (8, 9))) := Lib.run_convert_bytes_const wr _ _ #[.int .u8 33, .int .u8 60, .int .u8 97, .int .u8 114, .int .u8 99, .int .u8 104, .int .u8 62, .int .u8 10] 8 8 Tryd.underlying26 Tryd.underlying5
            go_upto_region 22 with fail
            have hqM : Below wr.heap.size wr (wr.alloc (.cells #[.int .u8 33, .int .u8 60, .int .u8 97, .int .u8 114, .int .u8 99, .int .u8 104, .int .u8 62, .int .u8 10] 5 (8, 9))) := (Below.refl _ _).alloc (Nat.le_refl _) _
            have har0 : ArS w.heap.size (wr.alloc (.cells #[.int .u8 33, .int .u8 60, .int .u8 97, .int .u8 114, .int .u8 99, .int .u8 104, .int .u8 62, .int .u8 10] 5 (8, 9))) (.slice (some ⟨wr.heap.size, 0, none⟩) 8 8) markA := .inr ⟨wr.heap.size, rfl, hbw.size, by decide, heap_alloc_new wr _⟩
            have hbx := hbw.trans (hqM.mono hbw.size)
            clear hcv e1 hqM hbw
            generalize wr.alloc (.cells #[.int .u8 33, .int .u8 60, .int .u8 97, .int .u8 114, .int .u8 99, .int .u8 104, .int .u8 62, .int .u8 10] 5 (8, 9)) = WM at har0 hbx ⊢
            generalize wr.heap.size = gM at har0 ⊢
            have har1 : ArS w.heap.size WM (.slice (some ⟨gM, 0, none⟩) 8 8) (accU 1 l 0) := by
              have : accU 1 l 0 = markA := by rw [accU_zero, HTN.out, headW, if_pos rfl, List.append_nil]
              rw [this]; exact har0
            have hbx2 := hbx
            clear hbx har0
            have HA0 : Hid ((accU 1 l 0).length ≤ 300000) := Lib.hid (by
              have := headW_le (tabU 1 l l.length) (by have := tabU_le 1 l (fun x hx => (chkI_facts (HALL.out x hx)).2.1) l.length (Nat.le_refl _); omega)
              rw [accU_zero, List.length_append]
              have : markA.length = 8 := rfl
              omega)
            go_wp2_with fail
            go_loopg [12, 13, 82] l.length (fun G s12 s13 s82 wr => ∃ k : Nat, k ≤ l.length ∧ G = l.length - k ∧ s13 = .int .i64 ((tabU 1 l k).length : Int) ∧ s82 = .int .i64 k ∧ Below w.heap.size w wr ∧ ArS w.heap.size wr s12 (accU 1 l k) ∧ Hid ((accU 1 l k).length ≤ 300000 + k * 200000))
            case atStart => exact ⟨0, Nat.zero_le _, rfl, rfl, rfl, hbx2, har1, Lib.hid (by have := HA0.out; omega)⟩
            case round =>
              clear hbx2 har1 HA0
              obtain ⟨k, hk, rfl, rfl, rfl, hbw, har, HAB⟩ := hrel
              by_cases hlt : k < l.length
              · have HST := Lib.hid (accU_step 1 l k hlt)
                have HST2 := Lib.hid (tabU_step 1 l k hlt)
                have HF := Lib.hid (HALL.out _ (List.getElem_mem hlt))
                have HL : Fit1 1 l[k] := HL16 _ (List.getElem_mem hlt)
                have hslr := hsl0.keep good_it (Kept.low hbw)
                obtain ⟨b, off, rfl, _, hc⟩ := hslr.it (by omega)
                obtain ⟨dv, hat, hdv⟩ := hc k hlt
                obtain ⟨Ad, capd, rfl, _, _⟩ := hdv.form
                have HEB := HS.out _ (List.getElem_mem hlt)
                obtain ⟨e, He⟩ : ∃ e, Hid (l[k] = e) := ⟨_, Lib.hid rfl⟩
                rw [He.out] at hat hdv HEB HST
                obtain ⟨ln, ld⟩ := HEB
                obtain ⟨c0, c1, c2, c3, c4, c5⟩ := hat
                have i1 : (0 : Int) ≤ (k : Int) := by omega
                have i2 : (k : Int) < (l.length : Int) := by omega
                have hlt' : decide ((k : Int) < (l.length : Int)) = true := decide_eq_true i2
                clear hc
                rw [He.out] at HF HL HST2
                obtain ⟨Av, cv, rfl⟩ := har.form
                have hns := bs_size e.name
                go_upto_region 28 with fail
                have bE := Blk.new wr 46 #[.string (bs e.name), .int .i64 e.mtime, .int .i64 e.uid, .int .i64 e.gid, .int .i64 e.mode, .slice Ad e.data.length capd]
                have hq : Below wr.heap.size wr (wr.alloc (.cells #[.string (bs e.name), .int .i64 e.mtime, .int .i64 e.uid, .int .i64 e.gid, .int .i64 e.mode, .slice Ad e.data.length capd] 46)) := (Below.refl _ _).alloc (Nat.le_refl _) _
                have hbw2 := hbw.trans (hq.mono hbw.size)
                have har2 := har.below hq
                have hdv2 : Sl 1 Rbyte (fun j => (Value.slice Av (accU 1 l k).length cv).ownBlock = some j) (wr.alloc (.cells #[.string (bs e.name), .int .i64 e.mtime, .int .i64 e.uid, .int .i64 e.gid, .int .i64 e.mode, .slice Ad e.data.length capd] 46)) (.slice Ad e.data.length capd) e.data := (Below.sl good_byte hq hdv).mono good_byte (Nat.le_refl _) fun j _ h => (har.lt j h).1
                clear har hdv hslr hq c0 c1 c2 c3 c4 c5 hbw
                generalize wr.alloc (.cells #[.string (bs e.name), .int .i64 e.mtime, .int .i64 e.uid, .int .i64 e.gid, .int .i64 e.mode, .slice Ad e.data.length capd] 46) = W1 at bE hbw2 har2 hdv2 ⊢
                generalize wr.heap.size = g at bE ⊢
                have d0 := bE.cell 0
                have d1 := bE.cell 1
                have d2 := bE.cell 2
                have d3 := bE.cell 3
                have d4 := bE.cell 4
                have d5 := bE.cell 5
                simp at d0 d1 d2 d3 d4 d5
                have HFF := Lib.hid (chkI_facts HF.out)
                have HFT := Lib.hid (fields_fit HF.out)
                have HMW : Hid (memW 1 (tabU 1 l k).length e = memI (nameW 1 (tabU 1 l k).length e.name) (Lib.decDigits e.mtime.toNat) (Lib.decDigits e.uid.toNat) (Lib.decDigits e.gid.toNat) (octD e.mode.toNat) (dataW 1 e.name e.data)) := Lib.hid rfl
                have HPL : Hid ((tabU 1 l k).length < 1000000) := Lib.hid (by have := tabU_le 1 l (fun x hx => (chkI_facts (HALL.out x hx)).2.1) k hk; omega)
                have HNL := Lib.hid (nameW_len 1 (tabU 1 l k).length e.name HFF.out.2.1 HPL.out HL (by omega))
                have HML := Lib.hid (memW_le (st := 1) (place := (tabU 1 l k).length) HF.out HPL.out HL (by omega) (by omega))
                have HDL : Hid ((dataW 1 e.name e.data).length ≤ 100000000) := Lib.hid (by have := dataW_le 1 e.name e.data; omega)
                obtain ⟨name, mtime, uid, gid, mode, data⟩ := e
                simp only at d0 d1 d2 d3 d4 d5 hdv2 bE hns ln ld HFF HFT HMW HNL HDL HST2 ⊢
                obtain ⟨n1, n2, m1, m2, u1, u2, g1, g2, o1, o2⟩ := HFF.out
                obtain ⟨mt, rfl⟩ := Int.eq_ofNat_of_zero_le m1
                obtain ⟨ui, rfl⟩ := Int.eq_ofNat_of_zero_le u1
                obtain ⟨gi, rfl⟩ := Int.eq_ofNat_of_zero_le g1
                obtain ⟨mo, rfl⟩ := Int.eq_ofNat_of_zero_le o1
                simp only [Int.toNat_natCast] at HFT HMW
                have DC1 := Lib.hid (fun W (hb : Below w.heap.size w W) => dec_any mt W (by omega) (HT.out W hb).1)
                have DC2 := Lib.hid (fun W (hb : Below w.heap.size w W) => dec_any ui W (by omega) (HT.out W hb).1)
                have DC3 := Lib.hid (fun W (hb : Below w.heap.size w W) => dec_any gi W (by omega) (HT.out W hb).1)
                have DC4 := Lib.hid (fun W (hb : Below w.heap.size w W) => format8_any mo W (by omega) (HT.out W hb).2)
                obtain ⟨D1, HD1⟩ : ∃ x, Hid (Lib.decDigits mt = x) := ⟨_, Lib.hid rfl⟩
                obtain ⟨D2, HD2⟩ : ∃ x, Hid (Lib.decDigits ui = x) := ⟨_, Lib.hid rfl⟩
                obtain ⟨D3, HD3⟩ : ∃ x, Hid (Lib.decDigits gi = x) := ⟨_, Lib.hid rfl⟩
                obtain ⟨D4, HD4⟩ : ∃ x, Hid (octD mo = x) := ⟨_, Lib.hid rfl⟩
                rw [HD1.out, HD2.out, HD3.out, HD4.out] at HFT HMW
                rw [HD1.out] at DC1
                rw [HD2.out] at DC2
                rw [HD3.out] at DC3
                rw [HD4.out] at DC4
                clear HFF m1 u1 g1 o1
                refine wp_region_plan (fun W => W.cell? ⟨g, 0, none⟩ = some (.string (bs name)) ∧ W.cell? ⟨g, 5, none⟩ = some (.slice Ad data.length capd)) [(false, 0), (false, 1), (false, 2), (false, 3), (false, 4), (false, 5)] (by kernel_rfl) (by kernel_rfl) (⟨d0, d5⟩) ?_
                simp only [planOps, List.map, List.getD_cons_zero, List.getD_cons_succ]
                iterate 6 ((first | refine plan_quiet (v := ?_) rfl rfl (fun w' hw' => ?_) ?_ | refine plan_calm (v := ?_) (tt_of) rfl (fun w' hw' => ?_) ?_); rotate_left; (focus (go_simp <;> (first | with_reducible rfl | (rw [if_neg (by simp [undef])]; try rfl) | omega))); simp only [Act.put, List.setIfInBounds_toArray, List.set_cons_zero, List.set_cons_succ])
                refine plan_end ?_
                have bE2 := bE.below (B := W1.heap.size) ((Below.refl _ W1).drew) bE.lt
                have hbw3 := hbw2.drew
                have har3 := har2.below ((Below.refl W1.heap.size W1).drew)
                have hdv3 := Below.sl good_byte ((Below.refl W1.heap.size W1).drew) hdv2
                clear bE hbw2 har2 hdv2 d0 d1 d2 d3 d4 d5
                generalize W1.drew = W2 at bE2 hbw3 har3 hdv3 ⊢
                have d0 := bE2.cell 0
                have d1 := bE2.cell 1
                have d2 := bE2.cell 2
                have d3 := bE2.cell 3
                have d4 := bE2.cell 4
                have d5 := bE2.cell 5
                simp at d0 d1 d2 d3 d4 d5

                have hit := intab_any name
                obtain ⟨pl, HP⟩ : ∃ x, Hid ((tabU 1 l k).length = x) := ⟨_, Lib.hid rfl⟩
                rw [HP.out] at HMW HPL HNL HML HST ⊢
                have HPS := Lib.hid (congrArg List.length HST2.out)
                have hpl := HPL.out
                cases hqb : inTab name with
                | true =>
                  rw [hqb] at hit
                  have HQB := Lib.hid hqb
                  clear hqb
                  have hdp := dec_any pl W2 (by omega) (HT.out W2 hbw3).1
                  obtain ⟨D0, HD0⟩ : ∃ x, Hid (Lib.decDigits pl = x) := ⟨_, Lib.hid rfl⟩
                  rw [HD0.out] at hdp
                  have hD0l : D0.length ≤ 6 := by rw [← HD0.out]; exact nd_len pl 6 (by omega) (by omega)
                  have hD0s := bs_size D0
                  have HMM : Hid (memW 1 pl ⟨name, (mt : Int), (ui : Int), (gi : Int), (mo : Int), data⟩ = memI ([47] ++ D0) D1 D2 D3 D4 data) := Lib.hid (by rw [HMW.out]; simp only [nameW, dataW, if_pos, HQB.out, HD0.out]; rfl)
                  have HNM : Hid (([47] ++ D0).length ≤ 16) := Lib.hid (by have := HNL.out; simp only [nameW, if_pos, HQB.out, HD0.out] at this; exact this)
                  have HDM : Hid (data.length ≤ 100000000) := HDL
                  have r1 : (⟨#[47]⟩ : ByteArray) ++ bs D0 = bs ([47] ++ D0) := bs_app [47] D0
                  have HPL2 : Hid ((tabU 1 l (k + 1)).length = pl + (name.length + 2)) := Lib.hid (by rw [HPS.out, List.length_append, HP.out]; simp [HQB.out])
                  have wa : IntKind.i64.wrap ((name.length : Int) + 2) = ((name.length + 2 : Nat) : Int) := by rw [i64_in _ (by omega) (by omega)]; omega
                  have wb : IntKind.i64.wrap ((pl : Int) + ((name.length + 2 : Nat) : Int)) = ((pl + (name.length + 2) : Nat) : Int) := by rw [i64_in _ (by omega) (by omega)]; omega
                  have hdp2 : Calls Tryd.prog 38 #[.int .i64 (pl : Int)] W2 fun e w' => e = .returned (.string (bs D0)) ∧ Below W2.heap.size W2 w' := hdp
                  clear hdp
                  obtain ⟨n2, HN2⟩ : ∃ x, Hid (name.length + 2 = x) := ⟨_, Lib.hid rfl⟩
                  rw [HN2.out] at wa wb HPL2
                  go_upto_region 37 with (first
                    | (go_at_call 36; refine (hit _).mono ?_; rintro r W3 ⟨rfl, rfl⟩)
                    | (go_at_call 38; refine hdp2.mono ?_; clear hdp2; rintro r W3 ⟨rfl, hb3⟩; have x0 := (bE2.below hb3 bE2.lt).cell 0; simp at x0))
                  clear x0
                  have bE3 := bE2.below hb3 bE2.lt
                  have hbF := hbw3.trans (hb3.mono hbw3.size)
                  have harF := har3.below hb3
                  have hdvF := Below.sl good_byte hb3 hdv3
                  clear hbw3 har3 hdv3 bE2 hb3 hit d0 d1 d2 d3 d4 d5
                  have d0 := bE3.cell 0
                  have d1 := bE3.cell 1
                  have d2 := bE3.cell 2
                  have d3 := bE3.cell 3
                  have d4 := bE3.cell 4
                  have d5 := bE3.cell 5
                  simp at d0 d1 d2 d3 d4 d5
                  have bEF := bE3
                  clear bE3
                  have KS : ∀ W', Below W3.heap.size W3 W' → (fun W => W.cell? ⟨g, 1, none⟩ = some (.int .i64 (mt : Int)) ∧ W.cell? ⟨g, 2, none⟩ = some (.int .i64 (ui : Int)) ∧ W.cell? ⟨g, 3, none⟩ = some (.int .i64 (gi : Int)) ∧ W.cell? ⟨g, 4, none⟩ = some (.int .i64 (mo : Int))) W' := fun W' hb => by
                    have q := Kept.of_below hb nowhere
                    exact ⟨q.cell d1 fun h => h, q.cell d2 fun h => h, q.cell d3 fun h => h, q.cell d4 fun h => h⟩
                  refine wp_region_plan (fun W => W.cell? ⟨g, 1, none⟩ = some (.int .i64 (mt : Int)) ∧ W.cell? ⟨g, 2, none⟩ = some (.int .i64 (ui : Int)) ∧ W.cell? ⟨g, 3, none⟩ = some (.int .i64 (gi : Int)) ∧ W.cell? ⟨g, 4, none⟩ = some (.int .i64 (mo : Int))) [(false, 0), (false, 1), (false, 2), (false, 3), (false, 5), (false, 6), (false, 8), (false, 9), (false, 11), (false, 12), (false, 14), (true, 4), (true, 7), (true, 10), (true, 13), (true, 15), (false, 16)] (by kernel_rfl) (by kernel_rfl) (KS _ ((Below.refl _ W3).drew)) ?_
                  simp only [planOps, List.map, List.getD_cons_zero, List.getD_cons_succ]
                  iterate 11 ((first | refine plan_quiet (v := ?_) rfl rfl (fun w' hw' => ?_) ?_ | refine plan_calm (v := ?_) (tt_of) rfl (fun w' hw' => ?_) ?_); rotate_left; (focus (go_simp <;> (first | with_reducible rfl | (rw [if_neg (by simp [undef])]; try rfl) | omega))); simp only [Act.put, List.setIfInBounds_toArray, List.set_cons_zero, List.set_cons_succ])
                  refine plan_loud rfl (fun K hK => ?_)
                  go_simp
                  have hz0 := (Below.refl W3.heap.size W3).drew
                  refine (DC1.out _ (hbF.trans (hz0.mono hbF.size))).mono ?_
                  rintro r Z1 ⟨rfl, hz⟩
                  go_simp
                  have hz1 := hz0.trans (hz.mono hz0.size)
                  refine hK _ _ (KS _ hz1) ?_
                  clear hK K
                  (try simp only [Act.put, List.setIfInBounds_toArray, List.set_cons_zero, List.set_cons_succ])
                  refine plan_loud rfl (fun K hK => ?_)
                  go_simp
                  refine (DC2.out _ (hbF.trans (hz1.mono hbF.size))).mono ?_
                  rintro r Z2 ⟨rfl, hz⟩
                  go_simp
                  have hz2 := hz1.trans (hz.mono hz1.size)
                  refine hK _ _ (KS _ hz2) ?_
                  clear hK K
                  (try simp only [Act.put, List.setIfInBounds_toArray, List.set_cons_zero, List.set_cons_succ])
                  refine plan_loud rfl (fun K hK => ?_)
                  go_simp
                  refine (DC3.out _ (hbF.trans (hz2.mono hbF.size))).mono ?_
                  rintro r Z3 ⟨rfl, hz⟩
                  go_simp
                  have hz3 := hz2.trans (hz.mono hz2.size)
                  refine hK _ _ (KS _ hz3) ?_
                  clear hK K
                  (try simp only [Act.put, List.setIfInBounds_toArray, List.set_cons_zero, List.set_cons_succ])
                  refine plan_loud rfl (fun K hK => ?_)
                  go_simp
                  refine (DC4.out _ (hbF.trans (hz3.mono hbF.size))).mono ?_
                  rintro r Z4 ⟨rfl, hz⟩
                  go_simp
                  have hz4 := hz3.trans (hz.mono hz3.size)
                  refine hK _ _ (KS _ hz4) ?_
                  clear hK K
                  (try simp only [Act.put, List.setIfInBounds_toArray, List.set_cons_zero, List.set_cons_succ])
                  refine plan_loud rfl (fun K hK => ?_)
                  have hbG := hbF.trans (hz4.mono hbF.size)
                  have harG := harF.below hz4
                  have bEG := bEF.below hz4 bEF.lt
                  have hdvG := Below.sl good_byte hz4 hdvF
                  have hmem := amember_any Z4 w.heap.size _ _ harG hbG.size (by have := HAB.out; omega) ([47] ++ D0) D1 D2 D3 D4 (by first | omega | (simp; done) | (simp; omega)) HNM.out HFT.out.1 HFT.out.2.1 HFT.out.2.2.1 HFT.out.2.2.2 _ data hdvG HDM.out (HT.out Z4 hbG).1 hgT
                  go_simp
                  refine hmem.mono ?_
                  rintro r Z5 ⟨v5, rfl, har5, hb5, hkb⟩
                  have bEH := hkb _ _ _ bEG (by decide)
                  have x1 := bEH.cell 1
                  have x2 := bEH.cell 2
                  have x3 := bEH.cell 3
                  have x4 := bEH.cell 4
                  simp at x1 x2 x3 x4
                  clear hmem hkb bEG bEH
                  go_simp
                  have hb6 := hbG.trans hb5
                  rw [← HMM.out, ← HST.out] at har5
                  refine hK _ _ (⟨x1, x2, x3, x4⟩) ?_
                  clear hK K
                  (try simp only [Act.put, List.setIfInBounds_toArray, List.set_cons_zero, List.set_cons_succ])
                  iterate 1 ((first | refine plan_quiet (v := ?_) rfl rfl (fun w' hw' => ?_) ?_ | refine plan_calm (v := ?_) (tt_of) rfl (fun w' hw' => ?_) ?_); rotate_left; (focus (go_simp <;> (first | with_reducible rfl | (rw [if_neg (by simp [undef])]; try rfl) | omega))); simp only [Act.put, List.setIfInBounds_toArray, List.set_cons_zero, List.set_cons_succ])
                  refine plan_end ?_
                  clear hz hz0 hz1 hz2 hz3 hz4 KS hbG harG hdvG hb5 hbF harF hdvF bEF d0 d1 d2 d3 d4 d5 x1 x2 x3 x4 DC1 DC2 DC3 DC4
                  obtain ⟨A5, c5, rfl⟩ := har5.form
                  go_wp2_with fail
                  go_roundg (l.length - (k + 1))
                  case measure => omega
                  case rel => exact ⟨k + 1, by omega, rfl, by first | (rw [HPL2.out]; done) | (rw [HPL2.out, Int.natCast_add]; done) | (rw [HPL2.out]; simp; done), by first | (simp; done) | (simp; omega), hb6, har5, Lib.hid (by have := congrArg List.length HST.out; rw [List.length_append] at this; have := HML.out; have := HAB.out; omega)⟩
                | false =>
                  rw [hqb] at hit
                  have HQB := Lib.hid hqb
                  clear hqb
                  have HMM : Hid (memW 1 pl ⟨name, (mt : Int), (ui : Int), (gi : Int), (mo : Int), data⟩ = memI (name ++ [47]) D1 D2 D3 D4 data) := Lib.hid (by rw [HMW.out]; simp only [nameW, dataW, if_pos, HQB.out]; rfl)
                  have HNM : Hid ((name ++ [47]).length ≤ 16) := Lib.hid (by have := HNL.out; simp only [nameW, if_pos, HQB.out] at this; exact this)
                  have HDM : Hid (data.length ≤ 100000000) := HDL
                  have r1 : bs name ++ (⟨#[47]⟩ : ByteArray) = bs (name ++ [47]) := bs_app name [47]
                  have HPL2 : Hid ((tabU 1 l (k + 1)).length = pl) := Lib.hid (by rw [HPS.out, List.length_append, HP.out]; simp [HQB.out])
                  have hbF := hbw3
                  have harF := har3
                  have hdvF := hdv3
                  have bEF := bE2
                  clear hbw3 har3 hdv3 bE2
                  go_upto_region 37 with (go_at_call 36; refine (hit _).mono ?_; rintro r W3 ⟨rfl, rfl⟩)
                  clear hit
                  have KS : ∀ W', Below W2.heap.size W2 W' → (fun W => W.cell? ⟨g, 1, none⟩ = some (.int .i64 (mt : Int)) ∧ W.cell? ⟨g, 2, none⟩ = some (.int .i64 (ui : Int)) ∧ W.cell? ⟨g, 3, none⟩ = some (.int .i64 (gi : Int)) ∧ W.cell? ⟨g, 4, none⟩ = some (.int .i64 (mo : Int))) W' := fun W' hb => by
                    have q := Kept.of_below hb nowhere
                    exact ⟨q.cell d1 fun h => h, q.cell d2 fun h => h, q.cell d3 fun h => h, q.cell d4 fun h => h⟩
                  refine wp_region_plan (fun W => W.cell? ⟨g, 1, none⟩ = some (.int .i64 (mt : Int)) ∧ W.cell? ⟨g, 2, none⟩ = some (.int .i64 (ui : Int)) ∧ W.cell? ⟨g, 3, none⟩ = some (.int .i64 (gi : Int)) ∧ W.cell? ⟨g, 4, none⟩ = some (.int .i64 (mo : Int))) [(false, 0), (false, 1), (false, 2), (false, 3), (false, 5), (false, 6), (false, 8), (false, 9), (false, 11), (false, 12), (false, 14), (true, 4), (true, 7), (true, 10), (true, 13), (true, 15), (false, 16)] (by kernel_rfl) (by kernel_rfl) (KS _ ((Below.refl _ W2).drew)) ?_
                  simp only [planOps, List.map, List.getD_cons_zero, List.getD_cons_succ]
                  iterate 11 ((first | refine plan_quiet (v := ?_) rfl rfl (fun w' hw' => ?_) ?_ | refine plan_calm (v := ?_) (tt_of) rfl (fun w' hw' => ?_) ?_); rotate_left; (focus (go_simp <;> (first | with_reducible rfl | (rw [if_neg (by simp [undef])]; try rfl) | omega))); simp only [Act.put, List.setIfInBounds_toArray, List.set_cons_zero, List.set_cons_succ])
                  refine plan_loud rfl (fun K hK => ?_)
                  go_simp
                  have hz0 := (Below.refl W2.heap.size W2).drew
                  refine (DC1.out _ (hbF.trans (hz0.mono hbF.size))).mono ?_
                  rintro r Z1 ⟨rfl, hz⟩
                  go_simp
                  have hz1 := hz0.trans (hz.mono hz0.size)
                  refine hK _ _ (KS _ hz1) ?_
                  clear hK K
                  (try simp only [Act.put, List.setIfInBounds_toArray, List.set_cons_zero, List.set_cons_succ])
                  refine plan_loud rfl (fun K hK => ?_)
                  go_simp
                  refine (DC2.out _ (hbF.trans (hz1.mono hbF.size))).mono ?_
                  rintro r Z2 ⟨rfl, hz⟩
                  go_simp
                  have hz2 := hz1.trans (hz.mono hz1.size)
                  refine hK _ _ (KS _ hz2) ?_
                  clear hK K
                  (try simp only [Act.put, List.setIfInBounds_toArray, List.set_cons_zero, List.set_cons_succ])
                  refine plan_loud rfl (fun K hK => ?_)
                  go_simp
                  refine (DC3.out _ (hbF.trans (hz2.mono hbF.size))).mono ?_
                  rintro r Z3 ⟨rfl, hz⟩
                  go_simp
                  have hz3 := hz2.trans (hz.mono hz2.size)
                  refine hK _ _ (KS _ hz3) ?_
                  clear hK K
                  (try simp only [Act.put, List.setIfInBounds_toArray, List.set_cons_zero, List.set_cons_succ])
                  refine plan_loud rfl (fun K hK => ?_)
                  go_simp
                  refine (DC4.out _ (hbF.trans (hz3.mono hbF.size))).mono ?_
                  rintro r Z4 ⟨rfl, hz⟩
                  go_simp
                  have hz4 := hz3.trans (hz.mono hz3.size)
                  refine hK _ _ (KS _ hz4) ?_
                  clear hK K
                  (try simp only [Act.put, List.setIfInBounds_toArray, List.set_cons_zero, List.set_cons_succ])
                  refine plan_loud rfl (fun K hK => ?_)
                  have hbG := hbF.trans (hz4.mono hbF.size)
                  have harG := harF.below hz4
                  have bEG := bEF.below hz4 bEF.lt
                  have hdvG := Below.sl good_byte hz4 hdvF
                  have hmem := amember_any Z4 w.heap.size _ _ harG hbG.size (by have := HAB.out; omega) (name ++ [47]) D1 D2 D3 D4 (by first | omega | (simp; done) | (simp; omega)) HNM.out HFT.out.1 HFT.out.2.1 HFT.out.2.2.1 HFT.out.2.2.2 _ data hdvG HDM.out (HT.out Z4 hbG).1 hgT
                  go_simp
                  refine hmem.mono ?_
                  rintro r Z5 ⟨v5, rfl, har5, hb5, hkb⟩
                  have bEH := hkb _ _ _ bEG (by decide)
                  have x1 := bEH.cell 1
                  have x2 := bEH.cell 2
                  have x3 := bEH.cell 3
                  have x4 := bEH.cell 4
                  simp at x1 x2 x3 x4
                  clear hmem hkb bEG bEH
                  go_simp
                  have hb6 := hbG.trans hb5
                  rw [← HMM.out, ← HST.out] at har5
                  refine hK _ _ (⟨x1, x2, x3, x4⟩) ?_
                  clear hK K
                  (try simp only [Act.put, List.setIfInBounds_toArray, List.set_cons_zero, List.set_cons_succ])
                  iterate 1 ((first | refine plan_quiet (v := ?_) rfl rfl (fun w' hw' => ?_) ?_ | refine plan_calm (v := ?_) (tt_of) rfl (fun w' hw' => ?_) ?_); rotate_left; (focus (go_simp <;> (first | with_reducible rfl | (rw [if_neg (by simp [undef])]; try rfl) | omega))); simp only [Act.put, List.setIfInBounds_toArray, List.set_cons_zero, List.set_cons_succ])
                  refine plan_end ?_
                  clear hz hz0 hz1 hz2 hz3 hz4 KS hbG harG hdvG hb5 hbF harF hdvF bEF d0 d1 d2 d3 d4 d5 x1 x2 x3 x4 DC1 DC2 DC3 DC4
                  obtain ⟨A5, c5, rfl⟩ := har5.form
                  go_wp2_with fail
                  go_roundg (l.length - (k + 1))
                  case measure => omega
                  case rel => exact ⟨k + 1, by omega, rfl, by first | (rw [HPL2.out]; done) | (rw [HPL2.out, Int.natCast_add]; done) | (rw [HPL2.out]; simp; done), by first | (simp; done) | (simp; omega), hb6, har5, Lib.hid (by have := congrArg List.length HST.out; rw [List.length_append] at this; have := HML.out; have := HAB.out; omega)⟩
              · have hlt' : decide ((k : Int) < (l.length : Int)) = false := decide_eq_false (by omega)
                have hke : k = l.length := by omega
                subst hke
                obtain ⟨Av, cv, rfl⟩ := har.form
                go_wp2_with fail
                go_ret2
                refine ⟨_, by rw [HR.out, HC.out]; rfl, hbw, ?_⟩
                rw [HR.out, HC.out, if_pos rfl]
                exact har.sl
          · have hqz : decide ((0 : Int) < (tb.length : Int)) = true := decide_eq_true (by omega)
            have hqzb : decide (0 < tb.length) = true := decide_eq_true (by omega)
            have HTZ := Lib.hid hz
            clear hz
            have e1 : (wr.alloc (.cells #[.int .u8 33, .int .u8 60, .int .u8 97, .int .u8 114, .int .u8 99, .int .u8 104, .int .u8 62, .int .u8 10] 5)).heap.size = wr.heap.size + 1 := by simp
            have hcv : (convert 26 26 (.slice (some ⟨wr.heap.size, 0, none⟩) 8 8)).run Tryd.prog (wr.alloc (.cells #[.int .u8 33, .int .u8 60, .int .u8 97, .int .u8 114, .int .u8 99, .int .u8 104, .int .u8 62, .int .u8 10] 5)) = .ok (.slice (some ⟨wr.heap.size, 0, none⟩) 8 8) (wr.alloc (.cells #[.int .u8 33, .int .u8 60, .int .u8 97, .int .u8 114, .int .u8 99, .int .u8 104, .int .u8 62, .int .u8 10] 5 (8, 9))) := Lib.run_convert_bytes_const wr _ _ #[.int .u8 33, .int .u8 60, .int .u8 97, .int .u8 114, .int .u8 99, .int .u8 104, .int .u8 62, .int .u8 10] 8 8 Tryd.underlying26 Tryd.underlying5
            go_upto_region 22 with fail
            have hqM : Below wr.heap.size wr (wr.alloc (.cells #[.int .u8 33, .int .u8 60, .int .u8 97, .int .u8 114, .int .u8 99, .int .u8 104, .int .u8 62, .int .u8 10] 5 (8, 9))) := (Below.refl _ _).alloc (Nat.le_refl _) _
            have har0 : ArS w.heap.size (wr.alloc (.cells #[.int .u8 33, .int .u8 60, .int .u8 97, .int .u8 114, .int .u8 99, .int .u8 104, .int .u8 62, .int .u8 10] 5 (8, 9))) (.slice (some ⟨wr.heap.size, 0, none⟩) 8 8) markA := .inr ⟨wr.heap.size, rfl, hbw.size, by decide, heap_alloc_new wr _⟩
            have hbx := hbw.trans (hqM.mono hbw.size)
            have hrow2 := own_below hrow hqM
            have hltM : ∀ j, (Value.slice A9 tb.length c9).ownBlock = some j → j < wr.heap.size := fun j hj => (hrow.lt j hj).2
            clear hcv e1 hqM hbw hrow
            generalize wr.alloc (.cells #[.int .u8 33, .int .u8 60, .int .u8 97, .int .u8 114, .int .u8 99, .int .u8 104, .int .u8 62, .int .u8 10] 5 (8, 9)) = WM at har0 hbx hrow2 ⊢
            generalize wr.heap.size = gM at har0 hltM ⊢
            have hmk : markA.length = 8 := rfl
            have hdt : Sl 1 Rbyte (fun k => (Value.slice (some ⟨gM, 0, none⟩) 8 8).ownBlock = some k) WM (.slice A9 tb.length c9) tb := own_slbX hrow2 fun j hj h => by
              simp only [Value.ownBlock, Option.some.injEq] at h
              have := hltM j hj
              omega
            have hm0 := amember_any WM w.heap.size _ markA har0 hbx.size (by decide) [47, 47] [] [] [] [] (by decide) (by decide) (by decide) (by decide) (by decide) (by decide) _ tb hdt (by omega) (HT.out WM hbx).1 hgT
            have hm0' : Calls Tryd.prog 37 #[.slice (some ⟨gM, 0, none⟩) 8 8, .string ⟨#[47, 47]⟩, .string ⟨#[]⟩, .string ⟨#[]⟩, .string ⟨#[]⟩, .string ⟨#[]⟩, .slice A9 tb.length c9] WM fun r w' => ∃ v', r = .returned v' ∧ ArS w.heap.size w' v' (markA ++ memI [47, 47] [] [] [] [] tb) ∧ Below w.heap.size WM w' := hm0.mono fun r w2 ⟨v2, a1, a2, a3, _⟩ => ⟨v2, a1, a2, a3⟩
            clear hm0
            go_upto_region 24 with (go_at_call 37; refine hm0'.mono ?_; rintro r WN ⟨vN, rfl, harN, hbN⟩)
            have hbx2 := hbx.trans hbN
            have har1 : ArS w.heap.size WN vN (accU 1 l 0) := by
              have : accU 1 l 0 = markA ++ memI [47, 47] [] [] [] [] tb := by rw [accU_zero, HTK.out, headW, if_neg (fun h => HTZ.out (by rw [h]; rfl))]
              rw [this]; exact harN
            clear hm0' harN hbN hbx hrow2 hdt har0 hmk hltM
            obtain ⟨AN, cN, rfl⟩ := har1.form
            have HA0 : Hid ((accU 1 l 0).length ≤ 300000) := Lib.hid (by
              have := headW_le (tabU 1 l l.length) (by have := tabU_le 1 l (fun x hx => (chkI_facts (HALL.out x hx)).2.1) l.length (Nat.le_refl _); omega)
              rw [accU_zero, List.length_append]
              have : markA.length = 8 := rfl
              omega)
            go_wp2_with fail
            go_loopg [12, 13, 82] l.length (fun G s12 s13 s82 wr => ∃ k : Nat, k ≤ l.length ∧ G = l.length - k ∧ s13 = .int .i64 ((tabU 1 l k).length : Int) ∧ s82 = .int .i64 k ∧ Below w.heap.size w wr ∧ ArS w.heap.size wr s12 (accU 1 l k) ∧ Hid ((accU 1 l k).length ≤ 300000 + k * 200000))
            case atStart => exact ⟨0, Nat.zero_le _, rfl, rfl, rfl, hbx2, har1, Lib.hid (by have := HA0.out; omega)⟩
            case round =>
              clear hbx2 har1 HA0
              obtain ⟨k, hk, rfl, rfl, rfl, hbw, har, HAB⟩ := hrel
              by_cases hlt : k < l.length
              · have HST := Lib.hid (accU_step 1 l k hlt)
                have HST2 := Lib.hid (tabU_step 1 l k hlt)
                have HF := Lib.hid (HALL.out _ (List.getElem_mem hlt))
                have HL : Fit1 1 l[k] := HL16 _ (List.getElem_mem hlt)
                have hslr := hsl0.keep good_it (Kept.low hbw)
                obtain ⟨b, off, rfl, _, hc⟩ := hslr.it (by omega)
                obtain ⟨dv, hat, hdv⟩ := hc k hlt
                obtain ⟨Ad, capd, rfl, _, _⟩ := hdv.form
                have HEB := HS.out _ (List.getElem_mem hlt)
                obtain ⟨e, He⟩ : ∃ e, Hid (l[k] = e) := ⟨_, Lib.hid rfl⟩
                rw [He.out] at hat hdv HEB HST
                obtain ⟨ln, ld⟩ := HEB
                obtain ⟨c0, c1, c2, c3, c4, c5⟩ := hat
                have i1 : (0 : Int) ≤ (k : Int) := by omega
                have i2 : (k : Int) < (l.length : Int) := by omega
                have hlt' : decide ((k : Int) < (l.length : Int)) = true := decide_eq_true i2
                clear hc
                rw [He.out] at HF HL HST2
                obtain ⟨Av, cv, rfl⟩ := har.form
                have hns := bs_size e.name
                go_upto_region 28 with fail
                have bE := Blk.new wr 46 #[.string (bs e.name), .int .i64 e.mtime, .int .i64 e.uid, .int .i64 e.gid, .int .i64 e.mode, .slice Ad e.data.length capd]
                have hq : Below wr.heap.size wr (wr.alloc (.cells #[.string (bs e.name), .int .i64 e.mtime, .int .i64 e.uid, .int .i64 e.gid, .int .i64 e.mode, .slice Ad e.data.length capd] 46)) := (Below.refl _ _).alloc (Nat.le_refl _) _
                have hbw2 := hbw.trans (hq.mono hbw.size)
                have har2 := har.below hq
                have hdv2 : Sl 1 Rbyte (fun j => (Value.slice Av (accU 1 l k).length cv).ownBlock = some j) (wr.alloc (.cells #[.string (bs e.name), .int .i64 e.mtime, .int .i64 e.uid, .int .i64 e.gid, .int .i64 e.mode, .slice Ad e.data.length capd] 46)) (.slice Ad e.data.length capd) e.data := (Below.sl good_byte hq hdv).mono good_byte (Nat.le_refl _) fun j _ h => (har.lt j h).1
                clear har hdv hslr hq c0 c1 c2 c3 c4 c5 hbw
                generalize wr.alloc (.cells #[.string (bs e.name), .int .i64 e.mtime, .int .i64 e.uid, .int .i64 e.gid, .int .i64 e.mode, .slice Ad e.data.length capd] 46) = W1 at bE hbw2 har2 hdv2 ⊢
                generalize wr.heap.size = g at bE ⊢
                have d0 := bE.cell 0
                have d1 := bE.cell 1
                have d2 := bE.cell 2
                have d3 := bE.cell 3
                have d4 := bE.cell 4
                have d5 := bE.cell 5
                simp at d0 d1 d2 d3 d4 d5
                have HFF := Lib.hid (chkI_facts HF.out)
                have HFT := Lib.hid (fields_fit HF.out)
                have HMW : Hid (memW 1 (tabU 1 l k).length e = memI (nameW 1 (tabU 1 l k).length e.name) (Lib.decDigits e.mtime.toNat) (Lib.decDigits e.uid.toNat) (Lib.decDigits e.gid.toNat) (octD e.mode.toNat) (dataW 1 e.name e.data)) := Lib.hid rfl
                have HPL : Hid ((tabU 1 l k).length < 1000000) := Lib.hid (by have := tabU_le 1 l (fun x hx => (chkI_facts (HALL.out x hx)).2.1) k hk; omega)
                have HNL := Lib.hid (nameW_len 1 (tabU 1 l k).length e.name HFF.out.2.1 HPL.out HL (by omega))
                have HML := Lib.hid (memW_le (st := 1) (place := (tabU 1 l k).length) HF.out HPL.out HL (by omega) (by omega))
                have HDL : Hid ((dataW 1 e.name e.data).length ≤ 100000000) := Lib.hid (by have := dataW_le 1 e.name e.data; omega)
                obtain ⟨name, mtime, uid, gid, mode, data⟩ := e
                simp only at d0 d1 d2 d3 d4 d5 hdv2 bE hns ln ld HFF HFT HMW HNL HDL HST2 ⊢
                obtain ⟨n1, n2, m1, m2, u1, u2, g1, g2, o1, o2⟩ := HFF.out
                obtain ⟨mt, rfl⟩ := Int.eq_ofNat_of_zero_le m1
                obtain ⟨ui, rfl⟩ := Int.eq_ofNat_of_zero_le u1
                obtain ⟨gi, rfl⟩ := Int.eq_ofNat_of_zero_le g1
                obtain ⟨mo, rfl⟩ := Int.eq_ofNat_of_zero_le o1
                simp only [Int.toNat_natCast] at HFT HMW
                have DC1 := Lib.hid (fun W (hb : Below w.heap.size w W) => dec_any mt W (by omega) (HT.out W hb).1)
                have DC2 := Lib.hid (fun W (hb : Below w.heap.size w W) => dec_any ui W (by omega) (HT.out W hb).1)
                have DC3 := Lib.hid (fun W (hb : Below w.heap.size w W) => dec_any gi W (by omega) (HT.out W hb).1)
                have DC4 := Lib.hid (fun W (hb : Below w.heap.size w W) => format8_any mo W (by omega) (HT.out W hb).2)
                obtain ⟨D1, HD1⟩ : ∃ x, Hid (Lib.decDigits mt = x) := ⟨_, Lib.hid rfl⟩
                obtain ⟨D2, HD2⟩ : ∃ x, Hid (Lib.decDigits ui = x) := ⟨_, Lib.hid rfl⟩
                obtain ⟨D3, HD3⟩ : ∃ x, Hid (Lib.decDigits gi = x) := ⟨_, Lib.hid rfl⟩
                obtain ⟨D4, HD4⟩ : ∃ x, Hid (octD mo = x) := ⟨_, Lib.hid rfl⟩
                rw [HD1.out, HD2.out, HD3.out, HD4.out] at HFT HMW
                rw [HD1.out] at DC1
                rw [HD2.out] at DC2
                rw [HD3.out] at DC3
                rw [HD4.out] at DC4
                clear HFF m1 u1 g1 o1
                refine wp_region_plan (fun W => W.cell? ⟨g, 0, none⟩ = some (.string (bs name)) ∧ W.cell? ⟨g, 5, none⟩ = some (.slice Ad data.length capd)) [(false, 0), (false, 1), (false, 2), (false, 3), (false, 4), (false, 5)] (by kernel_rfl) (by kernel_rfl) (⟨d0, d5⟩) ?_
                simp only [planOps, List.map, List.getD_cons_zero, List.getD_cons_succ]
                iterate 6 ((first | refine plan_quiet (v := ?_) rfl rfl (fun w' hw' => ?_) ?_ | refine plan_calm (v := ?_) (tt_of) rfl (fun w' hw' => ?_) ?_); rotate_left; (focus (go_simp <;> (first | with_reducible rfl | (rw [if_neg (by simp [undef])]; try rfl) | omega))); simp only [Act.put, List.setIfInBounds_toArray, List.set_cons_zero, List.set_cons_succ])
                refine plan_end ?_
                have bE2 := bE.below (B := W1.heap.size) ((Below.refl _ W1).drew) bE.lt
                have hbw3 := hbw2.drew
                have har3 := har2.below ((Below.refl W1.heap.size W1).drew)
                have hdv3 := Below.sl good_byte ((Below.refl W1.heap.size W1).drew) hdv2
                clear bE hbw2 har2 hdv2 d0 d1 d2 d3 d4 d5
                generalize W1.drew = W2 at bE2 hbw3 har3 hdv3 ⊢
                have d0 := bE2.cell 0
                have d1 := bE2.cell 1
                have d2 := bE2.cell 2
                have d3 := bE2.cell 3
                have d4 := bE2.cell 4
                have d5 := bE2.cell 5
                simp at d0 d1 d2 d3 d4 d5

                have hit := intab_any name
                obtain ⟨pl, HP⟩ : ∃ x, Hid ((tabU 1 l k).length = x) := ⟨_, Lib.hid rfl⟩
                rw [HP.out] at HMW HPL HNL HML HST ⊢
                have HPS := Lib.hid (congrArg List.length HST2.out)
                have hpl := HPL.out
                cases hqb : inTab name with
                | true =>
                  rw [hqb] at hit
                  have HQB := Lib.hid hqb
                  clear hqb
                  have hdp := dec_any pl W2 (by omega) (HT.out W2 hbw3).1
                  obtain ⟨D0, HD0⟩ : ∃ x, Hid (Lib.decDigits pl = x) := ⟨_, Lib.hid rfl⟩
                  rw [HD0.out] at hdp
                  have hD0l : D0.length ≤ 6 := by rw [← HD0.out]; exact nd_len pl 6 (by omega) (by omega)
                  have hD0s := bs_size D0
                  have HMM : Hid (memW 1 pl ⟨name, (mt : Int), (ui : Int), (gi : Int), (mo : Int), data⟩ = memI ([47] ++ D0) D1 D2 D3 D4 data) := Lib.hid (by rw [HMW.out]; simp only [nameW, dataW, if_pos, HQB.out, HD0.out]; rfl)
                  have HNM : Hid (([47] ++ D0).length ≤ 16) := Lib.hid (by have := HNL.out; simp only [nameW, if_pos, HQB.out, HD0.out] at this; exact this)
                  have HDM : Hid (data.length ≤ 100000000) := HDL
                  have r1 : (⟨#[47]⟩ : ByteArray) ++ bs D0 = bs ([47] ++ D0) := bs_app [47] D0
                  have HPL2 : Hid ((tabU 1 l (k + 1)).length = pl + (name.length + 2)) := Lib.hid (by rw [HPS.out, List.length_append, HP.out]; simp [HQB.out])
                  have wa : IntKind.i64.wrap ((name.length : Int) + 2) = ((name.length + 2 : Nat) : Int) := by rw [i64_in _ (by omega) (by omega)]; omega
                  have wb : IntKind.i64.wrap ((pl : Int) + ((name.length + 2 : Nat) : Int)) = ((pl + (name.length + 2) : Nat) : Int) := by rw [i64_in _ (by omega) (by omega)]; omega
                  have hdp2 : Calls Tryd.prog 38 #[.int .i64 (pl : Int)] W2 fun e w' => e = .returned (.string (bs D0)) ∧ Below W2.heap.size W2 w' := hdp
                  clear hdp
                  obtain ⟨n2, HN2⟩ : ∃ x, Hid (name.length + 2 = x) := ⟨_, Lib.hid rfl⟩
                  rw [HN2.out] at wa wb HPL2
                  go_upto_region 37 with (first
                    | (go_at_call 36; refine (hit _).mono ?_; rintro r W3 ⟨rfl, rfl⟩)
                    | (go_at_call 38; refine hdp2.mono ?_; clear hdp2; rintro r W3 ⟨rfl, hb3⟩; have x0 := (bE2.below hb3 bE2.lt).cell 0; simp at x0))
                  clear x0
                  have bE3 := bE2.below hb3 bE2.lt
                  have hbF := hbw3.trans (hb3.mono hbw3.size)
                  have harF := har3.below hb3
                  have hdvF := Below.sl good_byte hb3 hdv3
                  clear hbw3 har3 hdv3 bE2 hb3 hit d0 d1 d2 d3 d4 d5
                  have d0 := bE3.cell 0
                  have d1 := bE3.cell 1
                  have d2 := bE3.cell 2
                  have d3 := bE3.cell 3
                  have d4 := bE3.cell 4
                  have d5 := bE3.cell 5
                  simp at d0 d1 d2 d3 d4 d5
                  have bEF := bE3
                  clear bE3
                  have KS : ∀ W', Below W3.heap.size W3 W' → (fun W => W.cell? ⟨g, 1, none⟩ = some (.int .i64 (mt : Int)) ∧ W.cell? ⟨g, 2, none⟩ = some (.int .i64 (ui : Int)) ∧ W.cell? ⟨g, 3, none⟩ = some (.int .i64 (gi : Int)) ∧ W.cell? ⟨g, 4, none⟩ = some (.int .i64 (mo : Int))) W' := fun W' hb => by
                    have q := Kept.of_below hb nowhere
                    exact ⟨q.cell d1 fun h => h, q.cell d2 fun h => h, q.cell d3 fun h => h, q.cell d4 fun h => h⟩
                  refine wp_region_plan (fun W => W.cell? ⟨g, 1, none⟩ = some (.int .i64 (mt : Int)) ∧ W.cell? ⟨g, 2, none⟩ = some (.int .i64 (ui : Int)) ∧ W.cell? ⟨g, 3, none⟩ = some (.int .i64 (gi : Int)) ∧ W.cell? ⟨g, 4, none⟩ = some (.int .i64 (mo : Int))) [(false, 0), (false, 1), (false, 2), (false, 3), (false, 5), (false, 6), (false, 8), (false, 9), (false, 11), (false, 12), (false, 14), (true, 4), (true, 7), (true, 10), (true, 13), (true, 15), (false, 16)] (by kernel_rfl) (by kernel_rfl) (KS _ ((Below.refl _ W3).drew)) ?_
                  simp only [planOps, List.map, List.getD_cons_zero, List.getD_cons_succ]
                  iterate 11 ((first | refine plan_quiet (v := ?_) rfl rfl (fun w' hw' => ?_) ?_ | refine plan_calm (v := ?_) (tt_of) rfl (fun w' hw' => ?_) ?_); rotate_left; (focus (go_simp <;> (first | with_reducible rfl | (rw [if_neg (by simp [undef])]; try rfl) | omega))); simp only [Act.put, List.setIfInBounds_toArray, List.set_cons_zero, List.set_cons_succ])
                  refine plan_loud rfl (fun K hK => ?_)
                  go_simp
                  have hz0 := (Below.refl W3.heap.size W3).drew
                  refine (DC1.out _ (hbF.trans (hz0.mono hbF.size))).mono ?_
                  rintro r Z1 ⟨rfl, hz⟩
                  go_simp
                  have hz1 := hz0.trans (hz.mono hz0.size)
                  refine hK _ _ (KS _ hz1) ?_
                  clear hK K
                  (try simp only [Act.put, List.setIfInBounds_toArray, List.set_cons_zero, List.set_cons_succ])
                  refine plan_loud rfl (fun K hK => ?_)
                  go_simp
                  refine (DC2.out _ (hbF.trans (hz1.mono hbF.size))).mono ?_
                  rintro r Z2 ⟨rfl, hz⟩
                  go_simp
                  have hz2 := hz1.trans (hz.mono hz1.size)
                  refine hK _ _ (KS _ hz2) ?_
                  clear hK K
                  (try simp only [Act.put, List.setIfInBounds_toArray, List.set_cons_zero, List.set_cons_succ])
                  refine plan_loud rfl (fun K hK => ?_)
                  go_simp
                  refine (DC3.out _ (hbF.trans (hz2.mono hbF.size))).mono ?_
                  rintro r Z3 ⟨rfl, hz⟩
                  go_simp
                  have hz3 := hz2.trans (hz.mono hz2.size)
                  refine hK _ _ (KS _ hz3) ?_
                  clear hK K
                  (try simp only [Act.put, List.setIfInBounds_toArray, List.set_cons_zero, List.set_cons_succ])
                  refine plan_loud rfl (fun K hK => ?_)
                  go_simp
                  refine (DC4.out _ (hbF.trans (hz3.mono hbF.size))).mono ?_
                  rintro r Z4 ⟨rfl, hz⟩
                  go_simp
                  have hz4 := hz3.trans (hz.mono hz3.size)
                  refine hK _ _ (KS _ hz4) ?_
                  clear hK K
                  (try simp only [Act.put, List.setIfInBounds_toArray, List.set_cons_zero, List.set_cons_succ])
                  refine plan_loud rfl (fun K hK => ?_)
                  have hbG := hbF.trans (hz4.mono hbF.size)
                  have harG := harF.below hz4
                  have bEG := bEF.below hz4 bEF.lt
                  have hdvG := Below.sl good_byte hz4 hdvF
                  have hmem := amember_any Z4 w.heap.size _ _ harG hbG.size (by have := HAB.out; omega) ([47] ++ D0) D1 D2 D3 D4 (by first | omega | (simp; done) | (simp; omega)) HNM.out HFT.out.1 HFT.out.2.1 HFT.out.2.2.1 HFT.out.2.2.2 _ data hdvG HDM.out (HT.out Z4 hbG).1 hgT
                  go_simp
                  refine hmem.mono ?_
                  rintro r Z5 ⟨v5, rfl, har5, hb5, hkb⟩
                  have bEH := hkb _ _ _ bEG (by decide)
                  have x1 := bEH.cell 1
                  have x2 := bEH.cell 2
                  have x3 := bEH.cell 3
                  have x4 := bEH.cell 4
                  simp at x1 x2 x3 x4
                  clear hmem hkb bEG bEH
                  go_simp
                  have hb6 := hbG.trans hb5
                  rw [← HMM.out, ← HST.out] at har5
                  refine hK _ _ (⟨x1, x2, x3, x4⟩) ?_
                  clear hK K
                  (try simp only [Act.put, List.setIfInBounds_toArray, List.set_cons_zero, List.set_cons_succ])
                  iterate 1 ((first | refine plan_quiet (v := ?_) rfl rfl (fun w' hw' => ?_) ?_ | refine plan_calm (v := ?_) (tt_of) rfl (fun w' hw' => ?_) ?_); rotate_left; (focus (go_simp <;> (first | with_reducible rfl | (rw [if_neg (by simp [undef])]; try rfl) | omega))); simp only [Act.put, List.setIfInBounds_toArray, List.set_cons_zero, List.set_cons_succ])
                  refine plan_end ?_
                  clear hz hz0 hz1 hz2 hz3 hz4 KS hbG harG hdvG hb5 hbF harF hdvF bEF d0 d1 d2 d3 d4 d5 x1 x2 x3 x4 DC1 DC2 DC3 DC4
                  obtain ⟨A5, c5, rfl⟩ := har5.form
                  go_wp2_with fail
                  go_roundg (l.length - (k + 1))
                  case measure => omega
                  case rel => exact ⟨k + 1, by omega, rfl, by first | (rw [HPL2.out]; done) | (rw [HPL2.out, Int.natCast_add]; done) | (rw [HPL2.out]; simp; done), by first | (simp; done) | (simp; omega), hb6, har5, Lib.hid (by have := congrArg List.length HST.out; rw [List.length_append] at this; have := HML.out; have := HAB.out; omega)⟩
                | false =>
                  rw [hqb] at hit
                  have HQB := Lib.hid hqb
                  clear hqb
                  have HMM : Hid (memW 1 pl ⟨name, (mt : Int), (ui : Int), (gi : Int), (mo : Int), data⟩ = memI (name ++ [47]) D1 D2 D3 D4 data) := Lib.hid (by rw [HMW.out]; simp only [nameW, dataW, if_pos, HQB.out]; rfl)
                  have HNM : Hid ((name ++ [47]).length ≤ 16) := Lib.hid (by have := HNL.out; simp only [nameW, if_pos, HQB.out] at this; exact this)
                  have HDM : Hid (data.length ≤ 100000000) := HDL
                  have r1 : bs name ++ (⟨#[47]⟩ : ByteArray) = bs (name ++ [47]) := bs_app name [47]
                  have HPL2 : Hid ((tabU 1 l (k + 1)).length = pl) := Lib.hid (by rw [HPS.out, List.length_append, HP.out]; simp [HQB.out])
                  have hbF := hbw3
                  have harF := har3
                  have hdvF := hdv3
                  have bEF := bE2
                  clear hbw3 har3 hdv3 bE2
                  go_upto_region 37 with (go_at_call 36; refine (hit _).mono ?_; rintro r W3 ⟨rfl, rfl⟩)
                  clear hit
                  have KS : ∀ W', Below W2.heap.size W2 W' → (fun W => W.cell? ⟨g, 1, none⟩ = some (.int .i64 (mt : Int)) ∧ W.cell? ⟨g, 2, none⟩ = some (.int .i64 (ui : Int)) ∧ W.cell? ⟨g, 3, none⟩ = some (.int .i64 (gi : Int)) ∧ W.cell? ⟨g, 4, none⟩ = some (.int .i64 (mo : Int))) W' := fun W' hb => by
                    have q := Kept.of_below hb nowhere
                    exact ⟨q.cell d1 fun h => h, q.cell d2 fun h => h, q.cell d3 fun h => h, q.cell d4 fun h => h⟩
                  refine wp_region_plan (fun W => W.cell? ⟨g, 1, none⟩ = some (.int .i64 (mt : Int)) ∧ W.cell? ⟨g, 2, none⟩ = some (.int .i64 (ui : Int)) ∧ W.cell? ⟨g, 3, none⟩ = some (.int .i64 (gi : Int)) ∧ W.cell? ⟨g, 4, none⟩ = some (.int .i64 (mo : Int))) [(false, 0), (false, 1), (false, 2), (false, 3), (false, 5), (false, 6), (false, 8), (false, 9), (false, 11), (false, 12), (false, 14), (true, 4), (true, 7), (true, 10), (true, 13), (true, 15), (false, 16)] (by kernel_rfl) (by kernel_rfl) (KS _ ((Below.refl _ W2).drew)) ?_
                  simp only [planOps, List.map, List.getD_cons_zero, List.getD_cons_succ]
                  iterate 11 ((first | refine plan_quiet (v := ?_) rfl rfl (fun w' hw' => ?_) ?_ | refine plan_calm (v := ?_) (tt_of) rfl (fun w' hw' => ?_) ?_); rotate_left; (focus (go_simp <;> (first | with_reducible rfl | (rw [if_neg (by simp [undef])]; try rfl) | omega))); simp only [Act.put, List.setIfInBounds_toArray, List.set_cons_zero, List.set_cons_succ])
                  refine plan_loud rfl (fun K hK => ?_)
                  go_simp
                  have hz0 := (Below.refl W2.heap.size W2).drew
                  refine (DC1.out _ (hbF.trans (hz0.mono hbF.size))).mono ?_
                  rintro r Z1 ⟨rfl, hz⟩
                  go_simp
                  have hz1 := hz0.trans (hz.mono hz0.size)
                  refine hK _ _ (KS _ hz1) ?_
                  clear hK K
                  (try simp only [Act.put, List.setIfInBounds_toArray, List.set_cons_zero, List.set_cons_succ])
                  refine plan_loud rfl (fun K hK => ?_)
                  go_simp
                  refine (DC2.out _ (hbF.trans (hz1.mono hbF.size))).mono ?_
                  rintro r Z2 ⟨rfl, hz⟩
                  go_simp
                  have hz2 := hz1.trans (hz.mono hz1.size)
                  refine hK _ _ (KS _ hz2) ?_
                  clear hK K
                  (try simp only [Act.put, List.setIfInBounds_toArray, List.set_cons_zero, List.set_cons_succ])
                  refine plan_loud rfl (fun K hK => ?_)
                  go_simp
                  refine (DC3.out _ (hbF.trans (hz2.mono hbF.size))).mono ?_
                  rintro r Z3 ⟨rfl, hz⟩
                  go_simp
                  have hz3 := hz2.trans (hz.mono hz2.size)
                  refine hK _ _ (KS _ hz3) ?_
                  clear hK K
                  (try simp only [Act.put, List.setIfInBounds_toArray, List.set_cons_zero, List.set_cons_succ])
                  refine plan_loud rfl (fun K hK => ?_)
                  go_simp
                  refine (DC4.out _ (hbF.trans (hz3.mono hbF.size))).mono ?_
                  rintro r Z4 ⟨rfl, hz⟩
                  go_simp
                  have hz4 := hz3.trans (hz.mono hz3.size)
                  refine hK _ _ (KS _ hz4) ?_
                  clear hK K
                  (try simp only [Act.put, List.setIfInBounds_toArray, List.set_cons_zero, List.set_cons_succ])
                  refine plan_loud rfl (fun K hK => ?_)
                  have hbG := hbF.trans (hz4.mono hbF.size)
                  have harG := harF.below hz4
                  have bEG := bEF.below hz4 bEF.lt
                  have hdvG := Below.sl good_byte hz4 hdvF
                  have hmem := amember_any Z4 w.heap.size _ _ harG hbG.size (by have := HAB.out; omega) (name ++ [47]) D1 D2 D3 D4 (by first | omega | (simp; done) | (simp; omega)) HNM.out HFT.out.1 HFT.out.2.1 HFT.out.2.2.1 HFT.out.2.2.2 _ data hdvG HDM.out (HT.out Z4 hbG).1 hgT
                  go_simp
                  refine hmem.mono ?_
                  rintro r Z5 ⟨v5, rfl, har5, hb5, hkb⟩
                  have bEH := hkb _ _ _ bEG (by decide)
                  have x1 := bEH.cell 1
                  have x2 := bEH.cell 2
                  have x3 := bEH.cell 3
                  have x4 := bEH.cell 4
                  simp at x1 x2 x3 x4
                  clear hmem hkb bEG bEH
                  go_simp
                  have hb6 := hbG.trans hb5
                  rw [← HMM.out, ← HST.out] at har5
                  refine hK _ _ (⟨x1, x2, x3, x4⟩) ?_
                  clear hK K
                  (try simp only [Act.put, List.setIfInBounds_toArray, List.set_cons_zero, List.set_cons_succ])
                  iterate 1 ((first | refine plan_quiet (v := ?_) rfl rfl (fun w' hw' => ?_) ?_ | refine plan_calm (v := ?_) (tt_of) rfl (fun w' hw' => ?_) ?_); rotate_left; (focus (go_simp <;> (first | with_reducible rfl | (rw [if_neg (by simp [undef])]; try rfl) | omega))); simp only [Act.put, List.setIfInBounds_toArray, List.set_cons_zero, List.set_cons_succ])
                  refine plan_end ?_
                  clear hz hz0 hz1 hz2 hz3 hz4 KS hbG harG hdvG hb5 hbF harF hdvF bEF d0 d1 d2 d3 d4 d5 x1 x2 x3 x4 DC1 DC2 DC3 DC4
                  obtain ⟨A5, c5, rfl⟩ := har5.form
                  go_wp2_with fail
                  go_roundg (l.length - (k + 1))
                  case measure => omega
                  case rel => exact ⟨k + 1, by omega, rfl, by first | (rw [HPL2.out]; done) | (rw [HPL2.out, Int.natCast_add]; done) | (rw [HPL2.out]; simp; done), by first | (simp; done) | (simp; omega), hb6, har5, Lib.hid (by have := congrArg List.length HST.out; rw [List.length_append] at this; have := HML.out; have := HAB.out; omega)⟩
              · have hlt' : decide ((k : Int) < (l.length : Int)) = false := decide_eq_false (by omega)
                have hke : k = l.length := by omega
                subst hke
                obtain ⟨Av, cv, rfl⟩ := har.form
                go_wp2_with fail
                go_ret2
                refine ⟨_, by rw [HR.out, HC.out]; rfl, hbw, ?_⟩
                rw [HR.out, HC.out, if_pos rfl]
                exact har.sl
end Go.Proofs.YtolknddegfcmpaaDoor
