/- The walk of tar's records. Printed by gen_tbg.py. The walks of bytes.IndexByte and of tar's tell. The walks of the closures of tar's entry. -/
import Derived.Test.YtpheifdpjcppdaaGreatDoorTbEF
import Derived.Shelf.Bytes.SlIndexAt
namespace Go.Proofs.YtpheifdpjcppdaaGreatDoor
open Go.RowKit
def recBadB (s : List UInt8) : Bool := !inB (s.take 24) 32 || (!decide (udCode (cutA (s.take 24) 32) = 0) || (decide (s.length < decNum (cutA (s.take 24) 32)) || (decide (decNum (cutA (s.take 24) 32) < (cutA (s.take 24) 32).length + 1) || !decide (s.getD (decNum (cutA (s.take 24) 32) - 1) 0 = 10))))
theorem recBad_iff (s : List UInt8) : recBadB s = true ↔ recBad s := by
  simp [recBadB, recBad]
theorem slice_high {P : Program} {t e : TypeId} (ht : P.underlying t = some (.slice e)) (A : Option Addr) (n cap : Nat) (hnc : n ≤ cap) (lo : Option Value) (W : World) : (Instr.slice t (.slice A n cap) lo none none).run P W = (Instr.slice t (.slice A n cap) lo (some (.int .i64 (n : Int))) none).run P W := by
  have h : (n : Int) ≤ (cap : Int) := by omega
  simp [Instr.slice, Instr.sliceBounds, Instr.sliceBound, run_underlying ht, asIntOf, hnc]
/-- data[:n], data[n:] -/
theorem Sl.upto {P : Program} {X : Nat → Prop} {w : World} {A : Option Addr} {n cap : Nat} {l : List UInt8} (h : Sl 1 Rbyte X w (.slice A n cap) l) (t e : TypeId) (ht : P.underlying t = some (.slice e)) (he : (P.info? e).map (·.size) = some 1) (j : Nat) (hj : j ≤ n) :
    ∃ A' cap', (∀ W : World, (Instr.slice t (.slice A n cap) none (some (.int .i64 (j : Int))) none).run P W = .ok (.slice A' j cap') W) ∧ Sl 1 Rbyte X w (.slice A' j cap') (l.take j) := by
  obtain ⟨A', c', h1, h2⟩ := h.fld (P := P) t e ht he 0 j (by omega) hj
  exact ⟨A', c', fun W => by rw [slice_low]; exact h1 W, h2⟩
theorem Sl.rest {P : Program} {X : Nat → Prop} {w : World} {A : Option Addr} {n cap : Nat} {l : List UInt8} (h : Sl 1 Rbyte X w (.slice A n cap) l) (t e : TypeId) (ht : P.underlying t = some (.slice e)) (he : (P.info? e).map (·.size) = some 1) (k : Nat) (hk : k ≤ n) :
    ∃ A' cap', (∀ W : World, (Instr.slice t (.slice A n cap) (some (.int .i64 (k : Int))) none none).run P W = .ok (.slice A' (n - k) cap') W) ∧ Sl 1 Rbyte X w (.slice A' (n - k) cap') (l.drop k) := by
  obtain ⟨A', c', h1, h2⟩ := h.fld (P := P) t e ht he k n hk (Nat.le_refl _)
  have hn := h.at.1
  refine ⟨A', c', fun W => by rw [slice_high ht A n cap h.at.2.1]; exact h1 W, ?_⟩
  have e1 : fldB l k (n - k) = l.drop k := by rw [fldB, List.take_of_length_le (by rw [List.length_drop]; omega)]
  rw [e1] at h2
  exact h2
variable {w0 w w' : World} {gr mf : Nat} {bv lv pv : Value} {L : List En} {f : Nat → Value} {PL : List Nat} {t : Td} {fr : Nat}
set_option maxRecDepth 20000 in
set_option maxHeartbeats 32000000 in
theorem trecords_any (hrd : RT w0 gr mf bv lv pv L f PL t fr w) (d : List UInt8) (dv : Value) (hd : Sl 1 Rbyte (fun k => w0.heap.size ≤ k) w0 dv d) (hdl : d.length ≤ 100000000) :
    Calls Tryz.prog 74 #[.pointer (some ⟨gr, 0, none⟩), dv] w fun r w' => ∃ t', r = .returned (.int .i64 (recS (d.length + 1) t d).1) ∧ RT w0 gr mf bv lv pv L f PL t' fr w' ∧ Kept (fun k => k = mf) w w' ∧ ((recS (d.length + 1) t d).1 = 0 → t' = (recS (d.length + 1) t d).2) := by
  obtain ⟨R, HR⟩ : ∃ R, Hid (recS (d.length + 1) t d = R) := ⟨_, Lib.hid rfl⟩
  rw [HR.out]
  have hu8 : (Tryz.prog.info? 5).map (·.size) = some 1 := by kernel_rfl
  have hmfw : w0.heap.size ≤ mf := hrd.mfH
  have hmfl := hrd.mflt
  go_enter Tryz.func74, Tryz.ntmps74
  go_wp2_with fail
  go_loopg [1] d.length (fun G s1 wr => ∃ (fu : Nat) (s : List UInt8) (t1 : Td), G = s.length ∧ s.length < fu ∧ RT w0 gr mf bv lv pv L f PL t1 fr wr ∧ Kept (fun k => k = mf) w wr ∧ Sl 1 Rbyte (fun k => w0.heap.size ≤ k) w0 s1 s ∧ s.length ≤ d.length ∧ Hid (recS fu t1 s = R))
  case atStart => exact ⟨d.length + 1, d, t, rfl, by omega, hrd, Kept.refl _ _, hd, Nat.le_refl _, HR⟩
  case round =>
   clear hrd hd HR
   obtain ⟨fu, s, t1, rfl, hfu, rd, hkw, hs, hsd, HR⟩ := hrel
   obtain ⟨A, cap, rfl, hc1, hc2⟩ := hs.form
   unfold maxLen at hc2
   obtain ⟨f', rfl⟩ : ∃ f', fu = f' + 1 := ⟨fu - 1, by omega⟩
   by_cases hs0 : s = []
   · have t1b : decide ((0 : Int) < (s.length : Int)) = false := by rw [hs0]; rfl
     have t1c : ¬ 0 < s.length := by rw [hs0]; simp
     have HV : Hid (R = (0, t1)) := Lib.hid (by rw [← HR.out, recS, if_pos hs0])
     clear hs0 HR
     go_wp2_with fail
     go_ret
     exact ⟨t1, by rw [HV.out]; rfl, rd, hkw, fun _ => by rw [HV.out]⟩
   have hpos : 0 < s.length := List.length_pos_iff.2 hs0
   have t1b : decide ((0 : Int) < (s.length : Int)) = true := decide_eq_true (by omega)
   have HRS0 : Hid (recP s = none → R = (3, t1)) := Lib.hid fun h => by rw [← HR.out, recS, if_neg hs0, h]
   have HRS1 : Hid (∀ n k v, recP s = some (n, k, v) → R = if (keyT t1 k v).1 = 0 then recS f' (keyT t1 k v).2 (s.drop n) else ((keyT t1 k v).1, t1)) := Lib.hid fun n k v h => by rw [← HR.out, recS, if_neg hs0, h]
   clear HR hs0
   have hmin : min (s.length : Int) (IntKind.i64.wrap 24) = ((min s.length 24 : Nat) : Int) := by
     rw [i64_in 24 (by omega) (by omega)]; omega
   have hmin2 : min (s.length : Int) 24 = ((min s.length 24 : Nat) : Int) := by omega
   have htk : s.take (min s.length 24) = s.take 24 := by
     rcases Nat.le_total s.length 24 with h | h
     · rw [Nat.min_eq_left h, List.take_of_length_le (Nat.le_refl _), List.take_of_length_le h]
     · rw [Nat.min_eq_right h]
   obtain ⟨m, HM⟩ : ∃ m, Hid (min s.length 24 = m) := ⟨_, Lib.hid rfl⟩
   rw [HM.out] at hmin hmin2 htk
   have hml : m ≤ s.length := by rw [← HM.out]; omega
   clear HM
   have hsw := hs.keep good_byte (Kept.low' rd.bel)
   obtain ⟨A1, cap1, hsc1, hsl1⟩ := Sl.upto (P := Tryz.prog) hsw 25 5 Tryz.underlying25 hu8 m hml
   rw [htk] at hsl1
   have hst1 : (convert 25 9 (.slice A1 m cap1)).run Tryz.prog wr = .ok (.string (bs (s.take 24))) wr := str8 hsl1.sb8
   have htl : (s.take 24).length ≤ 24 := by rw [List.length_take]; omega
   have hcut := fun W => cut_any (bs (s.take 24)) 32 W (by rw [bs_size]; omega)
   rw [bs_list] at hcut
   have hdl2 : (cutA (s.take 24) 32).length ≤ 24 := by
     unfold cutA
     split
     · rw [List.length_take]; omega
     · omega
   have hud := fun W => undec_any (bs (cutA (s.take 24) 32)) W (by rw [bs_size]; omega)
   rw [bs_list] at hud
   have HBB : Hid (recBadB s = (!inB (s.take 24) 32 || (!decide (udCode (cutA (s.take 24) 32) = 0) || (decide (s.length < decNum (cutA (s.take 24) 32)) || (decide (decNum (cutA (s.take 24) 32) < (cutA (s.take 24) 32).length + 1) || !decide (s.getD (decNum (cutA (s.take 24) 32) - 1) 0 = 10)))))) := Lib.hid rfl
   have HBI := Lib.hid (recBad_iff s)
   have HRN := Lib.hid (fun h => rec_none (s := s) h)
   have HRG := Lib.hid (fun h => rec_gap (s := s) h)
   have HRQ := Lib.hid (fun h => rec_some (s := s) h)
   have HMD : Hid (recMid s = fldB s ((cutA (s.take 24) 32).length + 1) (decNum (cutA (s.take 24) 32) - 1 - ((cutA (s.take 24) 32).length + 1))) := Lib.hid rfl
   have HUN : Hid (udCode (cutA (s.take 24) 32) = 0 → udN (cutA (s.take 24) 32) = (decNum (cutA (s.take 24) 32) : Int)) := Lib.hid fun h => by rw [udN, if_pos h]
   generalize inB (s.take 24) 32 = ib at hcut HBB HRG
   generalize cutB (s.take 24) 32 = cb at hcut
   generalize cutA (s.take 24) 32 = dg at hcut hud HBB HRG HRQ HMD HUN hdl2
   generalize udCode dg = uc at hud HBB HRG HUN
   generalize udN dg = un at hud HUN
   generalize decNum dg = n at HBB HRG HRQ HMD HUN
   have zdg := bs_size dg
   clear hsl1 htl htk hml
   go_upto_region 4 with first
     | (go_at_call 68; refine (hcut _).mono ?_; clear hcut; rintro r W1 ⟨rfl, hb1⟩)
     | (go_at_call 101; refine (hud _).mono ?_; clear hud; rintro r W2 ⟨rfl, rfl⟩)
   have rd1 := rd.below hb1
   have hk1 : Kept (fun k => k = mf) w W1 := hkw.trans (Kept.of_below hb1 _)
   have hsw1 := hs.keep good_byte (Kept.low' rd1.bel)
   clear rd hkw hb1 hsw hst1 hsc1 hmin hmin2
   obtain ⟨b, off, hAA, hXb, hcl⟩ := hsw1.at.2.2.2 hpos
   subst hAA
   obtain ⟨BB, HBBB⟩ : ∃ B, Hid (recBadB s = B) := ⟨_, Lib.hid rfl⟩
   rw [HBBB.out] at HBB HBI
   go_cut [58] (fun s58 wx => s58 = .bool BB ∧ W1 = wx)
   case first =>
     clear HRN HRG HRQ HMD HRS0 HRS1
     cases ib with
     | false =>
       have HV : Hid (BB = true) := Lib.hid (by rw [HBB.out]; rfl)
       go_wp2_with fail
       go_meet
       exact ⟨by rw [HV.out], rfl⟩
     | true =>
       have HB1 := Lib.hid (show BB = (!decide (uc = 0) || (decide (s.length < n) || (decide (n < dg.length + 1) || !decide (s.getD (n - 1) 0 = 10)))) from HBB.out)
       by_cases hu : uc = 0
       rotate_left
       · have q1 : (uc != 0) = true := by simpa using hu
         have HV : Hid (BB = true) := Lib.hid (by rw [HB1.out, decide_eq_false hu]; rfl)
         clear HB1 HBB HUN hu
         go_wp2_with fail
         go_meet
         exact ⟨by rw [HV.out], rfl⟩
       have q1 : (uc != 0) = false := by simpa using hu
       have HUN2 := Lib.hid (HUN.out hu)
       have hun := HUN2.out
       have HB2 := Lib.hid (show BB = (decide (s.length < n) || (decide (n < dg.length + 1) || !decide (s.getD (n - 1) 0 = 10))) by rw [HB1.out, decide_eq_true hu]; rfl)
       subst hun
       clear HB1 HBB HUN HUN2 hu
       by_cases hn1 : s.length < n
       · have q2 : decide ((s.length : Int) < (n : Int)) = true := decide_eq_true (by omega)
         have q2b : (s.length : Int) < (n : Int) := by omega
         have HV : Hid (BB = true) := Lib.hid (by rw [HB2.out, decide_eq_true hn1]; rfl)
         clear HB2 hn1
         go_wp2_with fail
         go_meet
         exact ⟨by rw [HV.out], rfl⟩
       have q2 : decide ((s.length : Int) < (n : Int)) = false := decide_eq_false (by omega)
       have q2b : ¬ (s.length : Int) < (n : Int) := by omega
       have HB3 := Lib.hid (show BB = (decide (n < dg.length + 1) || !decide (s.getD (n - 1) 0 = 10)) by rw [HB2.out, decide_eq_false hn1]; rfl)
       have wd : IntKind.i64.wrap ((dg.length : Int) + 1) = (dg.length : Int) + 1 := i64_in _ (by omega) (by omega)
       clear HB2
       by_cases hn2 : n < dg.length + 1
       · have q3 : decide ((n : Int) < (dg.length : Int) + 1) = true := decide_eq_true (by omega)
         have q3b : (n : Int) < (dg.length : Int) + 1 := by omega
         have HV : Hid (BB = true) := Lib.hid (by rw [HB3.out, decide_eq_true hn2]; rfl)
         clear HB3 hn2
         go_wp2_with fail
         go_meet
         exact ⟨by rw [HV.out], rfl⟩
       have q3 : decide ((n : Int) < (dg.length : Int) + 1) = false := decide_eq_false (by omega)
       have q3b : ¬ (n : Int) < (dg.length : Int) + 1 := by omega
       have HB4 := Lib.hid (show BB = !decide (s.getD (n - 1) 0 = 10) by rw [HB3.out, decide_eq_false hn2]; rfl)
       obtain ⟨n1, rfl⟩ : ∃ n1, n = n1 + 1 := ⟨n - 1, by omega⟩
       have wn : IntKind.i64.wrap (((n1 + 1 : Nat) : Int) - 1) = (n1 : Int) := by rw [i64_in _ (by omega) (by omega)]; omega
       have q2' : decide ((s.length : Int) < (n1 : Int) + 1) = false := decide_eq_false (by omega)
       have q3' : ¬ n1 < dg.length := by omega
       have q3'' : decide (n1 < dg.length) = false := decide_eq_false q3'
       have i1 : (0 : Int) ≤ (n1 : Int) := by omega
       have i2 : (n1 : Int) < (s.length : Int) := by omega
       obtain ⟨cs, hcs, hR⟩ := hcl n1 (by omega)
       have hce : W1.cell? ⟨b, off + n1, none⟩ = some (.int .u8 (s[n1].toNat : Int)) := by
         have hR' : cs = [.int .u8 (s[n1].toNat : Int)] := hR
         have := hcs 0 (.int .u8 (s[n1].toNat : Int)) (by rw [hR']; rfl)
         rw [Nat.mul_one, Nat.add_zero] at this
         exact this
       have HG : Hid (s.getD (n1 + 1 - 1) 0 = s[n1]) := Lib.hid (by rw [Nat.add_sub_cancel, List.getD, List.getElem?_eq_getElem (by omega), Option.getD_some])
       rw [HG.out] at HB4
       clear hcs hR HG HB3 hcl
       generalize s[n1] = c at hce HB4
       by_cases hcc : c = 10
       · have q4 : ((c.toNat : Int) != 10) = false := by rw [hcc]; rfl
         have HV : Hid (BB = false) := Lib.hid (by rw [HB4.out, decide_eq_true hcc]; rfl)
         clear HB4 hcc
         go_wp2_with fail
         go_meet
         exact ⟨by rw [HV.out], rfl⟩
       · have q47 : ¬ c.toNat = 10 := fun e => hcc (by rw [← UInt8.ofNat_toNat (x := c), e]; rfl)
         have q4 : ((c.toNat : Int) != 10) = true := by simpa using (show ¬ (c.toNat : Int) = 10 by omega)
         have HV : Hid (BB = true) := Lib.hid (by rw [HB4.out, decide_eq_false hcc]; rfl)
         clear HB4 hcc
         go_wp2_with fail
         go_meet
         exact ⟨by rw [HV.out], rfl⟩
   case rest =>
   obtain ⟨rfl, rfl⟩ := hcut
   clear HBB hcl
   cases BB with
   | true =>
     have hnone := HRN.out (HBI.out.1 rfl)
     have HV : Hid (R = (3, t1)) := Lib.hid (HRS0.out hnone)
     clear HRS0 HRS1 HRN HRG HRQ HMD HUN HBI hnone
     go_wp2_with fail
     go_ret
     exact ⟨t1, by rw [HV.out]; rfl, rd1, hk1, fun h => by rw [HV.out] at h; exact absurd h (show ¬ (3 : Int) = 0 by decide)⟩
   | false =>
     have hnb : ¬ recBad s := fun h => by have := HBI.out.2 h; cases this
     obtain ⟨g1, g2, g3, g4, g5⟩ := HRG.out hnb
     have HQ := Lib.hid (HRQ.out hnb)
     have hun := HUN.out g2
     subst hun
     have hml : (recMid s).length ≤ s.length := by rw [HMD.out, fldB, List.length_take, List.length_drop]; omega
     clear HRN HRG HRQ HUN HBI hnb g1 g2 g5 HBBB
     obtain ⟨n1, HN1⟩ : ∃ n1, Hid (n = n1 + 1) := ⟨n - 1, Lib.hid (by omega)⟩
     obtain ⟨d1, HD1⟩ : ∃ d1, Hid (d1 = dg.length + 1) := ⟨_, Lib.hid rfl⟩
     have hn1 : n1 < s.length := by rw [HN1.out] at g3; omega
     have hd1 : d1 ≤ n1 := by rw [HD1.out]; have := HN1.out; omega
     have wd : IntKind.i64.wrap ((dg.length : Int) + 1) = (d1 : Int) := by rw [i64_in _ (by omega) (by omega), HD1.out]; omega
     have wn : IntKind.i64.wrap ((n : Int) - 1) = (n1 : Int) := by rw [i64_in _ (by omega) (by omega), HN1.out]; omega
     obtain ⟨A2, cap2, hsc2, hsl2⟩ := Sl.fld (P := Tryz.prog) hsw1 25 5 Tryz.underlying25 hu8 d1 n1 hd1 (by omega)
     rw [show fldB s d1 (n1 - d1) = recMid s by rw [HMD.out, HD1.out, HN1.out, Nat.add_sub_cancel]] at hsl2
     have hst2 : (convert 25 9 (.slice A2 (n1 - d1) cap2)).run Tryz.prog W1 = .ok (.string (bs (recMid s))) W1 := str8 hsl2.sb8
     have hcu := fun W => cut_any (bs (recMid s)) 61 W (by rw [bs_size]; omega)
     rw [bs_list] at hcu
     have hvl : (cutB (recMid s) 61).length ≤ s.length := by
       unfold cutB
       split
       · rw [List.length_drop]; omega
       · simp
     obtain ⟨A3, cap3, hsc3, hsl3⟩ := Sl.rest (P := Tryz.prog) hs 25 5 Tryz.underlying25 hu8 n (by omega)
     generalize inB (recMid s) 61 = ie at hcu HQ
     generalize cutA (recMid s) 61 = key at hcu HQ
     generalize cutB (recMid s) 61 = val at hcu HQ hvl
     clear hsl2 hml HMD hsw1
     generalize hmd : n1 - d1 = md at hsc2 hst2
     clear hmd
     go_upto_region 7 with (go_at_call 68; refine (hcu _).mono ?_; clear hcu; rintro r W2 ⟨rfl, hb2⟩)
     have rd2 := rd1.below hb2
     have hk2 : Kept (fun k => k = mf) w W2 := hk1.trans (Kept.of_below hb2 _)
     clear rd1 hk1 hb2 hst2 hsc2
     cases ie with
     | false =>
       have HV : Hid (R = (3, t1)) := Lib.hid (HRS0.out (by rw [HQ.out, if_neg (by simp)]))
       clear HRS0 HRS1 HQ
       go_wp2_with fail
       go_ret
       exact ⟨t1, by rw [HV.out]; rfl, rd2, hk2, fun h => by rw [HV.out] at h; exact absurd h (show ¬ (3 : Int) = 0 by decide)⟩
     | true =>
       have HR2 := Lib.hid (HRS1.out n key val (by rw [HQ.out, if_pos rfl]))
       clear HRS0 HRS1 HQ
       go_upto_region 11 with fail
       have bx := Blk.new W2 90 #[.string (bs val), .int .i64 0]
       have hq3 := (Below.refl W2.heap.size W2).alloc (Nat.le_refl _) (.cells #[.string (bs val), .int .i64 0] 90)
       clear wd wn HN1 HD1 hsc3
       generalize W2.alloc (.cells #[.string (bs val), .int .i64 0] 90) = W3 at bx hq3 ⊢
       obtain ⟨gx, hgx⟩ : ∃ gx, W2.heap.size = gx := ⟨_, rfl⟩
       rw [hgx] at bx hq3 ⊢
       have hud2 := fun W => undec_any (bs val) W (by rw [bs_size]; omega)
       rw [bs_list] at hud2
       have hx1 : W3.cell? ⟨gx, 1, none⟩ = some (.int .i64 0) := by have := bx.cell 1; simpa using this
       have fx1 := bx.frozen 1
       have HBX := Lib.hid bx
       go_upto_block 2 with fail
       go_cut [] (fun wx => ∃ nn : Nat, Blk wx gx 90 #[.string (bs val), .int .i64 (nn : Int)] ∧ Below gx W2 wx ∧ Hid (keyT t1 key val = (0, updS t1 key (val, nn))))
       case first =>
         by_cases h0 : key = kPth
         · have hj := h0
           have e0 : ((bs key).toList == [112, 97, 116, 104]) = true := by rw [beq_bytes, hj]; rfl
           have e1 : ((bs key).toList == [108, 105, 110, 107, 112, 97, 116, 104]) = false := by rw [beq_bytes, hj]; rfl
           have e2 : ((bs key).toList == [117, 110, 97, 109, 101]) = false := by rw [beq_bytes, hj]; rfl
           have e3 : ((bs key).toList == [103, 110, 97, 109, 101]) = false := by rw [beq_bytes, hj]; rfl
           have e4 : ((bs key).toList == [99, 111, 109, 109, 101, 110, 116]) = false := by rw [beq_bytes, hj]; rfl
           have e5 : ((bs key).toList == [115, 105, 122, 101]) = false := by rw [beq_bytes, hj]; rfl
           have e6 : ((bs key).toList == [117, 105, 100]) = false := by rw [beq_bytes, hj]; rfl
           have e7 : ((bs key).toList == [103, 105, 100]) = false := by rw [beq_bytes, hj]; rfl
           have e8 : ((bs key).toList == [109, 116, 105, 109, 101]) = false := by rw [beq_bytes, hj]; rfl
           have HKT : Hid (keyT t1 key val = (0, updS t1 key (val, 0))) := Lib.hid (by rw [keyT, hj]; rfl)
           clear hj h0
           go_wp2_with fail
           go_meet
           exact ⟨0, HBX.out, hq3, HKT⟩
         by_cases h1 : key = kLnk
         · have hj := h1
           have e0 : ((bs key).toList == [112, 97, 116, 104]) = false := by rw [beq_bytes, hj]; rfl
           have e1 : ((bs key).toList == [108, 105, 110, 107, 112, 97, 116, 104]) = true := by rw [beq_bytes, hj]; rfl
           have e2 : ((bs key).toList == [117, 110, 97, 109, 101]) = false := by rw [beq_bytes, hj]; rfl
           have e3 : ((bs key).toList == [103, 110, 97, 109, 101]) = false := by rw [beq_bytes, hj]; rfl
           have e4 : ((bs key).toList == [99, 111, 109, 109, 101, 110, 116]) = false := by rw [beq_bytes, hj]; rfl
           have e5 : ((bs key).toList == [115, 105, 122, 101]) = false := by rw [beq_bytes, hj]; rfl
           have e6 : ((bs key).toList == [117, 105, 100]) = false := by rw [beq_bytes, hj]; rfl
           have e7 : ((bs key).toList == [103, 105, 100]) = false := by rw [beq_bytes, hj]; rfl
           have e8 : ((bs key).toList == [109, 116, 105, 109, 101]) = false := by rw [beq_bytes, hj]; rfl
           have HKT : Hid (keyT t1 key val = (0, updS t1 key (val, 0))) := Lib.hid (by rw [keyT, hj]; rfl)
           clear hj h0 h1
           go_wp2_with fail
           go_meet
           exact ⟨0, HBX.out, hq3, HKT⟩
         by_cases h2 : key = kOwn
         · have hj := h2
           have e0 : ((bs key).toList == [112, 97, 116, 104]) = false := by rw [beq_bytes, hj]; rfl
           have e1 : ((bs key).toList == [108, 105, 110, 107, 112, 97, 116, 104]) = false := by rw [beq_bytes, hj]; rfl
           have e2 : ((bs key).toList == [117, 110, 97, 109, 101]) = true := by rw [beq_bytes, hj]; rfl
           have e3 : ((bs key).toList == [103, 110, 97, 109, 101]) = false := by rw [beq_bytes, hj]; rfl
           have e4 : ((bs key).toList == [99, 111, 109, 109, 101, 110, 116]) = false := by rw [beq_bytes, hj]; rfl
           have e5 : ((bs key).toList == [115, 105, 122, 101]) = false := by rw [beq_bytes, hj]; rfl
           have e6 : ((bs key).toList == [117, 105, 100]) = false := by rw [beq_bytes, hj]; rfl
           have e7 : ((bs key).toList == [103, 105, 100]) = false := by rw [beq_bytes, hj]; rfl
           have e8 : ((bs key).toList == [109, 116, 105, 109, 101]) = false := by rw [beq_bytes, hj]; rfl
           have HKT : Hid (keyT t1 key val = (0, updS t1 key (val, 0))) := Lib.hid (by rw [keyT, hj]; rfl)
           clear hj h0 h1 h2
           go_wp2_with fail
           go_meet
           exact ⟨0, HBX.out, hq3, HKT⟩
         by_cases h3 : key = kGrp
         · have hj := h3
           have e0 : ((bs key).toList == [112, 97, 116, 104]) = false := by rw [beq_bytes, hj]; rfl
           have e1 : ((bs key).toList == [108, 105, 110, 107, 112, 97, 116, 104]) = false := by rw [beq_bytes, hj]; rfl
           have e2 : ((bs key).toList == [117, 110, 97, 109, 101]) = false := by rw [beq_bytes, hj]; rfl
           have e3 : ((bs key).toList == [103, 110, 97, 109, 101]) = true := by rw [beq_bytes, hj]; rfl
           have e4 : ((bs key).toList == [99, 111, 109, 109, 101, 110, 116]) = false := by rw [beq_bytes, hj]; rfl
           have e5 : ((bs key).toList == [115, 105, 122, 101]) = false := by rw [beq_bytes, hj]; rfl
           have e6 : ((bs key).toList == [117, 105, 100]) = false := by rw [beq_bytes, hj]; rfl
           have e7 : ((bs key).toList == [103, 105, 100]) = false := by rw [beq_bytes, hj]; rfl
           have e8 : ((bs key).toList == [109, 116, 105, 109, 101]) = false := by rw [beq_bytes, hj]; rfl
           have HKT : Hid (keyT t1 key val = (0, updS t1 key (val, 0))) := Lib.hid (by rw [keyT, hj]; rfl)
           clear hj h0 h1 h2 h3
           go_wp2_with fail
           go_meet
           exact ⟨0, HBX.out, hq3, HKT⟩
         by_cases h4 : key = kCom
         · have hj := h4
           have e0 : ((bs key).toList == [112, 97, 116, 104]) = false := by rw [beq_bytes, hj]; rfl
           have e1 : ((bs key).toList == [108, 105, 110, 107, 112, 97, 116, 104]) = false := by rw [beq_bytes, hj]; rfl
           have e2 : ((bs key).toList == [117, 110, 97, 109, 101]) = false := by rw [beq_bytes, hj]; rfl
           have e3 : ((bs key).toList == [103, 110, 97, 109, 101]) = false := by rw [beq_bytes, hj]; rfl
           have e4 : ((bs key).toList == [99, 111, 109, 109, 101, 110, 116]) = true := by rw [beq_bytes, hj]; rfl
           have e5 : ((bs key).toList == [115, 105, 122, 101]) = false := by rw [beq_bytes, hj]; rfl
           have e6 : ((bs key).toList == [117, 105, 100]) = false := by rw [beq_bytes, hj]; rfl
           have e7 : ((bs key).toList == [103, 105, 100]) = false := by rw [beq_bytes, hj]; rfl
           have e8 : ((bs key).toList == [109, 116, 105, 109, 101]) = false := by rw [beq_bytes, hj]; rfl
           have HKT : Hid (keyT t1 key val = (0, updS t1 key (val, 0))) := Lib.hid (by rw [keyT, hj]; rfl)
           clear hj h0 h1 h2 h3 h4
           go_wp2_with fail
           go_meet
           exact ⟨0, HBX.out, hq3, HKT⟩
         by_cases h5 : key = kSize
         · have hj := h5
           have e0 : ((bs key).toList == [112, 97, 116, 104]) = false := by rw [beq_bytes, hj]; rfl
           have e1 : ((bs key).toList == [108, 105, 110, 107, 112, 97, 116, 104]) = false := by rw [beq_bytes, hj]; rfl
           have e2 : ((bs key).toList == [117, 110, 97, 109, 101]) = false := by rw [beq_bytes, hj]; rfl
           have e3 : ((bs key).toList == [103, 110, 97, 109, 101]) = false := by rw [beq_bytes, hj]; rfl
           have e4 : ((bs key).toList == [99, 111, 109, 109, 101, 110, 116]) = false := by rw [beq_bytes, hj]; rfl
           have e5 : ((bs key).toList == [115, 105, 122, 101]) = true := by rw [beq_bytes, hj]; rfl
           have e6 : ((bs key).toList == [117, 105, 100]) = false := by rw [beq_bytes, hj]; rfl
           have e7 : ((bs key).toList == [103, 105, 100]) = false := by rw [beq_bytes, hj]; rfl
           have e8 : ((bs key).toList == [109, 116, 105, 109, 101]) = false := by rw [beq_bytes, hj]; rfl
           have hk1 : isText key = false := by rw [hj]; rfl
           have hk2' : isNum key = true := by rw [hj]; rfl
           by_cases hu : udCode val = 0
           · have HKT : Hid (keyT t1 key val = (0, updS t1 key (val, decNum val))) := Lib.hid (by rw [keyT, if_neg (by rw [hk1]; simp), if_pos hk2', if_pos hu])
             rw [show udN val = (decNum val : Int) by rw [udN, if_pos hu], hu] at hud2
             clear hj hk1 hk2' hu h0 h1 h2 h3 h4 h5
             generalize decNum val = nv at hud2 HKT
             go_wp2_with (go_at_call 101; refine (hud2 _).mono ?_; clear hud2; rintro r W4 ⟨rfl, rfl⟩)
             go_meet
             exact ⟨nv, HBX.out.set (u := .int .i64 (nv : Int)) 1, hq3.setCell (by simp) _, HKT⟩
           · have q1 : (udCode val != 0) = true := by simpa using hu
             have hkt : keyT t1 key val = (udCode val, t1) := by rw [keyT, if_neg (by rw [hk1]; simp), if_pos hk2', if_neg hu]
             have HV : Hid (R = (udCode val, t1)) := Lib.hid (by rw [HR2.out, hkt, if_neg hu])
             clear hkt
             have HU := Lib.hid hu
             clear hj hk1 hk2' hu HR2 h0 h1 h2 h3 h4 h5
             generalize udCode val = uv at hud2 HV q1 HU
             generalize udN val = un at hud2
             have hfin : Below W2.heap.size W2 (W3.setCell ⟨gx, 1, none⟩ (.int .i64 un)) := by rw [hgx]; exact hq3.setCell (by simp) _
             go_wp2_with (go_at_call 101; refine (hud2 _).mono ?_; clear hud2; rintro r W4 ⟨rfl, rfl⟩)
             go_ret
             exact ⟨t1, by rw [HV.out]; rfl, rd2.below hfin, hk2.trans (Kept.of_below hfin _), fun h => by rw [HV.out] at h; exact absurd h HU.out⟩
         by_cases h6 : key = kUid
         · have hj := h6
           have e0 : ((bs key).toList == [112, 97, 116, 104]) = false := by rw [beq_bytes, hj]; rfl
           have e1 : ((bs key).toList == [108, 105, 110, 107, 112, 97, 116, 104]) = false := by rw [beq_bytes, hj]; rfl
           have e2 : ((bs key).toList == [117, 110, 97, 109, 101]) = false := by rw [beq_bytes, hj]; rfl
           have e3 : ((bs key).toList == [103, 110, 97, 109, 101]) = false := by rw [beq_bytes, hj]; rfl
           have e4 : ((bs key).toList == [99, 111, 109, 109, 101, 110, 116]) = false := by rw [beq_bytes, hj]; rfl
           have e5 : ((bs key).toList == [115, 105, 122, 101]) = false := by rw [beq_bytes, hj]; rfl
           have e6 : ((bs key).toList == [117, 105, 100]) = true := by rw [beq_bytes, hj]; rfl
           have e7 : ((bs key).toList == [103, 105, 100]) = false := by rw [beq_bytes, hj]; rfl
           have e8 : ((bs key).toList == [109, 116, 105, 109, 101]) = false := by rw [beq_bytes, hj]; rfl
           have hk1 : isText key = false := by rw [hj]; rfl
           have hk2' : isNum key = true := by rw [hj]; rfl
           by_cases hu : udCode val = 0
           · have HKT : Hid (keyT t1 key val = (0, updS t1 key (val, decNum val))) := Lib.hid (by rw [keyT, if_neg (by rw [hk1]; simp), if_pos hk2', if_pos hu])
             rw [show udN val = (decNum val : Int) by rw [udN, if_pos hu], hu] at hud2
             clear hj hk1 hk2' hu h0 h1 h2 h3 h4 h5 h6
             generalize decNum val = nv at hud2 HKT
             go_wp2_with (go_at_call 101; refine (hud2 _).mono ?_; clear hud2; rintro r W4 ⟨rfl, rfl⟩)
             go_meet
             exact ⟨nv, HBX.out.set (u := .int .i64 (nv : Int)) 1, hq3.setCell (by simp) _, HKT⟩
           · have q1 : (udCode val != 0) = true := by simpa using hu
             have hkt : keyT t1 key val = (udCode val, t1) := by rw [keyT, if_neg (by rw [hk1]; simp), if_pos hk2', if_neg hu]
             have HV : Hid (R = (udCode val, t1)) := Lib.hid (by rw [HR2.out, hkt, if_neg hu])
             clear hkt
             have HU := Lib.hid hu
             clear hj hk1 hk2' hu HR2 h0 h1 h2 h3 h4 h5 h6
             generalize udCode val = uv at hud2 HV q1 HU
             generalize udN val = un at hud2
             have hfin : Below W2.heap.size W2 (W3.setCell ⟨gx, 1, none⟩ (.int .i64 un)) := by rw [hgx]; exact hq3.setCell (by simp) _
             go_wp2_with (go_at_call 101; refine (hud2 _).mono ?_; clear hud2; rintro r W4 ⟨rfl, rfl⟩)
             go_ret
             exact ⟨t1, by rw [HV.out]; rfl, rd2.below hfin, hk2.trans (Kept.of_below hfin _), fun h => by rw [HV.out] at h; exact absurd h HU.out⟩
         by_cases h7 : key = kGid
         · have hj := h7
           have e0 : ((bs key).toList == [112, 97, 116, 104]) = false := by rw [beq_bytes, hj]; rfl
           have e1 : ((bs key).toList == [108, 105, 110, 107, 112, 97, 116, 104]) = false := by rw [beq_bytes, hj]; rfl
           have e2 : ((bs key).toList == [117, 110, 97, 109, 101]) = false := by rw [beq_bytes, hj]; rfl
           have e3 : ((bs key).toList == [103, 110, 97, 109, 101]) = false := by rw [beq_bytes, hj]; rfl
           have e4 : ((bs key).toList == [99, 111, 109, 109, 101, 110, 116]) = false := by rw [beq_bytes, hj]; rfl
           have e5 : ((bs key).toList == [115, 105, 122, 101]) = false := by rw [beq_bytes, hj]; rfl
           have e6 : ((bs key).toList == [117, 105, 100]) = false := by rw [beq_bytes, hj]; rfl
           have e7 : ((bs key).toList == [103, 105, 100]) = true := by rw [beq_bytes, hj]; rfl
           have e8 : ((bs key).toList == [109, 116, 105, 109, 101]) = false := by rw [beq_bytes, hj]; rfl
           have hk1 : isText key = false := by rw [hj]; rfl
           have hk2' : isNum key = true := by rw [hj]; rfl
           by_cases hu : udCode val = 0
           · have HKT : Hid (keyT t1 key val = (0, updS t1 key (val, decNum val))) := Lib.hid (by rw [keyT, if_neg (by rw [hk1]; simp), if_pos hk2', if_pos hu])
             rw [show udN val = (decNum val : Int) by rw [udN, if_pos hu], hu] at hud2
             clear hj hk1 hk2' hu h0 h1 h2 h3 h4 h5 h6 h7
             generalize decNum val = nv at hud2 HKT
             go_wp2_with (go_at_call 101; refine (hud2 _).mono ?_; clear hud2; rintro r W4 ⟨rfl, rfl⟩)
             go_meet
             exact ⟨nv, HBX.out.set (u := .int .i64 (nv : Int)) 1, hq3.setCell (by simp) _, HKT⟩
           · have q1 : (udCode val != 0) = true := by simpa using hu
             have hkt : keyT t1 key val = (udCode val, t1) := by rw [keyT, if_neg (by rw [hk1]; simp), if_pos hk2', if_neg hu]
             have HV : Hid (R = (udCode val, t1)) := Lib.hid (by rw [HR2.out, hkt, if_neg hu])
             clear hkt
             have HU := Lib.hid hu
             clear hj hk1 hk2' hu HR2 h0 h1 h2 h3 h4 h5 h6 h7
             generalize udCode val = uv at hud2 HV q1 HU
             generalize udN val = un at hud2
             have hfin : Below W2.heap.size W2 (W3.setCell ⟨gx, 1, none⟩ (.int .i64 un)) := by rw [hgx]; exact hq3.setCell (by simp) _
             go_wp2_with (go_at_call 101; refine (hud2 _).mono ?_; clear hud2; rintro r W4 ⟨rfl, rfl⟩)
             go_ret
             exact ⟨t1, by rw [HV.out]; rfl, rd2.below hfin, hk2.trans (Kept.of_below hfin _), fun h => by rw [HV.out] at h; exact absurd h HU.out⟩
         by_cases h8 : key = kTime
         · have hj := h8
           have e0 : ((bs key).toList == [112, 97, 116, 104]) = false := by rw [beq_bytes, hj]; rfl
           have e1 : ((bs key).toList == [108, 105, 110, 107, 112, 97, 116, 104]) = false := by rw [beq_bytes, hj]; rfl
           have e2 : ((bs key).toList == [117, 110, 97, 109, 101]) = false := by rw [beq_bytes, hj]; rfl
           have e3 : ((bs key).toList == [103, 110, 97, 109, 101]) = false := by rw [beq_bytes, hj]; rfl
           have e4 : ((bs key).toList == [99, 111, 109, 109, 101, 110, 116]) = false := by rw [beq_bytes, hj]; rfl
           have e5 : ((bs key).toList == [115, 105, 122, 101]) = false := by rw [beq_bytes, hj]; rfl
           have e6 : ((bs key).toList == [117, 105, 100]) = false := by rw [beq_bytes, hj]; rfl
           have e7 : ((bs key).toList == [103, 105, 100]) = false := by rw [beq_bytes, hj]; rfl
           have e8 : ((bs key).toList == [109, 116, 105, 109, 101]) = true := by rw [beq_bytes, hj]; rfl
           have hk1 : isText key = false := by rw [hj]; rfl
           have hk2' : isNum key = true := by rw [hj]; rfl
           by_cases hu : udCode val = 0
           · have HKT : Hid (keyT t1 key val = (0, updS t1 key (val, decNum val))) := Lib.hid (by rw [keyT, if_neg (by rw [hk1]; simp), if_pos hk2', if_pos hu])
             rw [show udN val = (decNum val : Int) by rw [udN, if_pos hu], hu] at hud2
             clear hj hk1 hk2' hu h0 h1 h2 h3 h4 h5 h6 h7 h8
             generalize decNum val = nv at hud2 HKT
             go_wp2_with (go_at_call 101; refine (hud2 _).mono ?_; clear hud2; rintro r W4 ⟨rfl, rfl⟩)
             go_meet
             exact ⟨nv, HBX.out.set (u := .int .i64 (nv : Int)) 1, hq3.setCell (by simp) _, HKT⟩
           · have q1 : (udCode val != 0) = true := by simpa using hu
             have hkt : keyT t1 key val = (udCode val, t1) := by rw [keyT, if_neg (by rw [hk1]; simp), if_pos hk2', if_neg hu]
             have HV : Hid (R = (udCode val, t1)) := Lib.hid (by rw [HR2.out, hkt, if_neg hu])
             clear hkt
             have HU := Lib.hid hu
             clear hj hk1 hk2' hu HR2 h0 h1 h2 h3 h4 h5 h6 h7 h8
             generalize udCode val = uv at hud2 HV q1 HU
             generalize udN val = un at hud2
             have hfin : Below W2.heap.size W2 (W3.setCell ⟨gx, 1, none⟩ (.int .i64 un)) := by rw [hgx]; exact hq3.setCell (by simp) _
             go_wp2_with (go_at_call 101; refine (hud2 _).mono ?_; clear hud2; rintro r W4 ⟨rfl, rfl⟩)
             go_ret
             exact ⟨t1, by rw [HV.out]; rfl, rd2.below hfin, hk2.trans (Kept.of_below hfin _), fun h => by rw [HV.out] at h; exact absurd h HU.out⟩
         have e0 : ((bs key).toList == [112, 97, 116, 104]) = false := by rw [beq_bytes]; exact decide_eq_false h0
         have e1 : ((bs key).toList == [108, 105, 110, 107, 112, 97, 116, 104]) = false := by rw [beq_bytes]; exact decide_eq_false h1
         have e2 : ((bs key).toList == [117, 110, 97, 109, 101]) = false := by rw [beq_bytes]; exact decide_eq_false h2
         have e3 : ((bs key).toList == [103, 110, 97, 109, 101]) = false := by rw [beq_bytes]; exact decide_eq_false h3
         have e4 : ((bs key).toList == [99, 111, 109, 109, 101, 110, 116]) = false := by rw [beq_bytes]; exact decide_eq_false h4
         have e5 : ((bs key).toList == [115, 105, 122, 101]) = false := by rw [beq_bytes]; exact decide_eq_false h5
         have e6 : ((bs key).toList == [117, 105, 100]) = false := by rw [beq_bytes]; exact decide_eq_false h6
         have e7 : ((bs key).toList == [103, 105, 100]) = false := by rw [beq_bytes]; exact decide_eq_false h7
         have e8 : ((bs key).toList == [109, 116, 105, 109, 101]) = false := by rw [beq_bytes]; exact decide_eq_false h8
         have hk1 : isText key = false := decide_eq_false (by rintro (h | h | h | h | h) <;> contradiction)
         have hk2' : isNum key = false := decide_eq_false (by rintro (h | h | h | h) <;> contradiction)
         have hkt : keyT t1 key val = (9, t1) := by rw [keyT, if_neg (by rw [hk1]; simp), if_neg (by rw [hk2']; simp)]
         have HV : Hid (R = (9, t1)) := Lib.hid (by rw [HR2.out, hkt, if_neg (show ¬ (9 : Int) = 0 by decide)])
         clear hkt
         have hfin : Below W2.heap.size W2 W3 := by rw [hgx]; exact hq3
         clear h0 h1 h2 h3 h4 h5 h6 h7 h8 hk1 hk2' HR2
         go_wp2_with fail
         go_ret
         exact ⟨t1, by rw [HV.out]; rfl, rd2.below hfin, hk2.trans (Kept.of_below hfin _), fun h => by rw [HV.out] at h; exact absurd h (show ¬ (9 : Int) = 0 by decide)⟩
       case rest =>
         clear hud2 hx1 fx1 HBX bx hq3
         obtain ⟨nn, bx, hq4, HKT⟩ := hcut
         rw [← hgx] at hq4
         have rd4 := rd2.below hq4
         have hgm : ¬ gx = mf := by have := rd2.mflt; omega
         have HRN : Hid (recS f' (updS t1 key (val, nn)) (s.drop n) = R) := Lib.hid (by rw [HR2.out, HKT.out, if_pos rfl])
         have hk4 : Kept (fun k => k = mf) w wc := hk2.trans (Kept.of_below hq4 _)
         clear HR2 HKT rd2 hk2 hq4
         have rd5 := rd4.below ((Below.refl _ wc).drew)
         obtain ⟨mo, hmo, hM⟩ := rd5.mp
         obtain ⟨mo', hM', hput⟩ := mapS_put wc.drew toldU Tryz.underlying9 hmo hM key (.agg #[.string (bs val), .int .i64 (nn : Int)])
         have hM2 : MapS mo' (tdM (updS t1 key (val, nn))) := by
           have e : tdM (updS t1 key (val, nn)) = updS (tdM t1) key (.agg #[.string (bs val), .int .i64 (nn : Int)]) := by
             funext k
             simp only [tdM, updS]
             split <;> rfl
           rw [e]; exact hM'
         have hset := MapKept.heap_set (o' := mo') hmo
         have hkM : Kept (fun k => k = mf) wc.drew ({ wc.drew with heap := wc.drew.heap.setIfInBounds mf mo' } : World) := ⟨rfl, rfl, rfl, by simp, fun k hk hx => hset.2 k hx⟩
         have rd6 := rd5.told hkM hset.1 hM2
         have hk6 : Kept (fun k => k = mf) w ({ wc.drew with heap := wc.drew.heap.setIfInBounds mf mo' } : World) := (hk4.trans (Kept.of_below ((Below.refl _ wc).drew) _)).trans hkM
         clear hM hM' hM2 hset rd5 hmo
         generalize ({ wc.drew with heap := wc.drew.heap.setIfInBounds mf mo' } : World) = WM at hput rd6 hk6 hkM
         have r3 : wc.cell? ⟨gr, 3, none⟩ = some (.map (some mf)) := by have := rd4.blk.cell 3; simpa using this
         have x0 := bx.cell 0
         have x1 := bx.cell 1
         simp at x0 x1
         have hsl4 : (s.drop n).length = s.length - n := List.length_drop
         go_upto_region 25 with fail
         refine wp_region_plan (fun W => W.cell? ⟨gr, 3, none⟩ = some (.map (some mf)) ∧ W.cell? ⟨gx, 0, none⟩ = some (.string (bs val)) ∧ W.cell? ⟨gx, 1, none⟩ = some (.int .i64 (nn : Int))) [(false, 0), (false, 1), (false, 2), (false, 3), (false, 4), (false, 5), (true, 6)] (by kernel_rfl) (by kernel_rfl) (⟨r3, x0, x1⟩) ?_
         simp only [planOps, List.map, List.getD_cons_zero, List.getD_cons_succ]
         iterate 6 ((first | refine plan_quiet (v := ?_) rfl rfl (fun w' hw' => ?_) ?_ | refine plan_calm (v := ?_) (tt_of) rfl (fun w' hw' => ?_) ?_); rotate_left; (focus (go_simp <;> (first | with_reducible rfl | (rw [if_neg (by simp [undef])]; try rfl) | omega))); simp only [Act.put, List.setIfInBounds_toArray, List.set_cons_zero, List.set_cons_succ])
         refine plan_loud rfl (fun K hK => ?_)
         go_simp
         have r3M : WM.cell? ⟨gr, 3, none⟩ = some (.map (some mf)) := by have := rd6.blk.cell 3; simpa using this
         refine hK _ _ (⟨r3M, hkM.cell x0 hgm, hkM.cell x1 hgm⟩) ?_
         clear hK K
         (try simp only [Act.put, List.setIfInBounds_toArray, List.set_cons_zero, List.set_cons_succ])
         refine plan_end ?_
         go_wp2_with fail
         go_roundg (s.drop n).length
         case measure => rw [hsl4]; omega
         case rel => exact ⟨f', s.drop n, updS t1 key (val, nn), rfl, by rw [hsl4]; omega, rd6, hk6, hsl3, by rw [hsl4]; omega, HRN⟩
end Go.Proofs.YtpheifdpjcppdaaGreatDoor
namespace Go.Proofs.YtpheifdpjcppdaaGreatDoor
open Go.RowKit
theorem run_idx_none (cv : Int) (n c : Nat) (w : World) : (Extern.BytealgIndexByte.indexByte #[.slice none n c, .int .u8 cv]).run Tryz.prog w = .ok (.int .i64 (-1)) w := by
  change Sem.run Tryz.prog (do
    let b ← Extern.Bytes.bytesOf (.slice none n c)
    let c ← Extern.Bytes.asByte (.int .u8 cv)
    match (List.range b.size).find? fun i => b[i]! == c with
    | some i => pure (goInt i)
    | none => pure (goInt (-1))) w = _
  simp [Extern.Bytes.bytesOf, Extern.Bytes.asByte]
  rfl
theorem idx_run (d : List UInt8) (dv : Value) (X : Nat → Prop) (c : UInt8) (w : World) (h : Sl 1 Rbyte X w dv d) : (Extern.BytealgIndexByte.indexByte #[dv, .int .u8 (c.toNat : Int)]).run Tryz.prog w = .ok (.int .i64 (Lib.indexByte d c)) w := by
  obtain ⟨A, cap, rfl, hc1, hc2⟩ := h.form
  have hcc : ((c.toNat : Int).toNat).toUInt8 = c := by simp
  have hbo : Lib.bytesOf (d.map fun x => (x.toNat : Int)) = d := by
    simp [Lib.bytesOf, List.map_map, Function.comp_def]
  cases A with
  | none =>
    have h0 : d = [] := by
      obtain ⟨A0, c0, hv, h1, _, h3, _⟩ := h
      injection hv with e1 e2 e3
      have := h3 e1.symm
      exact List.eq_nil_of_length_eq_zero (by omega)
    subst h0
    rw [run_idx_none]
    rfl
  | some a =>
    have hc : ∀ i, i < d.length → w.cell? (a.add i) = some (.int .u8 ((d.map fun x => (x.toNat : Int)).getD i 0)) := fun i hi => by
      obtain ⟨b, off, hA, _, hcl⟩ := h.at.2.2.2 (by omega)
      injection hA with hA
      subst hA
      obtain ⟨cs, hcs, hR⟩ := hcl i hi
      have hR' : cs = [.int .u8 (d[i].toNat : Int)] := hR
      have := hcs 0 (.int .u8 (d[i].toNat : Int)) (by rw [hR']; rfl)
      rw [Nat.mul_one, Nat.add_zero] at this
      rw [Addr.add_lit, this, List.getD, List.getElem?_map, List.getElem?_eq_getElem hi]
      rfl
    have := Lib.run_indexByteAt (P := Tryz.prog) w a d.length cap _ (by simp) hc (c.toNat : Int)
    rw [hbo, hcc] at this
    exact this
set_option maxRecDepth 1000000 in
set_option maxHeartbeats 2000000 in
theorem tbidx_any (d : List UInt8) (dv : Value) (X : Nat → Prop) (c : UInt8) (w : World) (h : Sl 1 Rbyte X w dv d) :
    Calls Tryz.prog 75 #[dv, .int .u8 (c.toNat : Int)] w fun e w' => e = .returned (.int .i64 (Lib.indexByte d c)) ∧ w = w' := by
  have hr := idx_run d dv X c w h
  obtain ⟨A, cap, rfl, hc1, hc2⟩ := h.form
  clear h
  go_enter Tryz.func75, Tryz.ntmps75
  go_wp2
  rw [run_callFunc_extern Tryz.func102 (by kernel_rfl) (by kernel_rfl) (by kernel_rfl) (e := Extern.BytealgIndexByte.indexByte) (by kernel_rfl), hr]
  simp only [Result.andThen]
  rw [Oper.upon_value]
  go_wp2
  go_ret
  exact ⟨rfl, rfl⟩
variable {w0 w w' : World} {gr mf : Nat} {bv lv pv : Value} {L : List En} {f : Nat → Value} {PL : List Nat} {t : Td} {fr : Nat}
/-- 'told[key] = v'. -/
theorem RT.put (rd : RT w0 gr mf bv lv pv L f PL t fr w) (key val : List UInt8) (nn : Nat) :
    ∃ WM, (Instr.mapUpdate 55 (.map (some mf)) (.string (bs key)) (.agg #[.string (bs val), .int .i64 (nn : Int)])).run Tryz.prog w = .ok () WM ∧ RT w0 gr mf bv lv pv L f PL (updS t key (val, nn)) fr WM ∧ Kept (fun k => k = mf) w WM := by
  obtain ⟨mo, hmo, hM⟩ := rd.mp
  obtain ⟨mo', hM', hput⟩ := mapS_put w toldU Tryz.underlying9 hmo hM key (.agg #[.string (bs val), .int .i64 (nn : Int)])
  have hM2 : MapS mo' (tdM (updS t key (val, nn))) := by
    have e : tdM (updS t key (val, nn)) = updS (tdM t) key (.agg #[.string (bs val), .int .i64 (nn : Int)]) := by
      funext k
      simp only [tdM, updS]
      split <;> rfl
    rw [e]; exact hM'
  have hset := MapKept.heap_set (o' := mo') hmo
  have hkM : Kept (fun k => k = mf) w ({ w with heap := w.heap.setIfInBounds mf mo' } : World) := ⟨rfl, rfl, rfl, by simp, fun k hk hx => hset.2 k hx⟩
  exact ⟨_, hput, rd.told hkM hset.1 hM2, hkM⟩
/-- The text of one byte. -/
theorem one_str (w : World) (c : UInt8) : (convert 25 9 (.slice (some ⟨w.heap.size, 0, none⟩) 1 1)).run Tryz.prog (w.alloc (.cells #[.int .u8 (c.toNat : Int)] 5)) = .ok (.string (bs [c])) (w.alloc (.cells #[.int .u8 (c.toNat : Int)] 5)) :=
  str8 (SB.blk (l := [c]) (Blk.new w 5 (bvs [c]).toArray) (by unfold maxLen; simp))
set_option maxRecDepth 20000 in
set_option maxHeartbeats 16000000 in
theorem ttell_any (hrd : RT w0 gr mf bv lv pv L f PL t fr w) (kd : UInt8) (d : List UInt8) (dv : Value) (hd : Sl 1 Rbyte (fun k => w0.heap.size ≤ k) w0 dv d) (hdl : d.length ≤ 100000000) :
    Calls Tryz.prog 48 #[.pointer (some ⟨gr, 0, none⟩), .int .u8 (kd.toNat : Int), dv] w fun r w' => ∃ t', r = .returned (.int .i64 (tellS t kd d).1) ∧ RT w0 gr mf bv lv pv L f PL t' fr w' ∧ Kept (fun k => k = mf) w w' ∧ ((tellS t kd d).1 = 0 → t' = (tellS t kd d).2) := by
  have HT : Hid (tellS t kd d = if kd = 120 then recS (d.length + 1) (updS t [120] ([], 0)) d else if Lib.indexByte d 0 < 0 then (3, t) else (0, updS t [kd] (upZ d, 0))) := Lib.hid rfl
  obtain ⟨T, HTT⟩ : ∃ T, Hid (tellS t kd d = T) := ⟨_, Lib.hid rfl⟩
  rw [HTT.out] at HT ⊢
  obtain ⟨A, cap, rfl, hc1, hc2⟩ := hd.form
  unfold maxLen at hc2
  have hu8 : (Tryz.prog.info? 5).map (·.size) = some 1 := by kernel_rfl
  have hos := one_str w kd
  go_enter Tryz.func48, Tryz.ntmps48
  go_upto_region 2 with fail
  have hq1 := (Below.refl w.heap.size w).alloc (Nat.le_refl _) (.cells #[.int .u8 (kd.toNat : Int)] 5)
  have rd1 := hrd.below hq1
  have hk1 : Kept (fun k => k = mf) w (w.alloc (.cells #[.int .u8 (kd.toNat : Int)] 5)) := Kept.of_below hq1 _
  clear hos hq1 hrd
  generalize w.alloc (.cells #[.int .u8 (kd.toNat : Int)] 5) = W1 at rd1 hk1 ⊢
  generalize w.heap.size = gS at ⊢
  have r3 : W1.cell? ⟨gr, 3, none⟩ = some (.map (some mf)) := by have := rd1.blk.cell 3; simpa using this
  by_cases h120 : kd = 120
  · have q1 : ((kd.toNat : Int) == 120) = true := by rw [h120]; rfl
    have HV := Lib.hid (HT.out.trans (if_pos h120))
    rw [show bs [kd] = bs [120] by rw [h120]]
    obtain ⟨WM, hput, rd2, hk2⟩ := rd1.put [120] [] 0
    have hput' : (Instr.mapUpdate 55 (.map (some mf)) (.string (bs [120])) (.agg #[.string ⟨#[]⟩, .int .i64 0])).run Tryz.prog W1 = .ok () WM := hput
    have hrec := trecords_any rd2 d _ hd hdl
    rw [← HV.out] at hrec
    have hk3 := hk1.trans hk2
    clear hput h120 HT HV hk1 hk2 rd1
    generalize bs [120] = KB at hput' ⊢
    go_wp2_with (go_at_call 74; refine hrec.mono ?_; clear hrec; rintro r W3 ⟨t', rfl, rd3, hk4, ht'⟩)
    go_ret
    exact ⟨t', rfl, rd3, hk3.trans hk4, ht'⟩
  have q1 : ((kd.toNat : Int) == 120) = false := by
    have : ¬ kd.toNat = 120 := fun e => h120 (by rw [← UInt8.ofNat_toNat (x := kd), e]; rfl)
    simpa using (show ¬ (kd.toNat : Int) = 120 by omega)
  have HT2 := Lib.hid (HT.out.trans (if_neg h120))
  have hdw := hd.keep good_byte (Kept.low' rd1.bel)
  have hib := tbidx_any d _ _ 0 W1 hdw
  clear HT h120
  by_cases hn : Lib.indexByte d 0 < 0
  · have q2 : decide (Lib.indexByte d 0 < 0) = true := decide_eq_true hn
    have HV := Lib.hid (HT2.out.trans (if_pos hn))
    clear HT2 hn
    generalize Lib.indexByte d 0 = ix at hib q2
    go_wp2_with (go_at_call 75; refine hib.mono ?_; clear hib; rintro r W3 ⟨rfl, rfl⟩)
    go_ret
    exact ⟨t, by rw [HV.out]; rfl, rd1, hk1, fun h => by rw [HV.out] at h; exact absurd h (show ¬ (3 : Int) = 0 by decide)⟩
  · have q2 : decide (Lib.indexByte d 0 < 0) = false := decide_eq_false hn
    have HV := Lib.hid (HT2.out.trans (if_neg hn))
    have hup : upZ d = d.take (Lib.indexByte d 0).toNat := by rw [← upZ_cut, cutA, if_pos (show inB d 0 = true from decide_eq_true (show 0 ≤ Lib.indexByte d 0 by omega))]
    obtain ⟨n, hn2⟩ : ∃ n : Nat, Lib.indexByte d 0 = n := ⟨(Lib.indexByte d 0).toNat, by omega⟩
    have hnl : n ≤ d.length := by
      have := (List.getElem?_eq_some_iff.1 (Lib.indexByte_some hn2).1).1
      omega
    rw [hn2] at hib q2 hup
    rw [Int.toNat_natCast] at hup
    obtain ⟨A1, cap1, hsc, hsl⟩ := Sl.upto (P := Tryz.prog) hdw 25 5 Tryz.underlying25 hu8 n hnl
    rw [← hup] at hsl
    obtain ⟨A2, cap2, hsc', hsl0⟩ := Sl.upto (P := Tryz.prog) hd 25 5 Tryz.underlying25 hu8 n hnl
    rw [← hup] at hsl0
    have hAA : Value.slice A2 n cap2 = Value.slice A1 n cap1 := by
      have := (hsc' W1).symm.trans (hsc W1)
      injection this
    rw [hAA] at hsl0
    have hq2 := (Below.refl W1.heap.size W1).drew
    have rd2 := rd1.below hq2
    have hk2 : Kept (fun k => k = mf) w W1.drew := hk1.trans (Kept.of_below hq2 _)
    obtain ⟨WM, hput, rd3, hk3⟩ := rd2.put [kd] (upZ d) 0
    have hst : (convert 25 9 (.slice A1 n cap1)).run Tryz.prog W1.drew = .ok (.string (bs (upZ d))) W1.drew := str8 (hsl0.keep good_byte (Kept.low' rd2.bel)).sb8
    have hstM : (convert 25 9 (.slice A1 n cap1)).run Tryz.prog WM = .ok (.string (bs (upZ d))) WM := str8 (hsl0.keep good_byte (Kept.low' rd3.bel)).sb8
    have r3M : WM.cell? ⟨gr, 3, none⟩ = some (.map (some mf)) := by have := rd3.blk.cell 3; simpa using this
    have hput' : (Instr.mapUpdate 55 (.map (some mf)) (.string (bs [kd])) (.agg #[.string (bs (upZ d)), .int .i64 0])).run Tryz.prog W1.drew = .ok () WM := hput
    have hkf := hk2.trans hk3
    clear hput hup hsl hsl0 hsc' hAA hn HT2 hn2 rd2 hk2 hk3 hk1 hdw
    generalize bs [kd] = KB at hput' ⊢
    generalize bs (upZ d) = UB at hput' hst hstM
    go_upto_region 8 with (go_at_call 75; refine hib.mono ?_; clear hib; rintro r W3 ⟨rfl, rfl⟩)
    refine wp_region_plan (fun W => W.cell? ⟨gr, 3, none⟩ = some (.map (some mf)) ∧ (convert 25 9 (.slice A1 n cap1)).run Tryz.prog W = .ok (.string UB) W) [(false, 0), (false, 1), (false, 2), (false, 3), (false, 4), (false, 5), (false, 6), (false, 7), (false, 8), (false, 9), (true, 10)] (by kernel_rfl) (by kernel_rfl) (⟨r3, hst⟩) ?_
    simp only [planOps, List.map, List.getD_cons_zero, List.getD_cons_succ]
    iterate 10 ((first | refine plan_quiet (v := ?_) rfl rfl (fun w' hw' => ?_) ?_ | refine plan_calm (v := ?_) (tt_of) rfl (fun w' hw' => ?_) ?_); rotate_left; (focus (go_simp <;> (first | with_reducible rfl | (rw [if_neg (by simp [undef])]; try rfl) | omega))); simp only [Act.put, List.setIfInBounds_toArray, List.set_cons_zero, List.set_cons_succ])
    refine plan_loud rfl (fun K hK => ?_)
    go_simp
    refine hK _ _ (⟨r3M, hstM⟩) ?_
    clear hK K
    (try simp only [Act.put, List.setIfInBounds_toArray, List.set_cons_zero, List.set_cons_succ])
    refine plan_end ?_
    go_wp2_with fail
    go_ret
    exact ⟨_, by rw [HV.out]; rfl, rd3, hkf, fun _ => by rw [HV.out]⟩
end Go.Proofs.YtpheifdpjcppdaaGreatDoor
namespace Go.Proofs.YtpheifdpjcppdaaGreatDoor
open Go.RowKit
/-- The first of these keys that was told. -/
def firstT (t : Td) : List (List UInt8) → List UInt8 → List UInt8
  | [], s => s
  | k :: ks, s => match t k with
    | some p => p.1
    | none => firstT t ks s
theorem first_some {t : Td} {k : List UInt8} {p : List UInt8 × Nat} (h : t k = some p) (ks : List (List UInt8)) (s : List UInt8) : firstT t (k :: ks) s = p.1 := by rw [firstT, h]
theorem first_none {t : Td} {k : List UInt8} (h : t k = none) (ks : List (List UInt8)) (s : List UInt8) : firstT t (k :: ks) s = firstT t ks s := by rw [firstT, h]
theorem tvZero (w : World) : (zeroValue 90).run Tryz.prog w = .ok (.agg #[.string ⟨#[]⟩, .int .i64 0]) w := by kernel_rfl
variable {w0 w w' : World} {gr mf : Nat} {bv lv pv : Value} {L : List En} {f : Nat → Value} {PL : List Nat} {t : Td} {fr : Nat}
/-- 'told[key]' with ok. -/
theorem RT.get (rd : RT w0 gr mf bv lv pv L f PL t fr w) (k : List UInt8) : (Instr.lookup 55 (.map (some mf)) (.string (bs k)) true).run Tryz.prog w = .ok (.tuple #[((t k).map tvV).getD (.agg #[.string ⟨#[]⟩, .int .i64 0]), .bool (t k).isSome]) w := by
  obtain ⟨mo, hmo, hM⟩ := rd.mp
  have := mapS_get w toldU Tryz.underlying9 tvZero hmo hM k
  rw [this]
  simp [tdM]
set_option maxRecDepth 20000 in
set_option maxHeartbeats 8000000 in
theorem etext_any (rd : RT w0 gr mf bv lv pv L f PL t fr w) (gb : Nat) (hbox : w.cell? ⟨gb, 0, none⟩ = some (.pointer (some ⟨gr, 0, none⟩))) (s : List UInt8) (ks : List (List UInt8)) (kv : Value) (hks : Sl 1 Rtext nowhere w kv ks) (hkl : ks.length ≤ 5) :
    Calls Tryz.prog 70 #[.string (bs s), kv, .pointer (some ⟨gb, 0, none⟩)] w fun r w' => r = .returned (.string (bs (firstT t ks s))) ∧ Below w.heap.size w w' := by
  obtain ⟨A, cap, rfl, hc1, hc2⟩ := hks.form
  unfold maxLen at hc2
  obtain ⟨R, HR⟩ : ∃ R, Hid (firstT t ks s = R) := ⟨_, Lib.hid rfl⟩
  rw [HR.out]
  go_enter Tryz.func70, Tryz.ntmps70
  go_wp2_with fail
  go_loopg [12] ks.length (fun G s12 wr => ∃ k : Nat, k ≤ ks.length ∧ G = ks.length - k ∧ s12 = .int .i64 (k : Int) ∧ Below w.heap.size w wr ∧ Hid (firstT t (ks.drop k) s = R))
  case atStart => exact ⟨0, Nat.zero_le _, rfl, rfl, Below.refl _ _, HR⟩
  case round =>
    clear HR
    obtain ⟨k, hk, rfl, rfl, hb, HR⟩ := hrel
    by_cases hlt : k < ks.length
    · have t1 : decide ((k : Int) < (ks.length : Int)) = true := decide_eq_true (by omega)
      have i1 : (0 : Int) ≤ (k : Int) := by omega
      have i2 : (k : Int) < (ks.length : Int) := by omega
      have wk : IntKind.i64.wrap ((k : Int) + 1) = (k : Int) + 1 := i64_in _ (by omega) (by omega)
      obtain ⟨_, _, _, b, off, rfl, hc⟩ := (hks.keep good_text (Kept.of_below hb _)).text (by omega)
      have hck := hc k hlt
      have HD := Lib.hid (drop_cons ks k hlt)
      generalize ks[k] = key at hck HD
      have rdr := rd.below hb
      have hget := rdr.get key
      have r3 : wr.cell? ⟨gr, 3, none⟩ = some (.map (some mf)) := by have := rdr.blk.cell 3; simpa using this
      have hbx : wr.cell? ⟨gb, 0, none⟩ = some (.pointer (some ⟨gr, 0, none⟩)) := (Kept.of_below hb nowhere).cell hbox (fun h => h)
      clear hc rd hbox hks rdr
      cases htk : t key with
      | some p =>
        obtain ⟨pt, pn⟩ := p
        have HV : Hid (R = pt) := Lib.hid (by rw [← HR.out, HD.out, first_some htk])
        rw [htk] at hget
        have hget2 : (Instr.lookup 55 (.map (some mf)) (.string (bs key)) true).run Tryz.prog wr = .ok (.tuple #[.agg #[.string (bs pt), .int .i64 (pn : Int)], .bool true]) wr := hget
        clear hget HR HD htk
        go_wp2_with fail
        go_ret
        exact ⟨by rw [HV.out]; rfl, hb.alloc hb.size _⟩
      | none =>
        have HV : Hid (firstT t (ks.drop (k + 1)) s = R) := Lib.hid (by rw [← HR.out, HD.out, first_none htk])
        rw [htk] at hget
        have hget2 : (Instr.lookup 55 (.map (some mf)) (.string (bs key)) true).run Tryz.prog wr = .ok (.tuple #[.agg #[.string ⟨#[]⟩, .int .i64 0], .bool false]) wr := hget
        clear hget HR HD htk
        go_wp2_with fail
        go_roundg (ks.length - (k + 1))
        case measure => omega
        case rel => exact ⟨k + 1, by omega, rfl, by simp, hb.alloc hb.size _, HV⟩
    · have t1 : decide ((k : Int) < (ks.length : Int)) = false := decide_eq_false (by omega)
      have HV : Hid (R = s) := Lib.hid (by rw [← HR.out, List.drop_eq_nil_of_le (by omega)]; rfl)
      clear HR
      go_wp2_with fail
      go_ret
      exact ⟨by rw [HV.out]; rfl, hb⟩
set_option maxRecDepth 20000 in
set_option maxHeartbeats 8000000 in
theorem enum_any (rd : RT w0 gr mf bv lv pv L f PL t fr w) (gb : Nat) (hbox : w.cell? ⟨gb, 0, none⟩ = some (.pointer (some ⟨gr, 0, none⟩))) (n : Nat) (key : List UInt8) :
    Calls Tryz.prog 71 #[.int .i64 (n : Int), .string (bs key), .pointer (some ⟨gb, 0, none⟩)] w fun r w' => r = .returned (.int .i64 (orN t key n : Int)) ∧ Below w.heap.size w w' := by
  have hget := rd.get key
  have r3 : w.cell? ⟨gr, 3, none⟩ = some (.map (some mf)) := by have := rd.blk.cell 3; simpa using this
  clear rd
  have HO : Hid (orN t key n = match t key with
    | some p => p.2
    | none => n) := Lib.hid rfl
  cases htk : t key with
  | some p =>
    obtain ⟨pt, pn⟩ := p
    have HV : Hid (orN t key n = pn) := Lib.hid (by rw [orN, htk])
    rw [htk] at hget
    have hget2 : (Instr.lookup 55 (.map (some mf)) (.string (bs key)) true).run Tryz.prog w = .ok (.tuple #[.agg #[.string (bs pt), .int .i64 (pn : Int)], .bool true]) w := hget
    clear hget HO htk
    go_enter Tryz.func71, Tryz.ntmps71
    go_wp2_with fail
    go_ret
    exact ⟨by rw [HV.out]; rfl, (Below.refl _ w).alloc (Nat.le_refl _) _⟩
  | none =>
    have HV : Hid (orN t key n = n) := Lib.hid (by rw [orN, htk])
    rw [htk] at hget
    have hget2 : (Instr.lookup 55 (.map (some mf)) (.string (bs key)) true).run Tryz.prog w = .ok (.tuple #[.agg #[.string ⟨#[]⟩, .int .i64 0], .bool false]) w := hget
    clear hget HO htk
    go_enter Tryz.func71, Tryz.ntmps71
    go_wp2_with fail
    go_ret
    exact ⟨by rw [HV.out]; rfl, (Below.refl _ w).alloc (Nat.le_refl _) _⟩
end Go.Proofs.YtpheifdpjcppdaaGreatDoor
