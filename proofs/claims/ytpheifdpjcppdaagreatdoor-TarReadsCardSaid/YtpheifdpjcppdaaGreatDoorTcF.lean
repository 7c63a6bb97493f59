/- The document's records, tell (tar). Printed by gen_tcf.py, then gen_tcg.py. -/
import Derived.Test.YtpheifdpjcppdaaGreatDoorTcD
import Derived.Test.YtpheifdpjcppdaaGreatDoorTcE
namespace Go.Proofs.YtpheifdpjcppdaaGreatDoor
open Go.RowKit
theorem ext_fld (s : List UInt8) (a b : Nat) : (bs s).extract a b = bs (fldB s a (b - a)) := bs_of _ _ (by simp [ByteArray.data_extract, bs, fldB])
theorem num_text (k : List UInt8) (h : isNum k = true) : isText k = false := by
  have hk2 : k = kSize ∨ k = kUid ∨ k = kGid ∨ k = kTime := by simpa [isNum] using h
  rcases hk2 with rfl | rfl | rfl | rfl <;> rfl
set_option maxRecDepth 20000 in
set_option maxHeartbeats 32000000 in
theorem rrecords_any (t : Td) (fr gt : Nat) (w : World) (hB : Blk w gt 62 (toldV t fr)) (s0 : List UInt8) (hs0 : s0.length ≤ 100000000) :
    Calls Tryz.prog 52 #[.pointer (some ⟨gt, 0, none⟩), .string (bs s0)] w fun r w' => r = .returned (.int .i64 (recS (s0.length + 1) t s0).1) ∧ ((recS (s0.length + 1) t s0).1 = 0 → Blk w' gt 62 (toldV (recS (s0.length + 1) t s0).2 fr)) ∧ Kept (fun k => k = gt) w w' := by
  obtain ⟨R, HR⟩ : ∃ R, Hid (recS (s0.length + 1) t s0 = R) := ⟨_, Lib.hid rfl⟩
  rw [HR.out]
  go_enter Tryz.func52, Tryz.ntmps52
  go_wp2_with fail
  go_loopg [1] s0.length (fun G s1 wr => ∃ (fu : Nat) (s : List UInt8) (t1 : Td), G = s.length ∧ s.length < fu ∧ s1 = .string (bs s) ∧ Blk wr gt 62 (toldV t1 fr) ∧ Kept (fun k => k = gt) w wr ∧ s.length ≤ s0.length ∧ Hid (recS fu t1 s = R))
  case atStart => exact ⟨s0.length + 1, s0, t, rfl, by omega, rfl, hB, Kept.refl _ _, Nat.le_refl _, HR⟩
  case round =>
   clear hB HR
   obtain ⟨fu, s, t1, rfl, hfu, rfl, hB, hkw, hsd, HR⟩ := hrel
   obtain ⟨f', rfl⟩ : ∃ f', fu = f' + 1 := ⟨fu - 1, by omega⟩
   have hsz := bs_size s
   by_cases hs1 : s = []
   · have HV : Hid (R = (0, t1)) := Lib.hid (by rw [← HR.out, recS, if_pos hs1])
     have hemp2 : (bs s).toList = [] := by rw [hs1]; simp [bs]
     have hemp : (bs s).toList.isEmpty = true := by rw [hemp2]; rfl
     clear HR hs1
     go_wp2_with fail
     go_ret
     exact ⟨by rw [HV.out]; rfl, fun _ => by rw [HV.out]; exact hB, hkw⟩
   have hpos : 0 < s.length := List.length_pos_iff.2 hs1
   have hne2 : ¬ (bs s).toList = [] := toList_ne (bs s) (by rw [hsz]; exact hpos)
   have hne : (bs s).toList.isEmpty = false := by simpa using hne2
   have HRS0 : Hid (recP s = none → R = (3, t1)) := Lib.hid fun h => by rw [← HR.out, recS, if_neg hs1, h]
   have HRS1 : Hid (∀ n k v, recP s = some (n, k, v) → R = if (keyT t1 k v).1 = 0 then recS f' (keyT t1 k v).2 (s.drop n) else ((keyT t1 k v).1, t1)) := Lib.hid fun n k v h => by rw [← HR.out, recS, if_neg hs1, h]
   have HRP : Hid (recP s = if Lib.indexByte s 32 < 0 then none
    else if udCode (s.take (Lib.indexByte s 32).toNat) ≠ 0 ∨ decNum (s.take (Lib.indexByte s 32).toNat) ≤ (Lib.indexByte s 32).toNat + 1 ∨ s.length < decNum (s.take (Lib.indexByte s 32).toNat) ∨ s.getD (decNum (s.take (Lib.indexByte s 32).toNat) - 1) 0 ≠ 10 then none
    else if Lib.indexByte (fldB s ((Lib.indexByte s 32).toNat + 1) (decNum (s.take (Lib.indexByte s 32).toNat) - 1 - ((Lib.indexByte s 32).toNat + 1))) 61 < 0 then none
    else some (decNum (s.take (Lib.indexByte s 32).toNat),
      (fldB s ((Lib.indexByte s 32).toNat + 1) (decNum (s.take (Lib.indexByte s 32).toNat) - 1 - ((Lib.indexByte s 32).toNat + 1))).take (Lib.indexByte (fldB s ((Lib.indexByte s 32).toNat + 1) (decNum (s.take (Lib.indexByte s 32).toNat) - 1 - ((Lib.indexByte s 32).toNat + 1))) 61).toNat,
      (fldB s ((Lib.indexByte s 32).toNat + 1) (decNum (s.take (Lib.indexByte s 32).toNat) - 1 - ((Lib.indexByte s 32).toNat + 1))).drop ((Lib.indexByte (fldB s ((Lib.indexByte s 32).toNat + 1) (decNum (s.take (Lib.indexByte s 32).toNat) - 1 - ((Lib.indexByte s 32).toNat + 1))) 61).toNat + 1))) := Lib.hid rfl
   clear HR hs1
   have hf := fun W => rfnd_any (bs s) 32 W (by rw [hsz]; omega)
   rw [bs_list] at hf
   have hile := indexByte_lt s 32
   have hige := Lib.indexByte_ge s 32
   generalize Lib.indexByte s 32 = io at hf HRP hile hige
   by_cases hio : io < 0
   · have t1b : decide (io < 0) = true := decide_eq_true hio
     have HV : Hid (R = (3, t1)) := Lib.hid (HRS0.out (by rw [HRP.out, if_pos hio]))
     clear HRS0 HRS1 HRP hile hige
     go_wp2_with (go_at_call 53; refine (hf _).mono ?_; rintro r W1 ⟨rfl, rfl⟩)
     go_ret
     exact ⟨by rw [HV.out]; rfl, fun h => by rw [HV.out] at h; exact absurd h (show ¬ (3 : Int) = 0 by decide), hkw⟩
   obtain ⟨i, rfl⟩ := Int.eq_ofNat_of_zero_le (show 0 ≤ io by omega)
   have hil : i < s.length := by omega
   have t1b : decide ((i : Int) < 0) = false := decide_eq_false (by omega)
   have HRP2 : Hid (recP s = if udCode (s.take i) ≠ 0 ∨ decNum (s.take i) ≤ i + 1 ∨ s.length < decNum (s.take i) ∨ s.getD (decNum (s.take i) - 1) 0 ≠ 10 then none
    else if Lib.indexByte (fldB s (i + 1) (decNum (s.take i) - 1 - (i + 1))) 61 < 0 then none
    else some (decNum (s.take i), (fldB s (i + 1) (decNum (s.take i) - 1 - (i + 1))).take (Lib.indexByte (fldB s (i + 1) (decNum (s.take i) - 1 - (i + 1))) 61).toNat, (fldB s (i + 1) (decNum (s.take i) - 1 - (i + 1))).drop ((Lib.indexByte (fldB s (i + 1) (decNum (s.take i) - 1 - (i + 1))) 61).toNat + 1))) := Lib.hid (by rw [HRP.out, if_neg hio]; rfl)
   clear HRP hio hile hige
   have hud := fun W => rundec_any (bs (s.take i)) W (by rw [bs_size, List.length_take]; omega)
   rw [bs_list] at hud
   have HUN : Hid (udCode (s.take i) = 0 → udN (s.take i) = (decNum (s.take i) : Int)) := Lib.hid fun h => by rw [udN, if_pos h]
   have hex : (bs s).extract 0 i = bs (s.take i) := by rw [ext_take _ _ (by rw [hsz]; omega), bs_list]
   have hsi : (i : Int) ≤ (((bs s).size : Nat) : Int) := by rw [hsz]; omega
   generalize udCode (s.take i) = uc at hud HRP2 HUN
   generalize udN (s.take i) = un at hud HUN
   generalize decNum (s.take i) = n at HRP2 HUN
   generalize s.take i = dg at hud hex
   go_upto_region 6 with first
     | (go_at_call 53; refine (hf _).mono ?_; clear hf; rintro r W1 ⟨rfl, rfl⟩)
     | (go_at_call 77; refine (hud _).mono ?_; clear hud; rintro r W2 ⟨rfl, hb2⟩)
   have bN := Blk.new W2 95 #[.slice none 0 0, .int .i64 un, .int .i64 uc]
   have hq3 := hb2.alloc hb2.size (.cells #[.slice none 0 0, .int .i64 un, .int .i64 uc] 95)
   have hB3 := hB.below hq3 hB.lt
   have hk3 := hkw.trans (Kept.of_below hq3 _)
   clear hB hb2 hq3 hkw
   generalize W2.alloc (.cells #[.slice none 0 0, .int .i64 un, .int .i64 uc] 95) = W3 at bN hB3 hk3 ⊢
   generalize W2.heap.size = gN at bN ⊢
   have x1 := bN.cell 1
   have x2 := bN.cell 2
   simp at x1 x2
   clear hex hsi
   obtain ⟨d1, HD1⟩ : ∃ d1, Hid (d1 = i + 1) := ⟨_, Lib.hid rfl⟩
   have wd : IntKind.i64.wrap ((i : Int) + 1) = (d1 : Int) := by rw [i64_in _ (by omega) (by omega), HD1.out]; omega
   rw [← HD1.out] at HRP2
   by_cases hu : uc = 0
   rotate_left
   · have q1 : (uc != 0) = true := by simpa using hu
     have HV : Hid (R = (3, t1)) := Lib.hid (HRS0.out (by rw [HRP2.out, if_pos (.inl hu)]))
     clear HRS0 HRS1 HRP2 HUN hu
     go_wp2_with fail
     go_ret
     exact ⟨by rw [HV.out]; rfl, (fun h => by rw [HV.out] at h; exact absurd h (show ¬ (3 : Int) = 0 by decide)), hk3⟩
   have q1 : (uc != 0) = false := by simpa using hu
   have HUN2 := HUN.out hu
   subst HUN2
   by_cases hn1 : n ≤ d1
   · have q2 : decide ((n : Int) ≤ (d1 : Int)) = true := decide_eq_true (by omega)
     have HV : Hid (R = (3, t1)) := Lib.hid (HRS0.out (by rw [HRP2.out, if_pos (.inr (.inl hn1))]))
     clear HRS0 HRS1 HRP2 HUN hu
     go_wp2_with fail
     go_ret
     exact ⟨by rw [HV.out]; rfl, (fun h => by rw [HV.out] at h; exact absurd h (show ¬ (3 : Int) = 0 by decide)), hk3⟩
   have q2 : decide ((n : Int) ≤ (d1 : Int)) = false := decide_eq_false (by omega)
   have q2b : decide (n ≤ d1) = false := decide_eq_false (by omega)
   by_cases hn2 : s.length < n
   · have q3 : decide ((s.length : Int) < (n : Int)) = true := decide_eq_true (by omega)
     have q3b : decide (s.length < n) = true := decide_eq_true (by omega)
     have HV : Hid (R = (3, t1)) := Lib.hid (HRS0.out (by rw [HRP2.out, if_pos (.inr (.inr (.inl hn2)))]))
     clear HRS0 HRS1 HRP2 HUN hu
     go_wp2_with fail
     go_ret
     exact ⟨by rw [HV.out]; rfl, (fun h => by rw [HV.out] at h; exact absurd h (show ¬ (3 : Int) = 0 by decide)), hk3⟩
   have q3 : decide ((s.length : Int) < (n : Int)) = false := decide_eq_false (by omega)
   have q3b : decide (s.length < n) = false := decide_eq_false (by omega)
   obtain ⟨n1, HN1⟩ : ∃ n1, Hid (n = n1 + 1) := ⟨n - 1, Lib.hid (by omega)⟩
   have wn : IntKind.i64.wrap ((n : Int) - 1) = (n1 : Int) := by rw [i64_in _ (by omega) (by omega), HN1.out]; omega
   have hn1l : n1 < s.length := by have := HN1.out; omega
   have hdn : d1 ≤ n1 := by have := HN1.out; omega
   have e1 : n - 1 = n1 := by rw [HN1.out]; rfl
   have hks : n1 < (bs s).size := by rw [hsz]; exact hn1l
   obtain ⟨c, Hc⟩ : ∃ c, Hid (c = (bs s)[n1]'hks) := ⟨_, Lib.hid rfl⟩
   have hbb : (bs s)[n1]'hks = c := Hc.out.symm
   have HG : Hid (s.getD n1 0 = c) := Lib.hid (by
     rw [Hc.out, List.getD_eq_getElem?_getD, List.getElem?_eq_getElem hn1l]; rfl)
   have hb1 : (0 : Int) ≤ (n1 : Int) := by omega
   have hb2 : (n1 : Int) < (((bs s).size : Nat) : Int) := by rw [hsz]; omega
   have HRP3 : Hid (recP s = if uc ≠ 0 ∨ n ≤ d1 ∨ s.length < n ∨ c ≠ 10 then none
     else if Lib.indexByte (fldB s d1 (n1 - d1)) 61 < 0 then none
     else some (n, (fldB s d1 (n1 - d1)).take (Lib.indexByte (fldB s d1 (n1 - d1)) 61).toNat, (fldB s d1 (n1 - d1)).drop ((Lib.indexByte (fldB s d1 (n1 - d1)) 61).toNat + 1))) := Lib.hid (by rw [HRP2.out, e1, HG.out])
   clear HRP2 HUN HG
   by_cases hc : c = 10
   rotate_left
   · have q4 : ((c.toNat : Int) != 10) = true := by
       have : ((c.toNat : Int) == 10) = false := by rw [show (10 : Int) = (((10 : UInt8).toNat : Nat) : Int) from rfl, beq_byteT]; exact decide_eq_false hc
       simp only [bne, this, Bool.not_false]
     have HV : Hid (R = (3, t1)) := Lib.hid (HRS0.out (by rw [HRP3.out, if_pos (.inr (.inr (.inr hc)))]))
     clear HRS0 HRS1 HRP3 hu hn1 hn2 hc
     go_wp2_with fail
     go_ret
     exact ⟨by rw [HV.out]; rfl, (fun h => by rw [HV.out] at h; exact absurd h (show ¬ (3 : Int) = 0 by decide)), hk3⟩
   have q4 : ((c.toNat : Int) != 10) = false := by rw [hc]; rfl
   have HRP4 : Hid (recP s = if Lib.indexByte (fldB s d1 (n1 - d1)) 61 < 0 then none
     else some (n, (fldB s d1 (n1 - d1)).take (Lib.indexByte (fldB s d1 (n1 - d1)) 61).toNat, (fldB s d1 (n1 - d1)).drop ((Lib.indexByte (fldB s d1 (n1 - d1)) 61).toNat + 1))) := Lib.hid (by rw [HRP3.out, if_neg (by rintro (h | h | h | h); exact h hu; exact hn1 h; exact hn2 h; exact h hc)])
   clear HRP3 hu hn1 hn2 hc
   have hml : (fldB s d1 (n1 - d1)).length ≤ s.length := by rw [fldB, List.length_take, List.length_drop]; omega
   have hex2 : (bs s).extract d1 n1 = bs (fldB s d1 (n1 - d1)) := ext_fld s d1 n1
   clear e1
   generalize fldB s d1 (n1 - d1) = rr at HRP4 hml hex2
   have hrz := bs_size rr
   have hf2 := fun W => rfnd_any (bs rr) 61 W (by rw [hrz]; omega)
   rw [bs_list] at hf2
   have hkl := indexByte_lt rr 61
   have hkg := Lib.indexByte_ge rr 61
   generalize Lib.indexByte rr 61 = ko at hf2 HRP4 hkl hkg
   have i1 : (d1 : Int) ≤ (n1 : Int) := by omega
   have i2 : (n1 : Int) ≤ (((bs s).size : Nat) : Int) := by rw [hsz]; omega
   have i3 : (0 : Int) ≤ (d1 : Int) := by omega
   by_cases hko : ko < 0
   · have t2b : decide (ko < 0) = true := decide_eq_true hko
     have HV : Hid (R = (3, t1)) := Lib.hid (HRS0.out (by rw [HRP4.out, if_pos hko]))
     clear HRS0 HRS1 HRP4 hko hkl hkg
     go_wp2_with (go_at_call 53; refine (hf2 _).mono ?_; rintro r W1 ⟨rfl, rfl⟩)
     go_ret
     exact ⟨by rw [HV.out]; rfl, (fun h => by rw [HV.out] at h; exact absurd h (show ¬ (3 : Int) = 0 by decide)), hk3⟩
   obtain ⟨k, rfl⟩ := Int.eq_ofNat_of_zero_le (show 0 ≤ ko by omega)
   have hkrl : k < rr.length := by omega
   have t2b : decide ((k : Int) < 0) = false := decide_eq_false (by omega)
   have HR2 : Hid (R = if (keyT t1 (rr.take k) (rr.drop (k + 1))).1 = 0 then recS f' (keyT t1 (rr.take k) (rr.drop (k + 1))).2 (s.drop n) else ((keyT t1 (rr.take k) (rr.drop (k + 1))).1, t1)) := Lib.hid (HRS1.out n _ _ (by rw [HRP4.out, if_neg hko]; rfl))
   clear HRS0 HRS1 HRP4 hko hkl hkg
   have hvl : (rr.drop (k + 1)).length ≤ s.length := by rw [List.length_drop]; omega
   have hex3 : (bs rr).extract 0 k = bs (rr.take k) := by rw [ext_take _ _ (by rw [hrz]; omega), bs_list]
   obtain ⟨k1, HK1⟩ : ∃ k1, Hid (k1 = k + 1) := ⟨_, Lib.hid rfl⟩
   have wk : IntKind.i64.wrap ((k : Int) + 1) = (k1 : Int) := by rw [i64_in _ (by omega) (by omega), HK1.out]; omega
   rw [← HK1.out] at HR2 hvl
   have hex4 : (bs rr).extract k1 rr.length = bs (rr.drop k1) := by rw [← hrz, ext_drop, bs_list]
   have i4 : (k : Int) ≤ (((bs rr).size : Nat) : Int) := by rw [hrz]; omega
   have i5 : (k1 : Int) ≤ (((bs rr).size : Nat) : Int) := by rw [hrz, HK1.out]; omega
   have i6 : (0 : Int) ≤ (k1 : Int) := by omega
   have i7 : (0 : Int) ≤ (k : Int) := by omega
   have i8 : (k : Int) ≤ (rr.length : Int) := by omega
   have i9 : (k1 : Int) ≤ (rr.length : Int) := by rw [HK1.out]; omega
   have i10 : k ≤ rr.length := by omega
   have i11 : k1 ≤ rr.length := by rw [HK1.out]; omega
   have i12 : ¬ rr.length < k := by omega
   have i13 : ¬ rr.length < k1 := by omega
   generalize rr.take k = key at HR2 hex3
   generalize rr.drop k1 = val at HR2 hex4 hvl
   go_upto_region 12 with (go_at_call 53; refine (hf2 _).mono ?_; clear hf2; rintro r W1 ⟨rfl, rfl⟩)
   refine wp_region_plan (fun _ => True) [(false, 0), (false, 1), (false, 2), (false, 3), (false, 4), (false, 5), (false, 6), (false, 7), (false, 8)] (by kernel_rfl) (by kernel_rfl) (trivial) ?_
   simp only [planOps, List.map, List.getD_cons_zero, List.getD_cons_succ]
   iterate 9 ((first | refine plan_quiet (v := ?_) rfl rfl (fun w' hw' => ?_) ?_ | refine plan_calm (v := ?_) (tt_of) rfl (fun w' hw' => ?_) ?_); rotate_left; (focus (go_simp <;> (first | with_reducible rfl | (rw [if_neg (by simp [undef])]; try rfl) | omega))); simp only [Act.put, List.setIfInBounds_toArray, List.set_cons_zero, List.set_cons_succ])
   refine plan_end ?_
   have hB4 : Blk W3.drew gt 62 (toldV t1 fr) := hB3
   have bN4 : Blk W3.drew gN 95 #[.slice none 0 0, .int .i64 (n : Int), .int .i64 uc] := bN
   have hk4 : Kept (fun k => k = gt) w W3.drew := hk3.trans (Kept.of_below ((Below.refl _ W3).drew) _)
   have hne : gN ≠ gt := Blk.apartT bN hB3 (by decide)
   have hnd : d1 < n := by have := HN1.out; omega
   have hnl : n ≤ s.length := by have := HN1.out; omega
   have hexn : (bs s).extract n s.length = bs (s.drop n) := by rw [← hsz, ext_drop, bs_list]
   have j1 : (n : Int) ≤ (s.length : Int) := by omega
   have j2 : (0 : Int) ≤ (n : Int) := by omega
   clear hB3 bN hk3 x1 x2 hex2 hex3 hex4 i1 i2 i3 i4 i5 i6 i7 i8 i9 i10 i11 i12 i13 hbb hb1 hb2 q1 q2 q2b q3 q3b q4 wd wn wk t1b t2b hrz hks Hc
   generalize W3.drew = W4 at hB4 bN4 hk4 ⊢
   go_upto_region 13 with fail
   go_cut [78] (fun s78 wx => s78 = .bool (isNum key) ∧ W4 = wx)
   case first =>
     by_cases h0 : key = kSize
     · have hj := h0
       have e0 : ((bs key).toList == [115, 105, 122, 101]) = true := by rw [beq_bytes, hj]; rfl
       have e1 : ((bs key).toList == [117, 105, 100]) = false := by rw [beq_bytes, hj]; rfl
       have e2 : ((bs key).toList == [103, 105, 100]) = false := by rw [beq_bytes, hj]; rfl
       have e3 : ((bs key).toList == [109, 116, 105, 109, 101]) = false := by rw [beq_bytes, hj]; rfl
       have HV : Hid (isNum key = true) := Lib.hid (by rw [hj]; rfl)
       clear hj h0
       go_wp2_with fail
       go_meet
       exact ⟨by rw [HV.out], rfl⟩
     by_cases h1 : key = kUid
     · have hj := h1
       have e0 : ((bs key).toList == [115, 105, 122, 101]) = false := by rw [beq_bytes, hj]; rfl
       have e1 : ((bs key).toList == [117, 105, 100]) = true := by rw [beq_bytes, hj]; rfl
       have e2 : ((bs key).toList == [103, 105, 100]) = false := by rw [beq_bytes, hj]; rfl
       have e3 : ((bs key).toList == [109, 116, 105, 109, 101]) = false := by rw [beq_bytes, hj]; rfl
       have HV : Hid (isNum key = true) := Lib.hid (by rw [hj]; rfl)
       clear hj h0 h1
       go_wp2_with fail
       go_meet
       exact ⟨by rw [HV.out], rfl⟩
     by_cases h2 : key = kGid
     · have hj := h2
       have e0 : ((bs key).toList == [115, 105, 122, 101]) = false := by rw [beq_bytes, hj]; rfl
       have e1 : ((bs key).toList == [117, 105, 100]) = false := by rw [beq_bytes, hj]; rfl
       have e2 : ((bs key).toList == [103, 105, 100]) = true := by rw [beq_bytes, hj]; rfl
       have e3 : ((bs key).toList == [109, 116, 105, 109, 101]) = false := by rw [beq_bytes, hj]; rfl
       have HV : Hid (isNum key = true) := Lib.hid (by rw [hj]; rfl)
       clear hj h0 h1 h2
       go_wp2_with fail
       go_meet
       exact ⟨by rw [HV.out], rfl⟩
     by_cases h3 : key = kTime
     · have hj := h3
       have e0 : ((bs key).toList == [115, 105, 122, 101]) = false := by rw [beq_bytes, hj]; rfl
       have e1 : ((bs key).toList == [117, 105, 100]) = false := by rw [beq_bytes, hj]; rfl
       have e2 : ((bs key).toList == [103, 105, 100]) = false := by rw [beq_bytes, hj]; rfl
       have e3 : ((bs key).toList == [109, 116, 105, 109, 101]) = true := by rw [beq_bytes, hj]; rfl
       have HV : Hid (isNum key = true) := Lib.hid (by rw [hj]; rfl)
       clear hj h0 h1 h2 h3
       go_wp2_with fail
       go_meet
       exact ⟨by rw [HV.out], rfl⟩
     have e0 : ((bs key).toList == [115, 105, 122, 101]) = false := by rw [beq_bytes]; exact decide_eq_false h0
     have e1 : ((bs key).toList == [117, 105, 100]) = false := by rw [beq_bytes]; exact decide_eq_false h1
     have e2 : ((bs key).toList == [103, 105, 100]) = false := by rw [beq_bytes]; exact decide_eq_false h2
     have e3 : ((bs key).toList == [109, 116, 105, 109, 101]) = false := by rw [beq_bytes]; exact decide_eq_false h3
     have HV : Hid (isNum key = false) := Lib.hid (by simp [isNum, h0, h1, h2, h3])
     clear h0 h1 h2 h3
     go_wp2_with fail
     go_meet
     exact ⟨by rw [HV.out], rfl⟩
   case rest =>
   obtain ⟨rfl, rfl⟩ := hcut
   have HKY : Hid (keyT t1 key val = if isText key = true then (0, updS t1 key (val, 0)) else if isNum key = true then (if udCode val = 0 then (0, updS t1 key (val, decNum val)) else (udCode val, t1)) else (9, t1)) := Lib.hid rfl
   cases hnum : isNum key with
   | true =>
     have HTX := num_text key hnum
     rw [HTX, hnum] at HKY
     have HKY2 : Hid (keyT t1 key val = if udCode val = 0 then (0, updS t1 key (val, decNum val)) else (udCode val, t1)) := HKY
     have Hnum := Lib.hid hnum
     have HUN : Hid (udCode val = 0 → udN val = (decNum val : Int)) := Lib.hid fun h => by rw [udN, if_pos h]
     clear HKY HTX hnum
     have hud := fun W => rundec_any (bs val) W (by rw [bs_size]; omega)
     rw [bs_list] at hud
     generalize udCode val = uc2 at hud HKY2 HUN
     generalize udN val = un2 at hud HUN
     generalize decNum val = dn2 at HKY2 HUN
     go_upto_region 15 with (go_at_call 77; refine (hud _).mono ?_; clear hud; rintro r W5 ⟨rfl, hb5⟩)
     have bM := Blk.new W5 95 #[.slice none 0 0, .int .i64 un2, .int .i64 uc2]
     have hq5 := hb5.alloc hb5.size (.cells #[.slice none 0 0, .int .i64 un2, .int .i64 uc2] 95)
     have hB6 := hB4.below hq5 hB4.lt
     have bN6 := bN4.below hq5 bN4.lt
     have hk6 := hk4.trans (Kept.of_below hq5 _)
     clear hB4 bN4 hb5 hq5 hk4
     generalize W5.alloc (.cells #[.slice none 0 0, .int .i64 un2, .int .i64 uc2] 95) = W6 at bM hB6 bN6 hk6 ⊢
     generalize W5.heap.size = gM at bM ⊢
     have x1 := bM.cell 1
     have x2 := bM.cell 2
     simp at x1 x2
     by_cases hu2 : uc2 = 0
     rotate_left
     · have q1 : (uc2 != 0) = true := by simpa using hu2
       have HV : Hid (R = (uc2, t1)) := Lib.hid (by rw [HR2.out, HKY2.out, if_neg hu2]; rw [if_neg hu2])
       have HU := Lib.hid hu2
       clear HR2 HKY2 HUN hu2
       go_wp2_with fail
       go_ret
       exact ⟨by rw [HV.out]; rfl, (fun h => by rw [HV.out] at h; exact absurd h HU.out), hk6⟩
     have q1 : (uc2 != 0) = false := by simpa using hu2
     have HUN2 := HUN.out hu2
     subst HUN2
     have HRX : Hid (recS f' (updS t1 key (val, dn2)) (s.drop n) = R) := Lib.hid (by rw [HR2.out, HKY2.out, if_pos hu2]; rfl)
     clear HR2 HKY2 HUN hu2
     have hnb := rnumbers_any t1 fr gt W6 hB6 key val dn2 Hnum.out
     clear hB6
     go_upto_region 20 with (go_at_call 78; refine hnb.mono ?_; clear hnb; rintro r W7 ⟨rfl, HBX, hk7⟩)
     have bN7 := hk7.blk bN6 hne
     have HKX := hk6.trans hk7
     have y1 := bN7.cell 1
     simp at y1
     clear hk6 hk7 bN6 bM x1 x2
     go_wp2_with fail
     go_roundg (s.drop n).length
     case measure => rw [List.length_drop]; omega
     case rel => exact ⟨f', s.drop n, (updS t1 key (val, dn2)), rfl, (by rw [List.length_drop]; omega), rfl, HBX, HKX, (by rw [List.length_drop]; omega), HRX⟩
   | false =>
     rw [hnum] at HKY
     have htx := rtexts_any t1 fr gt W4 hB4 key val
     have HKY2 : Hid (keyT t1 key val = if isText key = true then (0, updS t1 key (val, 0)) else (9, t1)) := HKY
     clear HKY hnum
     cases htxt : isText key with
     | false =>
       rw [htxt] at htx HKY2
       have HV : Hid (R = (9, t1)) := Lib.hid (by rw [HR2.out, HKY2.out]; rfl)
       clear HR2 HKY2 htxt
       go_wp2_with (go_at_call 79; refine htx.mono ?_; clear htx; rintro r W7 ⟨rfl, _, hk7⟩)
       go_ret
       exact ⟨by rw [HV.out]; rfl, (fun h => by rw [HV.out] at h; exact absurd h (show ¬ (9 : Int) = 0 by decide)), hk4.trans hk7⟩
     | true =>
       rw [htxt] at htx HKY2
       have HRX : Hid (recS f' (updS t1 key (val, 0)) (s.drop n) = R) := Lib.hid (by rw [HR2.out, HKY2.out]; rfl)
       clear HR2 HKY2 htxt hB4
       go_upto_region 20 with (go_at_call 79; refine htx.mono ?_; clear htx; rintro r W7 ⟨rfl, HBX0, hk7⟩)
       have HBX := HBX0 trivial
       have bN7 := hk7.blk bN4 hne
       have HKX := hk4.trans hk7
       have y1 := bN7.cell 1
       simp at y1
       clear hk4 hk7 bN4 HBX0
       go_wp2_with fail
       go_roundg (s.drop n).length
       case measure => rw [List.length_drop]; omega
       case rel => exact ⟨f', s.drop n, (updS t1 key (val, 0)), rfl, (by rw [List.length_drop]; omega), rfl, HBX, HKX, (by rw [List.length_drop]; omega), HRX⟩
theorem told_fr (t : Td) (fr p : Nat) : toldV t p = (toldV t fr).setIfInBounds 21 (.int .i64 (p : Int)) := rfl
set_option maxRecDepth 20000 in
set_option maxHeartbeats 16000000 in
theorem rtell_any (t : Td) (fr gt : Nat) (w : World) (hB : Blk w gt 62 (toldV t fr)) (kd : UInt8) (hkd : isTell kd = true) (d : List UInt8) (hd : d.length ≤ 100000000) (p : Nat) :
    Calls Tryz.prog 29 #[.pointer (some ⟨gt, 0, none⟩), .int .u8 (kd.toNat : Int), .string (bs d), .int .i64 (p : Int)] w fun r w' => r = .returned (.int .i64 (tellS t kd d).1) ∧ ((tellS t kd d).1 = 0 → Blk w' gt 62 (toldV (tellS t kd d).2 (if noneB t = true then p else fr))) ∧ Kept (fun k => k = gt) w w' := by
  obtain ⟨fr2, HF⟩ : ∃ f, Hid ((if noneB t = true then p else fr) = f) := ⟨_, Lib.hid rfl⟩
  rw [HF.out]
  have HT : Hid (tellS t kd d = if kd = 120 then recS (d.length + 1) (updS t [120] ([], 0)) d else if Lib.indexByte d 0 < 0 then (3, t) else (0, updS t [kd] (upZ d, 0))) := Lib.hid rfl
  obtain ⟨T, HTT⟩ : ∃ T, Hid (tellS t kd d = T) := ⟨_, Lib.hid rfl⟩
  rw [HTT.out] at HT ⊢
  have HBB := Lib.hid hB
  have x0 := hB.cell 0
  have x1 := hB.cell 1
  have x2 := hB.cell 2
  have f21 := hB.frozen 21
  have x21 := hB.cell 21
  simp [toldV] at x0 x1 x2 x21
  have HNB : Hid (noneB t = (!(t [76]).isSome && !(t [75]).isSome && !(t [120]).isSome)) := Lib.hid (by
    unfold noneB
    cases t [76] <;> cases t [75] <;> cases t [120] <;> rfl)
  obtain ⟨bL, HbL⟩ : ∃ b, Hid ((t [76]).isSome = b) := ⟨_, Lib.hid rfl⟩
  obtain ⟨bK, HbK⟩ : ∃ b, Hid ((t [75]).isSome = b) := ⟨_, Lib.hid rfl⟩
  obtain ⟨bX, HbX⟩ : ∃ b, Hid ((t [120]).isSome = b) := ⟨_, Lib.hid rfl⟩
  rw [HbL.out] at x0 HNB
  rw [HbK.out] at x1 HNB
  rw [HbX.out] at x2 HNB
  clear HbL HbK HbX hB HTT
  go_enter Tryz.func29, Tryz.ntmps29
  obtain ⟨NB, HNV⟩ : ∃ b, Hid (noneB t = b) := ⟨_, Lib.hid rfl⟩
  rw [HNV.out] at HF HNB
  clear HNV
  go_upto_region 1 with fail
  go_cut [27] (fun s27 wx => s27 = .bool NB ∧ w = wx)
  case first =>
    clear HF HBB HT
    cases bL <;> cases bK <;> cases bX
    all_goals
      have HV := Lib.hid HNB.out
      clear HNB
      go_wp2_with fail
      go_meet
      exact ⟨by rw [HV.out]; rfl, rfl⟩
  case rest =>
  obtain ⟨rfl, rfl⟩ := hcut
  clear HNB x0 x1 x2
  go_upto_if 27 with fail
  go_cut [] (fun wx => Blk wx gt 62 (toldV t fr2) ∧ Kept (fun k => k = gt) w wx)
  case first =>
    cases NB with
    | true =>
      have HV : Hid (fr2 = p) := Lib.hid (by rw [← HF.out]; rfl)
      clear HF
      go_wp2_with fail
      go_meet
      exact ⟨by rw [HV.out, told_fr t fr p]; exact HBB.out.set 21, (Kept.refl (fun k => k = gt) w).setCell (p := ⟨gt, 21, none⟩) _ fun _ => rfl⟩
    | false =>
      have HV : Hid (fr2 = fr) := Lib.hid (by rw [← HF.out]; rfl)
      clear HF
      go_wp2_with fail
      go_meet
      exact ⟨by rw [HV.out]; exact HBB.out, Kept.refl _ _⟩
  case rest =>
  clear x21 f21 HBB HF
  obtain ⟨hB, hk⟩ := hcut
  have f2 := hB.frozen 2
  have f0 := hB.frozen 0
  have f3 := hB.frozen 3
  have f1 := hB.frozen 1
  have f4 := hB.frozen 4
  have x0 := hB.cell 0
  have x1 := hB.cell 1
  have x2 := hB.cell 2
  have x3 := hB.cell 3
  have x4 := hB.cell 4
  simp [toldV] at x0 x1 x2 x3 x4
  have hk3 : kd = 120 ∨ kd = 76 ∨ kd = 75 := by
    have : kd = 76 ∨ kd = 75 ∨ kd = 120 := by simpa [isTell] using hkd
    rcases this with h | h | h
    · exact .inr (.inl h)
    · exact .inr (.inr h)
    · exact .inl h
  clear hkd
  rcases hk3 with rfl | hk3
  · have HV : Hid (recS (d.length + 1) (updS t [120] ([], 0)) d = T) := Lib.hid (by rw [HT.out, if_pos rfl])
    have hB2 : Blk (wc.setCell ⟨gt, 2, none⟩ (.bool true)) gt 62 (toldV (updS t [120] ([], 0)) fr2) := by rw [told_x]; exact hB.set 2
    have hk2 : Kept (fun k => k = gt) w (wc.setCell ⟨gt, 2, none⟩ (.bool true)) := hk.setCell (p := ⟨gt, 2, none⟩) _ fun _ => rfl
    have hrec := rrecords_any _ fr2 gt _ hB2 d hd
    rw [HV.out] at hrec
    clear hB hB2 HT HV
    go_wp2_with (go_at_call 52; refine hrec.mono ?_; clear hrec; rintro r W7 ⟨rfl, hB3, hk3⟩)
    go_ret
    exact ⟨rfl, hB3, hk2.trans hk3⟩
  have hf := fun W => rfnd_any (bs d) 0 W (by rw [bs_size]; omega)
  rw [bs_list] at hf
  have hf2 : ∀ W, Calls Tryz.prog 53 #[.string (bs d), .int .u8 0] W fun e w' => e = .returned (.int .i64 (Lib.indexByte d 0)) ∧ W = w' := hf
  have hu := fun W => rupto_any (bs d) W (by rw [bs_size]; omega)
  rw [bs_list] at hu
  have HT2 : Hid (T = if Lib.indexByte d 0 < 0 then (3, t) else (0, updS t [kd] (upZ d, 0))) := Lib.hid (by
    rw [HT.out, if_neg]
    rcases hk3 with rfl | rfl <;> decide)
  clear HT hf
  generalize Lib.indexByte d 0 = io at hf2 HT2
  by_cases hio : io < 0
  · have t1 : decide (io < 0) = true := decide_eq_true hio
    have HV : Hid (T = (3, t)) := Lib.hid (by rw [HT2.out, if_pos hio])
    clear HT2 hio
    rcases hk3 with rfl | rfl
    all_goals
      go_wp2_with (go_at_call 53; refine (hf2 _).mono ?_; rintro r W7 ⟨rfl, rfl⟩)
      go_ret
      exact ⟨by rw [HV.out]; rfl, (fun h => by rw [HV.out] at h; exact absurd h (show ¬ (3 : Int) = 0 by decide)), hk⟩
  have t1 : decide (io < 0) = false := decide_eq_false hio
  have HV : Hid (T = (0, updS t [kd] (upZ d, 0))) := Lib.hid (by rw [HT2.out, if_neg hio])
  clear HT2 hio
  rcases hk3 with rfl | rfl
  · have hB2 : Blk ((wc.setCell ⟨gt, 0, none⟩ (.bool true)).setCell ⟨gt, 3, none⟩ (.string (bs (upZ d)))) gt 62 (toldV (updS t [76] (upZ d, 0)) fr2) := by rw [told_L]; exact (hB.set 0).set 3
    have HB2 := Lib.hid hB2
    have hk2 := (hk.setCell (p := ⟨gt, 0, none⟩) (.bool true) fun _ => rfl).setCell (p := ⟨gt, 3, none⟩) (.string (bs (upZ d))) fun _ => rfl
    clear hB hB2
    go_wp2_with first
      | (go_at_call 53; refine (hf2 _).mono ?_; rintro r W7 ⟨rfl, rfl⟩)
      | (go_at_call 51; refine (hu _).mono ?_; rintro r W7 ⟨rfl, rfl⟩)
    go_ret
    exact ⟨by rw [HV.out]; rfl, (fun _ => by rw [HV.out]; exact HB2.out), hk2⟩
  · have hB2 : Blk ((wc.setCell ⟨gt, 1, none⟩ (.bool true)).setCell ⟨gt, 4, none⟩ (.string (bs (upZ d)))) gt 62 (toldV (updS t [75] (upZ d, 0)) fr2) := by rw [told_K]; exact (hB.set 1).set 4
    have HB2 := Lib.hid hB2
    have hk2 := (hk.setCell (p := ⟨gt, 1, none⟩) (.bool true) fun _ => rfl).setCell (p := ⟨gt, 4, none⟩) (.string (bs (upZ d))) fun _ => rfl
    clear hB hB2
    go_wp2_with first
      | (go_at_call 53; refine (hf2 _).mono ?_; rintro r W7 ⟨rfl, rfl⟩)
      | (go_at_call 51; refine (hu _).mono ?_; rintro r W7 ⟨rfl, rfl⟩)
    go_ret
    exact ⟨by rw [HV.out]; rfl, (fun _ => by rw [HV.out]; exact HB2.out), hk2⟩
end Go.Proofs.YtpheifdpjcppdaaGreatDoor
