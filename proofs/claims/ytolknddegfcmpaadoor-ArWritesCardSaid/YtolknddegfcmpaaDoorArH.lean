/- The walk of strconv.FormatInt at base 8. -/
import Derived.Test.YtolknddegfcmpaaDoorArG
import Derived.Laws.Bits64b
namespace Go.Proofs.YtolknddegfcmpaaDoor
open Go.RowKit
/-- How many noughts stand behind 8's one. -/
def Deb (w : World) : Prop := w.cell? ⟨5, 7, none⟩ = some (.int .u8 3)
set_option maxRecDepth 20000 in
theorem tz64_any (w : World) (h : Deb w) : Calls Tryd.prog 145 #[.int .u64 8] w fun e w' => e = .returned (.int .i64 3) ∧ w = w' := by
  unfold Deb at h
  have k1 : IntKind.u64.wrap (-8) = 18446744073709551608 := by decide
  have k2 : bits .and .u64 8 18446744073709551608 = 8 := by decide
  have k3 : IntKind.u64.wrap (8 * 285870213051353865) = 2286961704410830920 := by decide
  go_enter Tryd.func145, Tryd.ntmps145
  go_wp2_with fail
  go_ret
  exact ⟨by first | rfl | (simp; done), rfl⟩
set_option maxRecDepth 20000 in
theorem tz_any (w : World) (h : Deb w) : Calls Tryd.prog 132 #[.int .u64 8] w fun e w' => e = .returned (.int .i64 3) ∧ w = w' := by
  have ht := tz64_any w h
  go_enter Tryd.func132, Tryd.ntmps132
  go_wp2_with (go_at_call 145; refine ht.mono ?_; rintro e W5 ⟨rfl, rfl⟩)
  go_ret
  exact ⟨by first | rfl | (simp; done), rfl⟩
theorem ip2_any (w : World) : Calls Tryd.prog 131 #[.int .i64 8] w fun e w' => e = .returned (.bool true) ∧ w = w' := by
  have k2 : bits .and .i64 8 7 = 0 := by decide
  go_enter Tryd.func131, Tryd.ntmps131
  go_wp2_with fail
  go_ret
  exact ⟨by first | rfl | (simp; done), rfl⟩
set_option maxRecDepth 20000 in
set_option maxHeartbeats 8000000 in
theorem fbits_any (n : Nat) (w : World) (hn : n ≤ 100000) (h : Deb w) :
    Calls Tryd.prog 102 #[.slice none 0 0, .int .u64 (n : Int), .int .i64 8, .bool false, .bool false] w fun e w' => e = .returned (.tuple #[.slice none 0 0, .string (bs (octD n))]) ∧ Below w.heap.size w w' := by
  have hp := ip2_any
  go_enter Tryd.func102, Tryd.ntmps102
  go_upto_region 8 with (go_at_call 131; refine (hp _).mono ?_; rintro e W5 ⟨rfl, rfl⟩)
  have hbA : Below w.heap.size w (w.alloc (.cells Tryd.zeroCells169 169)) := (Below.refl _ w).alloc (Nat.le_refl _) _
  have bA : Blk (w.alloc (.cells Tryd.zeroCells169 169)) w.heap.size 169 (List.replicate 65 (Value.int .u8 0)).toArray := by
    have := Blk.new w 169 Tryd.zeroCells169
    rw [show Tryd.zeroCells169 = (List.replicate 65 (Value.int .u8 0)).toArray by kernel_rfl] at this
    rw [show Tryd.zeroCells169 = (List.replicate 65 (Value.int .u8 0)).toArray by kernel_rfl]
    exact this
  have hD := (Kept.of_below hbA nowhere).cell h (fun h => h)
  generalize w.alloc (.cells Tryd.zeroCells169 169) = W1 at hbA bA hD ⊢
  have hgH : w.heap.size ≤ w.heap.size := Nat.le_refl _
  generalize hg : w.heap.size = gA at bA hgH ⊢
  have hgH : w.heap.size ≤ gA := by rw [hg]; exact Nat.le_refl _
  have hz := tz_any W1 hD
  go_upto_region 11 with (go_at_call 132; refine hz.mono ?_; rintro e W5 ⟨rfl, rfl⟩)
  have hdig : ∀ (d : Nat) (hd : d < 8) (hs : d < (⟨#[48, 49, 50, 51, 52, 53, 54, 55, 56, 57, 97, 98, 99, 100, 101, 102, 103, 104, 105, 106, 107, 108, 109, 110, 111, 112, 113, 114, 115, 116, 117, 118, 119, 120, 121, 122]⟩ : ByteArray).size), ((⟨#[48, 49, 50, 51, 52, 53, 54, 55, 56, 57, 97, 98, 99, 100, 101, 102, 103, 104, 105, 106, 107, 108, 109, 110, 111, 112, 113, 114, 115, 116, 117, 118, 119, 120, 121, 122]⟩ : ByteArray)[d]'hs).toNat = 48 + d := by decide
  have HDIG := Lib.hid hdig
  clear hdig hz hp
  have hrow : (List.replicate 65 (Value.int .u8 0)).toArray = (List.replicate 65 (Value.int .u8 0) ++ bvs []).toArray := by simp [bvs]
  rw [hrow] at bA
  go_loopg [1, 13] (n + 1) (fun G s1 s13 wr => ∃ (m k : Nat) (out : List UInt8), G = m + 1 ∧ s1 = .int .u64 (m : Int) ∧ s13 = .int .i64 (k : Int) ∧ m ≤ 100000 ∧ k + out.length = 65 ∧ Hid (octD n = octD m ++ out) ∧ Blk wr gA 169 (List.replicate k (Value.int .u8 0) ++ bvs out).toArray ∧ Below w.heap.size w wr)
  case atStart => exact ⟨n, 65, [], rfl, rfl, rfl, hn, rfl, Lib.hid (by simp), bA, hbA⟩
  case round =>
    obtain ⟨m, k, out, rfl, rfl, rfl, hm, hko, HO, bR, hbR⟩ := hrel
    have hol : out.length ≤ 19 := by
      have h1 := octD_len 18 n (by omega)
      rw [HO.out, List.length_append] at h1
      omega
    have k65 : k ≤ 65 := by omega
    have k46 : 46 ≤ k := by omega
    by_cases h8 : 8 ≤ m
    · have t1 : decide ((8 : Int) ≤ (m : Int)) = true := decide_eq_true (by omega)
      have t1b : decide (8 ≤ m) = true := decide_eq_true h8
      obtain ⟨k1, HK1⟩ : ∃ x, Hid (x + 1 = k) := ⟨k - 1, Lib.hid (by omega)⟩
      have wk1 : IntKind.i64.wrap ((k : Int) - 1) = (k1 : Int) := by have := HK1.out; rw [i64_in _ (by omega) (by omega)]; omega
      have j1 : (0 : Int) ≤ (k1 : Int) := by omega
      have j2 : (k1 : Int) < 65 := by have := HK1.out; omega
      obtain ⟨d, HD⟩ : ∃ x, Hid (x = m % 8) := ⟨_, Lib.hid rfl⟩
      have hd8 : d < 8 := by rw [HD.out]; exact Nat.mod_lt _ (by omega)
      have kand : bits .and .u64 (m : Int) 7 = (d : Int) := by
        rw [HD.out, show (7 : Int) = ((7 : Nat) : Int) from rfl, bits_and_u64_nat m 7 (by omega) (by omega), show m &&& 7 = m % 8 from Nat.and_two_pow_sub_one_eq_mod m 3]
      have hcu : ∃ u, (List.replicate k (Value.int .u8 0) ++ bvs out).toArray[k1]? = some u := by
        refine ⟨_, Array.getElem?_eq_getElem ?_⟩
        have := HK1.out
        simp [bvs]; omega
      obtain ⟨cu, hcu⟩ := hcu
      have hc := bR.cell k1
      rw [hcu] at hc
      have hfz := bR.frozen k1
      have hd36 : d < (⟨#[48, 49, 50, 51, 52, 53, 54, 55, 56, 57, 97, 98, 99, 100, 101, 102, 103, 104, 105, 106, 107, 108, 109, 110, 111, 112, 113, 114, 115, 116, 117, 118, 119, 120, 121, 122]⟩ : ByteArray).size := Nat.lt_of_lt_of_le hd8 (by decide)
      have hdg := HDIG.out d hd8 hd36
      have hdi : (d : Int) < 36 := by omega
      have hdi0 : (0 : Int) ≤ (d : Int) := by omega
      clear hcu
      obtain ⟨b8, Hb8⟩ : ∃ b8 : UInt8, Hid (b8 = UInt8.ofNat (48 + m % 8)) := ⟨_, Lib.hid rfl⟩
      have hb8 : (48 : Int) + (d : Int) = (b8.toNat : Int) := by rw [Hb8.out, UInt8.toNat_ofNat', HD.out]; omega
      have HBR : Hid (Blk (wr.setCell ⟨gA, k1, none⟩ (.int .u8 (48 + (d : Int)))) gA 169 (List.replicate k1 (Value.int .u8 0) ++ bvs (b8 :: out)).toArray) := Lib.hid (by
        have h1 := bR.set (u := .int .u8 (48 + (d : Int))) k1
        rw [hb8] at h1 ⊢
        have e : (List.replicate k (Value.int .u8 0) ++ bvs out).toArray.setIfInBounds k1 (.int .u8 (b8.toNat : Int)) = (List.replicate k1 (Value.int .u8 0) ++ bvs (b8 :: out)).toArray := by
          rw [List.setIfInBounds_toArray, ← HK1.out, List.replicate_succ', List.append_assoc, List.set_append_right _ _ (by simp)]
          simp [bvs]
          rfl
        rw [e] at h1
        exact h1)
      have hbS : Below w.heap.size w (wr.setCell ⟨gA, k1, none⟩ (.int .u8 (48 + (d : Int)))) := hbR.setCell (p := ⟨gA, k1, none⟩) hgH (.int .u8 (48 + (d : Int)))
      have HO2 : Hid (octD n = octD (m / 8) ++ (b8 :: out)) := Lib.hid (by rw [HO.out, oct_big (by omega), Hb8.out]; simp)
      have hko2 : k1 + (b8 :: out).length = 65 := by have := HK1.out; simp; omega
      clear hb8 bR hbR hko
      go_wp2_with fail
      go_roundg (m / 8 + 1)
      case measure => omega
      case rel => exact ⟨m / 8, k1, b8 :: out, rfl, by first | rfl | simp, rfl, by omega, hko2, HO2, HBR.out, hbS⟩
    · have t1 : decide ((8 : Int) ≤ (m : Int)) = false := decide_eq_false (by omega)
      have t1b : decide (8 ≤ m) = false := decide_eq_false h8
      obtain ⟨k1, HK1⟩ : ∃ x, Hid (x + 1 = k) := ⟨k - 1, Lib.hid (by omega)⟩
      have wk1 : IntKind.i64.wrap ((k : Int) - 1) = (k1 : Int) := by have := HK1.out; rw [i64_in _ (by omega) (by omega)]; omega
      have j1 : (0 : Int) ≤ (k1 : Int) := by omega
      have j2 : (k1 : Int) < 65 := by have := HK1.out; omega
      have hcu : ∃ u, (List.replicate k (Value.int .u8 0) ++ bvs out).toArray[k1]? = some u := by
        refine ⟨_, Array.getElem?_eq_getElem ?_⟩
        have := HK1.out
        simp [bvs]; omega
      obtain ⟨cu, hcu⟩ := hcu
      have hc := bR.cell k1
      rw [hcu] at hc
      have hfz := bR.frozen k1
      have hm8 : m < 8 := by omega
      have hd36 : m < (⟨#[48, 49, 50, 51, 52, 53, 54, 55, 56, 57, 97, 98, 99, 100, 101, 102, 103, 104, 105, 106, 107, 108, 109, 110, 111, 112, 113, 114, 115, 116, 117, 118, 119, 120, 121, 122]⟩ : ByteArray).size := Nat.lt_of_lt_of_le hm8 (by decide)
      have hdg := HDIG.out m hm8 hd36
      have hdi : (m : Int) < 36 := by omega
      have hdi0 : (0 : Int) ≤ (m : Int) := by omega
      clear hcu
      obtain ⟨b8, Hb8⟩ : ∃ b8 : UInt8, Hid (b8 = UInt8.ofNat (48 + m)) := ⟨_, Lib.hid rfl⟩
      have hb8 : (48 : Int) + (m : Int) = (b8.toNat : Int) := by rw [Hb8.out, UInt8.toNat_ofNat']; omega
      have HSB : Hid (SB (wr.setCell ⟨gA, k1, none⟩ (.int .u8 (48 + (m : Int)))) (.slice (some ⟨gA, k1, none⟩) (65 - k1) (65 - k1)) (b8 :: out)) := Lib.hid (by
        have h1 := bR.set (u := .int .u8 (48 + (m : Int))) k1
        rw [hb8] at h1 ⊢
        have e : (List.replicate k (Value.int .u8 0) ++ bvs out).toArray.setIfInBounds k1 (.int .u8 (b8.toNat : Int)) = (List.replicate k1 (Value.int .u8 0) ++ bvs (b8 :: out)).toArray := by
          rw [List.setIfInBounds_toArray, ← HK1.out, List.replicate_succ', List.append_assoc, List.set_append_right _ _ (by simp)]
          simp [bvs]
          rfl
        rw [e] at h1
        have hl : (b8 :: out).length = 65 - k1 := by have := HK1.out; simp; omega
        refine ⟨some ⟨gA, k1, none⟩, 65 - k1, by rw [hl], by omega, by unfold maxLen; omega, (fun h => by cases h), fun _ => ⟨gA, k1, rfl, fun j hj => ?_⟩⟩
        have hc2 := h1.cell (k1 + j)
        rw [hc2, List.getElem?_toArray, List.getElem?_append_right (by simp)]
        simp only [List.length_replicate, Nat.add_sub_cancel_left]
        rw [show bvs (b8 :: out) = (b8 :: out).map bv from rfl, List.getElem?_map, List.getElem?_eq_getElem hj]
        rfl)
      have hbS : Below w.heap.size w (wr.setCell ⟨gA, k1, none⟩ (.int .u8 (48 + (m : Int)))) := hbR.setCell (p := ⟨gA, k1, none⟩) hgH (.int .u8 (48 + (m : Int)))
      have HV : Hid (octD n = b8 :: out) := Lib.hid (by rw [HO.out, oct_one hm8, Hb8.out]; rfl)
      have j3 : (k1 : Int) ≤ 65 := by omega
      have j4 : k1 ≤ 65 := by omega
      clear hb8
      go_upto_region 30 with fail
      clear bR hbR hc hfz hdg
      generalize wr.setCell ⟨gA, k1, none⟩ (.int .u8 (48 + (m : Int))) = W9 at HSB hbS ⊢
      have hst := str8 HSB.out
      go_wp2_with fail
      go_ret2
      exact ⟨by rw [HV.out]; rfl, by first | exact hbS | (rw [← hg]; exact hbS)⟩
set_option maxRecDepth 20000 in
theorem format8_any (n : Nat) (w : World) (hn : n ≤ 100000) (h : Deb w) :
    Calls Tryd.prog 40 #[.int .i64 (n : Int), .int .i64 8] w fun e w' => e = .returned (.string (bs (octD n))) ∧ Below w.heap.size w w' := by
  have hf := fbits_any n w hn h
  have hfi : Calls Tryd.prog 65 #[.int .i64 (n : Int), .int .i64 8] w fun e w' => e = .returned (.string (bs (octD n))) ∧ Below w.heap.size w w' := by
    have wn : IntKind.u64.wrap (n : Int) = (n : Int) := u64_in _ (by omega) (by omega)
    have tn : decide ((n : Int) < 0) = false := by simp
    go_enter Tryd.func65, Tryd.ntmps65
    go_wp2_with (go_at_call 102; refine hf.mono ?_; rintro e W5 ⟨rfl, hb5⟩)
    go_ret
    exact ⟨rfl, hb5⟩
  go_enter Tryd.func40, Tryd.ntmps40
  go_wp2_with (go_at_call 65; refine hfi.mono ?_; rintro e W5 ⟨rfl, hb5⟩)
  go_ret
  exact ⟨rfl, hb5⟩
end Go.Proofs.YtolknddegfcmpaaDoor
