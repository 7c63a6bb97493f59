/- The document's upto, find, kind, numbers, texts, over (tar). Printed by gen_tce.py. -/
import Derived.Test.YtpheifdpjcppdaaGreatDoorTbEF
namespace Go.Proofs.YtpheifdpjcppdaaGreatDoor
open Go.RowKit
/-- What heads told, as the document has it in memory. -/
def toldV (t : Td) (fr : Nat) : Array Value := #[.bool (t [76]).isSome, .bool (t [75]).isSome, .bool (t [120]).isSome, .string (bs (orT t [76] [])), .string (bs (orT t [75] [])), .string (bs (orT t kPth [])), .string (bs (orT t kLnk [])), .string (bs (orT t kOwn [])), .string (bs (orT t kGrp [])), .bool (t kPth).isSome, .bool (t kLnk).isSome, .bool (t kOwn).isSome, .bool (t kGrp).isSome, .int .i64 (orN t kSize 0 : Nat), .int .i64 (orN t kUid 0 : Nat), .int .i64 (orN t kGid 0 : Nat), .int .i64 (orN t kTime 0 : Nat), .bool (t kSize).isSome, .bool (t kUid).isSome, .bool (t kGid).isSome, .bool (t kTime).isSome, .int .i64 (fr : Nat)]
theorem told_kPth (t : Td) (fr : Nat) (v : List UInt8) (n : Nat) : toldV (updS t kPth (v, n)) fr = ((toldV t fr).setIfInBounds 5 (.string (bs v))).setIfInBounds 9 (.bool true) := by
  have hh : ∀ y, updS t kPth (v, n) y = if y = kPth then some (v, n) else t y := fun _ => rfl
  unfold toldV orT orN
  simp only [hh]
  rfl
theorem told_kLnk (t : Td) (fr : Nat) (v : List UInt8) (n : Nat) : toldV (updS t kLnk (v, n)) fr = ((toldV t fr).setIfInBounds 6 (.string (bs v))).setIfInBounds 10 (.bool true) := by
  have hh : ∀ y, updS t kLnk (v, n) y = if y = kLnk then some (v, n) else t y := fun _ => rfl
  unfold toldV orT orN
  simp only [hh]
  rfl
theorem told_kOwn (t : Td) (fr : Nat) (v : List UInt8) (n : Nat) : toldV (updS t kOwn (v, n)) fr = ((toldV t fr).setIfInBounds 7 (.string (bs v))).setIfInBounds 11 (.bool true) := by
  have hh : ∀ y, updS t kOwn (v, n) y = if y = kOwn then some (v, n) else t y := fun _ => rfl
  unfold toldV orT orN
  simp only [hh]
  rfl
theorem told_kGrp (t : Td) (fr : Nat) (v : List UInt8) (n : Nat) : toldV (updS t kGrp (v, n)) fr = ((toldV t fr).setIfInBounds 8 (.string (bs v))).setIfInBounds 12 (.bool true) := by
  have hh : ∀ y, updS t kGrp (v, n) y = if y = kGrp then some (v, n) else t y := fun _ => rfl
  unfold toldV orT orN
  simp only [hh]
  rfl
theorem told_kSize (t : Td) (fr : Nat) (v : List UInt8) (n : Nat) : toldV (updS t kSize (v, n)) fr = ((toldV t fr).setIfInBounds 13 (.int .i64 (n : Int))).setIfInBounds 17 (.bool true) := by
  have hh : ∀ y, updS t kSize (v, n) y = if y = kSize then some (v, n) else t y := fun _ => rfl
  unfold toldV orT orN
  simp only [hh]
  rfl
theorem told_kUid (t : Td) (fr : Nat) (v : List UInt8) (n : Nat) : toldV (updS t kUid (v, n)) fr = ((toldV t fr).setIfInBounds 14 (.int .i64 (n : Int))).setIfInBounds 18 (.bool true) := by
  have hh : ∀ y, updS t kUid (v, n) y = if y = kUid then some (v, n) else t y := fun _ => rfl
  unfold toldV orT orN
  simp only [hh]
  rfl
theorem told_kGid (t : Td) (fr : Nat) (v : List UInt8) (n : Nat) : toldV (updS t kGid (v, n)) fr = ((toldV t fr).setIfInBounds 15 (.int .i64 (n : Int))).setIfInBounds 19 (.bool true) := by
  have hh : ∀ y, updS t kGid (v, n) y = if y = kGid then some (v, n) else t y := fun _ => rfl
  unfold toldV orT orN
  simp only [hh]
  rfl
theorem told_kTime (t : Td) (fr : Nat) (v : List UInt8) (n : Nat) : toldV (updS t kTime (v, n)) fr = ((toldV t fr).setIfInBounds 16 (.int .i64 (n : Int))).setIfInBounds 20 (.bool true) := by
  have hh : ∀ y, updS t kTime (v, n) y = if y = kTime then some (v, n) else t y := fun _ => rfl
  unfold toldV orT orN
  simp only [hh]
  rfl
theorem told_kCom (t : Td) (fr : Nat) (v : List UInt8) (n : Nat) : toldV (updS t kCom (v, n)) fr = toldV t fr := by
  have hh : ∀ y, updS t kCom (v, n) y = if y = kCom then some (v, n) else t y := fun _ => rfl
  unfold toldV orT orN
  simp only [hh]
  rfl
theorem told_x (t : Td) (fr : Nat) : toldV (updS t [120] ([], 0)) fr = (toldV t fr).setIfInBounds 2 (.bool true) := by
  have hh : ∀ y, updS t [120] ([], 0) y = if y = [120] then some ([], 0) else t y := fun _ => rfl
  unfold toldV orT orN
  simp only [hh]
  rfl
theorem told_L (t : Td) (fr : Nat) (v : List UInt8) : toldV (updS t [76] (v, 0)) fr = ((toldV t fr).setIfInBounds 0 (.bool true)).setIfInBounds 3 (.string (bs v)) := by
  have hh : ∀ y, updS t [76] (v, 0) y = if y = [76] then some (v, 0) else t y := fun _ => rfl
  unfold toldV orT orN
  simp only [hh]
  rfl
theorem told_K (t : Td) (fr : Nat) (v : List UInt8) : toldV (updS t [75] (v, 0)) fr = ((toldV t fr).setIfInBounds 1 (.bool true)).setIfInBounds 4 (.string (bs v)) := by
  have hh : ∀ y, updS t [75] (v, 0) y = if y = [75] then some (v, 0) else t y := fun _ => rfl
  unfold toldV orT orN
  simp only [hh]
  rfl
theorem beq_byteE (a b : UInt8) : ((a.toNat : Int) == (b.toNat : Int)) = decide (a = b) := beq_byteT a b
set_option maxHeartbeats 1000000 in
theorem rupto_any (s : ByteArray) (w : World) (hs : s.size ≤ 1000000000000) :
    Calls Tryz.prog 51 #[.string s] w fun e w' => e = .returned (.string (bs (upZ s.data.toList))) ∧ w = w' := by
  obtain ⟨R, HR⟩ : ∃ R, Hid (R = bs (upZ s.data.toList)) := ⟨_, Lib.hid rfl⟩
  rw [← HR.out]
  go_enter Tryz.func51, Tryz.ntmps51
  go_wp2
  go_loop [3] (fun i => ∃ k : Nat, k ≤ s.size ∧ i = .int .i64 k ∧ Hid (∀ j, j < k → ∀ c, s.data.toList[j]? = some c → (!decide (c = 0)) = true)) (fun i => s.size - (intOf i).toNat)
  case atStart => exact ⟨0, Nat.zero_le _, rfl, Lib.hid (fun j h => absurd h (Nat.not_lt_zero _))⟩
  case round =>
    obtain ⟨k, hk, rfl, HA⟩ := hrel
    by_cases hlt : k < s.size
    · have hlt' : k < s.data.toList.length := by simpa using hlt
      have HG : Hid (s.data.toList[k]? = some s[k]) := Lib.hid (by rw [List.getElem?_eq_getElem hlt']; rfl)
      by_cases hc : s[k] = 0
      · have hb : ((s[k].toNat : Int) == 0) = true := by rw [hc]; rfl
        have HV : Hid (R = s.extract 0 k) := Lib.hid (by
          rw [HR.out, upZ, tw_take _ s.data.toList k HA.out (fun c h => by rw [HG.out] at h; injection h with h; rw [← h, hc]; rfl), ext_take s k hk])
        clear hc
        go_wp2
        go_ret
        exact ⟨by rw [HV.out]; rfl, rfl⟩
      · have hb : ((s[k].toNat : Int) == 0) = false := by
          rw [show (0 : Int) = (((0 : UInt8).toNat : Nat) : Int) from rfl, beq_byteT]; exact decide_eq_false hc
        have HA2 : Hid (∀ j, j < k + 1 → ∀ c, s.data.toList[j]? = some c → (!decide (c = 0)) = true) := Lib.hid (by
          intro j hj c h
          rcases Nat.lt_or_ge j k with h1 | h1
          · exact HA.out j h1 c h
          · obtain rfl : j = k := by omega
            rw [HG.out] at h
            injection h with h
            rw [← h]
            simp [hc])
        clear hc
        go_wp2
        go_round
        case rel => exact ⟨k + 1, by omega, by go_num, HA2⟩
        case measure => simp [intOf]; omega
    · have HV : Hid (R = s) := Lib.hid (by
        have hl : s.data.toList.length = k := by simp; omega
        rw [HR.out, upZ, tw_take _ s.data.toList k HA.out (fun c h => by rw [List.getElem?_eq_none (by omega)] at h; cases h), List.take_of_length_le (by omega)]
        rfl)
      go_wp2
      go_ret
      exact ⟨by rw [HV.out]; rfl, rfl⟩
theorem rfnd_any (s : ByteArray) (c : UInt8) (w : World) (hs : s.size ≤ 1000000000000) :
    Calls Tryz.prog 53 #[.string s, .int .u8 (c.toNat : Int)] w fun e w' => e = .returned (.int .i64 (Lib.indexByte s.data.toList c)) ∧ w = w' := by
  go_enter Tryz.func53, Tryz.ntmps53
  go_wp2_with fail
  refine (find_any s c _ hs).mono ?_
  rintro e w1 ⟨rfl, rfl⟩
  go_wp2_with fail
  go_ret
  exact ⟨rfl, rfl⟩
/-- The kind by a type that is not 00. -/
theorem rkind_any (u : UInt8) (w : World) (h0 : u ≠ 0) :
    Calls Tryz.prog 27 #[.int .u8 (u.toNat : Int)] w fun e w' => e = .returned (.int .i64 (kindR u)) ∧ w = w' := by
  have q : ∀ b : UInt8, ((u.toNat : Int) == (b.toNat : Int)) = decide (u = b) := fun b => beq_byteT u b
  by_cases h1 : u = 48
  · subst h1
    go_enter Tryz.func27, Tryz.ntmps27
    go_wp2
    go_ret
    exact ⟨rfl, rfl⟩
  by_cases h2 : u = 53
  · subst h2
    go_enter Tryz.func27, Tryz.ntmps27
    go_wp2
    go_ret
    exact ⟨rfl, rfl⟩
  by_cases h3 : u = 50
  · subst h3
    go_enter Tryz.func27, Tryz.ntmps27
    go_wp2
    go_ret
    exact ⟨rfl, rfl⟩
  by_cases h4 : u = 49
  · subst h4
    go_enter Tryz.func27, Tryz.ntmps27
    go_wp2
    go_ret
    exact ⟨rfl, rfl⟩
  have e1 : ((u.toNat : Int) == 48) = false := by have := q 48; rw [decide_eq_false h1] at this; exact this
  have e2 : ((u.toNat : Int) == 53) = false := by have := q 53; rw [decide_eq_false h2] at this; exact this
  have e3 : ((u.toNat : Int) == 50) = false := by have := q 50; rw [decide_eq_false h3] at this; exact this
  have e4 : ((u.toNat : Int) == 49) = false := by have := q 49; rw [decide_eq_false h4] at this; exact this
  have HK : Hid (kindR u = 0) := Lib.hid (by simp [kindR, h0, h1, h2, h3, h4])
  clear q h0 h1 h2 h3 h4
  go_enter Tryz.func27, Tryz.ntmps27
  go_wp2
  go_ret
  exact ⟨by rw [HK.out]; rfl, rfl⟩
set_option maxHeartbeats 4000000 in
theorem rnumbers_any (t : Td) (fr gt : Nat) (w : World) (hB : Blk w gt 62 (toldV t fr)) (key v : List UInt8) (n : Nat) (hk : isNum key = true) :
    Calls Tryz.prog 78 #[.pointer (some ⟨gt, 0, none⟩), .string (bs key), .int .i64 (n : Int)] w fun r w' => r = .returned (.tuple #[]) ∧ Blk w' gt 62 (toldV (updS t key (v, n)) fr) ∧ Kept (fun k => k = gt) w w' := by
  have hk2 : key = kSize ∨ key = kUid ∨ key = kGid ∨ key = kTime := by simpa [isNum] using hk
  clear hk
  rcases hk2 with hj | hj | hj | hj
  · have e0 : ((bs key).toList == [115, 105, 122, 101]) = true := by rw [beq_bytes, hj]; rfl
    have e1 : ((bs key).toList == [117, 105, 100]) = false := by rw [beq_bytes, hj]; rfl
    have e2 : ((bs key).toList == [103, 105, 100]) = false := by rw [beq_bytes, hj]; rfl
    have e3 : ((bs key).toList == [109, 116, 105, 109, 101]) = false := by rw [beq_bytes, hj]; rfl
    have f13 := hB.frozen 13
    have x13 := hB.cell 13
    have f17 := hB.frozen 17
    have x17 := hB.cell 17
    simp [toldV] at x13 x17
    have HB : Hid (Blk ((w.setCell ⟨gt, 13, none⟩ (.int .i64 (n : Int))).setCell ⟨gt, 17, none⟩ (.bool true)) gt 62 (toldV (updS t key (v, n)) fr)) := Lib.hid (by rw [hj, told_kSize]; exact (hB.set 13).set 17)
    have hkk : Kept (fun k => k = gt) w ((w.setCell ⟨gt, 13, none⟩ (.int .i64 (n : Int))).setCell ⟨gt, 17, none⟩ (.bool true)) := ((Kept.refl (fun k => k = gt) w).setCell (p := ⟨gt, 13, none⟩) _ fun _ => rfl).setCell (p := ⟨gt, 17, none⟩) _ fun _ => rfl
    have HKK := Lib.hid hkk
    clear hj hB hkk
    go_enter Tryz.func78, Tryz.ntmps78
    go_wp2_with fail
    refine bodyPost_end (v := .tuple #[]) ?_ ?_ ?_
    · simp [results, Tryz.results78, go_sem]
    · rfl
    · exact ⟨rfl, HB.out, HKK.out⟩
  · have e0 : ((bs key).toList == [115, 105, 122, 101]) = false := by rw [beq_bytes, hj]; rfl
    have e1 : ((bs key).toList == [117, 105, 100]) = true := by rw [beq_bytes, hj]; rfl
    have e2 : ((bs key).toList == [103, 105, 100]) = false := by rw [beq_bytes, hj]; rfl
    have e3 : ((bs key).toList == [109, 116, 105, 109, 101]) = false := by rw [beq_bytes, hj]; rfl
    have f14 := hB.frozen 14
    have x14 := hB.cell 14
    have f18 := hB.frozen 18
    have x18 := hB.cell 18
    simp [toldV] at x14 x18
    have HB : Hid (Blk ((w.setCell ⟨gt, 14, none⟩ (.int .i64 (n : Int))).setCell ⟨gt, 18, none⟩ (.bool true)) gt 62 (toldV (updS t key (v, n)) fr)) := Lib.hid (by rw [hj, told_kUid]; exact (hB.set 14).set 18)
    have hkk : Kept (fun k => k = gt) w ((w.setCell ⟨gt, 14, none⟩ (.int .i64 (n : Int))).setCell ⟨gt, 18, none⟩ (.bool true)) := ((Kept.refl (fun k => k = gt) w).setCell (p := ⟨gt, 14, none⟩) _ fun _ => rfl).setCell (p := ⟨gt, 18, none⟩) _ fun _ => rfl
    have HKK := Lib.hid hkk
    clear hj hB hkk
    go_enter Tryz.func78, Tryz.ntmps78
    go_wp2_with fail
    refine bodyPost_end (v := .tuple #[]) ?_ ?_ ?_
    · simp [results, Tryz.results78, go_sem]
    · rfl
    · exact ⟨rfl, HB.out, HKK.out⟩
  · have e0 : ((bs key).toList == [115, 105, 122, 101]) = false := by rw [beq_bytes, hj]; rfl
    have e1 : ((bs key).toList == [117, 105, 100]) = false := by rw [beq_bytes, hj]; rfl
    have e2 : ((bs key).toList == [103, 105, 100]) = true := by rw [beq_bytes, hj]; rfl
    have e3 : ((bs key).toList == [109, 116, 105, 109, 101]) = false := by rw [beq_bytes, hj]; rfl
    have f15 := hB.frozen 15
    have x15 := hB.cell 15
    have f19 := hB.frozen 19
    have x19 := hB.cell 19
    simp [toldV] at x15 x19
    have HB : Hid (Blk ((w.setCell ⟨gt, 15, none⟩ (.int .i64 (n : Int))).setCell ⟨gt, 19, none⟩ (.bool true)) gt 62 (toldV (updS t key (v, n)) fr)) := Lib.hid (by rw [hj, told_kGid]; exact (hB.set 15).set 19)
    have hkk : Kept (fun k => k = gt) w ((w.setCell ⟨gt, 15, none⟩ (.int .i64 (n : Int))).setCell ⟨gt, 19, none⟩ (.bool true)) := ((Kept.refl (fun k => k = gt) w).setCell (p := ⟨gt, 15, none⟩) _ fun _ => rfl).setCell (p := ⟨gt, 19, none⟩) _ fun _ => rfl
    have HKK := Lib.hid hkk
    clear hj hB hkk
    go_enter Tryz.func78, Tryz.ntmps78
    go_wp2_with fail
    refine bodyPost_end (v := .tuple #[]) ?_ ?_ ?_
    · simp [results, Tryz.results78, go_sem]
    · rfl
    · exact ⟨rfl, HB.out, HKK.out⟩
  · have e0 : ((bs key).toList == [115, 105, 122, 101]) = false := by rw [beq_bytes, hj]; rfl
    have e1 : ((bs key).toList == [117, 105, 100]) = false := by rw [beq_bytes, hj]; rfl
    have e2 : ((bs key).toList == [103, 105, 100]) = false := by rw [beq_bytes, hj]; rfl
    have e3 : ((bs key).toList == [109, 116, 105, 109, 101]) = true := by rw [beq_bytes, hj]; rfl
    have f16 := hB.frozen 16
    have x16 := hB.cell 16
    have f20 := hB.frozen 20
    have x20 := hB.cell 20
    simp [toldV] at x16 x20
    have HB : Hid (Blk ((w.setCell ⟨gt, 16, none⟩ (.int .i64 (n : Int))).setCell ⟨gt, 20, none⟩ (.bool true)) gt 62 (toldV (updS t key (v, n)) fr)) := Lib.hid (by rw [hj, told_kTime]; exact (hB.set 16).set 20)
    have hkk : Kept (fun k => k = gt) w ((w.setCell ⟨gt, 16, none⟩ (.int .i64 (n : Int))).setCell ⟨gt, 20, none⟩ (.bool true)) := ((Kept.refl (fun k => k = gt) w).setCell (p := ⟨gt, 16, none⟩) _ fun _ => rfl).setCell (p := ⟨gt, 20, none⟩) _ fun _ => rfl
    have HKK := Lib.hid hkk
    clear hj hB hkk
    go_enter Tryz.func78, Tryz.ntmps78
    go_wp2_with fail
    refine bodyPost_end (v := .tuple #[]) ?_ ?_ ?_
    · simp [results, Tryz.results78, go_sem]
    · rfl
    · exact ⟨rfl, HB.out, HKK.out⟩
set_option maxHeartbeats 4000000 in
theorem rtexts_any (t : Td) (fr gt : Nat) (w : World) (hB : Blk w gt 62 (toldV t fr)) (key v : List UInt8) :
    Calls Tryz.prog 79 #[.pointer (some ⟨gt, 0, none⟩), .string (bs key), .string (bs v)] w fun r w' => r = .returned (.bool (isText key)) ∧ (isText key = true → Blk w' gt 62 (toldV (updS t key (v, 0)) fr)) ∧ Kept (fun k => k = gt) w w' := by
  by_cases h0 : key = kPth
  · have hj := h0
    have e0 : ((bs key).toList == [112, 97, 116, 104]) = true := by rw [beq_bytes, hj]; rfl
    have e1 : ((bs key).toList == [108, 105, 110, 107, 112, 97, 116, 104]) = false := by rw [beq_bytes, hj]; rfl
    have e2 : ((bs key).toList == [117, 110, 97, 109, 101]) = false := by rw [beq_bytes, hj]; rfl
    have e3 : ((bs key).toList == [103, 110, 97, 109, 101]) = false := by rw [beq_bytes, hj]; rfl
    have e4 : ((bs key).toList == [99, 111, 109, 109, 101, 110, 116]) = false := by rw [beq_bytes, hj]; rfl
    have f5 := hB.frozen 5
    have x5 := hB.cell 5
    have f9 := hB.frozen 9
    have x9 := hB.cell 9
    simp [toldV] at x5 x9
    have HB : Hid (Blk ((w.setCell ⟨gt, 5, none⟩ (.string (bs v))).setCell ⟨gt, 9, none⟩ (.bool true)) gt 62 (toldV (updS t key (v, 0)) fr)) := Lib.hid (by rw [hj, told_kPth]; exact (hB.set 5).set 9)
    have hkk : Kept (fun k => k = gt) w ((w.setCell ⟨gt, 5, none⟩ (.string (bs v))).setCell ⟨gt, 9, none⟩ (.bool true)) := ((Kept.refl (fun k => k = gt) w).setCell (p := ⟨gt, 5, none⟩) _ fun _ => rfl).setCell (p := ⟨gt, 9, none⟩) _ fun _ => rfl
    have HT : Hid (isText key = true) := Lib.hid (by rw [hj]; rfl)
    have HKK := Lib.hid hkk
    clear hj h0 hB hkk
    go_enter Tryz.func79, Tryz.ntmps79
    go_wp2_with fail
    go_ret
    exact ⟨by rw [HT.out]; rfl, fun _ => HB.out, HKK.out⟩
  by_cases h1 : key = kLnk
  · have hj := h1
    have e0 : ((bs key).toList == [112, 97, 116, 104]) = false := by rw [beq_bytes, hj]; rfl
    have e1 : ((bs key).toList == [108, 105, 110, 107, 112, 97, 116, 104]) = true := by rw [beq_bytes, hj]; rfl
    have e2 : ((bs key).toList == [117, 110, 97, 109, 101]) = false := by rw [beq_bytes, hj]; rfl
    have e3 : ((bs key).toList == [103, 110, 97, 109, 101]) = false := by rw [beq_bytes, hj]; rfl
    have e4 : ((bs key).toList == [99, 111, 109, 109, 101, 110, 116]) = false := by rw [beq_bytes, hj]; rfl
    have f6 := hB.frozen 6
    have x6 := hB.cell 6
    have f10 := hB.frozen 10
    have x10 := hB.cell 10
    simp [toldV] at x6 x10
    have HB : Hid (Blk ((w.setCell ⟨gt, 6, none⟩ (.string (bs v))).setCell ⟨gt, 10, none⟩ (.bool true)) gt 62 (toldV (updS t key (v, 0)) fr)) := Lib.hid (by rw [hj, told_kLnk]; exact (hB.set 6).set 10)
    have hkk : Kept (fun k => k = gt) w ((w.setCell ⟨gt, 6, none⟩ (.string (bs v))).setCell ⟨gt, 10, none⟩ (.bool true)) := ((Kept.refl (fun k => k = gt) w).setCell (p := ⟨gt, 6, none⟩) _ fun _ => rfl).setCell (p := ⟨gt, 10, none⟩) _ fun _ => rfl
    have HT : Hid (isText key = true) := Lib.hid (by rw [hj]; rfl)
    have HKK := Lib.hid hkk
    clear hj h0 h1 hB hkk
    go_enter Tryz.func79, Tryz.ntmps79
    go_wp2_with fail
    go_ret
    exact ⟨by rw [HT.out]; rfl, fun _ => HB.out, HKK.out⟩
  by_cases h2 : key = kOwn
  · have hj := h2
    have e0 : ((bs key).toList == [112, 97, 116, 104]) = false := by rw [beq_bytes, hj]; rfl
    have e1 : ((bs key).toList == [108, 105, 110, 107, 112, 97, 116, 104]) = false := by rw [beq_bytes, hj]; rfl
    have e2 : ((bs key).toList == [117, 110, 97, 109, 101]) = true := by rw [beq_bytes, hj]; rfl
    have e3 : ((bs key).toList == [103, 110, 97, 109, 101]) = false := by rw [beq_bytes, hj]; rfl
    have e4 : ((bs key).toList == [99, 111, 109, 109, 101, 110, 116]) = false := by rw [beq_bytes, hj]; rfl
    have f7 := hB.frozen 7
    have x7 := hB.cell 7
    have f11 := hB.frozen 11
    have x11 := hB.cell 11
    simp [toldV] at x7 x11
    have HB : Hid (Blk ((w.setCell ⟨gt, 7, none⟩ (.string (bs v))).setCell ⟨gt, 11, none⟩ (.bool true)) gt 62 (toldV (updS t key (v, 0)) fr)) := Lib.hid (by rw [hj, told_kOwn]; exact (hB.set 7).set 11)
    have hkk : Kept (fun k => k = gt) w ((w.setCell ⟨gt, 7, none⟩ (.string (bs v))).setCell ⟨gt, 11, none⟩ (.bool true)) := ((Kept.refl (fun k => k = gt) w).setCell (p := ⟨gt, 7, none⟩) _ fun _ => rfl).setCell (p := ⟨gt, 11, none⟩) _ fun _ => rfl
    have HT : Hid (isText key = true) := Lib.hid (by rw [hj]; rfl)
    have HKK := Lib.hid hkk
    clear hj h0 h1 h2 hB hkk
    go_enter Tryz.func79, Tryz.ntmps79
    go_wp2_with fail
    go_ret
    exact ⟨by rw [HT.out]; rfl, fun _ => HB.out, HKK.out⟩
  by_cases h3 : key = kGrp
  · have hj := h3
    have e0 : ((bs key).toList == [112, 97, 116, 104]) = false := by rw [beq_bytes, hj]; rfl
    have e1 : ((bs key).toList == [108, 105, 110, 107, 112, 97, 116, 104]) = false := by rw [beq_bytes, hj]; rfl
    have e2 : ((bs key).toList == [117, 110, 97, 109, 101]) = false := by rw [beq_bytes, hj]; rfl
    have e3 : ((bs key).toList == [103, 110, 97, 109, 101]) = true := by rw [beq_bytes, hj]; rfl
    have e4 : ((bs key).toList == [99, 111, 109, 109, 101, 110, 116]) = false := by rw [beq_bytes, hj]; rfl
    have f8 := hB.frozen 8
    have x8 := hB.cell 8
    have f12 := hB.frozen 12
    have x12 := hB.cell 12
    simp [toldV] at x8 x12
    have HB : Hid (Blk ((w.setCell ⟨gt, 8, none⟩ (.string (bs v))).setCell ⟨gt, 12, none⟩ (.bool true)) gt 62 (toldV (updS t key (v, 0)) fr)) := Lib.hid (by rw [hj, told_kGrp]; exact (hB.set 8).set 12)
    have hkk : Kept (fun k => k = gt) w ((w.setCell ⟨gt, 8, none⟩ (.string (bs v))).setCell ⟨gt, 12, none⟩ (.bool true)) := ((Kept.refl (fun k => k = gt) w).setCell (p := ⟨gt, 8, none⟩) _ fun _ => rfl).setCell (p := ⟨gt, 12, none⟩) _ fun _ => rfl
    have HT : Hid (isText key = true) := Lib.hid (by rw [hj]; rfl)
    have HKK := Lib.hid hkk
    clear hj h0 h1 h2 h3 hB hkk
    go_enter Tryz.func79, Tryz.ntmps79
    go_wp2_with fail
    go_ret
    exact ⟨by rw [HT.out]; rfl, fun _ => HB.out, HKK.out⟩
  by_cases h4 : key = kCom
  · have hj := h4
    have e0 : ((bs key).toList == [112, 97, 116, 104]) = false := by rw [beq_bytes, hj]; rfl
    have e1 : ((bs key).toList == [108, 105, 110, 107, 112, 97, 116, 104]) = false := by rw [beq_bytes, hj]; rfl
    have e2 : ((bs key).toList == [117, 110, 97, 109, 101]) = false := by rw [beq_bytes, hj]; rfl
    have e3 : ((bs key).toList == [103, 110, 97, 109, 101]) = false := by rw [beq_bytes, hj]; rfl
    have e4 : ((bs key).toList == [99, 111, 109, 109, 101, 110, 116]) = true := by rw [beq_bytes, hj]; rfl
    have HB : Hid (Blk w gt 62 (toldV (updS t key (v, 0)) fr)) := Lib.hid (by rw [hj, told_kCom]; exact hB)
    have hkk := Kept.refl (fun k => k = gt) w
    have HT : Hid (isText key = true) := Lib.hid (by rw [hj]; rfl)
    have HKK := Lib.hid hkk
    clear hj h0 h1 h2 h3 h4 hB hkk
    go_enter Tryz.func79, Tryz.ntmps79
    go_wp2_with fail
    go_ret
    exact ⟨by rw [HT.out]; rfl, fun _ => HB.out, HKK.out⟩
  have e0 : ((bs key).toList == [112, 97, 116, 104]) = false := by rw [beq_bytes]; exact decide_eq_false h0
  have e1 : ((bs key).toList == [108, 105, 110, 107, 112, 97, 116, 104]) = false := by rw [beq_bytes]; exact decide_eq_false h1
  have e2 : ((bs key).toList == [117, 110, 97, 109, 101]) = false := by rw [beq_bytes]; exact decide_eq_false h2
  have e3 : ((bs key).toList == [103, 110, 97, 109, 101]) = false := by rw [beq_bytes]; exact decide_eq_false h3
  have e4 : ((bs key).toList == [99, 111, 109, 109, 101, 110, 116]) = false := by rw [beq_bytes]; exact decide_eq_false h4
  have HT : Hid (isText key = false) := Lib.hid (by simp [isText, h0, h1, h2, h3, h4])
  clear h0 h1 h2 h3 h4 hB
  go_enter Tryz.func79, Tryz.ntmps79
  go_wp2_with fail
  go_ret
  exact ⟨by rw [HT.out]; rfl, (fun h => by rw [HT.out] at h; cases h), Kept.refl _ _⟩
section
variable {w W : World} {gR H : Nat}
theorem entT_set {t : TypeId} {y0 y1 y2 y3 y4 y5 y6 y7 y8 y9 : Value} (h : Blk W gR t #[y0, y1, y2, y3, y4, y5, y6, y7, y8, y9]) (v0 v1 v2 v3 v4 v5 v6 v7 v8 v9 : Value) :
    Blk ((((((((((W.setCell ⟨gR, 0, none⟩ v0).setCell ⟨gR, 1, none⟩ v1).setCell ⟨gR, 2, none⟩ v2).setCell ⟨gR, 3, none⟩ v3).setCell ⟨gR, 4, none⟩ v4).setCell ⟨gR, 5, none⟩ v5).setCell ⟨gR, 6, none⟩ v6).setCell ⟨gR, 7, none⟩ v7).setCell ⟨gR, 8, none⟩ v8).setCell ⟨gR, 9, none⟩ v9) gR t #[v0, v1, v2, v3, v4, v5, v6, v7, v8, v9] := by
  have := ((((((((((h.set (u := v0) 0).set (u := v1) 1).set (u := v2) 2).set (u := v3) 3).set (u := v4) 4).set (u := v5) 5).set (u := v6) 6).set (u := v7) 7).set (u := v8) 8).set (u := v9) 9)
  simpa using this
theorem entT_bel (h : Below H w W) (hg : H ≤ gR) (v0 v1 v2 v3 v4 v5 v6 v7 v8 v9 : Value) : Below H w ((((((((((W.setCell ⟨gR, 0, none⟩ v0).setCell ⟨gR, 1, none⟩ v1).setCell ⟨gR, 2, none⟩ v2).setCell ⟨gR, 3, none⟩ v3).setCell ⟨gR, 4, none⟩ v4).setCell ⟨gR, 5, none⟩ v5).setCell ⟨gR, 6, none⟩ v6).setCell ⟨gR, 7, none⟩ v7).setCell ⟨gR, 8, none⟩ v8).setCell ⟨gR, 9, none⟩ v9) :=
  (((((((((h.setCell (p := ⟨gR, 0, none⟩) hg v0).setCell (p := ⟨gR, 1, none⟩) hg v1).setCell (p := ⟨gR, 2, none⟩) hg v2).setCell (p := ⟨gR, 3, none⟩) hg v3).setCell (p := ⟨gR, 4, none⟩) hg v4).setCell (p := ⟨gR, 5, none⟩) hg v5).setCell (p := ⟨gR, 6, none⟩) hg v6).setCell (p := ⟨gR, 7, none⟩) hg v7).setCell (p := ⟨gR, 8, none⟩) hg v8).setCell (p := ⟨gR, 9, none⟩) hg v9
end
set_option maxRecDepth 20000 in
set_option maxHeartbeats 16000000 in
theorem over_core (gt : Nat) (w : World) (bL bK bP bH bO bG bZ bU bI bM : Bool) (bX frv : Value) (nm lk pt tt ow gw : List UInt8) (nz nu ni nt : Nat) (hB : Blk w gt 62 #[.bool bL, .bool bK, bX, .string (bs nm), .string (bs lk), .string (bs pt), .string (bs tt), .string (bs ow), .string (bs gw), .bool bP, .bool bH, .bool bO, .bool bG, .int .i64 (nz : Int), .int .i64 (nu : Int), .int .i64 (ni : Int), .int .i64 (nt : Int), .bool bZ, .bool bU, .bool bI, .bool bM, frv]) (path owner group link : List UInt8) (kind mode : Int) (uid gid mtime size : Nat) :
    Calls Tryz.prog 28 #[.pointer (some ⟨gt, 0, none⟩), .agg #[.string (bs path), .int .i64 kind, .int .i64 mode, .int .i64 (uid : Int), .int .i64 (gid : Int), .string (bs owner), .string (bs group), .int .i64 (mtime : Int), .string (bs link), .slice none 0 0], .int .i64 (size : Int)] w fun r w' => r = .returned (.tuple #[.agg #[.string (bs (cond bP pt (cond bL nm path))), .int .i64 kind, .int .i64 mode, .int .i64 ((cond bU nu uid : Nat) : Int), .int .i64 ((cond bI ni gid : Nat) : Int), .string (bs (cond bO ow owner)), .string (bs (cond bG gw group)), .int .i64 ((cond bM nt mtime : Nat) : Int), .string (bs (cond bH tt (cond bK lk link))), .slice none 0 0], .int .i64 (cond bZ nz size : Nat)]) ∧ Below w.heap.size w w' := by
  go_enter Tryz.func28, Tryz.ntmps28
  go_upto_region 1 with fail
  have hb1 := (Below.refl w.heap.size w).alloc (Nat.le_refl _) (.cells #[.string (bs path), .int .i64 kind, .int .i64 mode, .int .i64 (uid : Int), .int .i64 (gid : Int), .string (bs owner), .string (bs group), .int .i64 (mtime : Int), .string (bs link), .slice none 0 0] tE)
  have bE := Blk.new w tE #[.string (bs path), .int .i64 kind, .int .i64 mode, .int .i64 (uid : Int), .int .i64 (gid : Int), .string (bs owner), .string (bs group), .int .i64 (mtime : Int), .string (bs link), .slice none 0 0]
  have hs1 : (w.alloc (.cells #[.string (bs path), .int .i64 kind, .int .i64 mode, .int .i64 (uid : Int), .int .i64 (gid : Int), .string (bs owner), .string (bs group), .int .i64 (mtime : Int), .string (bs link), .slice none 0 0] tE)).heap.size = w.heap.size + 1 := by
    show (w.heap.push _).size = _
    rw [Array.size_push]
  generalize w.alloc (.cells #[.string (bs path), .int .i64 kind, .int .i64 mode, .int .i64 (uid : Int), .int .i64 (gid : Int), .string (bs owner), .string (bs group), .int .i64 (mtime : Int), .string (bs link), .slice none 0 0] tE) = W1 at hb1 bE hs1 ⊢
  have hbA : Below W1.heap.size W1 (W1.alloc (.cells #[.string ⟨#[]⟩, .int .i64 0, .int .i64 0, .int .i64 0, .int .i64 0, .string ⟨#[]⟩, .string ⟨#[]⟩, .int .i64 0, .string ⟨#[]⟩, .slice none 0 0] tE)) := (Below.refl _ W1).alloc (Nat.le_refl _) _
  have hq := hb1.trans (hbA.mono hb1.size)
  have bR := Blk.new W1 tE #[.string ⟨#[]⟩, .int .i64 0, .int .i64 0, .int .i64 0, .int .i64 0, .string ⟨#[]⟩, .string ⟨#[]⟩, .int .i64 0, .string ⟨#[]⟩, .slice none 0 0]
  have bE := bE.below hbA bE.lt
  have bT := hB.below hq hB.lt
  have hgR : w.heap.size ≤ W1.heap.size := hb1.size
  have hgT := hB.lt
  rw [hs1] at bR hgR
  clear hbA hb1 hs1 hB
  generalize W1.alloc (.cells #[.string ⟨#[]⟩, .int .i64 0, .int .i64 0, .int .i64 0, .int .i64 0, .string ⟨#[]⟩, .string ⟨#[]⟩, .int .i64 0, .string ⟨#[]⟩, .slice none 0 0] tE) = W2 at hq bR bE bT ⊢
  generalize hg1 : w.heap.size + 1 = gR at bR hgR ⊢
  obtain ⟨gE, hg0⟩ : ∃ g, w.heap.size = g := ⟨_, rfl⟩
  have hEH : w.heap.size ≤ gE := by omega
  have hER : gR ≠ gE := by omega
  have hET : gt ≠ gE := by omega
  rw [hg0] at bE ⊢
  clear hg0 hg1 hgT
  have hk := Kept.refl (fun k => k = gE) W2
  have xs := (hk.blk bT hET).cell 3
  have xb := (hk.blk bT hET).cell 0
  have fs := bE.frozen 0
  have ys := bE.cell 0
  simp only [List.getElem?_toArray, List.getElem?_cons_succ, List.getElem?_cons_zero] at xs xb ys
  go_upto_if 11 with fail
  go_cut [] (fun wx => Blk wx gE tE #[.string (bs (cond bL nm path)), .int .i64 kind, .int .i64 mode, .int .i64 (uid : Int), .int .i64 (gid : Int), .string (bs owner), .string (bs group), .int .i64 (mtime : Int), .string (bs link), .slice none 0 0] ∧ Kept (fun k => k = gE) W2 wx)
  case first =>
    cases bL with
    | true =>
      go_wp2_with fail
      go_meet
      exact ⟨by have := bE.set (u := .string (bs nm)) 0; simpa using this, hk.setCell (p := ⟨gE, 0, none⟩) _ fun _ => rfl⟩
    | false =>
      go_wp2_with fail
      go_meet
      exact ⟨bE, hk⟩
  case rest =>
  clear bE hk xs xb fs ys
  obtain ⟨bE, hk⟩ := hcut
  have xs := (hk.blk bT hET).cell 4
  have xb := (hk.blk bT hET).cell 1
  have fs := bE.frozen 8
  have ys := bE.cell 8
  simp only [List.getElem?_toArray, List.getElem?_cons_succ, List.getElem?_cons_zero] at xs xb ys
  go_upto_if 20 with fail
  go_cut [] (fun wx => Blk wx gE tE #[.string (bs (cond bL nm path)), .int .i64 kind, .int .i64 mode, .int .i64 (uid : Int), .int .i64 (gid : Int), .string (bs owner), .string (bs group), .int .i64 (mtime : Int), .string (bs (cond bK lk link)), .slice none 0 0] ∧ Kept (fun k => k = gE) W2 wx)
  case first =>
    cases bK with
    | true =>
      go_wp2_with fail
      go_meet
      exact ⟨by have := bE.set (u := .string (bs lk)) 8; simpa using this, hk.setCell (p := ⟨gE, 8, none⟩) _ fun _ => rfl⟩
    | false =>
      go_wp2_with fail
      go_meet
      exact ⟨bE, hk⟩
  case rest =>
  clear bE hk xs xb fs ys
  obtain ⟨bE, hk⟩ := hcut
  have xs := (hk.blk bT hET).cell 5
  have xb := (hk.blk bT hET).cell 9
  have fs := bE.frozen 0
  have ys := bE.cell 0
  simp only [List.getElem?_toArray, List.getElem?_cons_succ, List.getElem?_cons_zero] at xs xb ys
  go_upto_if 29 with fail
  go_cut [] (fun wx => Blk wx gE tE #[.string (bs (cond bP pt (cond bL nm path))), .int .i64 kind, .int .i64 mode, .int .i64 (uid : Int), .int .i64 (gid : Int), .string (bs owner), .string (bs group), .int .i64 (mtime : Int), .string (bs (cond bK lk link)), .slice none 0 0] ∧ Kept (fun k => k = gE) W2 wx)
  case first =>
    cases bP with
    | true =>
      go_wp2_with fail
      go_meet
      exact ⟨by have := bE.set (u := .string (bs pt)) 0; simpa using this, hk.setCell (p := ⟨gE, 0, none⟩) _ fun _ => rfl⟩
    | false =>
      go_wp2_with fail
      go_meet
      exact ⟨bE, hk⟩
  case rest =>
  clear bE hk xs xb fs ys
  obtain ⟨bE, hk⟩ := hcut
  have xs := (hk.blk bT hET).cell 6
  have xb := (hk.blk bT hET).cell 10
  have fs := bE.frozen 8
  have ys := bE.cell 8
  simp only [List.getElem?_toArray, List.getElem?_cons_succ, List.getElem?_cons_zero] at xs xb ys
  go_upto_if 38 with fail
  go_cut [] (fun wx => Blk wx gE tE #[.string (bs (cond bP pt (cond bL nm path))), .int .i64 kind, .int .i64 mode, .int .i64 (uid : Int), .int .i64 (gid : Int), .string (bs owner), .string (bs group), .int .i64 (mtime : Int), .string (bs (cond bH tt (cond bK lk link))), .slice none 0 0] ∧ Kept (fun k => k = gE) W2 wx)
  case first =>
    cases bH with
    | true =>
      go_wp2_with fail
      go_meet
      exact ⟨by have := bE.set (u := .string (bs tt)) 8; simpa using this, hk.setCell (p := ⟨gE, 8, none⟩) _ fun _ => rfl⟩
    | false =>
      go_wp2_with fail
      go_meet
      exact ⟨bE, hk⟩
  case rest =>
  clear bE hk xs xb fs ys
  obtain ⟨bE, hk⟩ := hcut
  have xs := (hk.blk bT hET).cell 7
  have xb := (hk.blk bT hET).cell 11
  have fs := bE.frozen 5
  have ys := bE.cell 5
  simp only [List.getElem?_toArray, List.getElem?_cons_succ, List.getElem?_cons_zero] at xs xb ys
  go_upto_if 47 with fail
  go_cut [] (fun wx => Blk wx gE tE #[.string (bs (cond bP pt (cond bL nm path))), .int .i64 kind, .int .i64 mode, .int .i64 (uid : Int), .int .i64 (gid : Int), .string (bs (cond bO ow owner)), .string (bs group), .int .i64 (mtime : Int), .string (bs (cond bH tt (cond bK lk link))), .slice none 0 0] ∧ Kept (fun k => k = gE) W2 wx)
  case first =>
    cases bO with
    | true =>
      go_wp2_with fail
      go_meet
      exact ⟨by have := bE.set (u := .string (bs ow)) 5; simpa using this, hk.setCell (p := ⟨gE, 5, none⟩) _ fun _ => rfl⟩
    | false =>
      go_wp2_with fail
      go_meet
      exact ⟨bE, hk⟩
  case rest =>
  clear bE hk xs xb fs ys
  obtain ⟨bE, hk⟩ := hcut
  have xs := (hk.blk bT hET).cell 8
  have xb := (hk.blk bT hET).cell 12
  have fs := bE.frozen 6
  have ys := bE.cell 6
  simp only [List.getElem?_toArray, List.getElem?_cons_succ, List.getElem?_cons_zero] at xs xb ys
  go_upto_if 56 with fail
  go_cut [] (fun wx => Blk wx gE tE #[.string (bs (cond bP pt (cond bL nm path))), .int .i64 kind, .int .i64 mode, .int .i64 (uid : Int), .int .i64 (gid : Int), .string (bs (cond bO ow owner)), .string (bs (cond bG gw group)), .int .i64 (mtime : Int), .string (bs (cond bH tt (cond bK lk link))), .slice none 0 0] ∧ Kept (fun k => k = gE) W2 wx)
  case first =>
    cases bG with
    | true =>
      go_wp2_with fail
      go_meet
      exact ⟨by have := bE.set (u := .string (bs gw)) 6; simpa using this, hk.setCell (p := ⟨gE, 6, none⟩) _ fun _ => rfl⟩
    | false =>
      go_wp2_with fail
      go_meet
      exact ⟨bE, hk⟩
  case rest =>
  clear bE hk xs xb fs ys
  obtain ⟨bE, hk⟩ := hcut
  have xs := (hk.blk bT hET).cell 14
  have xb := (hk.blk bT hET).cell 18
  have fs := bE.frozen 3
  have ys := bE.cell 3
  simp only [List.getElem?_toArray, List.getElem?_cons_succ, List.getElem?_cons_zero] at xs xb ys
  go_upto_if 65 with fail
  go_cut [] (fun wx => Blk wx gE tE #[.string (bs (cond bP pt (cond bL nm path))), .int .i64 kind, .int .i64 mode, .int .i64 ((cond bU nu uid : Nat) : Int), .int .i64 (gid : Int), .string (bs (cond bO ow owner)), .string (bs (cond bG gw group)), .int .i64 (mtime : Int), .string (bs (cond bH tt (cond bK lk link))), .slice none 0 0] ∧ Kept (fun k => k = gE) W2 wx)
  case first =>
    cases bU with
    | true =>
      go_wp2_with fail
      go_meet
      exact ⟨by have := bE.set (u := .int .i64 (nu : Int)) 3; simpa using this, hk.setCell (p := ⟨gE, 3, none⟩) _ fun _ => rfl⟩
    | false =>
      go_wp2_with fail
      go_meet
      exact ⟨bE, hk⟩
  case rest =>
  clear bE hk xs xb fs ys
  obtain ⟨bE, hk⟩ := hcut
  have xs := (hk.blk bT hET).cell 15
  have xb := (hk.blk bT hET).cell 19
  have fs := bE.frozen 4
  have ys := bE.cell 4
  simp only [List.getElem?_toArray, List.getElem?_cons_succ, List.getElem?_cons_zero] at xs xb ys
  go_upto_if 74 with fail
  go_cut [] (fun wx => Blk wx gE tE #[.string (bs (cond bP pt (cond bL nm path))), .int .i64 kind, .int .i64 mode, .int .i64 ((cond bU nu uid : Nat) : Int), .int .i64 ((cond bI ni gid : Nat) : Int), .string (bs (cond bO ow owner)), .string (bs (cond bG gw group)), .int .i64 (mtime : Int), .string (bs (cond bH tt (cond bK lk link))), .slice none 0 0] ∧ Kept (fun k => k = gE) W2 wx)
  case first =>
    cases bI with
    | true =>
      go_wp2_with fail
      go_meet
      exact ⟨by have := bE.set (u := .int .i64 (ni : Int)) 4; simpa using this, hk.setCell (p := ⟨gE, 4, none⟩) _ fun _ => rfl⟩
    | false =>
      go_wp2_with fail
      go_meet
      exact ⟨bE, hk⟩
  case rest =>
  clear bE hk xs xb fs ys
  obtain ⟨bE, hk⟩ := hcut
  have xs := (hk.blk bT hET).cell 16
  have xb := (hk.blk bT hET).cell 20
  have fs := bE.frozen 7
  have ys := bE.cell 7
  simp only [List.getElem?_toArray, List.getElem?_cons_succ, List.getElem?_cons_zero] at xs xb ys
  go_upto_if 83 with fail
  go_cut [] (fun wx => Blk wx gE tE #[.string (bs (cond bP pt (cond bL nm path))), .int .i64 kind, .int .i64 mode, .int .i64 ((cond bU nu uid : Nat) : Int), .int .i64 ((cond bI ni gid : Nat) : Int), .string (bs (cond bO ow owner)), .string (bs (cond bG gw group)), .int .i64 ((cond bM nt mtime : Nat) : Int), .string (bs (cond bH tt (cond bK lk link))), .slice none 0 0] ∧ Kept (fun k => k = gE) W2 wx)
  case first =>
    cases bM with
    | true =>
      go_wp2_with fail
      go_meet
      exact ⟨by have := bE.set (u := .int .i64 (nt : Int)) 7; simpa using this, hk.setCell (p := ⟨gE, 7, none⟩) _ fun _ => rfl⟩
    | false =>
      go_wp2_with fail
      go_meet
      exact ⟨bE, hk⟩
  case rest =>
  clear bE hk xs xb fs ys
  obtain ⟨bE, hk⟩ := hcut
  have xs := (hk.blk bT hET).cell 13
  have xb := (hk.blk bT hET).cell 17
  simp only [List.getElem?_toArray, List.getElem?_cons_succ, List.getElem?_cons_zero] at xs xb
  go_upto_if 92 with fail
  go_cut [2] (fun s2 wx => s2 = .int .i64 (cond bZ nz size : Nat) ∧ Blk wx gE tE #[.string (bs (cond bP pt (cond bL nm path))), .int .i64 kind, .int .i64 mode, .int .i64 ((cond bU nu uid : Nat) : Int), .int .i64 ((cond bI ni gid : Nat) : Int), .string (bs (cond bO ow owner)), .string (bs (cond bG gw group)), .int .i64 ((cond bM nt mtime : Nat) : Int), .string (bs (cond bH tt (cond bK lk link))), .slice none 0 0] ∧ Kept (fun k => k = gE) W2 wx)
  case first =>
    cases bZ with
    | true =>
      go_wp2_with fail
      go_meet
      exact ⟨rfl, bE, hk⟩
    | false =>
      go_wp2_with fail
      go_meet
      exact ⟨rfl, bE, hk⟩
  case rest =>
  clear bE hk xs xb
  obtain ⟨rfl, bE, hk⟩ := hcut
  have bR := hk.blk bR hER
  have hq := hq.trans (hk.below hq.size fun k _ e => by rw [e]; exact hEH)
  clear bT hk
  obtain ⟨c0, c1, c2, c3, c4, c5, c6, c7, c8, c9⟩ := bE.cells10
  obtain ⟨z0, z1, z2, z3, z4, z5, z6, z7, z8, z9⟩ := bR.cells10
  have f0 := bR.frozen 0
  have f1 := bR.frozen 1
  have f2 := bR.frozen 2
  have f3 := bR.frozen 3
  have f4 := bR.frozen 4
  have f5 := bR.frozen 5
  have f6 := bR.frozen 6
  have f7 := bR.frozen 7
  have f8 := bR.frozen 8
  have f9 := bR.frozen 9
  go_wp2_with fail
  have K := entT_set bR (.string (bs (cond bP pt (cond bL nm path)))) (.int .i64 kind) (.int .i64 mode) (.int .i64 ((cond bU nu uid : Nat) : Int)) (.int .i64 ((cond bI ni gid : Nat) : Int)) (.string (bs (cond bO ow owner))) (.string (bs (cond bG gw group))) (.int .i64 ((cond bM nt mtime : Nat) : Int)) (.string (bs (cond bH tt (cond bK lk link)))) (.slice none 0 0)
  have hq := entT_bel hq hgR (.string (bs (cond bP pt (cond bL nm path)))) (.int .i64 kind) (.int .i64 mode) (.int .i64 ((cond bU nu uid : Nat) : Int)) (.int .i64 ((cond bI ni gid : Nat) : Int)) (.string (bs (cond bO ow owner))) (.string (bs (cond bG gw group))) (.int .i64 ((cond bM nt mtime : Nat) : Int)) (.string (bs (cond bH tt (cond bK lk link)))) (.slice none 0 0)
  clear bE c0 c1 c2 c3 c4 c5 c6 c7 c8 c9 z0 z1 z2 z3 z4 z5 z6 z7 z8 z9 f0 f1 f2 f3 f4 f5 f6 f7 f8 f9
  generalize (((((((((wc.setCell ⟨gR, 0, none⟩ (.string (bs (cond bP pt (cond bL nm path))))).setCell ⟨gR, 1, none⟩ (.int .i64 kind)).setCell ⟨gR, 2, none⟩ (.int .i64 mode)).setCell ⟨gR, 3, none⟩ (.int .i64 ((cond bU nu uid : Nat) : Int))).setCell ⟨gR, 4, none⟩ (.int .i64 ((cond bI ni gid : Nat) : Int))).setCell ⟨gR, 5, none⟩ (.string (bs (cond bO ow owner)))).setCell ⟨gR, 6, none⟩ (.string (bs (cond bG gw group)))).setCell ⟨gR, 7, none⟩ (.int .i64 ((cond bM nt mtime : Nat) : Int))).setCell ⟨gR, 8, none⟩ (.string (bs (cond bH tt (cond bK lk link))))).setCell ⟨gR, 9, none⟩ (.slice none 0 0) = WX at K hq ⊢
  obtain ⟨k0, k1, k2, k3, k4, k5, k6, k7, k8, k9⟩ := K.cells10
  refine bodyPost_ret (v := .tuple #[.agg #[.string (bs (cond bP pt (cond bL nm path))), .int .i64 kind, .int .i64 mode, .int .i64 ((cond bU nu uid : Nat) : Int), .int .i64 ((cond bI ni gid : Nat) : Int), .string (bs (cond bO ow owner)), .string (bs (cond bG gw group)), .int .i64 ((cond bM nt mtime : Nat) : Int), .string (bs (cond bH tt (cond bK lk link))), .slice none 0 0], .int .i64 (cond bZ nz size : Nat)]) ?_ ?_ ?_
  · simp [results, Tryz.results28, go_sem, k0, k1, k2, k3, k4, k5, k6, k7, k8, k9]
  · rfl
  · exact ⟨rfl, hq⟩
theorem rover_any (t : Td) (fr gt : Nat) (w : World) (hB : Blk w gt 62 (toldV t fr)) (path owner group link : List UInt8) (kind mode : Int) (uid gid mtime size : Nat) :
    Calls Tryz.prog 28 #[.pointer (some ⟨gt, 0, none⟩), .agg #[.string (bs path), .int .i64 kind, .int .i64 mode, .int .i64 (uid : Int), .int .i64 (gid : Int), .string (bs owner), .string (bs group), .int .i64 (mtime : Int), .string (bs link), .slice none 0 0], .int .i64 (size : Int)] w fun r w' => r = .returned (.tuple #[.agg #[.string (bs (orT t kPth (orT t [76] path))), .int .i64 kind, .int .i64 mode, .int .i64 (orN t kUid uid : Nat), .int .i64 (orN t kGid gid : Nat), .string (bs (orT t kOwn owner)), .string (bs (orT t kGrp group)), .int .i64 (orN t kTime mtime : Nat), .string (bs (orT t kLnk (orT t [75] link))), .slice none 0 0], .int .i64 (orN t kSize size : Nat)]) ∧ Below w.heap.size w w' := by
  have cT : ∀ (k s : List UInt8), cond (t k).isSome (orT t k []) s = orT t k s := fun k s => by unfold orT; cases t k <;> rfl
  have cN : ∀ (k : List UInt8) (n : Nat), cond (t k).isSome (orN t k 0) n = orN t k n := fun k s => by unfold orN; cases t k <;> rfl
  have h := over_core gt w _ _ _ _ _ _ _ _ _ _ _ _ _ _ _ _ _ _ _ _ _ _ hB path owner group link kind mode uid gid mtime size
  simp only [cT, cN] at h
  exact h
end Go.Proofs.YtpheifdpjcppdaaGreatDoor
