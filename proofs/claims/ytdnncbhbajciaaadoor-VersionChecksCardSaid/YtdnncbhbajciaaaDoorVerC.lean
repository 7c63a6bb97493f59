/- Walks of version's made, number, nought, and of the reference's place and has. -/
import Derived.Test.YtdnncbhbajciaaaDoorVerB
namespace Go.Proofs.YtdnncbhbajciaaaDoor
open Go.RowKit
theorem ib (s : ByteArray) (b : UInt8) (w : World) : Calls Tryd.prog 90 #[.string s, .int .u8 (b.toNat : Int)] w fun e w' => e = .returned (.int .i64 (Lib.indexByte s.data.toList b)) ∧ w = w' :=
  (Tryd.strings_IndexByte s _ w).mono fun e w' ⟨h1, h2⟩ => ⟨by simpa using h1, h2.symm⟩
set_option maxHeartbeats 1000000 in
theorem made1_any (o : ByteArray) (g : Nat) (c : UInt8) (w : World) (hg : w.cell? ⟨g, 0, none⟩ = some (.string o)) :
    Calls Tryd.prog 106 #[.int .u8 (c.toNat : Int), .pointer (some ⟨g, 0, none⟩)] w fun e w' => e = .returned (.bool (madeP o.data.toList c)) ∧ w = w' := by
  cases hl : isLet c with
  | true =>
    go_enter Tryd.func106, Tryd.ntmps106
    go_wp2_with fail
    refine (letter_any c _).mono ?_
    rintro e w1 ⟨rfl, rfl⟩
    rw [hl]
    go_wp2
    go_ret
    exact ⟨by simp [madeP, hl], rfl⟩
  | false =>
    cases hd : isDig c with
    | true =>
      go_enter Tryd.func106, Tryd.ntmps106
      go_wp2_with fail
      refine (letter_any c _).mono ?_
      rintro e w1 ⟨rfl, rfl⟩
      rw [hl]
      go_wp2_with fail
      refine (digit_any c _).mono ?_
      rintro e w1 ⟨rfl, rfl⟩
      rw [hd]
      go_wp2
      go_ret
      exact ⟨by simp [madeP, hd], rfl⟩
    | false =>
      go_enter Tryd.func106, Tryd.ntmps106
      go_wp2_with fail
      refine (letter_any c _).mono ?_
      rintro e w1 ⟨rfl, rfl⟩
      rw [hl]
      go_wp2_with fail
      refine (digit_any c _).mono ?_
      rintro e w1 ⟨rfl, rfl⟩
      rw [hd]
      go_wp2_with fail
      refine (ib o c _).mono ?_
      rintro e w1 ⟨rfl, rfl⟩
      go_wp2
      go_ret
      exact ⟨by simp [madeP, hd, hl, inB], rfl⟩
theorem tw_all (p : UInt8 → Bool) (l : List UInt8) : ((l.takeWhile p).length = l.length) ↔ l.all p = true := by
  induction l with
  | nil => simp
  | cons c r ih =>
    rw [List.takeWhile_cons]
    cases hc : p c with
    | true => simp [hc, ih]
    | false => simp [hc]
theorem empty_or (s : ByteArray) : s = ⟨#[]⟩ ∨ 0 < s.size := by
  rcases Nat.eq_zero_or_pos s.size with h0 | h0
  · left
    obtain ⟨a⟩ := s
    congr 1
    exact Array.eq_empty_of_size_eq_zero h0
  · exact .inr h0
theorem tw_beq (p : UInt8 → Bool) (s : ByteArray) : (((s.data.toList.takeWhile p).length : Int) == (s.size : Int)) = s.data.toList.all p := by
  have h := tw_all p s.data.toList
  have hl : s.data.toList.length = s.size := by simp
  rw [hl] at h
  cases ha : s.data.toList.all p with
  | true => rw [h.2 ha]; simp
  | false =>
    have : ¬ (s.data.toList.takeWhile p).length = s.size := fun e => by rw [h.1 e] at ha; cases ha
    simp; omega
theorem data_ne (s : ByteArray) (h : 0 < s.size) : s.data.toList.isEmpty = false := by
  obtain ⟨⟨l⟩⟩ := s
  cases l with
  | nil => exact absurd h (by decide)
  | cons => rfl
theorem hmf : ∀ (fn : Fn) (first cap : Array Value) (w : World), (Instr.makeFunc fn first cap).run Tryd.prog w = .ok (.func fn first cap) w := fun _ _ _ _ => rfl
set_option maxRecDepth 20000 in
set_option maxHeartbeats 1000000 in
theorem made_any (s o : ByteArray) (w : World) (hs : s.size ≤ 1000000000000) :
    Calls Tryd.prog 64 #[.string s, .string o] w fun e w' => e = .returned (.bool (madeB s.data.toList o.data.toList)) ∧ Below w.heap.size w w' := by
  rcases empty_or s with rfl | h0
  · go_enter Tryd.func64, Tryd.ntmps64
    go_wp2
    go_ret
    exact ⟨rfl, (Below.refl _ _).alloc (Nat.le_refl _) _⟩
  · have hne2 : ¬ s.toList = [] := toList_ne s h0
    have hne : s.toList.isEmpty = false := by simpa using hne2
    have hm := hmf
    go_enter Tryd.func64, Tryd.ntmps64
    go_wp2_with fail
    refine (run_any s 106 #[.pointer (some ⟨w.heap.size, 0, none⟩)] (madeP o.data.toList) _ hs (enters Tryd.func106 (by kernel_rfl) (by kernel_rfl)) (fun c => made1_any o w.heap.size c _ (by simp))).mono ?_
    rintro e w1 ⟨rfl, rfl⟩
    go_wp2
    go_ret
    refine ⟨?_, (Below.refl _ _).alloc (Nat.le_refl _) _⟩
    show Ending.returned (.bool (((s.data.toList.takeWhile (madeP o.data.toList)).length : Int) == (s.size : Int))) = _
    rw [tw_beq, madeB, data_ne s h0]
    simp
set_option maxRecDepth 20000 in
set_option maxHeartbeats 1000000 in
theorem number_any (s : ByteArray) (w : World) (hs : s.size ≤ 1000000000000) :
    Calls Tryd.prog 62 #[.string s] w fun e w' => e = .returned (.bool (!s.data.toList.isEmpty && s.data.toList.all isDig)) ∧ w = w' := by
  rcases empty_or s with rfl | h0
  · go_enter Tryd.func62, Tryd.ntmps62
    go_wp2
    go_ret
    exact ⟨rfl, rfl⟩
  · have hne2 : ¬ s.toList = [] := toList_ne s h0
    have hne : s.toList.isEmpty = false := by simpa using hne2
    go_enter Tryd.func62, Tryd.ntmps62
    go_wp2_with fail
    refine (run_any s 65 #[] isDig _ hs (enters Tryd.func65 (by kernel_rfl) (by kernel_rfl)) (fun c => digit_any c _)).mono ?_
    rintro e w1 ⟨rfl, rfl⟩
    go_wp2
    go_ret
    refine ⟨?_, rfl⟩
    show Ending.returned (.bool (((s.data.toList.takeWhile isDig).length : Int) == (s.size : Int))) = _
    rw [tw_beq, data_ne s h0]
    simp
theorem noughtB_short (s : ByteArray) (h : ¬ 1 < s.size) : noughtB s.data.toList = false := by
  obtain ⟨⟨l⟩⟩ := s
  match l, h with
  | [], _ => rfl
  | [_], _ => rfl
  | c :: d :: r, h => exact absurd (by show 1 < (c :: d :: r).length; simp) h
theorem noughtB_long (s : ByteArray) (h : 1 < s.size) : noughtB s.data.toList = ((s[0].toNat : Int) == 48) := by
  obtain ⟨⟨l⟩⟩ := s
  match l, h with
  | [], h => exact absurd h (by decide)
  | [_], h => exact absurd h (by show ¬ 1 < 1; decide)
  | c :: d :: r, _ =>
    show decide (c.toNat = 48) = ((c.toNat : Int) == 48)
    by_cases hc : c.toNat = 48
    · rw [hc]; rfl
    · simp [hc]; omega
set_option maxHeartbeats 1000000 in
theorem nought_any (s : ByteArray) (w : World) :
    Calls Tryd.prog 66 #[.string s] w fun e w' => e = .returned (.bool (noughtB s.data.toList)) ∧ w = w' := by
  by_cases h1 : 1 < s.size
  · have hd1 : decide ((1 : Int) < (s.size : Int)) = true := by simp; omega
    have Hn := Lib.hid (noughtB_long s h1)
    go_enter Tryd.func66, Tryd.ntmps66
    go_wp2
    go_ret
    exact ⟨by rw [Hn.out]; rfl, rfl⟩
  · have hd1 : decide ((1 : Int) < (s.size : Int)) = false := by simp; omega
    have Hn := Lib.hid (noughtB_short s h1)
    go_enter Tryd.func66, Tryd.ntmps66
    go_wp2
    go_ret
    exact ⟨by rw [Hn.out]; rfl, rfl⟩
/-- Does a text begin with a byte? -/
def hasB (l : List UInt8) (c : UInt8) : Bool := match l with
  | [] => false
  | d :: _ => decide (d = c)
theorem hasB_some (s : ByteArray) (c : UInt8) (h : 0 < s.size) : hasB s.data.toList c = ((s[0].toNat : Int) == (c.toNat : Int)) := by
  obtain ⟨⟨l⟩⟩ := s
  match l, h with
  | [], h => exact absurd h (by decide)
  | d :: r, _ => exact (beq_byte d c).symm
set_option maxHeartbeats 1000000 in
theorem rhas_any (s : ByteArray) (c : UInt8) (w : World) :
    Calls Tryd.prog 73 #[.string s, .int .u8 (c.toNat : Int)] w fun e w' => e = .returned (.bool (hasB s.data.toList c)) ∧ w = w' := by
  rcases empty_or s with rfl | h0
  · go_enter Tryd.func73, Tryd.ntmps73
    go_wp2
    go_ret
    exact ⟨rfl, rfl⟩
  · have hd1 : decide ((0 : Int) < (s.size : Int)) = true := by simp; omega
    have Hn := Lib.hid (hasB_some s c h0)
    go_enter Tryd.func73, Tryd.ntmps73
    go_wp2
    go_ret
    exact ⟨by rw [Hn.out]; rfl, rfl⟩
end Go.Proofs.YtdnncbhbajciaaaDoor
