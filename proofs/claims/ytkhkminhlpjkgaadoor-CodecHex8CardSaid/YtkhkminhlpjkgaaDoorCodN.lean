/- The walk of the law on eight hexadecimal digits. -/
import Derived.Test.YtkhkminhlpjkgaaDoorCodM
namespace Go.Proofs.YtkhkminhlpjkgaaDoor
open Go.RowKit
theorem unhex8_back (n : Nat) (w : World) (h : n ≤ 4294967295) :
    Calls Tryd.prog 21 #[.string ⟨(hxd n 8).toArray⟩] w fun e w' => e = .returned (.tuple #[.int .i64 (n : Int), .int .i64 0]) ∧ w = w' := by
  have h1 := unhex8_any ⟨(hxd n 8).toArray⟩ w
  have e1 : un8Code (⟨(hxd n 8).toArray⟩ : ByteArray).data.toList = 0 := (un8_back n (by omega)).1
  have e2 : un8N (⟨(hxd n 8).toArray⟩ : ByteArray).data.toList = n := (un8_back n (by omega)).2
  rw [e1, e2] at h1
  exact h1
theorem unhex8_none (w : World) :
    Calls Tryd.prog 21 #[.string ⟨#[]⟩] w fun e w' => e = .returned (.tuple #[.int .i64 0, .int .i64 2]) ∧ w = w' := unhex8_any ⟨#[]⟩ w
set_option maxHeartbeats 2000000 in
theorem law_hex8 (n : Int) (s : ByteArray) (w : World) (hn : -9223372036854775808 ≤ n ∧ n ≤ 9223372036854775807) (hs : s.size ≤ maxLen) :
    Calls Tryd.prog 6 #[.int .i64 n, .string s] w fun e w' => e = .returned (.bool true) ∧ Below w.heap.size w w' := by
  unfold maxLen at hs
  by_cases hl : 2000 < s.size
  · have hd : decide ((2000 : Int) < (s.size : Int)) = true := by simp; omega
    go_enter Tryd.func6, Tryd.ntmps6
    go_wp2_with (go_at_call 9; refine (awake_any _).mono ?_; rintro e w1 ⟨rfl, hb1⟩)
    go_ret
    exact ⟨rfl, hb1⟩
  · have hd : decide ((2000 : Int) < (s.size : Int)) = false := by simp; omega
    by_cases hb : n < 0 ∨ 4294967295 < n
    · go_enter Tryd.func6, Tryd.ntmps6
      go_wp2_with (go_at_call 9; refine (awake_any _).mono ?_; rintro e w1 ⟨rfl, hb1⟩)
      refine (hex8_bad n _ hb).mono ?_
      rintro e w2 ⟨rfl, hb2⟩
      go_wp2_with fail
      refine (rhex8_bad n _ hb).mono ?_
      rintro e w3 ⟨rfl, hb3⟩
      go_wp2_with fail
      refine (unhex8_any s _).mono ?_
      rintro e w4 ⟨rfl, rfl⟩
      go_wp2_with fail
      refine (runhex8_any s _).mono ?_
      rintro e w5 ⟨rfl, hb5⟩
      have q5 : Below w.heap.size w w5 := below_trans hb1 (below_trans hb2 (below_trans hb3 hb5))
      clear hb1 hb2 hb3 hb5
      go_wp2_with fail
      refine (unhex8_none _).mono ?_
      rintro e w6 ⟨rfl, rfl⟩
      go_wp2_with fail
      go_ret
      exact ⟨rfl, q5.alloc q5.size _⟩
    · obtain ⟨m, rfl⟩ : ∃ m : Nat, n = (m : Int) := ⟨n.toNat, by omega⟩
      have hm : m ≤ 4294967295 := by omega
      clear hb hn
      go_enter Tryd.func6, Tryd.ntmps6
      go_wp2_with (go_at_call 9; refine (awake_any _).mono ?_; rintro e w1 ⟨rfl, hb1⟩)
      refine (hex8_any m _ hm).mono ?_
      rintro e w2 ⟨rfl, hb2⟩
      go_wp2_with fail
      refine (rhex8_any m _ hm).mono ?_
      rintro e w3 ⟨rfl, hb3⟩
      go_wp2_with fail
      refine (unhex8_any s _).mono ?_
      rintro e w4 ⟨rfl, rfl⟩
      go_wp2_with fail
      refine (runhex8_any s _).mono ?_
      rintro e w5 ⟨rfl, hb5⟩
      have q5 : Below w.heap.size w w5 := below_trans hb1 (below_trans hb2 (below_trans hb3 hb5))
      clear hb1 hb2 hb3 hb5
      go_wp2_with fail
      refine (unhex8_back m _ hm).mono ?_
      rintro e w6 ⟨rfl, rfl⟩
      go_wp2_with fail
      go_ret
      exact ⟨rfl, q5.alloc q5.size _⟩
end Go.Proofs.YtkhkminhlpjkgaaDoor
