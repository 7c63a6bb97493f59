/- Walks of numbers as bytes, in both orders. -/
import Derived.Test.YtkhkminhlpjkgaaDoorCodS5
import Derived.Test.YtkhkminhlpjkgaaDoorCodM
namespace Go.Proofs.YtkhkminhlpjkgaaDoor
open Go.RowKit
set_option maxHeartbeats 400000 in
theorem le_none (n size : Int) (w : World) (h : size < 1 ∨ 8 < size) :
    Calls Tryd.prog 23 #[.int .u64 n, .int .i64 size] w fun e w' => e = .returned (.slice none 0 0) ∧ w = w' := by
  rcases h with h | h
  · go_enter Tryd.func23, Tryd.ntmps23
    go_wp2
    go_ret
    exact ⟨rfl, rfl⟩
  · have h1 : ¬ size < 1 := by omega
    have h2 : decide (size < 1) = false := by simpa using h1
    go_enter Tryd.func23, Tryd.ntmps23
    go_wp2
    go_ret
    exact ⟨rfl, rfl⟩
set_option maxHeartbeats 400000 in
theorem le_any (n size : Nat) (w : World) (hn : n < 18446744073709551616) (h1 : 1 ≤ size) (h8 : size ≤ 8) :
    Calls Tryd.prog 23 #[.int .u64 (n : Int), .int .i64 (size : Int)] w (GivesB 5 w (fun v => v) (beL n size).reverse) := by
  obtain ⟨i0, hi, hz0, hz1, hz2⟩ := info_parts u8info
  have hd1 : decide ((size : Int) < 1) = false := by simp; omega
  have hd2 : decide ((8 : Int) < (size : Int)) = false := by simp; omega
  go_enter Tryd.func23, Tryd.ntmps23
  go_wp2_with (at_make; refine wpList_make_full _ rfl _ _ _ rfl w.heap.size _ i0 _ 1 Tryd.underlying22 hi hz0 hz1 _ _ _ _ size rfl rfl rfl rfl (by rw [hz2]; omega) (by unfold maxLen; omega) (Nat.le_refl _) ?_)
  intro w1 hown1 hg1
  have hb1 : Below w.heap.size w w1 := (Below.refl _ _).grown hg1 (Nat.le_refl _) (by simp)
  go_wp2
  go_loopw [16] (fun i wr => ∃ k : Nat, k ≤ size ∧ i = .int .i64 k ∧ wr.ownsRow w.heap.size 5 1 (.slice (some ⟨w.heap.size, 0, none⟩) size size) size (bvs ((beL n k).reverse ++ List.replicate (size - k) 0)) ∧ Below w.heap.size w wr) (fun i _ => size - (intOf i).toNat)
  case atStart => exact ⟨0, Nat.zero_le _, rfl, by simp only [beL, List.reverse_nil, List.nil_append, Nat.sub_zero]; rw [← bvs_replicate']; simpa using hown1, hb1⟩
  case round =>
    obtain ⟨k, hk, rfl, hown, hbw⟩ := hrel
    by_cases hlt : k < size
    · obtain ⟨b8, Hb8⟩ : ∃ b8 : UInt8, Hid (b8 = UInt8.ofNat (n / 256 ^ k)) := ⟨_, rfl⟩
      have hval : (n : Int) / 2 ^ (8 * k) % 256 = (b8.toNat : Int) := by
        rw [Hb8.out, Int.pow_mul]
        simp
      obtain ⟨⟨u0, hcell⟩, hfro, hst⟩ := own_store_next hown k (by rw [List.length_reverse, beL_length]) (by omega)
      have Hst := Lib.hid hst
      clear hst
      go_wp2
      go_roundw
      case rel =>
        refine ⟨k + 1, by omega, by go_num, ?_, hbw.setCell (Nat.le_refl _) _⟩
        have h2 := Hst.out b8
        rw [Hb8.out] at h2 ⊢
        rw [beL, List.reverse_cons]
        exact h2
      case measure => simp [intOf]; omega
    · go_wp2
      go_ret
      obtain rfl : k = size := by omega
      exact ⟨_, rfl, by rw [List.length_reverse, beL_length]; simpa using hown, hbw⟩
set_option maxHeartbeats 400000 in
theorem rbe_none (n size : Int) (w : World) (h : size < 1 ∨ 8 < size) :
    Calls Tryd.prog 24 #[.int .u64 n, .int .i64 size] w fun e w' => e = .returned (.slice none 0 0) ∧ w = w' := by
  rcases h with h | h
  · go_enter Tryd.func24, Tryd.ntmps24
    go_wp2
    go_ret
    exact ⟨rfl, rfl⟩
  · have h1 : ¬ size < 1 := by omega
    have h2 : decide (size < 1) = false := by simpa using h1
    go_enter Tryd.func24, Tryd.ntmps24
    go_wp2
    go_ret
    exact ⟨rfl, rfl⟩
set_option maxHeartbeats 400000 in
theorem rbe_any (n size : Nat) (w : World) (hn : n < 18446744073709551616) (h1 : 1 ≤ size) (h8 : size ≤ 8) :
    Calls Tryd.prog 24 #[.int .u64 (n : Int), .int .i64 (size : Int)] w (GivesB 5 w (fun v => v) (beL n size)) := by
  have hd1 : decide ((size : Int) < 1) = false := by simp; omega
  have hd2 : decide ((8 : Int) < (size : Int)) = false := by simp; omega
  go_enter Tryd.func24, Tryd.ntmps24
  go_wp2
  go_loopw [0, 5, 6] (fun m v i wr => ∃ (k m' : Nat), k ≤ size ∧ i = .int .i64 k ∧ m = .int .u64 (m' : Int) ∧ m' < 18446744073709551616 ∧ Hid (m' = n / 256 ^ k) ∧ wr.ownsRow w.heap.size 5 1 v k (bvs (beL n k)) ∧ Below w.heap.size w wr) (fun _ _ i _ => size - (intOf i).toNat)
  case atStart => exact ⟨0, n, Nat.zero_le _, rfl, rfl, hn, Lib.hid (by simp), World.ownsRow_nil _ _ _ _, Below.refl _ _⟩
  case round =>
    obtain ⟨k, m, hk, rfl, rfl, hm, Hm, hown, hbw⟩ := hrel
    by_cases hlt : k < size
    · have hx1 : (m : Int).tmod 256 = (m : Int) % 256 := Int.tmod_eq_emod_of_nonneg (by omega)
      obtain ⟨b8, Hb8⟩ : ∃ b8 : UInt8, Hid (b8 = UInt8.ofNat m) := ⟨_, rfl⟩
      have hval : (m : Int) % 256 = (b8.toNat : Int) := by
        rw [Hb8.out]
        simp
      have hb8 := b8.toNat_lt
      have hval2 : IntKind.u8.wrap (b8.toNat : Int) = (b8.toNat : Int) := u8_in _ (by omega) (by omega)
      obtain ⟨A4, cap4, rfl⟩ := own_form hown
      go_wp2_with (at_builtin; refine wpList_append8 rfl (.tmp 21) (.tmp 22) _ _ rfl Tryd.underlying22 u8info wr.heap.size (.slice (some ⟨wr.heap.size, 0, none⟩) 1 1) 1 [b8] rfl (own_lit wr [b8] _ _ (Nat.le_refl _) rfl (by unfold maxLen; simp)) A4 k cap4 (beL n k) rfl ((SB.of_own hown).alloc _) (by omega) (by simp) ?_; intro v2 w2 hown2 hb2 hg2)
      have hb3 : Below w.heap.size w w2 := hbw.trans ((((Below.refl _ _).alloc (Nat.le_refl _) _).trans hb2).mono hbw.size)
      have ho3 : w2.ownsRow w.heap.size 5 1 v2 (k + 1) (bvs (beL n (k + 1))) := by
        have := own_base hown2 hbw.size
        rw [Nat.add_comm] at this
        rw [Hb8.out, Hm.out] at this
        exact this
      clear hown2 hb2 hg2 hown hbw hval hval2
      go_wp2
      go_roundw
      case rel => exact ⟨k + 1, m / 256, by omega, by go_num, by go_num, by omega, Lib.hid (by rw [Hm.out, Nat.div_div_eq_div_mul, Nat.pow_succ]), ho3, hb3⟩
      case measure => simp [intOf]; omega
    · obtain rfl : k = size := by omega
      go_wp2
      go_ret
      exact ⟨_, rfl, by rw [beL_length]; exact hown, hbw⟩
set_option maxHeartbeats 400000 in
theorem turned_any (v : Value) (l : List UInt8) (w : World) (h : SB w v l) (hl : l.length ≤ 1000000000000) :
    Calls Tryd.prog 25 #[v] w (GivesB 5 w (fun v => v) l.reverse) := by
  obtain ⟨A, cap, rfl, h1, h2, h3, h4⟩ := h
  unfold maxLen at h2
  go_enter Tryd.func25, Tryd.ntmps25
  go_wp2
  go_loopw [3, 4] (fun v i wr => ∃ k : Nat, k ≤ l.length ∧ i = .int .i64 ((k : Int) - 1) ∧ wr.ownsRow w.heap.size 5 1 v (l.length - k) (bvs (l.drop k).reverse) ∧ Below w.heap.size w wr) (fun _ i _ => (intOf i + 1).toNat)
  case atStart => exact ⟨l.length, Nat.le_refl _, rfl, by rw [Nat.sub_self, List.drop_length]; exact World.ownsRow_nil _ _ _ _, Below.refl _ _⟩
  case round =>
    obtain ⟨k, hk, rfl, hown, hbw⟩ := hrel
    by_cases hlt : 0 < k
    · obtain ⟨j, rfl⟩ : ∃ j, k = j + 1 := ⟨k - 1, by omega⟩
      have hj : j < l.length := by omega
      obtain ⟨b, off, rfl, hc⟩ := h4 (by intro e; subst e; simp at hk)
      have hcell : wr.cell? ⟨b, off + j, none⟩ = some (.int .u8 (l[j].toNat : Int)) := by
        have := hc j hj
        rw [hbw.cell (p := ⟨b, off + j, none⟩) (lt_of_cell this)]; exact this
      have hij : ((j + 1 : Nat) : Int) - 1 = (j : Int) := by omega
      rw [hij]
      go_wp2_with (at_builtin; refine wpList_append8 rfl (.tmp 12) (.tmp 17) _ _ rfl Tryd.underlying22 u8info w.heap.size u3 (l.length - (j + 1)) _ rfl (hown.alloc _) _ 1 1 [l[j]] rfl (SB.made wr [l[j]] _ _ rfl (by unfold maxLen; simp)) (by omega) (by have := hbw.size; simp; omega) ?_; intro v2 w2 hown2 hb2 hg2)
      have hb3 : Below w.heap.size w w2 := (hbw.alloc hbw.size _).trans hb2
      have ho3 : w2.ownsRow w.heap.size 5 1 v2 (l.length - j) (bvs (l.drop j).reverse) := by
        rw [drop_cons l j hj, List.reverse_cons]
        have e : l.length - (j + 1) + 1 = l.length - j := by omega
        rw [← e]
        exact hown2
      clear hown2 hb2 hg2
      go_wp2
      go_roundw
      case rel => exact ⟨j, by omega, by go_num, ho3, hb3⟩
      case measure => simp [intOf]
    · obtain rfl : k = 0 := by omega
      go_wp2
      go_ret
      exact ⟨_, rfl, by rw [List.length_reverse]; simpa using hown, hbw⟩
end Go.Proofs.YtkhkminhlpjkgaaDoor
