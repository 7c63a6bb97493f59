/- The walk of the document's octal (ar). -/
import Derived.Test.YtolknddegfcmpaaDoorArF
namespace Go.Proofs.YtolknddegfcmpaaDoor
open Go.RowKit
/-- The octal digits of a number. -/
def octD (n : Nat) : List UInt8 := if h : n < 8 then [UInt8.ofNat (48 + n)] else octD (n / 8) ++ [UInt8.ofNat (48 + n % 8)]
theorem oct_big {u : Nat} (h : ¬ u < 8) : octD u = octD (u / 8) ++ [UInt8.ofNat (48 + u % 8)] := by rw [octD, dif_neg h]
theorem oct_one {u : Nat} (h : u < 8) : octD u = [UInt8.ofNat (48 + u)] := by rw [octD, dif_pos h]
theorem octD_len : ∀ (k n : Nat), n < 8 ^ (k + 1) → (octD n).length ≤ k + 1
  | 0, n, h => by rw [oct_one (by omega)]; simp
  | k + 1, n, h => by
    by_cases hn : n < 8
    · rw [oct_one hn]; simp
    · rw [oct_big hn, List.length_append, List.length_singleton]
      rw [Nat.pow_succ] at h
      have := octD_len k (n / 8) (by omega)
      omega
set_option maxHeartbeats 1000000 in
theorem roct_any (n : Nat) (w : World) (h : n ≤ 100000) :
    Calls Tryd.prog 44 #[.int .i64 (n : Int)] w fun e w' => e = .returned (.string ⟨(octD n).toArray⟩) ∧ Below w.heap.size w w' := by
  go_enter Tryd.func44, Tryd.ntmps44
  go_wp2
  go_loopw [0, 3] (fun m v wr => ∃ (m' : Nat) (out : List UInt8), m = .int .i64 (m' : Int) ∧ m' ≤ 100000 ∧ Hid (octD n = octD m' ++ out) ∧ wr.ownsRow w.heap.size 5 1 v out.length (bvs out) ∧ Below w.heap.size w wr) (fun m _ _ => (intOf m).toNat)
  case atStart => exact ⟨n, [], rfl, h, Lib.hid (by simp), World.ownsRow_nil _ _ _ _, Below.refl _ _⟩
  case round =>
    obtain ⟨m, out, rfl, hm, Hm, hown, hbw⟩ := hrel
    have hout : out.length ≤ 19 := by
      have h1 := octD_len 18 n (by omega)
      rw [Hm.out, List.length_append] at h1
      omega
    obtain ⟨A4, cap4, rfl⟩ := own_form hown
    by_cases hlt : 7 < m
    · have hd9 : decide ((7 : Int) < (m : Int)) = true := by simp; omega
      have hx1 : (m : Int).tmod 8 = (m : Int) % 8 := Int.tmod_eq_emod_of_nonneg (by omega)
      obtain ⟨b8, Hb8⟩ : ∃ b8 : UInt8, Hid (b8 = UInt8.ofNat (48 + m % 8)) := ⟨_, rfl⟩
      have hb8 := b8.toNat_lt
      have hval : 48 + (m : Int) % 8 = (b8.toNat : Int) := by
        rw [Hb8.out, UInt8.toNat_ofNat']
        omega
      have hval1 : IntKind.i64.wrap (b8.toNat : Int) = (b8.toNat : Int) := i64_in _ (by omega) (by omega)
      have hval2 : IntKind.u8.wrap (b8.toNat : Int) = (b8.toNat : Int) := u8_in _ (by omega) (by omega)
      go_wp2_with (at_builtin; refine wpList_append8 rfl (.tmp 10) (.tmp 11) _ _ rfl Tryd.underlying26 u8info wr.heap.size (.slice (some ⟨wr.heap.size, 0, none⟩) 1 1) 1 [b8] rfl (own_lit wr [b8] _ _ (Nat.le_refl _) rfl (by unfold maxLen; simp)) A4 out.length cap4 out rfl ((SB.of_own hown).alloc _) (by omega) (by simp) ?_; intro v2 w2 hown2 hb2 hg2)
      have hb3 : Below w.heap.size w w2 := hbw.trans ((((Below.refl _ _).alloc (Nat.le_refl _) _).trans hb2).mono hbw.size)
      have ho3 : w2.ownsRow w.heap.size 5 1 v2 (b8 :: out).length (bvs (b8 :: out)) := by
        have := own_base hown2 hbw.size
        rw [Nat.add_comm] at this
        exact this
      clear hown2 hb2 hg2 hown hbw hval hval1 hval2
      go_wp2
      go_roundw
      case rel => exact ⟨m / 8, b8 :: out, by go_num, by omega, Lib.hid (by rw [Hm.out, oct_big (by omega), Hb8.out]; simp), ho3, hb3⟩
      case measure => simp [intOf]; omega
    · have hd9 : decide ((7 : Int) < (m : Int)) = false := by simp; omega
      obtain ⟨b8, Hb8⟩ : ∃ b8 : UInt8, Hid (b8 = UInt8.ofNat (48 + m)) := ⟨_, rfl⟩
      have hb8 := b8.toNat_lt
      have hval : 48 + (m : Int) = (b8.toNat : Int) := by
        rw [Hb8.out, UInt8.toNat_ofNat']
        omega
      have hval1 : IntKind.i64.wrap (b8.toNat : Int) = (b8.toNat : Int) := i64_in _ (by omega) (by omega)
      have hval2 : IntKind.u8.wrap (b8.toNat : Int) = (b8.toNat : Int) := u8_in _ (by omega) (by omega)
      go_wp2_with (at_builtin; refine wpList_append8 rfl (.tmp 18) (.tmp 19) _ _ rfl Tryd.underlying26 u8info wr.heap.size (.slice (some ⟨wr.heap.size, 0, none⟩) 1 1) 1 [b8] rfl (own_lit wr [b8] _ _ (Nat.le_refl _) rfl (by unfold maxLen; simp)) A4 out.length cap4 out rfl ((SB.of_own hown).alloc _) (by omega) (by simp) ?_; intro v2 w2 hown2 hb2 hg2; have hstr := str8 (SB.of_own hown2))
      go_ret
      refine ⟨?_, hbw.trans ((((Below.refl _ _).alloc (Nat.le_refl _) _).trans hb2).mono hbw.size)⟩
      rw [Hm.out, oct_one (by omega), ← Hb8.out]
      rfl
end Go.Proofs.YtolknddegfcmpaaDoor
