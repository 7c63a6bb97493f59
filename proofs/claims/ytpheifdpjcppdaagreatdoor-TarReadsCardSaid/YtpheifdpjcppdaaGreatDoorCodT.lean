/- Walks of decimal digits. -/
import Derived.Test.YtpheifdpjcppdaaGreatDoorCodS6
import Derived.Test.YtpheifdpjcppdaaGreatDoorMapU
import Derived.Test.YtpheifdpjcppdaaGreatDoorShelfI
import Derived.Lib.AppendIntMem
namespace Go.Proofs.YtpheifdpjcppdaaGreatDoor
open Go.RowKit
/-- A table that was laid stays where nothing old is turned. -/
theorem tab_below {P : Program} {name : String} {g : Nat} {k : IntKind} {zs : List Int} {w w' : World} (hg : P.globalNamed name = some g) (h : Lib.TabIs P w name k zs) (hb : Below w.heap.size w w') : Lib.TabIs P w' name k zs := by
  have hlt : g < w.heap.size := by
    by_cases hl : g < w.heap.size
    · exact hl
    · unfold Lib.TabIs World.var? at h
      rw [hg] at h
      simp [Array.getElem?_eq_none (Nat.le_of_not_lt hl)] at h
  unfold Lib.TabIs World.var? at *
  rw [hg] at *
  simpa [hb.block g hlt] using h
def Tab (w : World) : Prop := Lib.TabIs Tryz.prog w "internal/strconv.uint64pow10" .u64 Lib.pow10Tab
theorem Tab.below {w w' : World} (h : Tab w) (hb : Below w.heap.size w w') : Tab w' :=
  tab_below (show Tryz.prog.globalNamed "internal/strconv.uint64pow10" = some 1 by kernel_rfl) h hb
theorem dec_neg (n : Int) (w : World) (h : n < 0) : Calls Tryz.prog 35 #[.int .i64 n] w fun e w' => e = .returned (.string ⟨#[]⟩) ∧ Below w.heap.size w w' := by
  have hd : decide (n < 0) = true := by simpa using h
  go_enter Tryz.func35, Tryz.ntmps35
  go_wp2
  go_ret
  exact ⟨rfl, Below.refl _ _⟩
theorem dec_any (n : Nat) (w : World) (h : n ≤ 9223372036854775807) (ht : Tab w) : Calls Tryz.prog 35 #[.int .i64 (n : Int)] w fun e w' => e = .returned (.string ⟨(Lib.decDigits n).toArray⟩) ∧ Below w.heap.size w w' := by
  have hd : decide ((n : Int) < 0) = false := by simp
  go_enter Tryz.func35, Tryz.ntmps35
  go_wp2_with fail
  refine (Tryz.strconv_Itoa (n : Int) (by omega) (by omega) _ ht).mono ?_
  rintro e w1 ⟨rfl, k, os, rfl⟩
  go_wp2_with fail
  go_ret
  exact ⟨by rw [Lib.itoa_nonneg]; rfl, Lib.below_grow _ _ (Nat.le_refl _) _ _⟩
theorem rdec_neg (n : Int) (w : World) (h : n < 0) : Calls Tryz.prog 65 #[.int .i64 n] w fun e w' => e = .returned (.string ⟨#[]⟩) ∧ Below w.heap.size w w' := by
  have hd : decide (n < 0) = true := by simpa using h
  go_enter Tryz.func65, Tryz.ntmps65
  go_wp2
  go_ret
  exact ⟨rfl, Below.refl _ _⟩
set_option maxHeartbeats 1000000 in
theorem rdec_any (n : Nat) (w : World) (h : n ≤ 9223372036854775807) :
    Calls Tryz.prog 65 #[.int .i64 (n : Int)] w fun e w' => e = .returned (.string ⟨(Lib.decDigits n).toArray⟩) ∧ Below w.heap.size w w' := by
  have hd : decide ((n : Int) < 0) = false := by simp
  go_enter Tryz.func65, Tryz.ntmps65
  go_wp2
  go_loopw [0, 3] (fun m v wr => ∃ (m' : Nat) (out : List UInt8), m = .int .i64 (m' : Int) ∧ m' ≤ 9223372036854775807 ∧ Hid (Lib.decDigits n = Lib.decDigits m' ++ out) ∧ wr.ownsRow w.heap.size 5 1 v out.length (bvs out) ∧ Below w.heap.size w wr) (fun m _ _ => (intOf m).toNat)
  case atStart => exact ⟨n, [], rfl, h, Lib.hid (by simp), World.ownsRow_nil _ _ _ _, Below.refl _ _⟩
  case round =>
    obtain ⟨m, out, rfl, hm, Hm, hown, hbw⟩ := hrel
    have hout : out.length ≤ 19 := by
      have h1 := dec_len n (by omega)
      rw [Hm.out, List.length_append] at h1
      omega
    obtain ⟨A4, cap4, rfl⟩ := own_form hown
    by_cases hlt : 9 < m
    · have hd9 : decide ((9 : Int) < (m : Int)) = true := by simp; omega
      have hx1 : (m : Int).tmod 10 = (m : Int) % 10 := Int.tmod_eq_emod_of_nonneg (by omega)
      obtain ⟨b8, Hb8⟩ : ∃ b8 : UInt8, Hid (b8 = UInt8.ofNat (48 + m % 10)) := ⟨_, rfl⟩
      have hb8 := b8.toNat_lt
      have hval : 48 + (m : Int) % 10 = (b8.toNat : Int) := by
        rw [Hb8.out, UInt8.toNat_ofNat']
        omega
      have hval1 : IntKind.i64.wrap (b8.toNat : Int) = (b8.toNat : Int) := i64_in _ (by omega) (by omega)
      have hval2 : IntKind.u8.wrap (b8.toNat : Int) = (b8.toNat : Int) := u8_in _ (by omega) (by omega)
      go_wp2_with (at_builtin; refine wpList_append8 rfl (.tmp 12) (.tmp 13) _ _ rfl Tryz.underlying25 u8info wr.heap.size (.slice (some ⟨wr.heap.size, 0, none⟩) 1 1) 1 [b8] rfl (own_lit wr [b8] _ _ (Nat.le_refl _) rfl (by unfold maxLen; simp)) A4 out.length cap4 out rfl ((SB.of_own hown).alloc _) (by omega) (by simp) ?_; intro v2 w2 hown2 hb2 hg2)
      have hb3 : Below w.heap.size w w2 := hbw.trans ((((Below.refl _ _).alloc (Nat.le_refl _) _).trans hb2).mono hbw.size)
      have ho3 : w2.ownsRow w.heap.size 5 1 v2 (b8 :: out).length (bvs (b8 :: out)) := by
        have := own_base hown2 hbw.size
        rw [Nat.add_comm] at this
        exact this
      clear hown2 hb2 hg2 hown hbw hval hval1 hval2
      go_wp2
      go_roundw
      case rel => exact ⟨m / 10, b8 :: out, by go_num, by omega, Lib.hid (by rw [Hm.out, dec_big (by omega), Hb8.out]; simp), ho3, hb3⟩
      case measure => simp [intOf]; omega
    · have hd9 : decide ((9 : Int) < (m : Int)) = false := by simp; omega
      obtain ⟨b8, Hb8⟩ : ∃ b8 : UInt8, Hid (b8 = UInt8.ofNat (48 + m)) := ⟨_, rfl⟩
      have hb8 := b8.toNat_lt
      have hval : 48 + (m : Int) = (b8.toNat : Int) := by
        rw [Hb8.out, UInt8.toNat_ofNat']
        omega
      have hval1 : IntKind.i64.wrap (b8.toNat : Int) = (b8.toNat : Int) := i64_in _ (by omega) (by omega)
      have hval2 : IntKind.u8.wrap (b8.toNat : Int) = (b8.toNat : Int) := u8_in _ (by omega) (by omega)
      go_wp2_with (at_builtin; refine wpList_append8 rfl (.tmp 20) (.tmp 21) _ _ rfl Tryz.underlying25 u8info wr.heap.size (.slice (some ⟨wr.heap.size, 0, none⟩) 1 1) 1 [b8] rfl (own_lit wr [b8] _ _ (Nat.le_refl _) rfl (by unfold maxLen; simp)) A4 out.length cap4 out rfl ((SB.of_own hown).alloc _) (by omega) (by simp) ?_; intro v2 w2 hown2 hb2 hg2; have hstr := str8 (SB.of_own hown2))
      go_ret
      refine ⟨?_, hbw.trans ((((Below.refl _ _).alloc (Nat.le_refl _) _).trans hb2).mono hbw.size)⟩
      rw [Hm.out, Lib.decDigits_one (by omega), ← Hb8.out]
      rfl
end Go.Proofs.YtpheifdpjcppdaaGreatDoor
