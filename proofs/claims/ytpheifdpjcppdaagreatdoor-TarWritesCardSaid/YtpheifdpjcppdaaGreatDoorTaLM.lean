/- The walks of the document's zeros, fill, whole, sum, octal (tar). The walk of the document's block (tar). Printed by gen_tam.py. -/
import Derived.Test.YtpheifdpjcppdaaGreatDoorTaAC
import Derived.Test.YtpheifdpjcppdaaGreatDoorPlaF
import Derived.Test.YtpheifdpjcppdaaGreatDoorEnBD
namespace Go.Proofs.YtpheifdpjcppdaaGreatDoor
open Go.RowKit
set_option maxRecDepth 20000 in
set_option maxHeartbeats 4000000 in
theorem tzeros_any (n : Nat) (w : World) (hn : n ≤ 100000) : Calls Tryz.prog 24 #[.int .i64 (n : Int)] w fun e w' => e = .returned (.string (bs (List.replicate n 0))) ∧ w = w' := by
  have r1 : ∀ q, bs q ++ (⟨#[0]⟩ : ByteArray) = bs (q ++ [0]) := fun q => bs_app q [0]
  have hsz := bs_size
  go_enter Tryz.func24, Tryz.ntmps24
  go_wp2_with fail
  go_loopg [3] n (fun G s3 wr => ∃ (k : Nat) (q : List UInt8), k ≤ n ∧ G = n - k ∧ s3 = .string (bs q) ∧ Hid (List.replicate k 0 = q) ∧ w = wr)
  case atStart => exact ⟨0, [], Nat.zero_le _, rfl, rfl, Lib.hid rfl, rfl⟩
  case round =>
    obtain ⟨k, q, hk, rfl, rfl, HQ, rfl⟩ := hrel
    have hq : q.length = k := by rw [← HQ.out, List.length_replicate]
    by_cases hlt : k < n
    · have t1 : decide ((k : Int) < (n : Int)) = true := decide_eq_true (by omega)
      have t1b : decide (k < n) = true := decide_eq_true (by omega)
      have HQ2 : Hid (List.replicate (k + 1) 0 = q ++ [0]) := Lib.hid (by rw [List.replicate_succ', HQ.out])
      go_wp2_with fail
      go_roundg (n - (k + 1))
      case measure => omega
      case rel => exact ⟨k + 1, q ++ [0], by omega, rfl, rfl, HQ2, rfl⟩
    · have t1 : decide ((k : Int) < (n : Int)) = false := decide_eq_false (by omega)
      have t1b : decide (k < n) = false := decide_eq_false (by omega)
      have hke : k = n := by omega
      subst hke
      go_wp2_with fail
      go_ret
      exact ⟨by rw [HQ.out]; rfl, rfl⟩
theorem fixW_fit {s : List UInt8} {n : Nat} (h : s.length ≤ n) : fixW s n = s ++ List.replicate (n - s.length) 0 := by
  rw [fixW, List.take_of_length_le h]
set_option maxRecDepth 20000 in
set_option maxHeartbeats 4000000 in
theorem tfill_any (s : List UInt8) (n : Nat) (w : World) (hs : s.length ≤ n) (hn : n ≤ 1000) : Calls Tryz.prog 63 #[.string (bs s), .int .i64 (n : Int)] w fun e w' => e = .returned (.string (bs (fixW s n))) ∧ w = w' := by
  have hz := tzeros_any (n - s.length) w (by omega)
  have HF : Hid (bs (fixW s n) = bs s ++ bs (List.replicate (n - s.length) 0)) := Lib.hid (by rw [fixW_fit hs, bs_app])
  have zs := bs_size s
  have z2 : (bs (List.replicate (n - s.length) 0)).size = n - s.length := by rw [bs_size, List.length_replicate]
  have wn : IntKind.i64.wrap ((n : Int) - (s.length : Int)) = ((n - s.length : Nat) : Int) := by rw [i64_in _ (by omega) (by omega)]; omega
  generalize bs (List.replicate (n - s.length) 0) = Z at hz HF z2
  have hmn : n - s.length ≤ 1000 := by omega
  generalize n - s.length = m at hz z2 wn hmn
  have x1 : ¬ 9223372036854775807 < s.length + m := by omega
  go_enter Tryz.func63, Tryz.ntmps63
  go_wp2_with (go_at_call 24; refine hz.mono ?_; clear hz; rintro r W ⟨rfl, rfl⟩)
  go_ret
  exact ⟨by rw [HF.out]; rfl, rfl⟩
set_option maxRecDepth 20000 in
set_option maxHeartbeats 4000000 in
theorem twhole_any (s : List UInt8) (w : World) (hs : s.length ≤ 100000000) : Calls Tryz.prog 23 #[.string (bs s)] w fun e w' => e = .returned (.string (bs (wholeB s))) ∧ w = w' := by
  have hz := tzeros_any ((512 - s.length % 512) % 512) w (by omega)
  have HF : Hid (bs (wholeB s) = bs s ++ bs (List.replicate ((512 - s.length % 512) % 512) 0)) := Lib.hid (by rw [wholeB, bs_app])
  have zs := bs_size s
  have z2 : (bs (List.replicate ((512 - s.length % 512) % 512) 0)).size = (512 - s.length % 512) % 512 := by rw [bs_size, List.length_replicate]
  have hr0 : (s.length : Int).tmod 512 = ((s.length % 512 : Nat) : Int) := by rw [Int.tmod_eq_emod_of_nonneg (by omega)]; omega
  have wn : IntKind.i64.wrap (512 - ((s.length % 512 : Nat) : Int)) = ((512 - s.length % 512 : Nat) : Int) := by rw [i64_in _ (by omega) (by omega)]; omega
  have wn2 : IntKind.i64.wrap ((s.length % 512 : Nat) : Int) = ((s.length % 512 : Nat) : Int) := i64_in _ (by omega) (by omega)
  have hr1 : (((512 - s.length % 512 : Nat) : Int)).tmod 512 = (((512 - s.length % 512) % 512 : Nat) : Int) := by rw [Int.tmod_eq_emod_of_nonneg (by omega)]; omega
  have wn3 : IntKind.i64.wrap (((512 - s.length % 512) % 512 : Nat) : Int) = (((512 - s.length % 512) % 512 : Nat) : Int) := i64_in _ (by omega) (by omega)
  generalize bs (List.replicate ((512 - s.length % 512) % 512) 0) = Z at hz HF z2
  have hm : (512 - s.length % 512) % 512 < 512 := Nat.mod_lt _ (by omega)
  generalize (512 - s.length % 512) % 512 = m at hz z2 hr1 wn3 hm
  generalize (512 - s.length % 512) = m2 at wn hr1
  generalize s.length % 512 = m3 at hr0 wn wn2
  have x1 : ¬ 9223372036854775807 < s.length + m := by omega
  go_enter Tryz.func23, Tryz.ntmps23
  go_wp2_with (go_at_call 24; refine hz.mono ?_; clear hz; rintro r W ⟨rfl, rfl⟩)
  go_ret
  exact ⟨by rw [HF.out]; rfl, rfl⟩
set_option maxRecDepth 20000 in
set_option maxHeartbeats 8000000 in
theorem rsum_any (l : List UInt8) (w : World) (hl : l.length = 512) :
    Calls Tryz.prog 50 #[.string (bs l)] w fun r w' => r = .returned (.int .i64 (sumT l : Int)) ∧ w = w' := by
  have HT : Hid (sumT l = 256 + goS l 0) := Lib.hid rfl
  obtain ⟨T, HTT⟩ : ∃ T, Hid (sumT l = T) := ⟨_, Lib.hid rfl⟩
  rw [HTT.out] at HT ⊢
  have zl := bs_size l
  have zl2 : (bs l).size = 512 := by omega
  clear zl
  have hle := goS_le l 0
  go_enter Tryz.func50, Tryz.ntmps50
  go_wp2_with fail
  go_loopg [3, 4] 512 (fun G s3 s4 wr => ∃ k S : Nat, k ≤ 512 ∧ S ≤ 32 * k + 255 * k ∧ G = 512 - k ∧ s3 = .int .i64 (S : Int) ∧ s4 = .int .i64 (k : Int) ∧ w = wr ∧ Hid (S = goS (l.take k) 0 + (if k ≤ 148 then 0 else if 156 ≤ k then 256 else 32 * (k - 148))))
  case atStart => exact ⟨0, 0, Nat.zero_le _, by omega, rfl, rfl, rfl, rfl, Lib.hid (by simp [goS])⟩
  case round =>
    obtain ⟨k, S, hk, hS, rfl, rfl, rfl, rfl, HS⟩ := hrel
    by_cases hlt : k < 512
    · have hkl : k < l.length := by omega
      have hst := goS_snoc l k hkl
      have hc : (bs l)[k]'(by omega) = l[k] := rfl
      have hby := byte_lt l[k]
      have hby0 := byte_nonneg l[k]
      have HST := Lib.hid hst
      clear hst
      generalize l[k] = c at hc hby hby0 HST
      have t1 : decide ((k : Int) < 512) = true := decide_eq_true (by omega)
      have t1b : (k : Int) < 512 := by omega
      have i1 : (0 : Int) ≤ (k : Int) := by omega
      have wk : IntKind.i64.wrap ((k : Int) + 1) = (k : Int) + 1 := i64_in _ (by omega) (by omega)
      have wb : IntKind.i64.wrap (c.toNat : Int) = (c.toNat : Int) := i64_in _ (by omega) (by omega)
      have ws : IntKind.i64.wrap ((S : Int) + 32) = (S : Int) + 32 := i64_in _ (by omega) (by omega)
      have wc : IntKind.i64.wrap ((S : Int) + (c.toNat : Int)) = (S : Int) + (c.toNat : Int) := i64_in _ (by omega) (by omega)
      by_cases h148 : 148 ≤ k
      · have p1 : decide ((k : Int) ≥ 148) = true := decide_eq_true (by omega)
        have p1b : (148 : Int) ≤ (k : Int) := by omega
        by_cases h156 : k < 156
        · have p2 : decide ((k : Int) < 156) = true := decide_eq_true (by omega)
          have p2b : (k : Int) < 156 := by omega
          have HS2 : Hid (S + 32 = goS (l.take (k + 1)) 0 + (if k + 1 ≤ 148 then 0 else if 156 ≤ k + 1 then 256 else 32 * (k + 1 - 148))) := Lib.hid (by
            rw [HST.out, HS.out, if_neg (by omega : ¬ (k < 148 ∨ 156 ≤ k))]
            split <;> split <;> (try split) <;> (try split) <;> omega)
          clear hc
          go_wp2_with fail
          go_roundg (512 - (k + 1))
          case measure => omega
          case rel => exact ⟨k + 1, S + 32, by omega, by omega, rfl, by simp, by simp, rfl, HS2⟩
        · have p2 : decide ((k : Int) < 156) = false := decide_eq_false (by omega)
          have p2b : ¬ (k : Int) < 156 := by omega
          have HS2 : Hid (S + c.toNat = goS (l.take (k + 1)) 0 + (if k + 1 ≤ 148 then 0 else if 156 ≤ k + 1 then 256 else 32 * (k + 1 - 148))) := Lib.hid (by
            rw [HST.out, HS.out, if_pos (by omega : (k < 148 ∨ 156 ≤ k)), if_neg (by omega : ¬ k ≤ 148), if_pos (by omega : 156 ≤ k), if_neg (by omega : ¬ k + 1 ≤ 148), if_pos (by omega : 156 ≤ k + 1)]
            omega)
          go_wp2_with fail
          go_roundg (512 - (k + 1))
          case measure => omega
          case rel => exact ⟨k + 1, S + c.toNat, by omega, by omega, rfl, by simp, by simp, rfl, HS2⟩
      · have p1 : decide ((k : Int) ≥ 148) = false := decide_eq_false (by omega)
        have p1b : ¬ (148 : Int) ≤ (k : Int) := by omega
        have HS2 : Hid (S + c.toNat = goS (l.take (k + 1)) 0 + (if k + 1 ≤ 148 then 0 else if 156 ≤ k + 1 then 256 else 32 * (k + 1 - 148))) := Lib.hid (by
          rw [HST.out, HS.out, if_pos (by omega : (k < 148 ∨ 156 ≤ k)), if_pos (by omega : k ≤ 148), if_pos (by omega : k + 1 ≤ 148)]
          omega)
        go_wp2_with fail
        go_roundg (512 - (k + 1))
        case measure => omega
        case rel => exact ⟨k + 1, S + c.toNat, by omega, by omega, rfl, by simp, by simp, rfl, HS2⟩
    · have hke : k = 512 := by omega
      subst hke
      have HV : Hid (S = T) := Lib.hid (by rw [HS.out, HT.out, List.take_of_length_le (by omega)]; simp; omega)
      go_wp2_with fail
      go_ret
      exact ⟨by rw [HV.out]; rfl, rfl⟩
set_option maxRecDepth 20000 in
set_option maxHeartbeats 8000000 in
theorem roctal_any (n wd : Nat) (w : World) (hn : n < 8 ^ (wd - 1)) (h2 : 2 ≤ wd) (h12 : wd ≤ 12) :
    Calls Tryz.prog 96 #[.int .i64 (n : Int), .int .i64 (wd : Int)] w fun r w' => r = .returned (.tuple #[.string (bs (octF n wd)), .int .i64 0]) ∧ Below w.heap.size w w' := by
  obtain ⟨m, rfl⟩ : ∃ m, wd = m + 1 := ⟨wd - 1, by omega⟩
  rw [Nat.add_sub_cancel] at hn
  have hbig : n < 8589934592 := Nat.lt_of_lt_of_le hn (Nat.pow_le_pow_right (by omega) (by omega : m ≤ 11))
  have HF : Hid (octF n (m + 1) = octG m n ++ [0]) := Lib.hid (by rw [octF, octG_is m n hn (by omega), Nat.add_sub_cancel])
  obtain ⟨F, HFF⟩ : ∃ F, Hid (octF n (m + 1) = F) := ⟨_, Lib.hid rfl⟩
  rw [HFF.out] at HF ⊢
  have HN := Lib.hid hn
  clear hn
  have q1 : decide (((m + 1 : Nat) : Int) < 2) = false := decide_eq_false (by omega)
  have q1b : ¬ (m : Int) + 1 < 2 := by omega
  have q2 : decide (((m + 1 : Nat) : Int) > 12) = false := decide_eq_false (by omega)
  have q2b : ¬ 12 < (m : Int) + 1 := by omega
  have q3 : decide ((n : Int) < 0) = false := decide_eq_false (by omega)
  have wm : IntKind.i64.wrap ((m : Int) + 1 - 1) = (m : Int) := by rw [i64_in _ (by omega) (by omega)]; omega
  go_enter Tryz.func96, Tryz.ntmps96
  go_upto_region 4 with fail
  have hown0 : (w.alloc (.cells #[.int .u8 0] 5)).ownsRow w.heap.size 5 1 (.slice (some ⟨w.heap.size, 0, none⟩) 1 1) [(0 : UInt8)].length (bvs [0]) := own_lit w [0] #[.int .u8 0] 5 (Nat.le_refl _) rfl (by unfold maxLen; simp)
  have hb0 := (Below.refl w.heap.size w).alloc (Nat.le_refl _) (.cells #[.int .u8 0] 5)
  generalize w.alloc (.cells #[.int .u8 0] 5) = W0 at hown0 hb0 ⊢
  go_wp2_with fail
  go_loopg [0, 6, 7] m (fun G s0 s6 s7 wr => ∃ (k x : Nat) (out : List UInt8), k ≤ m ∧ G = m - k ∧ s0 = .int .i64 (x : Int) ∧ x ≤ 8589934592 ∧ s7 = .int .i64 (k : Int) ∧ out.length = k + 1 ∧ Hid (F = octG (m - k) x ++ out) ∧ Hid (x < 8 ^ (m - k)) ∧ wr.ownsRow w.heap.size 5 1 s6 out.length (bvs out) ∧ Below w.heap.size w wr)
  case atStart => exact ⟨0, n, [0], Nat.zero_le _, rfl, rfl, by omega, rfl, rfl, HF, HN, hown0, hb0⟩
  case round =>
    clear hown0 hb0
    obtain ⟨k, x, out, hk, rfl, rfl, hx, rfl, hout, HO, HX, hown, hbw⟩ := hrel
    obtain ⟨A4, cap4, rfl⟩ := own_form hown
    by_cases hlt : k < m
    · have t1 : decide ((k : Int) < (m : Int)) = true := decide_eq_true (by omega)
      have t1b : (k : Int) < (m : Int) := by omega
      have t1c : k < m := by omega
      have hx1 : (x : Int).tmod 8 = (x : Int) % 8 := Int.tmod_eq_emod_of_nonneg (by omega)
      have hx2 : (x : Int).tdiv 8 = ((x / 8 : Nat) : Int) := by rw [Int.tdiv_eq_ediv_of_nonneg (by omega)]; omega
      obtain ⟨b8, Hb8⟩ : ∃ b8 : UInt8, Hid (b8 = UInt8.ofNat (48 + x % 8)) := ⟨_, rfl⟩
      have hb8 := b8.toNat_lt
      have hval : 48 + (x : Int) % 8 = (b8.toNat : Int) := by
        rw [Hb8.out, UInt8.toNat_ofNat']
        omega
      have hval0 : IntKind.i64.wrap ((x : Int) % 8) = (x : Int) % 8 := i64_in _ (by omega) (by omega)
      have hval1 : IntKind.i64.wrap (b8.toNat : Int) = (b8.toNat : Int) := i64_in _ (by omega) (by omega)
      have hval2 : IntKind.u8.wrap (b8.toNat : Int) = (b8.toNat : Int) := u8_in _ (by omega) (by omega)
      have wk : IntKind.i64.wrap ((k : Int) + 1) = (k : Int) + 1 := i64_in _ (by omega) (by omega)
      have wx : IntKind.i64.wrap ((x / 8 : Nat) : Int) = ((x / 8 : Nat) : Int) := i64_in _ (by omega) (by omega)
      have HO2 : Hid (F = octG (m - (k + 1)) (x / 8) ++ (b8 :: out)) := Lib.hid (by
        have e : m - k = (m - (k + 1)) + 1 := by omega
        rw [HO.out, e, octG, Hb8.out, List.append_assoc]; rfl)
      have HX2 : Hid (x / 8 < 8 ^ (m - (k + 1))) := Lib.hid (by
        have := HX.out
        rw [show m - k = (m - (k + 1)) + 1 by omega, Nat.pow_succ] at this
        omega)
      have hx8 : x / 8 ≤ 8589934592 := by omega
      generalize x / 8 = y at hx2 wx HO2 HX2 hx8
      go_wp2_with (at_builtin; refine wpList_append8 rfl (.tmp 29) (.tmp 30) _ _ rfl Tryz.underlying25 u8info wr.heap.size (.slice (some ⟨wr.heap.size, 0, none⟩) 1 1) 1 [b8] rfl (own_lit wr [b8] _ _ (Nat.le_refl _) rfl (by unfold maxLen; simp)) A4 out.length cap4 out rfl ((SB.of_own hown).alloc _) (by omega) (by simp) ?_; intro v2 w2 hown2 hb2 hg2)
      have hb3 : Below w.heap.size w w2 := hbw.trans ((((Below.refl _ _).alloc (Nat.le_refl _) _).trans hb2).mono hbw.size)
      have ho3 : w2.ownsRow w.heap.size 5 1 v2 (b8 :: out).length (bvs (b8 :: out)) := by
        have := own_base hown2 hbw.size
        rw [Nat.add_comm] at this
        exact this
      clear hown2 hb2 hg2 hown hbw hval hval1 hval2
      go_wp2_with fail
      go_roundg (m - (k + 1))
      case measure => omega
      case rel => exact ⟨k + 1, y, b8 :: out, by omega, rfl, rfl, hx8, by simp, by rw [List.length_cons, hout], HO2, HX2, ho3, hb3⟩
    · have t1 : decide ((k : Int) < (m : Int)) = false := decide_eq_false (by omega)
      have t1b : ¬ (k : Int) < (m : Int) := by omega
      have t1c : ¬ k < m := by omega
      have hkm : k = m := by omega
      subst hkm
      have hx0 : x = 0 := by
        have := HX.out
        rw [Nat.sub_self, Nat.pow_zero] at this
        omega
      subst hx0
      have HV : Hid (F = out) := Lib.hid (by rw [HO.out, Nat.sub_self]; rfl)
      have hstr := str8 (SB.of_own hown)
      rw [hout] at hstr
      go_wp2_with fail
      go_ret2
      exact ⟨by rw [HV.out]; rfl, hbw⟩
set_option maxRecDepth 20000 in
set_option maxHeartbeats 8000000 in
theorem roct_any (n wd : Nat) (w : World) (hn : n < 8 ^ (wd - 1)) (h2 : 2 ≤ wd) (h12 : wd ≤ 12) :
    Calls Tryz.prog 64 #[.int .i64 (n : Int), .int .i64 (wd : Int)] w fun r w' => r = .returned (.string (bs (octF n wd))) ∧ Below w.heap.size w w' := by
  have ho := roctal_any n wd w hn h2 h12
  generalize bs (octF n wd) = F at ho ⊢
  go_enter Tryz.func64, Tryz.ntmps64
  go_wp2_with (go_at_call 96; refine ho.mono ?_; clear ho; rintro r W ⟨rfl, hb⟩)
  go_ret
  exact ⟨rfl, hb⟩
end Go.Proofs.YtpheifdpjcppdaaGreatDoor
namespace Go.Proofs.YtpheifdpjcppdaaGreatDoor
open Go.RowKit
set_option maxRecDepth 20000 in
set_option maxHeartbeats 16000000 in
theorem rblock_any (path owner group lk name link pfx : List UInt8) (kk : Int) (dv : Value) (mo ui gi ti size : Nat) (kind : UInt8) (gnu : Bool) (w : World) (hn : name.length ≤ 100) (hl : link.length ≤ 100) (hp : pfx.length ≤ 155) (ho : owner.length ≤ 32) (hg : group.length ≤ 32)
    (b1 : mo ≤ 4095) (b2 : ui ≤ 2097151) (b3 : gi ≤ 2097151) (b4 : size ≤ 8589934591) (b5 : ti ≤ 8589934591) :
    Calls Tryz.prog 41 #[.string (bs name), entV ⟨path, kk, mo, ui, gi, owner, group, ti, lk, []⟩ dv, .int .i64 (size : Int), .string (bs [kind]), .string (bs link), .bool gnu, .string (bs pfx)] w
      fun r w' => r = .returned (.string (bs (blockB ⟨name, pfx, link, mo, ui, gi, size, ti, kind, owner, group⟩ gnu))) ∧ Below w.heap.size w w' := by
  have hk : HdOk ⟨name, pfx, link, mo, ui, gi, size, ti, kind, owner, group⟩ := ⟨fits_of (w := 6) (by show mo < _; omega), fits_of (w := 6) (by show ui < _; omega), fits_of (w := 6) (by show gi < _; omega), fits_of (w := 10) (by show size < _; omega), fits_of (w := 10) (by show ti < _; omega)⟩
  obtain ⟨A, HA⟩ : ∃ A, Hid (A = preB ⟨name, pfx, link, mo, ui, gi, size, ti, kind, owner, group⟩) := ⟨_, Lib.hid rfl⟩
  obtain ⟨B, HB⟩ : ∃ B, Hid (B = postB ⟨name, pfx, link, mo, ui, gi, size, ti, kind, owner, group⟩ gnu) := ⟨_, Lib.hid rfl⟩
  have hlA : A.length = 148 := by rw [HA.out]; exact preB_len hk
  have hlB : B.length = 356 := by rw [HB.out]; exact postB_len _ _
  have hsA := sumB_le A
  have hsB := sumB_le B
  have HC : Hid (bs (blockB ⟨name, pfx, link, mo, ui, gi, size, ti, kind, owner, group⟩ gnu) = bs A ++ bs (octF (256 + sumB A + sumB B) 7) ++ ⟨#[32]⟩ ++ bs B) := Lib.hid (by
    rw [blockB, ← HA.out, ← HB.out]
    show _ = bs A ++ bs _ ++ bs [32] ++ bs B
    simp only [bs_app, List.append_assoc])
  obtain ⟨R, HR⟩ : ∃ R, Hid (bs (blockB ⟨name, pfx, link, mo, ui, gi, size, ti, kind, owner, group⟩ gnu) = R) := ⟨_, Lib.hid rfl⟩
  rw [HR.out] at HC ⊢
  have hm : (magicB gnu).length = 8 := by cases gnu <;> rfl
  -- the pieces
  have c1 : ∀ W, Calls Tryz.prog 63 #[.string (bs name), .int .i64 100] W fun e w' => e = .returned (.string (bs (fixW name 100))) ∧ W = w' := fun W => tfill_any name 100 W (by omega) (by omega)
  have z1 : (bs (fixW name 100)).size = 100 := by rw [bs_size, fixW_len]
  have c2 : ∀ W, Calls Tryz.prog 64 #[.int .i64 (mo : Int), .int .i64 8] W fun r w' => r = .returned (.string (bs (octF mo 8))) ∧ Below W.heap.size W w' := fun W => roct_any mo 8 W (by show _ < 8 ^ _; omega) (by omega) (by omega)
  have z2 : (bs (octF mo 8)).size = 8 := by rw [bs_size, octF_len (fits_of (w := 6) (by show _ < 8 ^ _; omega)) (by omega)]
  have c3 : ∀ W, Calls Tryz.prog 64 #[.int .i64 (ui : Int), .int .i64 8] W fun r w' => r = .returned (.string (bs (octF ui 8))) ∧ Below W.heap.size W w' := fun W => roct_any ui 8 W (by show _ < 8 ^ _; omega) (by omega) (by omega)
  have z3 : (bs (octF ui 8)).size = 8 := by rw [bs_size, octF_len (fits_of (w := 6) (by show _ < 8 ^ _; omega)) (by omega)]
  have c4 : ∀ W, Calls Tryz.prog 64 #[.int .i64 (gi : Int), .int .i64 8] W fun r w' => r = .returned (.string (bs (octF gi 8))) ∧ Below W.heap.size W w' := fun W => roct_any gi 8 W (by show _ < 8 ^ _; omega) (by omega) (by omega)
  have z4 : (bs (octF gi 8)).size = 8 := by rw [bs_size, octF_len (fits_of (w := 6) (by show _ < 8 ^ _; omega)) (by omega)]
  have c5 : ∀ W, Calls Tryz.prog 64 #[.int .i64 (size : Int), .int .i64 12] W fun r w' => r = .returned (.string (bs (octF size 12))) ∧ Below W.heap.size W w' := fun W => roct_any size 12 W (by show _ < 8 ^ _; omega) (by omega) (by omega)
  have z5 : (bs (octF size 12)).size = 12 := by rw [bs_size, octF_len (fits_of (w := 10) (by show _ < 8 ^ _; omega)) (by omega)]
  have c6 : ∀ W, Calls Tryz.prog 64 #[.int .i64 (ti : Int), .int .i64 12] W fun r w' => r = .returned (.string (bs (octF ti 12))) ∧ Below W.heap.size W w' := fun W => roct_any ti 12 W (by show _ < 8 ^ _; omega) (by omega) (by omega)
  have z6 : (bs (octF ti 12)).size = 12 := by rw [bs_size, octF_len (fits_of (w := 10) (by show _ < 8 ^ _; omega)) (by omega)]
  have c7 : ∀ W, Calls Tryz.prog 63 #[.string (bs link), .int .i64 100] W fun e w' => e = .returned (.string (bs (fixW link 100))) ∧ W = w' := fun W => tfill_any link 100 W (by omega) (by omega)
  have z7 : (bs (fixW link 100)).size = 100 := by rw [bs_size, fixW_len]
  have c8 : ∀ W, Calls Tryz.prog 63 #[.string (bs owner), .int .i64 32] W fun e w' => e = .returned (.string (bs (fixW owner 32))) ∧ W = w' := fun W => tfill_any owner 32 W (by omega) (by omega)
  have z8 : (bs (fixW owner 32)).size = 32 := by rw [bs_size, fixW_len]
  have c9 : ∀ W, Calls Tryz.prog 63 #[.string (bs group), .int .i64 32] W fun e w' => e = .returned (.string (bs (fixW group 32))) ∧ W = w' := fun W => tfill_any group 32 W (by omega) (by omega)
  have z9 : (bs (fixW group 32)).size = 32 := by rw [bs_size, fixW_len]
  have c10 : ∀ W, Calls Tryz.prog 64 #[.int .i64 0, .int .i64 8] W fun r w' => r = .returned (.string (bs (octF 0 8))) ∧ Below W.heap.size W w' := fun W => roct_any 0 8 W (by show _ < 8 ^ _; omega) (by omega) (by omega)
  have z10 : (bs (octF 0 8)).size = 8 := by rw [bs_size, octF_len (fits_of (w := 6) (by show _ < 8 ^ _; omega)) (by omega)]
  have c11 : ∀ W, Calls Tryz.prog 63 #[.string (bs pfx), .int .i64 155] W fun e w' => e = .returned (.string (bs (fixW pfx 155))) ∧ W = w' := fun W => tfill_any pfx 155 W (by omega) (by omega)
  have z11 : (bs (fixW pfx 155)).size = 155 := by rw [bs_size, fixW_len]
  have c12 : ∀ W, Calls Tryz.prog 24 #[.int .i64 12] W fun e w' => e = .returned (.string (bs (List.replicate 12 0))) ∧ W = w' := fun W => tzeros_any 12 W (by omega)
  have z12 : (bs (List.replicate 12 (0 : UInt8))).size = 12 := by rw [bs_size, List.length_replicate]
  have c13 : ∀ W, Calls Tryz.prog 24 #[.int .i64 8] W fun e w' => e = .returned (.string (bs (List.replicate 8 0))) ∧ W = w' := fun W => tzeros_any 8 W (by omega)
  have z13 : (bs (List.replicate 8 (0 : UInt8))).size = 8 := by rw [bs_size, List.length_replicate]
  have cS := fun W => rsum_any (A ++ List.replicate 8 0 ++ B) W (by simp only [List.length_append, List.length_replicate]; omega)
  have hsum := sumT_parts A (List.replicate 8 0) B hlA (by rw [List.length_replicate])
  rw [hsum, show bs (A ++ List.replicate 8 0 ++ B) = bs A ++ bs (List.replicate 8 0) ++ bs B by simp only [bs_app]] at cS
  have c14 : ∀ W, Calls Tryz.prog 64 #[.int .i64 ((256 + sumB A + sumB B : Nat) : Int), .int .i64 7] W fun r w' => r = .returned (.string (bs (octF (256 + sumB A + sumB B) 7))) ∧ Below W.heap.size W w' := fun W => roct_any (256 + sumB A + sumB B) 7 W (by show _ < 8 ^ _; omega) (by omega) (by omega)
  have z14 : (bs (octF (256 + sumB A + sumB B) 7)).size = 7 := by rw [bs_size, octF_len (fits_of (w := 5) (by show _ < 8 ^ _; omega)) (by omega)]
  have zA : (bs A).size = 148 := by rw [bs_size, hlA]
  have zB : (bs B).size = 356 := by rw [bs_size, hlB]
  have hAT : bs (fixW name 100) ++ bs (octF mo 8) ++ bs (octF ui 8) ++ bs (octF gi 8) ++ bs (octF size 12) ++ bs (octF ti 12) = bs A := by
    rw [HA.out, preB]; simp only [bs_app]
  obtain ⟨M, HM⟩ : ∃ M, Hid (bs (magicB gnu) = M) := ⟨_, Lib.hid rfl⟩
  have hBT : (⟨#[kind]⟩ : ByteArray) ++ bs (fixW link 100) ++ M ++ bs (fixW owner 32) ++ bs (fixW group 32) ++ bs (octF 0 8) ++ bs (octF 0 8) ++ bs (fixW pfx 155) ++ bs (List.replicate 12 0) = bs B := by
    rw [HB.out, postB, ← HM.out]
    show bs [kind] ++ _ ++ _ ++ _ ++ _ ++ _ ++ _ ++ _ ++ _ = _
    simp only [bs_app]
  have zM : M.size = 8 := by rw [← HM.out, bs_size, hm]
  have zK : (bs [kind]).size = 1 := rfl
  simp only [ByteArray.append_assoc] at hAT hBT
  clear hsum hsA hsB hlA hlB hm HA HB hk
  generalize bs (fixW name 100) = T1 at c1 z1 hAT
  generalize bs (octF mo 8) = T2 at c2 z2 hAT
  generalize bs (octF ui 8) = T3 at c3 z3 hAT
  generalize bs (octF gi 8) = T4 at c4 z4 hAT
  generalize bs (octF size 12) = T5 at c5 z5 hAT
  generalize bs (octF ti 12) = T6 at c6 z6 hAT
  generalize bs (fixW link 100) = T7 at c7 z7 hBT
  generalize bs (fixW owner 32) = T8 at c8 z8 hBT
  generalize bs (fixW group 32) = T9 at c9 z9 hBT
  generalize bs (octF 0 8) = T10 at c10 z10 hBT
  generalize bs (fixW pfx 155) = T11 at c11 z11 hBT
  generalize bs (List.replicate 12 (0 : UInt8)) = T12 at c12 z12 hBT
  generalize bs (List.replicate 8 (0 : UInt8)) = T13 at c13 z13 cS
  generalize 256 + sumB A + sumB B = SM at c14 z14 HC cS
  generalize bs (octF SM 7) = T14 at c14 z14 HC
  have hkb : bs [kind] = (⟨#[kind]⟩ : ByteArray) := rfl
  rw [← hkb] at hBT
  generalize bs [kind] = TK at hBT zK ⊢
  clear hkb
  generalize bs A = TA at *
  generalize bs B = TB at *
  unfold entV
  dsimp only
  go_enter Tryz.func41, Tryz.ntmps41
  go_upto_region 2 with fail
  have bE := Blk.new w 41 #[.string (bs path), .int .i64 kk, .int .i64 mo, .int .i64 ui, .int .i64 gi, .string (bs owner), .string (bs group), .int .i64 ti, .string (bs lk), dv]
  have hb0 := (Below.refl w.heap.size w).alloc (Nat.le_refl _) (.cells #[.string (bs path), .int .i64 kk, .int .i64 mo, .int .i64 ui, .int .i64 gi, .string (bs owner), .string (bs group), .int .i64 ti, .string (bs lk), dv] 41)
  generalize w.alloc (.cells #[.string (bs path), .int .i64 kk, .int .i64 mo, .int .i64 ui, .int .i64 gi, .string (bs owner), .string (bs group), .int .i64 ti, .string (bs lk), dv] 41) = W0 at bE hb0 ⊢
  generalize w.heap.size = g at bE ⊢
  go_upto_if 18 with fail
  go_cut [15] (fun s15 wx => s15 = .string M ∧ W0 = wx)
  case first =>
    cases gnu with
    | true => go_wp2_with fail; go_meet; exact ⟨by rw [← HM.out]; rfl, rfl⟩
    | false => go_wp2_with fail; go_meet; exact ⟨by rw [← HM.out]; rfl, rfl⟩
  case rest =>
    obtain ⟨rfl, rfl⟩ := hcut
    clear HM
    have hbw := hb0
    generalize W0 = W1 at bE hbw ⊢
    obtain ⟨d0, d1, d2, d3, d4, d5, d6, d7, d8, d9⟩ := bE.cells10
    have KS : ∀ W', Below W1.heap.size W1 W' → (fun W => W.cell? ⟨g, 2, none⟩ = some (.int .i64 (mo : Int)) ∧ W.cell? ⟨g, 3, none⟩ = some (.int .i64 (ui : Int)) ∧ W.cell? ⟨g, 4, none⟩ = some (.int .i64 (gi : Int)) ∧ W.cell? ⟨g, 7, none⟩ = some (.int .i64 (ti : Int)) ∧ W.cell? ⟨g, 5, none⟩ = some (.string (bs owner)) ∧ W.cell? ⟨g, 6, none⟩ = some (.string (bs group))) W' := fun W' hb => by
      have q := Kept.of_below hb nowhere
      exact ⟨q.cell d2 fun h => h, q.cell d3 fun h => h, q.cell d4 fun h => h, q.cell d7 fun h => h, q.cell d5 fun h => h, q.cell d6 fun h => h⟩
    go_upto_region 4 with fail
    refine wp_region_plan (fun W => W.cell? ⟨g, 2, none⟩ = some (.int .i64 (mo : Int)) ∧ W.cell? ⟨g, 3, none⟩ = some (.int .i64 (ui : Int)) ∧ W.cell? ⟨g, 4, none⟩ = some (.int .i64 (gi : Int)) ∧ W.cell? ⟨g, 7, none⟩ = some (.int .i64 (ti : Int)) ∧ W.cell? ⟨g, 5, none⟩ = some (.string (bs owner)) ∧ W.cell? ⟨g, 6, none⟩ = some (.string (bs group))) [(false, 0), (false, 1), (false, 2), (false, 3), (false, 6), (false, 7), (false, 10), (false, 11), (false, 14), (false, 17), (false, 18), (true, 4), (false, 5), (true, 8), (false, 9), (true, 12), (false, 13), (true, 15), (false, 16), (true, 19), (false, 20), (false, 21)] (by kernel_rfl) (by kernel_rfl) (KS _ ((Below.refl _ W1).drew)) ?_
    simp only [planOps, List.map, List.getD_cons_zero, List.getD_cons_succ]
    iterate 11 ((first | refine plan_quiet (v := ?_) rfl rfl (fun w' hw' => ?_) ?_ | refine plan_calm (v := ?_) (tt_of) rfl (fun w' hw' => ?_) ?_); rotate_left; (focus (go_simp <;> (first | with_reducible rfl | (rw [if_neg (by simp [undef])]; try rfl) | (refine (c1 _).mono ?_; rintro e w2 ⟨rfl, rfl⟩; constructor <;> with_reducible rfl)))); simp only [Act.put, List.setIfInBounds_toArray, List.set_cons_zero, List.set_cons_succ])
    refine plan_loud rfl (fun K hK => ?_)
    have hz0 := (Below.refl W1.heap.size W1).drew
    go_simp
    refine (c2 _).mono ?_
    rintro r Z1 ⟨rfl, hz⟩
    go_simp
    have hz1 := hz0.trans (hz.mono hz0.size)
    refine hK _ _ (KS _ hz1) ?_
    clear hK K
    (try simp only [Act.put, List.setIfInBounds_toArray, List.set_cons_zero, List.set_cons_succ])
    iterate 1 ((first | refine plan_quiet (v := ?_) rfl rfl (fun w' hw' => ?_) ?_ | refine plan_calm (v := ?_) (tt_of) rfl (fun w' hw' => ?_) ?_); rotate_left; (focus (go_simp <;> (first | with_reducible rfl | (rw [if_neg (by simp [undef])]; try rfl) | (refine (c1 _).mono ?_; rintro e w2 ⟨rfl, rfl⟩; constructor <;> with_reducible rfl)))); simp only [Act.put, List.setIfInBounds_toArray, List.set_cons_zero, List.set_cons_succ])
    refine plan_loud rfl (fun K hK => ?_)
    go_simp
    refine (c3 _).mono ?_
    rintro r Z2 ⟨rfl, hz⟩
    go_simp
    have hz2 := hz1.trans (hz.mono hz1.size)
    refine hK _ _ (KS _ hz2) ?_
    clear hK K
    (try simp only [Act.put, List.setIfInBounds_toArray, List.set_cons_zero, List.set_cons_succ])
    iterate 1 ((first | refine plan_quiet (v := ?_) rfl rfl (fun w' hw' => ?_) ?_ | refine plan_calm (v := ?_) (tt_of) rfl (fun w' hw' => ?_) ?_); rotate_left; (focus (go_simp <;> (first | with_reducible rfl | (rw [if_neg (by simp [undef])]; try rfl) | (refine (c1 _).mono ?_; rintro e w2 ⟨rfl, rfl⟩; constructor <;> with_reducible rfl)))); simp only [Act.put, List.setIfInBounds_toArray, List.set_cons_zero, List.set_cons_succ])
    refine plan_loud rfl (fun K hK => ?_)
    go_simp
    refine (c4 _).mono ?_
    rintro r Z3 ⟨rfl, hz⟩
    go_simp
    have hz3 := hz2.trans (hz.mono hz2.size)
    refine hK _ _ (KS _ hz3) ?_
    clear hK K
    (try simp only [Act.put, List.setIfInBounds_toArray, List.set_cons_zero, List.set_cons_succ])
    iterate 1 ((first | refine plan_quiet (v := ?_) rfl rfl (fun w' hw' => ?_) ?_ | refine plan_calm (v := ?_) (tt_of) rfl (fun w' hw' => ?_) ?_); rotate_left; (focus (go_simp <;> (first | with_reducible rfl | (rw [if_neg (by simp [undef])]; try rfl) | (refine (c1 _).mono ?_; rintro e w2 ⟨rfl, rfl⟩; constructor <;> with_reducible rfl)))); simp only [Act.put, List.setIfInBounds_toArray, List.set_cons_zero, List.set_cons_succ])
    refine plan_loud rfl (fun K hK => ?_)
    go_simp
    refine (c5 _).mono ?_
    rintro r Z4 ⟨rfl, hz⟩
    go_simp
    have hz4 := hz3.trans (hz.mono hz3.size)
    refine hK _ _ (KS _ hz4) ?_
    clear hK K
    (try simp only [Act.put, List.setIfInBounds_toArray, List.set_cons_zero, List.set_cons_succ])
    iterate 1 ((first | refine plan_quiet (v := ?_) rfl rfl (fun w' hw' => ?_) ?_ | refine plan_calm (v := ?_) (tt_of) rfl (fun w' hw' => ?_) ?_); rotate_left; (focus (go_simp <;> (first | with_reducible rfl | (rw [if_neg (by simp [undef])]; try rfl) | (refine (c1 _).mono ?_; rintro e w2 ⟨rfl, rfl⟩; constructor <;> with_reducible rfl)))); simp only [Act.put, List.setIfInBounds_toArray, List.set_cons_zero, List.set_cons_succ])
    refine plan_loud rfl (fun K hK => ?_)
    go_simp
    refine (c6 _).mono ?_
    rintro r Z5 ⟨rfl, hz⟩
    go_simp
    have hz5 := hz4.trans (hz.mono hz4.size)
    refine hK _ _ (KS _ hz5) ?_
    clear hK K
    (try simp only [Act.put, List.setIfInBounds_toArray, List.set_cons_zero, List.set_cons_succ])
    iterate 2 ((first | refine plan_quiet (v := ?_) rfl rfl (fun w' hw' => ?_) ?_ | refine plan_calm (v := ?_) (tt_of) rfl (fun w' hw' => ?_) ?_); rotate_left; (focus (go_simp <;> (first | with_reducible rfl | (rw [if_neg (by simp [undef])]; try rfl) | (refine (c1 _).mono ?_; rintro e w2 ⟨rfl, rfl⟩; constructor <;> with_reducible rfl)))); simp only [Act.put, List.setIfInBounds_toArray, List.set_cons_zero, List.set_cons_succ])
    refine plan_end ?_
    simp only [ByteArray.append_assoc]
    rw [hAT]
    clear hz hz1 hz2 hz3 hz4
    have bE5 := bE.below hz5 bE.lt
    have hbw5 := hbw.trans (hz5.mono hbw.size)
    clear d0 d1 d2 d3 d4 d5 d6 d7 d8 d9 KS hz5 hz0
    clear bE hbw
    generalize Z5 = W1 at bE5 hbw5 ⊢
    obtain ⟨d0, d1, d2, d3, d4, d5, d6, d7, d8, d9⟩ := bE5.cells10
    have KS : ∀ W', Below W1.heap.size W1 W' → (fun W => W.cell? ⟨g, 2, none⟩ = some (.int .i64 (mo : Int)) ∧ W.cell? ⟨g, 3, none⟩ = some (.int .i64 (ui : Int)) ∧ W.cell? ⟨g, 4, none⟩ = some (.int .i64 (gi : Int)) ∧ W.cell? ⟨g, 7, none⟩ = some (.int .i64 (ti : Int)) ∧ W.cell? ⟨g, 5, none⟩ = some (.string (bs owner)) ∧ W.cell? ⟨g, 6, none⟩ = some (.string (bs group))) W' := fun W' hb => by
      have q := Kept.of_below hb nowhere
      exact ⟨q.cell d2 fun h => h, q.cell d3 fun h => h, q.cell d4 fun h => h, q.cell d7 fun h => h, q.cell d5 fun h => h, q.cell d6 fun h => h⟩
    go_upto_region 5 with fail
    refine wp_region_plan (fun W => W.cell? ⟨g, 2, none⟩ = some (.int .i64 (mo : Int)) ∧ W.cell? ⟨g, 3, none⟩ = some (.int .i64 (ui : Int)) ∧ W.cell? ⟨g, 4, none⟩ = some (.int .i64 (gi : Int)) ∧ W.cell? ⟨g, 7, none⟩ = some (.int .i64 (ti : Int)) ∧ W.cell? ⟨g, 5, none⟩ = some (.string (bs owner)) ∧ W.cell? ⟨g, 6, none⟩ = some (.string (bs group))) [(false, 0), (false, 1), (false, 2), (false, 3), (false, 4), (false, 5), (false, 6), (false, 7), (false, 8), (false, 9), (false, 10), (false, 11), (false, 12), (false, 13), (false, 18), (true, 14), (false, 15), (true, 16), (false, 17), (false, 19), (false, 20), (false, 21), (false, 22), (false, 23)] (by kernel_rfl) (by kernel_rfl) (KS _ ((Below.refl _ W1).drew)) ?_
    simp only [planOps, List.map, List.getD_cons_zero, List.getD_cons_succ]
    iterate 15 ((first | refine plan_quiet (v := ?_) rfl rfl (fun w' hw' => ?_) ?_ | refine plan_calm (v := ?_) (tt_of) rfl (fun w' hw' => ?_) ?_); rotate_left; (focus (go_simp <;> (first | with_reducible rfl | (rw [if_neg (by simp [undef])]; try rfl) | (with_reducible refine (c7 _).mono ?_; rintro e w2 ⟨rfl, rfl⟩; constructor <;> with_reducible rfl) | (with_reducible refine (c8 _).mono ?_; rintro e w2 ⟨rfl, rfl⟩; constructor <;> with_reducible rfl) | (with_reducible refine (c9 _).mono ?_; rintro e w2 ⟨rfl, rfl⟩; constructor <;> with_reducible rfl) | (with_reducible refine (c11 _).mono ?_; rintro e w2 ⟨rfl, rfl⟩; constructor <;> with_reducible rfl) | (with_reducible refine (c12 _).mono ?_; rintro e w2 ⟨rfl, rfl⟩; constructor <;> with_reducible rfl)))); simp only [Act.put, List.setIfInBounds_toArray, List.set_cons_zero, List.set_cons_succ])
    refine plan_loud rfl (fun K hK => ?_)
    have hz0 := (Below.refl W1.heap.size W1).drew
    go_simp
    refine (c10 _).mono ?_
    rintro r Z1 ⟨rfl, hz⟩
    go_simp
    have hz1 := hz0.trans (hz.mono hz0.size)
    refine hK _ _ (KS _ hz1) ?_
    clear hK K
    (try simp only [Act.put, List.setIfInBounds_toArray, List.set_cons_zero, List.set_cons_succ])
    iterate 1 ((first | refine plan_quiet (v := ?_) rfl rfl (fun w' hw' => ?_) ?_ | refine plan_calm (v := ?_) (tt_of) rfl (fun w' hw' => ?_) ?_); rotate_left; (focus (go_simp <;> (first | with_reducible rfl | (rw [if_neg (by simp [undef])]; try rfl) | (with_reducible refine (c7 _).mono ?_; rintro e w2 ⟨rfl, rfl⟩; constructor <;> with_reducible rfl) | (with_reducible refine (c8 _).mono ?_; rintro e w2 ⟨rfl, rfl⟩; constructor <;> with_reducible rfl) | (with_reducible refine (c9 _).mono ?_; rintro e w2 ⟨rfl, rfl⟩; constructor <;> with_reducible rfl) | (with_reducible refine (c11 _).mono ?_; rintro e w2 ⟨rfl, rfl⟩; constructor <;> with_reducible rfl) | (with_reducible refine (c12 _).mono ?_; rintro e w2 ⟨rfl, rfl⟩; constructor <;> with_reducible rfl)))); simp only [Act.put, List.setIfInBounds_toArray, List.set_cons_zero, List.set_cons_succ])
    refine plan_loud rfl (fun K hK => ?_)
    go_simp
    refine (c10 _).mono ?_
    rintro r Z2 ⟨rfl, hz⟩
    go_simp
    have hz2 := hz1.trans (hz.mono hz1.size)
    refine hK _ _ (KS _ hz2) ?_
    clear hK K
    (try simp only [Act.put, List.setIfInBounds_toArray, List.set_cons_zero, List.set_cons_succ])
    iterate 6 ((first | refine plan_quiet (v := ?_) rfl rfl (fun w' hw' => ?_) ?_ | refine plan_calm (v := ?_) (tt_of) rfl (fun w' hw' => ?_) ?_); rotate_left; (focus (go_simp <;> (first | with_reducible rfl | (rw [if_neg (by simp [undef])]; try rfl) | (with_reducible refine (c7 _).mono ?_; rintro e w2 ⟨rfl, rfl⟩; constructor <;> with_reducible rfl) | (with_reducible refine (c8 _).mono ?_; rintro e w2 ⟨rfl, rfl⟩; constructor <;> with_reducible rfl) | (with_reducible refine (c9 _).mono ?_; rintro e w2 ⟨rfl, rfl⟩; constructor <;> with_reducible rfl) | (with_reducible refine (c11 _).mono ?_; rintro e w2 ⟨rfl, rfl⟩; constructor <;> with_reducible rfl) | (with_reducible refine (c12 _).mono ?_; rintro e w2 ⟨rfl, rfl⟩; constructor <;> with_reducible rfl)))); simp only [Act.put, List.setIfInBounds_toArray, List.set_cons_zero, List.set_cons_succ])
    refine plan_end ?_
    simp only [ByteArray.append_assoc]
    rw [hBT]
    have hbw6 := hbw5.trans (hz2.mono hbw5.size)
    clear hz hz1 hz2 hz0 d0 d1 d2 d3 d4 d5 d6 d7 d8 d9 KS bE5 hbw5
    go_wp2_with first
      | (go_at_call 24; refine (c13 _).mono ?_; clear c13; rintro r W3 ⟨rfl, rfl⟩)
      | (go_at_call 50; refine (cS _).mono ?_; clear cS; rintro r W4 ⟨rfl, rfl⟩)
      | (go_at_call 64; refine (c14 _).mono ?_; clear c14; rintro r W5 ⟨rfl, hb5⟩)
    go_ret
    refine ⟨?_, hbw6.trans (hb5.mono hbw6.size)⟩
    rw [HC.out]
    rfl
set_option maxRecDepth 20000 in
set_option maxHeartbeats 4000000 in
theorem rfirst_any (s : List UInt8) (w : World) (hs : s.length ≤ 100000) : Calls Tryz.prog 42 #[.string (bs s)] w fun e w' => e = .returned (.string (bs (s.take 100))) ∧ w = w' := by
  have zs := bs_size s
  have h0 := ext_take (bs s) 100
  obtain ⟨R, HR⟩ : ∃ R, Hid (bs (s.take 100) = R) := ⟨_, Lib.hid rfl⟩
  rw [HR.out]
  by_cases h1 : 100 < s.length
  · have q : decide ((100 : Int) < (s.length : Int)) = true := decide_eq_true (by omega)
    have q2 : (100 : Int) < (s.length : Int) := by omega
    have q3 : 100 ≤ s.length := by omega
    have HV : Hid ((bs s).extract 0 100 = R) := Lib.hid (by rw [h0 (by omega), ← HR.out]; rfl)
    clear h0 h1
    go_enter Tryz.func42, Tryz.ntmps42
    go_wp2_with fail
    go_ret
    exact ⟨by rw [← HV.out]; rfl, rfl⟩
  · have q : decide ((100 : Int) < (s.length : Int)) = false := decide_eq_false (by omega)
    have q2 : ¬ (100 : Int) < (s.length : Int) := by omega
    have HV : Hid (bs s = R) := Lib.hid (by rw [← HR.out, List.take_of_length_le (by omega)])
    clear h0 h1
    go_enter Tryz.func42, Tryz.ntmps42
    go_wp2_with fail
    go_ret
    exact ⟨by rw [← HV.out]; rfl, rfl⟩
end Go.Proofs.YtpheifdpjcppdaaGreatDoor
