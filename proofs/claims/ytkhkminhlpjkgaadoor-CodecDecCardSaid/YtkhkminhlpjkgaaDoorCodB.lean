/- Walks of the reference's functions for hexadecimal digits. -/
import Derived.Test.YtkhkminhlpjkgaaDoorCodA
namespace Go.Proofs.YtkhkminhlpjkgaaDoor
open Go.RowKit
theorem beq_byte (a b : UInt8) : ((a.toNat : Int) == (b.toNat : Int)) = decide (a = b) := by
  by_cases h : a = b
  · subst h; simp
  · have : ¬ a.toNat = b.toNat := fun e => h (UInt8.toNat_inj.1 e)
    simp [h]; omega
set_option maxHeartbeats 400000 in
theorem find_any (s : ByteArray) (c : UInt8) (w : World) (hs : s.size ≤ 1000000000000) :
    Calls Tryd.prog 36 #[.string s, .int .u8 (c.toNat : Int)] w fun e w' => e = .returned (.int .i64 (Lib.indexByte s.data.toList c)) ∧ w = w' := by
  go_enter Tryd.func36, Tryd.ntmps36
  go_wp2
  go_loop [5] (fun i => ∃ k : Nat, k ≤ s.size ∧ i = .int .i64 k ∧ Hid (Lib.indexByte s.data.toList c = findFrom c (s.data.toList.drop k) k)) (fun i => s.size - (intOf i).toNat)
  case atStart => exact ⟨0, Nat.zero_le _, rfl, (findFrom_zero c _).symm⟩
  case round =>
    obtain ⟨k, hk, rfl, HE⟩ := hrel
    by_cases hlt : k < s.size
    · have hlt' : k < s.data.toList.length := by simpa using hlt
      by_cases hc : s[k] = c
      · have hb : ((s[k].toNat : Int) == (c.toNat : Int)) = true := by rw [beq_byte]; simp [hc]
        have HF := Lib.hid (findFrom_hit c s.data.toList k hlt' hc)
        clear hc
        go_wp2
        go_ret
        exact ⟨by rw [HE.out, HF.out]; rfl, rfl⟩
      · have hb : ((s[k].toNat : Int) == (c.toNat : Int)) = false := by rw [beq_byte]; simp [hc]
        have HF := Lib.hid (findFrom_miss c s.data.toList k hlt' hc)
        clear hc
        go_wp2
        go_round
        case rel => exact ⟨k + 1, by omega, by go_num, HE.out.trans HF.out⟩
        case measure => simp [intOf]; omega
    · go_wp2
      go_ret
      exact ⟨by rw [HE.out, findFrom_end c _ k (by simp; omega)]; rfl, rfl⟩
theorem find_hex (b : UInt8) (w : World) : Calls Tryd.prog 36 #[.string ⟨#[48, 49, 50, 51, 52, 53, 54, 55, 56, 57, 97, 98, 99, 100, 101, 102]⟩, .int .u8 (b.toNat : Int)] w fun e w' => e = .returned (.int .i64 (hv b)) ∧ w = w' :=
  find_any _ b w (by decide)
set_option maxHeartbeats 400000 in
theorem rhex_any (v : Value) (l : List UInt8) (w : World) (h : SB w v l) (hl : l.length ≤ 1000000000000) :
    Calls Tryd.prog 13 #[v] w fun e w' => e = .returned (.string ⟨(hexL l).toArray⟩) ∧ Below w.heap.size w w' := by
  obtain ⟨A, cap, rfl, h1, h2, h3, h4⟩ := h
  unfold maxLen at h2
  go_enter Tryd.func13, Tryd.ntmps13
  go_wp2
  go_loopw [3, 4] (fun v i wr => ∃ k : Nat, k ≤ l.length ∧ i = .int .i64 k ∧ wr.ownsRow w.heap.size 5 1 v (2 * k) (bvs (hexL (l.take k))) ∧ Below w.heap.size w wr) (fun _ i _ => l.length - (intOf i).toNat)
  case atStart => exact ⟨0, Nat.zero_le _, rfl, World.ownsRow_nil _ _ _ _, Below.refl _ _⟩
  case round =>
    obtain ⟨k, hk, rfl, hown, hbw⟩ := hrel
    by_cases hlt : k < l.length
    · obtain ⟨b, off, rfl, hc⟩ := h4 (by intro e; subst e; simp at hlt)
      have hcell : wr.cell? ⟨b, off + k, none⟩ = some (.int .u8 (l[k].toNat : Int)) := by
        have := hc k hlt
        rw [hbw.cell (p := ⟨b, off + k, none⟩) (lt_of_cell this)]; exact this
      have hx := l[k].toNat_lt
      have hx1 : (0 : Int) ≤ (l[k].toNat : Int) / 16 := by omega
      have hx2 : (l[k].toNat : Int) / 16 < 16 := by omega
      have hx3 : (0 : Int) ≤ (l[k].toNat : Int) % 16 := by omega
      have hx4 : (l[k].toNat : Int) % 16 < 16 := by omega
      have hx6 : ((l[k].toNat : Int) / 16).toNat = l[k].toNat / 16 := by omega
      have hx7 : ((l[k].toNat : Int) % 16).toNat = l[k].toNat % 16 := by omega
      have hx8 := hexD_get
      have hx9 := u8_in ((l[k].toNat : Int) / 16) hx1 (by omega)
      have hx11 : ((l[k].toNat : Int)).tmod 16 = (l[k].toNat : Int) % 16 := Int.tmod_eq_emod_of_nonneg (by omega)
      have hx10 := u8_in ((l[k].toNat : Int) % 16) hx3 (by omega)
      go_wp2
      refine wp_region_plan (fun w' => w'.cell? ⟨b, off + k, none⟩ = some (.int .u8 (l[k].toNat : Int))) [(false, 0), (false, 1), (false, 2), (false, 3), (false, 4), (false, 5), (false, 6), (false, 7), (false, 8), (false, 9), (false, 10), (false, 11), (false, 12), (true, 13), (true, 14), (false, 15)] (by kernel_rfl) (by kernel_rfl) (hcell) ?_
      simp only [planOps, List.map, List.getD_cons_zero, List.getD_cons_succ]
      iterate 13 (refine plan_quiet (v := ?_) rfl (fun w' hw' => ?_) ?_; rotate_left; (focus (go_simp <;> with_reducible rfl)); simp only [Act.put, List.setIfInBounds_toArray, List.set_cons_zero, List.set_cons_succ])
      refine plan_loud rfl (fun K hK => ?_)
      go_simp
      refine hK _ _ (World.cell?_alloc_lt _ _ _ (lt_of_cell hcell) |>.trans hcell) ?_
      clear hK K
      (try simp only [Act.put, List.setIfInBounds_toArray, List.set_cons_zero, List.set_cons_succ])
      refine plan_loud rfl (fun K hK => ?_)
      refine wp_append8 _ _ _ _ rfl Tryd.underlying22 u8info w.heap.size u3 (2 * k) _ rfl (hown.drew.alloc _) _ 2 2 [hexD (l[k].toNat / 16), hexD (l[k].toNat % 16)] rfl (SB.made wr.drew [hexD (l[k].toNat / 16), hexD (l[k].toNat % 16)] _ _ rfl (by unfold maxLen; simp)) (by omega) (by have := hbw.size; simp; omega) ?_
      intro v2 w2 hown2 hb2 _
      have hb3 : Below w.heap.size w w2 := ((hbw.drew).alloc hbw.size _).trans hb2
      refine hK _ _ ((by have := hc k hlt; rw [hb3.cell (p := ⟨b, off + k, none⟩) (lt_of_cell this)]; exact this)) ?_
      clear hK K
      (try simp only [Act.put, List.setIfInBounds_toArray, List.set_cons_zero, List.set_cons_succ])
      iterate 1 (refine plan_quiet (v := ?_) rfl (fun w' hw' => ?_) ?_; rotate_left; (focus (go_simp <;> with_reducible rfl)); simp only [Act.put, List.setIfInBounds_toArray, List.set_cons_zero, List.set_cons_succ])
      refine plan_end ?_
      clear hx1 hx2 hx3 hx4 hx6 hx7 hx8 hx9 hx10 hx11
      go_wp2
      go_roundw
      case rel => exact ⟨k + 1, by omega, by go_num, by rw [take_snoc l k hlt, hexL_append]; exact hown2, hb3⟩
      case measure => simp [intOf]; omega
    · have hstr := (SB.of_own hown).str 22 5 9 Tryd.underlying22 Tryd.underlying5 Tryd.underlying9
      go_wp2
      go_ret
      obtain rfl : k = l.length := by omega
      exact ⟨by rw [List.take_length]; rfl, hbw⟩
set_option maxHeartbeats 1000000 in
theorem runhex_any (s : ByteArray) (w : World) (hs : s.size ≤ 1000000000000) :
    Calls Tryd.prog 11 #[.string s] w (GivesB 5 w (fun v => .agg #[v, .int .i64 0, .int .i64 (unhexCode s.data.toList)]) (unhexR s.data.toList)) := by
  go_enter Tryd.func11, Tryd.ntmps11
  go_wp2
  go_loop [3] (fun i => ∃ k : Nat, k ≤ s.size ∧ i = .int .i64 k ∧ Hid (allHex (s.data.toList.take k) = true)) (fun i => s.size - (intOf i).toNat)
  case atStart => exact ⟨0, Nat.zero_le _, rfl, rfl⟩
  case round =>
    obtain ⟨k, hk, rfl, hall⟩ := hrel
    by_cases hlt : k < s.size
    · have hr := hv_range s[k]
      by_cases hc : hv s[k] < 0
      · go_wp2_with (go_at_call 36; refine (find_hex _ _).mono ?_; rintro e w' ⟨rfl, rfl⟩)
        have hf := unhex_form s.data.toList (allHex_not s.data.toList k (by simpa using hlt) hc)
        exact bodyPost_ret (v := .agg #[.slice none 0 0, .int .i64 0, .int .i64 3]) (by simp [results, Tryd.results11, go_sem]) rfl ⟨_, by rw [hf.1], by rw [hf.2]; exact World.ownsRow_nil _ _ _ _, (Below.refl _ _).alloc (Nat.le_refl _) _⟩
      · go_wp2_with (go_at_call 36; refine (find_hex _ _).mono ?_; rintro e w' ⟨rfl, rfl⟩)
        go_round
        case rel => exact ⟨k + 1, by omega, by go_num, allHex_snoc s.data.toList k (by simpa using hlt) hall (by show 0 ≤ hv s[k]; omega)⟩
        case measure => simp [intOf]; omega
    · have hall' : Hid (allHex s.data.toList = true) := by
        have := hall.out
        rw [List.take_of_length_le (by simp; omega)] at this
        exact this
      by_cases hpar : s.size % 2 = 1
      · have hb : ((s.size : Int) % 2 == 1) = true := by rw [beq_iff_eq]; omega
        go_wp2_with fail
        have hf := unhex_short s.data.toList hall'.out (by simpa using hpar)
        exact bodyPost_ret (v := .agg #[.slice none 0 0, .int .i64 0, .int .i64 2]) (by simp [results, Tryd.results11, go_sem]) rfl ⟨_, by rw [hf.1], by rw [hf.2]; exact World.ownsRow_nil _ _ _ _, (Below.refl _ _).alloc (Nat.le_refl _) _⟩
      · have hb : ((s.size : Int) % 2 == 1) = false := by simp; omega
        have hf := Lib.hid (unhex_ok s.data.toList hall'.out (by simpa using (show s.size % 2 = 0 by omega)))
        go_wp2
        go_loopw [4, 5] (fun v i wr => ∃ k : Nat, 2 * k ≤ s.size ∧ i = .int .i64 ((2 * k : Nat) : Int) ∧ wr.ownsRow (w.heap.size + 1) 5 1 v k (bvs (unhexOut (s.data.toList.take (2 * k)))) ∧
            Below (w.heap.size + 1) (w.alloc (.cells #[.slice none 0 0, .int .i64 0, .int .i64 0] 28)) wr) (fun _ i _ => s.size - (intOf i).toNat)
        case atStart => exact ⟨0, Nat.zero_le _, rfl, World.ownsRow_nil _ _ _ _, Below.refl _ _⟩
        case round =>
          obtain ⟨k2, hk2, rfl, hown, hbw⟩ := hrel
          have hsz : w.heap.size + 1 ≤ wr.heap.size := by have := hbw.size; simpa using this
          by_cases hlt2 : 2 * k2 < s.size
          · have ha := hv_range s[2 * k2]
            have hb := hv_range s[2 * k2 + 1]
            have ha0 : 0 ≤ hv s[2 * k2] := allHex_at s.data.toList (2 * k2) (by simp; omega) hall'.out
            have hb0 : 0 ≤ hv s[2 * k2 + 1] := allHex_at s.data.toList (2 * k2 + 1) (by simp; omega) hall'.out
            obtain ⟨b8, hb8⟩ : ∃ b8 : UInt8, b8 = UInt8.ofNat ((hv s[2 * k2]).toNat * 16 + (hv s[2 * k2 + 1]).toNat) := ⟨_, rfl⟩
            have hq1 : IntKind.i64.wrap (16 * hv s[2 * k2]) = 16 * hv s[2 * k2] := i64_in _ (by omega) (by omega)
            have hq2 : IntKind.i64.wrap (2 * (k2 : Int) + 1) = 2 * (k2 : Int) + 1 := i64_in _ (by omega) (by omega)
            have hq3 : IntKind.i64.wrap (16 * hv s[2 * k2] + hv s[2 * k2 + 1]) = 16 * hv s[2 * k2] + hv s[2 * k2 + 1] := i64_in _ (by omega) (by omega)
            have hq4 : IntKind.u8.wrap (16 * hv s[2 * k2] + hv s[2 * k2 + 1]) = (b8.toNat : Int) := by rw [hb8, IntKind.wrap_u8']; simp; omega
            have hi1 : (0 : Int) ≤ 2 * (k2 : Int) := by omega
            have hi2 : 2 * (k2 : Int) < (s.size : Int) := by omega
            have hi3 : (2 * (k2 : Int)).toNat = 2 * k2 := by omega
            have hi4 : (0 : Int) ≤ 2 * (k2 : Int) + 1 := by omega
            have hi5 : 2 * (k2 : Int) + 1 < (s.size : Int) := by omega
            have hi6 : (2 * (k2 : Int) + 1).toNat = 2 * k2 + 1 := by omega
            have Hb8 := Lib.hid hb8
            clear hb8
            go_wp2
            refine wp_region_plan (fun _ => True) [(false, 0), (false, 1), (false, 2), (false, 3), (false, 4), (false, 5), (false, 6), (false, 7), (false, 8), (false, 9), (false, 10), (false, 11), (false, 12), (true, 13), (true, 14), (false, 15)] (by kernel_rfl) (by kernel_rfl) (trivial) ?_
            simp only [planOps, List.map, List.getD_cons_zero, List.getD_cons_succ]
            iterate 13 (refine plan_quiet (v := ?_) rfl (fun w' hw' => ?_) ?_; rotate_left; (focus (go_simp <;> (first | with_reducible rfl | (refine (find_hex _ _).mono ?_; rintro e w2 ⟨rfl, rfl⟩; constructor <;> with_reducible rfl)))); simp only [Act.put, List.setIfInBounds_toArray, List.set_cons_zero, List.set_cons_succ])
            refine plan_loud rfl (fun K hK => ?_)
            go_simp
            refine hK _ _ (trivial) ?_
            clear hK K
            (try simp only [Act.put, List.setIfInBounds_toArray, List.set_cons_zero, List.set_cons_succ])
            refine plan_loud rfl (fun K hK => ?_)
            refine wp_append8 _ _ _ _ rfl Tryd.underlying22 u8info (w.heap.size + 1) u4 k2 _ rfl (hown.drew.alloc _) _ 1 1 [b8] rfl (SB.made wr.drew [b8] _ _ rfl (by unfold maxLen; simp)) (by omega) (by simp; omega) ?_
            intro v2 w2 hown2 hb2 _
            have hb3 : Below (w.heap.size + 1) (w.alloc (.cells #[.slice none 0 0, .int .i64 0, .int .i64 0] 28)) w2 := ((hbw.drew).alloc hsz _).trans hb2
            refine hK _ _ (trivial) ?_
            clear hK K
            (try simp only [Act.put, List.setIfInBounds_toArray, List.set_cons_zero, List.set_cons_succ])
            iterate 1 (refine plan_quiet (v := ?_) rfl (fun w' hw' => ?_) ?_; rotate_left; (focus (go_simp <;> (first | with_reducible rfl | (refine (find_hex _ _).mono ?_; rintro e w2 ⟨rfl, rfl⟩; constructor <;> with_reducible rfl)))); simp only [Act.put, List.setIfInBounds_toArray, List.set_cons_zero, List.set_cons_succ])
            refine plan_end ?_
            clear hq1 hq2 hq3 hq4
            go_wp2
            go_roundw
            case rel => exact ⟨k2 + 1, by omega, by go_num, by rw [unhexOut_take s.data.toList k2 (by simp; omega)]; have := Hb8.out; subst this; exact hown2, hb3⟩
            case measure => simp [intOf]; omega
          · have hblk : Blk wr w.heap.size 28 #[.slice none 0 0, .int .i64 0, .int .i64 0] := (Blk.new w _ _).below hbw (by omega)
            have hc0 : wr.cell? ⟨w.heap.size, 0, none⟩ = some (.slice none 0 0) := hblk.cell 0
            have hc1 : wr.cell? ⟨w.heap.size, 1, none⟩ = some (.int .i64 0) := hblk.cell 1
            have hc2 : wr.cell? ⟨w.heap.size, 2, none⟩ = some (.int .i64 0) := hblk.cell 2
            have hf0 := hblk.frozen 0
            have hf1 := hblk.frozen 1
            have hf2 := hblk.frozen 2
            obtain ⟨A4, cap4, rfl⟩ := own_form hown
            go_wp2
            have hB := ((hblk.set (u := .slice A4 k2 cap4) 0).set (u := .int .i64 0) 1).set (u := .int .i64 0) 2
            have d0 := hB.cell 0
            have d1 := hB.cell 1
            have d2 := hB.cell 2
            refine bodyPost_ret (v := .agg #[.slice A4 k2 cap4, .int .i64 0, .int .i64 0]) (by simp [results, Tryd.results11, go_sem, d0, d1, d2]) rfl ⟨_, by rw [hf.out.1], ?_, ?_⟩
            · rw [hf.out.2]
              rw [List.take_of_length_le (by simp; omega)] at hown
              have h1 := ownsRow_setCell_below (ownsRow_setCell_below (ownsRow_setCell_below hown (a := ⟨w.heap.size, 0, none⟩) (by simp) (.slice A4 k2 cap4)) (a := ⟨w.heap.size, 1, none⟩) (by simp) (.int .i64 0)) (a := ⟨w.heap.size, 2, none⟩) (by simp) (.int .i64 0)
              have e : (unhexOut s.data.toList).length = k2 := by rw [unhexOut_length _ (by simp; omega)]; simp; omega
              rw [e]
              exact own_base h1 (by omega)
            · exact ((((((Below.refl _ _).alloc (Nat.le_refl _) _).trans (hbw.mono (by omega))).setCell (by simp) _).setCell (by simp) _).setCell (by simp) _)
end Go.Proofs.YtkhkminhlpjkgaaDoor
