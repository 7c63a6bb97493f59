/- Walks of codec's functions. -/
import Derived.Test.YtkhkminhlpjkgaaDoorProg
import Derived.Test.YtkhkminhlpjkgaaDoorBase
import Derived.Test.YtkhkminhlpjkgaaDoorPlan
import Derived.Test.YtkhkminhlpjkgaaDoorCodS
import Derived.Test.YtkhkminhlpjkgaaDoorShelfA
namespace Go.Proofs.YtkhkminhlpjkgaaDoor
open Go.RowKit
theorem u8info : (Tryd.prog.info? 5).map (fun i => (i.zero, i.size, i.bytes)) = some (some (.int .u8 0), 1, 1) := by kernel_rfl
theorem ib (s : ByteArray) (b : UInt8) (w : World) : Calls Tryd.prog 35 #[.string s, .int .u8 (b.toNat : Int)] w fun e w' => e = .returned (.int .i64 (Lib.indexByte s.data.toList b)) ∧ w = w' :=
  (Tryd.strings_IndexByte s _ w).mono fun e w' ⟨h1, h2⟩ => ⟨by simpa using h1, h2.symm⟩
theorem ib_hex (b : UInt8) (w : World) : Calls Tryd.prog 35 #[.string ⟨#[48, 49, 50, 51, 52, 53, 54, 55, 56, 57, 97, 98, 99, 100, 101, 102]⟩, .int .u8 (b.toNat : Int)] w fun e w' => e = .returned (.int .i64 (hv b)) ∧ w = w' := ib _ b w
set_option maxHeartbeats 400000 in
theorem hex_any (v : Value) (l : List UInt8) (w : World) (h : SB w v l) (hl : l.length ≤ 1000000000000) :
    Calls Tryd.prog 12 #[v] w fun e w' => e = .returned (.string ⟨(hexL l).toArray⟩) ∧ Below w.heap.size w w' := by
  obtain ⟨A, cap, rfl, h1, h2, h3, h4⟩ := h
  obtain ⟨i0, hi, hz0, hz1, hz2⟩ := info_parts u8info
  unfold maxLen at h2
  go_enter Tryd.func12, Tryd.ntmps12
  go_wp2_with (first | (at_make; refine wpList_make_own _ rfl _ _ _ rfl w.heap.size _ i0 _ 1 Tryd.underlying22 hi hz0 hz1 _ _ _ (2 * l.length) rfl rfl (by omega) ?b1 ?b2 (Nat.le_refl _) ?_) | fail)
  case b1 => rw [hz2]; omega
  case b2 => unfold maxLen; omega
  intro w1 hown1 hg1
  have hb1 : Below w.heap.size w w1 := (Below.refl _ _).grown hg1 (Nat.le_refl _) (by simp)
  go_wp2
  go_loopw [3, 12] (fun v i wr => ∃ k : Nat, k ≤ l.length ∧ i = .int .i64 k ∧ wr.ownsRow w.heap.size 5 1 v (2 * k) (bvs (hexL (l.take k))) ∧ Below w.heap.size w wr) (fun _ i _ => l.length - (intOf i).toNat)
  case atStart => exact ⟨0, Nat.zero_le _, rfl, by simpa [hexL, bvs] using hown1, hb1⟩
  case round =>
    obtain ⟨k, hk, rfl, hown, hbw⟩ := hrel
    by_cases hlt : k < l.length
    · obtain ⟨b, off, rfl, hc⟩ := h4 (by intro e; subst e; simp at hlt)
      have hcell : wr.cell? ⟨b, off + k, none⟩ = some (.int .u8 (l[k].toNat : Int)) := by
        have := hc k hlt
        rw [hbw.cell (p := ⟨b, off + k, none⟩) (lt_of_cell this)]; exact this
      have hx := l[k].toNat_lt
      have hx1 : (0 : Int) ≤ (l[k].toNat : Int) / 16 := by omega
      have hx2 : (l[k].toNat : Int) / 16 < 16 := by omega
      have hx3 : (0 : Int) ≤ (l[k].toNat : Int) % 16 := by omega
      have hx4 : (l[k].toNat : Int) % 16 < 16 := by omega
      have hx5 := u8_and15 l[k]
      have hx6 : ((l[k].toNat : Int) / 16).toNat = l[k].toNat / 16 := by omega
      have hx7 : ((l[k].toNat : Int) % 16).toNat = l[k].toNat % 16 := by omega
      have hx8 := hexD_get
      go_wp2
      refine wp_region_plan (fun _ => True) [(false, 0), (false, 1), (false, 2), (false, 3), (false, 4), (false, 5), (false, 6), (true, 7), (true, 8), (false, 9)] (by kernel_rfl) (by kernel_rfl) (trivial) ?_
      simp only [planOps, List.map, List.getD_cons_zero, List.getD_cons_succ]
      iterate 7 (refine plan_quiet (v := ?_) rfl (fun w' hw' => ?_) ?_; rotate_left; (focus (go_simp <;> with_reducible rfl)); simp only [Act.put, List.setIfInBounds_toArray, List.set_cons_zero, List.set_cons_succ])
      refine plan_loud rfl (fun K hK => ?_)
      go_simp
      refine hK _ _ (trivial) ?_
      clear hK K
      (try simp only [Act.put, List.setIfInBounds_toArray, List.set_cons_zero, List.set_cons_succ])
      refine plan_loud rfl (fun K hK => ?_)
      refine wp_append8 _ _ _ _ rfl Tryd.underlying22 u8info w.heap.size u3 (2 * k) _ rfl (hown.drew.alloc _) _ 2 2 [hexD (l[k].toNat / 16), hexD (l[k].toNat % 16)] rfl (SB.made wr.drew [hexD (l[k].toNat / 16), hexD (l[k].toNat % 16)] _ _ rfl (by unfold maxLen; simp)) (by omega) (by have := hbw.size; simp; omega) ?_
      intro v2 w2 hown2 hb2 _
      have hb3 : Below w.heap.size w w2 := ((hbw.drew).alloc hbw.size _).trans hb2
      refine hK _ _ (trivial) ?_
      clear hK K
      (try simp only [Act.put, List.setIfInBounds_toArray, List.set_cons_zero, List.set_cons_succ])
      iterate 1 (refine plan_quiet (v := ?_) rfl (fun w' hw' => ?_) ?_; rotate_left; (focus (go_simp <;> with_reducible rfl)); simp only [Act.put, List.setIfInBounds_toArray, List.set_cons_zero, List.set_cons_succ])
      refine plan_end ?_
      clear hx1 hx2 hx3 hx4 hx5 hx6 hx7 hx8
      go_wp2
      go_roundw
      case rel => exact ⟨k + 1, by omega, by go_num, by rw [take_snoc l k hlt, hexL_append]; exact hown2, hb3⟩
      case measure => simp [intOf]; omega
    · have hstr := (SB.of_own hown).str 22 5 9 Tryd.underlying22 Tryd.underlying5 Tryd.underlying9
      go_wp2
      go_ret
      obtain rfl : k = l.length := by omega
      exact ⟨by rw [List.take_length]; rfl, hbw⟩
/-- A slice of the call's own that reads as l, in a result made by mk. -/
def GivesB (E : TypeId) (w : World) (mk : Value → Value) (l : List UInt8) (e : Ending) (w' : World) : Prop :=
  ∃ v, e = .returned (mk v) ∧ w'.ownsRow w.heap.size E 1 v l.length (bvs l) ∧ Below w.heap.size w w'
set_option maxHeartbeats 400000 in
theorem unhex_any (s : ByteArray) (w : World) (hs : s.size ≤ 1000000000000) :
    Calls Tryd.prog 10 #[.string s] w (GivesB 5 w (fun v => .tuple #[v, .int .i64 (unhexCode s.data.toList)]) (unhexR s.data.toList)) := by
  obtain ⟨i0, hi, hz0, hz1, hz2⟩ := info_parts u8info
  go_enter Tryd.func10, Tryd.ntmps10
  go_wp2
  go_loop [11] (fun i => ∃ k : Nat, k ≤ s.size ∧ i = .int .i64 k ∧ Hid (allHex (s.data.toList.take k) = true)) (fun i => s.size - (intOf i).toNat)
  case atStart => exact ⟨0, Nat.zero_le _, rfl, rfl⟩
  case round =>
    obtain ⟨k, hk, rfl, hall⟩ := hrel
    by_cases hlt : k < s.size
    · have hr := hv_range s[k]
      by_cases hc : hv s[k] < 0
      · go_wp2_with (go_at_call 35; refine (ib_hex _ _).mono ?_; rintro e w' ⟨rfl, rfl⟩)
        go_ret2
        have hf := unhex_form s.data.toList (allHex_not s.data.toList k (by simpa using hlt) hc)
        exact ⟨_, by rw [hf.1]; rfl, by rw [hf.2]; exact World.ownsRow_nil _ _ _ _, Below.refl _ _⟩
      · go_wp2_with (go_at_call 35; refine (ib_hex _ _).mono ?_; rintro e w' ⟨rfl, rfl⟩)
        go_round
        case rel => exact ⟨k + 1, by omega, by go_num, allHex_snoc s.data.toList k (by simpa using hlt) hall (by show 0 ≤ hv s[k]; omega)⟩
        case measure => simp [intOf]; omega
    · have hall' : Hid (allHex s.data.toList = true) := by
        have := hall.out
        rw [List.take_of_length_le (by simp; omega)] at this
        exact this
      by_cases hpar : s.size % 2 = 1
      · have hb : ((s.size : Int) % 2 != 0) = true := by rw [bne_iff_ne]; omega
        go_wp2_with fail
        go_ret2
        have hf := unhex_short s.data.toList hall'.out (by simpa using hpar)
        exact ⟨_, by rw [hf.1]; rfl, by rw [hf.2]; exact World.ownsRow_nil _ _ _ _, Below.refl _ _⟩
      · have hb : ((s.size : Int) % 2 != 0) = false := by simp; omega
        have hf := Lib.hid (unhex_ok s.data.toList hall'.out (by simpa using (show s.size % 2 = 0 by omega)))
        go_wp2_with (at_make; refine wpList_make_full _ rfl _ _ _ rfl w.heap.size _ i0 _ 1 Tryd.underlying22 hi hz0 hz1 _ _ _ _ (s.size / 2) rfl rfl (by omega) (by omega) (by rw [hz2]; omega) (by unfold maxLen; omega) (Nat.le_refl _) ?_)
        intro w1 hown1 hg1
        have hb1 : Below w.heap.size w w1 := (Below.refl _ _).grown hg1 (Nat.le_refl _) (by simp)
        go_wp2
        have hn2 : s.size / 2 ≤ 1000000000000 := by omega
        go_loopw [30] (fun i wr => ∃ k : Nat, k ≤ s.size / 2 ∧ i = .int .i64 k ∧ wr.ownsRow w.heap.size 5 1 (.slice (some ⟨w.heap.size, 0, none⟩) (s.size / 2) (s.size / 2)) (s.size / 2) (bvs (unhexOut (s.data.toList.take (2 * k)) ++ List.replicate (s.size / 2 - k) 0)) ∧ Below w.heap.size w wr) (fun i _ => s.size / 2 - (intOf i).toNat)
        case atStart => exact ⟨0, Nat.zero_le _, rfl, by simp only [Nat.mul_zero, List.take_zero, unhexOut, List.nil_append, Nat.sub_zero]; rw [← bvs_replicate']; exact hown1, hb1⟩
        case round =>
          rename_i wr' _
          obtain ⟨k2, hk2, rfl, hown, hbw⟩ := hrel
          by_cases hlt2 : k2 < s.size / 2
          · have ha := hv_range s[2 * k2]
            have hb := hv_range s[2 * k2 + 1]
            have ha0 : 0 ≤ hv s[2 * k2] := allHex_at s.data.toList (2 * k2) (by simp; omega) hall'.out
            have hb0 : 0 ≤ hv s[2 * k2 + 1] := allHex_at s.data.toList (2 * k2 + 1) (by simp; omega) hall'.out
            obtain ⟨b8, hb8⟩ : ∃ b8 : UInt8, b8 = UInt8.ofNat ((hv s[2 * k2]).toNat * 16 + (hv s[2 * k2 + 1]).toNat) := ⟨_, rfl⟩
            have hor : bits .or .i64 (hv s[2 * k2] * 16) (hv s[2 * k2 + 1]) % 256 = (b8.toNat : Int) := by
              rw [hb8]
              have := bits_or_low 4 (hv s[2 * k2]) (hv s[2 * k2 + 1]) ha0 hb0 (by omega) (by omega) (by omega)
              simp only [show (2 : Int) ^ 4 = 16 from rfl] at this
              rw [this]
              simp
              omega
            have Hlen : Hid ((unhexOut (s.data.toList.take (2 * k2))).length = k2) := by
              show (unhexOut (s.data.toList.take (2 * k2))).length = k2
              rw [unhexOut_length _ (by rw [List.length_take]; simp; omega), List.length_take]; simp; omega
            obtain ⟨⟨u0, hcell⟩, hfro, hst⟩ := own_store_next hown k2 Hlen.out.symm (by omega)
            have Hst := Lib.hid hst
            have Hb8 := Lib.hid hb8
            clear hst hb8
            have Hsz := hbw.size
            go_wp2_with (go_at_call 35; refine (ib_hex _ _).mono ?_; rintro e w' ⟨rfl, rfl⟩)
            go_roundw
            case rel =>
              refine ⟨k2 + 1, by omega, by go_num, ?_, hbw.setCell (Nat.le_refl _) _⟩
              rw [unhexOut_take s.data.toList k2 (by simp; omega)]
              have h1 := Hst.out b8
              rw [Hb8.out] at h1 ⊢
              exact h1
            case measure => simp [intOf]; omega
          · go_wp2
            go_ret2
            obtain rfl : k2 = s.size / 2 := by omega
            refine ⟨_, by rw [hf.out.1]; rfl, ?_, hbw⟩
            rw [hf.out.2]
            rw [List.take_of_length_le (by simp; omega), Nat.sub_self, List.replicate_zero, List.append_nil] at hown
            rw [unhexOut_length _ (by simp; omega)]
            simpa using hown
end Go.Proofs.YtkhkminhlpjkgaaDoor
