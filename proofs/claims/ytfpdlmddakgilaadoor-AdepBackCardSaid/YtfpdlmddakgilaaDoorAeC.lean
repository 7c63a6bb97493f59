/- The document's answer for adep (drayageref16): Same of one list twice, Light. -/
import Derived.Test.YtfpdlmddakgilaaDoorAdB
import Derived.Test.YtfpdlmddakgilaaDoorOpn
namespace Go.Proofs.YtfpdlmddakgilaaDoor
open Go.RowKit
set_option maxRecDepth 20000 in
set_option maxHeartbeats 8000000 in
theorem same_yesA (l : List Wt) (v v' : Value) (X Y : Nat → Prop) (w : World) (h1 : Sl 4 Rwant X w v l) (h2 : Sl 4 Rwant Y w v' l) :
    Calls Tryd.prog 8 #[v, v'] w fun e w' => e = .returned (.bool true) ∧ Below w.heap.size w w' := by
  obtain ⟨A, cap, rfl, hc1, hc2⟩ := h1.form
  obtain ⟨A', cap', rfl, hc1', hc2'⟩ := h2.form
  unfold maxLen at hc2 hc2'
  have hne : ((l.length : Int) != (l.length : Int)) = false := by simp
  go_enter Tryd.func8, Tryd.ntmps8
  go_wp2_with fail
  clear hne
  go_loopg [5] l.length (fun G s5 wr => ∃ k : Nat, k ≤ l.length ∧ G = l.length - k ∧ s5 = .int .i64 k ∧ Below w.heap.size w wr)
  case atStart => exact ⟨0, Nat.zero_le _, rfl, rfl, Below.refl _ _⟩
  case round =>
    obtain ⟨k, hk, rfl, rfl, hbw⟩ := hrel
    by_cases hlt : k < l.length
    · have h1r := h1.keep good_want (Kept.of_below hbw X)
      have h2r := h2.keep good_want (Kept.of_below hbw Y)
      obtain ⟨b, off, rfl, _, hc⟩ := h1r.want (by omega)
      obtain ⟨c0, c1, c2, c3⟩ := hc k hlt
      obtain ⟨b', off', rfl, _, hc'⟩ := h2r.want (by omega)
      obtain ⟨c0', c1', c2', c3'⟩ := hc' k hlt
      clear hc hc' h1r h2r
      generalize l[k] = t at c0 c1 c2 c3 c0' c1' c2' c3'
      obtain ⟨tb, tn, tq, tv⟩ := t
      simp only at c0 c1 c2 c3 c0' c1' c2' c3'
      have i1 : (0 : Int) ≤ (k : Int) := by omega
      have i2 : (k : Int) < (l.length : Int) := by omega
      have e1 := beq_bs tn
      have e2 := beq_bs tv
      have e3 : (tq == tq) = true := by simp
      have e4 : (tb != tb) = false := by simp
      go_wp2_with fail
      refine wp_region_plan (fun W => (W.cell? ⟨b, off + k * 4, none⟩ = some (.bool tb) ∧ W.cell? ⟨b, off + k * 4 + 1, none⟩ = some (.string (bs tn)) ∧ W.cell? ⟨b, off + k * 4 + 2, none⟩ = some (.int .i64 tq) ∧ W.cell? ⟨b, off + k * 4 + 3, none⟩ = some (.string (bs tv))) ∧ W.cell? ⟨b', off' + k * 4, none⟩ = some (.bool tb) ∧ W.cell? ⟨b', off' + k * 4 + 1, none⟩ = some (.string (bs tn)) ∧ W.cell? ⟨b', off' + k * 4 + 2, none⟩ = some (.int .i64 tq) ∧ W.cell? ⟨b', off' + k * 4 + 3, none⟩ = some (.string (bs tv))) [(false, 0), (false, 1), (false, 2), (false, 3), (false, 4), (false, 5), (false, 6), (false, 7), (false, 8), (false, 9), (false, 10), (false, 11), (false, 12), (false, 13), (false, 14), (false, 15), (false, 16), (false, 17), (false, 18), (false, 19), (false, 20), (false, 21), (false, 22), (false, 23)] (by kernel_rfl) (by kernel_rfl) (⟨⟨by simpa using c0, by simpa using c1, by simpa using c2, by simpa using c3⟩, by simpa using c0', by simpa using c1', by simpa using c2', by simpa using c3'⟩) ?_
      simp only [planOps, List.map, List.getD_cons_zero, List.getD_cons_succ]
      iterate 24 ((first | refine plan_quiet_guarded (v := ?_) rfl (fun w' hw' => ?_) ?_ | refine plan_calm_guarded (v := ?_) (tt_of) (fun w' hw' => ?_) ?_); rotate_left; (focus (go_simp <;> with_reducible rfl)); simp only [Act.put, List.setIfInBounds_toArray, List.set_cons_zero, List.set_cons_succ])
      refine plan_end ?_
      go_wp2_with fail
      go_roundg (l.length - (k + 1))
      case measure => omega
      case rel => exact ⟨k + 1, by omega, rfl, by go_num, hbw.drew⟩
    · obtain rfl : k = l.length := by omega
      go_wp2_with fail
      go_ret
      exact ⟨rfl, hbw⟩
def lightW (t : Wt) : Bool := !decide (300 < t.name.length) && !decide (300 < t.ver.length)
def lightA (l : List Wt) : Bool := !decide (100 < l.length) && l.all lightW
theorem light_as (l : List Wt) (h : lightA l = true) : AS l := by
  simp only [lightA, lightW, Bool.and_eq_true, List.all_eq_true, Bool.not_eq_true', decide_eq_false_iff_not] at h
  exact ⟨by omega, fun t ht => by have := h.2 t ht; omega⟩
theorem all_dropW (p : Wt → Bool) (l : List Wt) (k : Nat) (h : k < l.length) : (l.drop k).all p = (p l[k] && (l.drop (k + 1)).all p) := by
  rw [List.drop_eq_getElem_cons h, List.all_cons]
set_option maxRecDepth 20000 in
set_option maxHeartbeats 8000000 in
theorem light_anyA (l : List Wt) (v : Value) (X : Nat → Prop) (w : World) (hsl : Sl 4 Rwant X w v l) :
    Calls Tryd.prog 9 #[v] w fun e w' => e = .returned (.bool (lightA l)) ∧ w = w' := by
  obtain ⟨A, cap, rfl, hc1, hc2⟩ := hsl.form
  unfold maxLen at hc2
  have HT : Hid (lightA l = (!decide (100 < l.length) && l.all lightW)) := Lib.hid rfl
  generalize lightA l = res at HT
  by_cases h80 : 100 < l.length
  · have hd : decide ((100 : Int) < (l.length : Int)) = true := by simp; omega
    have HV : Hid (res = false) := Lib.hid (by rw [HT.out, decide_eq_true h80]; rfl)
    clear h80
    go_enter Tryd.func9, Tryd.ntmps9
    go_wp2_with fail
    go_ret
    exact ⟨by rw [HV.out]; rfl, rfl⟩
  · have hd : decide ((100 : Int) < (l.length : Int)) = false := by simp; omega
    have HV : Hid (res = l.all lightW) := Lib.hid (by rw [HT.out, decide_eq_false h80]; rfl)
    have hl80 : l.length ≤ 100 := by omega
    clear h80 HT
    go_enter Tryd.func9, Tryd.ntmps9
    go_wp2_with fail
    go_loopg [3] l.length (fun G s3 wr => ∃ k : Nat, k ≤ l.length ∧ G = l.length - k ∧ s3 = .int .i64 k ∧ w = wr ∧ Hid (res = (l.drop k).all lightW))
    case atStart => exact ⟨0, Nat.zero_le _, rfl, rfl, rfl, HV⟩
    case round =>
      clear HV hd
      obtain ⟨k, hk, rfl, rfl, rfl, HE⟩ := hrel
      by_cases hlt : k < l.length
      · obtain ⟨b, off, rfl, _, hc⟩ := hsl.want (by omega)
        obtain ⟨c0, c1, c2, c3⟩ := hc k hlt
        have HST := Lib.hid (HE.out.trans (all_dropW lightW l k hlt))
        clear hc HE
        generalize l[k] = t at c0 c1 c2 c3 HST
        have z1 : ((bs t.name).size : Int) = (t.name.length : Int) := by rw [bs_size]
        have z2 : ((bs t.ver).size : Int) = (t.ver.length : Int) := by rw [bs_size]
        have HL : Hid (lightW t = (!decide (300 < t.name.length) && !decide (300 < t.ver.length))) := Lib.hid rfl
        by_cases n1 : 300 < t.name.length
        · have d1 : decide ((300 : Int) < ((bs t.name).size : Int)) = true := by rw [z1]; simp; omega
          have HZ : Hid (res = false) := Lib.hid (by rw [HST.out, HL.out, decide_eq_true n1]; rfl)
          clear z1 z2 n1
          go_wp2_with fail
          go_ret
          exact ⟨by rw [HZ.out]; rfl, rfl⟩
        · have d1 : decide ((300 : Int) < ((bs t.name).size : Int)) = false := by rw [z1]; simp; omega
          by_cases n2 : 300 < t.ver.length
          · have d2 : decide ((300 : Int) < ((bs t.ver).size : Int)) = true := by rw [z2]; simp; omega
            have HZ : Hid (res = false) := Lib.hid (by rw [HST.out, HL.out, decide_eq_true n2, decide_eq_false n1]; rfl)
            clear z1 z2 n1 n2
            go_wp2_with fail
            go_ret
            exact ⟨by rw [HZ.out]; rfl, rfl⟩
          · have d2 : decide ((300 : Int) < ((bs t.ver).size : Int)) = false := by rw [z2]; simp; omega
            have HZ : Hid (res = (l.drop (k + 1)).all lightW) := Lib.hid (by rw [HST.out, HL.out, decide_eq_false n2, decide_eq_false n1]; rfl)
            clear z1 z2 n1 n2
            go_wp2_with fail
            go_roundg (l.length - (k + 1))
            case measure => omega
            case rel => exact ⟨k + 1, by omega, rfl, by go_num, rfl, HZ⟩
      · obtain rfl : k = l.length := by omega
        have HZ : Hid (res = true) := Lib.hid (by rw [HE.out, List.drop_length]; rfl)
        go_wp2_with fail
        go_ret
        exact ⟨by rw [HZ.out]; rfl, rfl⟩
end Go.Proofs.YtfpdlmddakgilaaDoor
