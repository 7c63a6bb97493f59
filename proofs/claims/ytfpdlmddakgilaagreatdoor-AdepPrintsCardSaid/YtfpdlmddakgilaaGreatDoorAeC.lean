/- The document's answer for adep (drayageref16): Same of one list twice, Light. -/
import Derived.Test.YtfpdlmddakgilaaGreatDoorAdB
import Derived.Test.YtfpdlmddakgilaaGreatDoorOpn
namespace Go.Proofs.YtfpdlmddakgilaaGreatDoor
open Go.RowKit
def lightW (t : Wt) : Bool := !decide (300 < t.name.length) && !decide (300 < t.ver.length)
def lightA (l : List Wt) : Bool := !decide (100 < l.length) && l.all lightW
theorem light_as (l : List Wt) (h : lightA l = true) : AS l := by
  simp only [lightA, lightW, Bool.and_eq_true, List.all_eq_true, Bool.not_eq_true', decide_eq_false_iff_not] at h
  exact ⟨by omega, fun t ht => by have := h.2 t ht; omega⟩
theorem all_dropW (p : Wt → Bool) (l : List Wt) (k : Nat) (h : k < l.length) : (l.drop k).all p = (p l[k] && (l.drop (k + 1)).all p) := by
  rw [List.drop_eq_getElem_cons h, List.all_cons]
set_option maxRecDepth 20000 in
set_option maxHeartbeats 8000000 in
theorem light_anyA (l : List Wt) (v : Value) (X : Nat → Prop) (w : World) (hsl : Sl 4 Rwant X w v l) :
    Calls Tryz.prog 5 #[v] w fun e w' => e = .returned (.bool (lightA l)) ∧ w = w' := by
  obtain ⟨A, cap, rfl, hc1, hc2⟩ := hsl.form
  unfold maxLen at hc2
  have HT : Hid (lightA l = (!decide (100 < l.length) && l.all lightW)) := Lib.hid rfl
  generalize lightA l = res at HT
  by_cases h80 : 100 < l.length
  · have hd : decide ((100 : Int) < (l.length : Int)) = true := by simp; omega
    have HV : Hid (res = false) := Lib.hid (by rw [HT.out, decide_eq_true h80]; rfl)
    clear h80
    go_enter Tryz.func5, Tryz.ntmps5
    go_wp2_with fail
    go_ret
    exact ⟨by rw [HV.out]; rfl, rfl⟩
  · have hd : decide ((100 : Int) < (l.length : Int)) = false := by simp; omega
    have HV : Hid (res = l.all lightW) := Lib.hid (by rw [HT.out, decide_eq_false h80]; rfl)
    have hl80 : l.length ≤ 100 := by omega
    clear h80 HT
    go_enter Tryz.func5, Tryz.ntmps5
    go_wp2_with fail
    go_loopg [3] l.length (fun G s3 wr => ∃ k : Nat, k ≤ l.length ∧ G = l.length - k ∧ s3 = .int .i64 k ∧ w = wr ∧ Hid (res = (l.drop k).all lightW))
    case atStart => exact ⟨0, Nat.zero_le _, rfl, rfl, rfl, HV⟩
    case round =>
      clear HV hd
      obtain ⟨k, hk, rfl, rfl, rfl, HE⟩ := hrel
      by_cases hlt : k < l.length
      · obtain ⟨b, off, rfl, _, hc⟩ := hsl.want (by omega)
        obtain ⟨c0, c1, c2, c3⟩ := hc k hlt
        have HST := Lib.hid (HE.out.trans (all_dropW lightW l k hlt))
        clear hc HE
        generalize l[k] = t at c0 c1 c2 c3 HST
        have z1 : ((bs t.name).size : Int) = (t.name.length : Int) := by rw [bs_size]
        have z2 : ((bs t.ver).size : Int) = (t.ver.length : Int) := by rw [bs_size]
        have HL : Hid (lightW t = (!decide (300 < t.name.length) && !decide (300 < t.ver.length))) := Lib.hid rfl
        by_cases n1 : 300 < t.name.length
        · have d1 : decide ((300 : Int) < ((bs t.name).size : Int)) = true := by rw [z1]; simp; omega
          have HZ : Hid (res = false) := Lib.hid (by rw [HST.out, HL.out, decide_eq_true n1]; rfl)
          clear z1 z2 n1
          go_wp2_with fail
          go_ret
          exact ⟨by rw [HZ.out]; rfl, rfl⟩
        · have d1 : decide ((300 : Int) < ((bs t.name).size : Int)) = false := by rw [z1]; simp; omega
          by_cases n2 : 300 < t.ver.length
          · have d2 : decide ((300 : Int) < ((bs t.ver).size : Int)) = true := by rw [z2]; simp; omega
            have HZ : Hid (res = false) := Lib.hid (by rw [HST.out, HL.out, decide_eq_true n2, decide_eq_false n1]; rfl)
            clear z1 z2 n1 n2
            go_wp2_with fail
            go_ret
            exact ⟨by rw [HZ.out]; rfl, rfl⟩
          · have d2 : decide ((300 : Int) < ((bs t.ver).size : Int)) = false := by rw [z2]; simp; omega
            have HZ : Hid (res = (l.drop (k + 1)).all lightW) := Lib.hid (by rw [HST.out, HL.out, decide_eq_false n2, decide_eq_false n1]; rfl)
            clear z1 z2 n1 n2
            go_wp2_with fail
            go_roundg (l.length - (k + 1))
            case measure => omega
            case rel => exact ⟨k + 1, by omega, rfl, by go_num, rfl, HZ⟩
      · obtain rfl : k = l.length := by omega
        have HZ : Hid (res = true) := Lib.hid (by rw [HE.out, List.drop_length]; rfl)
        go_wp2_with fail
        go_ret
        exact ⟨by rw [HZ.out]; rfl, rfl⟩
end Go.Proofs.YtfpdlmddakgilaaGreatDoor
