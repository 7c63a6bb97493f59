/- The document's Light over items. -/
import Derived.Test.YtolknddegfcmpaaDoorArA
import Derived.Test.YtolknddegfcmpaaDoorPlaF
import Derived.Test.YtolknddegfcmpaaDoorArBs
namespace Go.Proofs.YtolknddegfcmpaaDoor
open Go.RowKit
def mn (n : Nat) : Nat := if 4001 < n then 4001 else n
theorem mn_int (n : Nat) : min (n : Int) (IntKind.i64.wrap 4001) = (mn n : Int) := by
  rw [i64_in 4001 (by omega) (by omega)]
  unfold mn; split <;> omega
theorem mn_le (n : Nat) : mn n ≤ 4001 := by unfold mn; split <;> omega
theorem mn_of (n : Nat) (h : mn n ≤ 4000) : mn n = n := by unfold mn at *; split at h <;> simp_all <;> omega
def wI (e : It) : Nat := mn e.name.length + mn e.data.length
def ltI : Nat → List It → Bool
  | n, [] => decide (n ≤ 4000)
  | n, e :: t => if n ≤ 4000 then ltI (n + wI e) t else false
/-- Are items few, and their texts and data short, in all? -/
def lightI (c : Nat) (l : List It) : Bool := if c < l.length then false else ltI 0 l
theorem ltI_step (n : Nat) (l : List It) (k : Nat) (h : k < l.length) : ltI n (l.drop k) = if n ≤ 4000 then ltI (n + wI l[k]) (l.drop (k + 1)) else false := by rw [List.drop_eq_getElem_cons h]; rfl
theorem ltI_big (n : Nat) (l : List It) (h : ¬ n ≤ 4000) : ltI n l = false := by
  cases l with
  | nil => simpa [ltI] using h
  | cons e t => rw [ltI, if_neg h]
theorem ltI_w : ∀ (l : List It) (n : Nat), ltI n l = true → ∀ e ∈ l, e.name.length ≤ 4000 ∧ e.data.length ≤ 4000
  | [], n, _, e, he => by cases he
  | x :: t, n, h, e, he => by
    rw [ltI] at h
    split at h
    · rcases List.mem_cons.1 he with rfl | he
      · have h2 : n + wI e ≤ 4000 := by
          by_cases h3 : n + wI e ≤ 4000
          · exact h3
          · rw [ltI_big _ _ h3] at h; cases h
        unfold wI at h2
        have h1 := mn_of e.name.length (by omega)
        have h6 := mn_of e.data.length (by omega)
        omega
      · exact ltI_w t _ h e he
    · cases h
theorem light_ib (c : Nat) (l : List It) (h : lightI c l = true) : l.length ≤ c ∧ ∀ e ∈ l, e.name.length ≤ 4000 ∧ e.data.length ≤ 4000 := by
  rw [lightI] at h
  split at h
  · cases h
  · exact ⟨by omega, ltI_w l 0 h⟩
set_option maxRecDepth 20000 in
set_option maxHeartbeats 8000000 in
theorem rilight_any (l : List It) (c : Nat) (v : Value) (X : Nat → Prop) (w : World) (hsl : Sl 6 Rit X w v l) (hc : c ≤ 1000000) :
    Calls Tryd.prog 18 #[v, .int .i64 c, .int .i64 4000] w fun e w' => e = .returned (.bool (lightI c l)) ∧ Below w.heap.size w w' := by
  obtain ⟨A, cap, rfl, hc1, hc2⟩ := hsl.form
  unfold maxLen at hc2
  have HT : Hid (lightI c l = if c < l.length then false else ltI 0 l) := Lib.hid rfl
  generalize lightI c l = res at HT
  by_cases h60 : c < l.length
  · have hd : decide ((c : Int) < (l.length : Int)) = true := by simp; omega
    have hd' : decide (c < l.length) = true := by simpa using h60
    have HV : Hid (res = false) := Lib.hid (by rw [HT.out, if_pos h60])
    clear h60
    go_enter Tryd.func18, Tryd.ntmps18
    go_wp2_with fail
    go_ret
    exact ⟨by rw [HV.out]; rfl, Below.refl _ _⟩
  · have hd : decide ((c : Int) < (l.length : Int)) = false := by simp; omega
    have hd' : decide (c < l.length) = false := by simpa using h60
    have HV : Hid (res = ltI 0 (l.drop 0)) := Lib.hid (by rw [HT.out, if_neg h60]; rfl)
    clear h60 HT
    go_enter Tryd.func18, Tryd.ntmps18
    go_wp2_with fail
    go_loopg [7, 8] l.length (fun G s7 s8 wr => ∃ k n : Nat, k ≤ l.length ∧ n ≤ 30010 ∧ G = l.length - k ∧ s7 = .int .i64 n ∧ s8 = .int .i64 k ∧ Below w.heap.size w wr ∧ Hid (res = ltI n (l.drop k)))
    case atStart => exact ⟨0, 0, Nat.zero_le _, Nat.zero_le _, rfl, rfl, rfl, Below.refl _ _, HV⟩
    case round =>
      clear HV hd hd'
      obtain ⟨k, n, hk, hn, rfl, rfl, rfl, hbw, HE⟩ := hrel
      by_cases hlt : k < l.length
      · have hlt' : decide ((k : Int) < (l.length : Int)) = true := by simp; omega
        by_cases h5 : n ≤ 4000
        · have hle : decide ((n : Int) ≤ (4000 : Int)) = true := by simp; omega
          obtain ⟨b, off, rfl, _, hcj⟩ := (hsl.keep good_it (Kept.of_below hbw X)).it (by omega)
          obtain ⟨dv, hat, hdv⟩ := hcj k hlt
          obtain ⟨Ad, capd, rfl, _, _⟩ := hdv.form
          have HST := Lib.hid (HE.out.trans ((ltI_step n l k hlt).trans (if_pos h5)))
          clear hcj HE hdv
          generalize l[k] = e at hat HST
          obtain ⟨name, mtime, uid, gid, mode, data⟩ := e
          obtain ⟨c0, _, _, _, _, c5⟩ := hat
          simp only at c0 c5
          have HW : Hid (wI ⟨name, mtime, uid, gid, mode, data⟩ = mn name.length + mn data.length) := Lib.hid rfl
          have i1 : (0 : Int) ≤ (k : Int) := by omega
          have i2 : (k : Int) < (l.length : Int) := by omega
          have z1 : ((bs name).size : Int) = (name.length : Int) := by rw [bs_size]
          have y1 := mn_int name.length
          have y5 := mn_int data.length
          have x1 := mn_le name.length
          have x5 := mn_le data.length
          generalize mn name.length = a1 at *
          generalize mn data.length = a5 at *
          have w1 : IntKind.i64.wrap ((n : Int) + a1) = (n : Int) + a1 := i64_in _ (by omega) (by omega)
          have w5 : IntKind.i64.wrap ((n : Int) + a1 + a5) = ((n + (a1 + a5) : Nat) : Int) := by rw [i64_in _ (by omega) (by omega)]; omega
          go_upto_region 7 with fail
          refine wp_region_plan (fun W => W.cell? ⟨b, off + k * 6, none⟩ = some (.string (bs name)) ∧ W.cell? ⟨b, off + k * 6 + 5, none⟩ = some (.slice Ad data.length capd)) [(false, 0), (false, 1), (false, 2), (false, 3), (false, 4), (false, 5), (false, 6), (false, 7), (false, 8), (false, 9), (false, 10), (false, 11), (false, 12), (false, 13), (false, 14), (false, 15), (false, 16), (false, 17), (false, 18), (false, 19), (false, 20), (false, 21)] (by kernel_rfl) (by kernel_rfl) (⟨by simpa using c0, by simpa using c5⟩) ?_
          simp only [planOps, List.map, List.getD_cons_zero, List.getD_cons_succ]
          iterate 22 ((first | refine plan_quiet (v := ?_) rfl rfl (fun w' hw' => ?_) ?_ | refine plan_calm (v := ?_) (tt_of) rfl (fun w' hw' => ?_) ?_); rotate_left; (focus (go_simp <;> (first | with_reducible rfl | (rw [if_neg (by simp [undef])]; try rfl) | omega))); simp only [Act.put, List.setIfInBounds_toArray, List.set_cons_zero, List.set_cons_succ])
          refine plan_end ?_
          have hqd := hbw.drew
          have HZ := Lib.hid (HST.out.trans (by rw [HW.out]))
          clear HST HW c0 c5 z1
          go_wp2_with fail
          go_roundg (l.length - (k + 1))
          case measure => omega
          case rel => exact ⟨k + 1, n + (a1 + a5), by omega, by omega, rfl, congrArg (Value.int .i64) (by omega), by simp, hqd, HZ⟩
        · have hle : decide ((n : Int) ≤ (4000 : Int)) = false := by simp; omega
          have HZ : Hid (res = false) := Lib.hid (by rw [HE.out, ltI_big _ _ h5])
          clear HE h5
          go_wp2_with fail
          go_ret
          exact ⟨by rw [HZ.out]; rfl, hbw⟩
      · have hlt' : decide ((k : Int) < (l.length : Int)) = false := by simp; omega
        obtain ⟨bb, HB⟩ : ∃ bb, Hid (decide (n ≤ 4000) = bb) := ⟨_, Lib.hid rfl⟩
        have hle : decide ((n : Int) ≤ (4000 : Int)) = bb := by rw [← HB.out]; apply decide_eq_decide.2; omega
        have HZ : Hid (res = bb) := Lib.hid (by rw [HE.out, List.drop_eq_nil_of_le (by omega), ltI, HB.out])
        clear HE HB
        go_wp2_with fail
        go_ret
        exact ⟨by rw [HZ.out]; first | rfl | (rw [← hle]), hbw⟩
end Go.Proofs.YtolknddegfcmpaaDoor
