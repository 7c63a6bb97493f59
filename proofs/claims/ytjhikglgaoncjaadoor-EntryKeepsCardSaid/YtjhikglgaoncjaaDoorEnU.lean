/- The document's Light of entries. -/
import Derived.Test.YtjhikglgaoncjaaDoorEnL
namespace Go.Proofs.YtjhikglgaoncjaaDoor
open Go.RowKit
def mn (n : Nat) : Nat := if 5001 < n then 5001 else n
theorem mn_int (n : Nat) : min (n : Int) (IntKind.i64.wrap 5001) = (mn n : Int) := by
  rw [i64_in 5001 (by omega) (by omega)]
  unfold mn; split <;> omega
theorem mn_le (n : Nat) : mn n ≤ 5001 := by unfold mn; split <;> omega
theorem mn_of (n : Nat) (h : mn n ≤ 5000) : mn n = n := by unfold mn at *; split at h <;> simp_all <;> omega
def wE (e : En) : Nat := mn e.path.length + mn e.link.length + mn e.owner.length + mn e.group.length + mn e.data.length
def ltE : Nat → List En → Bool
  | n, [] => decide (n ≤ 5000)
  | n, e :: t => if n ≤ 5000 then ltE (n + wE e) t else false
/-- Are entries few, and their texts and data short, in all? -/
def lightE (c : Nat) (l : List En) : Bool := if c < l.length then false else ltE 0 l
theorem ltE_step (n : Nat) (l : List En) (k : Nat) (h : k < l.length) : ltE n (l.drop k) = if n ≤ 5000 then ltE (n + wE l[k]) (l.drop (k + 1)) else false := by rw [List.drop_eq_getElem_cons h]; rfl
theorem ltE_big (n : Nat) (l : List En) (h : ¬ n ≤ 5000) : ltE n l = false := by
  cases l with
  | nil => simpa [ltE] using h
  | cons e t => rw [ltE, if_neg h]
theorem ltE_w : ∀ (l : List En) (n : Nat), ltE n l = true → ∀ e ∈ l, e.path.length ≤ 5000 ∧ e.link.length ≤ 5000 ∧ e.owner.length ≤ 5000 ∧ e.group.length ≤ 5000 ∧ e.data.length ≤ 5000
  | [], n, _, e, he => by cases he
  | x :: t, n, h, e, he => by
    rw [ltE] at h
    split at h
    · rcases List.mem_cons.1 he with rfl | he
      · have h2 : n + wE e ≤ 5000 := by
          by_cases h3 : n + wE e ≤ 5000
          · exact h3
          · rw [ltE_big _ _ h3] at h; cases h
        unfold wE at h2
        have h1 := mn_of e.path.length (by omega)
        have h3 := mn_of e.link.length (by omega)
        have h4 := mn_of e.owner.length (by omega)
        have h5 := mn_of e.group.length (by omega)
        have h6 := mn_of e.data.length (by omega)
        omega
      · exact ltE_w t _ h e he
    · cases h
theorem light_eb (c : Nat) (l : List En) (h : lightE c l = true) : l.length ≤ c ∧ ∀ e ∈ l, e.path.length ≤ 5000 ∧ e.link.length ≤ 5000 ∧ e.owner.length ≤ 5000 ∧ e.group.length ≤ 5000 ∧ e.data.length ≤ 5000 := by
  rw [lightE] at h
  split at h
  · cases h
  · exact ⟨by omega, ltE_w l 0 h⟩
theorem light_lb (c : Nat) (hc : c ≤ 1000000) (l : List En) (h : lightE c l = true) : LB l := by
  obtain ⟨h1, h2⟩ := light_eb c l h
  exact ⟨by omega, fun e he => by obtain ⟨a, b, c, d, _⟩ := h2 e he; exact ⟨by omega, by omega, by omega, by omega⟩⟩
set_option maxRecDepth 20000 in
set_option maxHeartbeats 8000000 in
theorem rlight_any (l : List En) (c : Nat) (v : Value) (X : Nat → Prop) (w : World) (hsl : Sl 10 Rent X w v l) (hc : c ≤ 1000000) :
    Calls Tryd.prog 10 #[v, .int .i64 c, .int .i64 5000] w fun e w' => e = .returned (.bool (lightE c l)) ∧ Below w.heap.size w w' := by
  obtain ⟨A, cap, rfl, hc1, hc2⟩ := hsl.form
  unfold maxLen at hc2
  have HT : Hid (lightE c l = if c < l.length then false else ltE 0 l) := Lib.hid rfl
  generalize lightE c l = res at HT
  by_cases h60 : c < l.length
  · have hd : decide ((c : Int) < (l.length : Int)) = true := by simp; omega
    have hd' : decide (c < l.length) = true := by simpa using h60
    have HV : Hid (res = false) := Lib.hid (by rw [HT.out, if_pos h60])
    clear h60
    go_enter Tryd.func10, Tryd.ntmps10
    go_wp2_with fail
    go_ret
    exact ⟨by rw [HV.out]; rfl, Below.refl _ _⟩
  · have hd : decide ((c : Int) < (l.length : Int)) = false := by simp; omega
    have hd' : decide (c < l.length) = false := by simpa using h60
    have HV : Hid (res = ltE 0 (l.drop 0)) := Lib.hid (by rw [HT.out, if_neg h60]; rfl)
    clear h60 HT
    go_enter Tryd.func10, Tryd.ntmps10
    go_wp2_with fail
    go_loopg [7, 8] l.length (fun G s7 s8 wr => ∃ k n : Nat, k ≤ l.length ∧ n ≤ 30010 ∧ G = l.length - k ∧ s7 = .int .i64 n ∧ s8 = .int .i64 k ∧ Below w.heap.size w wr ∧ Hid (res = ltE n (l.drop k)))
    case atStart => exact ⟨0, 0, Nat.zero_le _, Nat.zero_le _, rfl, rfl, rfl, Below.refl _ _, HV⟩
    case round =>
      clear HV hd hd'
      obtain ⟨k, n, hk, hn, rfl, rfl, rfl, hbw, HE⟩ := hrel
      by_cases hlt : k < l.length
      · have hlt' : decide ((k : Int) < (l.length : Int)) = true := by simp; omega
        by_cases h5 : n ≤ 5000
        · have hle : decide ((n : Int) ≤ (5000 : Int)) = true := by simp; omega
          obtain ⟨b, off, rfl, _, hcj⟩ := (hsl.keep good_ent (Kept.of_below hbw X)).ent (by omega)
          obtain ⟨dv, hat, hdv⟩ := hcj k hlt
          obtain ⟨Ad, capd, rfl, _, _⟩ := hdv.form
          have HST := Lib.hid (HE.out.trans ((ltE_step n l k hlt).trans (if_pos h5)))
          clear hcj HE hdv
          generalize l[k] = e at hat HST
          obtain ⟨path, kind, mode, uid, gid, owner, group, mtime, link, data⟩ := e
          obtain ⟨c0, _, _, _, _, c5, c6, _, c8, c9⟩ := hat
          simp only at c0 c5 c6 c8 c9
          have HW : Hid (wE ⟨path, kind, mode, uid, gid, owner, group, mtime, link, data⟩ = mn path.length + mn link.length + mn owner.length + mn group.length + mn data.length) := Lib.hid rfl
          have i1 : (0 : Int) ≤ (k : Int) := by omega
          have i2 : (k : Int) < (l.length : Int) := by omega
          have z1 : ((bs path).size : Int) = (path.length : Int) := by rw [bs_size]
          have z2 : ((bs link).size : Int) = (link.length : Int) := by rw [bs_size]
          have z3 : ((bs owner).size : Int) = (owner.length : Int) := by rw [bs_size]
          have z4 : ((bs group).size : Int) = (group.length : Int) := by rw [bs_size]
          have y1 := mn_int path.length
          have y2 := mn_int link.length
          have y3 := mn_int owner.length
          have y4 := mn_int group.length
          have y5 := mn_int data.length
          have x1 := mn_le path.length
          have x2 := mn_le link.length
          have x3 := mn_le owner.length
          have x4 := mn_le group.length
          have x5 := mn_le data.length
          generalize mn path.length = a1 at *
          generalize mn link.length = a2 at *
          generalize mn owner.length = a3 at *
          generalize mn group.length = a4 at *
          generalize mn data.length = a5 at *
          have w1 : IntKind.i64.wrap ((n : Int) + a1) = (n : Int) + a1 := i64_in _ (by omega) (by omega)
          have w2 : IntKind.i64.wrap ((n : Int) + a1 + a2) = (n : Int) + a1 + a2 := i64_in _ (by omega) (by omega)
          have w3 : IntKind.i64.wrap ((n : Int) + a1 + a2 + a3) = (n : Int) + a1 + a2 + a3 := i64_in _ (by omega) (by omega)
          have w4 : IntKind.i64.wrap ((n : Int) + a1 + a2 + a3 + a4) = (n : Int) + a1 + a2 + a3 + a4 := i64_in _ (by omega) (by omega)
          have w5 : IntKind.i64.wrap ((n : Int) + a1 + a2 + a3 + a4 + a5) = ((n + (a1 + a2 + a3 + a4 + a5) : Nat) : Int) := by rw [i64_in _ (by omega) (by omega)]; omega
          go_upto_region 7 with fail
          refine wp_region_plan (fun W => W.cell? ⟨b, off + k * 10, none⟩ = some (.string (bs path)) ∧ W.cell? ⟨b, off + k * 10 + 8, none⟩ = some (.string (bs link)) ∧ W.cell? ⟨b, off + k * 10 + 5, none⟩ = some (.string (bs owner)) ∧ W.cell? ⟨b, off + k * 10 + 6, none⟩ = some (.string (bs group)) ∧ W.cell? ⟨b, off + k * 10 + 9, none⟩ = some (.slice Ad data.length capd)) [(false, 0), (false, 1), (false, 2), (false, 3), (false, 4), (false, 5), (false, 6), (false, 7), (false, 8), (false, 9), (false, 10), (false, 11), (false, 12), (false, 13), (false, 14), (false, 15), (false, 16), (false, 17), (false, 18), (false, 19), (false, 20), (false, 21), (false, 22), (false, 23), (false, 24), (false, 25), (false, 26), (false, 27), (false, 28), (false, 29), (false, 30), (false, 31), (false, 32), (false, 33), (false, 34), (false, 35), (false, 36), (false, 37), (false, 38), (false, 39), (false, 40), (false, 41), (false, 42), (false, 43), (false, 44), (false, 45), (false, 46), (false, 47), (false, 48), (false, 49), (false, 50), (false, 51)] (by kernel_rfl) (by kernel_rfl) (⟨by simpa using c0, by simpa using c8, by simpa using c5, by simpa using c6, by simpa using c9⟩) ?_
          simp only [planOps, List.map, List.getD_cons_zero, List.getD_cons_succ]
          iterate 52 ((first | refine plan_quiet (v := ?_) rfl rfl (fun w' hw' => ?_) ?_ | refine plan_calm (v := ?_) (tt_of) rfl (fun w' hw' => ?_) ?_); rotate_left; (focus (go_simp <;> (first | with_reducible rfl | (rw [if_neg (by simp [undef])]; try rfl)))); simp only [Act.put, List.setIfInBounds_toArray, List.set_cons_zero, List.set_cons_succ])
          refine plan_end ?_
          have hqd := hbw.drew
          have HZ := Lib.hid (HST.out.trans (by rw [HW.out]))
          clear HST HW c0 c5 c6 c8 c9 z1 z2 z3 z4
          go_wp2_with fail
          go_roundg (l.length - (k + 1))
          case measure => omega
          case rel => exact ⟨k + 1, n + (a1 + a2 + a3 + a4 + a5), by omega, by omega, rfl, congrArg (Value.int .i64) (by omega), by simp, hqd, HZ⟩
        · have hle : decide ((n : Int) ≤ (5000 : Int)) = false := by simp; omega
          have HZ : Hid (res = false) := Lib.hid (by rw [HE.out, ltE_big _ _ h5])
          clear HE h5
          go_wp2_with fail
          go_ret
          exact ⟨by rw [HZ.out]; rfl, hbw⟩
      · have hlt' : decide ((k : Int) < (l.length : Int)) = false := by simp; omega
        obtain ⟨bb, HB⟩ : ∃ bb, Hid (decide (n ≤ 5000) = bb) := ⟨_, Lib.hid rfl⟩
        have hle : decide ((n : Int) ≤ (5000 : Int)) = bb := by rw [← HB.out]; apply decide_eq_decide.2; omega
        have HZ : Hid (res = bb) := Lib.hid (by rw [HE.out, List.drop_eq_nil_of_le (by omega), ltE, HB.out])
        clear HE HB
        go_wp2_with fail
        go_ret
        exact ⟨by rw [HZ.out]; first | rfl | (rw [← hle]), hbw⟩
end Go.Proofs.YtjhikglgaoncjaaDoor
