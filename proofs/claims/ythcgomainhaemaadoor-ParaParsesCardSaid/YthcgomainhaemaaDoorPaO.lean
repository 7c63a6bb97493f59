/- The document's Light of paragraphs. -/
import Derived.Test.YthcgomainhaemaaDoorPaM
namespace Go.Proofs.YthcgomainhaemaaDoor
open Go.RowKit
def fdL (n : Nat) (f : Fd) : Bool := decide (1000 < f.1.length) || decide (2000 < f.2.length) || decide (20000 < n + f.1.length + f.2.length)
/-- The bytes counted on behind a paragraph's fields. -/
def ltF : Nat → List Fd → Option Nat
  | n, [] => some n
  | n, f :: t => if fdL n f = true then none else ltF (n + f.1.length + f.2.length) t
def ltG : Nat → List (List Fd) → Bool
  | _, [] => true
  | n, p :: t => if 60 < p.length then false else (match ltF n p with
    | none => false
    | some m => ltG m t)
def lightP (l : List (List Fd)) : Bool := if 60 < l.length then false else ltG 0 l
theorem ltG_step (n : Nat) (l : List (List Fd)) (k : Nat) (h : k < l.length) : ltG n (l.drop k) = if 60 < (l[k]).length then false else (match ltF n l[k] with
    | none => false
    | some m => ltG m (l.drop (k + 1))) := by rw [List.drop_eq_getElem_cons h]; rfl
theorem ltF_step (n : Nat) (p : List Fd) (k : Nat) (h : k < p.length) : ltF n (p.drop k) = if fdL n p[k] = true then none else ltF (n + (p[k]).1.length + (p[k]).2.length) (p.drop (k + 1)) := by rw [List.drop_eq_getElem_cons h]; rfl
def mG (r : Option Nat) (t : List (List Fd)) : Bool := match r with
  | none => false
  | some m => ltG m t
set_option maxRecDepth 20000 in
set_option maxHeartbeats 8000000 in
theorem plight_any (l : List (List Fd)) (v : Value) (X : Nat → Prop) (w : World) (hsl : Sl 1 Rpara X w v l) :
    Calls Tryd.prog 8 #[v] w fun e w' => e = .returned (.bool (lightP l)) ∧ Below w.heap.size w w' := by
  obtain ⟨A, cap, rfl, hc1, hc2⟩ := hsl.form
  unfold maxLen at hc2
  have HT : Hid (lightP l = if 60 < l.length then false else ltG 0 l) := Lib.hid rfl
  generalize lightP l = res at HT
  by_cases h60 : 60 < l.length
  · have hd : decide ((60 : Int) < (l.length : Int)) = true := by simp; omega
    have HV : Hid (res = false) := Lib.hid (by rw [HT.out, if_pos h60])
    clear h60
    go_enter Tryd.func8, Tryd.ntmps8
    go_wp2_with fail
    go_ret
    exact ⟨by rw [HV.out]; rfl, Below.refl _ _⟩
  · have hd : decide ((60 : Int) < (l.length : Int)) = false := by simp; omega
    have HV : Hid (res = ltG 0 (l.drop 0)) := Lib.hid (by rw [HT.out, if_neg h60]; rfl)
    have hl60 : l.length ≤ 60 := by omega
    clear h60 HT
    go_enter Tryd.func8, Tryd.ntmps8
    go_wp2_with fail
    go_loopg [3, 4] l.length (fun G s3 s4 wr => ∃ k n : Nat, k ≤ l.length ∧ n ≤ 20000 ∧ G = l.length - k ∧ s3 = .int .i64 n ∧ s4 = .int .i64 k ∧ Below w.heap.size w wr ∧ Hid (res = ltG n (l.drop k)))
    case atStart => exact ⟨0, 0, Nat.zero_le _, Nat.zero_le _, rfl, rfl, rfl, Below.refl _ _, HV⟩
    case round =>
      clear HV hd
      obtain ⟨k, n, hk, hn, rfl, rfl, rfl, hbw, HE⟩ := hrel
      by_cases hlt : k < l.length
      · obtain ⟨b, off, rfl, _, hc⟩ := (hsl.keep good_para (Kept.of_below hbw X)).para (by omega)
        obtain ⟨vg, ck, hg⟩ := hc k hlt
        have HST := Lib.hid (HE.out.trans (ltG_step n l k hlt))
        clear hc HE
        generalize l[k] = gr at hg HST
        obtain ⟨A2, cap2, rfl, hd1, hd2⟩ := hg.form
        unfold maxLen at hd2
        have i1 : (0 : Int) ≤ (k : Int) := by omega
        have i2 : (k : Int) < (l.length : Int) := by omega
        by_cases h60 : 60 < gr.length
        · have hd : decide ((60 : Int) < (gr.length : Int)) = true := by simp; omega
          have HV : Hid (res = false) := Lib.hid (by rw [HST.out, if_pos h60])
          clear h60
          go_wp2_with fail
          go_ret
          exact ⟨by rw [HV.out]; rfl, hbw⟩
        · have hd : decide ((60 : Int) < (gr.length : Int)) = false := by simp; omega
          have HV : Hid (res = mG (ltF n (gr.drop 0)) (l.drop (k + 1))) := Lib.hid (by rw [HST.out, if_neg h60]; rfl)
          have hg60 : gr.length ≤ 60 := by omega
          clear h60 HST
          go_wp2_with fail
          go_loopg [3, 5] gr.length (fun G s3 s5 wx => ∃ j n : Nat, j ≤ gr.length ∧ n ≤ 20000 ∧ G = gr.length - j ∧ s3 = .int .i64 n ∧ s5 = .int .i64 j ∧ Below wr.heap.size wr wx ∧ Hid (res = mG (ltF n (gr.drop j)) (l.drop (k + 1))))
          case atStart => exact ⟨0, n, Nat.zero_le _, hn, rfl, rfl, rfl, Below.refl _ _, HV⟩
          case round =>
            clear HV hd hn
            obtain ⟨j, n, hj, hn, rfl, rfl, rfl, hbx, HE⟩ := hrel
            have z0 := (hbx.cell (p := ⟨b, off + k, none⟩) (World.block_lt_of_cell? _ _ ck)).trans ck
            have hqx := hbw.trans (hbx.mono hbw.size)
            by_cases hjl : j < gr.length
            · obtain ⟨b2, off2, rfl, _, hc⟩ := (hg.keep good_field (Kept.of_below hbx X)).field (by omega)
              obtain ⟨c0, c1⟩ := hc j hjl
              have HST := Lib.hid (HE.out.trans (congrArg (fun r => mG r (l.drop (k + 1))) (ltF_step n gr j hjl)))
              clear hc HE
              generalize gr[j] = f at c0 c1 HST
              obtain ⟨fn, fv⟩ := f
              simp only at c0 c1
              have j1 : (0 : Int) ≤ (j : Int) := by omega
              have j2 : (j : Int) < (gr.length : Int) := by omega
              have z1 : ((bs fn).size : Int) = (fn.length : Int) := by rw [bs_size]
              have z2 : ((bs fv).size : Int) = (fv.length : Int) := by rw [bs_size]
              have HL : Hid (fdL n (fn, fv) = (decide (1000 < fn.length) || decide (2000 < fv.length) || decide (20000 < n + fn.length + fv.length))) := Lib.hid rfl
              by_cases n1 : 1000 < fn.length
              · have d1 : decide ((1000 : Int) < (fn.length : Int)) = true := by simp; omega
                have HZ : Hid (res = false) := Lib.hid (by rw [HST.out, HL.out, decide_eq_true n1]; rfl)
                clear n1
                go_wp2_with fail
                go_ret
                exact ⟨by rw [HZ.out]; rfl, hqx⟩
              · have d1 : decide ((1000 : Int) < (fn.length : Int)) = false := by simp; omega
                by_cases n2 : 2000 < fv.length
                · have d2 : decide ((2000 : Int) < (fv.length : Int)) = true := by simp; omega
                  have HZ : Hid (res = false) := Lib.hid (by rw [HST.out, HL.out, decide_eq_true n2, decide_eq_false n1]; rfl)
                  clear n1 n2
                  go_wp2_with fail
                  go_ret
                  exact ⟨by rw [HZ.out]; rfl, hqx⟩
                · have d2 : decide ((2000 : Int) < (fv.length : Int)) = false := by simp; omega
                  have hw1 : IntKind.i64.wrap ((n : Int) + fn.length) = (n : Int) + fn.length := i64_in _ (by omega) (by omega)
                  have hw2 : IntKind.i64.wrap ((n : Int) + fn.length + fv.length) = ((n + fn.length + fv.length : Nat) : Int) := by rw [i64_in _ (by omega) (by omega)]; omega
                  go_upto_region 14 with fail
                  clear d1 d2
                  refine wp_region_plan (fun W => W.cell? ⟨b, off + k, none⟩ = some (.slice (some ⟨b2, off2, none⟩) gr.length cap2) ∧ W.cell? ⟨b2, off2 + j * 2, none⟩ = some (.string (bs fn)) ∧ W.cell? ⟨b2, off2 + j * 2 + 1, none⟩ = some (.string (bs fv))) [(false, 0), (false, 1), (false, 2), (false, 3), (false, 4), (false, 5), (false, 6), (false, 7), (false, 8), (false, 9), (false, 10), (false, 11), (false, 12), (false, 13), (false, 14), (false, 15), (false, 16), (false, 17), (false, 18), (false, 19), (false, 20), (false, 21)] (by kernel_rfl) (by kernel_rfl) (⟨by simpa using z0, by simpa using c0, by simpa using c1⟩) ?_
                  simp only [planOps, List.map, List.getD_cons_zero, List.getD_cons_succ]
                  iterate 22 ((first | refine plan_quiet (v := ?_) rfl rfl (fun w' hw' => ?_) ?_ | refine plan_calm (v := ?_) (tt_of) rfl (fun w' hw' => ?_) ?_); rotate_left; (focus (go_simp <;> with_reducible rfl)); simp only [Act.put, List.setIfInBounds_toArray, List.set_cons_zero, List.set_cons_succ])
                  refine plan_end ?_
                  have hqd := hqx.drew
                  have hbd := hbx.drew
                  have hs : ∃ m : Nat, n + fn.length + fv.length = m := ⟨_, rfl⟩
                  obtain ⟨m, hm⟩ := hs
                  have hmi : (n : Int) + fn.length + fv.length = (m : Int) := by omega
                  rw [hmi]
                  have HS2 : Hid (res = mG (if fdL n (fn, fv) = true then none else ltF m (gr.drop (j + 1))) (l.drop (k + 1))) := Lib.hid (by rw [HST.out, ← hm])
                  have HL2 : Hid (fdL n (fn, fv) = decide (20000 < m)) := Lib.hid (by rw [HL.out, decide_eq_false n1, decide_eq_false n2, hm]; rfl)
                  clear HST HL hw1 hw2 n1 n2 hm hmi
                  by_cases n3 : 20000 < m
                  · have d3 : decide ((20000 : Int) < (m : Int)) = true := by simp; omega
                    have HZ : Hid (res = false) := Lib.hid (by rw [HS2.out, HL2.out, decide_eq_true n3]; rfl)
                    clear n3
                    go_wp2_with fail
                    go_ret
                    exact ⟨by rw [HZ.out]; rfl, hqd⟩
                  · have d3 : decide ((20000 : Int) < (m : Int)) = false := by simp; omega
                    have HZ : Hid (res = mG (ltF m (gr.drop (j + 1))) (l.drop (k + 1))) := Lib.hid (by rw [HS2.out, HL2.out, decide_eq_false n3]; rfl)
                    have hm2 : m ≤ 20000 := by omega
                    clear n3
                    go_wp2_with fail
                    go_roundg (gr.length - (j + 1))
                    case measure => omega
                    case rel => exact ⟨j + 1, m, by omega, hm2, rfl, rfl, by simp, hbd, HZ⟩
            · have HZ : Hid (res = ltG n (l.drop (k + 1))) := Lib.hid (by rw [HE.out, List.drop_eq_nil_of_le (by omega)]; rfl)
              clear HE
              go_wp2_with fail
              go_roundg (l.length - (k + 1))
              case measure => omega
              case rel => exact ⟨k + 1, n, by omega, hn, rfl, rfl, by simp, hqx, HZ⟩
      · have HZ : Hid (res = true) := Lib.hid (by rw [HE.out, List.drop_eq_nil_of_le (by omega)]; rfl)
        clear HE
        go_wp2_with fail
        go_ret
        exact ⟨by rw [HZ.out]; rfl, hbw⟩
end Go.Proofs.YthcgomainhaemaaDoor
