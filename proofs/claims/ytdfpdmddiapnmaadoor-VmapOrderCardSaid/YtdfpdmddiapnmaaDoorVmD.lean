/- Walks of vmap's preRank and Check. -/
import Derived.Test.YtdfpdmddiapnmaaDoorVmC
namespace Go.Proofs.YtdfpdmddiapnmaaDoor
open Go.RowKit
set_option maxRecDepth 20000 in
set_option maxHeartbeats 4000000 in
theorem preRank_any (l : List UInt8) (w : World) (hw : Pres w) :
    Calls Tryd.prog 24 #[.string (bs l)] w fun e w' => e = .returned (.int .i64 (preRank l)) ∧ w = w' := by
  obtain ⟨W, HW⟩ : ∃ W : Nat → ByteArray, Hid (∀ i, W i = bs (presL.getD i [])) := ⟨_, Lib.hid fun _ => rfl⟩
  have hW : ∀ i, i < 4 → w.cell? ⟨0, i, none⟩ = some (.string (W i)) := fun i hi => by rw [HW.out]; exact hw i hi
  have h0 := hW 0 (by omega)
  have h1 := hW 1 (by omega)
  have h2 := hW 2 (by omega)
  have h3 := hW 3 (by omega)
  have HP : Hid (preRank l = if wordFrom l presL 0 < 0 then 4 else wordFrom l presL 0) := Lib.hid rfl
  clear hw hW
  go_enter Tryd.func24, Tryd.ntmps24
  go_wp2
  clear h0 h1 h2 h3
  go_loop [6] (fun i => ∃ k : Nat, k ≤ 4 ∧ i = .int .i64 k ∧ Hid (wordFrom l presL 0 = wordFrom l (presL.drop k) k)) (fun i => 4 - (intOf i).toNat)
  case atStart => exact ⟨0, Nat.zero_le _, rfl, Lib.hid rfl⟩
  case round =>
    obtain ⟨k, hk, rfl, HE⟩ := hrel
    by_cases hlt : k < 4
    · have hix : (Instr.index 54 (.agg #[.string (W 0), .string (W 1), .string (W 2), .string (W 3)]) (.int .i64 (k : Int))).run Tryd.prog w = .ok (.string (W k)) w := by
        obtain rfl | rfl | rfl | rfl : k = 0 ∨ k = 1 ∨ k = 2 ∨ k = 3 := by omega
        all_goals simp [Instr.index, run_underlying Tryd.underlying54, asIntOf, part, go_sem]
      have key : (W k).toList = presL.getD k [] := by rw [HW.out, toList_bs]
      have hstep : wordFrom l (presL.drop k) k = if presL.getD k [] = l then (k : Int) else wordFrom l (presL.drop (k + 1)) (k + 1) := by
        obtain rfl | rfl | rfl | rfl : k = 0 ∨ k = 1 ∨ k = 2 ∨ k = 3 := by omega
        all_goals rfl
      by_cases hc : presL.getD k [] = l
      · rw [if_pos hc] at hstep
        have HS := Lib.hid hstep
        have hb : (W k).toList = (bs l).toList := by rw [toList_bs]; exact key.trans hc
        clear hstep hc key
        go_wp2
        go_ret
        exact ⟨by rw [HP.out, HE.out, HS.out, if_neg (by omega)]; rfl, rfl⟩
      · rw [if_neg hc] at hstep
        have HS := Lib.hid hstep
        have hb : ((W k).toList == (bs l).toList) = false := by rw [toList_bs, key]; simpa using hc
        clear hstep hc key
        go_wp2
        go_round
        case rel => exact ⟨k + 1, by omega, by go_num, Lib.hid (HE.out.trans HS.out)⟩
        case measure => simp [intOf]; omega
    · obtain rfl : k = 4 := by omega
      go_wp2
      go_ret
      exact ⟨by rw [HP.out, HE.out]; rfl, rfl⟩
theorem rank_has (l : List UInt8) : (preRank l == 4) = !presL.contains l := by
  have key : ∀ (L : List (List UInt8)) (k : Nat), (L.contains l = false → wordFrom l L k = -1) ∧ (L.contains l = true → (k : Int) ≤ wordFrom l L k ∧ wordFrom l L k < k + L.length) := by
    intro L
    induction L with
    | nil => intro k; exact ⟨fun _ => rfl, fun h => by simp at h⟩
    | cons x L ih =>
      intro k
      by_cases hx : x = l
      · subst hx
        exact ⟨fun h => by simp at h, fun _ => by simp [wordFrom]; omega⟩
      · have hc : (x :: L).contains l = L.contains l := by simp [List.contains_cons, Ne.symm hx]
        rw [hc, wordFrom, if_neg hx]
        have := ih (k + 1)
        refine ⟨this.1, fun h => ?_⟩
        have := this.2 h
        simp only [List.length_cons]
        omega
  have h := key presL 0
  unfold preRank rankC
  cases hc : presL.contains l with
  | false => rw [h.1 hc]; rfl
  | true =>
    have h2 := h.2 hc
    rw [if_neg (by omega)]
    have : presL.length = 4 := rfl
    simp
    omega
def nBs (c : Co) : Bool := ([c.epoch, c.preNum, c.rev] ++ c.nums).all numOk
theorem coOk_eq (c : Co) : coOk c = (!c.nums.isEmpty && (nBs c && (letOk c.letter && (preOk c && decide ((textC 1 c).length ≤ 64))))) := by
  simp only [coOk, nBs, List.cons_append, List.nil_append, List.all_cons]
  cases c.nums.isEmpty <;> cases numOk c.epoch <;> cases numOk c.preNum <;> cases numOk c.rev <;> cases c.nums.all numOk <;> cases letOk c.letter <;> cases preOk c <;> simp
/-- A core whose texts and numbers' count are not too large to be looked at. -/
structure CoZ (c : Co) : Prop where
  count : c.nums.length ≤ 300
  lt : c.letter.length ≤ 100
  pr : c.pre.length ≤ 100
theorem coS_of (c : Co) (h : CoZ c) (hn : nBs c = true) : CoS c := by
  simp only [nBs, List.cons_append, List.nil_append, List.all_cons, Bool.and_eq_true, numOk, decide_eq_true_eq, List.all_eq_true] at hn
  obtain ⟨h1, h2, h3, h4⟩ := hn
  exact ⟨fun n hm => by have := (h4 n hm).2; omega, by omega, by omega, by omega, h.count, h.lt, h.pr⟩
theorem sl_lit (g : Nat) (l : List Int) (w : World) (h : Blk w g 3 (ivs l).toArray) (hl : l.length ≤ 1000) : Sl 1 Rint nowhere w (.slice (some ⟨g, 0, none⟩) l.length l.length) l := by
  refine ⟨_, _, rfl, Nat.le_refl _, by unfold maxLen; omega, (fun h => by cases h), fun _ => ⟨g, 0, rfl, (fun h => h), fun j hj => ⟨[.int .i64 l[j]], fun i u hu => ?_, rfl⟩⟩, fun b off hA i _ => ?_⟩
  · obtain rfl : i = 0 := by have := (List.getElem?_eq_some_iff.1 hu).1; simp at this; exact this
    rw [h.cell]
    simp at hu ⊢
    rw [← hu]
    simp [ivs, hj]
  · injection hA with hA
    injection hA with e1 e2
    subst e1 e2
    exact h.frozen _
theorem Sl.any {α : Type} {sz : Nat} {R : Rel α} {X : Nat → Prop} {w : World} {v : Value} {l : List α} (G : Good sz R) (hsz : 0 < sz) (h : Sl sz R X w v l) : Sl sz R nowhere w v l := h.mono G hsz fun _ _ h => h.elim
end Go.Proofs.YtdfpdmddiapnmaaDoor
