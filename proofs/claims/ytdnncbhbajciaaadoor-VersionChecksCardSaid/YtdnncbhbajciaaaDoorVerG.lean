/- The walk of version.wordAt. -/
import Derived.Test.YtdnncbhbajciaaaDoorVerF
namespace Go.Proofs.YtdnncbhbajciaaaDoor
open Go.RowKit
def wordsL : List (List UInt8) := [[97, 108, 112, 104, 97], [98, 101, 116, 97], [112, 114, 101], [114, 99], [99, 118, 115], [115, 118, 110], [103, 105, 116], [104, 103], [112]]
/-- The table of words, as its initialiser lays it. -/
def Words (w : World) : Prop := ∀ i, i < 9 → w.cell? ⟨2, i, none⟩ = some (.string (bs (wordsL.getD i [])))
theorem Words.below {w w' : World} (h : Words w) (hb : Below w.heap.size w w') : Words w' := fun i hi => by
  have := h i hi
  rw [hb.cell (p := ⟨2, i, none⟩) (lt_of_cell this)]
  exact this
def wordFrom (l : List UInt8) : List (List UInt8) → Nat → Int
  | [], _ => -1
  | x :: r, k => if x = l then k else wordFrom l r (k + 1)
def wordI (l : List UInt8) : Int := wordFrom l wordsL 0
theorem toList_bs (l : List UInt8) : (bs l).toList = l := by simp [bs]
set_option maxRecDepth 20000 in
set_option maxHeartbeats 4000000 in
theorem wordAt_any (l : List UInt8) (w : World) (hw : Words w) :
    Calls Tryd.prog 72 #[.string (bs l)] w fun e w' => e = .returned (.int .i64 (wordI l)) ∧ w = w' := by
  obtain ⟨W, HW⟩ : ∃ W : Nat → ByteArray, Hid (∀ i, W i = bs (wordsL.getD i [])) := ⟨_, Lib.hid fun _ => rfl⟩
  have hW : ∀ i, i < 9 → w.cell? ⟨2, i, none⟩ = some (.string (W i)) := fun i hi => by rw [HW.out]; exact hw i hi
  have h0 := hW 0 (by omega)
  have h1 := hW 1 (by omega)
  have h2 := hW 2 (by omega)
  have h3 := hW 3 (by omega)
  have h4 := hW 4 (by omega)
  have h5 := hW 5 (by omega)
  have h6 := hW 6 (by omega)
  have h7 := hW 7 (by omega)
  have h8 := hW 8 (by omega)
  clear hw hW
  go_enter Tryd.func72, Tryd.ntmps72
  go_wp2
  clear h0 h1 h2 h3 h4 h5 h6 h7 h8
  go_loop [6] (fun i => ∃ k : Nat, k ≤ 9 ∧ i = .int .i64 k ∧ Hid (wordI l = wordFrom l (wordsL.drop k) k)) (fun i => 9 - (intOf i).toNat)
  case atStart => exact ⟨0, Nat.zero_le _, rfl, Lib.hid rfl⟩
  case round =>
    obtain ⟨k, hk, rfl, HE⟩ := hrel
    by_cases hlt : k < 9
    · have hix : (Instr.index 136 (.agg #[.string (W 0), .string (W 1), .string (W 2), .string (W 3), .string (W 4), .string (W 5), .string (W 6), .string (W 7), .string (W 8)]) (.int .i64 (k : Int))).run Tryd.prog w = .ok (.string (W k)) w := by
        obtain rfl | rfl | rfl | rfl | rfl | rfl | rfl | rfl | rfl : k = 0 ∨ k = 1 ∨ k = 2 ∨ k = 3 ∨ k = 4 ∨ k = 5 ∨ k = 6 ∨ k = 7 ∨ k = 8 := by omega
        all_goals simp [Instr.index, run_underlying Tryd.underlying136, asIntOf, part, go_sem]
      have key : (W k).toList = wordsL.getD k [] := by rw [HW.out, toList_bs]
      have hstep : wordFrom l (wordsL.drop k) k = if wordsL.getD k [] = l then (k : Int) else wordFrom l (wordsL.drop (k + 1)) (k + 1) := by
        obtain rfl | rfl | rfl | rfl | rfl | rfl | rfl | rfl | rfl : k = 0 ∨ k = 1 ∨ k = 2 ∨ k = 3 ∨ k = 4 ∨ k = 5 ∨ k = 6 ∨ k = 7 ∨ k = 8 := by omega
        all_goals rfl
      by_cases hc : wordsL.getD k [] = l
      · rw [if_pos hc] at hstep
        have HS := Lib.hid hstep
        have hb : (W k).toList = (bs l).toList := by rw [toList_bs]; exact key.trans hc
        clear hstep hc key
        go_wp2
        go_ret
        exact ⟨by rw [HE.out, HS.out]; rfl, rfl⟩
      · rw [if_neg hc] at hstep
        have HS := Lib.hid hstep
        have hb : ((W k).toList == (bs l).toList) = false := by rw [toList_bs, key]; simpa using hc
        clear hstep hc key
        go_wp2
        go_round
        case rel => exact ⟨k + 1, by omega, by go_num, Lib.hid (HE.out.trans HS.out)⟩
        case measure => simp [intOf]; omega
    · obtain rfl : k = 9 := by omega
      go_wp2
      go_ret
      exact ⟨by rw [HE.out]; rfl, rfl⟩
end Go.Proofs.YtdnncbhbajciaaaDoor
