/- Walks of the reference's word, Rank, number, text, Check and Print of cores. -/
import Derived.Test.YtdfpdmddiapnmaaDoorVmD
namespace Go.Proofs.YtdfpdmddiapnmaaDoor
open Go.RowKit
theorem rnumb_any (n : Int) (w : World) : Calls Tryd.prog 50 #[.int .i64 n] w fun e w' => e = .returned (.bool (numOk n)) ∧ w = w' := by
  have HN : Hid (numOk n = (decide (0 ≤ n) && decide (n ≤ 999999999))) := Lib.hid rfl
  by_cases h1 : 0 ≤ n
  · by_cases h2 : n ≤ 999999999
    · have HV : Hid (numOk n = true) := Lib.hid (by rw [HN.out]; simp [h1, h2])
      go_enter Tryd.func50, Tryd.ntmps50
      go_wp2
      go_ret
      exact ⟨by rw [HV.out]; rfl, rfl⟩
    · have HV : Hid (numOk n = false) := Lib.hid (by rw [HN.out]; simp [h2])
      go_enter Tryd.func50, Tryd.ntmps50
      go_wp2
      go_ret
      exact ⟨by rw [HV.out]; rfl, rfl⟩
  · have HV : Hid (numOk n = false) := Lib.hid (by rw [HN.out]; simp [h1])
    go_enter Tryd.func50, Tryd.ntmps50
    go_wp2
    go_ret
    exact ⟨by rw [HV.out]; rfl, rfl⟩
def wordV (k : Nat) : List UInt8 := presL.getD k []
theorem rword_any (k : Nat) (w : World) (hk : k < 4) : Calls Tryd.prog 45 #[.int .i64 (k : Int)] w fun e w' => e = .returned (.string (bs (wordV k))) ∧ Below w.heap.size w w' := by
  have HV : Hid (∀ i, i < 4 → (#[Value.string ⟨#[97, 108, 112, 104, 97]⟩, .string ⟨#[98, 101, 116, 97]⟩, .string ⟨#[112, 114, 101]⟩, .string ⟨#[114, 99]⟩] : Array Value)[i]? = some (.string (bs (wordV i)))) := Lib.hid (fun i hi => by
    obtain rfl | rfl | rfl | rfl : i = 0 ∨ i = 1 ∨ i = 2 ∨ i = 3 := by omega
    all_goals rfl)
  have hB := Blk.new w 9 #[.string ⟨#[97, 108, 112, 104, 97]⟩, .string ⟨#[98, 101, 116, 97]⟩, .string ⟨#[112, 114, 101]⟩, .string ⟨#[114, 99]⟩]
  have hc : (w.alloc (.cells #[.string ⟨#[97, 108, 112, 104, 97]⟩, .string ⟨#[98, 101, 116, 97]⟩, .string ⟨#[112, 114, 101]⟩, .string ⟨#[114, 99]⟩] 9)).cell? ⟨w.heap.size, k, none⟩ = some (.string (bs (wordV k))) := by
    rw [hB.cell]; exact HV.out k hk
  go_enter Tryd.func45, Tryd.ntmps45
  go_wp2_with fail
  go_ret
  exact ⟨rfl, (Below.refl _ _).alloc (Nat.le_refl _) _⟩
def rankV (p : List UInt8) : Int := if wordFrom p presL 0 < 0 then (if p = [] then 4 else -1) else wordFrom p presL 0
set_option maxRecDepth 20000 in
set_option maxHeartbeats 4000000 in
theorem rrank_any (p : List UInt8) (w : World) : Calls Tryd.prog 27 #[.string (bs p)] w fun e w' => e = .returned (.int .i64 (rankV p)) ∧ Below w.heap.size w w' := by
  have HR : Hid (rankV p = if wordFrom p presL 0 < 0 then (if p = [] then 4 else -1) else wordFrom p presL 0) := Lib.hid rfl
  go_enter Tryd.func27, Tryd.ntmps27
  go_wp2_with fail
  go_loopg [3] 4 (fun G s3 wx => ∃ k : Nat, k ≤ 4 ∧ G = 4 - k ∧ s3 = .int .i64 k ∧ Below w.heap.size w wx ∧ Hid (wordFrom p presL 0 = wordFrom p (presL.drop k) k))
  case atStart => exact ⟨0, by omega, rfl, rfl, Below.refl _ _, Lib.hid rfl⟩
  case round =>
    obtain ⟨k, hk, rfl, rfl, hb, HE⟩ := hrel
    by_cases hlt : k < 4
    · have hstep : wordFrom p (presL.drop k) k = if wordV k = p then (k : Int) else wordFrom p (presL.drop (k + 1)) (k + 1) := by
        obtain rfl | rfl | rfl | rfl : k = 0 ∨ k = 1 ∨ k = 2 ∨ k = 3 := by omega
        all_goals rfl
      have HS := Lib.hid (HE.out.trans hstep)
      clear hstep HE
      go_wp2_with fail
      refine (rword_any k _ hlt).mono ?_
      rintro e w1 ⟨rfl, hb1⟩
      have q1 := hb.trans (hb1.mono hb.size)
      by_cases hc : wordV k = p
      · have HV : Hid (wordFrom p presL 0 = (k : Int)) := Lib.hid (by rw [HS.out, if_pos hc])
        have e1 : ((bs (wordV k)).toList == (bs p).toList) = true := by rw [toList_bs, toList_bs]; simpa using hc
        clear hc HS
        go_wp2_with fail
        go_ret
        exact ⟨by rw [HR.out, HV.out, if_neg (by omega)]; rfl, q1⟩
      · have HV : Hid (wordFrom p presL 0 = wordFrom p (presL.drop (k + 1)) (k + 1)) := Lib.hid (by rw [HS.out, if_neg hc])
        have e1 : ((bs (wordV k)).toList == (bs p).toList) = false := by rw [toList_bs, toList_bs]; simpa using hc
        clear hc HS
        go_wp2_with fail
        go_roundg (4 - (k + 1))
        case measure => omega
        case rel => exact ⟨k + 1, by omega, rfl, by go_num, q1, HV⟩
    · obtain rfl : k = 4 := by omega
      have HV : Hid (wordFrom p presL 0 = -1) := Lib.hid (by rw [HE.out]; rfl)
      by_cases hp : p = []
      · have n1 : (bs p).toList = [] := by rw [toList_bs]; exact hp
        have n2 : (bs p).toList.isEmpty = true := by rw [n1]; rfl
        have HW : Hid (rankV p = 4) := Lib.hid (by rw [HR.out, HV.out, if_pos (by decide), if_pos hp])
        clear hp
        go_wp2_with fail
        go_ret
        exact ⟨by rw [HW.out]; rfl, hb⟩
      · have n1 : ¬ (bs p).toList = [] := by rw [toList_bs]; exact hp
        have n2 : (bs p).toList.isEmpty = false := by simpa using n1
        have HW : Hid (rankV p = -1) := Lib.hid (by rw [HR.out, HV.out, if_pos (by decide), if_neg hp])
        clear hp
        go_wp2_with fail
        go_ret
        exact ⟨by rw [HW.out]; rfl, hb⟩
theorem rank_neg (p : List UInt8) : decide (rankV p < 0) = !(decide (p = []) || presL.contains p) := by
  have h := rank_has p
  unfold preRank rankC at h
  unfold rankV
  cases hc : presL.contains p with
  | true =>
    rw [hc] at h
    by_cases hw : wordFrom p presL 0 < 0
    · rw [if_pos hw] at h; simp at h
    · rw [if_neg hw]; simp; omega
  | false =>
    rw [hc] at h
    by_cases hw : wordFrom p presL 0 < 0
    · rw [if_pos hw]
      by_cases hp : p = [] <;> simp [hp]
    · rw [if_neg hw] at h
      have : wordFrom p presL 0 < 4 := by
        have key : ∀ (L : List (List UInt8)) (k : Nat), wordFrom p L k < k + L.length := by
          intro L
          induction L with
          | nil => intro k; simp [wordFrom]; omega
          | cons x L ih =>
            intro k
            unfold wordFrom
            split
            · simp; omega
            · have := ih (k + 1); simp only [List.length_cons]; omega
        exact key presL 0
      simp at h
      omega
end Go.Proofs.YtdfpdmddiapnmaaDoor
