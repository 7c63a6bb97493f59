/- Walks of vmap's small functions, and of a core's text. -/
import Derived.Test.YtdfpdmddiapnmaaDoorVmA
import Derived.Test.YtdfpdmddiapnmaaDoorPlan
import Derived.Deep.CutBlock
import Derived.Deep.DeepCutAuto
namespace Go.Proofs.YtdfpdmddiapnmaaDoor
open Go.RowKit
/-- The table of words of versions to come, as its initialiser lays it. -/
def Pres (w : World) : Prop := ∀ i, i < 4 → w.cell? ⟨0, i, none⟩ = some (.string (bs (presL.getD i [])))
theorem Pres.below {w w' : World} (h : Pres w) (hb : Below w.heap.size w w') : Pres w' := fun i hi => by
  have := h i hi
  rw [hb.cell (p := ⟨0, i, none⟩) (lt_of_cell this)]
  exact this
theorem vsmall_any (c : UInt8) (w : World) : Calls Tryd.prog 33 #[.int .u8 (c.toNat : Int)] w fun e w' => e = .returned (.bool (isSmall c)) ∧ w = w' := by
  cases h1 : decide (97 ≤ (c.toNat : Int)) <;> cases h2 : decide ((c.toNat : Int) ≤ 122)
  all_goals
    go_enter Tryd.func33, Tryd.ntmps33
    go_wp2
    go_ret
    refine ⟨?_, rfl⟩
    rw [isSmall, ← between c 97 122]
    rw [show decide (((97 : Nat) : Int) ≤ (c.toNat : Int)) = _ from h1, show decide ((c.toNat : Int) ≤ ((122 : Nat) : Int)) = _ from h2]
    rfl
theorem none_any (f : Int) (w : World) : Calls Tryd.prog 16 #[.int .i64 f] w fun e w' => e = .returned (.bool (!fmtOk f)) ∧ w = w' := by
  have HF : Hid (fmtOk f = (decide (f = 1) || decide (f = 2) || decide (f = 3))) := Lib.hid rfl
  by_cases h1 : f = 1
  · subst h1
    go_enter Tryd.func16, Tryd.ntmps16
    go_wp2
    go_ret
    exact ⟨rfl, rfl⟩
  by_cases h2 : f = 2
  · subst h2
    go_enter Tryd.func16, Tryd.ntmps16
    go_wp2
    go_ret
    exact ⟨rfl, rfl⟩
  by_cases h3 : f = 3
  · subst h3
    go_enter Tryd.func16, Tryd.ntmps16
    go_wp2
    go_ret
    exact ⟨rfl, rfl⟩
  have HV : Hid (fmtOk f = false) := Lib.hid (by rw [HF.out]; simp [h1, h2, h3])
  have b1 : (f != 1) = true := by simpa using h1
  have b2 : (f != 2) = true := by simpa using h2
  have b3 : (f != 3) = true := by simpa using h3
  clear h1 h2 h3
  go_enter Tryd.func16, Tryd.ntmps16
  go_wp2
  go_ret
  exact ⟨by rw [HV.out]; rfl, rfl⟩
theorem signs_any (f : Int) (w : World) : Calls Tryd.prog 30 #[.int .i64 f] w fun e w' => e = .returned (.tuple #[.string (bs [sgnB f]), .string (bs (dashF f))]) ∧ w = w' := by
  by_cases h3 : f = 3
  · subst h3
    go_enter Tryd.func30, Tryd.ntmps30
    go_wp2
    go_ret2
    exact ⟨rfl, rfl⟩
  · have b3 : (f == 3) = false := by simpa using h3
    have HV : Hid (sgnB f = 126 ∧ dashF f = [45]) := Lib.hid (by simp [sgnB, dashF, h3])
    clear h3
    go_enter Tryd.func30, Tryd.ntmps30
    go_wp2
    go_ret2
    exact ⟨by rw [HV.out.1, HV.out.2]; rfl, rfl⟩
/-- A number as it is written. -/
theorem dec_i (n : Int) (w : World) (h : n ≤ 9223372036854775807) (ht : Tab w) : Calls Tryd.prog 69 #[.int .i64 n] w fun e w' => e = .returned (.string (bs (decI n))) ∧ Below w.heap.size w w' := by
  by_cases h0 : n < 0
  · have hd : decI n = [] := by rw [decI, if_pos h0]
    rw [hd]
    exact dec_neg n w h0
  · obtain ⟨m, rfl⟩ := Int.eq_ofNat_of_zero_le (show 0 ≤ n by omega)
    have hd : decI (m : Int) = Lib.decDigits m := by rw [decI, if_neg h0]; simp
    rw [hd]
    exact dec_any m w (by omega) ht
theorem rdec_i (n : Int) (w : World) (h : n ≤ 9223372036854775807) : Calls Tryd.prog 74 #[.int .i64 n] w fun e w' => e = .returned (.string (bs (decI n))) ∧ Below w.heap.size w w' := by
  by_cases h0 : n < 0
  · have hd : decI n = [] := by rw [decI, if_pos h0]
    rw [hd]
    exact rdec_neg n w h0
  · obtain ⟨m, rfl⟩ := Int.eq_ofNat_of_zero_le (show 0 ≤ n by omega)
    have hd : decI (m : Int) = Lib.decDigits m := by rw [decI, if_neg h0]; simp
    rw [hd]
    exact rdec_any m w (by omega)
theorem decI_len (n : Int) (h : n ≤ 9223372036854775807) : (decI n).length ≤ 19 := by
  unfold decI
  split
  · simp
  · exact dec_len n.toNat (by omega)
/-- A core, where it lies. -/
def CB (w : World) (g : Nat) (c : Co) (nv : Value) : Prop := Blk w g 30 #[.int .i64 c.epoch, nv, .string (bs c.letter), .string (bs c.pre), .int .i64 c.preNum, .int .i64 c.rev]
theorem CB.cells {w : World} {g : Nat} {c : Co} {nv : Value} (h : CB w g c nv) :
    w.cell? ⟨g, 0, none⟩ = some (.int .i64 c.epoch) ∧ w.cell? ⟨g, 1, none⟩ = some nv ∧ w.cell? ⟨g, 2, none⟩ = some (.string (bs c.letter)) ∧ w.cell? ⟨g, 3, none⟩ = some (.string (bs c.pre)) ∧ w.cell? ⟨g, 4, none⟩ = some (.int .i64 c.preNum) ∧ w.cell? ⟨g, 5, none⟩ = some (.int .i64 c.rev) :=
  ⟨h.cell 0, h.cell 1, h.cell 2, h.cell 3, h.cell 4, h.cell 5⟩
def coV (c : Co) (nv : Value) : Value := .agg #[.int .i64 c.epoch, nv, .string (bs c.letter), .string (bs c.pre), .int .i64 c.preNum, .int .i64 c.rev]
theorem CB.below {w w' : World} {g : Nat} {c : Co} {nv : Value} (h : CB w g c nv) {B : Nat} (hb : Below B w w') (hg : g < B) : CB w' g c nv := Blk.below h hb hg
/-- A text of a core that is being made: so far l. -/
structure TxW (w : World) (c : Co) (nv : Value) (l : List UInt8) (wx : World) : Prop where
  bld : Bld (w.heap.size + 1) (w.heap.size + 1) l wx
  blk : CB wx w.heap.size c nv
  below : Below w.heap.size w wx
theorem TxW.big {w : World} {c : Co} {nv : Value} {l : List UInt8} {wx : World} (h : TxW w c nv l wx) : w.heap.size + 1 < wx.heap.size := h.bld.lt
theorem TxW.keep {w : World} {c : Co} {nv : Value} {l : List UInt8} {wx wy : World} (h : TxW w c nv l wx) (hb : Below wx.heap.size wx wy) : TxW w c nv l wy :=
  ⟨h.bld.below hb, h.blk.below hb (by have := h.big; omega), h.below.trans (hb.mono (by have := h.big; omega))⟩
theorem TxW.put {w : World} {c : Co} {nv : Value} {l s : List UInt8} {wx wy : World} (h : TxW w c nv l wx) (h1 : Bld (w.heap.size + 1) (w.heap.size + 1) (l ++ s) wy) (hb : Below (w.heap.size + 1) wx wy) : TxW w c nv (l ++ s) wy :=
  ⟨h1, h.blk.below hb (by omega), h.below.trans (hb.mono (by omega))⟩
theorem numsT_snoc (l : List Int) (n : Int) : numsT (l ++ [n]) = (if l = [] then decI n else numsT l ++ (46 :: decI n)) := by
  induction l with
  | nil => simp [numsT, Lib.join]
  | cons a l ih =>
    cases l with
    | nil => simp [numsT, Lib.join]
    | cons b l =>
      rw [if_neg (by simp)] at ih ⊢
      have e1 : numsT (a :: b :: l) = decI a ++ (46 :: numsT (b :: l)) := by simp [numsT, Lib.join]
      have e2 : numsT ((a :: b :: l) ++ [n]) = decI a ++ (46 :: numsT ((b :: l) ++ [n])) := by simp [numsT, Lib.join]
      rw [e2, ih, e1]
      simp
theorem numsT_len (l : List Int) (h : ∀ n ∈ l, n ≤ 9223372036854775807) : (numsT l).length ≤ 20 * l.length := by
  induction l with
  | nil => simp [numsT, Lib.join]
  | cons a l ih =>
    have h1 := decI_len a (h a (by simp))
    have h2 := ih (fun n hn => h n (by simp [hn]))
    cases l with
    | nil => simp [numsT, Lib.join] at h1 ⊢; omega
    | cons b l =>
      have e1 : numsT (a :: b :: l) = decI a ++ (46 :: numsT (b :: l)) := by simp [numsT, Lib.join]
      rw [e1]
      simp only [List.length_append, List.length_cons] at h2 ⊢
      omega
end Go.Proofs.YtdfpdmddiapnmaaDoor
