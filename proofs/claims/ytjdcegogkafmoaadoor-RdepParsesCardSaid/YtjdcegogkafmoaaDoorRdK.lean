/- Walks of drayageref15's small functions. -/
import Derived.Test.YtjdcegogkafmoaaDoorRdJ
import Derived.Test.YtjdcegogkafmoaaDoorVerW
namespace Go.Proofs.YtjdcegogkafmoaaDoor
open Go.RowKit
set_option maxRecDepth 20000 in
theorem rword_any (s : List UInt8) (w : World) : Calls Tryd.prog 31 #[.string (bs s)] w fun e w' => e = .returned (.bool (knR s)) ∧ w = w' := by
  have HV : Hid (knR s = (decide (s = [97, 110, 100]) || (decide (s = [111, 114]) || (decide (s = [105, 102]) || (decide (s = [117, 110, 108, 101, 115, 115]) || (decide (s = [119, 105, 116, 104]) || decide (s = [119, 105, 116, 104, 111, 117, 116]))))))) := Lib.hid (by
    unfold knR wordsR
    rw [Bool.eq_iff_iff]
    simp)
  have e1 := eqS s [97, 110, 100]
  have e2 := eqS s [111, 114]
  have e3 := eqS s [105, 102]
  have e4 := eqS s [117, 110, 108, 101, 115, 115]
  have e5 := eqS s [119, 105, 116, 104]
  have e6 := eqS s [119, 105, 116, 104, 111, 117, 116]
  generalize decide (s = [97, 110, 100]) = b1 at e1 HV
  generalize decide (s = [111, 114]) = b2 at e2 HV
  generalize decide (s = [105, 102]) = b3 at e3 HV
  generalize decide (s = [117, 110, 108, 101, 115, 115]) = b4 at e4 HV
  generalize decide (s = [119, 105, 116, 104]) = b5 at e5 HV
  generalize decide (s = [119, 105, 116, 104, 111, 117, 116]) = b6 at e6 HV
  generalize knR s = R at HV ⊢
  cases b1 with
  | true =>
    go_enter Tryd.func31, Tryd.ntmps31
    go_wp2_with fail
    go_ret
    exact ⟨by rw [HV.out]; rfl, rfl⟩
  | false =>
  cases b2 with
  | true =>
    go_enter Tryd.func31, Tryd.ntmps31
    go_wp2_with fail
    go_ret
    exact ⟨by rw [HV.out]; rfl, rfl⟩
  | false =>
  cases b3 with
  | true =>
    go_enter Tryd.func31, Tryd.ntmps31
    go_wp2_with fail
    go_ret
    exact ⟨by rw [HV.out]; rfl, rfl⟩
  | false =>
  cases b4 with
  | true =>
    go_enter Tryd.func31, Tryd.ntmps31
    go_wp2_with fail
    go_ret
    exact ⟨by rw [HV.out]; rfl, rfl⟩
  | false =>
  cases b5 with
  | true =>
    go_enter Tryd.func31, Tryd.ntmps31
    go_wp2_with fail
    go_ret
    exact ⟨by rw [HV.out]; rfl, rfl⟩
  | false =>
    go_enter Tryd.func31, Tryd.ntmps31
    go_wp2_with fail
    go_ret
    exact ⟨by rw [HV.out]; rfl, rfl⟩
/-- What State has in memory: a text, a place, the first fault, how many atoms came. -/
def SBr (s : List UInt8) (p : Nat) (fa fc : Int) (n : Nat) : Array Value := #[.string (bs s), .int .i64 (p : Int), .string ⟨#[]⟩, .int .i64 fa, .int .i64 fc, .int .i64 (n : Int)]
theorem rbad_any (gx : Nat) (s : List UInt8) (p n : Nat) (fa fc c : Int) (W : World) (hB : Blk W gx 52 #[.string (bs s), .int .i64 (p : Int), .string ⟨#[]⟩, .int .i64 fa, .int .i64 fc, .int .i64 (n : Int)]) :
    Calls Tryd.prog 19 #[.pointer (some ⟨gx, 0, none⟩), .int .i64 c] W fun e w' => e = .returned (.tuple #[]) ∧ Blk w' gx 52 #[.string (bs s), .int .i64 (p : Int), .string ⟨#[]⟩, .int .i64 (p : Int), .int .i64 c, .int .i64 (n : Int)] ∧ Kept (fun k => k = gx) W w' := by
  have z1 := hB.cell 1
  have z2 := hB.cell 2
  have z3 := hB.cell 3
  have z4 := hB.cell 4
  have f2 := hB.frozen 2
  have f3 := hB.frozen 3
  have f4 := hB.frozen 4
  simp at z1 z2 z3 z4
  go_enter Tryd.func19, Tryd.ntmps19
  go_wp2_with fail
  have b1 : Blk (((W.setCell ⟨gx, 2, none⟩ (.string ⟨#[]⟩)).setCell ⟨gx, 3, none⟩ (.int .i64 (p : Int))).setCell ⟨gx, 4, none⟩ (.int .i64 c)) gx 52 #[.string (bs s), .int .i64 (p : Int), .string ⟨#[]⟩, .int .i64 (p : Int), .int .i64 c, .int .i64 (n : Int)] := by
    have := ((hB.set (u := .string ⟨#[]⟩) 2).set (u := .int .i64 (p : Int)) 3).set (u := .int .i64 c) 4
    simpa using this
  have k1 : Kept (fun k => k = gx) W (((W.setCell ⟨gx, 2, none⟩ (.string ⟨#[]⟩)).setCell ⟨gx, 3, none⟩ (.int .i64 (p : Int))).setCell ⟨gx, 4, none⟩ (.int .i64 c)) := (((Kept.refl (fun k => k = gx) W).setCell (p := ⟨gx, 2, none⟩) (.string ⟨#[]⟩) fun _ => rfl).setCell (p := ⟨gx, 3, none⟩) (.int .i64 (p : Int)) fun _ => rfl).setCell (p := ⟨gx, 4, none⟩) (.int .i64 c) fun _ => rfl
  clear z1 z2 z3 z4 f2 f3 f4
  refine bodyPost_end (v := .tuple #[]) ?_ ?_ ?_
  · simp [results, Tryd.results19, go_sem]
  · rfl
  · exact ⟨rfl, b1, k1⟩
end Go.Proofs.YtjdcegogkafmoaaDoor
