/- The walk of the laws' own test of the document's examples. -/
import Derived.Test.YtkhkminhlpjkgaaDoorCodF
namespace Go.Proofs.YtkhkminhlpjkgaaDoor
open Go.RowKit
theorem unhex_ex (w : World) : Calls Tryd.prog 10 #[.string ⟨#[48, 97, 102, 102]⟩] w (GivesB 5 w (fun v => .tuple #[v, .int .i64 0]) [10, 255]) := by
  have h := unhex_any ⟨#[48, 97, 102, 102]⟩ w (by decide)
  have e1 : unhexCode (⟨#[48, 97, 102, 102]⟩ : ByteArray).data.toList = 0 := by decide +kernel
  have e2 : unhexR (⟨#[48, 97, 102, 102]⟩ : ByteArray).data.toList = [10, 255] := by decide +kernel
  rw [e1, e2] at h
  exact h
theorem unoctal_ex (w : World) : Calls Tryd.prog 34 #[.string ⟨#[32, 49, 55, 32]⟩] w fun e w' => e = .returned (.tuple #[.int .i64 15, .int .i64 0]) ∧ Below w.heap.size w w' := by
  have h := unoctal_any ⟨#[32, 49, 55, 32]⟩ w (by decide)
  have e1 : octCode (⟨#[32, 49, 55, 32]⟩ : ByteArray).data.toList = 0 := by decide +kernel
  have e2 : octNum (⟨#[32, 49, 55, 32]⟩ : ByteArray).data.toList = 15 := by decide +kernel
  rw [e1, e2] at h
  exact h
theorem unbase64_ex (w : World) : Calls Tryd.prog 14 #[.string ⟨#[89, 81, 61, 61]⟩] w (GivesB 5 w (fun v => .tuple #[v, .int .i64 0]) [97]) := by
  have h := unbase64_any ⟨#[89, 81, 61, 61]⟩ w (by decide)
  have e1 : un64Code (⟨#[89, 81, 61, 61]⟩ : ByteArray).data.toList = 0 := by decide +kernel
  have e2 : un64R (⟨#[89, 81, 61, 61]⟩ : ByteArray).data.toList = [97] := by decide +kernel
  rw [e1, e2] at h
  exact h
theorem be_ex (w : World) : Calls Tryd.prog 18 #[.int .u64 258, .int .i64 2] w (GivesB 5 w (fun v => v) [1, 2]) := be_any 258 2 w (by decide) (by decide) (by decide)
/-- string(v) of a slice of bytes. -/
theorem str8 {w : World} {v : Value} {l : List UInt8} (h : SB w v l) : (convert 22 9 v).run Tryd.prog w = .ok (.string ⟨l.toArray⟩) w :=
  h.str 22 5 9 Tryd.underlying22 Tryd.underlying5 Tryd.underlying9
set_option maxHeartbeats 1000000 in
theorem awake_any (w : World) : Calls Tryd.prog 9 #[] w fun e w' => e = .returned (.bool true) ∧ Below w.heap.size w w' := by
  go_enter Tryd.func9, Tryd.ntmps9
  go_wp2_with fail
  refine (unhex_ex _).mono ?_
  rintro e w1 ⟨v1, rfl, hown1, hb1⟩
  go_wp2_with fail
  refine (unoctal_ex _).mono ?_
  rintro e w2 ⟨rfl, hb2⟩
  go_wp2_with fail
  refine (unbase64_ex _).mono ?_
  rintro e w3 ⟨v3, rfl, hown3, hb3⟩
  have s1 : SB w3 v1 [10, 255] := ((SB.of_own hown1).below hb2).below hb3
  have c1 := str8 s1
  go_wp2_with fail
  refine (hex_any _ _ _ s1 (by decide)).mono ?_
  rintro e w4 ⟨rfl, hb4⟩
  have c3 := str8 ((SB.of_own hown3).below hb4)
  have hx : hexL [10, 255] = [48, 97, 102, 102] := by decide +kernel
  go_wp2_with fail
  refine (be_ex _).mono ?_
  rintro e w5 ⟨v5, rfl, hown5, hb5⟩
  have c5 := str8 (SB.of_own hown5)
  go_wp2_with fail
  go_ret
  exact ⟨rfl, below_trans hb1 (below_trans hb2 (below_trans hb3 (below_trans hb4 hb5)))⟩
end Go.Proofs.YtkhkminhlpjkgaaDoor
