/- The law CpioWrites. -/
import Derived.Test.YtolknddegfcmpaaDoorCpJ
import Derived.Test.YtolknddegfcmpaaDoorCpW
import Derived.Test.YtolknddegfcmpaaDoorCpXY
namespace Go.Proofs.YtolknddegfcmpaaDoor
open Go.RowKit
theorem law_bare {l : List En} (h : lightE 20 l = true) : LB (l.map bareE) ∧ SmallL (l.map bareE) := by
  obtain ⟨h1, h2⟩ := light_eb 20 l h
  refine ⟨⟨by rw [List.length_map]; omega, fun e he => ?_⟩, ⟨by rw [List.length_map]; omega, fun e he => ?_⟩⟩
  · obtain ⟨x, hx, rfl⟩ := List.mem_map.1 he
    obtain ⟨a, b, _, _, _⟩ := h2 x hx
    exact ⟨by simp only [bareE]; omega, by simp [bareE], by simp [bareE], by simp only [bareE]; omega⟩
  · obtain ⟨x, hx, rfl⟩ := List.mem_map.1 he
    obtain ⟨a, b, _, _, d⟩ := h2 x hx
    exact ⟨by simp only [bareE]; omega, by simp only [bareE]; omega, by simp only [bareE]; omega⟩
theorem light_small {l : List En} (h : lightE 20 l = true) : LB l ∧ SmallL l := by
  obtain ⟨h1, h2⟩ := light_eb 20 l h
  exact ⟨light_lb 20 (by omega) l h, by omega, fun e he => by obtain ⟨a, b, _, _, d⟩ := h2 e he; exact ⟨by omega, by omega, by omega⟩⟩
set_option maxRecDepth 20000 in
set_option maxHeartbeats 8000000 in
theorem law_writes (v : Value) (l : List En) (strip : Bool) (w : World) (hsl : Sl 10 Rent nowhere w v l) :
    Calls Tryd.prog 3 #[v, .bool strip] w fun r w' => r = .returned (.bool true) ∧ Below w.heap.size w w' := by
  obtain ⟨A, cap, rfl, hc1, hc2⟩ := hsl.form
  go_enter Tryd.func3, Tryd.ntmps3
  go_wp2_with fail
  refine (awakeC _).mono ?_
  rintro e w1 ⟨rfl, hb1⟩
  have hs1 := Below.sl good_ent hb1 hsl
  go_wp2_with fail
  refine (rlight_any l 20 _ nowhere _ hs1 (by omega)).mono ?_
  rintro e w2 ⟨rfl, hb2⟩
  have hs2 := Below.sl good_ent hb2 hs1
  have q2 := hb1.trans (hb2.mono hb1.size)
  clear hsl hs1 hb1 hb2
  cases hlt : lightE 20 l with
  | false =>
    clear hlt
    go_wp2_with fail
    go_ret
    exact ⟨rfl, q2⟩
  | true =>
    have HLT := Lib.hid hlt
    clear hlt
    cases strip with
    | false =>
      obtain ⟨hLB, hSm⟩ := light_small HLT.out
      have hsW := hs2
      have hwr := write_any l _ nowhere w2 hsW hLB hSm
      have q4 := q2
      obtain ⟨ce, HCE⟩ : ∃ c, Hid (cpErr l = c) := ⟨_, Lib.hid rfl⟩
      obtain ⟨RR, HRR⟩ : ∃ R, Hid ((if ce = 0 then arcB l else []) = R) := ⟨_, Lib.hid rfl⟩
      clear HLT
      go_wp2_with (first
        | (go_at_call 10; refine hwr.mono ?_; clear hwr; rintro e W4 ⟨v4, rfl, hb4, ho4⟩; have hs4 := Below.sl good_ent hb4 hsW; have hrw := rwrite_any l _ nowhere W4 hs4 hLB hSm; rw [HCE.out] at ho4 ⊢; rw [HRR.out] at ho4; have hsl4 := own_sl8 ho4)
        | (go_at_call 11; refine hrw.mono ?_; clear hrw; rintro e W5 ⟨v5, rfl, hb5, hsl5⟩; rw [HCE.out] at hsl5 ⊢; rw [HRR.out] at hsl5; obtain ⟨A4, k4, rfl, _, _⟩ := hsl4.form; obtain ⟨A5, k5, rfl, _, _⟩ := hsl5.form; have hst4 := str8 (Below.sl good_byte hb5 hsl4).sb8; have hst5 := str8 hsl5.sb8))
      go_ret
      exact ⟨by simp, (q4.trans (hb4.mono q4.size)).trans (hb5.mono (q4.trans (hb4.mono q4.size)).size)⟩
    | true =>
      obtain ⟨hLB, hSm⟩ := law_bare HLT.out
      have hLL : l.length ≤ 1000000 := by have := (light_eb 20 l HLT.out).1; omega
      go_upto_region 7 with (go_at_call 9; refine (bare_any l _ nowhere _ hs2 hLL).mono ?_; rintro e w3 ⟨⟨v3, f3, rfl, he3⟩, hb3⟩; obtain ⟨A3, c3, rfl⟩ := own_form he3.row)
      have hsW := he3.sl
      rw [List.length_map] at hsW
      have q3 := q2.trans (hb3.mono q2.size)
      clear he3 hb3 hs2 hLL
      generalize l.map bareE = l' at hsW hLB hSm ⊢
      have hwr := write_any l' _ nowhere w3 hsW hLB hSm
      have q4 := q3
      obtain ⟨ce, HCE⟩ : ∃ c, Hid (cpErr l' = c) := ⟨_, Lib.hid rfl⟩
      obtain ⟨RR, HRR⟩ : ∃ R, Hid ((if ce = 0 then arcB l' else []) = R) := ⟨_, Lib.hid rfl⟩
      clear HLT
      go_wp2_with (first
        | (go_at_call 10; refine hwr.mono ?_; clear hwr; rintro e W4 ⟨v4, rfl, hb4, ho4⟩; have hs4 := Below.sl good_ent hb4 hsW; have hrw := rwrite_any l' _ nowhere W4 hs4 hLB hSm; rw [HCE.out] at ho4 ⊢; rw [HRR.out] at ho4; have hsl4 := own_sl8 ho4)
        | (go_at_call 11; refine hrw.mono ?_; clear hrw; rintro e W5 ⟨v5, rfl, hb5, hsl5⟩; rw [HCE.out] at hsl5 ⊢; rw [HRR.out] at hsl5; obtain ⟨A4, k4, rfl, _, _⟩ := hsl4.form; obtain ⟨A5, k5, rfl, _, _⟩ := hsl5.form; have hst4 := str8 (Below.sl good_byte hb5 hsl4).sb8; have hst5 := str8 hsl5.sb8))
      go_ret
      exact ⟨by simp, (q4.trans (hb4.mono q4.size)).trans (hb5.mono (q4.trans (hb4.mono q4.size)).size)⟩
end Go.Proofs.YtolknddegfcmpaaDoor
