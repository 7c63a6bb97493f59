/- The walk of the law on the one order. -/
import Derived.Test.YtjhikglgaoncjaaDoorEoF
import Derived.Test.YtjhikglgaoncjaaDoorEoH
import Derived.Test.YtjhikglgaoncjaaDoorEnU
namespace Go.Proofs.YtjhikglgaoncjaaDoor
open Go.RowKit
/-- What the program's Canon hands out, said plainly. -/
theorem canonR_is {w w' : World} {l : List En} {r : Ending} (h : CanonR w l r w') : ((Rt l ∧ ∃ v' f B, w.heap.size ≤ B ∧ r = .returned (.tuple #[v', .int .i64 0]) ∧ EO B w' v' (canonL l) f) ∨ (¬ Rt l ∧ (chkL l).2 ≠ 0 ∧ r = .returned (.tuple #[.slice none 0 0, .int .i64 (chkL l).2]))) ∧ Below w.heap.size w w' := by
  obtain ⟨h1, h2⟩ := h
  refine ⟨?_, h2⟩
  by_cases hz : (chkL l).2 = 0
  · rw [if_pos hz] at h1
    have hr := (chk_rt l).1 hz
    obtain ⟨v', l', f, B, hB, hv, hE, hp, hs⟩ := h1
    obtain rfl := canon_is hr hp hs
    exact .inl ⟨hr, v', f, B, hB, hv, hE⟩
  · rw [if_neg hz] at h1
    exact .inr ⟨fun hr => hz ((chk_rt l).2 hr), hz, h1⟩
theorem canonL_len (l : List En) : (canonL l).length = l.length := by rw [canonL, List.length_map, (sortL_perm l).length_eq]
set_option maxRecDepth 20000 in
set_option maxHeartbeats 8000000 in
theorem law_canon (v : Value) (l : List En) (w : World) (hsl : Sl 10 Rent nowhere w v l) :
    Calls Tryd.prog 5 #[v] w fun r w' => r = .returned (.bool true) ∧ Below w.heap.size w w' := by
  obtain ⟨A, cap, rfl, hc1, hc2⟩ := hsl.form
  go_enter Tryd.func5, Tryd.ntmps5
  go_wp2_with fail
  refine (awakeE _).mono ?_
  rintro e w1 ⟨rfl, hb1⟩
  have hsl := Below.sl good_ent hb1 hsl
  go_wp2_with fail
  refine (rlight_any l 60 _ nowhere _ hsl (by omega)).mono ?_
  rintro r w2 ⟨rfl, hb2⟩
  have hsl := Below.sl good_ent hb2 hsl
  have q2 := below_trans hb1 hb2
  clear hb1 hb2
  cases hL : lightE 60 l with
  | false =>
    go_wp2_with fail
    go_ret
    exact ⟨rfl, q2⟩
  | true =>
    have hLB := Lib.hid (light_lb 60 (by omega) l hL)
    have hLE := Lib.hid (light_eb 60 l hL)
    clear hL
    go_wp2_with fail
    refine (pcanon_any l _ nowhere _ hsl hLB.out (fun e he => by have := (hLE.out.2 e he).2.2.2.2; omega)).mono ?_
    rintro r w3 h3
    obtain ⟨h3, hb3⟩ := canonR_is h3
    have hsl := Below.sl good_ent hb3 hsl
    have q3 := below_trans q2 hb3
    rcases h3 with ⟨hr, v', f, B, _, rfl, hE⟩ | ⟨hr, hz, rfl⟩
    · obtain ⟨A', cap', rfl⟩ := own_form hE.row
      have hsx := hE.sl
      clear hE
      have hz0 := (chk_rt l).2 hr
      go_wp2_with fail
      refine (rcanon_any l _ nowhere _ hsl hLB.out).mono ?_
      rintro r w4 ⟨h4, hb4⟩
      rw [if_pos hz0] at h4
      obtain ⟨u', f', rfl, hE'⟩ := h4
      have hsx := Below.sl good_ent hb4 hsx
      have q4 := below_trans q3 hb4
      have hsy := hE'.eo.sl
      rw [steps_is hr] at hsy
      obtain ⟨A2, cap2, rfl, _, _⟩ := hsy.form
      clear hE' hb4 hb3 q2 q3 hsl hr hz0
      have hn : (canonL l).length ≤ 1000000 := by rw [canonL_len]; have := hLB.out.1; omega
      have HS := Lib.hid (sameL_self (canonL l))
      generalize canonL l = C at hsx hsy hn HS ⊢
      go_wp2_with fail
      refine (rsame_any C C _ _ _ _ _ hsx hsy hn).mono ?_
      rw [HS.out]
      rintro r w5 ⟨rfl, hb5⟩
      have q5 := below_trans q4 hb5
      go_wp2_with fail
      go_ret
      exact ⟨rfl, q5⟩
    · obtain ⟨c, hc⟩ : ∃ c, (chkL l).2 = c := ⟨_, rfl⟩
      rw [hc] at hz ⊢
      go_wp2_with fail
      refine (rcanon_any l _ nowhere _ hsl hLB.out).mono ?_
      rintro r w4 ⟨h4, hb4⟩
      rw [hc, if_neg hz] at h4
      subst h4
      have q4 := below_trans q3 hb4
      have ec : (c == c) = true := by simp
      clear hsl hb4 hb3 q2 q3 hr hz hc
      go_wp2_with fail
      refine (rsame_any [] [] _ _ nowhere nowhere _ (Sl.nil _ _ _ _) (Sl.nil _ _ _ _) (by simp)).mono ?_
      rintro r w5 ⟨rfl, hb5⟩
      have q5 := below_trans q4 hb5
      have es : sameL [] [] = true := rfl
      go_wp2_with fail
      go_ret
      exact ⟨rfl, q5⟩
end Go.Proofs.YtjhikglgaoncjaaDoor
