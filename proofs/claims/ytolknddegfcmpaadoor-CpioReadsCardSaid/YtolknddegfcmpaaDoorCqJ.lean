/- The law CpioReads. -/
import Derived.Test.YtolknddegfcmpaaDoorCqI
import Derived.Test.YtolknddegfcmpaaDoorCqH
import Derived.Test.YtolknddegfcmpaaDoorEoF
namespace Go.Proofs.YtolknddegfcmpaaDoor
open Go.RowKit
theorem run_len (b : List UInt8) : ∀ (n : Nat) (s : List (List Nat × Nat)) (L : List En) (PL : List Nat) (p : Nat), FA s L → DB L → 112 * L.length ≤ p → p ≤ b.length → 112 * (runR stepG b n s L PL p).1.length ≤ b.length := by
  intro n
  induction n with
  | zero => intro s L PL p _ _ h1 h2; simp only [runR]; omega
  | succ n ih =>
    intro s L PL p hF hD h1 h2
    have hnx : ∀ ns nm d nx, memS b p = .mem ns nm d nx → p + 112 ≤ nx ∧ nx ≤ b.length ∧ d.length ≤ 1048576 := fun ns nm d nx h => ⟨(mem_next h).1, (mem_next h).2, (mem_facts h).2.2.2.1⟩
    rw [runR]
    cases hm : memS b p with
    | err e => simp only; omega
    | fin => simp only; omega
    | mem ns nm d nx =>
      obtain ⟨g1, g2, g3⟩ := hnx ns nm d nx hm
      simp only
      by_cases h0 : (stepG s L ns nm d).1 = 0
      · rw [if_pos h0]
        have hG := stepG_grows hF hD ns nm d g3 h0
        have hl := grows_len hG
        exact ih _ _ _ _ (stepG_fa hF hD ns nm d g3 h0) (grows_db hG) (by omega) g2
      · rw [if_neg h0]; simp only; omega
theorem readA_len (b : List UInt8) (h : b.length ≤ 400000) : (readA (runR stepG b (b.length + 1) [] [] [] 0)).1.length ≤ 1000000 := by
  have := run_len b (b.length + 1) [] [] [] 0 (fun k i h => by cases h) (fun e h => by cases h) (Nat.zero_le _) (Nat.zero_le _)
  rw [readA]
  split
  · simp
  split
  · simp
  · simp only; omega
set_option maxRecDepth 20000 in
set_option maxHeartbeats 8000000 in
theorem law_reads (v : Value) (b : List UInt8) (w : World) (hsb : Sl 1 Rbyte nowhere w v b) :
    Calls Tryd.prog 4 #[v] w fun r w' => r = .returned (.bool true) ∧ Below w.heap.size w w' := by
  obtain ⟨A, cap, rfl, hc1, hc2⟩ := hsb.form
  unfold maxLen at hc2
  go_enter Tryd.func4, Tryd.ntmps4
  go_wp2_with fail
  refine (awakeC _).mono ?_
  rintro e w1 ⟨rfl, hb1⟩
  have hs1 := Below.sl good_byte hb1 hsb
  by_cases hl : 4000 < b.length
  · have t1 : decide ((4000 : Int) < (b.length : Int)) = true := decide_eq_true (by omega)
    have t1b : decide (4000 < b.length) = true := decide_eq_true hl
    clear hl
    go_wp2_with fail
    go_ret
    exact ⟨rfl, hb1⟩
  have t1 : decide ((4000 : Int) < (b.length : Int)) = false := decide_eq_false (by omega)
  have t1b : decide (4000 < b.length) = false := decide_eq_false hl
  have hr := read_all (.slice A b.length cap) b nowhere w1 hs1 (by omega)
  have hrs := read_same b (by omega)
  have hln := readA_len b (by omega)
  have hrr := fun W (h : Sl 1 Rbyte nowhere W (.slice A b.length cap) b) => rread_any (.slice A b.length cap) b nowhere W h (by omega)
  rw [hrs] at hrr
  clear hrs
  generalize readA (runR stepG b (b.length + 1) [] [] [] 0) = x at hr hrr hln
  obtain ⟨xl, xa, xc⟩ := x
  go_upto_region 6 with (go_at_call 12; refine hr.mono ?_; rintro r w2 ⟨⟨v2, f2, rfl, he2, _⟩, hb2⟩; clear hr; obtain ⟨A2, c2, rfl⟩ := own_form he2.row)
  have hb3 := hb2.alloc hb2.size (.cells #[.string ⟨#[]⟩, .int .i64 xa, .int .i64 xc] 32)
  have hsl2 := Below.sl good_ent ((Below.refl w2.heap.size w2).alloc (Nat.le_refl _) (.cells #[.string ⟨#[]⟩, .int .i64 xa, .int .i64 xc] 32)) he2.sl
  have bF := Blk.new w2 32 #[.string ⟨#[]⟩, .int .i64 xa, .int .i64 xc]
  have hs3 := Below.sl good_byte hb3 hs1
  have q3 := hb1.trans (hb3.mono hb1.size)
  clear hs1 hb2 hb3 he2 hsb hb1
  generalize w2.alloc (.cells #[.string ⟨#[]⟩, .int .i64 xa, .int .i64 xc] 32) = w3 at hsl2 bF hs3 q3 ⊢
  generalize w2.heap.size = gF at bF ⊢
  have hr3 := hrr w3 hs3
  clear hrr
  go_upto_region 7 with (go_at_call 13; refine hr3.mono ?_; rintro r w4 ⟨⟨v4, f4, rfl, he4⟩, hb4⟩; clear hr3; obtain ⟨A4, c4, rfl⟩ := own_form he4.row)
  have hbA := (Below.refl w4.heap.size w4).alloc (Nat.le_refl _) (.cells #[.string ⟨#[]⟩, .int .i64 xa, .int .i64 xc] 32)
  have hb5 := hb4.trans (hbA.mono hb4.size)
  have hsl4 := Below.sl good_ent hbA he4.sl
  have hsl2 := Below.sl good_ent hb5 hsl2
  have bF2 := bF.below hb5 bF.lt
  have bK := Blk.new w4 32 #[.string ⟨#[]⟩, .int .i64 xa, .int .i64 xc]
  have q5 := q3.trans (hb5.mono q3.size)
  clear hs3 hb4 hb5 hbA he4 bF q3
  generalize w4.alloc (.cells #[.string ⟨#[]⟩, .int .i64 xa, .int .i64 xc] 32) = w5 at hsl4 hsl2 bF2 bK q5 ⊢
  generalize w4.heap.size = gK at bK ⊢
  have hsm := rsame_any xl xl _ _ nowhere nowhere w5 hsl2 hsl4 hln
  rw [sameL_self] at hsm
  go_wp2_with (go_at_call 14; refine hsm.mono ?_; rintro r w6 ⟨rfl, hb6⟩; clear hsm; have bF6 := bF2.below hb6 bF2.lt; have bK6 := bK.below hb6 bK.lt; have k0 := bF6.cell 0; have k1 := bF6.cell 1; have k2 := bF6.cell 2; have m0 := bK6.cell 0; have m1 := bK6.cell 1; have m2 := bK6.cell 2; simp at k0 k1 k2 m0 m1 m2)
  go_ret
  exact ⟨by simp, q5.trans (hb6.mono q5.size)⟩
end Go.Proofs.YtolknddegfcmpaaDoor
