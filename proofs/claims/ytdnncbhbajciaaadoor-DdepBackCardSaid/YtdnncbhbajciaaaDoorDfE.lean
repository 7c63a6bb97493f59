/- The walk of the law that fields are read as they were written. -/
import Derived.Test.YtdnncbhbajciaaaDoorDfC
import Derived.Test.YtdnncbhbajciaaaDoorDfB
import Derived.Test.YtdnncbhbajciaaaDoorDdV
namespace Go.Proofs.YtdnncbhbajciaaaDoor
open Go.RowKit
/-- Texts were turned into texts, from block B on; nothing else was. -/
structure Sim (B : Nat) (w w' : World) : Prop where
  cell : ∀ a, w'.cell? a = w.cell? a ∨ ∃ x y, w.cell? a = some (.string x) ∧ w'.cell? a = some (.string y)
  frozen : ∀ a, w'.frozen? a = w.frozen? a
  below : Below B w w'
theorem Sim.refl (B : Nat) (w : World) : Sim B w w := ⟨fun _ => .inl rfl, fun _ => rfl, Below.refl _ _⟩
theorem Sim.other {B : Nat} {w w' : World} (h : Sim B w w') {a : Addr} {u : Value} (hc : w.cell? a = some u) (hu : ∀ x, u ≠ .string x) : w'.cell? a = some u := by
  rcases h.cell a with e | ⟨x, y, e, _⟩
  · rw [e]; exact hc
  · rw [hc] at e
    injection e with e
    exact absurd e (hu x)
theorem Sim.text {B : Nat} {w w' : World} (h : Sim B w w') {a : Addr} {s : ByteArray} (hc : w.cell? a = some (.string s)) : ∃ y, w'.cell? a = some (.string y) := by
  rcases h.cell a with e | ⟨x, y, _, e⟩
  · exact ⟨s, e.trans hc⟩
  · exact ⟨y, e⟩
theorem Sim.set {B : Nat} {w w' : World} (h : Sim B w w') {p : Addr} {s z : ByteArray} (hc : w.cell? p = some (.string s)) (hp : B ≤ p.block) : Sim B w (w'.setCell p (.string z)) := by
  obtain ⟨y, hy⟩ := h.text hc
  refine ⟨fun a => ?_, fun a => by rw [World.frozen?_setCell]; exact h.frozen a, h.below.setCell hp _⟩
  by_cases e : p = a
  · subst e
    exact .inr ⟨s, z, hc, World.cell?_setCell_same _ _ _ hy⟩
  · rw [World.cell?_setCell_other _ _ _ _ e]
    exact h.cell a
theorem Sl.textX {X : Nat → Prop} {w : World} {A : Option Addr} {n cap : Nat} {l : List (List UInt8)} (h : Sl 1 Rtext X w (.slice A n cap) l) (hn : 0 < n) :
    ∃ b off, A = some ⟨b, off, none⟩ ∧ ¬ X b ∧ ∀ j (h : j < l.length), w.cell? ⟨b, off + j, none⟩ = some (.string (bs l[j])) := by
  obtain ⟨_, _, _, h4⟩ := h.at
  obtain ⟨b, off, hA, hX, hc⟩ := h4 hn
  refine ⟨b, off, hA, hX, fun j hj => ?_⟩
  obtain ⟨cs, hcs, rfl⟩ := hc j hj
  simpa [bs] using hcs 0 _ rfl
theorem slice_ne (A : Option Addr) (n c : Nat) : ∀ x, Value.slice A n c ≠ .string x := fun _ h => by cases h
set_option maxRecDepth 20000 in
set_option maxHeartbeats 32000000 in
theorem law_back (v : Value) (l : List (List Tm)) (s : ByteArray) (w : World) (hsl : Sl 1 Rgroup nowhere w v l) (hs : s.size ≤ maxLen) (hw : Words w) (hg : Signs w) :
    Calls Tryd.prog 7 #[v, .string s] w fun e w' => e = .returned (.bool true) ∧ Below w.heap.size w w' := by
  obtain ⟨a, rfl⟩ : ∃ l, s = bs l := ⟨_, bs_self s⟩
  clear hs
  have hz : ((bs a).size : Int) = (a.length : Int) := by rw [bs_size]
  go_enter Tryd.func7, Tryd.ntmps7
  go_wp2_with fail
  refine (awakeD _ hw hg).mono ?_
  rintro e w1 ⟨rfl, hb1⟩
  have hsl1 := Below.sl good_group hb1 hsl
  go_wp2_with fail
  refine (light_any l v nowhere _ hsl1).mono ?_
  rintro e w2 ⟨rfl, hb2⟩
  have q2 := below_trans hb1 hb2
  clear hsl1 hb1 hb2
  cases hL : lightB l with
  | false =>
    go_wp2_with fail
    go_ret
    exact ⟨rfl, q2⟩
  | true =>
    have HF := Lib.hid (light_fs l hL)
    have HL := Lib.hid hL
    clear hL
    by_cases hn : 6000 < a.length
    · have hd : decide ((6000 : Int) < ((bs a).size : Int)) = true := by rw [hz]; simp; omega
      go_wp2_with fail
      go_ret
      exact ⟨rfl, q2⟩
    · have hd : decide ((6000 : Int) < ((bs a).size : Int)) = false := by rw [hz]; simp; omega
      have hsl2 := Below.sl good_group q2 hsl
      go_wp2_with fail
      refine (dprint_any l v nowhere _ hsl2 HF.out (hw.below q2) (hg.below q2)).mono ?_
      rintro e w3 ⟨rfl, hb3⟩
      have q3 := below_trans q2 hb3
      clear hb3 q2 hsl2
      obtain ⟨pt, pe, HP⟩ : ∃ pt pe, Hid (printS l = (pt, pe)) := ⟨_, _, Lib.hid rfl⟩
      rw [HP.out]
      go_upto_if 34 with fail
      go_cut [] (fun wx => Below w.heap.size w wx)
      case first =>
        by_cases h0 : pe = 0
        · have hb0 : (pe == 0) = true := by simpa using h0
          have HC : Hid (chkS l = 0 ∧ pt = fieldT l) := Lib.hid (by
            have := HP.out
            unfold printS at this
            by_cases hc : chkS l = 0
            · rw [if_pos hc] at this
              injection this with e1 e2
              exact ⟨hc, e1.symm⟩
            · rw [if_neg hc] at this
              injection this with e1 e2
              exact absurd (e2.trans h0) hc)
          have hlen : pt.length ≤ 1000000 := by
            have h1 := (chk_ok l HC.out.1).1
            have h2 := light_fw l HL.out h1
            have h3 := (right_fs l HC.out.1 (by omega)).2
            rw [HC.out.2]
            omega
          have HB : Hid (parseS pt = (l, 0, 0)) := Lib.hid (by rw [HC.out.2]; exact back_read l HC.out.1)
          clear h0 HP
          go_wp2_with fail
          refine (parse_any pt _ hlen (hw.below q3)).mono ?_
          rw [HB.out]
          rintro e w4 ⟨⟨v4, rfl, hsl4⟩, hb4⟩
          obtain ⟨A4, cap4, rfl, hc41, hc42⟩ := hsl4.form
          unfold maxLen at hc42
          have hb5 : Below w4.heap.size w4 (w4.alloc (.cells #[.string ⟨#[]⟩, .int .i64 0, .int .i64 0] 41)) := (Below.refl _ _).alloc (Nat.le_refl _) _
          have n5 := Blk.new w4 41 #[.string ⟨#[]⟩, .int .i64 0, .int .i64 0]
          have q5 := below_trans (below_trans q3 hb4) hb5
          have hsl5 := Below.sl good_group hb5 hsl4
          have hB : w.heap.size ≤ w3.heap.size := q3.size
          obtain ⟨B, HBn⟩ : ∃ B, Hid (w3.heap.size = B) := ⟨_, Lib.hid rfl⟩
          rw [HBn.out] at hB hsl5
          have z0 := n5.cell 0
          have z1 := n5.cell 1
          have z2 := n5.cell 2
          have z0 : (w4.alloc (.cells #[.string ⟨#[]⟩, .int .i64 0, .int .i64 0] 41)).cell? ⟨w4.heap.size, 0, none⟩ = some (.string ⟨#[]⟩) := n5.cell 0
          have z1 : (w4.alloc (.cells #[.string ⟨#[]⟩, .int .i64 0, .int .i64 0] 41)).cell? ⟨w4.heap.size, 1, none⟩ = some (.int .i64 0) := n5.cell 1
          have z2 : (w4.alloc (.cells #[.string ⟨#[]⟩, .int .i64 0, .int .i64 0] 41)).cell? ⟨w4.heap.size, 2, none⟩ = some (.int .i64 0) := n5.cell 2
          go_upto_region 8 with fail
          generalize w4.alloc (.cells #[.string ⟨#[]⟩, .int .i64 0, .int .i64 0] 41) = W5 at hb5 n5 q5 hsl5 z0 z1 z2 ⊢
          have s5 := Below.sl good_group q5 hsl
          clear hsl4 hb4 hb5 n5
          go_wp2_with fail
          refine (same_yes l _ _ _ _ _ hsl5 s5).mono ?_
          rintro e w6 ⟨rfl, hb6⟩
          have q6 := below_trans q5 hb6
          have hsl6 := Below.sl good_group hb6 hsl5
          clear z0 z1 z2 hsl5 s5 hb6 q5
          go_wp2_with fail
          go_loopg [9] l.length (fun G s9 wr => ∃ i : Nat, i ≤ l.length ∧ G = l.length - i ∧ s9 = .int .i64 i ∧ Sim B w6 wr)
          case atStart => exact ⟨0, Nat.zero_le _, rfl, rfl, Sim.refl _ _⟩
          case round =>
            obtain ⟨i, hi, rfl, rfl, hsim⟩ := hrel
            by_cases hil : i < l.length
            · obtain ⟨b, off, rfl, _, hc⟩ := hsl6.group (by omega)
              obtain ⟨vg, ck, hsg⟩ := hc i hil
              obtain ⟨A2, cap2, rfl, hg1, hg2⟩ := hsg.form
              unfold maxLen at hg2
              clear hc
              generalize l[i] = gr at ck hsg hg1
              have i1 : (0 : Int) ≤ (i : Int) := by omega
              have i2 : (i : Int) < (l.length : Int) := by omega
              go_wp2_with fail
              go_loopg [10] gr.length (fun G s10 wx => ∃ j : Nat, j ≤ gr.length ∧ G = gr.length - j ∧ s10 = .int .i64 j ∧ Sim B w6 wx)
              case atStart => exact ⟨0, Nat.zero_le _, rfl, rfl, hsim⟩
              case round =>
                clear hsim
                obtain ⟨j, hj, rfl, rfl, hsim⟩ := hrel
                have ckx := hsim.other ck (slice_ne _ _ _)
                by_cases hjl : j < gr.length
                · obtain ⟨b2, off2, rfl, hX2, hc⟩ := hsg.term (by omega)
                  obtain ⟨va, ⟨c0, c1, c2, c3, c4⟩, hsa⟩ := hc j hjl
                  obtain ⟨A3, cap3, rfl, ha1, ha2⟩ := hsa.form
                  unfold maxLen at ha2
                  have fr := hsg.free (j * 5) (by omega)
                  have hB2 : B ≤ b2 := by unfold old at hX2; omega
                  have frx := (hsim.frozen ⟨b2, off2 + j * 5, none⟩).trans fr
                  obtain ⟨y0, c0x⟩ := hsim.text c0
                  have hsim2 := hsim.set (z := ⟨#[33]⟩) c0 hB2
                  have ckx2 := hsim2.other ck (slice_ne _ _ _)
                  have c4x2 := hsim2.other c4 (slice_ne _ _ _)
                  clear hc fr
                  generalize gr[j] = t at c0 c1 c2 c3 c4 hsa ha1 c4x2
                  have j1 : (0 : Int) ≤ (j : Int) := by omega
                  have j2 : (j : Int) < (gr.length : Int) := by omega
                  go_upto_region 17 with fail
                  generalize wr.setCell ⟨b2, off2 + j * 5, none⟩ (.string ⟨#[33]⟩) = W7 at hsim2 ckx2 c4x2 ⊢
                  clear ckx c0x frx hsim
                  go_wp2_with fail
                  go_loopg [11] t.archs.length (fun G s11 wz => ∃ n : Nat, n ≤ t.archs.length ∧ G = t.archs.length - n ∧ s11 = .int .i64 n ∧ Sim B w6 wz)
                  case atStart => exact ⟨0, Nat.zero_le _, rfl, rfl, hsim2⟩
                  case round =>
                    clear hsim2 ckx2 c4x2
                    obtain ⟨n, hnn, rfl, rfl, hsim⟩ := hrel
                    have ckx := hsim.other ck (slice_ne _ _ _)
                    have c4x := hsim.other c4 (slice_ne _ _ _)
                    by_cases hnl : n < t.archs.length
                    · obtain ⟨b3, off3, rfl, hX3, hc⟩ := hsa.textX (by omega)
                      have cn := hc n hnl
                      have fr := hsa.free n (by omega)
                      have hB3 : B ≤ b3 := by unfold old at hX3; omega
                      have frx := (hsim.frozen ⟨b3, off3 + n, none⟩).trans fr
                      obtain ⟨y0, cnx⟩ := hsim.text cn
                      have hsim2 := hsim.set (z := ⟨#[33]⟩) cn hB3
                      clear hc fr hsim
                      have n1 : (0 : Int) ≤ (n : Int) := by omega
                      have n2 : (n : Int) < (t.archs.length : Int) := by omega
                      go_wp2_with fail
                      go_roundg (t.archs.length - (n + 1))
                      case measure => omega
                      case rel => exact ⟨n + 1, by omega, rfl, by go_num, hsim2⟩
                    · obtain rfl : n = t.archs.length := by omega
                      go_wp2_with fail
                      go_roundg (gr.length - (j + 1))
                      case measure => omega
                      case rel => exact ⟨j + 1, by omega, rfl, by go_num, hsim⟩
                · obtain rfl : j = gr.length := by omega
                  go_wp2_with fail
                  go_roundg (l.length - (i + 1))
                  case measure => omega
                  case rel => exact ⟨i + 1, by omega, rfl, by go_num, hsim⟩
            · obtain rfl : i = l.length := by omega
              have q7 : Below w.heap.size w wr := q6.trans (hsim.below.mono hB)
              go_wp2_with fail
              refine (parse_any pt _ hlen (hw.below q7)).mono ?_
              rw [HB.out]
              rintro e w8 ⟨⟨v8, rfl, hsl8⟩, hb8⟩
              obtain ⟨A8, cap8, rfl, _, _⟩ := hsl8.form
              have q8 := below_trans q7 hb8
              have s8 := Below.sl good_group q8 hsl
              go_wp2_with fail
              refine (same_yes l _ _ _ _ _ hsl8 s8).mono ?_
              rintro e w9 ⟨rfl, hb9⟩
              have q9 := below_trans q8 hb9
              clear hsl8 s8 hb8 hb9 q8 q7 hsim
              go_wp2_with fail
              go_meet
              exact q9
        · have hb0 : (pe == 0) = false := by simpa using h0
          clear h0 HP
          go_wp2_with fail
          go_meet
          exact q3
      case rest =>
        clear q3 HP
        have q4 : Below w.heap.size w wc := hcut
        clear hcut
        go_wp2_with fail
        refine (parse_any a _ (by omega) (hw.below q4)).mono ?_
        have HRR := Lib.hid (read_right a)
        have HRW := Lib.hid (read_wrong a)
        obtain ⟨X, HX⟩ : ∃ x, Hid (parseS a = x) := ⟨_, Lib.hid rfl⟩
        rw [HX.out] at HRR HRW
        rw [HX.out]
        obtain ⟨k, at_, cd⟩ := X
        have HRR : Hid (cd = 0 → chkS k = 0 ∧ fw k ≤ a.length ∧ at_ = 0) := Lib.hid HRR.out
        have HRW : Hid (cd ≠ 0 → k = [] ∧ 0 ≤ at_ ∧ at_ ≤ a.length) := Lib.hid HRW.out
        rintro e w5 ⟨⟨v5, rfl, hsl5⟩, hb5⟩
        have q5 := below_trans q4 hb5
        obtain ⟨A5, cap5, rfl, hk1, hk2⟩ := hsl5.form
        have n5 := Blk.new w5 41 #[.string ⟨#[]⟩, .int .i64 at_, .int .i64 cd]
        have hb6 : Below w5.heap.size w5 (w5.alloc (.cells #[.string ⟨#[]⟩, .int .i64 at_, .int .i64 cd] 41)) := (Below.refl _ _).alloc (Nat.le_refl _) _
        have q6 := below_trans q5 hb6
        have hsl6 := Below.sl good_group hb6 hsl5
        have z0 : (w5.alloc (.cells #[.string ⟨#[]⟩, .int .i64 at_, .int .i64 cd] 41)).cell? ⟨w5.heap.size, 0, none⟩ = some (.string ⟨#[]⟩) := n5.cell 0
        have z1 : (w5.alloc (.cells #[.string ⟨#[]⟩, .int .i64 at_, .int .i64 cd] 41)).cell? ⟨w5.heap.size, 1, none⟩ = some (.int .i64 at_) := n5.cell 1
        have z2 : (w5.alloc (.cells #[.string ⟨#[]⟩, .int .i64 at_, .int .i64 cd] 41)).cell? ⟨w5.heap.size, 2, none⟩ = some (.int .i64 cd) := n5.cell 2
        by_cases h0 : cd = 0
        · obtain ⟨hck, hfw, hat⟩ := HRR.out h0
          have hF := right_fs k hck (by omega)
          have hx := hF.2
          have HF2 := Lib.hid hF.1
          have HB := Lib.hid (back_read k hck)
          have HP2 : Hid (printS k = (fieldT k, 0)) := Lib.hid (by rw [printS, if_pos hck])
          subst h0
          subst hat
          clear hck hF HRR HRW HX hsl5 hb5 hb6 n5 q5
          generalize fieldT k = tx at HB HP2 hx
          go_upto_region 25 with fail
          generalize w5.alloc (.cells #[.string ⟨#[]⟩, .int .i64 0, .int .i64 0] 41) = W6 at q6 hsl6 z0 z1 z2 ⊢
          go_wp2_with fail
          refine (dprint_any k _ _ _ hsl6 HF2.out (hw.below q6) (hg.below q6)).mono ?_
          rw [HP2.out]
          rintro e w7 ⟨rfl, hb7⟩
          have q7 := below_trans q6 hb7
          have hsl7 := Below.sl good_group hb7 hsl6
          clear hb7 hsl6 q6 z0 z1 z2
          go_wp2_with fail
          refine (parse_any tx _ (by omega) (hw.below q7)).mono ?_
          rw [HB.out]
          rintro e w8 ⟨⟨v8, rfl, hsl8⟩, hb8⟩
          obtain ⟨A8, cap8, rfl, _, _⟩ := hsl8.form
          have n8 := Blk.new w8 41 #[.string ⟨#[]⟩, .int .i64 0, .int .i64 0]
          have hb9 : Below w8.heap.size w8 (w8.alloc (.cells #[.string ⟨#[]⟩, .int .i64 0, .int .i64 0] 41)) := (Below.refl _ _).alloc (Nat.le_refl _) _
          have q9 := below_trans (below_trans q7 hb8) hb9
          have s1 := Below.sl good_group hb9 (Below.sl good_group hb8 hsl7)
          have s2 := Below.sl good_group hb9 hsl8
          have z0 : (w8.alloc (.cells #[.string ⟨#[]⟩, .int .i64 0, .int .i64 0] 41)).cell? ⟨w8.heap.size, 0, none⟩ = some (.string ⟨#[]⟩) := n8.cell 0
          have z1 : (w8.alloc (.cells #[.string ⟨#[]⟩, .int .i64 0, .int .i64 0] 41)).cell? ⟨w8.heap.size, 1, none⟩ = some (.int .i64 0) := n8.cell 1
          have z2 : (w8.alloc (.cells #[.string ⟨#[]⟩, .int .i64 0, .int .i64 0] 41)).cell? ⟨w8.heap.size, 2, none⟩ = some (.int .i64 0) := n8.cell 2
          clear n8 hb8 hb9 hsl7 hsl8
          go_upto_region 29 with fail
          generalize w8.alloc (.cells #[.string ⟨#[]⟩, .int .i64 0, .int .i64 0] 41) = W9 at q9 s1 s2 z0 z1 z2 ⊢
          go_wp2_with fail
          refine (same_yes k _ _ _ _ _ s1 s2).mono ?_
          rintro e w10 ⟨rfl, hb10⟩
          have q10 := below_trans q9 hb10
          clear s1 s2 z0 z1 z2 hb10 q9
          go_wp2_with fail
          go_ret
          exact ⟨rfl, q10⟩
        · obtain ⟨hk, ha1, ha2⟩ := HRW.out h0
          subst hk
          have e1 : (cd == 0) = false := by simpa using h0
          have e2 : (cd != 0) = true := by simpa using h0
          have e3 : decide ((0 : Int) ≤ at_) = true := by simpa using ha1
          have e4 : decide (at_ ≤ ((bs a).size : Int)) = true := by rw [hz]; simpa using ha2
          clear HRR HRW HX hsl5 hb5 hb6 n5 q5 h0
          go_upto_region 25 with fail
          generalize w5.alloc (.cells #[.string ⟨#[]⟩, .int .i64 at_, .int .i64 cd] 41) = W6 at q6 hsl6 z0 z1 z2 ⊢
          go_wp2_with fail
          go_ret
          exact ⟨rfl, q6⟩
end Go.Proofs.YtdnncbhbajciaaaDoor
