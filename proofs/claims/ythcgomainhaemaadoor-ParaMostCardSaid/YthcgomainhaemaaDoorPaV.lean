/- The law on just so many paragraphs: plain, and its walk. -/
import Derived.Test.YthcgomainhaemaaDoorPaT
import Derived.Test.YthcgomainhaemaaDoorPaN
namespace Go.Proofs.YthcgomainhaemaaDoor
open Go.RowKit
def oneP : List Fd := [([65], [120])]
def unitT : List UInt8 := [65, 58, 120, 10, 10]
def manyP (n : Nat) : List (List Fd) := List.replicate n oneP
def manyT (n : Nat) : List UInt8 := (List.replicate n unitT).flatten
theorem manyT_succ (n : Nat) : manyT (n + 1) = manyT n ++ unitT := by
  rw [manyT, List.replicate_succ', List.flatten_append]; simp [manyT]
theorem manyT_cons (n : Nat) : manyT (n + 1) = [65, 58, 120] ++ 10 :: ([] ++ 10 :: manyT n) := by
  rw [manyT, List.replicate_succ]; rfl
theorem manyT_len (n : Nat) : (manyT n).length = 5 * n := by
  induction n with
  | zero => rfl
  | succ n ih => rw [manyT_succ, List.length_append, ih]; rfl
theorem manyP_len (n : Nat) : (manyP n).length = n := List.length_replicate
theorem line_one (all : List (List Fd)) : lineP ⟨all, []⟩ [65, 58, 120] = if all.length = 4096 then (⟨all, []⟩, 4) else (⟨all, oneP⟩, 0) := by
  rw [line_is, if_neg (by decide), if_neg (by decide), if_neg (by decide), fieldP, if_pos (by decide)]
  have e : trimR (preC58 [65, 58, 120]) = [65] := by decide
  rw [e, if_pos (by decide), if_neg (by simp [hasName])]
  by_cases h : all.length = 4096
  · rw [if_pos ⟨rfl, h⟩, if_pos h]
  · rw [if_neg (fun e => h e.2), if_neg h]
    rfl
theorem go_many : ∀ (n : Nat) (all : List (List Fd)) (a : Int), all.length + n ≤ 4096 → goP (manyT n) a ⟨all, []⟩ = (all ++ manyP n, 0, 0) := by
  intro n
  induction n with
  | zero => intro all a _; rw [show manyT 0 = [] from rfl, goP_nil]; simp [endP, manyP]
  | succ n ih =>
    intro all a h
    have h1 : all.length ≠ 4096 := by omega
    have e1 := line_one all
    rw [if_neg h1] at e1
    rw [manyT_cons, goP_line _ _ _ _ (by intro c hc; simp at hc; rcases hc with rfl | rfl | rfl <;> decide) (by rw [e1]), e1,
      goP_line [] (manyT n) _ ⟨all, oneP⟩ (fun c h => by cases h) (by rw [line_blank]), line_blank]
    have e2 : endP ⟨all, oneP⟩ = all ++ [oneP] := by rw [endP, if_neg (by simp [oneP])]
    simp only [e2]
    rw [ih (all ++ [oneP]) _ (by simp; omega), manyP, manyP, List.replicate_succ]
    simp
theorem go_over : ∀ (n : Nat) (all : List (List Fd)) (a : Int) (m : Nat), all.length + n = 4096 → goP (manyT (n + 1 + m)) a ⟨all, []⟩ = ([], a + 5 * n, 4) := by
  intro n
  induction n with
  | zero =>
    intro all a m h
    have h1 : all.length = 4096 := by omega
    have e1 := line_one all
    rw [if_pos h1] at e1
    have hl : lineOf (manyT (0 + 1 + m)) = [65, 58, 120] := by
      rw [show 0 + 1 + m = m + 1 by omega, manyT_cons]
      exact tw_app _ [65, 58, 120] _ 10 (by intro x hx; simp at hx; rcases hx with rfl | rfl | rfl <;> decide) (by decide)
    rw [goP_bad _ a _ (by intro e; have := congrArg List.length e; rw [manyT_len, List.length_nil] at this; omega) (by rw [hl, e1]; simp), hl, e1]
    simp
  | succ n ih =>
    intro all a m h
    have h1 : all.length ≠ 4096 := by omega
    have e1 := line_one all
    rw [if_neg h1] at e1
    rw [show n + 1 + 1 + m = (n + 1 + m) + 1 by omega, manyT_cons, goP_line _ _ _ _ (by intro c hc; simp at hc; rcases hc with rfl | rfl | rfl <;> decide) (by rw [e1]), e1,
      goP_line [] _ _ ⟨all, oneP⟩ (fun c h => by cases h) (by rw [line_blank]), line_blank]
    have e2 : endP ⟨all, oneP⟩ = all ++ [oneP] := by rw [endP, if_neg (by simp [oneP])]
    simp only [e2]
    rw [ih (all ++ [oneP]) _ m (by simp; omega)]
    simp
    omega
theorem many_parse (n : Nat) (h : n ≤ 4096) : parseP (manyT n) = (manyP n, 0, 0) := by
  rw [parseP, go_many n [] 0 (by simpa using h)]; rfl
theorem over_parse (n : Nat) (h : 4096 < n) : parseP (manyT n) = ([], 20480, 4) := by
  rw [parseP, show n = 4096 + 1 + (n - 4097) by omega, go_over 4096 [] 0 _ (by rfl)]; rfl
theorem many_chk (n : Nat) : chkP (manyP n) = if 4096 < n then 4 else 0 := by
  have hp : ∀ m, paErr (manyP m) = 0 := fun m => paErr_all _ fun p hp => by
    rw [List.eq_of_mem_replicate hp]
    exact ⟨by decide, by decide⟩
  rw [chkP, manyP_len, hp]
theorem many_ps (n : Nat) (h : n ≤ 4100) : PS (manyP n) := by
  refine ⟨by rw [manyP_len]; omega, fun p hp => ?_⟩
  rw [List.eq_of_mem_replicate hp]
  refine ⟨by decide, fun f hf => ?_⟩
  simp [oneP] at hf
  subst hf
  decide
theorem lit_field {w : World} {g : Nat} {X : Nat → Prop} (h : Blk w g tF #[.string (bs [65]), .string (bs [120])]) (hX : ¬ X g) : Sl 2 Rfield X w (.slice (some ⟨g, 0, none⟩) 1 1) oneP := by
  refine ⟨_, 1, rfl, Nat.le_refl _, by unfold maxLen; omega, (fun h => by cases h), fun _ => ⟨g, 0, rfl, hX, fun j hj => ?_⟩, fun b off hA i _ => ?_⟩
  · have : j = 0 := by simpa [oneP] using hj
    subst this
    refine ⟨[.string (bs [65]), .string (bs [120])], fun i u hu => ?_, rfl⟩
    rw [h.cell]
    simpa using hu
  · injection hA with hA
    injection hA with e1 e2
    subst e1 e2
    exact h.frozen _
/-- The list that is being made. -/
def MkP (B : Nat) (k : Nat) (v : Value) (w : World) : Prop :=
  ∃ gs : List Nat, gs.length = k ∧ OwnL 1 Rval tP B nowhere w v (gs.map fun g => .slice (some ⟨g, 0, none⟩) 1 1) ∧ ∀ g ∈ gs, Blk w g tF #[.string (bs [65]), .string (bs [120])]
theorem MkP.below {B k : Nat} {v : Value} {w w' : World} (h : MkP B k v w) (hb : Below w.heap.size w w') : MkP B k v w' := by
  obtain ⟨gs, h1, h2, h3⟩ := h
  exact ⟨gs, h1, h2.kept free_val (Kept.of_below hb nowhere) (fun _ _ h => h), fun g hg => (h3 g hg).below hb (h3 g hg).lt⟩
theorem row_typed {B : Nat} {e : TypeId} {w : World} {u : Value} {n : Nat} {xs : List Value} (hu : w.ownsRow B e 1 u n xs) {b : Nat} (hb : u.ownBlock = some b) : ∃ cs, Blk w b e cs := by
  rcases hu.2 with ⟨rfl, _⟩ | ⟨g', cap, cur, rfl, _, hh, _⟩
  · simp [Value.ownBlock] at hb
  · simp [Value.ownBlock] at hb
    subst hb
    exact ⟨cur, hh⟩
/-- Another row, of bytes, grows beside it. -/
theorem MkP.beside {B k : Nat} {v : Value} {w w' : World} (h : MkP B k v w) {u : Value} {n : Nat} {xs : List Value} (hu : w.ownsRow B 5 1 u n xs) (hk : w.grownBy w' u.ownBlock) : MkP B k v w' := by
  obtain ⟨gs, h1, h2, h3⟩ := h
  have hu2 : ∀ b, u.ownBlock = some b → ∃ cs, Blk w b 5 cs := fun b hb => by
    rcases hu.2 with ⟨rfl, _⟩ | ⟨g', cap, cur, rfl, _, hh, _⟩
    · simp [Value.ownBlock] at hb
    · simp [Value.ownBlock] at hb
      subst hb
      exact ⟨cur, hh⟩
  refine ⟨gs, h1, h2.kept free_val (Kept.grown hk) fun b hb hu3 => ?_, fun g hg => (h3 g hg).grown hk fun e => ?_⟩
  · obtain ⟨cs, hcs⟩ := hu2 b hu3
    exact h2.apartB hcs (by decide) hb
  · obtain ⟨cs, hcs⟩ := hu2 g e
    have := hcs.symm.trans (h3 g hg)
    injection this with this
    injection this with _ this
    exact absurd this (by decide)
theorem MkP.sl {B k : Nat} {v : Value} {w : World} (h : MkP B k v w) : Sl 1 Rpara nowhere w v (manyP k) := by
  obtain ⟨gs, h1, h2, h3⟩ := h
  refine slices_own (X := fun b => v.ownBlock = some b) (by rw [List.length_map, manyP_len, h1]) h2 (fun i hi hi' => ?_) fun _ _ h => h
  have hi2 : i < gs.length := by simpa using hi'
  have he : (manyP k)[i] = oneP := by simp [manyP]
  rw [List.getElem_map, he]
  refine lit_field (h3 _ (List.getElem_mem hi2)) fun e => ?_
  exact h2.apartB (h3 _ (List.getElem_mem hi2)) nePF e
theorem bvs_many (k : Nat) : bvs (manyT (k + 1)) = bvs (manyT k) ++ Lib.strCells (bs unitT) := by
  rw [manyT_succ, bvs, List.map_append]; rfl
set_option maxRecDepth 20000 in
set_option maxHeartbeats 16000000 in
theorem law_most (n : Int) (w : World) (hn0 : -9223372036854775808 ≤ n ∧ n ≤ 9223372036854775807) (hm : MaxC w) :
    Calls Tryd.prog 5 #[.int .i64 n] w fun e w' => e = .returned (.bool true) ∧ Below w.heap.size w w' := by
  have hml := hm.lt
  obtain ⟨i0, hi, hz0, hz1, hz2⟩ := info_parts u8info
  go_enter Tryd.func5, Tryd.ntmps5
  go_wp2_with fail
  refine (awakeP _ hm).mono ?_
  rintro e w1 ⟨rfl, hb1⟩
  by_cases hlo : n < 4090
  · have hd : decide (n < (4090 : Int)) = true := by simpa using hlo
    go_wp2_with fail
    go_ret
    exact ⟨rfl, hb1⟩
  · have hd : decide (n < (4090 : Int)) = false := by simpa using hlo
    by_cases hhi : 4100 < n
    · have hd2 : decide ((4100 : Int) < n) = true := by simpa using hhi
      go_wp2_with fail
      go_ret
      exact ⟨rfl, hb1⟩
    · have hd2 : decide ((4100 : Int) < n) = false := by simpa using hhi
      go_upto_region 5 with fail
      obtain ⟨N, rfl⟩ : ∃ N : Nat, n = (N : Int) := ⟨n.toNat, by omega⟩
      have hN : N ≤ 4100 := by omega
      clear hd hd2 hlo hhi
      go_wp2_with fail
      go_loopg [3, 4, 5] N (fun G s3 s4 s5 wr => ∃ k : Nat, k ≤ N ∧ G = N - k ∧ s5 = .int .i64 k ∧ Below w.heap.size w wr ∧ MkP w.heap.size k s3 wr ∧ wr.ownsRow w.heap.size 5 1 s4 (5 * k) (bvs (manyT k)))
      case atStart => exact ⟨0, Nat.zero_le _, rfl, rfl, hb1, ⟨[], rfl, OwnL.nil _ _ _ _ _ _, fun g hg => by cases hg⟩, World.ownsRow_nil _ _ _ _⟩
      case round =>
        clear hb1
        obtain ⟨k, hk, rfl, rfl, hbw, hmk, hrow⟩ := hrel
        by_cases hlt : k < N
        · obtain ⟨gs, g1, g2, g3⟩ := hmk
          obtain ⟨A3, cap3, rfl⟩ := g2.form
          have ha := (Below.refl wr.heap.size wr).alloc (Nat.le_refl _) (.cells #[.string (bs [65]), .string (bs [120])] tF)
          have hsz := hbw.size
          have b1 := Blk.new wr tF #[.string (bs [65]), .string (bs [120])]
          have hb2 := below_trans hbw ha
          have g2' := g2.kept free_val (Kept.of_below ha nowhere) (fun _ _ h => h)
          have g3' : ∀ g ∈ gs, Blk (wr.alloc (.cells #[.string (bs [65]), .string (bs [120])] tF)) g tF #[.string (bs [65]), .string (bs [120])] := fun g hg => (g3 g hg).below ha (g3 g hg).lt
          have hr2 := (Kept.of_below ha nowhere).own hrow (fun _ _ h => h)
          have hlen : (gs.map fun g => Value.slice (some ⟨g, 0, none⟩) 1 1).length = k := by rw [List.length_map, g1]
          have hsA : (wr.alloc (.cells #[.string (bs [65]), .string (bs [120])] tF)).heap.size = wr.heap.size + 1 := by simp
          have hz2' : wr.heap.size < (wr.alloc (.cells #[.string (bs [65]), .string (bs [120])] tF)).heap.size := by simp
          go_wp2_with (at_builtin; revert hsz)
          intro hsz
          refine wpList_appendL (w := wr.alloc (.cells #[.string (bs [65]), .string (bs [120])] tF)) good_val rfl _ _ _ _ (.slice none 0 0) 24 rfl Tryd.underlying22 info_slp rfl (by omega) w.heap.size rfl g2' [.slice (some ⟨wr.heap.size, 0, none⟩) 1 1] (.slice (some ⟨wr.heap.size, 0, none⟩) 1 1) (by rw [hsA]; rfl) ⟨rfl, rfl⟩ (by omega) (by omega) (by omega) (fun k hk hk2 => hk2) ?_
          intro v5 w5 hown5 hk5
          have hbk5 := hk5.below (B := w.heap.size) (by omega) (fun k _ e => (g2'.typed e).1)
          have hr3 := hk5.own hr2 (fun b hb e => by
            obtain ⟨cs, hcs⟩ := row_typed hr2 hb
            exact g2'.apartB hcs (by decide) e)
          have hmk5 : MkP w.heap.size (k + 1) v5 w5 := ⟨gs ++ [wr.heap.size], by simp [g1], by rw [List.map_append]; exact hown5, fun g hg => by
            rcases List.mem_append.1 hg with hg | hg
            · exact hk5.blk (g3' g hg) (g2'.apartB (g3' g hg) nePF)
            · simp at hg
              subst hg
              exact hk5.blk b1 (g2'.apartB b1 nePF)⟩
          have q5 := (hbw.trans (ha.mono hsz)).trans hbk5
          have hsz5 := q5.size
          clear hk5 hown5 g2 g2' g3 g3' hrow hr2 b1 hbk5 hb2 ha
          go_wp2_with (at_builtin; revert hsz)
          intro hsz
          refine Lib.wpList_append_own_string _ rfl _ _ 35 9 rfl w.heap.size 5 i0 Tryd.underlying35 Tryd.underlying9 hi hz0 hz1 hz2 _ _ _ rfl hr3 (bs unitT) rfl ?c3 ?c4 ?c5 ?_
          case c3 => unfold maxLen; rw [bs_size, show unitT.length = 5 from rfl]; omega
          case c4 => rw [bs_size, show unitT.length = 5 from rfl]; omega
          case c5 => omega
          intro v6 w6 hown6 hgrow _
          have hmk6 := hmk5.beside hr3 hgrow
          have q6 := q5.grown hgrow hsz5 (fun k hk => (hr3.lt k hk).1)
          have hr6 : w6.ownsRow w.heap.size 5 1 v6 (5 * (k + 1)) (bvs (manyT (k + 1))) := by rw [bvs_many]; exact hown6
          clear hown6 hgrow hr3 hmk5
          go_wp2_with fail
          go_roundg (N - (k + 1))
          case measure => omega
          case rel => exact ⟨k + 1, by omega, rfl, by simp, q6, hmk6, hr6⟩
        · have hkN : k = N := by omega
          subst hkN
          have hsl := hmk.sl
          have c1 : (convert 35 9 _).run Tryd.prog wr = .ok (.string (bs (manyT k))) wr := str8 (SB.of_own hrow)
          clear hmk hrow hm
          go_wp2_with fail
          refine (pparse_any (manyT k) _ (by rw [manyT_len]; omega)).mono ?_
          by_cases hk4 : 4096 < k
          · rw [over_parse k hk4]
            rintro e w4 ⟨⟨v4, rfl, hs4⟩, hb4⟩
            obtain ⟨A4, cap4, rfl, _, _⟩ := hs4.form
            have b4 := Blk.new w4 30 #[.string ⟨#[]⟩, .int .i64 20480, .int .i64 4]
            have hb5 : Below w4.heap.size w4 (w4.alloc (.cells #[.string ⟨#[]⟩, .int .i64 20480, .int .i64 4] 30)) := (Below.refl _ _).alloc (Nat.le_refl _) _
            have hd : decide ((4096 : Int) < (k : Int)) = true := by simp; omega
            go_upto_region 13 with fail
            have s5 := Below.sl good_para hb5 (Below.sl good_para hb4 hsl)
            have q5 := below_trans (below_trans hbw hb4) hb5
            generalize w4.alloc (.cells #[.string ⟨#[]⟩, .int .i64 20480, .int .i64 4] 30) = W4 at b4 s5 q5 ⊢
            go_wp2_with fail
            refine (pcheck_any (manyP k) _ nowhere _ s5 (many_ps k hN)).mono ?_
            rw [many_chk, if_pos hk4]
            rintro e w6 ⟨rfl, hb6⟩
            have b6 := b4.below hb6 b4.lt
            have d0 := b6.cell 0
            have d1 := b6.cell 1
            have d2 := b6.cell 2
            simp at d0 d1 d2
            go_wp2_with fail
            go_ret
            exact ⟨rfl, below_trans q5 hb6⟩
          · rw [many_parse k (by omega)]
            rintro e w4 ⟨⟨v4, rfl, hs4⟩, hb4⟩
            obtain ⟨A4, cap4, rfl, _, _⟩ := hs4.form
            have b4 := Blk.new w4 30 #[.string ⟨#[]⟩, .int .i64 0, .int .i64 0]
            have hb5 : Below w4.heap.size w4 (w4.alloc (.cells #[.string ⟨#[]⟩, .int .i64 0, .int .i64 0] 30)) := (Below.refl _ _).alloc (Nat.le_refl _) _
            have hd : decide ((4096 : Int) < (k : Int)) = false := by simp; omega
            go_upto_region 13 with fail
            have s4 := Below.sl good_para hb5 hs4
            have s5 := Below.sl good_para hb5 (Below.sl good_para hb4 hsl)
            have q5 := below_trans (below_trans hbw hb4) hb5
            generalize w4.alloc (.cells #[.string ⟨#[]⟩, .int .i64 0, .int .i64 0] 30) = W4 at b4 s4 s5 q5 ⊢
            go_wp2_with fail
            refine (pcheck_any (manyP k) _ nowhere _ s5 (many_ps k hN)).mono ?_
            rw [many_chk, if_neg hk4]
            rintro e w6 ⟨rfl, hb6⟩
            have b6 := b4.below hb6 b4.lt
            have d0 := b6.cell 0
            have d1 := b6.cell 1
            have d2 := b6.cell 2
            simp at d0 d1 d2
            have s6 := Below.sl good_para hb6 s4
            have s7 := Below.sl good_para hb6 s5
            have q6 := below_trans q5 hb6
            go_wp2_with fail
            refine (psame_yes (manyP k) _ _ _ _ _ s6 s7).mono ?_
            rintro e w7 ⟨rfl, hb7⟩
            go_wp2_with fail
            go_ret
            exact ⟨rfl, below_trans q6 hb7⟩
end Go.Proofs.YthcgomainhaemaaDoor
