/- Walks of slices.Grow and slices.Concat on integers, and of vmap's small functions. -/
import Derived.Test.YtdfpdmddiapnmaaDoorBld
import Derived.Test.YtdfpdmddiapnmaaDoorVmS
import Derived.Test.YtdfpdmddiapnmaaDoorCodT
import Derived.Lib.AppendZerosOnto
import Derived.Lib.Walk
namespace Go.Proofs.YtdfpdmddiapnmaaDoor
open Go.RowKit
def Rint : Rel Int := fun _ _ cs a => cs = [.int .i64 a]
theorem good_int : Good 1 Rint := ⟨fun h _ => h, fun h _ => h, (fun h => by subst h; rfl), (fun h u hu => by subst h; simp at hu; subst hu; rfl)⟩
theorem Sl.ints {X : Nat → Prop} {w : World} {A : Option Addr} {n cap : Nat} {l : List Int} (h : Sl 1 Rint X w (.slice A n cap) l) (hn : 0 < n) :
    n = l.length ∧ n ≤ cap ∧ cap ≤ maxLen ∧ ∃ b off, A = some ⟨b, off, none⟩ ∧ ∀ j (h : j < l.length), w.cell? ⟨b, off + j, none⟩ = some (.int .i64 l[j]) := by
  obtain ⟨h1, h2, h3, h4⟩ := h.at
  obtain ⟨b, off, hA, _, hc⟩ := h4 hn
  refine ⟨h1, h2, h3, b, off, hA, fun j hj => ?_⟩
  obtain ⟨cs, hcs, hR⟩ := hc j hj
  have hR : cs = [.int .i64 l[j]] := hR
  subst hR
  have := hcs 0 _ rfl
  simpa using this
def ivs (l : List Int) : List Value := l.map fun n => .int .i64 n
theorem i64info : (Tryd.prog.info? 3).map (fun i => (i.zero, i.size, i.bytes)) = some (some (.int .i64 0), 1, 8) := by kernel_rfl
theorem ivs_own {w : World} {base : Nat} {e : TypeId} {v : Value} {l : List Int} {X : Nat → Prop} (h : w.ownsRow base e 1 v l.length (ivs l)) (hX : ∀ k, v.ownBlock = some k → ¬ X k) : OwnL 1 Rint e base X w v l := by
  refine ⟨l.map fun n => [.int .i64 n], ?_, by simp, hX, fun j h h' => by simp [Rint]⟩
  have : (l.map fun n => [Value.int .i64 n]).flatten = ivs l := by
    clear h hX
    induction l with
    | nil => rfl
    | cons a l ih => simp [ivs] at ih ⊢; exact ih
  rw [this]; exact h
set_option maxRecDepth 100000 in
set_option maxHeartbeats 2000000 in
theorem grow_nil (n : Nat) (w : World) (h0 : 0 < n) (hn : n ≤ 1000000000) :
    Calls Tryd.prog 75 #[.slice none 0 0, .int .i64 n] w fun e w' => ∃ v, e = .returned v ∧ w'.ownsRow w.heap.size 3 1 v 0 [] ∧ Below w.heap.size w w' := by
  obtain ⟨i0, hi, hz0, hz1, hz2⟩ := info_parts i64info
  have h3 : ¬ ((n : Int) < 0) := by omega
  have h4 : (n : Int) > 0 := by omega
  have hrz : ∀ ty, (Builtin.append_ #[28, 3] ty #[.slice none 0 0, .int .i64 (n : Int)]).run Tryd.prog w = .ok (.slice (some ⟨w.heap.size, 0, none⟩) n (grownCap w n 0 3)) (w.drew.alloc (.cells (([] : List Value).toArray ++ Builtin.zeroCells (Value.int .i64 0).cells n ++ Builtin.zeroCells (Value.int .i64 0).cells (grownCap w n 0 3 - n)) 3)) := fun ty => by
    have h := Lib.run_append_grow_zeros w 28 3 ty 3 i0 (.int .i64 0) .i64 .i64 Tryd.underlying28 Tryd.underlying3 hi hz0 none 0 0 [] (run_firstCells_none w.drew i0.size 0 0 0) n h0 (by omega) (by omega) (by omega) (by rw [hz2]; omega)
      (by rw [hz2]; exact growslice_fits (by omega) (by omega))
    rw [Nat.zero_add] at h
    exact h
  have hG := grownCap_ge w n 0 3
  have hG2 := grownCap_le_maxLen w n 0 3 (by unfold maxLen; omega)
  obtain ⟨G, HG⟩ : ∃ G, Hid (grownCap w n 0 3 = G) := ⟨_, Lib.hid rfl⟩
  rw [HG.out] at hrz hG hG2
  have hG3 : G ≤ 9223372036854775807 := by unfold maxLen at hG2; omega
  go_enter Tryd.func75, Tryd.ntmps75
  go_wp2_with (at_builtin; refine Lib.wpList_append_run _ rfl _ _ _ _ rfl _ _ rfl rfl _ _ (hrz _) ?_)
  go_ret
  refine ⟨_, rfl, ⟨by simp, .inr ⟨w.heap.size, G, _, rfl, Nat.le_refl _, heap_alloc_new w.drew _, by omega, hG2, ?_, by simp⟩⟩, (Below.refl _ _).drew.alloc (by simp) _⟩
  simp [Builtin.zeroCells]
  omega

theorem ivs_app (a b : List Int) : ivs a ++ ivs b = ivs (a ++ b) := by simp [ivs]
theorem ivs_get (l : List Int) (j : Nat) (h : j < l.length) : (ivs l)[j]? = some (.int .i64 l[j]) := by simp [ivs, h]
theorem ivs_one (l : List Int) : ∀ u ∈ ivs l, u.oneCell' = true := by
  intro u hu
  obtain ⟨b, _, rfl⟩ := List.mem_map.1 hu
  rfl
/-- append of integers onto a row of the call's own. -/
theorem wpList_appendI {w : World} {ops : Array Oper} {rest : List Oper} {o : Oper} {a : Act} {Q : Exit → Act → World → Prop} (hgd : o.guard = none) (s x : Operand)
    (ho : o.op = .call { callee := .builtin .append, args := #[s, x], argTypes := #[28, 28] })
    (base : Nat) (v : Value) (l : List Int) (hs : a.eval s = v) (hown : w.ownsRow base 3 1 v l.length (ivs l))
    (A : Option Addr) (m c : Nat) (news : List Int) (X : Nat → Prop) (hx : a.eval x = .slice A m c) (hsb : Sl 1 Rint X w (.slice A m c) news)
    (hn : l.length + m ≤ 1000000000) (hbase : base ≤ w.heap.size)
    (h : ∀ v' w', w'.ownsRow base 3 1 v' (l ++ news).length (ivs (l ++ news)) → Below base w w' → w.grownBy w' v.ownBlock → wpList Tryd.prog ops Q rest (a.put o.dst v') w') : wpList Tryd.prog ops Q (o :: rest) a w := by
  obtain ⟨i0, hi, hz0, hz1, hz2⟩ := info_parts i64info
  have hm := (hsb.at).1
  have fin : ∀ v' w', w'.ownsRow base 3 1 v' (l.length + m) (ivs l ++ ivs news) → w.grownBy w' v.ownBlock → wpList Tryd.prog ops Q rest (a.put o.dst v') w' := fun v' w' h1 h2 =>
    h v' w' (by rw [ivs_app] at h1; rw [List.length_append, ← hm]; exact h1) ((Below.refl _ _).grown h2 hbase (fun k hk => (hown.lt k hk).1)) h2
  rcases Nat.eq_zero_or_pos m with h0 | h0
  · subst h0
    have hnews : news = [] := List.eq_nil_of_length_eq_zero hm.symm
    subst hnews
    cases A with
    | none =>
      obtain ⟨_, cap', hv, _, _, hc0, _⟩ := hsb
      injection hv with e1 e2 e3
      have hc0 := hc0 e1.symm
      subst e3
      subst hc0
      have hrun := run_append_owned_none (P := Tryd.prog) w base 28 o.type 3 i0 1 Tryd.underlying28 hi v l.length (ivs l) hown
      refine wpList_plain hgd fun _ hK => ?_
      unfold Oper.wp execOp
      simp only [ho, resolve, invoke, builtin, Sem.run_bind, Sem.run_pure, Result.andThen_ok, List.map_toArray, List.map_cons, List.map_nil, hs, hx, hrun]
      exact hK _ _ (fin v w (by simpa [ivs] using hown) (World.grownBy.refl w _))
    | some ad =>
      refine wpList_plain hgd fun _ hK => ?_
      refine wp_append_own w s x _ ho base 3 i0 _ 1 8 Tryd.underlying28 hi hz0 hz1 hz2 rfl (by decide) v l.length (ivs l) hs hown ad 0 c [] hx rfl (fun j u hu => by simp at hu) (fun u hu => by simp at hu) (by unfold maxLen; omega) (by omega) hbase ?_
      intro v' w' h1 h2 _
      exact hK _ _ (fin v' w' (by simpa [ivs] using h1) h2)
  · obtain ⟨_, _, _, b, off, rfl, hcell⟩ := hsb.ints h0
    refine wpList_plain hgd fun _ hK => ?_
    refine wp_append_own w s x _ ho base 3 i0 _ 1 8 Tryd.underlying28 hi hz0 hz1 hz2 rfl (by decide) v l.length (ivs l) hs hown ⟨b, off, none⟩ m c (ivs news) hx (by simp [ivs, hm]) ?_ (ivs_one _) (by unfold maxLen; omega) (by omega) hbase ?_
    · intro j u hu
      have hj : j < news.length := by have := (List.getElem?_eq_some_iff.1 hu).1; simpa [ivs] using this
      rw [ivs_get news j hj] at hu
      rw [Addr.add_lit, hcell j hj]
      exact hu
    · intro v' w' h1 h2 _
      exact hK _ _ (fin v' w' h1 h2)
set_option maxRecDepth 100000 in
set_option maxHeartbeats 4000000 in
/-- slices.Concat of two slices of integers. -/
theorem concat_any (g : Nat) (v1 v2 : Value) (l1 l2 : List Int) (X : Nat → Prop) (w : World) (h1 : Sl 1 Rint X w v1 l1) (h2 : Sl 1 Rint X w v2 l2) (hl : l1.length + l2.length ≤ 1000000) (hp : 0 < l1.length)
    (hg0 : w.cell? ⟨g, 0, none⟩ = some v1) (hg1 : w.cell? ⟨g, 1, none⟩ = some v2) :
    Calls Tryd.prog 47 #[.slice (some ⟨g, 0, none⟩) 2 2] w fun e w' => ∃ v, e = .returned v ∧ w'.ownsRow w.heap.size 3 1 v (l1 ++ l2).length (ivs (l1 ++ l2)) ∧ Below w.heap.size w w' := by
  obtain ⟨A1, c1, rfl, hc1, hm1⟩ := h1.form
  obtain ⟨A2, c2, rfl, hc2, hm2⟩ := h2.form
  unfold maxLen at hm1 hm2
  go_enter Tryd.func47, Tryd.ntmps47
  go_wp2_with fail
  go_loopg [3, 11] 2 (fun G s3 s11 wr => ∃ k N : Nat, k ≤ 2 ∧ G = 2 - k ∧ s11 = .int .i64 k ∧ s3 = .int .i64 N ∧ w = wr ∧ N ≤ 1000000 ∧ Hid ((k = 0 → N = 0) ∧ (k = 1 → N = l1.length) ∧ (k = 2 → N = l1.length + l2.length)))
  case atStart => exact ⟨0, 0, by omega, rfl, rfl, rfl, rfl, by omega, Lib.hid ⟨fun _ => rfl, fun h => by omega, fun h => by omega⟩⟩
  case round =>
    obtain ⟨k, N, hk, rfl, rfl, rfl, rfl, hN, HN⟩ := hrel
    obtain rfl | rfl | rfl : k = 0 ∨ k = 1 ∨ k = 2 := by omega
    · obtain rfl : N = 0 := HN.out.1 rfl
      go_wp2_with fail
      go_roundg 1
      case measure => omega
      case rel => exact ⟨1, l1.length, by omega, rfl, rfl, by go_num, rfl, by omega, Lib.hid ⟨fun h => by omega, fun _ => rfl, fun h => by omega⟩⟩
    · obtain rfl : N = l1.length := HN.out.2.1 rfl
      go_wp2_with fail
      go_roundg 0
      case measure => omega
      case rel => exact ⟨2, l1.length + l2.length, by omega, rfl, rfl, by go_num, rfl, by omega, Lib.hid ⟨fun h => by omega, fun h => by omega, fun _ => rfl⟩⟩
    · obtain rfl : N = l1.length + l2.length := HN.out.2.2 rfl
      go_wp2_with fail
      refine (grow_nil (l1.length + l2.length) _ (by omega) (by omega)).mono ?_
      rintro e w1 ⟨v, rfl, hown, hb⟩
      have hlg := lt_of_cell hg0
      have HG0 := Lib.hid hg0
      have HG1 := Lib.hid hg1
      clear hg0 hg1
      go_wp2_with fail
      go_loopg [6, 27] 2 (fun G s6 s27 wr => ∃ (k : Nat) (r : List Int), k ≤ 2 ∧ G = 2 - k ∧ s27 = .int .i64 k ∧ Below w.heap.size w wr ∧ wr.ownsRow w.heap.size 3 1 s6 r.length (ivs r) ∧ Hid ((k = 0 → r = []) ∧ (k = 1 → r = l1) ∧ (k = 2 → r = l1 ++ l2)))
      case atStart => exact ⟨0, [], by omega, rfl, rfl, hb, hown, Lib.hid ⟨fun _ => rfl, fun h => by omega, fun h => by omega⟩⟩
      case round =>
        clear hown hb
        obtain ⟨k, r, hk, rfl, rfl, hb, hown, HR⟩ := hrel
        have s1 := h1.keep good_int (Kept.of_below hb X)
        have s2 := h2.keep good_int (Kept.of_below hb X)
        obtain ⟨A3, c3, rfl⟩ := own_form hown
        obtain rfl | rfl | rfl : k = 0 ∨ k = 1 ∨ k = 2 := by omega
        · have hg0 := (hb.cell (p := ⟨g, 0, none⟩) hlg).trans HG0.out
          obtain rfl : r = [] := HR.out.1 rfl
          go_wp2_with (at_builtin; refine wpList_appendI rfl _ _ rfl w.heap.size _ [] rfl hown A1 l1.length c1 l1 X rfl s1 (by simp; omega) hb.size ?_; intro v2 w2 hown2 hb2 hg2)
          go_roundg 1
          case measure => omega
          case rel => exact ⟨1, l1, by omega, rfl, rfl, hb.trans hb2, hown2, Lib.hid ⟨fun h => by omega, fun _ => rfl, fun h => by omega⟩⟩
        · have hg1 := (hb.cell (p := ⟨g, 1, none⟩) hlg).trans HG1.out
          obtain rfl : r = l1 := HR.out.2.1 rfl
          go_wp2_with (at_builtin; refine wpList_appendI rfl _ _ rfl w.heap.size _ r rfl hown A2 l2.length c2 l2 X rfl s2 (by omega) hb.size ?_; intro v2 w2 hown2 hb2 hg2)
          go_roundg 0
          case measure => omega
          case rel => exact ⟨2, r ++ l2, by omega, rfl, rfl, hb.trans hb2, hown2, Lib.hid ⟨fun h => by omega, fun h => by omega, fun _ => rfl⟩⟩
        · obtain rfl : r = l1 ++ l2 := HR.out.2.2 rfl
          go_wp2_with fail
          go_ret
          refine ⟨_, rfl, ?_, hb⟩
          rw [List.length_append] at hown
          exact hown
end Go.Proofs.YtdfpdmddiapnmaaDoor
