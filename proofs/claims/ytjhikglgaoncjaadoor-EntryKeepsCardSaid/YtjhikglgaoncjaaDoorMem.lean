/- Slices of whatever things that lie in memory, read as lists; what is kept but for some blocks; rows that are being made. Over any program. -/
import Derived.Test.YtjhikglgaoncjaaDoorBas2
namespace Go.Proofs.YtjhikglgaoncjaaDoor
open Go.RowKit
/-- But for the blocks of X, what was there is there. -/
structure Kept (X : Nat → Prop) (w w' : World) : Prop where
  os : w'.os = w.os
  tape : w'.tape = w.tape
  output : w'.output = w.output
  size : w.heap.size ≤ w'.heap.size
  block : ∀ k, k < w.heap.size → ¬ X k → w'.heap[k]? = w.heap[k]?
def nowhere : Nat → Prop := fun _ => False
namespace Kept
variable {X Y : Nat → Prop} {a b c w w' : World}
theorem refl (X : Nat → Prop) (w : World) : Kept X w w := ⟨rfl, rfl, rfl, Nat.le_refl _, fun _ _ _ => rfl⟩
theorem trans (h : Kept X a b) (k : Kept X b c) : Kept X a c :=
  ⟨k.os.trans h.os, k.tape.trans h.tape, k.output.trans h.output, Nat.le_trans h.size k.size, fun i hi hx => (k.block i (Nat.lt_of_lt_of_le hi h.size) hx).trans (h.block i hi hx)⟩
theorem mono (h : Kept X w w') (hX : ∀ k, k < w.heap.size → X k → Y k) : Kept Y w w' := ⟨h.os, h.tape, h.output, h.size, fun k hk hy => h.block k hk fun hx => hy (hX k hk hx)⟩
theorem of_below (h : Below w.heap.size w w') (X : Nat → Prop) : Kept X w w' := ⟨h.os, h.tape, h.output, h.size, fun k hk _ => h.block k hk⟩
theorem below {B : Nat} (h : Kept X w w') (hB : B ≤ w.heap.size) (hX : ∀ k, k < w.heap.size → X k → B ≤ k) : Below B w w' :=
  ⟨h.os, h.tape, h.output, h.size, fun k hk => h.block k (by omega) fun hx => by have := hX k (by omega) hx; omega⟩
theorem grown {row : Option Nat} (h : w.grownBy w' row) : Kept (fun k => row = some k) w w' := ⟨h.os, h.tape, h.output, h.size, fun k hk hx => h.block k hk fun e => hx e.symm⟩
theorem setCell (h : Kept X a w) {p : Addr} (u : Value) (hp : p.block < a.heap.size → X p.block) : Kept X a (w.setCell p u) :=
  ⟨h.os, h.tape, h.output, by rw [size_setCell]; exact h.size, fun k hk hx => (Below.heap_setCell w p u k (fun e => hx (e ▸ hp (e ▸ hk)))).trans (h.block k hk hx)⟩
theorem alloc (h : Kept X a w) (o : Obj) : Kept X a (w.alloc o) := h.trans (of_below ((Below.refl _ _).alloc (Nat.le_refl _) _) X)
theorem drew (h : Kept X a w) : Kept X a w.drew := ⟨h.os, h.tape, h.output, h.size, h.block⟩
theorem cell (h : Kept X w w') {p : Addr} {v : Value} (hc : w.cell? p = some v) (hp : ¬ X p.block) : w'.cell? p = some v :=
  (World.cell?_of_block (h.block p.block (World.block_lt_of_cell? w p hc) hp)).trans hc
theorem blk (h : Kept X w w') {g : Nat} {t : TypeId} {cs : Array Value} (hb : Blk w g t cs) (hg : ¬ X g) : Blk w' g t cs := (h.block g hb.lt hg).trans hb
theorem own {base : Nat} {e : TypeId} {size : Nat} {v : Value} {n : Nat} {xs : List Value} (h : Kept X w w') (ho : w.ownsRow base e size v n xs) (hx : ∀ k, v.ownBlock = some k → ¬ X k) : w'.ownsRow base e size v n xs := by
  refine ⟨ho.1, ?_⟩
  rcases ho.2 with h0 | ⟨g, cap, cur, rfl, hb, hg, rest⟩
  · exact .inl h0
  · exact .inr ⟨g, cap, cur, rfl, hb, (h.block g (Array.getElem?_eq_some_iff.1 hg).1 (hx g rfl)).trans hg, rest⟩
end Kept
/-- How the cells of a thing read, off the blocks of X. -/
abbrev Rel (α : Type) := (Nat → Prop) → World → List Value → α → Prop
/-- Such a reading lasts while its blocks are kept. -/
structure Good {α : Type} (sz : Nat) (R : Rel α) : Prop where
  keep : ∀ {X : Nat → Prop} {w w' : World} {cs : List Value} {a : α}, R X w cs a → Kept X w w' → R X w' cs a
  mono : ∀ {X Y : Nat → Prop} {w : World} {cs : List Value} {a : α}, R X w cs a → (∀ k, k < w.heap.size → Y k → X k) → R Y w cs a
  len : ∀ {X : Nat → Prop} {w : World} {cs : List Value} {a : α}, R X w cs a → cs.length = sz
  one : ∀ {X : Nat → Prop} {w : World} {cs : List Value} {a : α}, R X w cs a → ∀ u ∈ cs, u.oneCell' = true
/-- A slice that reads as a list (nil let in). -/
def Sl {α : Type} (sz : Nat) (R : Rel α) (X : Nat → Prop) (w : World) (v : Value) (l : List α) : Prop :=
  ∃ (A : Option Addr) (cap : Nat), v = .slice A l.length cap ∧ l.length ≤ cap ∧ cap ≤ maxLen ∧ (A = none → cap = 0) ∧
    (l ≠ [] → ∃ b off, A = some ⟨b, off, none⟩ ∧ ¬ X b ∧ ∀ j (h : j < l.length), ∃ cs : List Value, (∀ i u, cs[i]? = some u → w.cell? ⟨b, off + j * sz + i, none⟩ = some u) ∧ R X w cs l[j]) ∧
    (∀ b off, A = some ⟨b, off, none⟩ → ∀ i, i < l.length * sz → w.frozen? ⟨b, off + i, none⟩ = false)
section
variable {α : Type} {sz : Nat} {R : Rel α} {X Y : Nat → Prop} {w w' : World} {v : Value} {l : List α}
theorem Sl.nil (sz : Nat) (R : Rel α) (X : Nat → Prop) (w : World) : Sl sz R X w (.slice none 0 0) [] := ⟨none, 0, rfl, Nat.le_refl _, Nat.zero_le _, fun _ => rfl, fun h => absurd rfl h, fun _ _ h => by cases h⟩
theorem Kept.frozen {X : Nat → Prop} {w w' : World} (h : Kept X w w') {p : Addr} (hl : p.block < w.heap.size) (hp : ¬ X p.block) : w'.frozen? p = w.frozen? p := World.frozen?_of_block (h.block p.block hl hp)
theorem Sl.keep (G : Good sz R) (h : Sl sz R X w v l) (k : Kept X w w') : Sl sz R X w' v l := by
  obtain ⟨A, cap, hv, h1, h2, h3, h4, h5⟩ := h
  refine ⟨A, cap, hv, h1, h2, h3, fun hl => ?_, fun b off hA i hi => ?_⟩
  · obtain ⟨b, off, hA, hX, hc⟩ := h4 hl
    refine ⟨b, off, hA, hX, fun j hj => ?_⟩
    obtain ⟨cs, hcs, hR⟩ := hc j hj
    exact ⟨cs, fun i u hu => k.cell (hcs i u hu) hX, G.keep hR k⟩
  · have hl : l ≠ [] := fun e => by subst e; simp at hi
    obtain ⟨b', off', hA', hX, hc⟩ := h4 hl
    rw [hA] at hA'
    injection hA' with hA'
    injection hA' with e1 e2
    subst e1 e2
    have hpos : 0 < l.length := List.length_pos_iff.2 hl
    obtain ⟨cs, hcs, hR⟩ := hc 0 hpos
    have hlen := G.len hR
    have hsz : 0 < sz := by
      rcases Nat.eq_zero_or_pos sz with h0 | h0
      · subst h0; simp at hi
      · exact h0
    have hlt : b < w.heap.size := lt_of_cell (hcs 0 cs[0] (List.getElem?_eq_getElem (by omega)))
    rw [k.frozen (p := ⟨b, off + i, none⟩) hlt hX]
    exact h5 b off hA i hi
theorem Sl.mono (G : Good sz R) (hsz : 0 < sz) (h : Sl sz R X w v l) (hXY : ∀ k, k < w.heap.size → Y k → X k) : Sl sz R Y w v l := by
  obtain ⟨A, cap, hv, h1, h2, h3, h4, h5⟩ := h
  refine ⟨A, cap, hv, h1, h2, h3, fun hl => ?_, h5⟩
  obtain ⟨b, off, hA, hX, hc⟩ := h4 hl
  refine ⟨b, off, hA, fun hY => ?_, fun j hj => ?_⟩
  · have hpos : 0 < l.length := List.length_pos_iff.2 hl
    obtain ⟨cs, hcs, hR⟩ := hc 0 hpos
    have hlen := G.len hR
    have hlt : b < w.heap.size := lt_of_cell (hcs 0 cs[0] (List.getElem?_eq_getElem (by omega)))
    exact hX (hXY b hlt hY)
  · obtain ⟨cs, hcs, hR⟩ := hc j hj
    exact ⟨cs, hcs, G.mono hR hXY⟩
theorem Sl.form (h : Sl sz R X w v l) : ∃ A cap, v = .slice A l.length cap ∧ l.length ≤ cap ∧ cap ≤ maxLen := by
  obtain ⟨A, cap, hv, h1, h2, _⟩ := h
  exact ⟨A, cap, hv, h1, h2⟩
/-- The j-th thing. -/
theorem Sl.at {A : Option Addr} {n cap : Nat} (h : Sl sz R X w (.slice A n cap) l) : n = l.length ∧ n ≤ cap ∧ cap ≤ maxLen ∧ (0 < n → ∃ b off, A = some ⟨b, off, none⟩ ∧ ¬ X b ∧ ∀ j (h : j < l.length), ∃ cs : List Value, (∀ i u, cs[i]? = some u → w.cell? ⟨b, off + j * sz + i, none⟩ = some u) ∧ R X w cs l[j]) := by
  obtain ⟨A', cap', hv, h1, h2, h3, h4, _⟩ := h
  injection hv with e1 e2 e3
  subst e1 e2 e3
  exact ⟨rfl, h1, h2, fun hn => h4 (fun e => by subst e; simp at hn)⟩
/-- Its cells can be written. -/
theorem Sl.free {b off n cap : Nat} (h : Sl sz R X w (.slice (some ⟨b, off, none⟩) n cap) l) (i : Nat) (hi : i < l.length * sz) : w.frozen? ⟨b, off + i, none⟩ = false := by
  obtain ⟨A', cap', hv, _, _, _, _, h5⟩ := h
  injection hv with e1 e2 e3
  exact h5 b off e1.symm i hi
/-- A row that is being made: its things lie off X and off the row. -/
def OwnL (sz : Nat) (R : Rel α) (e : TypeId) (base : Nat) (X : Nat → Prop) (w : World) (v : Value) (l : List α) : Prop :=
  ∃ css : List (List Value), w.ownsRow base e sz v l.length css.flatten ∧ css.length = l.length ∧ (∀ k, v.ownBlock = some k → ¬ X k) ∧
    ∀ j (h : j < l.length) (h' : j < css.length), R (fun k => X k ∨ v.ownBlock = some k) w css[j] l[j]
theorem OwnL.nil (sz : Nat) (R : Rel α) (e : TypeId) (base : Nat) (X : Nat → Prop) (w : World) : OwnL sz R e base X w (.slice none 0 0) [] :=
  ⟨[], World.ownsRow_nil _ _ _ _, rfl, (fun k h => by simp [Value.ownBlock] at h), fun j h => by simp at h⟩
theorem OwnL.form {e : TypeId} {base : Nat} (h : OwnL sz R e base X w v l) : ∃ A cap, v = .slice A l.length cap := by
  obtain ⟨css, ho, _⟩ := h
  exact own_form ho
theorem flatten_at (css : List (List Value)) (sz : Nat) (hs : ∀ cs ∈ css, cs.length = sz) (j : Nat) (hj : j < css.length) (i : Nat) (hi : i < sz) : css.flatten[j * sz + i]? = css[j][i]? := by
  induction css generalizing j with
  | nil => simp at hj
  | cons c css ih =>
    have hc := hs c (by simp)
    cases j with
    | zero =>
      simp only [List.flatten_cons, Nat.zero_mul, Nat.zero_add, List.getElem_cons_zero]
      rw [List.getElem?_append_left (by omega)]
    | succ j =>
      simp only [List.flatten_cons, List.getElem_cons_succ]
      rw [List.getElem?_append_right (by rw [hc, Nat.succ_mul]; omega), hc, show (j + 1) * sz + i - sz = j * sz + i by rw [Nat.succ_mul]; omega]
      exact ih (fun cs h => hs cs (by simp [h])) j (by simpa using hj)
/-- A row that was made, read. -/
theorem OwnL.sl {e : TypeId} {base : Nat} (G : Good sz R) (h : OwnL sz R e base X w v l) : Sl sz R X w v l := by
  obtain ⟨css, ho, hl, hX, hR⟩ := h
  have hall : ∀ cs ∈ css, cs.length = sz := fun cs hcs => by
    obtain ⟨j, hj, rfl⟩ := List.getElem_of_mem hcs
    exact G.len (hR j (by omega) hj)
  rcases ho.2 with ⟨rfl, h0⟩ | ⟨g, cap, cur, rfl, hb, hg, hnc, hcm, hcs, htake⟩
  · have : l = [] := List.eq_nil_of_length_eq_zero h0
    subst this
    exact Sl.nil _ _ _ _
  · refine ⟨_, cap, rfl, hnc, hcm, (fun h => by cases h), fun _ => ⟨g, 0, rfl, hX g rfl, fun j hj => ⟨css[j]'(by omega), fun i u hu => ?_, G.mono (hR j hj (by omega)) fun k _ h => .inl h⟩⟩, fun b off hA i _ => by
      injection hA with hA
      injection hA with e1 e2
      subst e1 e2
      exact frozen_of_row w _ _ cur e hg⟩
    have hi : i < sz := by
      have := (List.getElem?_eq_some_iff.1 hu).1
      rw [hall _ (List.getElem_mem (by omega))] at this
      exact this
    have := ho.cellAt (j * sz + i) (by
      have : j * sz + sz ≤ l.length * sz := by rw [← Nat.succ_mul]; exact Nat.mul_le_mul_right _ hj
      omega)
    rw [Nat.zero_add, this, flatten_at css sz hall j (by omega) i hi]
    exact hu
theorem OwnL.keep {e : TypeId} {base : Nat} (G : Good sz R) (h : OwnL sz R e base X w v l) (k : Kept X w w') : OwnL sz R e base X w' v l := by
  obtain ⟨css, ho, hl, hX, hR⟩ := h
  exact ⟨css, k.own ho hX, hl, hX, fun j h h' => G.keep (hR j h h') (k.mono fun i _ hi => .inl hi)⟩
theorem OwnL.mono {e : TypeId} {base : Nat} (G : Good sz R) (h : OwnL sz R e base X w v l) (hXY : ∀ k, k < w.heap.size → Y k → X k) (hY : ∀ k, v.ownBlock = some k → ¬ Y k) : OwnL sz R e base Y w v l := by
  obtain ⟨css, ho, hl, hX, hR⟩ := h
  exact ⟨css, ho, hl, hY, fun j h h' => G.mono (hR j h h') fun k hk hk2 => hk2.imp (hXY k hk) id⟩
/-- The row's own block is new, or was there. -/
theorem append_block {P : Program} {e t ty : TypeId} {i : TypeInfo} {z : Value} {size bytes base : Nat} (ht : P.underlying t = some (.slice e)) (hi : P.info? e = some i) (hz : i.zero = some z)
    (hsize : i.size = size) (hby : i.bytes = bytes) (hzs : z.cells.size = size) (hsz : 0 < size) {n : Nat} {xs : List Value} (hown : w.ownsRow base e size v n xs)
    (a : Addr) (m c : Nat) (news : List Value) (hl : news.length = m * size) (hnews : ∀ j u, news[j]? = some u → w.cell? (a.add j) = some u) (h1 : ∀ u ∈ news, u.oneCell' = true)
    (h63 : n + m ≤ maxLen) (hbytes : (n + m) * bytes ≤ 140737488355328) {v' : Value}
    (hr : (Builtin.append_ #[t, t] ty #[v, .slice (some a) m c]).run P w = .ok v' w') : v'.ownBlock = v.ownBlock ∨ ∀ k, v'.ownBlock = some k → w.heap.size ≤ k := by
  rcases hown.2 with ⟨rfl, rfl⟩ | ⟨g, cap, cur, rfl, hbg, hg, hnc, hcm, hcs, htake⟩
  · have hx : xs = [] := List.eq_nil_of_length_eq_zero (by simpa using hown.1)
    subst hx
    obtain ⟨v2, w2, hr2, ho2, _⟩ := run_append_own (P := P) w w.heap.size t ty e i z size bytes ht hi hz hsize hby hzs hsz (.slice none 0 0) 0 [] (World.ownsRow_nil _ _ _ _) a m c news hl hnews h1 h63 hbytes (Nat.le_refl _)
    rw [hr] at hr2
    injection hr2 with e1 e2
    subst e1
    exact .inr fun k hk => (ho2.lt k hk).1
  · by_cases hroom : n + m ≤ cap
    · obtain ⟨w2, hr2, _⟩ := run_append_fits (P := P) w base t ty e i size ht hi hsize g n cap xs hown a m c news hl hnews h1 hroom
      rw [hr] at hr2
      injection hr2 with e1 e2
      subst e1
      exact .inl rfl
    · subst hsize hby
      have hr2 := run_append_grow (P := P) w t ty e i z ht hi hz ⟨g, 0, none⟩ n cap xs hown.1 (hown.cells (g := g) rfl) a m c news hl hnews (by omega) (by simp only [maxLen] at h63; omega) (growslice_fits (by omega) hbytes)
      rw [hr] at hr2
      injection hr2 with e1 e2
      subst e1
      exact .inr fun k hk => by simp [Value.ownBlock] at hk; omega
/-- append of one thing, just built (in a region that draws its order, or not). -/
theorem wp_appendL {P : Program} {o : Oper} {a : Act} {K : Act → World → Prop} {Q : Exit → Act → World → Prop} (G : Good sz R) (s x : Operand) (t e : TypeId) (z : Value) (bytes : Nat)
    (ho : o.op = .call { callee := .builtin .append, args := #[s, x], argTypes := #[t, t] }) (ht : P.underlying t = some (.slice e))
    (hinfo : (P.info? e).map (fun i => (i.zero, i.size, i.bytes)) = some (some z, sz, bytes)) (hzs : z.cells.size = sz) (hsz : 0 < sz)
    (base : Nat) (hs : a.eval s = v) (hown : OwnL sz R e base X w v l)
    (g c : Nat) (cs : List Value) (y : α) (hx : a.eval x = .slice (some ⟨g, 0, none⟩) 1 c) (hblk : Blk w g e cs.toArray) (hR : R (fun k => X k ∨ v.ownBlock = some k) w cs y)
    (hn : l.length + 1 ≤ 1000000000000) (hby : bytes ≤ 100) (hbase : base ≤ w.heap.size) (hX : ∀ k, w.heap.size ≤ k → ¬ X k)
    (h : ∀ v' w', OwnL sz R e base X w' v' (l ++ [y]) → Kept (fun k => v.ownBlock = some k) w w' → K (a.put o.dst v') w') : o.wp P a w K Q := by
  obtain ⟨i0, hi, hz0, hz1, hz2⟩ := info_parts hinfo
  obtain ⟨css, hrow, hcl, hX1, hall⟩ := hown
  have hlen : cs.length = sz := G.len hR
  have hnews : ∀ j u, cs[j]? = some u → w.cell? ((⟨g, 0, none⟩ : Addr).add j) = some u := fun j u hu => by
    rw [Addr.add_lit, hblk.cell]
    simpa using hu
  have hby2 : (l.length + 1) * bytes ≤ 140737488355328 := by
    have : (l.length + 1) * bytes ≤ 1000000000000 * 100 := Nat.mul_le_mul hn hby
    omega
  obtain ⟨v', w', hr, h2, h3, _⟩ := run_append_own (P := P) w base t o.type e i0 z sz bytes ht hi hz0 hz1 hz2 hzs hsz v l.length css.flatten hrow ⟨g, 0, none⟩ 1 c cs (by omega) hnews (G.one hR) (by unfold maxLen; omega) hby2 hbase
  have hob := append_block ht hi hz0 hz1 hz2 hzs hsz hrow ⟨g, 0, none⟩ 1 c cs (by omega) hnews (G.one hR) (by unfold maxLen; omega) hby2 hr
  have hkept := Kept.grown h3
  have hkept2 : Kept (fun k => X k ∨ v.ownBlock = some k) w w' := hkept.mono fun k _ hk => .inr hk
  have hsub : ∀ k, k < w'.heap.size → (X k ∨ v'.ownBlock = some k) → k < w.heap.size → (X k ∨ v.ownBlock = some k) := fun k _ hk hlt => hk.imp id fun h => by
    rcases hob with e | e
    · rw [← e]; exact h
    · have := e k h; omega
  have move : ∀ (ds : List Value) (b : α), R (fun k => X k ∨ v.ownBlock = some k) w ds b → R (fun k => X k ∨ v'.ownBlock = some k) w' ds b := fun ds b hb => by
    have b1 := G.mono (Y := fun k => (X k ∨ v.ownBlock = some k) ∨ (X k ∨ v'.ownBlock = some k)) hb fun k hk hk2 => hk2.elim id fun h => hsub k (by have := h3.size; omega) h hk
    exact G.mono (G.keep b1 (hkept2.mono fun k _ hk => .inl hk)) fun k _ hk => .inr hk
  unfold Oper.wp execOp
  simp only [ho, resolve, invoke, builtin, Sem.run_bind, Sem.run_pure, Result.andThen_ok, List.map_toArray, List.map_cons, List.map_nil, hs, hx, hr]
  refine h v' w' ⟨css ++ [cs], ?_, ?_, ?_, ?_⟩ hkept
  · rw [List.length_append, List.length_singleton, List.flatten_append]
    simpa using h2
  · simp [hcl]
  · intro k hk
    rcases hob with e | e
    · exact hX1 k (by rw [← e]; exact hk)
    · exact hX k (e k hk)
  · intro j hj hj'
    by_cases hlt : j < l.length
    · rw [List.getElem_append_left (by omega), List.getElem_append_left hlt]
      exact move _ _ (hall j hlt (by omega))
    · have hjl : j = l.length := by rw [List.length_append, List.length_singleton] at hj; omega
      subst hjl
      rw [List.getElem_append_right (by omega), List.getElem_append_right (by omega)]
      simp only [hcl, Nat.sub_self, List.getElem_cons_zero]
      exact move _ _ hR
theorem wpList_appendL {P : Program} {ops : Array Oper} {rest : List Oper} {o : Oper} {a : Act} {Q : Exit → Act → World → Prop} (G : Good sz R) (hgd : o.guard = none) (s x : Operand) (t e : TypeId) (z : Value) (bytes : Nat)
    (ho : o.op = .call { callee := .builtin .append, args := #[s, x], argTypes := #[t, t] }) (ht : P.underlying t = some (.slice e))
    (hinfo : (P.info? e).map (fun i => (i.zero, i.size, i.bytes)) = some (some z, sz, bytes)) (hzs : z.cells.size = sz) (hsz : 0 < sz)
    (base : Nat) (hs : a.eval s = v) (hown : OwnL sz R e base X w v l)
    (cs : List Value) (y : α) (hx : a.eval x = .slice (some ⟨w.heap.size, 0, none⟩) 1 1) (hR : R (fun k => X k ∨ v.ownBlock = some k) w cs y)
    (hn : l.length + 1 ≤ 1000000000000) (hby : bytes ≤ 100) (hbase : base ≤ w.heap.size) (hX : ∀ k, w.heap.size ≤ k → ¬ X k)
    (h : ∀ v' w', OwnL sz R e base X w' v' (l ++ [y]) → Kept (fun k => v.ownBlock = some k) w w' → wpList P ops Q rest (a.put o.dst v') w') : wpList P ops Q (o :: rest) a (w.alloc (.cells cs.toArray e)) :=
  wpList_plain hgd fun _ hK => wp_appendL (X := X) G s x t e z bytes ho ht hinfo hzs hsz base hs (hown.keep G (Kept.of_below ((Below.refl _ _).alloc (Nat.le_refl _) _) X)) w.heap.size 1 cs y hx (Blk.new w e cs.toArray)
    (G.keep hR (Kept.of_below ((Below.refl _ _).alloc (Nat.le_refl _) _) _)) hn hby (by simp; omega) (fun k hk => hX k (by simp at hk; omega))
    fun v' w' h1 h2 => hK _ _ (h v' w' h1 ((Kept.of_below ((Below.refl _ _).alloc (Nat.le_refl _) _) _).trans h2))
end
/-- A text. -/
def Rtext : Rel (List UInt8) := fun _ _ cs s => cs = [.string ⟨s.toArray⟩]
theorem good_text : Good 1 Rtext := ⟨fun h _ => h, fun h _ => h, (fun h => by subst h; rfl), (fun h u hu => by subst h; simp at hu; subst hu; rfl)⟩
/-- A slice in a cell. -/
def Rslice {α : Type} (sz : Nat) (R : Rel α) : Rel (List α) := fun X w cs l => ∃ v, cs = [v] ∧ Sl sz R X w v l
theorem good_slice {α : Type} {sz : Nat} {R : Rel α} (G : Good sz R) (hsz : 0 < sz) : Good 1 (Rslice sz R) :=
  ⟨fun ⟨v, h1, h2⟩ k => ⟨v, h1, h2.keep G k⟩, fun ⟨v, h1, h2⟩ k => ⟨v, h1, h2.mono G hsz k⟩, (fun ⟨v, h1, _⟩ => by subst h1; rfl), (fun ⟨v, h1, h2⟩ u hu => by
    subst h1
    obtain ⟨A, cap, rfl, _⟩ := h2
    simp at hu; subst hu; rfl)⟩
end Go.Proofs.YtjhikglgaoncjaaDoor
