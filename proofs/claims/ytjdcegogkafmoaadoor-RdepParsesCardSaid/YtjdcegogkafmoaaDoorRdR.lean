/- Dependencies in memory, read: the cells of each kid; two of one reading are one. -/
import Derived.Test.YtjdcegogkafmoaaDoorRdF
namespace Go.Proofs.YtjdcegogkafmoaaDoor
open Go.RowKit
theorem Sk.rich {m : Nat} {X : Nat → Prop} {w : World} {A : Option Addr} {n cap : Nat} {l : List Rdp} (h : Sk 5 (Rr m) X w (.slice A n cap) l) (hn : 0 < n) :
    ∃ b off, A = some ⟨b, off, none⟩ ∧ ¬ X b ∧ (∃ ca t, w.heap[b]? = some (.cells ca t (0, 0))) ∧ ∀ k (hk : k < l.length), ∃ j kv, m = j + 1 ∧ w.cell? ⟨b, off + k * 5, none⟩ = some (.string (bs l[k].op)) ∧ w.cell? ⟨b, off + k * 5 + 1, none⟩ = some (.string (bs l[k].name)) ∧
      w.cell? ⟨b, off + k * 5 + 2, none⟩ = some (.int .i64 l[k].aop) ∧ w.cell? ⟨b, off + k * 5 + 3, none⟩ = some (.string (bs l[k].ver)) ∧ w.cell? ⟨b, off + k * 5 + 4, none⟩ = some kv ∧ Sk 5 (Rr j) X w kv l[k].kids := by
  obtain ⟨h1, h2⟩ := h
  obtain ⟨_, _, _, h4⟩ := h1.at
  obtain ⟨b, off, rfl, hX, hc⟩ := h4 hn
  refine ⟨b, off, rfl, hX, h2 b off n cap rfl hn, fun k hk => ?_⟩
  obtain ⟨cs, hcs, hR⟩ := hc k hk
  cases m with
  | zero => exact hR.elim
  | succ j =>
    obtain ⟨kv, rfl, hs⟩ := hR
    refine ⟨j, kv, rfl, ?_, hcs 1 _ rfl, hcs 2 _ rfl, hcs 3 _ rfl, hcs 4 _ rfl, hs⟩
    have := hcs 0 _ rfl
    simpa using this
theorem Sk.none {m : Nat} {X : Nat → Prop} {w : World} {v : Value} {l : List Rdp} (h : Sk 5 (Rr m) X w v l) (hm : m = 0) : l = [] := by
  obtain ⟨A, cap, rfl, _⟩ := h.form
  cases l with
  | nil => rfl
  | cons x l =>
    obtain ⟨_, _, _, _, _, hk⟩ := h.rich (by simp)
    obtain ⟨j, _, h1, _⟩ := hk 0 (by simp)
    omega
/-- More brackets may be. -/
theorem Rr.up : ∀ (m : Nat) {X : Nat → Prop} {w : World} {cs : List Value} {d : Rdp}, Rr m X w cs d → Rr (m + 1) X w cs d
  | 0, _, _, _, _, h => h.elim
  | m + 1, X, w, cs, d, ⟨kv, h1, ⟨h2, h3⟩⟩ => by
    refine ⟨kv, h1, ?_, h3⟩
    obtain ⟨A, cap, hv, a1, a2, a3, a4, a5⟩ := h2
    refine ⟨A, cap, hv, a1, a2, a3, fun hl => ?_, a5⟩
    obtain ⟨b, off, b1, b2, b3⟩ := a4 hl
    refine ⟨b, off, b1, b2, fun j hj => ?_⟩
    obtain ⟨cs', c1, c2⟩ := b3 j hj
    exact ⟨cs', c1, Rr.up m c2⟩
theorem Sk.up {m : Nat} {X : Nat → Prop} {w : World} {v : Value} {l : List Rdp} (h : Sk 5 (Rr m) X w v l) : Sk 5 (Rr (m + 1)) X w v l := by
  obtain ⟨h2, h3⟩ := h
  refine ⟨?_, h3⟩
  obtain ⟨A, cap, hv, a1, a2, a3, a4, a5⟩ := h2
  refine ⟨A, cap, hv, a1, a2, a3, fun hl => ?_, a5⟩
  obtain ⟨b, off, b1, b2, b3⟩ := a4 hl
  refine ⟨b, off, b1, b2, fun j hj => ?_⟩
  obtain ⟨cs', c1, c2⟩ := b3 j hj
  exact ⟨cs', c1, Rr.up m c2⟩
theorem Sk.ups {m m' : Nat} {X : Nat → Prop} {w : World} {v : Value} {l : List Rdp} (h : Sk 5 (Rr m) X w v l) (hm : m ≤ m') : Sk 5 (Rr m') X w v l := by
  obtain ⟨k, rfl⟩ : ∃ k, m' = m + k := ⟨m' - m, by omega⟩
  clear hm
  induction k with
  | zero => exact h
  | succ k ih => exact ih.up
theorem bs_inj {a b : List UInt8} (h : bs a = bs b) : a = b := by
  have := congrArg (fun t => t.data.toList) h
  simpa [bs] using this
theorem Rdp.eta (d : Rdp) : Rdp.mk d.op d.name d.aop d.ver d.kids = d := by cases d; rfl
theorem Rdp.ext' {d d' : Rdp} (h1 : d.op = d'.op) (h2 : d.name = d'.name) (h3 : d.aop = d'.aop) (h4 : d.ver = d'.ver) (h5 : d.kids = d'.kids) : d = d' := by
  rw [← Rdp.eta d, ← Rdp.eta d', h1, h2, h3, h4, h5]
/-- A list that reads twice reads the same. -/
theorem Sk.same : ∀ (m : Nat) {m' : Nat} {X X' : Nat → Prop} {w : World} {A : Option Addr} {n cap cap' : Nat} {l l' : List Rdp}, Sk 5 (Rr m) X w (.slice A n cap) l → Sk 5 (Rr m') X' w (.slice A n cap') l' → l = l'
  | m, m', X, X', w, A, n, cap, cap', l, l', h, h' => by
    have e1 := h.1.at.1
    have e2 := h'.1.at.1
    apply List.ext_getElem (by omega)
    intro k hk hk'
    obtain ⟨b, off, rfl, _, _, hc⟩ := h.rich (by omega)
    obtain ⟨b', off', e, _, _, hc'⟩ := h'.rich (by omega)
    injection e with e
    injection e with e1 e2
    subst e1 e2
    obtain ⟨j, kv, rfl, c0, c1, c2, c3, c4, hs⟩ := hc k hk
    obtain ⟨j', kv', rfl, c0', c1', c2', c3', c4', hs'⟩ := hc' k hk'
    rw [c0'] at c0
    rw [c1'] at c1
    rw [c2'] at c2
    rw [c3'] at c3
    rw [c4'] at c4
    obtain ⟨A2, cap2, rfl, _⟩ := hs.form
    obtain ⟨A2', cap2', rfl, _⟩ := hs'.form
    injection c4 with c4
    injection c4 with f1 f2 f3
    subst f1 f3
    rw [f2] at hs'
    have hk := Sk.same j hs hs'
    refine Rdp.ext' ?_ ?_ ?_ ?_ hk
    · injection c0 with c0; injection c0 with c0; exact (bs_inj c0).symm
    · injection c1 with c1; injection c1 with c1; exact (bs_inj c1).symm
    · injection c2 with c2; injection c2 with _ c2; exact c2.symm
    · injection c3 with c3; injection c3 with c3; exact (bs_inj c3).symm
theorem outs5 {W : World} {gA : Nat} {x0 x1 x2 x3 x4 : Value} (h : Blk W gA 27 #[x0, x1, x2, x3, x4]) :
    W.cell? ⟨gA, 0, none⟩ = some x0 ∧ W.cell? ⟨gA, 1, none⟩ = some x1 ∧ W.cell? ⟨gA, 2, none⟩ = some x2 ∧ W.cell? ⟨gA, 3, none⟩ = some x3 ∧ W.cell? ⟨gA, 4, none⟩ = some x4 := by
  have a0 := h.cell 0
  have a1 := h.cell 1
  have a2 := h.cell 2
  have a3 := h.cell 3
  have a4 := h.cell 4
  simp at a0 a1 a2 a3 a4
  exact ⟨a0, a1, a2, a3, a4⟩
/-- Two dependencies in new memory. -/
theorem two_rich (w : World) (c c' : Array Value) : ∃ W ga gb, W = (w.alloc (.cells c 27)).alloc (.cells c' 27) ∧ ga = w.heap.size ∧ gb = w.heap.size + 1 ∧ Blk W ga 27 c ∧ Blk W gb 27 c' ∧ Below w.heap.size w W := by
  refine ⟨_, _, _, rfl, rfl, rfl, (Blk.new w _ c).alloc _, ?_, ((Below.refl _ w).alloc (Nat.le_refl _) _).alloc (by simp) _⟩
  have := Blk.new (w.alloc (.cells c 27)) 27 c'
  rw [show (w.alloc (.cells c 27)).heap.size = w.heap.size + 1 by simp] at this
  exact this
end Go.Proofs.YtjdcegogkafmoaaDoor
