/- Rows of entries whose data lie in what was there before; and the document's relinking, plain. -/
import Derived.Test.YtjhikglgaoncjaaDoorEoC
import Derived.Test.YtjhikglgaoncjaaDoorEoE
namespace Go.Proofs.YtjhikglgaoncjaaDoor
open Go.RowKit
theorem kept_new {H : Nat} {w w' : World} (h : Below H w w') : Kept (fun k => H ≤ k) w w' := ⟨h.os, h.tape, h.output, h.size, fun k _ hx => h.block k (by omega)⟩
/-- A row of entries of one's own; their data lie in what was there before. -/
structure EQ (H : Nat) (w : World) (v : Value) (L : List En) (f : Nat → Value) : Prop where
  row : w.ownsRow H tE 10 v L.length (ofC L f)
  dat : ∀ j (h : j < L.length), Sl 1 Rbyte (fun k => H ≤ k) w (f j) L[j].data
section
variable {H : Nat} {w w' : World} {v : Value} {L M : List En} {f g : Nat → Value}
theorem EQ.eo (h : EQ H w v L f) : EO H w v L f := ⟨h.row, fun j hj => (h.dat j hj).mono good_byte (by decide) fun k _ hk => (h.row.lt k hk).1⟩
theorem EQ.nil (H : Nat) (w : World) (f : Nat → Value) : EQ H w (.slice none 0 0) [] f := ⟨World.ownsRow_nil _ _ _ _, fun j h => by simp at h⟩
theorem EQ.kept {Y : Nat → Prop} (h : EQ H w v L f) (k : Kept Y w w') (hY : ∀ b, v.ownBlock = some b → ¬ Y b) (hH : ∀ b, b < w.heap.size → Y b → H ≤ b) : EQ H w' v L f :=
  ⟨k.own h.row hY, fun j hj => (h.dat j hj).keep good_byte (k.mono hH)⟩
theorem EQ.below (h : EQ H w v L f) (k : Below w.heap.size w w') : EQ H w' v L f := h.kept (Kept.of_below k nowhere) (fun _ _ h => h) fun _ _ h => h.elim
theorem EQ.put {n cap b : Nat} (h : EQ H w (.slice (some ⟨b, 0, none⟩) n cap) L f) (hB : H ≤ w.heap.size) (k : Nat) (hk : k < L.length) {e : En} (hL : L[k] = e) (c : Nat) (hc : c < 10) (u : Value) (e' : En) (d' : Value) (he : (entC e (f k)).set c u = entC e' d')
    (hd : Sl 1 Rbyte (fun k => H ≤ k) w d' e'.data) : EQ H (w.setCell ⟨b, k * 10 + c, none⟩ u) (.slice (some ⟨b, 0, none⟩) n cap) (L.set k e') (upd f k d') ∧ Below H w (w.setCell ⟨b, k * 10 + c, none⟩ u) := by
  have hbH : H ≤ b := (h.row.lt b rfl).1
  have hd2 : Sl 1 Rbyte (fun k => (Value.slice (some ⟨b, 0, none⟩) n cap).ownBlock = some k) w d' e'.data := hd.mono good_byte (by decide) fun k _ hk => by
    have : b = k := Option.some.inj hk
    omega
  obtain ⟨h1, h2⟩ := h.eo.put hB k hk c hc u e' d' (by rw [hL]; exact he) hd2
  have k2 : Kept (fun i => H ≤ i) w (w.setCell ⟨b, k * 10 + c, none⟩ u) := kept_new h2
  refine ⟨⟨h1.row, fun j hj => ?_⟩, h2⟩
  have hj2 : j < L.length := by rw [List.length_set] at hj; exact hj
  by_cases hjk : j = k
  · subst hjk
    have e2 : (L.set j e')[j]'hj = e' := by simp
    rw [e2, upd, if_pos rfl]
    exact hd.keep good_byte k2
  · have e2 : (L.set k e')[j]'hj = L[j]'hj2 := List.getElem_set_ne (fun h => hjk h.symm) _
    rw [e2, upd, if_neg hjk]
    exact (h.dat j hj2).keep good_byte k2
theorem wpList_appendEQ {A : Option Addr} {c : Nat} {ops : Array Oper} {rest : List Oper} {o : Oper} {a : Act} {Q : Exit → Act → World → Prop} (hgd : o.guard = none) (s x : Operand)
    (ho : o.op = .call { callee := .builtin .append, args := #[s, x], argTypes := #[25, 25] }) (hs : a.eval s = v) (h : EQ H w v L f) (hx : a.eval x = .slice A M.length c) (hA : A = none → c = 0)
    (hsrc : M ≠ [] → ∃ ad, A = some ad ∧ ∀ j u, (ofC M g)[j]? = some u → w.cell? (ad.add j) = some u) (hdat : ∀ j (h : j < M.length), Sl 1 Rbyte (fun k => H ≤ k) w (g j) M[j].data)
    (hn : L.length + M.length ≤ 1000000) (hB : H ≤ w.heap.size)
    (hK : ∀ v' w', EQ H w' v' (L ++ M) (appF f L.length g) → Kept (fun k => v.ownBlock = some k) w w' → (v'.ownBlock = v.ownBlock ∨ ∀ k, v'.ownBlock = some k → w.heap.size ≤ k) → wpList Tryd.prog ops Q rest (a.put o.dst v') w') : wpList Tryd.prog ops Q (o :: rest) a w :=
  wpList_appendEO hgd s x ho hs h.eo hx hA hsrc (fun j hj => (hdat j hj).mono good_byte (by decide) fun k _ hk => (h.row.lt k hk).1) hn hB fun v' w' h1 h2 hob => by
    refine hK v' w' ⟨h1.row, fun j hj => ?_⟩ h2 hob
    have k2 : Kept (fun k => H ≤ k) w w' := h2.mono fun k _ hk => (h.row.lt k hk).1
    by_cases hlt : j < L.length
    · rw [List.getElem_append_left hlt, appF, if_pos hlt]
      exact (h.dat j hlt).keep good_byte k2
    · rw [List.getElem_append_right (by omega), appF, if_neg hlt]
      exact (hdat (j - L.length) (by rw [List.length_append] at hj; omega)).keep good_byte k2
/-- The first k of a row, as a slice. -/
theorem EQ.upto {A : Option Addr} {n cap : Nat} (h : EQ H w (.slice A n cap) L f) (k : Nat) (hk : k ≤ L.length) :
    n = L.length ∧ n ≤ cap ∧ (A = none → cap = 0) ∧ (L.take k ≠ [] → ∃ ad, A = some ad ∧ ∀ j u, (ofC (L.take k) f)[j]? = some u → w.cell? (ad.add j) = some u) ∧ ∀ j (hj : j < (L.take k).length), Sl 1 Rbyte (fun k => H ≤ k) w (f j) (L.take k)[j].data := by
  have hn : n = L.length := by
    obtain ⟨_, _, e⟩ := own_form h.row
    injection e
  subst hn
  refine ⟨rfl, ?_, fun hA => ?_, fun hne => ?_, fun j hj => ?_⟩
  · rcases h.row.2 with ⟨h0, _⟩ | ⟨g', cap', cur, hv, _, _, h1, _⟩
    · injection h0 with _ h0 h1; omega
    · injection hv with _ _ e3; omega
  · rcases h.row.2 with ⟨h0, _⟩ | ⟨g', cap', cur, hv, _⟩
    · injection h0
    · injection hv with e1; rw [hA] at e1; cases e1
  · have hpos : 0 < L.length := by
      rcases Nat.eq_zero_or_pos L.length with h0 | h0
      · exact absurd (by rw [List.eq_nil_of_length_eq_zero h0]; simp) hne
      · exact h0
    obtain ⟨b, cap', hv, _⟩ := h.eo.form hpos
    injection hv with e1 e2 e3
    subst e1
    refine ⟨_, rfl, fun j u hu => ?_⟩
    have hlk : (L.take k).length = k := by rw [List.length_take]; omega
    have hj : j < k * 10 := by
      have := (List.getElem?_eq_some_iff.1 hu).1
      rwa [ofC_len, hlk] at this
    rw [Addr.add_lit]
    simp only [Nat.zero_add]
    rw [h.row.cellAt j (by omega), ← hu]
    have e : j = j / 10 * 10 + j % 10 := by omega
    rw [e, ofC_at L f (j / 10) (by omega) (j % 10) (by omega), ofC_at (L.take k) f (j / 10) (by omega) (j % 10) (by omega), List.getElem_take]
  · rw [List.getElem_take]
    exact h.dat j (by rw [List.length_take] at hj; omega)
/-- A row from its k-th on, as a slice. -/
theorem EQ.from_ {A : Option Addr} {n cap : Nat} (h : EQ H w (.slice A n cap) L f) (k : Nat) (hk : k ≤ L.length) :
    ((if cap = k then A else A.map (·.add (k * 10))) = none → cap - k = 0) ∧ (L.drop k ≠ [] → ∃ ad, (if cap = k then A else A.map (·.add (k * 10))) = some ad ∧ ∀ j u, (ofC (L.drop k) fun j => f (k + j))[j]? = some u → w.cell? (ad.add j) = some u) ∧ ∀ j (hj : j < (L.drop k).length), Sl 1 Rbyte (fun k => H ≤ k) w (f (k + j)) (L.drop k)[j].data := by
  obtain ⟨hn, hnc, hA0, _⟩ := h.upto k hk
  subst hn
  refine ⟨fun hA => ?_, fun hne => ?_, fun j hj => ?_⟩
  · split at hA
    · omega
    · have : A = none := by simpa using hA
      have := hA0 this
      omega
  · have hlt : k < L.length := by
      rcases Nat.lt_or_ge k L.length with h0 | h0
      · exact h0
      · exact absurd (List.drop_eq_nil_of_le h0) hne
    obtain ⟨b, cap', hv, _⟩ := h.eo.form (by omega)
    injection hv with e1 e2 e3
    subst e1
    rw [if_neg (by omega)]
    refine ⟨_, rfl, fun j u hu => ?_⟩
    have hlk : (L.drop k).length = L.length - k := by rw [List.length_drop]
    have hj : j < (L.length - k) * 10 := by
      have := (List.getElem?_eq_some_iff.1 hu).1
      rwa [ofC_len, hlk] at this
    show w.cell? (((⟨b, 0, none⟩ : Addr).add (k * 10)).add j) = some u
    rw [Addr.add_lit, Addr.add_lit]
    simp only [Nat.zero_add]
    rw [h.row.cellAt (k * 10 + j) (by omega), ← hu]
    have e : j = j / 10 * 10 + j % 10 := by omega
    have e2 : k * 10 + j = (k + j / 10) * 10 + j % 10 := by omega
    rw [e2, ofC_at L f (k + j / 10) (by omega) (j % 10) (by omega)]
    conv => rhs; rw [e]
    rw [ofC_at (L.drop k) (fun j => f (k + j)) (j / 10) (by omega) (j % 10) (by omega), List.getElem_drop]
  · rw [List.getElem_drop]
    exact h.dat (k + j) (by rw [List.length_drop] at hj; omega)
end
theorem posE_step (x : En) (L : List En) (k : Nat) (h : k < L.length) : posE x (L.drop k) = if Op.bytesLess L[k].path x.path = true then posE x (L.drop (k + 1)) + 1 else 0 := by
  rw [List.drop_eq_getElem_cons h, posE]
theorem posE_end (x : En) (L : List En) (k : Nat) (h : L.length ≤ k) : posE x (L.drop k) = 0 := by
  rw [List.drop_eq_nil_of_le h, posE]
theorem relinkE_path (f : Nat) (old new : List UInt8) (k : Nat) (y : En) : (relinkE f old new k y).path = y.path := by
  rw [relinkE]; split <;> rfl
theorem relinkK_path (o : List En) (f : Nat) (old new : List UInt8) (k j : Nat) (h : j < o.length) : ((relinkK o f old new k)[j]'(by rw [relinkK_len]; exact h)).path = o[j].path := by
  have hm : ((o.take k).mapIdx (relinkE f old new)).length = min k o.length := by rw [List.length_mapIdx, List.length_take]
  simp only [relinkK]
  by_cases hjk : j < k
  · rw [List.getElem_append_left (by omega), List.getElem_mapIdx, relinkE_path, List.getElem_take]
  · rw [List.getElem_append_right (by omega), List.getElem_drop]
    congr 2
    omega
end Go.Proofs.YtjhikglgaoncjaaDoor
