/- Rows of entries whose bytes are turned: what is left of them. -/
import Derived.Test.YtjhikglgaoncjaaDoorEnO
import Derived.Test.YtjhikglgaoncjaaDoorEnU
namespace Go.Proofs.YtjhikglgaoncjaaDoor
open Go.RowKit
/-- A slice of bytes one cell of which is written is a slice of bytes. -/
theorem Sl.poke {X : Nat → Prop} {w : World} {v : Value} {l : List UInt8} (h : Sl 1 Rbyte X w v l) (p : Addr) (m : UInt8) : ∃ l' : List UInt8, l'.length = l.length ∧ Sl 1 Rbyte X (w.setCell p (.int .u8 (m.toNat : Int))) v l' := by
  obtain ⟨A, cap, hv, h1, h2, h3, h4, h5⟩ := h
  by_cases hl : l = []
  · subst hl
    exact ⟨[], rfl, A, cap, hv, h1, h2, h3, fun h => absurd rfl h, fun b off hA i hi => by simp at hi⟩
  obtain ⟨b, off, hA, hX, hc⟩ := h4 hl
  refine ⟨List.ofFn fun j : Fin l.length => if p = (⟨b, off + j, none⟩ : Addr) then m else l[j], by simp, A, cap, by simpa using hv, by simpa using h1, h2, h3, fun _ => ⟨b, off, hA, hX, fun j hj => ?_⟩, fun b' off' hA' i hi => ?_⟩
  · have hj' : j < l.length := by simpa using hj
    obtain ⟨cs, hcs, hR⟩ := hc j hj'
    have hR : cs = [.int .u8 (l[j].toNat : Int)] := hR
    subst hR
    have h0 := hcs 0 _ rfl
    simp only [Nat.mul_one, Nat.add_zero] at h0
    by_cases hp : p = (⟨b, off + j, none⟩ : Addr)
    · refine ⟨[.int .u8 (m.toNat : Int)], fun i u hu => ?_, by simp [Rbyte, hp]⟩
      match i, hu with
      | 0, hu =>
        simp at hu
        subst hu hp
        simpa using World.cell?_setCell_same _ _ _ h0
      | i + 1, hu => simp at hu
    · refine ⟨[.int .u8 (l[j].toNat : Int)], fun i u hu => ?_, by simp [Rbyte, hp]⟩
      match i, hu with
      | 0, hu =>
        simp at hu
        subst hu
        simp only [Nat.mul_one, Nat.add_zero]
        rw [World.cell?_setCell_other _ _ _ _ hp]
        exact h0
      | i + 1, hu => simp at hu
  · rw [World.frozen?_setCell]
    exact h5 b' off' hA' i (by simpa using hi)
/-- A row of entries of one's own whose data have these lengths and lie between lo and hi. -/
structure Mess (lo hi : Nat) (W : World) (v : Value) (ls : List Nat) (f : Nat → Value) : Prop where
  ex : ∃ L : List En, L.map (fun e => e.data.length) = ls ∧ EO lo W v L f
  blk : ∀ b, v.ownBlock = some b → b < hi
  fre : ∀ j (h : j < ls.length), 0 < ls[j] → ∀ b, (f j).ownBlock = some b → lo ≤ b ∧ b < hi
theorem Mess.below {lo hi : Nat} {W W' : World} {v : Value} {ls : List Nat} {f : Nat → Value} (h : Mess lo hi W v ls f) (k : Below W.heap.size W W') : Mess lo hi W' v ls f := by
  obtain ⟨L, h1, h2⟩ := h.ex
  exact ⟨⟨L, h1, h2.below k⟩, h.blk, h.fre⟩
theorem Mess.at {lo hi : Nat} {W : World} {g n cap : Nat} {ls : List Nat} {f : Nat → Value} (h : Mess lo hi W (.slice (some ⟨g, 0, none⟩) n cap) ls f) (j : Nat) (hj : j < ls.length) :
    W.cell? ⟨g, j * 10 + 9, none⟩ = some (f j) ∧ (∃ s, W.cell? ⟨g, j * 10, none⟩ = some (.string s)) ∧ W.frozen? ⟨g, j * 10, none⟩ = false ∧ (∃ A c, f j = .slice A ls[j] c ∧ ls[j] ≤ c ∧ c ≤ maxLen) ∧
    (0 < ls[j] → ∃ bb off c, f j = .slice (some ⟨bb, off, none⟩) ls[j] c ∧ ∀ k, k < ls[j] → (∃ y : UInt8, W.cell? ⟨bb, off + k, none⟩ = some (.int .u8 (y.toNat : Int))) ∧ W.frozen? ⟨bb, off + k, none⟩ = false ∧
      ∀ m : UInt8, Mess lo hi (W.setCell ⟨bb, off + k, none⟩ (.int .u8 (m.toNat : Int))) (.slice (some ⟨g, 0, none⟩) n cap) ls f ∧ Kept (fun b => lo ≤ b ∧ b < hi) W (W.setCell ⟨bb, off + k, none⟩ (.int .u8 (m.toNat : Int)))) := by
  obtain ⟨L, hL, hE⟩ := h.ex
  have hlen : L.length = ls.length := by rw [← hL, List.length_map]
  have hjL : j < L.length := by omega
  have hlj : ls[j] = L[j].data.length := by simp [← hL]
  have hd := hE.dat j hjL
  obtain ⟨A, c, hfv, hc1, hc2⟩ := hd.form
  obtain ⟨g', cap', hv, _, _, _, _, hblk⟩ := hE.form (by omega)
  injection hv with hv1
  injection hv1 with hv1
  injection hv1 with hv1
  subst hv1
  refine ⟨(hE.cell j hjL).c9, ⟨_, (hE.cell j hjL).c0⟩, hblk.frozen _, ⟨A, c, by rw [hlj]; exact hfv, by rw [hlj]; exact hc1, hc2⟩, fun hpos => ?_⟩
  obtain ⟨A', c', hfv', _, _, _, h4, h5⟩ := id hd
  have hne : L[j].data ≠ [] := fun e => by rw [hlj, e] at hpos; simp at hpos
  obtain ⟨bb, off, hA, hX, hcs⟩ := h4 hne
  subst hA
  have hfb := h.fre j hj hpos bb (by rw [hfv']; rfl)
  refine ⟨bb, off, c', by rw [hlj]; exact hfv', fun k hk => ?_⟩
  rw [hlj] at hk
  obtain ⟨cs, h6, hR⟩ := hcs k hk
  have hR : cs = [.int .u8 (L[j].data[k].toNat : Int)] := hR
  subst hR
  have hcell := h6 0 _ rfl
  simp only [Nat.mul_one, Nat.add_zero] at hcell
  refine ⟨⟨_, hcell⟩, h5 bb off rfl k (by omega), fun m => ?_⟩
  have hgb : g ≠ bb := fun e => hX (by rw [e]; rfl)
  have k1 : Kept (fun b => b = bb) W (W.setCell ⟨bb, off + k, none⟩ (.int .u8 (m.toNat : Int))) := (Kept.refl (fun b => b = bb) W).setCell (p := ⟨bb, off + k, none⟩) _ fun _ => rfl
  have hpk : ∀ i (hi : i < L.length), ∃ l' : List UInt8, l'.length = L[i].data.length ∧ Sl 1 Rbyte (fun k => (Value.slice (some ⟨g, 0, none⟩) n cap).ownBlock = some k) (W.setCell ⟨bb, off + k, none⟩ (.int .u8 (m.toNat : Int))) (f i) l' := fun i hi => (hE.dat i hi).poke _ m
  refine ⟨⟨⟨List.ofFn fun i : Fin L.length => { L[i] with data := Classical.choose (hpk i i.2) }, ?_, ?_⟩, h.blk, h.fre⟩, k1.mono fun b _ hb => by subst hb; exact hfb⟩
  · refine Eq.trans ?_ hL
    apply List.ext_getElem
    · simp
    · intro i h1 h2
      have hi : i < L.length := by simpa using h2
      simp only [List.getElem_map, List.getElem_ofFn]
      exact (Classical.choose_spec (hpk i hi)).1
  · have hcs2 : ofC (List.ofFn fun i : Fin L.length => { L[i] with data := Classical.choose (hpk i i.2) }) f = ofC L f := by
      rw [ofC, ofC]
      congr 1
      apply List.ext_getElem
      · simp
      · intro i h1 h2
        simp only [List.getElem_ofFn, Fin.getElem_fin]
        rfl
    refine ⟨?_, fun i hi => ?_⟩
    · rw [hcs2, List.length_ofFn]
      exact k1.own hE.row fun b hb e => by
        have : g = b := Option.some.inj hb
        exact hgb (this.trans e)
    · have hi' : i < L.length := by simpa using hi
      simp only [List.getElem_ofFn]
      exact (Classical.choose_spec (hpk i hi')).2
/-- .. a path too. -/
theorem Mess.path {lo hi : Nat} {W : World} {g n cap : Nat} {ls : List Nat} {f : Nat → Value} (h : Mess lo hi W (.slice (some ⟨g, 0, none⟩) n cap) ls f) (hlo : lo ≤ W.heap.size) (j : Nat) (hj : j < ls.length) (s : List UInt8) :
    Mess lo hi (W.setCell ⟨g, j * 10, none⟩ (.string (bs s))) (.slice (some ⟨g, 0, none⟩) n cap) ls f ∧ Kept (fun b => lo ≤ b ∧ b < hi) W (W.setCell ⟨g, j * 10, none⟩ (.string (bs s))) := by
  obtain ⟨L, hL, hE⟩ := h.ex
  have hlen : L.length = ls.length := by rw [← hL, List.length_map]
  have hjL : j < L.length := by omega
  obtain ⟨h1, h2⟩ := hE.put hlo j hjL 0 (by omega) (.string (bs s)) { L[j] with path := s } (f j) rfl (hE.dat j hjL)
  have hup : upd f j (f j) = f := by
    funext i
    by_cases hi : i = j <;> simp [upd, hi]
  rw [hup, Nat.add_zero] at h1
  have hgb := (hE.row.lt g rfl).1
  refine ⟨⟨⟨_, ?_, h1⟩, h.blk, h.fre⟩, ((Kept.refl (fun b => b = g) W).setCell (p := ⟨g, j * 10, none⟩) _ fun _ => rfl).mono fun b _ hb => by subst hb; exact ⟨hgb, h.blk _ rfl⟩⟩
  rw [← hL]
  apply List.ext_getElem
  · simp
  · intro i h3 h4
    simp only [List.getElem_map, List.getElem_set]
    split
    · rename_i e; subst e; rfl
    · rfl
theorem xor255 (y : UInt8) : ∃ m : UInt8, bits .xor .u8 (y.toNat : Int) 255 = (m.toNat : Int) := by
  refine ⟨y ^^^ 255, ?_⟩
  rw [show (255 : Int) = ((255 : Nat) : Int) from rfl, u8_xor_nat _ _ y.toNat_lt (by omega)]
  rfl
end Go.Proofs.YtjhikglgaoncjaaDoor
