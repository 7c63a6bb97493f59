/- What the document's Read (cpio) has in memory. -/
import Derived.Test.YtolknddegfcmpaaDoorCqF
import Derived.Test.YtolknddegfcmpaaDoorCqC
namespace Go.Proofs.YtolknddegfcmpaaDoor
open Go.RowKit
def DX (lv hv : Value) : Nat → Prop := fun k => lv.ownBlock = some k ∨ hv.ownBlock = some k
structure DR (w0 : World) (lv hv : Value) (L : List En) (f : Nat → Value) (hs : List Value) (heads : List (List Nat)) (w : World) : Prop where
  bel : Below w0.heap.size w0 w
  row : w.ownsRow w0.heap.size tE 10 lv L.length (ofC L f)
  dat : ∀ j (h : j < L.length), Sl 1 Rbyte (DX lv hv) w (f j) L[j].data
  hrow : w.ownsRow w0.heap.size 63 1 hv hs.length hs
  hlen : hs.length = heads.length
  hdat : ∀ j (h : j < heads.length), ∃ gj cj cs, hs[j]? = some (.slice (some ⟨gj, 0, none⟩) 13 cj) ∧ Blk w gj 3 cs ∧ NumAt w gj heads[j]
section
variable {w0 w w' : World} {lv hv : Value} {L : List En} {f : Nat → Value} {hs : List Value} {heads : List (List Nat)}
theorem DR.nil (w0 : World) (f : Nat → Value) {w : World} (hb : Below w0.heap.size w0 w) : DR w0 (.slice none 0 0) (.slice none 0 0) [] f [] [] w :=
  ⟨hb, World.ownsRow_nil _ _ _ _, fun j h => by simp at h, World.ownsRow_nil _ _ _ _, rfl, fun j h => by simp at h⟩
theorem DR.eo (h : DR w0 lv hv L f hs heads w) : EO w0.heap.size w lv L f :=
  ⟨h.row, fun j hj => (h.dat j hj).mono good_byte (by omega) fun k _ e => .inl e⟩
theorem DR.below (h : DR w0 lv hv L f hs heads w) (hb : Below w.heap.size w w') : DR w0 lv hv L f hs heads w' :=
  ⟨h.bel.trans (hb.mono h.bel.size), own_below h.row hb, fun j hj => Below.sl good_byte hb (h.dat j hj), own_below h.hrow hb, h.hlen, fun j hj => by
    obtain ⟨gj, cj, cs, h1, h2, h3⟩ := h.hdat j hj
    exact ⟨gj, cj, cs, h1, h2.below hb h2.lt, h3.keep (Kept.of_below hb nowhere) (fun h => h)⟩⟩
theorem DR.hat (h : DR w0 lv hv L f hs heads w) : HeadsAt w hv heads := by
  obtain ⟨A, cap, rfl⟩ := own_form h.hrow
  refine ⟨A, cap, by rw [h.hlen], fun j hj => ?_⟩
  obtain ⟨gj, cj, cs, h1, h2, h3⟩ := h.hdat j hj
  have hj2 : j < hs.length := by rw [h.hlen]; exact hj
  have ho := h.hrow
  obtain ⟨g, hA⟩ : ∃ g, A = some ⟨g, 0, none⟩ := by
    rcases ho.2 with ⟨h0, _⟩ | ⟨g, cap, cur, h, _⟩
    · injection h0 with _ e _; omega
    · injection h with h1; exact ⟨g, h1⟩
  subst hA
  refine ⟨g, gj, cj, rfl, ?_, h3⟩
  have := ho.cellAt j (by omega)
  rw [this]; exact h1
theorem DR.poke (h : DR w0 lv hv L f hs heads w) {g : Nat} {t : TypeId} {cs : Array Value} (hg : Blk w g t cs) (hH : w0.heap.size ≤ g) (h2 : tE ≠ t ∨ lv.ownBlock ≠ some g) (h3 : 63 ≠ t) (h4 : 3 ≠ t) (hno : ∀ (i : Nat) (b : Int), cs[i]? ≠ some (Value.int .u8 b)) (i : Nat) (u : Value) : DR w0 lv hv L f hs heads (w.setCell ⟨g, i, none⟩ u) := by
  have hk : Kept (fun k => k = g) w (w.setCell ⟨g, i, none⟩ u) := (Kept.refl _ w).setCell u fun _ => rfl
  have hlv : lv.ownBlock ≠ some g := h2.elim (fun e => own_notblk h.row hg e) id
  refine ⟨h.bel.trans (hk.below h.bel.size fun k _ e => by rw [e]; exact hH), own_other h.row u hlv, fun j hj => ?_, own_other h.hrow u (own_notblk h.hrow hg h3), h.hlen, fun j hj => ?_⟩
  · exact (((h.dat j hj).off hg hno).keep good_byte (hk.mono fun k _ e => .inr e)).mono good_byte (by omega) fun k _ e => .inl e
  · obtain ⟨gj, cj, cs', r1, r2, r3⟩ := h.hdat j hj
    have hne : gj ≠ g := fun e => Blk.apartT r2 hg h4 e
    exact ⟨gj, cj, cs', r1, hk.blk r2 hne, r3.keep hk hne⟩
theorem DR.data (h : DR w0 lv hv L f hs heads w) {g n cap : Nat} (hlv : lv = .slice (some ⟨g, 0, none⟩) n cap) (i : Nat) (hi : i < L.length) (u : Value) (d : List UInt8) (hd : Sl 1 Rbyte (DX lv hv) w u d) :
    DR w0 lv hv (L.set i { L[i] with data := d }) (upd f i u) hs heads (w.setCell ⟨g, i * 10 + 9, none⟩ u) := by
  subst hlv
  have hk : Kept (fun b => (Value.slice (some ⟨g, 0, none⟩) n cap).ownBlock = some b) w (w.setCell ⟨g, i * 10 + 9, none⟩ u) := (Kept.refl _ w).setCell u fun _ => rfl
  have hkB : Kept (DX (.slice (some ⟨g, 0, none⟩) n cap) hv) w (w.setCell ⟨g, i * 10 + 9, none⟩ u) := hk.mono fun k _ e => .inl e
  have hp := h.eo.put h.bel.size i hi 9 (by omega) u { L[i] with data := d } u rfl (hd.mono good_byte (by omega) fun k _ e => .inl e)
  refine ⟨h.bel.trans (hk.below h.bel.size fun k _ e => (h.row.lt k e).1), hp.1.row, fun j hj => ?_, own_other h.hrow u (fun e => own_notown h.row h.hrow (by decide) rfl e), h.hlen, fun j hj => ?_⟩
  · have hj2 : j < L.length := by rw [List.length_set] at hj; exact hj
    by_cases hjk : j = i
    · subst hjk
      have e2 : (L.set j { L[j] with data := d })[j]'hj = { L[j] with data := d } := by simp
      rw [e2, upd, if_pos rfl]
      exact hd.keep good_byte hkB
    · have e2 : (L.set i { L[i] with data := d })[j]'hj = L[j]'hj2 := List.getElem_set_ne (fun h => hjk h.symm) _
      rw [e2, upd, if_neg hjk]
      exact (h.dat j hj2).keep good_byte hkB
  · obtain ⟨gj, cj, cs', r1, r2, r3⟩ := h.hdat j hj
    have hne : ¬ (Value.slice (some ⟨g, 0, none⟩) n cap).ownBlock = some gj := fun e => own_notblk h.row r2 (by decide) e
    exact ⟨gj, cj, cs', r1, hk.blk r2 hne, r3.keep hk hne⟩
theorem DR.app (h : DR w0 lv hv L f hs heads w) {e : En} {dv v' : Value} (he : EO w0.heap.size w' v' (L ++ [e]) (appF f L.length fun _ => dv)) (hk : Kept (fun k => lv.ownBlock = some k) w w') (hob : v'.ownBlock = lv.ownBlock ∨ ∀ k, v'.ownBlock = some k → w.heap.size ≤ k)
    (hd : Sl 1 Rbyte (DX lv hv) w dv e.data) : DR w0 v' hv (L ++ [e]) (appF f L.length fun _ => dv) hs heads w' := by
  have hbel : Below w0.heap.size w0 w' := h.bel.trans (hk.below h.bel.size fun k _ e => (h.row.lt k e).1)
  have move : ∀ (d : Value) (b : List UInt8), Sl 1 Rbyte (DX lv hv) w d b → Sl 1 Rbyte (DX v' hv) w' d b := fun d b hb => by
    have b1 := hb.mono (Y := fun k => DX lv hv k ∨ DX v' hv k) good_byte (by omega) fun k hk hk2 => hk2.elim id fun h => by
      rcases h with h | h
      · rcases hob with e | e
        · exact .inl (by rw [← e]; exact h)
        · have := e k h; omega
      · exact .inr h
    exact (b1.keep good_byte (hk.mono fun k _ hk => .inl (.inl hk))).mono good_byte (by omega) fun k _ hk => .inr hk
  refine ⟨hbel, he.row, fun j hj => ?_, hk.own h.hrow fun k e1 e2 => own_notown h.row h.hrow (by decide) e2 e1, h.hlen, fun j hj => ?_⟩
  · by_cases hlt : j < L.length
    · rw [List.getElem_append_left hlt, appF, if_pos hlt]
      exact move _ _ (h.dat j hlt)
    · have hjl : j = L.length := by rw [List.length_append, List.length_singleton] at hj; omega
      subst hjl
      rw [List.getElem_append_right (by omega), appF, if_neg (by omega)]
      simp only [Nat.sub_self, List.getElem_cons_zero]
      exact move _ _ hd
  · obtain ⟨gj, cj, cs', r1, r2, r3⟩ := h.hdat j hj
    have hne : ¬ lv.ownBlock = some gj := fun e => own_notblk h.row r2 (by decide) e
    exact ⟨gj, cj, cs', r1, hk.blk r2 hne, r3.keep hk hne⟩
theorem DR.head (h : DR w0 lv hv L f hs heads w) {ns : List Nat} {gn cn : Nat} {v' : Value} (ho : w'.ownsRow w0.heap.size 63 1 v' (hs ++ [Value.slice (some ⟨gn, 0, none⟩) 13 cn]).length (hs ++ [Value.slice (some ⟨gn, 0, none⟩) 13 cn])) (hk : Kept (fun k => hv.ownBlock = some k) w w') (hob : v'.ownBlock = hv.ownBlock ∨ ∀ k, v'.ownBlock = some k → w.heap.size ≤ k)
    {cs : Array Value} (hB : Blk w gn 3 cs) (hN : NumAt w gn ns) : DR w0 lv v' L f (hs ++ [Value.slice (some ⟨gn, 0, none⟩) 13 cn]) (heads ++ [ns]) w' := by
  have hbel : Below w0.heap.size w0 w' := h.bel.trans (hk.below h.bel.size fun k _ e => (h.hrow.lt k e).1)
  have hlen := h.hlen
  refine ⟨hbel, hk.own h.row fun k e1 e2 => own_notown h.hrow h.row (by decide) e2 e1, fun j hj => ?_, ho, by simp [hlen], fun j hj => ?_⟩
  · have b1 := (h.dat j hj).mono (Y := fun k => DX lv hv k ∨ DX lv v' k) good_byte (by omega) fun k hk hk2 => hk2.elim id fun h => by
      rcases h with h | h
      · exact .inl h
      · rcases hob with e | e
        · exact .inr (by rw [← e]; exact h)
        · have := e k h; omega
    exact (b1.keep good_byte (hk.mono fun k _ hk => .inl (.inr hk))).mono good_byte (by omega) fun k _ hk => .inr hk
  · by_cases hlt : j < heads.length
    · obtain ⟨gj, cj, cs', r1, r2, r3⟩ := h.hdat j hlt
      have hne : ¬ hv.ownBlock = some gj := fun e => own_notblk h.hrow r2 (by decide) e
      refine ⟨gj, cj, cs', ?_, hk.blk r2 hne, ?_⟩
      · rw [List.getElem?_append_left (by omega)]; exact r1
      · rw [List.getElem_append_left hlt]; exact r3.keep hk hne
    · have hjl : j = heads.length := by rw [List.length_append, List.length_singleton] at hj; omega
      subst hjl
      have hne : ¬ hv.ownBlock = some gn := fun e => own_notblk h.hrow hB (by decide) e
      refine ⟨gn, cn, cs, ?_, hk.blk hB hne, ?_⟩
      · rw [List.getElem?_append_right (by omega), hlen, Nat.sub_self]; rfl
      · rw [List.getElem_append_right (by omega)]
        simp only [Nat.sub_self, List.getElem_cons_zero]
        exact hN.keep hk hne
end
theorem info_ints : (Tryd.prog.info? 63).map (fun i => (i.zero, i.size, i.bytes)) = some (some (.slice none 0 0), 1, 24) := by kernel_rfl
/-- append of a row of numbers to a row of such rows. -/
theorem wpList_head {w : World} {B : Nat} {pv : Value} {l : List Value} {ops : Array Oper} {rest : List Oper} {o : Oper} {a : Act} {Q : Exit → Act → World → Prop} (hgd : o.guard = none) (s x : Operand)
    (ho : o.op = .call { callee := .builtin .append, args := #[s, x], argTypes := #[67, 67] }) (hs : a.eval s = pv) (hown : w.ownsRow B 63 1 pv l.length l) (u : Value) (hu : u.oneCell' = true) (g c : Nat) (hx : a.eval x = .slice (some ⟨g, 0, none⟩) 1 c) (hblk : Blk w g 63 #[u]) (hn : l.length ≤ 10000000) (hB : B ≤ w.heap.size)
    (h : ∀ v' w', w'.ownsRow B 63 1 v' (l ++ [u]).length (l ++ [u]) → Kept (fun k => pv.ownBlock = some k) w w' → (v'.ownBlock = pv.ownBlock ∨ ∀ k, v'.ownBlock = some k → w.heap.size ≤ k) → wpList Tryd.prog ops Q rest (a.put o.dst v') w') : wpList Tryd.prog ops Q (o :: rest) a w := by
  obtain ⟨i0, hi, hz0, hz1, hz2⟩ := info_parts info_ints
  have ht : Tryd.prog.underlying 67 = some (.slice 63) := Tryd.underlying67
  refine wpList_plain hgd fun K hK => ?_
  have hnews : ∀ j y, ([u] : List Value)[j]? = some y → w.cell? ((⟨g, 0, none⟩ : Addr).add j) = some y := fun j y hy => by
    rw [Addr.add_lit, Nat.zero_add, hblk.cell]
    simpa using hy
  obtain ⟨v', w', hr, h2, h3, _⟩ := run_append_own (P := Tryd.prog) w B 67 o.type 63 i0 _ 1 24 ht hi hz0 hz1 hz2 rfl (by decide) pv l.length l hown ⟨g, 0, none⟩ 1 c [u] rfl hnews (by simpa using hu) (by unfold maxLen; omega) (by omega) hB
  have hob := append_block ht hi hz0 hz1 hz2 rfl (by decide) hown ⟨g, 0, none⟩ 1 c [u] rfl hnews (by simpa using hu) (by unfold maxLen; omega) (by omega) hr
  unfold Oper.wp execOp
  simp only [ho, resolve, invoke, builtin, Sem.run_bind, Sem.run_pure, Result.andThen_ok, List.map_toArray, List.map_cons, List.map_nil, hs, hx, hr]
  refine hK _ _ (h v' w' ?_ (Kept.grown h3) hob)
  rw [List.length_append, List.length_singleton]
  exact h2
end Go.Proofs.YtolknddegfcmpaaDoor
