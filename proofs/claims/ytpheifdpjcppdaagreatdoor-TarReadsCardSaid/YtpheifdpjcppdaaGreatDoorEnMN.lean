/- The walks of Canon's closures, bytes.Clone, slices.Clone at entries, entry.Copy. The walks of slices.Clone at entries and of entry.Copy. append onto a row of entries of one's own. Literal bytes and entries as slices that read. -/
import Derived.Test.YtpheifdpjcppdaaGreatDoorEnJL
import Derived.Test.YtpheifdpjcppdaaGreatDoorShelfC
import Derived.Deep.Strs
import Derived.Test.YtpheifdpjcppdaaGreatDoorMapU
namespace Go.Proofs.YtpheifdpjcppdaaGreatDoor
open Go.RowKit
/-- The path of the file that an entry is a name of. -/
def fileE (e : En) : List UInt8 := if e.kind = 4 then e.link else e.path
/-- bytes.Clone. -/
theorem bclone_any (l : List UInt8) (v : Value) (X : Nat → Prop) (w : World) (hsl : Sl 1 Rbyte X w v l) (hl : l.length ≤ 140737488355328) :
    Calls Tryz.prog 72 #[v] w fun e w' => (∃ v', e = .returned v' ∧ OwnL 1 Rbyte 5 w.heap.size nowhere w' v' l) ∧ Below w.heap.size w w' := by
  obtain ⟨A, cap, rfl, h1, h2, h3, h4, h5⟩ := id hsl
  cases A with
  | none =>
    have hl0 : l = [] := by
      have := h3 rfl
      exact List.eq_nil_of_length_eq_zero (by omega)
    subst hl0
    refine (Tryz.bytes_Clone_nil _ _ w).mono ?_
    rintro e w' ⟨rfl, rfl⟩
    exact ⟨⟨_, rfl, OwnL.nil _ _ _ _ _ _⟩, Below.refl _ _⟩
  | some a =>
    have hcs : ∀ i, i < l.length → w.cell? (a.add i) = some (.int .u8 ((l.map fun b => (b.toNat : Int)).getD i 0)) := fun i hi => by
      have hne : l ≠ [] := fun e => by rw [e] at hi; simp at hi
      obtain ⟨b, off, hA, _, hc⟩ := h4 hne
      injection hA with hA
      subst hA
      obtain ⟨cs, hcs, hR⟩ := hc i hi
      have hR : cs = [.int .u8 (l[i].toNat : Int)] := hR
      subst hR
      have := hcs 0 _ rfl
      rw [Addr.add_lit]
      simpa [List.getD, hi] using this
    refine (Tryz.bytes_Clone_at a l.length cap (l.map fun b => (b.toNat : Int)) w (by simp) hl hcs).mono ?_
    rintro e w' ⟨v', rfl, ho, _, hb⟩
    refine ⟨⟨v', rfl, l.map fun b => [.int .u8 (b.toNat : Int)], ?_, by simp, fun _ _ h => h, fun j h h' => by simp [Rbyte]⟩, hb⟩
    have : (l.map fun b => [Value.int .u8 (b.toNat : Int)]).flatten = (l.map fun b => (b.toNat : Int)).map (Value.int .u8) := by
      clear ho hcs h1 h4 h5 hsl hl
      induction l with
      | nil => rfl
      | cons c t ih => rw [List.map_cons, List.flatten_cons, ih]; rfl
    rw [this]; exact ho
/-- The cells of entries whose data lie at f's slices. -/
def ofC (l : List En) (f : Nat → Value) : List Value := (List.ofFn fun j : Fin l.length => entC l[j] (f j)).flatten
theorem ofC_len (l : List En) (f : Nat → Value) : (ofC l f).length = l.length * 10 := by
  rw [ofC, List.length_flatten]
  have : (List.ofFn fun j : Fin l.length => entC l[j] (f j)).map List.length = List.replicate l.length 10 := by
    apply List.ext_getElem
    · simp
    · intro i h1 h2; simp [entC]
  rw [this]; simp
theorem ofC_at (l : List En) (f : Nat → Value) (j : Nat) (hj : j < l.length) (i : Nat) (hi : i < 10) : (ofC l f)[j * 10 + i]? = (entC l[j] (f j))[i]? := by
  rw [ofC, flatten_at _ 10 (fun cs hcs => by obtain ⟨k, rfl⟩ := List.mem_ofFn.1 hcs; rfl) j (by simpa using hj) i hi]
  simp
theorem info_ent : (Tryz.prog.info? tE).map (fun i => (i.zero, i.size, i.bytes)) = some (some (.agg #[.string ⟨#[]⟩, .int .i64 0, .int .i64 0, .int .i64 0, .int .i64 0, .string ⟨#[]⟩, .string ⟨#[]⟩, .int .i64 0, .string ⟨#[]⟩, .slice none 0 0]), 10, 128) := by kernel_rfl
end Go.Proofs.YtpheifdpjcppdaaGreatDoor
namespace Go.Proofs.YtpheifdpjcppdaaGreatDoor
open Go.RowKit
theorem ent_choose {X : Nat → Prop} {w : World} {b off n cap : Nat} {l : List En} (h : Sl 10 Rent X w (.slice (some ⟨b, off, none⟩) n cap) l) (hn : 0 < n) : ∃ f : Nat → Value, ∀ j (hj : j < l.length), EntAt w b (off + j * 10) l[j] (f j) ∧ Sl 1 Rbyte X w (f j) l[j].data := by
  obtain ⟨b', off', hA, _, hc⟩ := h.ent hn
  injection hA with hA
  injection hA with h1 h2
  subst h1 h2
  refine ⟨fun j => if hj : j < l.length then Classical.choose (hc j hj) else .slice none 0 0, fun j hj => ?_⟩
  simp only [hj, dif_pos]
  exact Classical.choose_spec (hc j hj)
theorem EntAt.at {w : World} {b off : Nat} {e : En} {v : Value} (h : EntAt w b off e v) (i : Nat) (u : Value) (hu : (entC e v)[i]? = some u) : w.cell? ⟨b, off + i, none⟩ = some u := by
  obtain ⟨c0, c1, c2, c3, c4, c5, c6, c7, c8, c9⟩ := h
  match i, hu with
  | 0, hu => simp [entC] at hu; subst hu; exact c0
  | 1, hu => simp [entC] at hu; subst hu; exact c1
  | 2, hu => simp [entC] at hu; subst hu; exact c2
  | 3, hu => simp [entC] at hu; subst hu; exact c3
  | 4, hu => simp [entC] at hu; subst hu; exact c4
  | 5, hu => simp [entC] at hu; subst hu; exact c5
  | 6, hu => simp [entC] at hu; subst hu; exact c6
  | 7, hu => simp [entC] at hu; subst hu; exact c7
  | 8, hu => simp [entC] at hu; subst hu; exact c8
  | 9, hu => simp [entC] at hu; subst hu; exact c9
  | i + 10, hu => simp [entC] at hu
theorem EntAt.of {w : World} {b off : Nat} {e : En} {v : Value} (h : ∀ i u, (entC e v)[i]? = some u → w.cell? ⟨b, off + i, none⟩ = some u) : EntAt w b off e v :=
  ⟨by simpa using h 0 _ rfl, h 1 _ rfl, h 2 _ rfl, h 3 _ rfl, h 4 _ rfl, h 5 _ rfl, h 6 _ rfl, h 7 _ rfl, h 8 _ rfl, h 9 _ rfl⟩
theorem ofC_one (l : List En) (f : Nat → Value) (hf : ∀ j, j < l.length → (f j).oneCell' = true) : ∀ u ∈ ofC l f, u.oneCell' = true := by
  intro u hu
  rw [ofC, List.mem_flatten] at hu
  obtain ⟨cs, hcs, hu⟩ := hu
  obtain ⟨k, rfl⟩ := List.mem_ofFn.1 hcs
  simp only [entC, List.mem_cons, List.not_mem_nil, or_false] at hu
  rcases hu with rfl | rfl | rfl | rfl | rfl | rfl | rfl | rfl | rfl | rfl
  all_goals first | rfl | exact hf _ k.2
def upd (f : Nat → Value) (k : Nat) (u : Value) : Nat → Value := fun j => if j = k then u else f j
theorem ofC_set (l : List En) (f : Nat → Value) (k : Nat) (hk : k < l.length) (c : Nat) (hc : c < 10) (u : Value) (e' : En) (d' : Value) (h : (entC l[k] (f k)).set c u = entC e' d') :
    (ofC l f).set (k * 10 + c) u = ofC (l.set k e') (upd f k d') := by
  apply List.ext_getElem?
  intro i
  by_cases hi : i < l.length * 10
  · have e : i = i / 10 * 10 + i % 10 := by omega
    have hl2 : (l.set k e').length = l.length := List.length_set
    rw [List.getElem?_set]
    have hj : i / 10 < l.length := by omega
    have hm : i % 10 < 10 := Nat.mod_lt _ (by omega)
    have R : (ofC (l.set k e') (upd f k d'))[i]? = (entC ((l.set k e')[i / 10]'(by rw [hl2]; exact hj)) (upd f k d' (i / 10)))[i % 10]? := by
      have := ofC_at (l.set k e') (upd f k d') (i / 10) (by rw [hl2]; exact hj) (i % 10) hm
      rwa [← e] at this
    have Lh : (ofC l f)[i]? = (entC l[i / 10] (f (i / 10)))[i % 10]? := by
      have := ofC_at l f (i / 10) hj (i % 10) hm
      rwa [← e] at this
    rw [R, Lh]
    by_cases hjk : i / 10 = k
    · subst hjk
      have e2 : (l.set (i / 10) e')[i / 10]'(by rw [hl2]; exact hj) = e' := by simp
      have e3 : upd f (i / 10) d' (i / 10) = d' := by simp [upd]
      rw [e2, e3, ← h, List.getElem?_set]
      by_cases hcm : c = i % 10
      · subst hcm
        rw [if_pos (by omega), if_pos rfl, if_pos (by rw [ofC_len]; omega), if_pos (by simp [entC]; omega)]
      · have hne : ¬ i / 10 * 10 + c = i := fun h => hcm (by omega)
        rw [if_neg hne, if_neg hcm]
    · have e2 : (l.set k e')[i / 10]'(by rw [hl2]; exact hj) = l[i / 10] := List.getElem_set_ne (fun h => hjk h.symm) _
      have e3 : upd f k d' (i / 10) = f (i / 10) := by simp [upd, hjk]
      have hne : ¬ k * 10 + c = i := fun h => hjk (by omega)
      rw [e2, e3, if_neg hne]
  · rw [List.getElem?_eq_none (by rw [List.length_set, ofC_len]; omega), List.getElem?_eq_none (by rw [ofC_len, List.length_set]; omega)]
/-- A row of entries of one's own; their data lie off it. -/
structure EO (B : Nat) (w : World) (v : Value) (l : List En) (f : Nat → Value) : Prop where
  row : w.ownsRow B tE 10 v l.length (ofC l f)
  dat : ∀ j (h : j < l.length), Sl 1 Rbyte (fun k => v.ownBlock = some k) w (f j) l[j].data
theorem EO.below {B : Nat} {w w' : World} {v : Value} {l : List En} {f : Nat → Value} (h : EO B w v l f) (k : Below w.heap.size w w') : EO B w' v l f :=
  ⟨(Kept.of_below k nowhere).own h.row (fun _ _ h => h), fun j hj => Below.sl good_byte k (h.dat j hj)⟩
theorem EO.form {B : Nat} {w : World} {v : Value} {l : List En} {f : Nat → Value} (h : EO B w v l f) (hl : 0 < l.length) : ∃ g cap, v = .slice (some ⟨g, 0, none⟩) l.length cap ∧ B ≤ g ∧ l.length ≤ cap ∧ cap ≤ maxLen ∧ ∃ cs, Blk w g tE cs := by
  rcases h.row.2 with ⟨_, h0⟩ | ⟨g, cap, cur, rfl, hb, hg, hnc, hcm, _⟩
  · omega
  · exact ⟨g, cap, rfl, hb, hnc, hcm, cur, hg⟩
theorem EO.cell {B : Nat} {w : World} {l : List En} {f : Nat → Value} {g n cap : Nat} (h : EO B w (.slice (some ⟨g, 0, none⟩) n cap) l f) (j : Nat) (hj : j < l.length) : EntAt w g (j * 10) l[j] (f j) :=
  EntAt.of fun i u hu => by
    have hi : i < 10 := (List.getElem?_eq_some_iff.1 hu).1
    have hn : n = l.length := by
      obtain ⟨_, _, e⟩ := own_form h.row
      injection e
    subst hn
    have := h.row.cellAt (j * 10 + i) (by omega)
    rw [this, ofC_at l f j hj i hi]; exact hu
theorem EO.put {B : Nat} {w : World} {l : List En} {f : Nat → Value} {g n cap : Nat} (h : EO B w (.slice (some ⟨g, 0, none⟩) n cap) l f) (hB : B ≤ w.heap.size) (k : Nat) (hk : k < l.length) (c : Nat) (hc : c < 10) (u : Value) (e' : En) (d' : Value) (he : (entC l[k] (f k)).set c u = entC e' d')
    (hd : Sl 1 Rbyte (fun b => (Value.slice (some ⟨g, 0, none⟩) n cap).ownBlock = some b) w d' e'.data) : EO B (w.setCell ⟨g, k * 10 + c, none⟩ u) (.slice (some ⟨g, 0, none⟩) n cap) (l.set k e') (upd f k d') ∧ Below B w (w.setCell ⟨g, k * 10 + c, none⟩ u) := by
  have hn : n = l.length := by
    have := own_form h.row
    obtain ⟨_, _, e⟩ := this
    injection e
  have hBg : B ≤ g := (h.row.lt g rfl).1
  have k2 : Kept (fun b => (Value.slice (some ⟨g, 0, none⟩) n cap).ownBlock = some b) w (w.setCell ⟨g, k * 10 + c, none⟩ u) := (Kept.refl _ w).setCell _ fun _ => rfl
  refine ⟨⟨?_, fun j hj => ?_⟩, k2.below hB fun b _ hb => by have e : g = b := Option.some.inj hb; exact e ▸ hBg⟩
  · rw [List.length_set, ← ofC_set l f k hk c hc u e' d' he, ← hn]
    have := h.row
    rw [← hn] at this
    exact own_set this _ _
  · have hj2 : j < l.length := by rw [List.length_set] at hj; exact hj
    by_cases hjk : j = k
    · subst hjk
      have e2 : (l.set j e')[j]'hj = e' := by simp
      rw [e2, upd, if_pos rfl]
      exact hd.keep good_byte k2
    · have e2 : (l.set k e')[j]'hj = l[j]'hj2 := List.getElem_set_ne (fun h => hjk h.symm) _
      rw [e2, upd, if_neg hjk]
      exact (h.dat j hj2).keep good_byte k2
theorem EO.sl {B : Nat} {w : World} {v : Value} {l : List En} {f : Nat → Value} (h : EO B w v l f) : Sl 10 Rent nowhere w v l := by
  have : OwnL 10 Rent tE B nowhere w v l := by
    refine ⟨List.ofFn fun j : Fin l.length => entC l[j] (f j), h.row, by simp, fun _ _ h => h, fun j hj h' => ?_⟩
    refine ⟨f j, by simp, (h.dat j hj).mono good_byte (by decide) fun k _ hm => hm.elim (fun h => h.elim) fun h => h⟩
  exact this.sl good_ent
end Go.Proofs.YtpheifdpjcppdaaGreatDoor
namespace Go.Proofs.YtpheifdpjcppdaaGreatDoor
open Go.RowKit
def appF (f : Nat → Value) (n : Nat) (g : Nat → Value) : Nat → Value := fun j => if j < n then f j else g (j - n)
theorem ofC_idx (l : List En) (f : Nat → Value) : ofC l f = (l.mapIdx fun j e => entC e (f j)).flatten := by
  rw [ofC]
  congr 1
  apply List.ext_getElem
  · simp
  · intro i h1 h2; simp
theorem ofC_app (L M : List En) (f g : Nat → Value) : ofC (L ++ M) (appF f L.length g) = ofC L f ++ ofC M g := by
  rw [ofC_idx, ofC_idx, ofC_idx, List.mapIdx_append, List.flatten_append]
  congr 2
  · apply List.ext_getElem
    · simp
    · intro i h1 h2
      have : i < L.length := by simpa using h1
      simp [appF, this]
  · apply List.ext_getElem
    · simp
    · intro i h1 h2
      have : ¬ i + L.length < L.length := by omega
      simp [appF, this]
section
variable {w : World} {B : Nat} {v : Value} {L M : List En} {f g : Nat → Value} {A : Option Addr} {c : Nat}
theorem EO.grew (h : EO B w v L f) (hdat : ∀ j (h : j < M.length), Sl 1 Rbyte (fun k => v.ownBlock = some k) w (g j) M[j].data) {v' : Value} {w' : World} (h2 : w'.ownsRow B tE 10 v' (L.length + M.length) (ofC L f ++ ofC M g)) (h3 : w.grownBy w' v.ownBlock)
    (hob : v'.ownBlock = v.ownBlock ∨ ∀ k, v'.ownBlock = some k → w.heap.size ≤ k) : EO B w' v' (L ++ M) (appF f L.length g) := by
  have hkept := Kept.grown h3
  have move : ∀ (d : Value) (b : List UInt8), Sl 1 Rbyte (fun k => v.ownBlock = some k) w d b → Sl 1 Rbyte (fun k => v'.ownBlock = some k) w' d b := fun d b hb => by
    have b1 := hb.mono (Y := fun k => v.ownBlock = some k ∨ v'.ownBlock = some k) good_byte (by decide) fun k hk hk2 => hk2.elim id fun h => by
      rcases hob with e | e
      · rw [← e]; exact h
      · have := e k h; omega
    exact (b1.keep good_byte (hkept.mono fun k _ hk => .inl hk)).mono good_byte (by decide) fun k _ hk => .inr hk
  refine ⟨by rw [ofC_app, List.length_append]; exact h2, fun j hj => ?_⟩
  by_cases hlt : j < L.length
  · rw [List.getElem_append_left hlt, appF, if_pos hlt]
    exact move _ _ (h.dat j hlt)
  · rw [List.getElem_append_right (by omega), appF, if_neg hlt]
    exact move _ _ (hdat (j - L.length) (by rw [List.length_append] at hj; omega))
theorem EO.one (h : EO B w v L f) : ∀ u ∈ ofC L f, u.oneCell' = true := ofC_one L f fun j hj => by
  obtain ⟨A', c', e, _⟩ := h.dat j hj
  rw [e]; rfl
theorem wp_appendEO {o : Oper} {a : Act} {K : Act → World → Prop} {Q : Exit → Act → World → Prop} (s x : Operand)
    (ho : o.op = .call { callee := .builtin .append, args := #[s, x], argTypes := #[22, 22] }) (hs : a.eval s = v) (h : EO B w v L f) (hx : a.eval x = .slice A M.length c) (hA : A = none → c = 0)
    (hsrc : M ≠ [] → ∃ ad, A = some ad ∧ ∀ j u, (ofC M g)[j]? = some u → w.cell? (ad.add j) = some u) (hdat : ∀ j (h : j < M.length), Sl 1 Rbyte (fun k => v.ownBlock = some k) w (g j) M[j].data)
    (hn : L.length + M.length ≤ 1000000) (hB : B ≤ w.heap.size)
    (hK : ∀ v' w', EO B w' v' (L ++ M) (appF f L.length g) → Kept (fun k => v.ownBlock = some k) w w' → (v'.ownBlock = v.ownBlock ∨ ∀ k, v'.ownBlock = some k → w.heap.size ≤ k) → K (a.put o.dst v') w') : o.wp Tryz.prog a w K Q := by
  obtain ⟨i0, hi, hz0, hz1, hz2⟩ := info_parts info_ent
  have ht : Tryz.prog.underlying 22 = some (.slice tE) := Tryz.underlying22
  have hgl : (ofC M g).length = M.length * 10 := ofC_len M g
  have hg1 : ∀ u ∈ ofC M g, u.oneCell' = true := ofC_one M g fun j hj => by
    obtain ⟨A', c', e, _⟩ := hdat j hj
    rw [e]; rfl
  have fin : ∀ v' w', w'.ownsRow B tE 10 v' (L.length + M.length) (ofC L f ++ ofC M g) → w.grownBy w' v.ownBlock → (v'.ownBlock = v.ownBlock ∨ ∀ k, v'.ownBlock = some k → w.heap.size ≤ k) → K (a.put o.dst v') w' := fun v' w' h1 h2 h3 =>
    hK v' w' (h.grew hdat h1 h2 h3) (Kept.grown h2) h3
  have some_case : ∀ ad, A = some ad → (∀ j u, (ofC M g)[j]? = some u → w.cell? (ad.add j) = some u) → o.wp Tryz.prog a w K Q := by
    rintro ad rfl hnews
    obtain ⟨v', w', hr, h2, h3, _⟩ := run_append_own (P := Tryz.prog) w B 22 o.type tE i0 _ 10 128 ht hi hz0 hz1 hz2 rfl (by decide) v L.length (ofC L f) h.row ad M.length c (ofC M g) hgl hnews hg1 (by unfold maxLen; omega) (by omega) hB
    have hob := append_block ht hi hz0 hz1 hz2 rfl (by decide) h.row ad M.length c (ofC M g) hgl hnews hg1 (by unfold maxLen; omega) (by omega) hr
    unfold Oper.wp execOp
    simp only [ho, resolve, invoke, builtin, Sem.run_bind, Sem.run_pure, Result.andThen_ok, List.map_toArray, List.map_cons, List.map_nil, hs, hx, hr]
    exact fin v' w' h2 h3 hob
  by_cases hM : M = []
  · subst hM
    cases A with
    | none =>
      obtain rfl := hA rfl
      have hrun := run_append_owned_none (P := Tryz.prog) w B 22 o.type tE i0 10 ht hi v L.length (ofC L f) h.row
      unfold Oper.wp execOp
      simp only [List.length_nil] at hx
      simp only [ho, resolve, invoke, builtin, Sem.run_bind, Sem.run_pure, Result.andThen_ok, List.map_toArray, List.map_cons, List.map_nil, hs, hx, hrun]
      exact fin v w (by simpa [ofC] using h.row) (World.grownBy.refl w _) (.inl rfl)
    | some ad => exact some_case ad rfl fun j u hu => by simp [ofC] at hu
  · obtain ⟨ad, hAd, hnews⟩ := hsrc hM
    exact some_case ad hAd hnews
theorem wpList_appendEO {ops : Array Oper} {rest : List Oper} {o : Oper} {a : Act} {Q : Exit → Act → World → Prop} (hgd : o.guard = none) (s x : Operand)
    (ho : o.op = .call { callee := .builtin .append, args := #[s, x], argTypes := #[22, 22] }) (hs : a.eval s = v) (h : EO B w v L f) (hx : a.eval x = .slice A M.length c) (hA : A = none → c = 0)
    (hsrc : M ≠ [] → ∃ ad, A = some ad ∧ ∀ j u, (ofC M g)[j]? = some u → w.cell? (ad.add j) = some u) (hdat : ∀ j (h : j < M.length), Sl 1 Rbyte (fun k => v.ownBlock = some k) w (g j) M[j].data)
    (hn : L.length + M.length ≤ 1000000) (hB : B ≤ w.heap.size)
    (hK : ∀ v' w', EO B w' v' (L ++ M) (appF f L.length g) → Kept (fun k => v.ownBlock = some k) w w' → (v'.ownBlock = v.ownBlock ∨ ∀ k, v'.ownBlock = some k → w.heap.size ≤ k) → wpList Tryz.prog ops Q rest (a.put o.dst v') w') : wpList Tryz.prog ops Q (o :: rest) a w :=
  wpList_plain hgd fun _ hK2 => wp_appendEO s x ho hs h hx hA hsrc hdat hn hB fun v' w' h1 h2 h3 => hK2 _ _ (hK v' w' h1 h2 h3)
end
end Go.Proofs.YtpheifdpjcppdaaGreatDoor
namespace Go.Proofs.YtpheifdpjcppdaaGreatDoor
open Go.RowKit
theorem lit_bytes {w : World} {g : Nat} {X : Nat → Prop} (l : List UInt8) (h : w.heap[g]? = some (.cells (l.map fun c => Value.int .u8 (c.toNat : Int)).toArray 5 (l.length, l.length + 1))) (hl : l.length ≤ 1000000) (hX : ¬ X g) : Sl 1 Rbyte X w (.slice (some ⟨g, 0, none⟩) l.length l.length) l := by
  refine ⟨_, l.length, rfl, Nat.le_refl _, by unfold maxLen; omega, (fun h => by cases h), fun _ => ⟨g, 0, rfl, hX, fun j hj => ?_⟩, fun b off hA i hi => ?_⟩
  · refine ⟨[.int .u8 (l[j].toNat : Int)], fun i u hu => ?_, rfl⟩
    simp only [World.cell?, h]
    match i, hu with
    | 0, hu => simp at hu; subst hu; simp [hj]
    | i + 1, hu => simp at hu
  · injection hA with hA
    injection hA with e1 e2
    subst e1 e2
    simp only [World.frozen?, h]
    simp
    omega
theorem lit_ents {w : World} {g : Nat} {X : Nat → Prop} (l : List En) (f : Nat → Value) (h : Blk w g tE (ofC l f).toArray) (hl : l.length ≤ 1000000) (hX : ¬ X g) (hd : ∀ j (h : j < l.length), Sl 1 Rbyte X w (f j) l[j].data) : Sl 10 Rent X w (.slice (some ⟨g, 0, none⟩) l.length l.length) l := by
  refine ⟨_, l.length, rfl, Nat.le_refl _, by unfold maxLen; omega, (fun h => by cases h), fun _ => ⟨g, 0, rfl, hX, fun j hj => ?_⟩, fun b off hA i _ => ?_⟩
  · refine ⟨entC l[j] (f j), fun i u hu => ?_, f j, rfl, hd j hj⟩
    have hi : i < 10 := (List.getElem?_eq_some_iff.1 hu).1
    rw [h.cell, List.getElem?_toArray, Nat.zero_add, ofC_at l f j hj i hi]
    exact hu
  · injection hA with hA
    injection hA with e1 e2
    subst e1 e2
    exact h.frozen _
theorem Sl.sb {X : Nat → Prop} {w : World} {v : Value} {l : List UInt8} (h : Sl 1 Rbyte X w v l) : SB w v l := by
  obtain ⟨A, cap, hv, h1, h2, h3, h4, _⟩ := h
  refine ⟨A, cap, hv, h1, h2, h3, fun hl => ?_⟩
  obtain ⟨b, off, hA, _, hc⟩ := h4 hl
  refine ⟨b, off, hA, fun j hj => ?_⟩
  obtain ⟨cs, hcs, hR⟩ := hc j hj
  have hR : cs = [.int .u8 (l[j].toNat : Int)] := hR
  subst hR
  simpa using hcs 0 _ rfl
end Go.Proofs.YtpheifdpjcppdaaGreatDoor
