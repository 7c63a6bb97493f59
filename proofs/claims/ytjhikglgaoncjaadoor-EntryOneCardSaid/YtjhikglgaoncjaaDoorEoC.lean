/- append onto a row of entries of one's own. -/
import Derived.Test.YtjhikglgaoncjaaDoorEnN
namespace Go.Proofs.YtjhikglgaoncjaaDoor
open Go.RowKit
def appF (f : Nat → Value) (n : Nat) (g : Nat → Value) : Nat → Value := fun j => if j < n then f j else g (j - n)
theorem ofC_idx (l : List En) (f : Nat → Value) : ofC l f = (l.mapIdx fun j e => entC e (f j)).flatten := by
  rw [ofC]
  congr 1
  apply List.ext_getElem
  · simp
  · intro i h1 h2; simp
theorem ofC_app (L M : List En) (f g : Nat → Value) : ofC (L ++ M) (appF f L.length g) = ofC L f ++ ofC M g := by
  rw [ofC_idx, ofC_idx, ofC_idx, List.mapIdx_append, List.flatten_append]
  congr 2
  · apply List.ext_getElem
    · simp
    · intro i h1 h2
      have : i < L.length := by simpa using h1
      simp [appF, this]
  · apply List.ext_getElem
    · simp
    · intro i h1 h2
      have : ¬ i + L.length < L.length := by omega
      simp [appF, this]
section
variable {w : World} {B : Nat} {v : Value} {L M : List En} {f g : Nat → Value} {A : Option Addr} {c : Nat}
theorem EO.grew (h : EO B w v L f) (hdat : ∀ j (h : j < M.length), Sl 1 Rbyte (fun k => v.ownBlock = some k) w (g j) M[j].data) {v' : Value} {w' : World} (h2 : w'.ownsRow B tE 10 v' (L.length + M.length) (ofC L f ++ ofC M g)) (h3 : w.grownBy w' v.ownBlock)
    (hob : v'.ownBlock = v.ownBlock ∨ ∀ k, v'.ownBlock = some k → w.heap.size ≤ k) : EO B w' v' (L ++ M) (appF f L.length g) := by
  have hkept := Kept.grown h3
  have move : ∀ (d : Value) (b : List UInt8), Sl 1 Rbyte (fun k => v.ownBlock = some k) w d b → Sl 1 Rbyte (fun k => v'.ownBlock = some k) w' d b := fun d b hb => by
    have b1 := hb.mono (Y := fun k => v.ownBlock = some k ∨ v'.ownBlock = some k) good_byte (by decide) fun k hk hk2 => hk2.elim id fun h => by
      rcases hob with e | e
      · rw [← e]; exact h
      · have := e k h; omega
    exact (b1.keep good_byte (hkept.mono fun k _ hk => .inl hk)).mono good_byte (by decide) fun k _ hk => .inr hk
  refine ⟨by rw [ofC_app, List.length_append]; exact h2, fun j hj => ?_⟩
  by_cases hlt : j < L.length
  · rw [List.getElem_append_left hlt, appF, if_pos hlt]
    exact move _ _ (h.dat j hlt)
  · rw [List.getElem_append_right (by omega), appF, if_neg hlt]
    exact move _ _ (hdat (j - L.length) (by rw [List.length_append] at hj; omega))
theorem EO.one (h : EO B w v L f) : ∀ u ∈ ofC L f, u.oneCell' = true := ofC_one L f fun j hj => by
  obtain ⟨A', c', e, _⟩ := h.dat j hj
  rw [e]; rfl
theorem wp_appendEO {o : Oper} {a : Act} {K : Act → World → Prop} {Q : Exit → Act → World → Prop} (s x : Operand)
    (ho : o.op = .call { callee := .builtin .append, args := #[s, x], argTypes := #[25, 25] }) (hs : a.eval s = v) (h : EO B w v L f) (hx : a.eval x = .slice A M.length c) (hA : A = none → c = 0)
    (hsrc : M ≠ [] → ∃ ad, A = some ad ∧ ∀ j u, (ofC M g)[j]? = some u → w.cell? (ad.add j) = some u) (hdat : ∀ j (h : j < M.length), Sl 1 Rbyte (fun k => v.ownBlock = some k) w (g j) M[j].data)
    (hn : L.length + M.length ≤ 1000000) (hB : B ≤ w.heap.size)
    (hK : ∀ v' w', EO B w' v' (L ++ M) (appF f L.length g) → Kept (fun k => v.ownBlock = some k) w w' → (v'.ownBlock = v.ownBlock ∨ ∀ k, v'.ownBlock = some k → w.heap.size ≤ k) → K (a.put o.dst v') w') : o.wp Tryd.prog a w K Q := by
  obtain ⟨i0, hi, hz0, hz1, hz2⟩ := info_parts info_ent
  have ht : Tryd.prog.underlying 25 = some (.slice tE) := Tryd.underlying25
  have hgl : (ofC M g).length = M.length * 10 := ofC_len M g
  have hg1 : ∀ u ∈ ofC M g, u.oneCell' = true := ofC_one M g fun j hj => by
    obtain ⟨A', c', e, _⟩ := hdat j hj
    rw [e]; rfl
  have fin : ∀ v' w', w'.ownsRow B tE 10 v' (L.length + M.length) (ofC L f ++ ofC M g) → w.grownBy w' v.ownBlock → (v'.ownBlock = v.ownBlock ∨ ∀ k, v'.ownBlock = some k → w.heap.size ≤ k) → K (a.put o.dst v') w' := fun v' w' h1 h2 h3 =>
    hK v' w' (h.grew hdat h1 h2 h3) (Kept.grown h2) h3
  have some_case : ∀ ad, A = some ad → (∀ j u, (ofC M g)[j]? = some u → w.cell? (ad.add j) = some u) → o.wp Tryd.prog a w K Q := by
    rintro ad rfl hnews
    obtain ⟨v', w', hr, h2, h3, _⟩ := run_append_own (P := Tryd.prog) w B 25 o.type tE i0 _ 10 128 ht hi hz0 hz1 hz2 rfl (by decide) v L.length (ofC L f) h.row ad M.length c (ofC M g) hgl hnews hg1 (by unfold maxLen; omega) (by omega) hB
    have hob := append_block ht hi hz0 hz1 hz2 rfl (by decide) h.row ad M.length c (ofC M g) hgl hnews hg1 (by unfold maxLen; omega) (by omega) hr
    unfold Oper.wp execOp
    simp only [ho, resolve, invoke, builtin, Sem.run_bind, Sem.run_pure, Result.andThen_ok, List.map_toArray, List.map_cons, List.map_nil, hs, hx, hr]
    exact fin v' w' h2 h3 hob
  by_cases hM : M = []
  · subst hM
    cases A with
    | none =>
      obtain rfl := hA rfl
      have hrun := run_append_owned_none (P := Tryd.prog) w B 25 o.type tE i0 10 ht hi v L.length (ofC L f) h.row
      unfold Oper.wp execOp
      simp only [List.length_nil] at hx
      simp only [ho, resolve, invoke, builtin, Sem.run_bind, Sem.run_pure, Result.andThen_ok, List.map_toArray, List.map_cons, List.map_nil, hs, hx, hrun]
      exact fin v w (by simpa [ofC] using h.row) (World.grownBy.refl w _) (.inl rfl)
    | some ad => exact some_case ad rfl fun j u hu => by simp [ofC] at hu
  · obtain ⟨ad, hAd, hnews⟩ := hsrc hM
    exact some_case ad hAd hnews
theorem wpList_appendEO {ops : Array Oper} {rest : List Oper} {o : Oper} {a : Act} {Q : Exit → Act → World → Prop} (hgd : o.guard = none) (s x : Operand)
    (ho : o.op = .call { callee := .builtin .append, args := #[s, x], argTypes := #[25, 25] }) (hs : a.eval s = v) (h : EO B w v L f) (hx : a.eval x = .slice A M.length c) (hA : A = none → c = 0)
    (hsrc : M ≠ [] → ∃ ad, A = some ad ∧ ∀ j u, (ofC M g)[j]? = some u → w.cell? (ad.add j) = some u) (hdat : ∀ j (h : j < M.length), Sl 1 Rbyte (fun k => v.ownBlock = some k) w (g j) M[j].data)
    (hn : L.length + M.length ≤ 1000000) (hB : B ≤ w.heap.size)
    (hK : ∀ v' w', EO B w' v' (L ++ M) (appF f L.length g) → Kept (fun k => v.ownBlock = some k) w w' → (v'.ownBlock = v.ownBlock ∨ ∀ k, v'.ownBlock = some k → w.heap.size ≤ k) → wpList Tryd.prog ops Q rest (a.put o.dst v') w') : wpList Tryd.prog ops Q (o :: rest) a w :=
  wpList_plain hgd fun _ hK2 => wp_appendEO s x ho hs h hx hA hsrc hdat hn hB fun v' w' h1 h2 h3 => hK2 _ _ (hK v' w' h1 h2 h3)
end
end Go.Proofs.YtjhikglgaoncjaaDoor
