/- Arguments that are slices of whatever things: read as lists. Over any program. -/
import Derived.Test.YtpheifdpjcppdaaGreatDoorBasM
import Derived.Test.YtpheifdpjcppdaaGreatDoorRow
import Derived.Deep.Strs
namespace Go.Proofs.YtpheifdpjcppdaaGreatDoor
open Go.ChangeShapes Go.WideShapes Go.ChangeAt Go.RowKit
section
variable {H : Type} {enc : TypeId × Value → H} {P : Program} {W : World} {α : Type}
/-- What is read as data of the type e is a thing. -/
def Opens (enc : TypeId × Value → H) (P : Program) (W : World) (e : TypeId) (R : Rel α) : Prop :=
  ∀ (fuel : Nat) (cs : List Value) (x : DataW H × List MemPlace), DataW.trod enc P W 0 (fun _ => true) true fuel e cs = some x → W.noneFrozen x.2 → ∃ a, R nowhere W cs a
theorem opens_text {e : TypeId} (he : P.underlying e = some .string) : Opens enc P W e Rtext := fun fuel cs x h _ => by
  obtain ⟨s, rfl, _, _⟩ := DataW.trod_string he h
  exact ⟨s.data.toList, by simp [Rtext]⟩
theorem opens_slice [Inhabited α] {t e : TypeId} {sz : Nat} {R : Rel α} (ht : P.underlying t = some (.slice e)) (hc : P.cellsOf e = sz) (hsz : 0 < sz) (h : Opens enc P W e R) : Opens enc P W t (Rslice sz R) := by
  intro fuel cs x hx hnf
  rcases Deep.open_slice ht hx with ⟨rfl, _⟩ | ⟨a, len, cap, m, n, D, Pl, rfl, _, hl, hm, hmm, rfl, hall⟩
  · exact ⟨[], _, rfl, Sl.nil _ _ _ _⟩
  · have hmc : m = cap := by simpa using hmm
    subst hmc
    rw [hc] at hall
    obtain ⟨f, hf⟩ := Deep.choose_lt (α := α) (n := len) (p := fun i y => ∃ cs', W.cells? 0 (a.add (i * sz)) sz = some cs' ∧ R nowhere W cs' y) (fun i hi => by
      obtain ⟨cs', h1, h2⟩ := hall i (by omega)
      obtain ⟨y, hy⟩ := h n cs' _ h2 (fun b off hb => hnf b off (List.mem_append_right _ (List.mem_flatMap.2 ⟨i, List.mem_range.2 (by omega), hb⟩)))
      exact ⟨y, cs', h1, hy⟩)
    have hlen : ((List.range len).map f).length = len := by simp
    refine ⟨(List.range len).map f, _, rfl, some a, m, by rw [hlen], by rw [hlen]; exact hl, hm, (fun h => by cases h), fun hne => ?_, fun b off hA i hi => ?_⟩
    rotate_left
    · injection hA with hA
      subst hA
      rw [hlen] at hi
      refine hnf b (off + i) (List.mem_append_left _ (List.mem_map.2 ⟨i, List.mem_range.2 ?_, rfl⟩))
      rw [hc]
      exact Nat.lt_of_lt_of_le hi (Nat.mul_le_mul_right _ hl)
    have hpos : 0 < len := by
      rcases Nat.eq_zero_or_pos len with h0 | h0
      · subst h0; simp at hne
      · exact h0
    obtain ⟨b, off, spot⟩ := a
    obtain ⟨cs0, h0, _⟩ := hf 0 hpos
    obtain ⟨_, hl0, hc0⟩ := World.cells?_some h0
    have h00 := hc0 0 hsz
    rw [List.getElem?_eq_getElem (by omega)] at h00
    have hspot : spot = none := by simpa [Addr.add] using World.cell?_spot h00
    subst hspot
    refine ⟨b, off, rfl, (fun h => h), fun j hj => ?_⟩
    rw [hlen] at hj
    obtain ⟨cs', h1, h2⟩ := hf j hj
    obtain ⟨_, hl1, hc1⟩ := World.cells?_some h1
    refine ⟨cs', fun i u hu => ?_, by simpa using h2⟩
    have hi : i < sz := by rw [← hl1]; exact (List.getElem?_eq_some_iff.1 hu).1
    have := hc1 i hi
    rw [hu, Deep.add_add, Addr.add_lit] at this
    rw [Nat.add_assoc]; exact this
theorem open_sl [Inhabited α] {t e : TypeId} {sz : Nat} {R : Rel α} {base : Nat} {v : Value} {d : DataW H} {p : List MemPlace} (ht : P.underlying t = some (.slice e)) (hc : P.cellsOf e = sz) (hsz : 0 < sz)
    (ho : Opens enc P W e R) (hv : Value.okWide P W .any base t v) (h : DataW.Trod enc P W 0 (fun _ => true) true t v d p) (hnf : W.noneFrozen p) : ∃ l, Sl sz R nowhere W v l := by
  obtain ⟨a, len, cap, rfl⟩ := okWide_slice ht hv
  obtain ⟨fuel, hf⟩ := h
  obtain ⟨l, u, hu, hs⟩ := opens_slice ht hc hsz ho fuel _ _ hf hnf
  simp [Value.cells] at hu
  subst hu
  exact ⟨l, hs⟩
end
end Go.Proofs.YtpheifdpjcppdaaGreatDoor
