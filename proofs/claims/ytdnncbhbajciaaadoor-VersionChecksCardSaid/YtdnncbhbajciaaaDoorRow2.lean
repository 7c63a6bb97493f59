/- From a walk to a row: a table of texts that is a package-level variable. Over any program. -/
import Derived.Test.YtdnncbhbajciaaaDoorRow
import Derived.Stop.LaidErr
import Derived.Lib.LaidTab
namespace Go.Proofs.YtdnncbhbajciaaaDoor
open Go.ChangeShapes Go.WideShapes Go.ChangeAt Go.RowKit
theorem cells_of_texts {H : Type} {enc : TypeId × Value → H} {P : Program} {w : World} {base : Nat} {sp : Nat → Bool} {held : Bool} {fuel : Nat} {t e : TypeId} {n : Nat} {cs : List Value} {zs : List (List UInt8)} {p : List MemPlace}
    (ht : P.underlying t = some (.array n e)) (he : P.underlying e = some .string) (hce : P.cellsOf e = 1) (hct : P.cellsOf t = n)
    (h : DataW.trod enc P w base sp held fuel t cs = some (.agg (zs.map fun z => .lit (.string z)), p)) (i : Nat) (hi : i < zs.length) : cs[i]? = some (.string ⟨zs[i].toArray⟩) := by
  cases fuel with
  | zero => simp [DataW.trod] at h
  | succ fuel =>
    simp only [DataW.trod, ht, hce, hct, Nat.mul_one] at h
    split at h
    · obtain ⟨xs, hm, hx⟩ := Option.map_eq_some_iff.1 h
      have hxs : xs.map (·.1) = zs.map fun z => (DataW.lit (.string z) : DataW H) := by
        have := congrArg Prod.fst hx
        simpa using this
      have hxl : xs.length = n := by simpa using Lib.mapM_length hm
      have hzl : zs.length = n := by
        have := congrArg List.length hxs
        simp at this
        omega
      have hin : i < n := by omega
      obtain ⟨b, hb, hf⟩ := Lib.mapM_at hm i i (by simp [hin])
      obtain ⟨z, hc, rfl, _⟩ := DataW.trod_string he hf
      have h1 : cs[i]? = some (.string z) := by
        have := congrArg (·[0]?) hc
        simpa [List.getElem?_take, List.getElem?_drop] using this
      have h2 : (xs.map (·.1))[i]? = some (DataW.lit (.string z.data.toList) : DataW H) := by simp [hb]
      rw [hxs] at h2
      have h3 : zs[i] = z.data.toList := by simpa [hi] using h2
      rw [h1, h3]
    · cases h
theorem texts_of_head {P : Program} {W : World} {name : String} {zs : List (List UInt8)} {rest : List (String × DataW Unit)} {g : Nat} {t e : TypeId} {n : Nat}
    (hg : P.globalNamed name = some g) (hty : (P.globals[g]?).map (·.type) = some t) (ht : P.underlying t = some (.array n e)) (he : P.underlying e = some .string) (hce : P.cellsOf e = 1) (hct : P.cellsOf t = n)
    (h : laidMet P ((name, .agg (zs.map fun z => .lit (.string z))) :: rest) W) (i : Nat) (hi : i < zs.length) : W.cell? ⟨g, i, none⟩ = some (.string ⟨zs[i].toArray⟩) := by
  obtain ⟨ps, ⟨g', t', cs, fuel, p, q, hg', ht', hvar, hd, _, _⟩, _⟩ := h
  obtain rfl := Option.some.inj (hg.symm.trans hg')
  obtain rfl := Option.some.inj (hty.symm.trans ht')
  have := World.var?_cell hg hvar i
  rw [this]
  have h2 := cells_of_texts ht he hce hct hd i hi
  simpa using h2
end Go.Proofs.YtdnncbhbajciaaaDoor
