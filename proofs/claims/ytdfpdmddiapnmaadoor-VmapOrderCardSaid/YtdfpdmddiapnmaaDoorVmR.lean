/- A core that is given, opened. -/
import Derived.Test.YtdfpdmddiapnmaaDoorVmB
import Derived.Test.YtdfpdmddiapnmaaDoorOpn
namespace Go.Proofs.YtdfpdmddiapnmaaDoor
open Go.RowKit
open Go.ChangeShapes Go.WideShapes Go.ChangeAt in
theorem opens_int {H : Type} {enc : TypeId × Value → H} {P : Program} {W : World} {e : TypeId} (he : P.underlying e = some (.int .i64)) : Opens enc P W e Rint := fun fuel cs x h _ => by
  obtain ⟨n, rfl, _, _⟩ := DataW.trod_int he h
  exact ⟨n, rfl⟩
theorem bs_own (s : ByteArray) : s = bs s.data.toList := by simp [bs]
set_option maxRecDepth 100000 in
open Go.ChangeShapes Go.WideShapes Go.ChangeAt in
theorem open_core {H : Type} {enc : TypeId × Value → H} {W : World} {base : Nat} {v : Value} {d : DataW H} {p : List MemPlace} (hv : Value.okWide Tryd.prog W .any base 30 v)
    (h : DataW.Trod enc Tryd.prog W 0 (fun _ => true) true 30 v d p) (hnf : W.noneFrozen p) : ∃ c nv, v = coV c nv ∧ Sl 1 Rint nowhere W nv c.nums := by
  obtain ⟨cs, rfl, hsz⟩ := okWide_struct Tryd.underlying30 hv
  have hC : Tryd.prog.cellsOf 30 = 6 := by kernel_rfl
  rw [hC] at hsz
  obtain ⟨l⟩ := cs
  match l, hsz with
  | [c0, c1, c2, c3, c4, c5], _ =>
    obtain ⟨fuel, hf⟩ := h
    obtain ⟨xs, n, _, hx, hl, hlen, hall⟩ := DataW.trod_struct Tryd.underlying30 hf
    match xs, hlen with
    | [y0, y1, y2, y3, y4, y5], _ =>
      simp only [Prod.mk.injEq] at hx
      have hp := hx.2
      have h0 := hall 0 _ rfl
      have h1 := hall 1 _ rfl
      have h2 := hall 2 _ rfl
      have h3 := hall 3 _ rfl
      have h4 := hall 4 _ rfl
      have h5 := hall 5 _ rfl
      have k0 : DataW.trod enc Tryd.prog W 0 (fun _ => true) true n 3 [c0] = some y0 := h0
      have k1 : DataW.trod enc Tryd.prog W 0 (fun _ => true) true n 28 [c1] = some y1 := h1
      have k2 : DataW.trod enc Tryd.prog W 0 (fun _ => true) true n 9 [c2] = some y2 := h2
      have k3 : DataW.trod enc Tryd.prog W 0 (fun _ => true) true n 9 [c3] = some y3 := h3
      have k4 : DataW.trod enc Tryd.prog W 0 (fun _ => true) true n 3 [c4] = some y4 := h4
      have k5 : DataW.trod enc Tryd.prog W 0 (fun _ => true) true n 3 [c5] = some y5 := h5
      have hnf1 : W.noneFrozen y1.2 := fun b off hb => hnf b off (by rw [hp]; simp [hb])
      obtain ⟨ep, e0, _, _⟩ := DataW.trod_int Tryd.underlying3 k0
      obtain ⟨ns, nv, e1, hs⟩ := opens_slice (sz := 1) Tryd.underlying28 (by kernel_rfl) (by omega) (opens_int Tryd.underlying3) n _ _ k1 hnf1
      obtain ⟨lt, e2, _, _⟩ := DataW.trod_string Tryd.underlying9 k2
      obtain ⟨pr, e3, _, _⟩ := DataW.trod_string Tryd.underlying9 k3
      obtain ⟨pn, e4, _, _⟩ := DataW.trod_int Tryd.underlying3 k4
      obtain ⟨rv, e5, _, _⟩ := DataW.trod_int Tryd.underlying3 k5
      have e0 : c0 = .int .i64 ep := by simpa using e0
      have e1 : c1 = nv := by simpa using e1
      have e2 : c2 = .string lt := by simpa using e2
      have e3 : c3 = .string pr := by simpa using e3
      have e4 : c4 = .int .i64 pn := by simpa using e4
      have e5 : c5 = .int .i64 rv := by simpa using e5
      subst e1
      refine ⟨⟨ep, ns, lt.data.toList, pr.data.toList, pn, rv⟩, c1, ?_, hs⟩
      rw [e0, e2, e3, e4, e5]
      simp [bs, coV]
end Go.Proofs.YtdfpdmddiapnmaaDoor
