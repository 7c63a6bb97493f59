/- Items that are given, opened. Printed by gen_aro.py. -/
import Derived.Test.YtolknddegfcmpaaDoorArA
import Derived.Test.YtolknddegfcmpaaDoorEnZ
namespace Go.Proofs.YtolknddegfcmpaaDoor
open Go.RowKit
instance : Inhabited It := ⟨⟨[], 0, 0, 0, 0, []⟩⟩
set_option maxRecDepth 100000 in
open Go.ChangeShapes Go.WideShapes Go.ChangeAt in
theorem opens_item {H : Type} {enc : TypeId × Value → H} {W : World} : Opens enc Tryd.prog W 46 Rit := by
  intro fuel cs x h hnf
  have hl := (show cs.length = Tryd.prog.cellsOf 46 by obtain ⟨_, _, _, _, hl, _⟩ := DataW.trod_struct Tryd.underlying46 h; exact hl).trans (show _ = 6 by kernel_rfl)
  match cs, hl with
  | [c0, c1, c2, c3, c4, c5], _ =>
    obtain ⟨xs, n, _, hx, hl, hlen, hall⟩ := DataW.trod_struct Tryd.underlying46 h
    match xs, hlen with
    | [y0, y1, y2, y3, y4, y5], _ =>
      have hp : x.2 = _ := congrArg Prod.snd hx
      have h0 := hall 0 _ rfl
      have h1 := hall 1 _ rfl
      have h2 := hall 2 _ rfl
      have h3 := hall 3 _ rfl
      have h4 := hall 4 _ rfl
      have h5 := hall 5 _ rfl
      have k0 : DataW.trod enc Tryd.prog W 0 (fun _ => true) true n 9 [c0] = some y0 := h0
      have k1 : DataW.trod enc Tryd.prog W 0 (fun _ => true) true n 3 [c1] = some y1 := h1
      have k2 : DataW.trod enc Tryd.prog W 0 (fun _ => true) true n 3 [c2] = some y2 := h2
      have k3 : DataW.trod enc Tryd.prog W 0 (fun _ => true) true n 3 [c3] = some y3 := h3
      have k4 : DataW.trod enc Tryd.prog W 0 (fun _ => true) true n 3 [c4] = some y4 := h4
      have k5 : DataW.trod enc Tryd.prog W 0 (fun _ => true) true n 26 [c5] = some y5 := h5
      have hnfd : W.noneFrozen y5.2 := fun b off hb => hnf b off (by rw [hp]; simp [hb])
      obtain ⟨f0, e0, _, _⟩ := DataW.trod_string Tryd.underlying9 k0
      obtain ⟨f1, e1, _, _⟩ := DataW.trod_int Tryd.underlying3 k1
      obtain ⟨f2, e2, _, _⟩ := DataW.trod_int Tryd.underlying3 k2
      obtain ⟨f3, e3, _, _⟩ := DataW.trod_int Tryd.underlying3 k3
      obtain ⟨f4, e4, _, _⟩ := DataW.trod_int Tryd.underlying3 k4
      obtain ⟨f5, nv, e5, hs⟩ := opens_slice (sz := 1) Tryd.underlying26 (by kernel_rfl) (by omega) (opens_byte Tryd.underlying5) n _ _ k5 hnfd
      have e0 : c0 = .string f0 := by simpa using e0
      have e1 : c1 = .int .i64 f1 := by simpa using e1
      have e2 : c2 = .int .i64 f2 := by simpa using e2
      have e3 : c3 = .int .i64 f3 := by simpa using e3
      have e4 : c4 = .int .i64 f4 := by simpa using e4
      have e5 : c5 = nv := by simpa using e5
      subst e5
      refine ⟨⟨f0.data.toList, f1, f2, f3, f4, f5⟩, c5, ?_, hs⟩
      rw [e0, e1, e2, e3, e4]
      simp [bs, itC]
end Go.Proofs.YtolknddegfcmpaaDoor
