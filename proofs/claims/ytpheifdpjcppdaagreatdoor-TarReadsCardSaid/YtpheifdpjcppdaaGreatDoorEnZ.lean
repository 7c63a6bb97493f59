/- Entries that are given, opened. -/
import Derived.Test.YtpheifdpjcppdaaGreatDoorEnBD
import Derived.Test.YtpheifdpjcppdaaGreatDoorOpn
import Derived.Test.YtpheifdpjcppdaaGreatDoorRow
import Derived.ChangeArms
namespace Go.Proofs.YtpheifdpjcppdaaGreatDoor
open Go.RowKit
open Go.ChangeShapes Go.WideShapes Go.ChangeAt in
theorem opens_byte {H : Type} {enc : TypeId × Value → H} {P : Program} {W : World} {e : TypeId} (he : P.underlying e = some (.int .u8)) : Opens enc P W e Rbyte := fun fuel cs x h _ => by
  obtain ⟨n, rfl, _, hw⟩ := DataW.trod_int he h
  have hw2 : 0 ≤ n ∧ n ≤ 255 := by
    have := hw
    simp only [Lit.wf, Bool.and_eq_true, decide_eq_true_eq] at this
    exact this
  refine ⟨UInt8.ofNat n.toNat, ?_⟩
  show [Value.int .u8 n] = [.int .u8 ((UInt8.ofNat n.toNat).toNat : Int)]
  have : ((UInt8.ofNat n.toNat).toNat : Int) = n := by
    rw [UInt8.toNat_ofNat']
    omega
  rw [this]
instance : Inhabited En := ⟨⟨[], 0, 0, 0, 0, [], [], 0, [], []⟩⟩
set_option maxRecDepth 100000 in
open Go.ChangeShapes Go.WideShapes Go.ChangeAt in
theorem opens_ent {H : Type} {enc : TypeId × Value → H} {W : World} : Opens enc Tryz.prog W 41 Rent := by
  intro fuel cs x h hnf
  have hl := (show cs.length = Tryz.prog.cellsOf 41 by obtain ⟨_, _, _, _, hl, _⟩ := DataW.trod_struct Tryz.underlying41 h; exact hl).trans (show _ = 10 by kernel_rfl)
  match cs, hl with
  | [c0, c1, c2, c3, c4, c5, c6, c7, c8, c9], _ =>
    obtain ⟨xs, n, _, hx, hl, hlen, hall⟩ := DataW.trod_struct Tryz.underlying41 h
    match xs, hlen with
    | [y0, y1, y2, y3, y4, y5, y6, y7, y8, y9], _ =>
      have hp : x.2 = _ := congrArg Prod.snd hx
      have h0 := hall 0 _ rfl
      have h1 := hall 1 _ rfl
      have h2 := hall 2 _ rfl
      have h3 := hall 3 _ rfl
      have h4 := hall 4 _ rfl
      have h5 := hall 5 _ rfl
      have h6 := hall 6 _ rfl
      have h7 := hall 7 _ rfl
      have h8 := hall 8 _ rfl
      have h9 := hall 9 _ rfl
      have k0 : DataW.trod enc Tryz.prog W 0 (fun _ => true) true n 9 [c0] = some y0 := h0
      have k1 : DataW.trod enc Tryz.prog W 0 (fun _ => true) true n 3 [c1] = some y1 := h1
      have k2 : DataW.trod enc Tryz.prog W 0 (fun _ => true) true n 3 [c2] = some y2 := h2
      have k3 : DataW.trod enc Tryz.prog W 0 (fun _ => true) true n 3 [c3] = some y3 := h3
      have k4 : DataW.trod enc Tryz.prog W 0 (fun _ => true) true n 3 [c4] = some y4 := h4
      have k5 : DataW.trod enc Tryz.prog W 0 (fun _ => true) true n 9 [c5] = some y5 := h5
      have k6 : DataW.trod enc Tryz.prog W 0 (fun _ => true) true n 9 [c6] = some y6 := h6
      have k7 : DataW.trod enc Tryz.prog W 0 (fun _ => true) true n 3 [c7] = some y7 := h7
      have k8 : DataW.trod enc Tryz.prog W 0 (fun _ => true) true n 9 [c8] = some y8 := h8
      have k9 : DataW.trod enc Tryz.prog W 0 (fun _ => true) true n 25 [c9] = some y9 := h9
      have hnf9 : W.noneFrozen y9.2 := fun b off hb => hnf b off (by rw [hp]; simp [hb])
      obtain ⟨f0, e0, _, _⟩ := DataW.trod_string Tryz.underlying9 k0
      obtain ⟨f1, e1, _, _⟩ := DataW.trod_int Tryz.underlying3 k1
      obtain ⟨f2, e2, _, _⟩ := DataW.trod_int Tryz.underlying3 k2
      obtain ⟨f3, e3, _, _⟩ := DataW.trod_int Tryz.underlying3 k3
      obtain ⟨f4, e4, _, _⟩ := DataW.trod_int Tryz.underlying3 k4
      obtain ⟨f5, e5, _, _⟩ := DataW.trod_string Tryz.underlying9 k5
      obtain ⟨f6, e6, _, _⟩ := DataW.trod_string Tryz.underlying9 k6
      obtain ⟨f7, e7, _, _⟩ := DataW.trod_int Tryz.underlying3 k7
      obtain ⟨f8, e8, _, _⟩ := DataW.trod_string Tryz.underlying9 k8
      obtain ⟨f9, nv, e9, hs⟩ := opens_slice (sz := 1) Tryz.underlying25 (by kernel_rfl) (by omega) (opens_byte Tryz.underlying5) n _ _ k9 hnf9
      have e0 : c0 = .string f0 := by simpa using e0
      have e1 : c1 = .int .i64 f1 := by simpa using e1
      have e2 : c2 = .int .i64 f2 := by simpa using e2
      have e3 : c3 = .int .i64 f3 := by simpa using e3
      have e4 : c4 = .int .i64 f4 := by simpa using e4
      have e5 : c5 = .string f5 := by simpa using e5
      have e6 : c6 = .string f6 := by simpa using e6
      have e7 : c7 = .int .i64 f7 := by simpa using e7
      have e8 : c8 = .string f8 := by simpa using e8
      have e9 : c9 = nv := by simpa using e9
      subst e9
      refine ⟨⟨f0.data.toList, f1, f2, f3, f4, f5.data.toList, f6.data.toList, f7, f8.data.toList, f9⟩, c9, ?_, hs⟩
      rw [e0, e1, e2, e3, e4, e5, e6, e7, e8]
      simp [bs, entC]
set_option maxRecDepth 100000 in
open Go.ChangeShapes Go.WideShapes Go.ChangeAt in
theorem open_ent {H : Type} {enc : TypeId × Value → H} {W : World} {base : Nat} {v : Value} {d : DataW H} {p : List MemPlace} (hv : Value.okWide Tryz.prog W .any base 41 v)
    (h : DataW.Trod enc Tryz.prog W 0 (fun _ => true) true 41 v d p) (hnf : W.noneFrozen p) : ∃ e dv, v = entV e dv ∧ Sl 1 Rbyte nowhere W dv e.data := by
  obtain ⟨cs, rfl, hsz⟩ := okWide_struct Tryz.underlying41 hv
  have hC : Tryz.prog.cellsOf 41 = 10 := by kernel_rfl
  rw [hC] at hsz
  obtain ⟨l⟩ := cs
  match l, hsz with
  | [c0, c1, c2, c3, c4, c5, c6, c7, c8, c9], _ =>
    obtain ⟨fuel, hf⟩ := h
    obtain ⟨xs, n, _, hx, hl, hlen, hall⟩ := DataW.trod_struct Tryz.underlying41 hf
    match xs, hlen with
    | [y0, y1, y2, y3, y4, y5, y6, y7, y8, y9], _ =>
      have hp : p = _ := congrArg Prod.snd hx
      have h0 := hall 0 _ rfl
      have h1 := hall 1 _ rfl
      have h2 := hall 2 _ rfl
      have h3 := hall 3 _ rfl
      have h4 := hall 4 _ rfl
      have h5 := hall 5 _ rfl
      have h6 := hall 6 _ rfl
      have h7 := hall 7 _ rfl
      have h8 := hall 8 _ rfl
      have h9 := hall 9 _ rfl
      have k0 : DataW.trod enc Tryz.prog W 0 (fun _ => true) true n 9 [c0] = some y0 := h0
      have k1 : DataW.trod enc Tryz.prog W 0 (fun _ => true) true n 3 [c1] = some y1 := h1
      have k2 : DataW.trod enc Tryz.prog W 0 (fun _ => true) true n 3 [c2] = some y2 := h2
      have k3 : DataW.trod enc Tryz.prog W 0 (fun _ => true) true n 3 [c3] = some y3 := h3
      have k4 : DataW.trod enc Tryz.prog W 0 (fun _ => true) true n 3 [c4] = some y4 := h4
      have k5 : DataW.trod enc Tryz.prog W 0 (fun _ => true) true n 9 [c5] = some y5 := h5
      have k6 : DataW.trod enc Tryz.prog W 0 (fun _ => true) true n 9 [c6] = some y6 := h6
      have k7 : DataW.trod enc Tryz.prog W 0 (fun _ => true) true n 3 [c7] = some y7 := h7
      have k8 : DataW.trod enc Tryz.prog W 0 (fun _ => true) true n 9 [c8] = some y8 := h8
      have k9 : DataW.trod enc Tryz.prog W 0 (fun _ => true) true n 25 [c9] = some y9 := h9
      have hnf9 : W.noneFrozen y9.2 := fun b off hb => hnf b off (by rw [hp]; simp [hb])
      obtain ⟨f0, e0, _, _⟩ := DataW.trod_string Tryz.underlying9 k0
      obtain ⟨f1, e1, _, _⟩ := DataW.trod_int Tryz.underlying3 k1
      obtain ⟨f2, e2, _, _⟩ := DataW.trod_int Tryz.underlying3 k2
      obtain ⟨f3, e3, _, _⟩ := DataW.trod_int Tryz.underlying3 k3
      obtain ⟨f4, e4, _, _⟩ := DataW.trod_int Tryz.underlying3 k4
      obtain ⟨f5, e5, _, _⟩ := DataW.trod_string Tryz.underlying9 k5
      obtain ⟨f6, e6, _, _⟩ := DataW.trod_string Tryz.underlying9 k6
      obtain ⟨f7, e7, _, _⟩ := DataW.trod_int Tryz.underlying3 k7
      obtain ⟨f8, e8, _, _⟩ := DataW.trod_string Tryz.underlying9 k8
      obtain ⟨f9, nv, e9, hs⟩ := opens_slice (sz := 1) Tryz.underlying25 (by kernel_rfl) (by omega) (opens_byte Tryz.underlying5) n _ _ k9 hnf9
      have e0 : c0 = .string f0 := by simpa using e0
      have e1 : c1 = .int .i64 f1 := by simpa using e1
      have e2 : c2 = .int .i64 f2 := by simpa using e2
      have e3 : c3 = .int .i64 f3 := by simpa using e3
      have e4 : c4 = .int .i64 f4 := by simpa using e4
      have e5 : c5 = .string f5 := by simpa using e5
      have e6 : c6 = .string f6 := by simpa using e6
      have e7 : c7 = .int .i64 f7 := by simpa using e7
      have e8 : c8 = .string f8 := by simpa using e8
      have e9 : c9 = nv := by simpa using e9
      subst e9
      refine ⟨⟨f0.data.toList, f1, f2, f3, f4, f5.data.toList, f6.data.toList, f7, f8.data.toList, f9⟩, c9, ?_, hs⟩
      rw [e0, e1, e2, e3, e4, e5, e6, e7, e8]
      simp [bs, entV]
end Go.Proofs.YtpheifdpjcppdaaGreatDoor
