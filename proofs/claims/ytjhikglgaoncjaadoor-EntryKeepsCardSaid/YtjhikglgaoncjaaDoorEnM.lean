/- The walks of Canon's closures, bytes.Clone, slices.Clone at entries, entry.Copy. -/
import Derived.Test.YtjhikglgaoncjaaDoorEnL
import Derived.Test.YtjhikglgaoncjaaDoorShelfC
namespace Go.Proofs.YtjhikglgaoncjaaDoor
open Go.RowKit
/-- The path of the file that an entry is a name of. -/
def fileE (e : En) : List UInt8 := if e.kind = 4 then e.link else e.path
set_option maxRecDepth 20000 in
set_option maxHeartbeats 4000000 in
theorem file_any (e : En) (dv : Value) (w : World) (A : Option Addr) (n cap : Nat) (h : dv = .slice A n cap) :
    Calls Tryd.prog 32 #[entV e dv] w fun r w' => r = .returned (.string (bs (fileE e))) ∧ Below w.heap.size w w' := by
  subst h
  obtain ⟨path, kind, mode, uid, gid, owner, group, mtime, link, data⟩ := e
  have HF : Hid (fileE ⟨path, kind, mode, uid, gid, owner, group, mtime, link, data⟩ = if kind = 4 then link else path) := Lib.hid rfl
  generalize fileE ⟨path, kind, mode, uid, gid, owner, group, mtime, link, data⟩ = res at HF
  simp only [entV]
  go_enter Tryd.func32, Tryd.ntmps32
  go_upto_region 1 with fail
  have bE := Blk.new w tE #[.string (bs path), .int .i64 kind, .int .i64 mode, .int .i64 uid, .int .i64 gid, .string (bs owner), .string (bs group), .int .i64 mtime, .string (bs link), .slice A n cap]
  have hq := (Below.refl w.heap.size w).alloc (Nat.le_refl _) (.cells #[.string (bs path), .int .i64 kind, .int .i64 mode, .int .i64 uid, .int .i64 gid, .string (bs owner), .string (bs group), .int .i64 mtime, .string (bs link), .slice A n cap] tE)
  generalize w.alloc (.cells #[.string (bs path), .int .i64 kind, .int .i64 mode, .int .i64 uid, .int .i64 gid, .string (bs owner), .string (bs group), .int .i64 mtime, .string (bs link), .slice A n cap] tE) = W at bE hq ⊢
  generalize hg : w.heap.size = g at bE ⊢
  have d0 := bE.cell 0
  have d1 := bE.cell 1
  have d8 := bE.cell 8
  simp at d0 d1 d8
  by_cases h4 : kind = 4
  · have e4 : (kind == 4) = true := by simpa using h4
    have HV := Lib.hid (HF.out.trans (if_pos h4))
    clear h4 HF
    go_wp2_with fail
    go_ret
    exact ⟨by rw [HV.out]; rfl, by first | exact hq | (rw [← hg]; exact hq)⟩
  · have e4 : (kind == 4) = false := by simpa using h4
    have HV := Lib.hid (HF.out.trans (if_neg h4))
    clear h4 HF
    go_wp2_with fail
    go_ret
    exact ⟨by rw [HV.out]; rfl, by first | exact hq | (rw [← hg]; exact hq)⟩
theorem nan_any (a : List UInt8) (w : World) : Calls Tryd.prog 51 #[.string (bs a)] w fun e w' => e = .returned (.bool false) ∧ w = w' := by
  have hq := beq_bs a
  go_enter Tryd.func51, Tryd.ntmps51
  go_wp2_with fail
  go_ret
  exact ⟨by first | rfl | simp, rfl⟩
def cmpS (a b : List UInt8) : Int := if Op.bytesLess a b = true then -1 else if a = b then 0 else 1
set_option maxRecDepth 20000 in
set_option maxHeartbeats 4000000 in
theorem cmps_any (a b : List UInt8) (w : World) : Calls Tryd.prog 36 #[.string (bs a), .string (bs b)] w fun e w' => e = .returned (.int .i64 (cmpS a b)) ∧ w = w' := by
  have HX : Hid (cmpS a b = if Op.bytesLess a b = true then -1 else if a = b then 0 else 1) := Lib.hid rfl
  generalize cmpS a b = res at HX
  have t1 : (bs a).toList = a := toList_bs a
  have t2 : (bs b).toList = b := toList_bs b
  go_enter Tryd.func36, Tryd.ntmps36
  go_wp2_with fail
  refine (nan_any a _).mono ?_
  rintro e w1 ⟨rfl, rfl⟩
  go_wp2_with fail
  refine (nan_any b _).mono ?_
  rintro e w1 ⟨rfl, rfl⟩
  cases h1 : Op.bytesLess a b with
  | true =>
    have HV := Lib.hid (HX.out.trans (if_pos h1))
    clear HX
    go_wp2_with fail
    go_ret
    exact ⟨by rw [HV.out]; rfl, rfl⟩
  | false =>
    have HX := Lib.hid (HX.out.trans (if_neg (by rw [h1]; simp)))
    by_cases h2 : a = b
    · have HV := Lib.hid (HX.out.trans (if_pos h2))
      have e2 : (a == b) = true := by simpa using h2
      clear HX h2
      go_wp2_with fail
      go_ret
      exact ⟨by rw [HV.out]; rfl, rfl⟩
    · have HV := Lib.hid (HX.out.trans (if_neg h2))
      have e2 : (a == b) = false := by simpa using h2
      clear HX h2
      go_wp2_with fail
      go_ret
      exact ⟨by rw [HV.out]; rfl, rfl⟩
/-- bytes.Clone. -/
theorem bclone_any (l : List UInt8) (v : Value) (X : Nat → Prop) (w : World) (hsl : Sl 1 Rbyte X w v l) (hl : l.length ≤ 140737488355328) :
    Calls Tryd.prog 33 #[v] w fun e w' => (∃ v', e = .returned v' ∧ OwnL 1 Rbyte 5 w.heap.size nowhere w' v' l) ∧ Below w.heap.size w w' := by
  obtain ⟨A, cap, rfl, h1, h2, h3, h4, h5⟩ := id hsl
  cases A with
  | none =>
    have hl0 : l = [] := by
      have := h3 rfl
      exact List.eq_nil_of_length_eq_zero (by omega)
    subst hl0
    refine (Tryd.bytes_Clone_nil _ _ w).mono ?_
    rintro e w' ⟨rfl, rfl⟩
    exact ⟨⟨_, rfl, OwnL.nil _ _ _ _ _ _⟩, Below.refl _ _⟩
  | some a =>
    have hcs : ∀ i, i < l.length → w.cell? (a.add i) = some (.int .u8 ((l.map fun b => (b.toNat : Int)).getD i 0)) := fun i hi => by
      have hne : l ≠ [] := fun e => by rw [e] at hi; simp at hi
      obtain ⟨b, off, hA, _, hc⟩ := h4 hne
      injection hA with hA
      subst hA
      obtain ⟨cs, hcs, hR⟩ := hc i hi
      have hR : cs = [.int .u8 (l[i].toNat : Int)] := hR
      subst hR
      have := hcs 0 _ rfl
      rw [Addr.add_lit]
      simpa [List.getD, hi] using this
    refine (Tryd.bytes_Clone_at a l.length cap (l.map fun b => (b.toNat : Int)) w (by simp) hl hcs).mono ?_
    rintro e w' ⟨v', rfl, ho, _, hb⟩
    refine ⟨⟨v', rfl, l.map fun b => [.int .u8 (b.toNat : Int)], ?_, by simp, fun _ _ h => h, fun j h h' => by simp [Rbyte]⟩, hb⟩
    have : (l.map fun b => [Value.int .u8 (b.toNat : Int)]).flatten = (l.map fun b => (b.toNat : Int)).map (Value.int .u8) := by
      clear ho hcs h1 h4 h5 hsl hl
      induction l with
      | nil => rfl
      | cons c t ih => rw [List.map_cons, List.flatten_cons, ih]; rfl
    rw [this]; exact ho
/-- The cells of entries whose data lie at f's slices. -/
def ofC (l : List En) (f : Nat → Value) : List Value := (List.ofFn fun j : Fin l.length => entC l[j] (f j)).flatten
theorem ofC_len (l : List En) (f : Nat → Value) : (ofC l f).length = l.length * 10 := by
  rw [ofC, List.length_flatten]
  have : (List.ofFn fun j : Fin l.length => entC l[j] (f j)).map List.length = List.replicate l.length 10 := by
    apply List.ext_getElem
    · simp
    · intro i h1 h2; simp [entC]
  rw [this]; simp
theorem ofC_at (l : List En) (f : Nat → Value) (j : Nat) (hj : j < l.length) (i : Nat) (hi : i < 10) : (ofC l f)[j * 10 + i]? = (entC l[j] (f j))[i]? := by
  rw [ofC, flatten_at _ 10 (fun cs hcs => by obtain ⟨k, rfl⟩ := List.mem_ofFn.1 hcs; rfl) j (by simpa using hj) i hi]
  simp
theorem info_ent : (Tryd.prog.info? tE).map (fun i => (i.zero, i.size, i.bytes)) = some (some (.agg #[.string ⟨#[]⟩, .int .i64 0, .int .i64 0, .int .i64 0, .int .i64 0, .string ⟨#[]⟩, .string ⟨#[]⟩, .int .i64 0, .string ⟨#[]⟩, .slice none 0 0]), 10, 128) := by kernel_rfl
end Go.Proofs.YtjhikglgaoncjaaDoor
