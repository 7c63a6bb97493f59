/- The walk of the program's check of an entry behind others. Printed by gen_enck.py. -/
import Derived.Test.YtjhikglgaoncjaaDoorEnI
import Derived.Test.YtjhikglgaoncjaaDoorMap
namespace Go.Proofs.YtjhikglgaoncjaaDoor
open Go.RowKit Go.WideMaps Go.Maps
abbrev tM : TypeId := 65
abbrev tC : TypeId := 48
/-- A look-up, in whatever world holds the map. -/
theorem nlook_all {w : World} {b n : Nat} {m : List UInt8 → Option Int} (h : NMap w b n m) (key : List UInt8) (hkl : key.length ≤ 1000000000) :
    ∃ (c : Int) (D : DataW Unit), w.ownsMap Tryd.prog 9 (plainElem Tryd.prog 3) b n D ∧ (∀ y, m key = some y → c = y) ∧
      ∀ W : World, W.ownsMap Tryd.prog 9 (plainElem Tryd.prog 3) b n D → (Instr.lookup 46 (.map (some b)) (.string (bs key)) true).run Tryd.prog W = .ok (.tuple #[.int .i64 c, .bool (m key).isSome]) W := by
  obtain ⟨D, ho, hI, hD⟩ := h
  have hk := keyOf_string_mk Tryd.underlying9 (s := bs key) (by rw [bs_size]; unfold maxLen; omega)
  have hp0 : plainElem (H := Unit) Tryd.prog 3 (.int .i64 0) = some (.lit (.int .i64 0), []) := plainElem_int Tryd.underlying3 (by decide)
  have one : ∀ W : World, W.ownsMap Tryd.prog 9 (plainElem Tryd.prog 3) b n D → ∃ c : Int, D.atKey (.string key) (.lit (.int .i64 0)) = .lit (.int .i64 c) ∧ (Instr.lookup 46 (.map (some b)) (.string (bs key)) true).run Tryd.prog W = .ok (.tuple #[.int .i64 c, .bool (m key).isSome]) W := fun W hW => by
    obtain ⟨v, ps, hrun, hv⟩ := hW.look_ok keyS Tryd.underlying46 (zeroI W) hp0 hk
    obtain ⟨c, rfl, hc, _⟩ := plainElem_int_inv Tryd.underlying3 hv
    exact ⟨c, congrArg Prod.fst hc, by rw [← (hD key).1]; exact hrun⟩
  obtain ⟨c, hc, _⟩ := one w ho
  refine ⟨c, D, ho, fun y hy => ?_, fun W hW => ?_⟩
  · have := (hD key).2 y hy
    rw [hc] at this
    exact (Lit.int.inj (DataW.lit.inj this)).2
  · obtain ⟨c', hc', hr⟩ := one W hW
    rw [hc] at hc'
    rw [(Lit.int.inj (DataW.lit.inj hc')).2]; exact hr
set_option maxRecDepth 20000 in
set_option maxHeartbeats 8000000 in
theorem common_any (e : En) (dv : Value) (w : World) (A : Option Addr) (n cap : Nat) (h : dv = .slice A n cap) :
    Calls Tryd.prog 45 #[entV e dv] w fun r w' => r = .returned (.agg #[.int .i64 e.mode, .int .i64 e.uid, .int .i64 e.gid, .string (bs e.owner), .string (bs e.group), .int .i64 e.mtime]) ∧ Below w.heap.size w w' := by
  subst h
  obtain ⟨path, kind, mode, uid, gid, owner, group, mtime, link, data⟩ := e
  simp only [entV]
  go_enter Tryd.func45, Tryd.ntmps45
  go_upto_region 1 with fail
  have bE := (Blk.new w tE #[.string (bs path), .int .i64 kind, .int .i64 mode, .int .i64 uid, .int .i64 gid, .string (bs owner), .string (bs group), .int .i64 mtime, .string (bs link), .slice A n cap]).alloc (.cells #[.int .i64 0, .int .i64 0, .int .i64 0, .string ⟨#[]⟩, .string ⟨#[]⟩, .int .i64 0] tM)
  have bF := Blk.new (w.alloc (.cells #[.string (bs path), .int .i64 kind, .int .i64 mode, .int .i64 uid, .int .i64 gid, .string (bs owner), .string (bs group), .int .i64 mtime, .string (bs link), .slice A n cap] tE)) tM #[.int .i64 0, .int .i64 0, .int .i64 0, .string ⟨#[]⟩, .string ⟨#[]⟩, .int .i64 0]
  have hs : (w.alloc (.cells #[.string (bs path), .int .i64 kind, .int .i64 mode, .int .i64 uid, .int .i64 gid, .string (bs owner), .string (bs group), .int .i64 mtime, .string (bs link), .slice A n cap] tE)).heap.size = w.heap.size + 1 := by simp
  rw [hs] at bF
  have hq := ((Below.refl w.heap.size w).alloc (Nat.le_refl _) (.cells #[.string (bs path), .int .i64 kind, .int .i64 mode, .int .i64 uid, .int .i64 gid, .string (bs owner), .string (bs group), .int .i64 mtime, .string (bs link), .slice A n cap] tE)).alloc (by rw [hs]; omega) (.cells #[.int .i64 0, .int .i64 0, .int .i64 0, .string ⟨#[]⟩, .string ⟨#[]⟩, .int .i64 0] tM)
  generalize (w.alloc (.cells #[.string (bs path), .int .i64 kind, .int .i64 mode, .int .i64 uid, .int .i64 gid, .string (bs owner), .string (bs group), .int .i64 mtime, .string (bs link), .slice A n cap] tE)).alloc (.cells #[.int .i64 0, .int .i64 0, .int .i64 0, .string ⟨#[]⟩, .string ⟨#[]⟩, .int .i64 0] tM) = W at bE bF hq ⊢
  have hg2 : w.heap.size ≤ w.heap.size + 1 := by omega
  generalize w.heap.size + 1 = g2 at bF hg2 ⊢
  generalize hg : w.heap.size = g at bE hg2 ⊢
  have a2 := bE.cell 2
  have a3 := bE.cell 3
  have a4 := bE.cell 4
  have a5 := bE.cell 5
  have a6 := bE.cell 6
  have a7 := bE.cell 7
  have b0 := bF.cell 0
  have b1 := bF.cell 1
  have b2 := bF.cell 2
  have b3 := bF.cell 3
  have b4 := bF.cell 4
  have b5 := bF.cell 5
  have f0 := bF.free 0
  have f1 := bF.free 1
  have f2 := bF.free 2
  have f3 := bF.free 3
  have f4 := bF.free 4
  have f5 := bF.free 5
  simp at a2 a3 a4 a5 a6 a7 b0 b1 b2 b3 b4 b5
  go_wp2_with fail
  have hgg : w.heap.size ≤ g2 := by rw [hg]; exact hg2
  have K := ((((((bF.set (u := .int .i64 mode) 0).set (u := .int .i64 uid) 1).set (u := .int .i64 gid) 2).set (u := .string (bs owner)) 3).set (u := .string (bs group)) 4).set (u := .int .i64 mtime) 5)
  simp at K
  have hq2 := ((((((hq.setCell (p := ⟨g2, 0, none⟩) hgg (.int .i64 mode)).setCell (p := ⟨g2, 1, none⟩) hgg (.int .i64 uid)).setCell (p := ⟨g2, 2, none⟩) hgg (.int .i64 gid)).setCell (p := ⟨g2, 3, none⟩) hgg (.string (bs owner))).setCell (p := ⟨g2, 4, none⟩) hgg (.string (bs group))).setCell (p := ⟨g2, 5, none⟩) hgg (.int .i64 mtime))
  clear bE bF hq a2 a3 a4 a5 a6 a7 b0 b1 b2 b3 b4 b5 f0 f1 f2 f3 f4 f5
  generalize ((((((W.setCell ⟨g2, 0, none⟩ (.int .i64 mode)).setCell ⟨g2, 1, none⟩ (.int .i64 uid)).setCell ⟨g2, 2, none⟩ (.int .i64 gid)).setCell ⟨g2, 3, none⟩ (.string (bs owner))).setCell ⟨g2, 4, none⟩ (.string (bs group))).setCell ⟨g2, 5, none⟩ (.int .i64 mtime)) = W2 at K hq2 ⊢
  have k0 := K.cell 0
  have k1 := K.cell 1
  have k2 := K.cell 2
  have k3 := K.cell 3
  have k4 := K.cell 4
  have k5 := K.cell 5
  simp at k0 k1 k2 k3 k4 k5
  refine bodyPost_ret (v := .agg #[.int .i64 mode, .int .i64 uid, .int .i64 gid, .string (bs owner), .string (bs group), .int .i64 mtime]) (by simp [results, Tryd.results45, go_sem, k0, k1, k2, k3, k4, k5]) rfl ?_
  exact ⟨rfl, hq2⟩
/-- The checker in memory. -/
structure CK (w : World) (cp m1 m2 n1 n2 : Nat) (v : Value) (f1 f2 : List UInt8 → Option Int) : Prop where
  blk : Blk w cp tC #[v, .map (some m1), .map (some m2)]
  at_ : NMap w m1 n1 f1
  ab : NMap w m2 n2 f2
theorem CK.below {w w' : World} {cp m1 m2 n1 n2 : Nat} {v : Value} {f1 f2 : List UInt8 → Option Int} (h : CK w cp m1 m2 n1 n2 v f1 f2) (k : Below w.heap.size w w') : CK w' cp m1 m2 n1 n2 v f1 f2 :=
  ⟨h.blk.below k h.blk.lt, h.at_.below k, h.ab.below k⟩
end Go.Proofs.YtjhikglgaoncjaaDoor
