/- ar.Write's way with what it puts together: a constant's bytes at first, a row of its own behind. -/
import Derived.Test.YtolknddegfcmpaaDoorArK
import Derived.Test.YtolknddegfcmpaaDoorArI
import Derived.Test.YtolknddegfcmpaaDoorArB
import Derived.Test.YtolknddegfcmpaaDoorArH
import Derived.Test.YtolknddegfcmpaaDoorArBs
import Derived.Lib.SmallJoins
namespace Go.Proofs.YtolknddegfcmpaaDoor
open Go.RowKit
theorem own_slbX {X : Nat → Prop} {w : World} {base : Nat} {v : Value} {l : List UInt8} (h : w.ownsRow base 5 1 v l.length (bvs l)) (hX : ∀ k, v.ownBlock = some k → ¬ X k) : Sl 1 Rbyte X w v l := by
  have ho : OwnL 1 Rbyte 5 base X w v l := by
    refine ⟨l.map fun b => [.int .u8 (b.toNat : Int)], ?_, by simp, hX, fun j h h' => by simp [Rbyte]⟩
    have : (l.map fun b => [Value.int .u8 (b.toNat : Int)]).flatten = bvs l := by
      clear h
      induction l with
      | nil => rfl
      | cons c t ih => rw [List.map_cons, List.flatten_cons, ih]; rfl
    rw [this]; exact h
  exact ho.sl good_byte
theorem own_slb {w : World} {base : Nat} {v : Value} {l : List UInt8} (h : w.ownsRow base 5 1 v l.length (bvs l)) : Sl 1 Rbyte nowhere w v l := own_slbX h fun _ _ h => h
/-- What Write answers. -/
def ArW (w : World) (st : Int) (l : List It) (r : Ending) (w' : World) : Prop :=
  ∃ v : Value, r = .returned (.tuple #[v, .int .i64 (arErr st l)]) ∧ Below w.heap.size w w' ∧ Sl 1 Rbyte nowhere w' v (if arErr st l = 0 then arB st l else [])
def Fit1 (st : Int) (x : It) : Prop := st = 0 → x.name.length ≤ 16
def Fit16 (st : Int) (l : List It) : Prop := ∀ x ∈ l, Fit1 st x
def ArS (base : Nat) (W : World) (v : Value) (la : List UInt8) : Prop :=
  (W.ownsRow base 5 1 v la.length (bvs la)) ∨ (∃ g0, v = .slice (some ⟨g0, 0, none⟩) la.length la.length ∧ base ≤ g0 ∧ la.length ≤ 1000000 ∧ W.heap[g0]? = some (.cells (la.map fun c => Value.int .u8 (c.toNat : Int)).toArray 5 (la.length, la.length + 1)))
theorem ArS.form {base : Nat} {W : World} {v : Value} {la : List UInt8} (h : ArS base W v la) : ∃ A c, v = .slice A la.length c := by
  rcases h with h | ⟨g0, rfl, _⟩
  · exact own_form h
  · exact ⟨_, _, rfl⟩
theorem ArS.below {base : Nat} {W W' : World} {v : Value} {la : List UInt8} (h : ArS base W v la) (hb : Below W.heap.size W W') : ArS base W' v la := by
  rcases h with h | ⟨g0, h1, h2, h3, h4⟩
  · exact .inl (own_below h hb)
  · exact .inr ⟨g0, h1, h2, h3, by rw [hb.block g0 (Array.getElem?_eq_some_iff.1 h4).1]; exact h4⟩
theorem ArS.sl {base : Nat} {W : World} {v : Value} {la : List UInt8} (h : ArS base W v la) : Sl 1 Rbyte nowhere W v la := by
  rcases h with h | ⟨g0, rfl, _, h3, h4⟩
  · exact own_slb h
  · exact lit_bytes la h4 h3 fun h => h
theorem ArS.lt {base : Nat} {W : World} {v : Value} {la : List UInt8} (h : ArS base W v la) (k : Nat) (hk : v.ownBlock = some k) : base ≤ k ∧ k < W.heap.size := by
  rcases h with h | ⟨g0, rfl, h2, _, h4⟩
  · exact h.lt k hk
  · simp only [Value.ownBlock, Option.some.injEq] at hk
    subst hk
    exact ⟨h2, (Array.getElem?_eq_some_iff.1 h4).1⟩
theorem amember_any (w : World) (base : Nat) (v : Value) (l : List UInt8) (hst : ArS base w v l) (hbase : base ≤ w.heap.size) (hl : l.length ≤ 100000000)
    (s1 s2 s3 s4 s5 : List UInt8) (h10 : 0 < s1.length) (h1 : s1.length ≤ 16) (h2 : s2.length ≤ 12) (h3 : s3.length ≤ 6) (h4 : s4.length ≤ 6) (h5 : s5.length ≤ 8) (dv : Value) (data : List UInt8) (hd : Sl 1 Rbyte (fun k => v.ownBlock = some k) w dv data) (hdl : data.length ≤ 100000000) (hT : Tab w) (hgb : gTab < base) :
    Calls Tryd.prog 37 #[v, .string (bs s1), .string (bs s2), .string (bs s3), .string (bs s4), .string (bs s5), dv] w fun r w' => ∃ v', r = .returned v' ∧ ArS base w' v' (l ++ memI s1 s2 s3 s4 s5 data) ∧ Below base w w' ∧ ∀ (g : Nat) (t : TypeId) (cs : Array Value), Blk w g t cs → 5 ≠ t → Blk w' g t cs := by
  rcases hst with h | ⟨g0, rfl, hb0, hl0, hh⟩
  · refine (imember_any w base v l h hbase hl s1 s2 s3 s4 s5 h1 h2 h3 h4 h5 dv data hd hdl hT hgb).mono ?_
    rintro r w' ⟨v', rfl, hr⟩
    exact ⟨v', rfl, .inl hr.own, hr.bel fun k hk => (h.lt k hk).1, fun g t cs hB ht => hr.kept.blk hB (own_notblk h hB ht)⟩
  · have hN : ∀ k, (none : Option Nat) ≠ some k := fun k e => by cases e
    refine (imember1_any w base g0 none hN l (fun j hj => ?_) hbase hl s1 s2 s3 s4 s5 h10 h1 h2 h3 h4 h5 dv data (hd.mono good_byte (Nat.le_refl _) fun k _ h => absurd h (hN k)) hdl hT hgb).mono ?_
    · rw [cell_of_row w g0 j _ _ _ hh]
      simp [hj]
    · rintro r w' ⟨v', rfl, hr⟩
      exact ⟨v', rfl, .inl hr.own, hr.bel fun k hk => absurd hk (hN k), fun g t cs hB _ => hr.kept.blk hB (hN g)⟩
theorem Deb.below {B : Nat} {w w' : World} (h : Deb w) (hb : Below w.heap.size w w') : Deb w' := (Kept.of_below hb nowhere).cell h fun h => h
set_option maxRecDepth 20000 in
theorem intab_any (s : List UInt8) (w : World) : Calls Tryd.prog 36 #[.string (bs s)] w fun e w' => e = .returned (.bool (inTab s)) ∧ w = w' := by
  have hns := bs_size s
  have HI : Hid (inTab s = (decide (15 < s.length) || decide (s = [35, 49]))) := Lib.hid rfl
  obtain ⟨b1, HB1⟩ : ∃ b, Hid (decide (15 < s.length) = b) := ⟨_, Lib.hid rfl⟩
  obtain ⟨b2, HB2⟩ : ∃ b, Hid (decide (s = [35, 49]) = b) := ⟨_, Lib.hid rfl⟩
  rw [HB1.out, HB2.out] at HI
  have t1 : decide ((15 : Int) < (s.length : Int)) = b1 := by rw [← HB1.out]; apply decide_eq_decide.2; omega
  have t1b := HB1.out
  have t2 : ((bs s).toList == [35, 49]) = b2 := by rw [toList_bs, ← HB2.out, Bool.eq_iff_iff]; simp
  cases b1 with
  | true =>
    go_enter Tryd.func36, Tryd.ntmps36
    go_wp2_with fail
    go_ret
    exact ⟨by rw [HI.out]; rfl, rfl⟩
  | false =>
    go_enter Tryd.func36, Tryd.ntmps36
    go_wp2_with fail
    go_ret
    exact ⟨by rw [HI.out, Bool.false_or]; rfl, rfl⟩
end Go.Proofs.YtolknddegfcmpaaDoor
