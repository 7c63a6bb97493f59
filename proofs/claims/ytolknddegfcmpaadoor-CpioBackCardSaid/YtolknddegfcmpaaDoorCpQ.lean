/- The walk of cpio's member. Printed by gen_cpq.py. -/
import Derived.Test.YtolknddegfcmpaaDoorCpNO
namespace Go.Proofs.YtolknddegfcmpaaDoor
open Go.RowKit
/-- A piece of bytes. -/
def subB (b : List UInt8) (k z : Nat) : List UInt8 := (b.drop k).take z
/-- What a member is. -/
inductive Mem where
  | err (c : Int)
  | fin
  | mem (ns : List Nat) (name d : List UInt8) (next : Nat)
def nmOk (s : List UInt8) : Bool := Lib.hasSuffix s [0] && decide (Lib.indexByte (s.take (s.length - 1)) 0 < 0)
def memB2 (b : List UInt8) (ns : List Nat) (name : List UInt8) (x6 fr : Nat) : Mem :=
  if b.length < fr + (x6 + filN x6) then .err 2
  else if 1048576 < x6 then .err 4
  else .mem ns name (subB b fr x6) (fr + (x6 + filN x6))
def memB1 (b : List UInt8) (ns : List Nat) (x6 x11 fr : Nat) : Mem :=
  if x11 < 1 ∨ 201 < x11 then .err 10
  else if b.length < fr + (x11 + filN (110 + x11)) then .err 2
  else if nmOk (subB b fr x11) = false then .err 10
  else if (subB b fr x11).take (x11 - 1) = trailL then .fin
  else memB2 b ns ((subB b fr x11).take (x11 - 1)) x6 (fr + (x11 + filN (110 + x11)))
/-- The member at a place. -/
def memS (b : List UInt8) (p : Nat) : Mem :=
  if b.length < p + 110 then .err 2
  else if headOk (subB b p 110) = false then .err 3
  else memB1 b (headN (subB b p 110)) ((headN (subB b p 110)).getD 6 0) ((headN (subB b p 110)).getD 11 0) (p + 110)
theorem subB_len (b : List UInt8) (k z : Nat) (h : k + z ≤ b.length) : (subB b k z).length = z := by rw [subB, List.length_take, List.length_drop]; omega
/-- b[k:j] reads as that piece. -/
theorem Sl.sub8 {P : Program} {X : Nat → Prop} {w : World} {A : Option Addr} {n cap : Nat} {l : List UInt8} (h : Sl 1 Rbyte X w (.slice A n cap) l) (t e : TypeId) (ht : P.underlying t = some (.slice e)) (he : (P.info? e).map (·.size) = some 1) (k j : Nat) (hk : k ≤ j) (hj : j ≤ n) :
    ∃ A' cap', (∀ W : World, (Instr.slice t (.slice A n cap) (some (.int .i64 (k : Int))) (some (.int .i64 (j : Int))) none).run P W = .ok (.slice A' (j - k) cap') W) ∧ Sl 1 Rbyte X w (.slice A' (j - k) cap') (subB l k (j - k)) := by
  obtain ⟨A0, cap0, hv, h1, h2, h3, h4, h5⟩ := h
  injection hv with e1 e2 e3
  subst e1 e3
  have hlen : (subB l k (j - k)).length = j - k := subB_len l k (j - k) (by omega)
  refine ⟨if cap = k then A else A.map (·.add k), cap - k, fun W => ?_, _, cap - k, by rw [hlen], by rw [hlen]; omega, by omega, ?_, fun hne => ?_, fun b off hA i hi => ?_⟩
  · cases hi : P.info? e with
    | none => simp [hi] at he
    | some i =>
      have h1 : i.size = 1 := by simpa [hi] using he
      have hb : (j : Int) ≤ (cap : Int) := by omega
      simp [Instr.slice, Instr.sliceBounds, Instr.sliceBound, run_underlying ht, sizeOf, typeInfo, hi, h1, asIntOf]
      rw [if_pos (by omega), if_pos (by omega)]
  · intro hA
    split at hA
    · omega
    · have : A = none := by simpa using hA
      have := h3 this
      omega
  · have hpos : 0 < j - k := by
      rcases Nat.eq_zero_or_pos (j - k) with h0 | h0
      · exact absurd (List.eq_nil_of_length_eq_zero (by rw [hlen]; exact h0)) hne
      · exact h0
    obtain ⟨b, off, rfl, hX, hc⟩ := h4 (fun e => by rw [e] at e2; simp at e2; omega)
    rw [if_neg (by omega)]
    refine ⟨b, off + k, by simp [Addr.add_lit], hX, fun i hi => ?_⟩
    rw [hlen] at hi
    obtain ⟨cs, hcs, hR⟩ := hc (k + i) (by omega)
    refine ⟨cs, fun q u hu => ?_, ?_⟩
    · have := hcs q u hu
      rw [show off + k + i * 1 + q = off + (k + i) * 1 + q by omega]
      exact this
    · have e : (subB l k (j - k))[i]'(by rw [hlen]; exact hi) = l[k + i]'(by omega) := by simp [subB]
      rw [e]; exact hR
  · rw [hlen] at hi
    by_cases hck : cap = k
    · omega
    · rw [if_neg hck] at hA
      cases A with
      | none => simp at hA
      | some a =>
        obtain ⟨b0, off0, hb0, _, _⟩ := h4 (fun e => by rw [e] at e2; simp at e2; omega)
        injection hb0 with hb0
        subst hb0
        simp [Addr.add_lit] at hA
        obtain ⟨rfl, rfl⟩ := hA
        have := h5 b0 off0 rfl (k + i) (by omega)
        rw [← Nat.add_assoc] at this
        exact this
section
variable {w0 w w' : World} {gr mf : Nat} {bv lv pv : Value} {L : List En} {f : Nat → Value} {PL : List Nat} {mo : Obj}
theorem info_int : (Tryd.prog.info? 3).map (fun i => (i.zero, i.size, i.bytes)) = some (some (.int .i64 0), 1, 8) := by kernel_rfl
/-- append of a place. -/
theorem wpList_place {ops : Array Oper} {rest : List Oper} {o : Oper} {a : Act} {Q : Exit → Act → World → Prop} (hgd : o.guard = none) (s x : Operand)
    (ho : o.op = .call { callee := .builtin .append, args := #[s, x], argTypes := #[63, 63] }) (hs : a.eval s = pv) (hrd : RD w0 gr mf bv lv pv L f PL mo w) (p g c : Nat) (hx : a.eval x = .slice (some ⟨g, 0, none⟩) 1 c) (hblk : Blk w g 3 #[.int .i64 (p : Int)]) (hn : PL.length ≤ 10000000)
    (h : ∀ v' w', w'.ownsRow w0.heap.size 3 1 v' (PL ++ [p]).length ((PL ++ [p]).map vI8) → Kept (fun k => pv.ownBlock = some k) w w' → (v'.ownBlock = pv.ownBlock ∨ ∀ k, v'.ownBlock = some k → w.heap.size ≤ k) → wpList Tryd.prog ops Q rest (a.put o.dst v') w') : wpList Tryd.prog ops Q (o :: rest) a w := by
  obtain ⟨i0, hi, hz0, hz1, hz2⟩ := info_parts info_int
  have ht : Tryd.prog.underlying 63 = some (.slice 3) := Tryd.underlying63
  refine wpList_plain hgd fun K hK => ?_
  have hnews : ∀ j u, ([.int .i64 (p : Int)] : List Value)[j]? = some u → w.cell? ((⟨g, 0, none⟩ : Addr).add j) = some u := fun j u hu => by
    rw [Addr.add_lit, Nat.zero_add, hblk.cell]
    simpa using hu
  obtain ⟨v', w', hr, h2, h3, _⟩ := run_append_own (P := Tryd.prog) w w0.heap.size 63 o.type 3 i0 _ 1 8 ht hi hz0 hz1 hz2 rfl (by decide) pv PL.length (PL.map vI8) hrd.pl ⟨g, 0, none⟩ 1 c [.int .i64 (p : Int)] rfl hnews (by simp; rfl) (by unfold maxLen; omega) (by omega) hrd.bel.size
  have hob := append_block ht hi hz0 hz1 hz2 rfl (by decide) hrd.pl ⟨g, 0, none⟩ 1 c [.int .i64 (p : Int)] rfl hnews (by simp; rfl) (by unfold maxLen; omega) (by omega) hr
  unfold Oper.wp execOp
  simp only [ho, resolve, invoke, builtin, Sem.run_bind, Sem.run_pure, Result.andThen_ok, List.map_toArray, List.map_cons, List.map_nil, hs, hx, hr]
  refine hK _ _ (h v' w' ?_ (Kept.grown h3) hob)
  rw [List.length_append, List.length_singleton, List.map_append]
  exact h2
theorem RD.place (h : RD w0 gr mf bv lv pv L f PL mo w) {p : Nat} {v' : Value} (ho : w'.ownsRow w0.heap.size 3 1 v' (PL ++ [p]).length ((PL ++ [p]).map vI8)) (hk : Kept (fun k => pv.ownBlock = some k) w w') (hob : v'.ownBlock = pv.ownBlock ∨ ∀ k, v'.ownBlock = some k → w.heap.size ≤ k) :
    RD w0 gr mf bv lv v' L f (PL ++ [p]) mo (w'.setCell ⟨gr, 2, none⟩ v') := by
  have hb1 : Blk w' gr 65 #[bv, lv, pv, .map (some mf)] := hk.blk h.blk (own_notblk h.pl h.blk (by decide))
  have hk2 : Kept (fun k => k = gr) w' (w'.setCell ⟨gr, 2, none⟩ v') := (Kept.refl _ w').setCell v' fun _ => rfl
  have hbel : Below w0.heap.size w0 w' := h.bel.trans (hk.below h.bel.size fun k _ e => (h.pl.lt k e).1)
  have hrow := hk.own h.row fun k e1 e2 => own_notown h.row h.pl (by decide) e1 e2
  have hmp : w'.heap[mf]? = some mo := (hk.block mf (Array.getElem?_eq_some_iff.1 h.mp).1 (own_notmap h.pl h.mp h.mok)).trans h.mp
  refine ⟨hbel.trans (hk2.below hbel.size fun k _ e => by rw [e]; exact h.grH), hb1.set 2, own_other hrow v' (own_notblk hrow hb1 (by decide)), fun j hj => ?_, h.fr, own_other ho v' (own_notblk ho hb1 (by decide)), ?_, h.mok, h.grH, h.mfH⟩
  · have b1 := (h.dat j hj).mono (Y := fun k => BX gr mf lv pv k ∨ BX gr mf lv v' k) good_byte (by omega) fun k hk hk2 => hk2.elim id fun h => by
      rcases h with h | h | h | h
      · exact .inl h
      · exact .inr (.inl h)
      · exact .inr (.inr (.inl h))
      · rcases hob with e | e
        · exact .inr (.inr (.inr (by rw [← e]; exact h)))
        · have := e k h; omega
    exact ((b1.keep good_byte (hk.mono fun k _ hk => .inl (.inr (.inr (.inr hk))))).keep good_byte (hk2.mono fun k _ e => .inl (.inl e))).mono good_byte (by omega) fun k _ hk => .inr hk
  · exact (hk2.block mf (Array.getElem?_eq_some_iff.1 hmp).1 fun e => blk_notmap hb1 hmp h.mok e.symm).trans hmp
end
/-- What came of a member: where the next one is, a code, and the reader. -/
def MemP (w0 : World) (gr mf : Nat) (bv lv pv : Value) (w : World) (Q : Int → Int → List En → List Nat → Obj → Prop) (r : Ending) (w' : World) : Prop :=
  ∃ k c lv' pv' f' L' PL' mo', r = .returned (.tuple #[.int .i64 k, .int .i64 c]) ∧ RD w0 gr mf bv lv' pv' L' f' PL' mo' w' ∧ Kept (BX gr mf lv pv) w w' ∧ Q k c L' PL' mo'
def memQ (QE : List Nat → List UInt8 → List UInt8 → Int → List En → Obj → Prop) (L : List En) (PL : List Nat) (mo : Obj) (p : Nat) (m : Mem) (k c : Int) (L' : List En) (PL' : List Nat) (mo' : Obj) : Prop :=
  match m with
  | .err e => k = 0 ∧ c = e ∧ L' = L ∧ PL' = PL ∧ mo' = mo
  | .fin => k = -1 ∧ c = 0 ∧ L' = L ∧ PL' = PL ∧ mo' = mo
  | .mem ns nm d nx => ∃ c1, QE ns nm d c1 L' mo' ∧ (if c1 = 0 then k = (nx : Int) ∧ c = 0 ∧ PL' = PL ++ [p] else k = 0 ∧ c = c1 ∧ PL' = PL)
set_option maxRecDepth 20000 in
set_option maxHeartbeats 16000000 in
theorem member_any (w0 : World) (gr mf : Nat) (bv lv pv : Value) (bb : List UInt8) (L : List En) (f : Nat → Value) (PL : List Nat) (mo : Obj) (w : World) (hrd : RD w0 gr mf bv lv pv L f PL mo w) (hb : Sl 1 Rbyte (fun k => w0.heap.size ≤ k) w0 bv bb) (hbl : bb.length ≤ 100000000) (hPL : PL.length ≤ 1000000)
    (p : Nat) (hp : p ≤ bb.length) (QE : List Nat → List UInt8 → List UInt8 → Int → List En → Obj → Prop)
    (hent : ∀ ns nm d nx, memS bb p = .mem ns nm d nx → ∀ W dv, RD w0 gr mf bv lv pv L f PL mo W → Sl 1 Rbyte (fun k => w0.heap.size ≤ k) w0 dv d → Calls Tryd.prog 53 #[.pointer (some ⟨gr, 0, none⟩), .agg (ns.map vI8).toArray, .string (bs nm), dv] W (EntP w0 gr mf bv lv pv PL W (QE ns nm d))) :
    Calls Tryd.prog 28 #[.pointer (some ⟨gr, 0, none⟩), .int .i64 p] w (MemP w0 gr mf bv lv pv w (memQ QE L PL mo p (memS bb p))) := by
  obtain ⟨Ab, capb, rfl, hb1, hb2⟩ := hb.form
  unfold maxLen at hb2
  have HM : Hid (memS bb p = if bb.length < p + 110 then .err 2 else if headOk (subB bb p 110) = false then .err 3 else memB1 bb (headN (subB bb p 110)) ((headN (subB bb p 110)).getD 6 0) ((headN (subB bb p 110)).getD 11 0) (p + 110)) := Lib.hid rfl
  obtain ⟨M, HMM⟩ : ∃ M, Hid (memS bb p = M) := ⟨_, Lib.hid rfl⟩
  rw [HMM.out] at HM hent ⊢
  have HE := Lib.hid hent
  clear hent
  have w1 : IntKind.i64.wrap ((bb.length : Int) - (p : Int)) = (bb.length : Int) - (p : Int) := i64_in _ (by omega) (by omega)
  have hu8 : (Tryd.prog.info? 5).map (·.size) = some 1 := by kernel_rfl
  have r0 : w.cell? ⟨gr, 0, none⟩ = some (.slice Ab bb.length capb) := by have := hrd.blk.cell 0; simpa using this
  go_enter Tryd.func28, Tryd.ntmps28
  by_cases h1 : bb.length < p + 110
  · have t1 : decide ((bb.length : Int) - (p : Int) < 110) = true := decide_eq_true (by omega)
    have HV := Lib.hid (HM.out.trans (if_pos h1))
    clear h1 HM HE
    go_wp2_with fail
    go_ret2
    exact ⟨_, _, _, _, _, _, _, _, rfl, hrd, Kept.refl _ _, by rw [HV.out]; exact ⟨rfl, rfl, rfl, rfl, rfl⟩⟩
  have t1 : decide ((bb.length : Int) - (p : Int) < 110) = false := decide_eq_false (by omega)
  have HM := Lib.hid (HM.out.trans (if_neg h1))
  obtain ⟨p1, HP1⟩ : ∃ x, Hid (x = p + 110) := ⟨_, Lib.hid rfl⟩
  have w2 : IntKind.i64.wrap ((p : Int) + 110) = (p1 : Int) := by rw [i64_in _ (by omega) (by omega), HP1.out]; omega
  obtain ⟨A1, cap1, hsc1, hsb1⟩ := Sl.sub8 (P := Tryd.prog) hb 26 5 Tryd.underlying26 hu8 p p1 (by rw [HP1.out]; omega) (by rw [HP1.out]; omega)
  have e110 : p1 - p = 110 := by rw [HP1.out]; omega
  rw [e110] at hsc1 hsb1
  have hst1 : ∀ W, Below w0.heap.size w0 W → (convert 26 9 (.slice A1 110 cap1)).run Tryd.prog W = .ok (.string (bs (subB bb p 110))) W := fun W h => str8 (hsb1.keep good_byte (Kept.low h)).sb8
  have hst1w := hst1 w hrd.bel
  have hhl : (subB bb p 110).length = 110 := subB_len bb p 110 (by omega)
  rw [show p + 110 = p1 from HP1.out.symm] at HM
  have hp1l : p1 ≤ bb.length := by rw [HP1.out]; omega
  clear h1 hst1 hsb1
  generalize subB bb p 110 = hs at HM hst1w hhl
  have hh := readHead_any hs w hhl
  by_cases hok : headOk hs = true
  rotate_left
  · have hok2 : headOk hs = false := by
      cases hq : headOk hs with
      | true => exact absurd hq hok
      | false => rfl
    have hh2 : Calls Tryd.prog 51 #[.string (bs hs)] w fun r w' => r = .returned (.tuple #[.agg #[.int .i64 0, .int .i64 0, .int .i64 0, .int .i64 0, .int .i64 0, .int .i64 0, .int .i64 0, .int .i64 0, .int .i64 0, .int .i64 0, .int .i64 0, .int .i64 0, .int .i64 0], .bool false]) ∧ Below w.heap.size w w' := hh.mono (by
      rintro r w' ⟨rfl, h⟩
      exact ⟨by rw [hok2]; rfl, h⟩)
    have HV := Lib.hid (HM.out.trans (if_pos hok2))
    clear hh hok hok2 HM HE
    go_wp2_with (go_at_call 51; refine hh2.mono ?_; rintro e W1 ⟨rfl, hbq⟩; have hfin := hrd.below (hbq.alloc hbq.size (.cells #[.int .i64 0, .int .i64 0, .int .i64 0, .int .i64 0, .int .i64 0, .int .i64 0, .int .i64 0, .int .i64 0, .int .i64 0, .int .i64 0, .int .i64 0, .int .i64 0, .int .i64 0] 57)); have hkf := Kept.of_below (hbq.alloc hbq.size (.cells #[.int .i64 0, .int .i64 0, .int .i64 0, .int .i64 0, .int .i64 0, .int .i64 0, .int .i64 0, .int .i64 0, .int .i64 0, .int .i64 0, .int .i64 0, .int .i64 0, .int .i64 0] 57)) (BX gr mf lv pv))
    go_ret2
    exact ⟨_, _, _, _, _, _, _, _, rfl, hfin, hkf, by rw [HV.out]; exact ⟨rfl, rfl, rfl, rfl, rfl⟩⟩
  have hH1 : ∀ x ∈ headN hs, x ≤ 4294967295 := by
    have : okT (hs.drop 6) 13 = true := by rw [headOk, Bool.and_eq_true] at hok; exact hok.2
    exact numT_le _ this
  have HM := Lib.hid (HM.out.trans (if_neg (by rw [hok]; simp)))
  obtain ⟨x0, x1, x2, x3, x4, x5, x6, x7, x8, x9, x10, x11, x12, hx⟩ := list13 (headN hs) (numT_len _)
  have hh2 : Calls Tryd.prog 51 #[.string (bs hs)] w fun r w' => r = .returned (.tuple #[.agg #[.int .i64 x0, .int .i64 x1, .int .i64 x2, .int .i64 x3, .int .i64 x4, .int .i64 x5, .int .i64 x6, .int .i64 x7, .int .i64 x8, .int .i64 x9, .int .i64 x10, .int .i64 x11, .int .i64 x12], .bool true]) ∧ Below w.heap.size w w' := hh.mono (by
    rintro r w' ⟨rfl, h⟩
    exact ⟨by rw [hok, if_pos rfl, hx]; rfl, h⟩)
  rw [hx] at HM hH1
  have l1 : x1 ≤ 4294967295 := hH1 x1 (by simp)
  have l6 : x6 ≤ 4294967295 := hH1 x6 (by simp)
  have l11 : x11 ≤ 4294967295 := hH1 x11 (by simp)
  have HM : Hid (M = memB1 bb [x0, x1, x2, x3, x4, x5, x6, x7, x8, x9, x10, x11, x12] x6 x11 p1) := HM
  clear hh hok hx hH1
  go_upto_region 4 with (go_at_call 51; refine hh2.mono ?_; rintro e W1 ⟨rfl, hbq⟩)
  have bN := Blk.new W1 57 #[.int .i64 x0, .int .i64 x1, .int .i64 x2, .int .i64 x3, .int .i64 x4, .int .i64 x5, .int .i64 x6, .int .i64 x7, .int .i64 x8, .int .i64 x9, .int .i64 x10, .int .i64 x11, .int .i64 x12]
  have hbq2 := hbq.alloc hbq.size (.cells #[.int .i64 x0, .int .i64 x1, .int .i64 x2, .int .i64 x3, .int .i64 x4, .int .i64 x5, .int .i64 x6, .int .i64 x7, .int .i64 x8, .int .i64 x9, .int .i64 x10, .int .i64 x11, .int .i64 x12] 57)
  have rd := hrd.below hbq2
  clear hrd hbq hh2 hst1w r0
  generalize W1.alloc (.cells #[.int .i64 x0, .int .i64 x1, .int .i64 x2, .int .i64 x3, .int .i64 x4, .int .i64 x5, .int .i64 x6, .int .i64 x7, .int .i64 x8, .int .i64 x9, .int .i64 x10, .int .i64 x11, .int .i64 x12] 57) = W2 at bN hbq2 rd ⊢
  generalize W1.heap.size = gN at bN ⊢
  have r0 : W2.cell? ⟨gr, 0, none⟩ = some (.slice Ab bb.length capb) := by have := rd.blk.cell 0; simpa using this
  obtain ⟨e0, e1, e2, e3, e4, e5, e6, e7, e8, e9, e10, e11, e12⟩ := bN.cells13
  have HM := Lib.hid (HM.out.trans rfl : M = if x11 < 1 ∨ 201 < x11 then .err 10 else if bb.length < p1 + (x11 + filN (110 + x11)) then .err 2 else if nmOk (subB bb p1 x11) = false then .err 10 else if (subB bb p1 x11).take (x11 - 1) = trailL then .fin else memB2 bb [x0, x1, x2, x3, x4, x5, x6, x7, x8, x9, x10, x11, x12] ((subB bb p1 x11).take (x11 - 1)) x6 (p1 + (x11 + filN (110 + x11))))
  by_cases hA : x11 < 1
  · have t2 : decide ((x11 : Int) < 1) = true := decide_eq_true (by omega)
    have HV := Lib.hid (HM.out.trans (if_pos (.inl hA)))
    clear HM HE hA
    go_wp2_with fail
    go_ret2
    exact ⟨_, _, _, _, _, _, _, _, rfl, rd, Kept.of_below hbq2 _, by rw [HV.out]; exact ⟨rfl, rfl, rfl, rfl, rfl⟩⟩
  have t2 : decide ((x11 : Int) < 1) = false := decide_eq_false (by omega)
  by_cases hB : 201 < x11
  · have t3 : decide ((201 : Int) < (x11 : Int)) = true := decide_eq_true (by omega)
    have t3b : decide (201 < x11) = true := decide_eq_true hB
    have HV := Lib.hid (HM.out.trans (if_pos (.inr hB)))
    clear HM HE hA hB
    go_wp2_with fail
    go_ret2
    exact ⟨_, _, _, _, _, _, _, _, rfl, rd, Kept.of_below hbq2 _, by rw [HV.out]; exact ⟨rfl, rfl, rfl, rfl, rfl⟩⟩
  have t3 : decide ((201 : Int) < (x11 : Int)) = false := decide_eq_false (by omega)
  have t3b : decide (201 < x11) = false := decide_eq_false hB
  have HM := Lib.hid (HM.out.trans (if_neg (fun h => h.elim hA hB)))
  obtain ⟨na, HNA⟩ : ∃ x, Hid (x = 110 + x11) := ⟨_, Lib.hid rfl⟩
  obtain ⟨fa, HFA⟩ : ∃ x, Hid (x = filN na) := ⟨_, Lib.hid rfl⟩
  have hfa : fa < 4 := by rw [HFA.out]; exact fil_lt na
  obtain ⟨wh, HWH⟩ : ∃ x, Hid (x = x11 + fa) := ⟨_, Lib.hid rfl⟩
  have w3 : IntKind.i64.wrap (110 + (x11 : Int)) = (na : Int) := by rw [i64_in _ (by omega) (by omega), HNA.out]; omega
  have w4 : IntKind.i64.wrap ((x11 : Int) + (fa : Int)) = (wh : Int) := by rw [i64_in _ (by omega) (by omega), HWH.out]; omega
  have hp1 : ∀ W, Calls Tryd.prog 48 #[.int .i64 (na : Int)] W fun e w' => e = .returned (.int .i64 (fa : Int)) ∧ W = w' := fun W => by
    have := pfill_any na W (by rw [HNA.out]; omega)
    rw [← HFA.out] at this
    exact this
  have hwh : wh ≤ 300 := by have := HWH.out; omega
  have w5 : IntKind.i64.wrap ((bb.length : Int) - (p1 : Int)) = (bb.length : Int) - (p1 : Int) := i64_in _ (by omega) (by omega)
  rw [show p1 + (x11 + filN (110 + x11)) = p1 + wh by rw [HWH.out, HFA.out, HNA.out]] at HM
  go_upto_region 9 with fail
  refine wp_region_plan (fun W => W.cell? ⟨gN, 11, none⟩ = some (.int .i64 x11)) [(false, 0), (false, 1), (false, 2), (false, 3), (false, 4), (false, 5), (false, 6), (false, 7)] (by kernel_rfl) (by kernel_rfl) (e11) ?_
  simp only [planOps, List.map, List.getD_cons_zero, List.getD_cons_succ]
  iterate 8 ((first | refine plan_quiet (v := ?_) rfl rfl (fun w' hw' => ?_) ?_ | refine plan_calm (v := ?_) (tt_of) rfl (fun w' hw' => ?_) ?_); rotate_left; (focus (go_simp <;> (first | with_reducible rfl | (rw [if_neg (by simp [undef])]; try rfl) | (refine (hp1 _).mono ?_; rintro e w2 ⟨rfl, rfl⟩; constructor <;> with_reducible rfl)))); simp only [Act.put, List.setIfInBounds_toArray, List.set_cons_zero, List.set_cons_succ])
  refine plan_end ?_
  have rd := rd.below ((Below.refl _ W2).drew)
  have bN : Blk W2.drew gN 57 #[.int .i64 x0, .int .i64 x1, .int .i64 x2, .int .i64 x3, .int .i64 x4, .int .i64 x5, .int .i64 x6, .int .i64 x7, .int .i64 x8, .int .i64 x9, .int .i64 x10, .int .i64 x11, .int .i64 x12] := bN
  have hbq2 := hbq2.drew
  clear r0 e0 e1 e2 e3 e4 e5 e6 e7 e8 e9 e10 e11 e12
  generalize W2.drew = W3 at rd bN hbq2 ⊢
  have r0 : W3.cell? ⟨gr, 0, none⟩ = some (.slice Ab bb.length capb) := by have := rd.blk.cell 0; simpa using this
  obtain ⟨e0, e1, e2, e3, e4, e5, e6, e7, e8, e9, e10, e11, e12⟩ := bN.cells13
  by_cases hC : bb.length < p1 + wh
  · have t4 : decide ((bb.length : Int) - (p1 : Int) < (wh : Int)) = true := decide_eq_true (by omega)
    have HV := Lib.hid (HM.out.trans (if_pos hC))
    clear HM HE hA hB hC
    go_wp2_with fail
    go_ret2
    exact ⟨_, _, _, _, _, _, _, _, rfl, rd, Kept.of_below hbq2 _, by rw [HV.out]; exact ⟨rfl, rfl, rfl, rfl, rfl⟩⟩
  have t4 : decide ((bb.length : Int) - (p1 : Int) < (wh : Int)) = false := decide_eq_false (by omega)
  have HM := Lib.hid (HM.out.trans (if_neg hC))
  obtain ⟨p2, HP2⟩ : ∃ x, Hid (x = p1 + x11) := ⟨_, Lib.hid rfl⟩
  have w6 : IntKind.i64.wrap ((p1 : Int) + (x11 : Int)) = (p2 : Int) := by rw [i64_in _ (by omega) (by omega), HP2.out]; omega
  obtain ⟨A2, cap2, hsc2, hsb2⟩ := Sl.sub8 (P := Tryd.prog) hb 26 5 Tryd.underlying26 hu8 p1 p2 (by rw [HP2.out]; omega) (by rw [HP2.out]; have := HWH.out; omega)
  have e12b : p2 - p1 = x11 := by rw [HP2.out]; omega
  rw [e12b] at hsc2 hsb2
  have hst2 : (convert 26 9 (.slice A2 x11 cap2)).run Tryd.prog W3.drew = .ok (.string (bs (subB bb p1 x11))) W3.drew := str8 (hsb2.keep good_byte (Kept.low (rd.bel.drew))).sb8
  have hnl : (subB bb p1 x11).length = x11 := subB_len bb p1 x11 (by have := HWH.out; omega)
  clear hsb2 e12b
  generalize subB bb p1 x11 = nm0 at HM hst2 hnl
  have HNO : Hid (nmOk nm0 = (Lib.hasSuffix nm0 [0] && decide (Lib.indexByte (nm0.take (x11 - 1)) 0 < 0))) := Lib.hid (by rw [nmOk, hnl])
  have hcs : ∀ W, Calls Tryd.prog 52 #[.string (bs nm0), .string ⟨#[0]⟩] W fun e w' => e = .returned (.tuple #[.string (bs (if Lib.hasSuffix nm0 [0] = true then nm0.take (x11 - 1) else nm0)), .bool (Lib.hasSuffix nm0 [0])]) ∧ W = w' := fun W => by
    refine (Tryd.strings_CutSuffix (bs nm0) ⟨#[0]⟩ W (by rw [bs_size, hnl]; omega)).mono fun e w' h => ⟨?_, h.2.symm⟩
    rw [h.1]
    show Ending.returned (.tuple #[.string ⟨(Lib.trimSuffix nm0 [0]).toArray⟩, .bool (Lib.hasSuffix nm0 [0])]) = _
    unfold Lib.trimSuffix
    rw [hnl]
    split <;> rfl
  cases hsf : Lib.hasSuffix nm0 [0] with
  | false =>
    have HV := Lib.hid (HM.out.trans (if_pos (by rw [HNO.out, hsf]; rfl)))
    rw [hsf, if_neg (by simp)] at hcs
    clear HM HE hA hB hC HNO hsf
    go_upto_region 12 with fail
    refine wp_region_plan (fun W => W.cell? ⟨gN, 11, none⟩ = some (.int .i64 x11) ∧ W.cell? ⟨gr, 0, none⟩ = some (.slice Ab bb.length capb) ∧ (convert 26 9 (.slice A2 x11 cap2)).run Tryd.prog W = .ok (.string (bs nm0)) W) [(false, 0), (false, 1), (false, 2), (false, 3), (false, 4), (false, 5), (false, 6), (false, 7), (false, 8), (false, 9), (false, 10), (false, 11), (false, 12), (false, 13), (false, 14), (false, 15), (false, 16)] (by kernel_rfl) (by kernel_rfl) (⟨e11, r0, hst2⟩) ?_
    simp only [planOps, List.map, List.getD_cons_zero, List.getD_cons_succ]
    iterate 17 ((first | refine plan_quiet (v := ?_) rfl rfl (fun w' hw' => ?_) ?_ | refine plan_calm (v := ?_) (tt_of) rfl (fun w' hw' => ?_) ?_); rotate_left; (focus (go_simp <;> (first | with_reducible rfl | (rw [if_neg (by simp [undef])]; try rfl) | (refine (hcs _).mono ?_; rintro e w2 ⟨rfl, rfl⟩; constructor <;> with_reducible rfl)))); simp only [Act.put, List.setIfInBounds_toArray, List.set_cons_zero, List.set_cons_succ])
    refine plan_end ?_
    have rd := rd.below ((Below.refl _ W3).drew)
    have hbq2 := hbq2.drew
    go_wp2_with fail
    go_ret2
    exact ⟨_, _, _, _, _, _, _, _, rfl, rd, Kept.of_below hbq2 _, by rw [HV.out]; exact ⟨rfl, rfl, rfl, rfl, rfl⟩⟩
  | true =>
    rw [hsf, if_pos rfl] at hcs
    have hnl1 : (nm0.take (x11 - 1)).length = x11 - 1 := by rw [List.length_take, hnl]; omega
    obtain ⟨nm, Hnm⟩ : ∃ nm, Hid (nm0.take (x11 - 1) = nm) := ⟨_, Lib.hid rfl⟩
    rw [Hnm.out] at hcs HM hnl1
    have HNO2 : Hid (nmOk nm0 = decide (Lib.indexByte nm 0 < 0)) := Lib.hid (by rw [HNO.out, hsf, Hnm.out]; rfl)
    have hcc : ∀ W, Calls Tryd.prog 39 #[.string (bs nm), .string ⟨#[0]⟩] W fun e w' => e = .returned (.bool (decide (0 ≤ Lib.indexByte nm 0))) ∧ W = w' := fun W =>
      (Tryd.strings_Contains_one (bs nm) 0 W).mono fun e w' h => ⟨h.1, h.2.symm⟩
    clear HNO hsf Hnm
    go_upto_region 12 with fail
    refine wp_region_plan (fun W => W.cell? ⟨gN, 11, none⟩ = some (.int .i64 x11) ∧ W.cell? ⟨gr, 0, none⟩ = some (.slice Ab bb.length capb) ∧ (convert 26 9 (.slice A2 x11 cap2)).run Tryd.prog W = .ok (.string (bs nm0)) W) [(false, 0), (false, 1), (false, 2), (false, 3), (false, 4), (false, 5), (false, 6), (false, 7), (false, 8), (false, 9), (false, 10), (false, 11), (false, 12), (false, 13), (false, 14), (false, 15), (false, 16)] (by kernel_rfl) (by kernel_rfl) (⟨e11, r0, hst2⟩) ?_
    simp only [planOps, List.map, List.getD_cons_zero, List.getD_cons_succ]
    iterate 17 ((first | refine plan_quiet (v := ?_) rfl rfl (fun w' hw' => ?_) ?_ | refine plan_calm (v := ?_) (tt_of) rfl (fun w' hw' => ?_) ?_); rotate_left; (focus (go_simp <;> (first | with_reducible rfl | (rw [if_neg (by simp [undef])]; try rfl) | (refine (hcs _).mono ?_; rintro e w2 ⟨rfl, rfl⟩; constructor <;> with_reducible rfl)))); simp only [Act.put, List.setIfInBounds_toArray, List.set_cons_zero, List.set_cons_succ])
    refine plan_end ?_
    clear hst2
    have rd := rd.below ((Below.refl _ W3).drew)
    have bN : Blk W3.drew gN 57 #[.int .i64 x0, .int .i64 x1, .int .i64 x2, .int .i64 x3, .int .i64 x4, .int .i64 x5, .int .i64 x6, .int .i64 x7, .int .i64 x8, .int .i64 x9, .int .i64 x10, .int .i64 x11, .int .i64 x12] := bN
    have hbq2 := hbq2.drew
    clear r0 e0 e1 e2 e3 e4 e5 e6 e7 e8 e9 e10 e11 e12
    generalize W3.drew = W4 at rd bN hbq2 ⊢
    have r0 : W4.cell? ⟨gr, 0, none⟩ = some (.slice Ab bb.length capb) := by have := rd.blk.cell 0; simpa using this
    obtain ⟨e0, e1, e2, e3, e4, e5, e6, e7, e8, e9, e10, e11, e12⟩ := bN.cells13
    by_cases hD : 0 ≤ Lib.indexByte nm 0
    · have t5 : decide (0 ≤ Lib.indexByte nm 0) = true := decide_eq_true hD
      have HV := Lib.hid (HM.out.trans (if_pos (by rw [HNO2.out]; exact decide_eq_false (by omega))))
      rw [t5] at hcc
      clear HM HE hA hB hC hD HNO2 t5
      go_wp2_with (go_at_call 39; refine (hcc _).mono ?_; rintro e W5 ⟨rfl, rfl⟩)
      go_ret2
      exact ⟨_, _, _, _, _, _, _, _, rfl, rd, Kept.of_below hbq2 _, by rw [HV.out]; exact ⟨rfl, rfl, rfl, rfl, rfl⟩⟩
    have t5 : decide (0 ≤ Lib.indexByte nm 0) = false := decide_eq_false hD
    have HM := Lib.hid (HM.out.trans (if_neg (by rw [HNO2.out, decide_eq_true (show Lib.indexByte nm 0 < 0 by omega)]; simp)))
    rw [t5] at hcc
    have hqt := beq_trail nm
    clear t5 hD HNO2
    by_cases hT : nm = trailL
    · rw [decide_eq_true hT] at hqt
      have HV := Lib.hid (HM.out.trans (if_pos hT))
      clear HM HE hA hB hC hT
      go_wp2_with (go_at_call 39; refine (hcc _).mono ?_; rintro e W5 ⟨rfl, rfl⟩)
      go_ret2
      exact ⟨_, _, _, _, _, _, _, _, rfl, rd, Kept.of_below hbq2 _, by rw [HV.out]; exact ⟨rfl, rfl, rfl, rfl, rfl⟩⟩
    rw [decide_eq_false hT] at hqt
    have HM := Lib.hid (HM.out.trans (if_neg hT))
    clear hT
    obtain ⟨q1, HQ1⟩ : ∃ x, Hid (x = p1 + wh) := ⟨_, Lib.hid rfl⟩
    obtain ⟨fb, HFB⟩ : ∃ x, Hid (x = filN x6) := ⟨_, Lib.hid rfl⟩
    have hfb : fb < 4 := by rw [HFB.out]; exact fil_lt x6
    obtain ⟨s6, HS6⟩ : ∃ x, Hid (x = x6 + fb) := ⟨_, Lib.hid rfl⟩
    have hp2 : ∀ W, Calls Tryd.prog 48 #[.int .i64 (x6 : Int)] W fun e w' => e = .returned (.int .i64 (fb : Int)) ∧ W = w' := fun W => by
      have := pfill_any x6 W (by omega)
      rw [← HFB.out] at this
      exact this
    have w7 : IntKind.i64.wrap ((p1 : Int) + (wh : Int)) = (q1 : Int) := by rw [i64_in _ (by omega) (by omega), HQ1.out]; omega
    have w8 : IntKind.i64.wrap ((x6 : Int) + (fb : Int)) = (s6 : Int) := by rw [i64_in _ (by omega) (by omega), HS6.out]; omega
    have hq1 : q1 ≤ bb.length := by rw [HQ1.out]; omega
    have w9 : IntKind.i64.wrap ((bb.length : Int) - (q1 : Int)) = (bb.length : Int) - (q1 : Int) := i64_in _ (by omega) (by omega)
    have HM : Hid (M = if bb.length < q1 + s6 then .err 2 else if 1048576 < x6 then .err 4 else .mem [x0, x1, x2, x3, x4, x5, x6, x7, x8, x9, x10, x11, x12] nm (subB bb q1 x6) (q1 + s6)) := Lib.hid (by rw [HM.out, memB2, ← HQ1.out, ← HFB.out, ← HS6.out])
    go_upto_region 18 with (go_at_call 39; refine (hcc _).mono ?_; rintro e W5 ⟨rfl, rfl⟩)
    by_cases hF : bb.length < q1 + s6
    · have t6 : decide ((bb.length : Int) - (q1 : Int) < (s6 : Int)) = true := decide_eq_true (by omega)
      have HV := Lib.hid (HM.out.trans (if_pos hF))
      clear HM HE hA hB hC hF
      refine wp_region_plan (fun W => W.cell? ⟨gN, 6, none⟩ = some (.int .i64 x6) ∧ W.cell? ⟨gr, 0, none⟩ = some (.slice Ab bb.length capb)) [(false, 0), (false, 1), (false, 2), (false, 3), (false, 4), (false, 5), (false, 6), (false, 7), (false, 8), (false, 9), (false, 10), (false, 11), (false, 12), (false, 13)] (by kernel_rfl) (by kernel_rfl) (⟨e6, r0⟩) ?_
      simp only [planOps, List.map, List.getD_cons_zero, List.getD_cons_succ]
      iterate 14 ((first | refine plan_quiet (v := ?_) rfl rfl (fun w' hw' => ?_) ?_ | refine plan_calm (v := ?_) (tt_of) rfl (fun w' hw' => ?_) ?_); rotate_left; (focus (go_simp <;> (first | with_reducible rfl | (rw [if_neg (by simp [undef])]; try rfl) | (refine (hp2 _).mono ?_; rintro e w2 ⟨rfl, rfl⟩; constructor <;> with_reducible rfl)))); simp only [Act.put, List.setIfInBounds_toArray, List.set_cons_zero, List.set_cons_succ])
      refine plan_end ?_
      have rd := rd.below ((Below.refl _ W4).drew)
      have hbq2 := hbq2.drew
      go_wp2_with fail
      go_ret2
      exact ⟨_, _, _, _, _, _, _, _, rfl, rd, Kept.of_below hbq2 _, by rw [HV.out]; exact ⟨rfl, rfl, rfl, rfl, rfl⟩⟩
    have t6 : decide ((bb.length : Int) - (q1 : Int) < (s6 : Int)) = false := decide_eq_false (by omega)
    have HM := Lib.hid (HM.out.trans (if_neg hF))
    refine wp_region_plan (fun W => W.cell? ⟨gN, 6, none⟩ = some (.int .i64 x6) ∧ W.cell? ⟨gr, 0, none⟩ = some (.slice Ab bb.length capb)) [(false, 0), (false, 1), (false, 2), (false, 3), (false, 4), (false, 5), (false, 6), (false, 7), (false, 8), (false, 9), (false, 10), (false, 11), (false, 12), (false, 13)] (by kernel_rfl) (by kernel_rfl) (⟨e6, r0⟩) ?_
    simp only [planOps, List.map, List.getD_cons_zero, List.getD_cons_succ]
    iterate 14 ((first | refine plan_quiet (v := ?_) rfl rfl (fun w' hw' => ?_) ?_ | refine plan_calm (v := ?_) (tt_of) rfl (fun w' hw' => ?_) ?_); rotate_left; (focus (go_simp <;> (first | with_reducible rfl | (rw [if_neg (by simp [undef])]; try rfl) | (refine (hp2 _).mono ?_; rintro e w2 ⟨rfl, rfl⟩; constructor <;> with_reducible rfl)))); simp only [Act.put, List.setIfInBounds_toArray, List.set_cons_zero, List.set_cons_succ])
    refine plan_end ?_
    have rd := rd.below ((Below.refl _ W4).drew)
    have bN : Blk W4.drew gN 57 #[.int .i64 x0, .int .i64 x1, .int .i64 x2, .int .i64 x3, .int .i64 x4, .int .i64 x5, .int .i64 x6, .int .i64 x7, .int .i64 x8, .int .i64 x9, .int .i64 x10, .int .i64 x11, .int .i64 x12] := bN
    have hbq2 := hbq2.drew
    clear r0 e0 e1 e2 e3 e4 e5 e6 e7 e8 e9 e10 e11 e12
    generalize W4.drew = W6 at rd bN hbq2 ⊢
    have r0 : W6.cell? ⟨gr, 0, none⟩ = some (.slice Ab bb.length capb) := by have := rd.blk.cell 0; simpa using this
    obtain ⟨e0, e1, e2, e3, e4, e5, e6, e7, e8, e9, e10, e11, e12⟩ := bN.cells13
    by_cases hG : 1048576 < x6
    · have t7 : decide ((1048576 : Int) < (x6 : Int)) = true := decide_eq_true (by omega)
      have t7b : decide (1048576 < x6) = true := decide_eq_true hG
      have HV := Lib.hid (HM.out.trans (if_pos hG))
      clear HM HE hA hB hC hF hG
      go_wp2_with fail
      go_ret2
      exact ⟨_, _, _, _, _, _, _, _, rfl, rd, Kept.of_below hbq2 _, by rw [HV.out]; exact ⟨rfl, rfl, rfl, rfl, rfl⟩⟩
    have t7 : decide ((1048576 : Int) < (x6 : Int)) = false := decide_eq_false (by omega)
    have t7b : decide (1048576 < x6) = false := decide_eq_false hG
    have HM := Lib.hid (HM.out.trans (if_neg hG))
    obtain ⟨q2, HQ2⟩ : ∃ x, Hid (x = q1 + x6) := ⟨_, Lib.hid rfl⟩
    have w10 : IntKind.i64.wrap ((q1 : Int) + (x6 : Int)) = (q2 : Int) := by rw [i64_in _ (by omega) (by omega), HQ2.out]; omega
    obtain ⟨A3, cap3, hsc3, hsb3⟩ := Sl.sub8 (P := Tryd.prog) hb 26 5 Tryd.underlying26 hu8 q1 q2 (by rw [HQ2.out]; omega) (by rw [HQ2.out]; have := HS6.out; omega)
    have e13 : q2 - q1 = x6 := by rw [HQ2.out]; omega
    rw [e13] at hsc3 hsb3
    have hE := fun W rd' => HE.out [x0, x1, x2, x3, x4, x5, x6, x7, x8, x9, x10, x11, x12] nm (subB bb q1 x6) (q1 + s6) HM.out W (.slice A3 x6 cap3) rd' hsb3
    clear hsb3 e13 HE
    go_upto_region 22 with fail
    have rdd := rd.below ((Below.refl _ W6).drew)
    have hEd := hE W6.drew rdd
    have hrl : w0.heap.size ≤ W6.heap.size := rd.bel.size
    have hgNX : ¬ BX gr mf lv pv gN := fun h => by
      rcases h with h | h | h | h
      · exact Blk.apartT bN rd.blk (by decide) h
      · exact blk_notmap bN rd.mp rd.mok h
      · exact own_notblk rd.row bN (by decide) h
      · exact own_notblk rd.pl bN (by decide) h
    refine wp_region_plan (fun W => W.cell? ⟨gr, 0, none⟩ = some (.slice Ab bb.length capb) ∧ W.cell? ⟨gN, 0, none⟩ = some (.int .i64 x0) ∧ W.cell? ⟨gN, 1, none⟩ = some (.int .i64 x1) ∧ W.cell? ⟨gN, 2, none⟩ = some (.int .i64 x2) ∧ W.cell? ⟨gN, 3, none⟩ = some (.int .i64 x3) ∧ W.cell? ⟨gN, 4, none⟩ = some (.int .i64 x4) ∧ W.cell? ⟨gN, 5, none⟩ = some (.int .i64 x5) ∧ W.cell? ⟨gN, 6, none⟩ = some (.int .i64 x6) ∧ W.cell? ⟨gN, 7, none⟩ = some (.int .i64 x7) ∧ W.cell? ⟨gN, 8, none⟩ = some (.int .i64 x8) ∧ W.cell? ⟨gN, 9, none⟩ = some (.int .i64 x9) ∧ W.cell? ⟨gN, 10, none⟩ = some (.int .i64 x10) ∧ W.cell? ⟨gN, 11, none⟩ = some (.int .i64 x11) ∧ W.cell? ⟨gN, 12, none⟩ = some (.int .i64 x12)) [(false, 0), (false, 1), (false, 2), (false, 3), (false, 4), (false, 5), (false, 6), (false, 7), (false, 8), (false, 9), (false, 10), (false, 11), (false, 12), (true, 13), (false, 14)] (by kernel_rfl) (by kernel_rfl) (⟨r0, e0, e1, e2, e3, e4, e5, e6, e7, e8, e9, e10, e11, e12⟩) ?_
    simp only [planOps, List.map, List.getD_cons_zero, List.getD_cons_succ]
    iterate 13 ((first | refine plan_quiet (v := ?_) rfl rfl (fun w' hw' => ?_) ?_ | refine plan_calm (v := ?_) (tt_of) rfl (fun w' hw' => ?_) ?_); rotate_left; (focus (go_simp <;> (first | with_reducible rfl | (rw [if_neg (by simp [undef])]; try rfl)))); simp only [Act.put, List.setIfInBounds_toArray, List.set_cons_zero, List.set_cons_succ])
    refine plan_loud rfl (fun K hK => ?_)
    go_simp
    refine hEd.mono ?_
    rintro r W7 ⟨c1, lv', f', L', mo', rfl, rd7, hk7, hq7⟩
    go_simp
    have bN7 : Blk W7 gN 57 #[.int .i64 x0, .int .i64 x1, .int .i64 x2, .int .i64 x3, .int .i64 x4, .int .i64 x5, .int .i64 x6, .int .i64 x7, .int .i64 x8, .int .i64 x9, .int .i64 x10, .int .i64 x11, .int .i64 x12] := hk7.blk (show Blk W6.drew gN 57 #[.int .i64 x0, .int .i64 x1, .int .i64 x2, .int .i64 x3, .int .i64 x4, .int .i64 x5, .int .i64 x6, .int .i64 x7, .int .i64 x8, .int .i64 x9, .int .i64 x10, .int .i64 x11, .int .i64 x12] from bN) hgNX
    have r7 : W7.cell? ⟨gr, 0, none⟩ = some (.slice Ab bb.length capb) := by have := rd7.blk.cell 0; simpa using this
    clear e0 e1 e2 e3 e4 e5 e6 e7 e8 e9 e10 e11 e12 r0
    obtain ⟨e0, e1, e2, e3, e4, e5, e6, e7, e8, e9, e10, e11, e12⟩ := bN7.cells13
    refine hK _ _ (⟨r7, e0, e1, e2, e3, e4, e5, e6, e7, e8, e9, e10, e11, e12⟩) ?_
    clear hK K
    (try simp only [Act.put, List.setIfInBounds_toArray, List.set_cons_zero, List.set_cons_succ])
    iterate 1 ((first | refine plan_quiet (v := ?_) rfl rfl (fun w' hw' => ?_) ?_ | refine plan_calm (v := ?_) (tt_of) rfl (fun w' hw' => ?_) ?_); rotate_left; (focus (go_simp <;> (first | with_reducible rfl | (rw [if_neg (by simp [undef])]; try rfl)))); simp only [Act.put, List.setIfInBounds_toArray, List.set_cons_zero, List.set_cons_succ])
    refine plan_end ?_
    have hkk7 : Kept (BX gr mf lv pv) w W7 := (Kept.of_below hbq2.drew _).trans hk7
    clear hEd hE rdd rd bN hk7 hgNX hbq2
    by_cases hc1 : c1 = 0
    rotate_left
    · have hcb : (c1 != 0) = true := by simpa using hc1
      have HC1 := Lib.hid hc1
      clear hc1
      go_wp2_with fail
      go_ret2
      exact ⟨_, _, _, _, _, _, _, _, rfl, rd7, hkk7, by rw [HM.out]; exact ⟨c1, hq7, by rw [if_neg HC1.out]; exact ⟨rfl, rfl, rfl⟩⟩⟩
    subst hc1
    obtain ⟨nx, HNX⟩ : ∃ x, Hid (x = q1 + s6) := ⟨_, Lib.hid rfl⟩
    have w11 : IntKind.i64.wrap ((q2 : Int) + (fb : Int)) = (nx : Int) := by have := HNX.out; have := HS6.out; have := HQ2.out; rw [i64_in _ (by omega) (by omega)]; omega
    have r72 : W7.cell? ⟨gr, 2, none⟩ = some pv := by have := rd7.blk.cell 2; simpa using this
    obtain ⟨Ap, capp, hpv⟩ := own_form rd7.pl
    subst hpv
    have hbA : Below W7.heap.size W7 (W7.alloc (.cells #[.int .i64 p] 3)) := (Below.refl _ W7).alloc (Nat.le_refl _) _
    have rd8 := rd7.below hbA
    have bP := Blk.new W7 3 #[.int .i64 p]
    have bN8 := bN7.below hbA bN7.lt
    have hkk8 : Kept (BX gr mf lv (.slice Ap PL.length capp)) w (W7.alloc (.cells #[.int .i64 p] 3)) := hkk7.trans (Kept.of_below hbA _)
    have hgrN : gN ≠ gr := fun e => Blk.apartT bN7 rd7.blk (by decide) e
    clear hbA rd7 bN7
    go_upto_region 26 with (at_builtin; refine wpList_place rfl _ _ rfl rfl rd8 p _ 1 rfl bP (by omega) ?_; intro v' W8 ho8 hk8 hob8; obtain ⟨A', c', rfl⟩ := own_form ho8; have b8 := hk8.blk rd8.blk (own_notblk rd8.pl rd8.blk (by decide)); have g2 : W8.cell? ⟨gr, 2, none⟩ = some (.slice Ap PL.length capp) := (by have := b8.cell 2; simpa using this); have fr2 := b8.frozen 2)
    have rd9 := rd8.place ho8 hk8 hob8
    rw [show (PL ++ [p]).length = PL.length + 1 by simp] at rd9
    have hkk9 : Kept (BX gr mf lv (.slice Ap PL.length capp)) w (W8.setCell ⟨gr, 2, none⟩ (.slice A' (PL.length + 1) c')) := (hkk8.trans (hk8.mono fun k _ h => .inr (.inr (.inr h)))).setCell _ fun _ => .inl rfl
    have bN9 := (hk8.blk bN8 (own_notblk rd8.pl bN8 (by decide))).other (a := ⟨gr, 2, none⟩) (.slice A' (PL.length + 1) c') hgrN
    clear hkk7 hkk8 rd8 bP bN8 ho8 hk8 hob8 b8 g2 fr2 r72 e0 e1 e2 e3 e4 e5 e6 e7 e8 e9 e10 e11 e12 r7
    generalize W8.setCell ⟨gr, 2, none⟩ (.slice A' (PL.length + 1) c') = W9 at rd9 bN9 hkk9 ⊢
    have e6 := bN9.cells13.2.2.2.2.2.2.1
    refine wp_region_plan (fun W => W.cell? ⟨gN, 6, none⟩ = some (.int .i64 x6)) [(false, 0), (false, 1), (false, 2), (false, 3), (false, 4), (false, 5), (false, 6), (false, 7), (false, 8), (false, 9)] (by kernel_rfl) (by kernel_rfl) (e6) ?_
    simp only [planOps, List.map, List.getD_cons_zero, List.getD_cons_succ]
    iterate 10 ((first | refine plan_quiet (v := ?_) rfl rfl (fun w' hw' => ?_) ?_ | refine plan_calm (v := ?_) (tt_of) rfl (fun w' hw' => ?_) ?_); rotate_left; (focus (go_simp <;> (first | with_reducible rfl | (rw [if_neg (by simp [undef])]; try rfl) | (refine (hp2 _).mono ?_; rintro e w2 ⟨rfl, rfl⟩; constructor <;> with_reducible rfl)))); simp only [Act.put, List.setIfInBounds_toArray, List.set_cons_zero, List.set_cons_succ])
    refine plan_end ?_
    have rdf := rd9.below ((Below.refl _ W9).drew)
    go_wp2_with fail
    go_ret2
    exact ⟨_, _, _, _, _, _, _, _, rfl, rdf, hkk9.drew, by rw [HM.out]; exact ⟨0, hq7, by rw [if_pos rfl]; exact ⟨by rw [HNX.out], rfl, rfl⟩⟩⟩
end Go.Proofs.YtolknddegfcmpaaDoor
