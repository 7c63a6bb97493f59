/- What cpio's reader has in memory. The walk of cpio's entry, but for what is grouped. Printed by gen_cpo.py. -/
import Derived.Test.YtolknddegfcmpaaDoorCpL
import Derived.Test.YtolknddegfcmpaaDoorCpBE
import Derived.Test.YtolknddegfcmpaaDoorEnMN
import Derived.Test.YtolknddegfcmpaaDoorFre
namespace Go.Proofs.YtolknddegfcmpaaDoor
open Go.RowKit
def BX (gr mf : Nat) (lv pv : Value) : Nat → Prop := fun k => k = gr ∨ k = mf ∨ lv.ownBlock = some k ∨ pv.ownBlock = some k
/-- A reader: the bytes bv, the entries L, the places PL, the map mo. -/
structure RD (w0 : World) (gr mf : Nat) (bv lv pv : Value) (L : List En) (f : Nat → Value) (PL : List Nat) (mo : Obj) (w : World) : Prop where
  bel : Below w0.heap.size w0 w
  blk : Blk w gr 65 #[bv, lv, pv, .map (some mf)]
  row : w.ownsRow w0.heap.size tE 10 lv L.length (ofC L f)
  dat : ∀ j (h : j < L.length), Sl 1 Rbyte (BX gr mf lv pv) w (f j) L[j].data
  fr : ∀ j, j < L.length → ∀ bb, (f j).ownBlock = some bb → w0.heap.size ≤ bb
  pl : w.ownsRow w0.heap.size 3 1 pv PL.length (PL.map vI8)
  mp : w.heap[mf]? = some mo
  mok : ∃ es c, mo = .map es c
  grH : w0.heap.size ≤ gr
  mfH : w0.heap.size ≤ mf
variable {w0 w w' : World} {gr mf : Nat} {bv lv pv : Value} {L : List En} {f : Nat → Value} {PL : List Nat} {mo : Obj}
theorem own_notmap {base : Nat} {e : TypeId} {size : Nat} {v : Value} {n : Nat} {xs : List Value} (h : w.ownsRow base e size v n xs) {b : Nat} (hb : w.heap[b]? = some mo) (hm : ∃ es c, mo = .map es c) : v.ownBlock ≠ some b := fun e1 => by
  obtain ⟨cs, hc⟩ := own_typed h e1
  obtain ⟨es, c, rfl⟩ := hm
  rw [Blk, hb] at hc
  injection hc with hc
  cases hc
theorem blk_notmap {t : TypeId} {g : Nat} {cs : Array Value} (h : Blk w g t cs) {b : Nat} (hb : w.heap[b]? = some mo) (hm : ∃ es c, mo = .map es c) : g ≠ b := fun e1 => by
  obtain ⟨es, c, rfl⟩ := hm
  subst e1
  rw [Blk, hb] at h
  injection h with h
  cases h
theorem own_notblk {base : Nat} {e t : TypeId} {size : Nat} {v : Value} {n : Nat} {xs : List Value} (h : w.ownsRow base e size v n xs) {b : Nat} {cs : Array Value} (hb : Blk w b t cs) (hne : e ≠ t) : v.ownBlock ≠ some b := fun e1 => by
  obtain ⟨c, hc⟩ := own_typed h e1
  exact Blk.apartT hc hb hne rfl
theorem own_notown {base base' : Nat} {e t : TypeId} {size size' : Nat} {v v' : Value} {n n' : Nat} {xs xs' : List Value} (h : w.ownsRow base e size v n xs) (h' : w.ownsRow base' t size' v' n' xs') (hne : e ≠ t) {b : Nat} (hb : v.ownBlock = some b) : v'.ownBlock ≠ some b := fun e1 => by
  obtain ⟨c, hc⟩ := own_typed h' e1
  exact own_notblk h hc hne hb
theorem RD.eo (h : RD w0 gr mf bv lv pv L f PL mo w) : EO w0.heap.size w lv L f :=
  ⟨h.row, fun j hj => (h.dat j hj).mono good_byte (by omega) fun k _ e => .inr (.inr (.inl e))⟩
theorem RD.below (h : RD w0 gr mf bv lv pv L f PL mo w) (hb : Below w.heap.size w w') : RD w0 gr mf bv lv pv L f PL mo w' :=
  ⟨h.bel.trans (hb.mono h.bel.size), h.blk.below hb h.blk.lt, own_below h.row hb, fun j hj => Below.sl good_byte hb (h.dat j hj), h.fr, own_below h.pl hb, (hb.block mf (Array.getElem?_eq_some_iff.1 h.mp).1).trans h.mp, h.mok, h.grH, h.mfH⟩
/-- What is written in a block of no part of the reader. -/
theorem RD.poke (h : RD w0 gr mf bv lv pv L f PL mo w) {g : Nat} {t : TypeId} {cs : Array Value} (hg : Blk w g t cs) (hH : w0.heap.size ≤ g) (h1 : t ≠ 65) (h2 : tE ≠ t ∨ lv.ownBlock ≠ some g) (h3 : 3 ≠ t) (hd : ∀ j, j < L.length → Sl 1 Rbyte (fun k => BX gr mf lv pv k ∨ k = g) w (f j) (L[j]?.map En.data |>.getD [])) (i : Nat) (u : Value) : RD w0 gr mf bv lv pv L f PL mo (w.setCell ⟨g, i, none⟩ u) := by
  have hk : Kept (fun k => k = g) w (w.setCell ⟨g, i, none⟩ u) := (Kept.refl _ w).setCell u fun _ => rfl
  have hlv : lv.ownBlock ≠ some g := h2.elim (fun e => own_notblk h.row hg e) id
  refine ⟨h.bel.trans (hk.below h.bel.size fun k _ e => by rw [e]; exact hH), hk.blk h.blk fun e => Blk.apartT h.blk hg (fun c => h1 c.symm) e, own_other h.row u hlv, fun j hj => ?_, h.fr, own_other h.pl u (own_notblk h.pl hg h3), ?_, h.mok, h.grH, h.mfH⟩
  · have := hd j hj
    rw [List.getElem?_eq_getElem hj] at this
    exact (this.keep good_byte (hk.mono fun k _ e => .inr e)).mono good_byte (by omega) fun k _ e => .inl e
  · exact (hk.block mf (Array.getElem?_eq_some_iff.1 h.mp).1 fun e => blk_notmap hg h.mp h.mok e.symm).trans h.mp
/-- An entry was appended, and the slice stored. -/
theorem RD.app (h : RD w0 gr mf bv lv pv L f PL mo w) {e : En} {dv v' : Value} (he : EO w0.heap.size w' v' (L ++ [e]) (appF f L.length fun _ => dv)) (hk : Kept (fun k => lv.ownBlock = some k) w w') (hob : v'.ownBlock = lv.ownBlock ∨ ∀ k, v'.ownBlock = some k → w.heap.size ≤ k)
    (hd : Sl 1 Rbyte (BX gr mf lv pv) w dv e.data) (hdn : ∀ bb, dv.ownBlock = some bb → w0.heap.size ≤ bb) : RD w0 gr mf bv v' pv (L ++ [e]) (appF f L.length fun _ => dv) PL mo (w'.setCell ⟨gr, 1, none⟩ v') := by
  have hb1 : Blk w' gr 65 #[bv, lv, pv, .map (some mf)] := hk.blk h.blk (own_notblk h.row h.blk (by decide))
  have hk2 : Kept (fun k => k = gr) w' (w'.setCell ⟨gr, 1, none⟩ v') := (Kept.refl _ w').setCell v' fun _ => rfl
  have hbel : Below w0.heap.size w0 w' := h.bel.trans (hk.below h.bel.size fun k _ e => (h.row.lt k e).1)
  have hpl := hk.own h.pl fun k e1 e2 => own_notown h.row h.pl (by decide) e2 e1
  have hmp : w'.heap[mf]? = some mo := (hk.block mf (Array.getElem?_eq_some_iff.1 h.mp).1 (own_notmap h.row h.mp h.mok)).trans h.mp
  have move : ∀ (d : Value) (b : List UInt8), Sl 1 Rbyte (BX gr mf lv pv) w d b → Sl 1 Rbyte (BX gr mf v' pv) (w'.setCell ⟨gr, 1, none⟩ v') d b := fun d b hb => by
    have b1 := hb.mono (Y := fun k => BX gr mf lv pv k ∨ BX gr mf v' pv k) good_byte (by omega) fun k hk hk2 => hk2.elim id fun h => by
      rcases h with h | h | h | h
      · exact .inl h
      · exact .inr (.inl h)
      · rcases hob with e | e
        · exact .inr (.inr (.inl (by rw [← e]; exact h)))
        · have := e k h; omega
      · exact .inr (.inr (.inr h))
    exact ((b1.keep good_byte (hk.mono fun k _ hk => .inl (.inr (.inr (.inl hk))))).keep good_byte (hk2.mono fun k _ e => .inl (.inl e))).mono good_byte (by omega) fun k _ hk => .inr hk
  refine ⟨hbel.trans (hk2.below hbel.size fun k _ e => by rw [e]; exact h.grH), hb1.set 1, own_other he.row v' (own_notblk he.row hb1 (by decide)), fun j hj => ?_, fun j hj bb hbb => ?_, own_other hpl v' (own_notblk hpl hb1 (by decide)), ?_, h.mok, h.grH, h.mfH⟩
  · by_cases hlt : j < L.length
    · rw [List.getElem_append_left hlt, appF, if_pos hlt]
      exact move _ _ (h.dat j hlt)
    · have hjl : j = L.length := by rw [List.length_append, List.length_singleton] at hj; omega
      subst hjl
      rw [List.getElem_append_right (by omega), appF, if_neg (by omega)]
      simp only [Nat.sub_self, List.getElem_cons_zero]
      exact move _ _ hd
  · by_cases hlt : j < L.length
    · rw [appF, if_pos hlt] at hbb; exact h.fr j hlt bb hbb
    · rw [appF, if_neg hlt] at hbb; exact hdn bb hbb
  · exact (hk2.block mf (Array.getElem?_eq_some_iff.1 hmp).1 fun e => blk_notmap hb1 hmp h.mok e.symm).trans hmp
end Go.Proofs.YtolknddegfcmpaaDoor
namespace Go.Proofs.YtolknddegfcmpaaDoor
open Go.RowKit
/-- The entry that a member is. -/
def entM (name : List UInt8) (k : Int) (mo x3 x4 x5 : Nat) (lk d : List UInt8) : En := ⟨name, k, mo, x3, x4, [], [], x5, lk, d⟩
/-- What came of an entry: a code, and the reader. -/
def EntP (w0 : World) (gr mf : Nat) (bv lv pv : Value) (PL : List Nat) (w : World) (Q : Int → List En → Obj → Prop) (r : Ending) (w' : World) : Prop :=
  ∃ c lv' f' L' mo', r = .returned (.int .i64 c) ∧ RD w0 gr mf bv lv' pv L' f' PL mo' w' ∧ Kept (BX gr mf lv pv) w w' ∧ Q c L' mo'
def entQ (GQ : Int → List En → Obj → Prop) (L : List En) (m0 : Obj) (name : List UInt8) (qq mo x2 x3 x4 x5 : Nat) (d : List UInt8) (c : Int) (L' : List En) (m' : Obj) : Prop :=
  if qq = 8 then (if 1 < x2 then GQ c L' m' else c = 0 ∧ L' = L ++ [entM name 1 mo x3 x4 x5 [] d] ∧ m' = m0)
  else if qq = 4 then (if d = [] then c = 0 ∧ L' = L ++ [entM name 2 mo x3 x4 x5 [] []] ∧ m' = m0 else c = 3 ∧ L' = L ∧ m' = m0)
  else if qq = 10 then c = 0 ∧ L' = L ++ [entM name 3 mo x3 x4 x5 d []] ∧ m' = m0
  else c = 9 ∧ L' = L ∧ m' = m0
theorem own_typed_ge {α : Type} {R : Rel α} {e : TypeId} {B sz : Nat} {X : Nat → Prop} {w : World} {v : Value} {l : List α} (h : OwnL sz R e B X w v l) {k : Nat} (hk : v.ownBlock = some k) : B ≤ k := (h.typed hk).1
set_option maxRecDepth 20000 in
set_option maxHeartbeats 8000000 in
theorem entry_any (w0 : World) (gr mf : Nat) (bv lv pv : Value) (L : List En) (f : Nat → Value) (PL : List Nat) (mo' : Obj) (w : World) (hrd : RD w0 gr mf bv lv pv L f PL mo' w) (hL : L.length ≤ 100000)
    (x0 x1 x2 x3 x4 x5 x6 x7 x8 x9 x10 x11 x12 : Nat) (h1 : x1 ≤ 4294967295) (name : List UInt8) (dv : Value) (d : List UInt8) (hd : Sl 1 Rbyte (fun k => w0.heap.size ≤ k) w0 dv d) (hdl : d.length ≤ 100000000) (GQ : Int → List En → Obj → Prop)
    (hgrp : x1 / 4096 = 8 → 1 < x2 → ∀ W, RD w0 gr mf bv lv pv L f PL mo' W → Calls Tryd.prog 80 #[.pointer (some ⟨gr, 0, none⟩), .agg #[.int .i64 x0, .int .i64 x1, .int .i64 x2, .int .i64 x3, .int .i64 x4, .int .i64 x5, .int .i64 x6, .int .i64 x7, .int .i64 x8, .int .i64 x9, .int .i64 x10, .int .i64 x11, .int .i64 x12], .agg #[.string (bs name), .int .i64 1, .int .i64 ((x1 % 4096 : Nat) : Int), .int .i64 x3, .int .i64 x4, .string ⟨#[]⟩, .string ⟨#[]⟩, .int .i64 x5, .string ⟨#[]⟩, .slice none 0 0], dv] W (EntP w0 gr mf bv lv pv PL W GQ)) :
    Calls Tryd.prog 53 #[.pointer (some ⟨gr, 0, none⟩), .agg #[.int .i64 x0, .int .i64 x1, .int .i64 x2, .int .i64 x3, .int .i64 x4, .int .i64 x5, .int .i64 x6, .int .i64 x7, .int .i64 x8, .int .i64 x9, .int .i64 x10, .int .i64 x11, .int .i64 x12], .string (bs name), dv] w (EntP w0 gr mf bv lv pv PL w (entQ GQ L mo' name (x1 / 4096) (x1 % 4096) x2 x3 x4 x5 d)) := by
  obtain ⟨Ad, capd, rfl, hd1, hd2⟩ := hd.form
  unfold maxLen at hd2
  obtain ⟨mo, HMO⟩ : ∃ x, Hid (x1 % 4096 = x) := ⟨_, Lib.hid rfl⟩
  have hand : bits .and .i64 (x1 : Int) 4095 = (mo : Int) := by
    rw [← HMO.out, show (4095 : Int) = ((4095 : Nat) : Int) from rfl, bits_and_i64 x1 4095 (by omega) (by omega)]
    rw [show x1 &&& 4095 = x1 % 4096 from Nat.and_two_pow_sub_one_eq_mod x1 12]
  rw [HMO.out] at hgrp ⊢
  obtain ⟨qq, HQQ⟩ : ∃ x, Hid (x1 / 4096 = x) := ⟨_, Lib.hid rfl⟩
  have hdiv : (x1 : Int) / 4096 = (qq : Int) := by have := HQQ.out; omega
  rw [HQQ.out] at hgrp ⊢
  have HG := Lib.hid hgrp
  clear hgrp
  go_enter Tryd.func53, Tryd.ntmps53
  go_upto_region 1 with fail
  have bN := Blk.new w 57 #[.int .i64 x0, .int .i64 x1, .int .i64 x2, .int .i64 x3, .int .i64 x4, .int .i64 x5, .int .i64 x6, .int .i64 x7, .int .i64 x8, .int .i64 x9, .int .i64 x10, .int .i64 x11, .int .i64 x12]
  have hq := (Below.refl w.heap.size w).alloc (Nat.le_refl _) (.cells #[.int .i64 x0, .int .i64 x1, .int .i64 x2, .int .i64 x3, .int .i64 x4, .int .i64 x5, .int .i64 x6, .int .i64 x7, .int .i64 x8, .int .i64 x9, .int .i64 x10, .int .i64 x11, .int .i64 x12] 57)
  generalize w.alloc (.cells #[.int .i64 x0, .int .i64 x1, .int .i64 x2, .int .i64 x3, .int .i64 x4, .int .i64 x5, .int .i64 x6, .int .i64 x7, .int .i64 x8, .int .i64 x9, .int .i64 x10, .int .i64 x11, .int .i64 x12] 57) = W1 at bN hq ⊢
  generalize hgN : w.heap.size = gN at bN ⊢
  obtain ⟨e0, e1, e2, e3, e4, e5, e6, e7, e8, e9, e10, e11, e12⟩ := bN.cells13
  go_upto_region 2 with fail
  have bE := Blk.new W1 tE #[.string (bs name), .int .i64 0, .int .i64 mo, .int .i64 x3, .int .i64 x4, .string ⟨#[]⟩, .string ⟨#[]⟩, .int .i64 x5, .string ⟨#[]⟩, .slice none 0 0]
  have hq2 : Below w.heap.size w (W1.alloc (.cells #[.string (bs name), .int .i64 0, .int .i64 mo, .int .i64 x3, .int .i64 x4, .string ⟨#[]⟩, .string ⟨#[]⟩, .int .i64 x5, .string ⟨#[]⟩, .slice none 0 0] tE)) := hq.alloc hq.size _
  have bN2 := bN.below ((Below.refl W1.heap.size W1).alloc (Nat.le_refl _) (.cells #[.string (bs name), .int .i64 0, .int .i64 mo, .int .i64 x3, .int .i64 x4, .string ⟨#[]⟩, .string ⟨#[]⟩, .int .i64 x5, .string ⟨#[]⟩, .slice none 0 0] tE)) bN.lt
  have hgE : w.heap.size ≤ W1.heap.size := hq.size
  have hne : W1.heap.size ≠ gN := fun e => by have := bN.lt; omega
  clear hq bN e0 e1 e2 e3 e4 e5 e6 e7 e8 e9 e10 e11 e12 hand
  generalize W1.alloc (.cells #[.string (bs name), .int .i64 0, .int .i64 mo, .int .i64 x3, .int .i64 x4, .string ⟨#[]⟩, .string ⟨#[]⟩, .int .i64 x5, .string ⟨#[]⟩, .slice none 0 0] tE) = W2 at bE hq2 bN2 ⊢
  generalize W1.heap.size = gE at bE hgE hne ⊢
  obtain ⟨e0, e1, e2, e3, e4, e5, e6, e7, e8, e9, e10, e11, e12⟩ := bN2.cells13
  obtain ⟨c0, c1, c2, c3, c4, c5, c6, c7, c8, c9⟩ := bE.cells10
  have f1 := bE.frozen 1
  have f8 := bE.frozen 8
  have f9 := bE.frozen 9
  have hdW : ∀ W, Below w.heap.size w W → Sl 1 Rbyte (fun k => w0.heap.size ≤ k) W (.slice Ad d.length capd) d := fun W h => hd.keep good_byte (Kept.low (hrd.bel.trans (h.mono hrd.bel.size)))
  have hBXn : ∀ bb, w.heap.size ≤ bb → ¬ BX gr mf lv pv bb := fun bb h1 h2 => by
    rcases h2 with h2 | h2 | h2 | h2
    · have := hrd.blk.lt; omega
    · have := (Array.getElem?_eq_some_iff.1 hrd.mp).1; omega
    · have := (hrd.row.lt _ h2).2; omega
    · have := (hrd.pl.lt _ h2).2; omega
  by_cases h8 : qq = 8
  · have t8 : ((qq : Int) * 4096 == 32768) = true := by rw [beq_iff_eq]; omega
    have HG := Lib.hid (HG.out h8)
    have H8 := Lib.hid h8
    clear h8
    go_upto_region 6 with fail
    have bE3 := bE.set (u := .int .i64 1) 1
    have bE3 : Blk (W2.setCell ⟨gE, 1, none⟩ (.int .i64 1)) gE tE #[.string (bs name), .int .i64 1, .int .i64 mo, .int .i64 x3, .int .i64 x4, .string ⟨#[]⟩, .string ⟨#[]⟩, .int .i64 x5, .string ⟨#[]⟩, .slice none 0 0] := bE3
    have hq3 := hq2.setCell (p := ⟨gE, 1, none⟩) hgE (.int .i64 1)
    have bN3 := bN2.other (a := ⟨gE, 1, none⟩) (.int .i64 1) (fun e => hne e.symm)
    clear bE hq2 bN2 f1 f8 f9 e0 e1 e2 e3 e4 e5 e6 e7 e8 e9 e10 e11 e12 c0 c1 c2 c3 c4 c5 c6 c7 c8 c9
    generalize W2.setCell ⟨gE, 1, none⟩ (.int .i64 1) = W3 at bE3 hq3 bN3 ⊢
    obtain ⟨e0, e1, e2, e3, e4, e5, e6, e7, e8, e9, e10, e11, e12⟩ := bN3.cells13
    obtain ⟨c0, c1, c2, c3, c4, c5, c6, c7, c8, c9⟩ := bE3.cells10
    by_cases h2 : 1 < x2
    · have t2 : decide ((1 : Int) < (x2 : Int)) = true := decide_eq_true (by omega)
      have t2b : decide (1 < x2) = true := decide_eq_true h2
      have hg := HG.out h2 W3 (hrd.below hq3)
      have H2 := Lib.hid h2
      clear h2
      go_wp2_with (go_at_call 80; refine hg.mono ?_; rintro r W4 ⟨cc, lv', f', L', m', rfl, hrd', hkp', hgq⟩)
      go_ret
      exact ⟨cc, lv', f', L', m', rfl, hrd', (Kept.of_below hq3 _).trans hkp', by rw [entQ, if_pos H8.out, if_pos H2.out]; exact hgq⟩
    · have t2 : decide ((1 : Int) < (x2 : Int)) = false := by simp; omega
      have t2b : decide (1 < x2) = false := decide_eq_false h2
      have H2 := Lib.hid h2
      have hcl := bclone_any d (.slice Ad d.length capd) _ W3 (hdW W3 hq3) (by omega)
      have f9 := bE3.frozen 9
      clear h2
      go_upto_region 15 with (go_at_call 81; refine hcl.mono ?_; rintro r W4 ⟨⟨vd, rfl, how⟩, hb4⟩; obtain ⟨Av, cv, rfl⟩ := how.form; have bE4 := bE3.below hb4 bE3.lt; have g9 := bE4.cells10.2.2.2.2.2.2.2.2.2; have f9 := bE4.frozen 9)
      have hslv := (how.to free_byte (Y := BX gr mf lv pv) (fun k hk h => hBXn k (Nat.le_trans hq3.size (own_typed_ge how hk)) h)).sl good_byte
      have hvn : ∀ bb, (Value.slice Av d.length cv).ownBlock = some bb → W3.heap.size ≤ bb := fun bb hbb => own_typed_ge how hbb
      have hltE := bE3.lt
      have hq4 := hq3.trans (hb4.mono hq3.size)
      have bE5 := bE4.set (u := .slice Av d.length cv) 9
      have bE5 : Blk (W4.setCell ⟨gE, 9, none⟩ (.slice Av d.length cv)) gE tE #[.string (bs name), .int .i64 1, .int .i64 mo, .int .i64 x3, .int .i64 x4, .string ⟨#[]⟩, .string ⟨#[]⟩, .int .i64 x5, .string ⟨#[]⟩, .slice Av d.length cv] := bE5
      have hq5 := hq4.setCell (p := ⟨gE, 9, none⟩) hgE (.slice Av d.length cv)
      have hvE : ¬ (Value.slice Av d.length cv).ownBlock = some gE := fun e => by have := hvn gE e; have := bE3.lt; omega
      have hslv2 : Sl 1 Rbyte (BX gr mf lv pv) (W4.setCell ⟨gE, 9, none⟩ (.slice Av d.length cv)) (.slice Av d.length cv) d := by
        have h1 := (how.to free_byte (Y := fun k => BX gr mf lv pv k ∨ k = gE) (fun k hk h => h.elim (fun h => hBXn k (Nat.le_trans hq3.size (own_typed_ge how hk)) h) (fun h => hvE (by rw [← h]; exact hk)))).sl good_byte
        exact (h1.keep good_byte (((Kept.refl (fun k => BX gr mf lv pv k ∨ k = gE) W4).setCell (p := ⟨gE, 9, none⟩) (.slice Av d.length cv) fun _ => .inr rfl))).mono good_byte (by omega) fun k _ h => .inl h
      clear hslv hq4 bE4 hb4 how bE3 hcl f9 g9 hq3 bN3 e0 e1 e2 e3 e4 e5 e6 e7 e8 e9 e10 e11 e12 c0 c1 c2 c3 c4 c5 c6 c7 c8 c9
      generalize W4.setCell ⟨gE, 9, none⟩ (.slice Av d.length cv) = W6 at bE5 hq5 hslv2 ⊢
      obtain ⟨c0, c1, c2, c3, c4, c5, c6, c7, c8, c9⟩ := bE5.cells10
      have rd := hrd.below hq5
      have r1 : W6.cell? ⟨gr, 1, none⟩ = some lv := by have := rd.blk.cell 1; simpa using this
      refine wp_region_plan2 (wkD [59]) (fun W => W.cell? ⟨gr, 1, none⟩ = some lv ∧ W.cell? ⟨gE, 0, none⟩ = some (.string (bs name)) ∧ W.cell? ⟨gE, 1, none⟩ = some (.int .i64 1) ∧ W.cell? ⟨gE, 2, none⟩ = some (.int .i64 mo) ∧ W.cell? ⟨gE, 3, none⟩ = some (.int .i64 x3) ∧ W.cell? ⟨gE, 4, none⟩ = some (.int .i64 x4) ∧ W.cell? ⟨gE, 5, none⟩ = some (.string ⟨#[]⟩) ∧ W.cell? ⟨gE, 6, none⟩ = some (.string ⟨#[]⟩) ∧ W.cell? ⟨gE, 7, none⟩ = some (.int .i64 x5) ∧ W.cell? ⟨gE, 8, none⟩ = some (.string ⟨#[]⟩) ∧ W.cell? ⟨gE, 9, none⟩ = some (.slice Av d.length cv)) (fun _ => True) (fun _ _ => trivial) [(false, 0), (false, 1), (false, 2), (false, 3), (false, 4), (false, 5), (true, 6), (true, 7), (false, 8), (false, 9), (true, 10)] (by kernel_rfl) (by kernel_rfl) (⟨r1, c0, c1, c2, c3, c4, c5, c6, c7, c8, c9⟩) ?_
      simp only [planOps, List.map, List.getD_cons_zero, List.getD_cons_succ]
      iterate 6 ((first | refine plan_quiet (v := ?_) rfl rfl (fun w' hw' => ?_) ?_ | refine plan_calm (v := ?_) (fun _ _ => trivial) rfl (fun w' hw' => ?_) ?_); rotate_left; (focus (go_simp <;> (first | with_reducible rfl | (rw [if_neg (by simp [undef])]; try rfl)))); simp only [Act.put, List.setIfInBounds_toArray, List.set_cons_zero, List.set_cons_succ])
      refine plan_loud rfl (fun K hK => ?_)
      go_simp
      have hbA : Below W6.heap.size W6 (W6.alloc (.cells #[.string (bs name), .int .i64 1, .int .i64 mo, .int .i64 x3, .int .i64 x4, .string ⟨#[]⟩, .string ⟨#[]⟩, .int .i64 x5, .string ⟨#[]⟩, .slice Av d.length cv] tE)).drew := ((Below.refl _ W6).alloc (Nat.le_refl _) _).drew
      have KK := Kept.of_below hbA nowhere
      refine hK _ _ (⟨KK.cell r1 (fun h => h), KK.cell c0 (fun h => h), KK.cell c1 (fun h => h), KK.cell c2 (fun h => h), KK.cell c3 (fun h => h), KK.cell c4 (fun h => h), KK.cell c5 (fun h => h), KK.cell c6 (fun h => h), KK.cell c7 (fun h => h), KK.cell c8 (fun h => h), KK.cell c9 (fun h => h)⟩) ?_
      clear hK K
      (try simp only [Act.put, List.setIfInBounds_toArray, List.set_cons_zero, List.set_cons_succ])
      refine plan_loud rfl (fun K hK => ?_)
      have rdA := rd.below hbA
      have bS : Blk (W6.alloc (.cells #[.string (bs name), .int .i64 1, .int .i64 mo, .int .i64 x3, .int .i64 x4, .string ⟨#[]⟩, .string ⟨#[]⟩, .int .i64 x5, .string ⟨#[]⟩, .slice Av d.length cv] tE)).drew W6.heap.size tE #[.string (bs name), .int .i64 1, .int .i64 mo, .int .i64 x3, .int .i64 x4, .string ⟨#[]⟩, .string ⟨#[]⟩, .int .i64 x5, .string ⟨#[]⟩, .slice Av d.length cv] := Blk.new W6 _ _
      have bEA := bE5.below hbA bE5.lt
      have hslA := Below.sl good_byte hbA hslv2
      have hkA : Kept (BX gr mf lv pv) w (W6.alloc (.cells #[.string (bs name), .int .i64 1, .int .i64 mo, .int .i64 x3, .int .i64 x4, .string ⟨#[]⟩, .string ⟨#[]⟩, .int .i64 x5, .string ⟨#[]⟩, .slice Av d.length cv] tE)).drew := (Kept.of_below hq5 _).trans (Kept.of_below hbA _)
      have hlvE : lv.ownBlock ≠ some gE := fun e => by have := (hrd.row.lt _ e).2; omega
      clear KK r1 c0 c1 c2 c3 c4 c5 c6 c7 c8 c9 rd hbA
      generalize (W6.alloc (.cells #[.string (bs name), .int .i64 1, .int .i64 mo, .int .i64 x3, .int .i64 x4, .string ⟨#[]⟩, .string ⟨#[]⟩, .int .i64 x5, .string ⟨#[]⟩, .slice Av d.length cv] tE)).drew = WA at rdA bS bEA hslA hkA ⊢
      generalize W6.heap.size = gS at bS ⊢
      obtain ⟨c0, c1, c2, c3, c4, c5, c6, c7, c8, c9⟩ := bEA.cells10
      have r1 : WA.cell? ⟨gr, 1, none⟩ = some lv := by have := rdA.blk.cell 1; simpa using this
      refine wp_appendEO (M := [entM name 1 mo x3 x4 x5 [] d]) (g := fun _ => Value.slice Av d.length cv) _ _ rfl rfl rdA.eo rfl (fun h => by cases h) (fun _ => ⟨⟨gS, 0, none⟩, rfl, fun j u hu => by
        have hu2 : (entC (entM name 1 mo x3 x4 x5 [] d) (Value.slice Av d.length cv))[j]? = some u := by simpa [ofC] using hu
        rw [Addr.add_lit, Nat.zero_add, bS.cell]
        show (List.toArray _)[j]? = _
        rw [List.getElem?_toArray]
        exact hu2⟩) (fun j hj => by
          have hj0 : j = 0 := by simp at hj; exact hj
          subst hj0
          exact hslA.mono good_byte (by omega) fun k _ e => .inr (.inr (.inl e))) (by simp; omega) rdA.bel.size ?_
      intro v' W' hE' hk' hob'
      obtain ⟨A', c', rfl⟩ := own_form hE'.row
      have KK := hk'
      refine hK _ _ (⟨KK.cell r1 (own_notblk rdA.row rdA.blk (by decide)), KK.cell c0 hlvE, KK.cell c1 hlvE, KK.cell c2 hlvE, KK.cell c3 hlvE, KK.cell c4 hlvE, KK.cell c5 hlvE, KK.cell c6 hlvE, KK.cell c7 hlvE, KK.cell c8 hlvE, KK.cell c9 hlvE⟩) ?_
      clear hK K
      (try simp only [Act.put, List.setIfInBounds_toArray, List.set_cons_zero, List.set_cons_succ])
      iterate 2 ((first | refine plan_quiet (v := ?_) rfl rfl (fun w' hw' => ?_) ?_ | refine plan_calm (v := ?_) (fun _ _ => trivial) rfl (fun w' hw' => ?_) ?_); rotate_left; (focus (go_simp <;> (first | with_reducible rfl | (rw [if_neg (by simp [undef])]; try rfl)))); simp only [Act.put, List.setIfInBounds_toArray, List.set_cons_zero, List.set_cons_succ])
      refine plan_last rfl (by kernel_rfl) (by kernel_rfl) (fun K hK => ?_)
      have b1 := hk'.blk rdA.blk (own_notblk rdA.row rdA.blk (by decide))
      have r1' : W'.cell? ⟨gr, 1, none⟩ = some lv := by have := b1.cell 1; simpa using this
      have fr1 := b1.frozen 1
      have hfin := rdA.app hE' hk' hob' hslA (fun bb hbb => Nat.le_trans (Nat.le_trans hrd.bel.size (Nat.le_trans hgE (Nat.le_of_lt hltE))) (hvn bb hbb))
      rw [show (L ++ [entM name 1 mo x3 x4 x5 [] d]).length = L.length + 1 by simp] at hfin
      have hkp : Kept (BX gr mf lv pv) w (W'.setCell ⟨gr, 1, none⟩ (.slice A' (L ++ [entM name 1 mo x3 x4 x5 [] d]).length c')) := (hkA.trans (hk'.mono fun k _ h => .inr (.inr (.inl h)))).setCell _ fun _ => .inl rfl
      rw [show (L ++ [entM name 1 mo x3 x4 x5 [] d]).length = L.length + 1 by simp] at hkp
      clear KK hkA
      go_simp
      refine hK _ _ (trivial) ?_
      clear hK K
      (try simp only [Act.put, List.setIfInBounds_toArray, List.set_cons_zero, List.set_cons_succ])
      refine plan_end ?_
      clear r1' fr1 b1 hk' hob' hE' hslA bEA bS rdA r1 c0 c1 c2 c3 c4 c5 c6 c7 c8 c9
      go_wp2_with fail
      go_ret
      exact ⟨_, _, _, _, _, rfl, hfin, hkp, by rw [entQ, if_pos H8.out, if_neg H2.out]; exact ⟨rfl, rfl, rfl⟩⟩
  have t8 : ((qq : Int) * 4096 == 32768) = false := by simp; omega
  have H8 := Lib.hid h8
  clear h8 HG
  by_cases h4 : qq = 4
  · have t4 : ((qq : Int) * 4096 == 16384) = true := by rw [beq_iff_eq]; omega
    have H4 := Lib.hid h4
    clear h4
    go_upto_region 11 with fail
    have bE3 := bE.set (u := .int .i64 2) 1
    have bE3 : Blk (W2.setCell ⟨gE, 1, none⟩ (.int .i64 2)) gE tE #[.string (bs name), .int .i64 2, .int .i64 mo, .int .i64 x3, .int .i64 x4, .string ⟨#[]⟩, .string ⟨#[]⟩, .int .i64 x5, .string ⟨#[]⟩, .slice none 0 0] := bE3
    have hq3 := hq2.setCell (p := ⟨gE, 1, none⟩) hgE (.int .i64 2)
    clear bE hq2 bN2 f1 f8 f9 e0 e1 e2 e3 e4 e5 e6 e7 e8 e9 e10 e11 e12 c0 c1 c2 c3 c4 c5 c6 c7 c8 c9
    generalize W2.setCell ⟨gE, 1, none⟩ (.int .i64 2) = W6 at bE3 hq3 ⊢
    by_cases hd0 : d = []
    · subst hd0
      have hslE : Sl 1 Rbyte (BX gr mf lv pv) W6 (.slice none 0 0) [] := Sl.nil _ _ _ _
      go_upto_region 15 with fail
      obtain ⟨c0, c1, c2, c3, c4, c5, c6, c7, c8, c9⟩ := bE3.cells10
      have rd := hrd.below hq3
      have r1 : W6.cell? ⟨gr, 1, none⟩ = some lv := by have := rd.blk.cell 1; simpa using this
      refine wp_region_plan2 (wkD [59]) (fun W => W.cell? ⟨gr, 1, none⟩ = some lv ∧ W.cell? ⟨gE, 0, none⟩ = some (.string (bs name)) ∧ W.cell? ⟨gE, 1, none⟩ = some (.int .i64 2) ∧ W.cell? ⟨gE, 2, none⟩ = some (.int .i64 mo) ∧ W.cell? ⟨gE, 3, none⟩ = some (.int .i64 x3) ∧ W.cell? ⟨gE, 4, none⟩ = some (.int .i64 x4) ∧ W.cell? ⟨gE, 5, none⟩ = some (.string ⟨#[]⟩) ∧ W.cell? ⟨gE, 6, none⟩ = some (.string ⟨#[]⟩) ∧ W.cell? ⟨gE, 7, none⟩ = some (.int .i64 x5) ∧ W.cell? ⟨gE, 8, none⟩ = some (.string ⟨#[]⟩) ∧ W.cell? ⟨gE, 9, none⟩ = some (.slice none 0 0)) (fun _ => True) (fun _ _ => trivial) [(false, 0), (false, 1), (false, 2), (false, 3), (false, 4), (false, 5), (true, 6), (true, 7), (false, 8), (false, 9), (true, 10)] (by kernel_rfl) (by kernel_rfl) (⟨r1, c0, c1, c2, c3, c4, c5, c6, c7, c8, c9⟩) ?_
      simp only [planOps, List.map, List.getD_cons_zero, List.getD_cons_succ]
      iterate 6 ((first | refine plan_quiet (v := ?_) rfl rfl (fun w' hw' => ?_) ?_ | refine plan_calm (v := ?_) (fun _ _ => trivial) rfl (fun w' hw' => ?_) ?_); rotate_left; (focus (go_simp <;> (first | with_reducible rfl | (rw [if_neg (by simp [undef])]; try rfl)))); simp only [Act.put, List.setIfInBounds_toArray, List.set_cons_zero, List.set_cons_succ])
      refine plan_loud rfl (fun K hK => ?_)
      go_simp
      have hbA : Below W6.heap.size W6 (W6.alloc (.cells #[.string (bs name), .int .i64 2, .int .i64 mo, .int .i64 x3, .int .i64 x4, .string ⟨#[]⟩, .string ⟨#[]⟩, .int .i64 x5, .string ⟨#[]⟩, .slice none 0 0] tE)).drew := ((Below.refl _ W6).alloc (Nat.le_refl _) _).drew
      have KK := Kept.of_below hbA nowhere
      refine hK _ _ (⟨KK.cell r1 (fun h => h), KK.cell c0 (fun h => h), KK.cell c1 (fun h => h), KK.cell c2 (fun h => h), KK.cell c3 (fun h => h), KK.cell c4 (fun h => h), KK.cell c5 (fun h => h), KK.cell c6 (fun h => h), KK.cell c7 (fun h => h), KK.cell c8 (fun h => h), KK.cell c9 (fun h => h)⟩) ?_
      clear hK K
      (try simp only [Act.put, List.setIfInBounds_toArray, List.set_cons_zero, List.set_cons_succ])
      refine plan_loud rfl (fun K hK => ?_)
      have rdA := rd.below hbA
      have bS : Blk (W6.alloc (.cells #[.string (bs name), .int .i64 2, .int .i64 mo, .int .i64 x3, .int .i64 x4, .string ⟨#[]⟩, .string ⟨#[]⟩, .int .i64 x5, .string ⟨#[]⟩, .slice none 0 0] tE)).drew W6.heap.size tE #[.string (bs name), .int .i64 2, .int .i64 mo, .int .i64 x3, .int .i64 x4, .string ⟨#[]⟩, .string ⟨#[]⟩, .int .i64 x5, .string ⟨#[]⟩, .slice none 0 0] := Blk.new W6 _ _
      have bEA := bE3.below hbA bE3.lt
      have hslA := Below.sl good_byte hbA hslE
      have hkA : Kept (BX gr mf lv pv) w (W6.alloc (.cells #[.string (bs name), .int .i64 2, .int .i64 mo, .int .i64 x3, .int .i64 x4, .string ⟨#[]⟩, .string ⟨#[]⟩, .int .i64 x5, .string ⟨#[]⟩, .slice none 0 0] tE)).drew := (Kept.of_below hq3 _).trans (Kept.of_below hbA _)
      have hlvE : lv.ownBlock ≠ some gE := fun e => by have := (hrd.row.lt _ e).2; omega
      clear KK r1 c0 c1 c2 c3 c4 c5 c6 c7 c8 c9 rd hbA
      generalize (W6.alloc (.cells #[.string (bs name), .int .i64 2, .int .i64 mo, .int .i64 x3, .int .i64 x4, .string ⟨#[]⟩, .string ⟨#[]⟩, .int .i64 x5, .string ⟨#[]⟩, .slice none 0 0] tE)).drew = WA at rdA bS bEA hslA hkA ⊢
      generalize W6.heap.size = gS at bS ⊢
      obtain ⟨c0, c1, c2, c3, c4, c5, c6, c7, c8, c9⟩ := bEA.cells10
      have r1 : WA.cell? ⟨gr, 1, none⟩ = some lv := by have := rdA.blk.cell 1; simpa using this
      refine wp_appendEO (M := [entM name 2 mo x3 x4 x5 [] []]) (g := fun _ => Value.slice none 0 0) _ _ rfl rfl rdA.eo rfl (fun h => by cases h) (fun _ => ⟨⟨gS, 0, none⟩, rfl, fun j u hu => by
        have hu2 : (entC (entM name 2 mo x3 x4 x5 [] []) (Value.slice none 0 0))[j]? = some u := by simpa [ofC] using hu
        rw [Addr.add_lit, Nat.zero_add, bS.cell]
        show (List.toArray _)[j]? = _
        rw [List.getElem?_toArray]
        exact hu2⟩) (fun j hj => by
          have hj0 : j = 0 := by simp at hj; exact hj
          subst hj0
          exact hslA.mono good_byte (by omega) fun k _ e => .inr (.inr (.inl e))) (by simp; omega) rdA.bel.size ?_
      intro v' W' hE' hk' hob'
      obtain ⟨A', c', rfl⟩ := own_form hE'.row
      have KK := hk'
      refine hK _ _ (⟨KK.cell r1 (own_notblk rdA.row rdA.blk (by decide)), KK.cell c0 hlvE, KK.cell c1 hlvE, KK.cell c2 hlvE, KK.cell c3 hlvE, KK.cell c4 hlvE, KK.cell c5 hlvE, KK.cell c6 hlvE, KK.cell c7 hlvE, KK.cell c8 hlvE, KK.cell c9 hlvE⟩) ?_
      clear hK K
      (try simp only [Act.put, List.setIfInBounds_toArray, List.set_cons_zero, List.set_cons_succ])
      iterate 2 ((first | refine plan_quiet (v := ?_) rfl rfl (fun w' hw' => ?_) ?_ | refine plan_calm (v := ?_) (fun _ _ => trivial) rfl (fun w' hw' => ?_) ?_); rotate_left; (focus (go_simp <;> (first | with_reducible rfl | (rw [if_neg (by simp [undef])]; try rfl)))); simp only [Act.put, List.setIfInBounds_toArray, List.set_cons_zero, List.set_cons_succ])
      refine plan_last rfl (by kernel_rfl) (by kernel_rfl) (fun K hK => ?_)
      have b1 := hk'.blk rdA.blk (own_notblk rdA.row rdA.blk (by decide))
      have r1' : W'.cell? ⟨gr, 1, none⟩ = some lv := by have := b1.cell 1; simpa using this
      have fr1 := b1.frozen 1
      have hfin := rdA.app hE' hk' hob' hslA (fun bb hbb => by cases hbb)
      rw [show (L ++ [entM name 2 mo x3 x4 x5 [] []]).length = L.length + 1 by simp] at hfin
      have hkp : Kept (BX gr mf lv pv) w (W'.setCell ⟨gr, 1, none⟩ (.slice A' (L ++ [entM name 2 mo x3 x4 x5 [] []]).length c')) := (hkA.trans (hk'.mono fun k _ h => .inr (.inr (.inl h)))).setCell _ fun _ => .inl rfl
      rw [show (L ++ [entM name 2 mo x3 x4 x5 [] []]).length = L.length + 1 by simp] at hkp
      clear KK hkA
      go_simp
      refine hK _ _ (trivial) ?_
      clear hK K
      (try simp only [Act.put, List.setIfInBounds_toArray, List.set_cons_zero, List.set_cons_succ])
      refine plan_end ?_
      clear r1' fr1 b1 hk' hob' hE' hslA bEA bS rdA r1 c0 c1 c2 c3 c4 c5 c6 c7 c8 c9
      go_wp2_with fail
      go_ret
      exact ⟨_, _, _, _, _, rfl, hfin, hkp, by rw [entQ, if_neg H8.out, if_pos H4.out, if_pos rfl]; exact ⟨rfl, rfl, rfl⟩⟩
    · have hdp : decide ((0 : Int) < (d.length : Int)) = true := decide_eq_true (by
        have : d.length ≠ 0 := fun h => hd0 (List.eq_nil_of_length_eq_zero h)
        omega)
      have hdpb : decide (0 < d.length) = true := decide_eq_true (by
        have : d.length ≠ 0 := fun h => hd0 (List.eq_nil_of_length_eq_zero h)
        omega)
      have hdn : ¬ d.length = 0 := fun h => hd0 (List.eq_nil_of_length_eq_zero h)
      have hfin := hrd.below hq3
      have HD0 := Lib.hid hd0
      clear hd0
      go_wp2_with fail
      go_ret
      exact ⟨_, _, _, _, _, rfl, hfin, Kept.of_below hq3 _, by rw [entQ, if_neg H8.out, if_pos H4.out, if_neg HD0.out]; exact ⟨rfl, rfl, rfl⟩⟩
  have t4 : ((qq : Int) * 4096 == 16384) = false := by simp; omega
  have H4 := Lib.hid h4
  clear h4
  by_cases h10 : qq = 10
  · have t10 : ((qq : Int) * 4096 == 40960) = true := by rw [beq_iff_eq]; omega
    have H10 := Lib.hid h10
    clear h10
    go_upto_region 14 with fail
    have hst : (convert 26 9 (.slice Ad d.length capd)).run Tryd.prog W2.drew = .ok (.string (bs d)) W2.drew := str8 (Below.sl good_byte ((Below.refl _ W2).drew) (hdW W2 hq2)).sb8
    have hst2 : (convert 26 9 (.slice Ad d.length capd)).run Tryd.prog (W2.setCell ⟨gE, 1, none⟩ (.int .i64 3)).drew = .ok (.string (bs d)) (W2.setCell ⟨gE, 1, none⟩ (.int .i64 3)).drew := str8 (hdW _ ((hq2.setCell (p := ⟨gE, 1, none⟩) hgE (.int .i64 3)).drew)).sb8
    have bE3 : Blk (W2.setCell ⟨gE, 1, none⟩ (.int .i64 3)) gE tE #[.string (bs name), .int .i64 3, .int .i64 mo, .int .i64 x3, .int .i64 x4, .string ⟨#[]⟩, .string ⟨#[]⟩, .int .i64 x5, .string ⟨#[]⟩, .slice none 0 0] := bE.set (u := .int .i64 3) 1
    have bE4 : Blk ((W2.setCell ⟨gE, 1, none⟩ (.int .i64 3)).setCell ⟨gE, 8, none⟩ (.string (bs d))) gE tE #[.string (bs name), .int .i64 3, .int .i64 mo, .int .i64 x3, .int .i64 x4, .string ⟨#[]⟩, .string ⟨#[]⟩, .int .i64 x5, .string (bs d), .slice none 0 0] := bE3.set (u := .string (bs d)) 8
    have hq3 := (hq2.setCell (p := ⟨gE, 1, none⟩) hgE (.int .i64 3)).setCell (p := ⟨gE, 8, none⟩) hgE (.string (bs d))
    refine wp_region_plan (fun W => (convert 26 9 (.slice Ad d.length capd)).run Tryd.prog W = .ok (.string (bs d)) W) [(false, 0), (false, 1), (false, 2), (true, 3), (false, 4), (true, 5)] (by kernel_rfl) (by kernel_rfl) (hst) ?_
    simp only [planOps, List.map, List.getD_cons_zero, List.getD_cons_succ]
    iterate 3 ((first | refine plan_quiet (v := ?_) rfl rfl (fun w' hw' => ?_) ?_ | refine plan_calm (v := ?_) (tt_of) rfl (fun w' hw' => ?_) ?_); rotate_left; (focus (go_simp <;> (first | with_reducible rfl | (rw [if_neg (by simp [undef])]; try rfl)))); simp only [Act.put, List.setIfInBounds_toArray, List.set_cons_zero, List.set_cons_succ])
    refine plan_loud rfl (fun K hK => ?_)
    go_simp
    refine hK _ _ (hst2) ?_
    clear hK K
    (try simp only [Act.put, List.setIfInBounds_toArray, List.set_cons_zero, List.set_cons_succ])
    iterate 1 ((first | refine plan_quiet (v := ?_) rfl rfl (fun w' hw' => ?_) ?_ | refine plan_calm (v := ?_) (tt_of) rfl (fun w' hw' => ?_) ?_); rotate_left; (focus (go_simp <;> (first | with_reducible rfl | (rw [if_neg (by simp [undef])]; try rfl)))); simp only [Act.put, List.setIfInBounds_toArray, List.set_cons_zero, List.set_cons_succ])
    refine plan_last rfl (by kernel_rfl) (by kernel_rfl) (fun K hK => ?_)
    go_simp
    refine hK _ _ (trivial) ?_
    clear hK K
    (try simp only [Act.put, List.setIfInBounds_toArray, List.set_cons_zero, List.set_cons_succ])
    refine plan_end ?_
    clear hst hst2 f1 f8 f9 bE3 bE hq2 bN2 e0 e1 e2 e3 e4 e5 e6 e7 e8 e9 e10 e11 e12 c0 c1 c2 c3 c4 c5 c6 c7 c8 c9
    have bE5 : Blk ((W2.setCell ⟨gE, 1, none⟩ (.int .i64 3)).setCell ⟨gE, 8, none⟩ (.string (bs d))).drew gE tE #[.string (bs name), .int .i64 3, .int .i64 mo, .int .i64 x3, .int .i64 x4, .string ⟨#[]⟩, .string ⟨#[]⟩, .int .i64 x5, .string (bs d), .slice none 0 0] := bE4
    have hq4 := hq3.drew
    clear bE4 hq3
    go_upto_region 15 with fail
    generalize ((W2.setCell ⟨gE, 1, none⟩ (.int .i64 3)).setCell ⟨gE, 8, none⟩ (.string (bs d))).drew = W6 at bE5 hq4 ⊢
    have hslE : Sl 1 Rbyte (BX gr mf lv pv) W6 (.slice none 0 0) [] := Sl.nil _ _ _ _
    obtain ⟨c0, c1, c2, c3, c4, c5, c6, c7, c8, c9⟩ := bE5.cells10
    have rd := hrd.below hq4
    have r1 : W6.cell? ⟨gr, 1, none⟩ = some lv := by have := rd.blk.cell 1; simpa using this
    refine wp_region_plan2 (wkD [59]) (fun W => W.cell? ⟨gr, 1, none⟩ = some lv ∧ W.cell? ⟨gE, 0, none⟩ = some (.string (bs name)) ∧ W.cell? ⟨gE, 1, none⟩ = some (.int .i64 3) ∧ W.cell? ⟨gE, 2, none⟩ = some (.int .i64 mo) ∧ W.cell? ⟨gE, 3, none⟩ = some (.int .i64 x3) ∧ W.cell? ⟨gE, 4, none⟩ = some (.int .i64 x4) ∧ W.cell? ⟨gE, 5, none⟩ = some (.string ⟨#[]⟩) ∧ W.cell? ⟨gE, 6, none⟩ = some (.string ⟨#[]⟩) ∧ W.cell? ⟨gE, 7, none⟩ = some (.int .i64 x5) ∧ W.cell? ⟨gE, 8, none⟩ = some (.string (bs d)) ∧ W.cell? ⟨gE, 9, none⟩ = some (.slice none 0 0)) (fun _ => True) (fun _ _ => trivial) [(false, 0), (false, 1), (false, 2), (false, 3), (false, 4), (false, 5), (true, 6), (true, 7), (false, 8), (false, 9), (true, 10)] (by kernel_rfl) (by kernel_rfl) (⟨r1, c0, c1, c2, c3, c4, c5, c6, c7, c8, c9⟩) ?_
    simp only [planOps, List.map, List.getD_cons_zero, List.getD_cons_succ]
    iterate 6 ((first | refine plan_quiet (v := ?_) rfl rfl (fun w' hw' => ?_) ?_ | refine plan_calm (v := ?_) (fun _ _ => trivial) rfl (fun w' hw' => ?_) ?_); rotate_left; (focus (go_simp <;> (first | with_reducible rfl | (rw [if_neg (by simp [undef])]; try rfl)))); simp only [Act.put, List.setIfInBounds_toArray, List.set_cons_zero, List.set_cons_succ])
    refine plan_loud rfl (fun K hK => ?_)
    go_simp
    have hbA : Below W6.heap.size W6 (W6.alloc (.cells #[.string (bs name), .int .i64 3, .int .i64 mo, .int .i64 x3, .int .i64 x4, .string ⟨#[]⟩, .string ⟨#[]⟩, .int .i64 x5, .string (bs d), .slice none 0 0] tE)).drew := ((Below.refl _ W6).alloc (Nat.le_refl _) _).drew
    have KK := Kept.of_below hbA nowhere
    refine hK _ _ (⟨KK.cell r1 (fun h => h), KK.cell c0 (fun h => h), KK.cell c1 (fun h => h), KK.cell c2 (fun h => h), KK.cell c3 (fun h => h), KK.cell c4 (fun h => h), KK.cell c5 (fun h => h), KK.cell c6 (fun h => h), KK.cell c7 (fun h => h), KK.cell c8 (fun h => h), KK.cell c9 (fun h => h)⟩) ?_
    clear hK K
    (try simp only [Act.put, List.setIfInBounds_toArray, List.set_cons_zero, List.set_cons_succ])
    refine plan_loud rfl (fun K hK => ?_)
    have rdA := rd.below hbA
    have bS : Blk (W6.alloc (.cells #[.string (bs name), .int .i64 3, .int .i64 mo, .int .i64 x3, .int .i64 x4, .string ⟨#[]⟩, .string ⟨#[]⟩, .int .i64 x5, .string (bs d), .slice none 0 0] tE)).drew W6.heap.size tE #[.string (bs name), .int .i64 3, .int .i64 mo, .int .i64 x3, .int .i64 x4, .string ⟨#[]⟩, .string ⟨#[]⟩, .int .i64 x5, .string (bs d), .slice none 0 0] := Blk.new W6 _ _
    have bEA := bE5.below hbA bE5.lt
    have hslA := Below.sl good_byte hbA hslE
    have hkA : Kept (BX gr mf lv pv) w (W6.alloc (.cells #[.string (bs name), .int .i64 3, .int .i64 mo, .int .i64 x3, .int .i64 x4, .string ⟨#[]⟩, .string ⟨#[]⟩, .int .i64 x5, .string (bs d), .slice none 0 0] tE)).drew := (Kept.of_below hq4 _).trans (Kept.of_below hbA _)
    have hlvE : lv.ownBlock ≠ some gE := fun e => by have := (hrd.row.lt _ e).2; omega
    clear KK r1 c0 c1 c2 c3 c4 c5 c6 c7 c8 c9 rd hbA
    generalize (W6.alloc (.cells #[.string (bs name), .int .i64 3, .int .i64 mo, .int .i64 x3, .int .i64 x4, .string ⟨#[]⟩, .string ⟨#[]⟩, .int .i64 x5, .string (bs d), .slice none 0 0] tE)).drew = WA at rdA bS bEA hslA hkA ⊢
    generalize W6.heap.size = gS at bS ⊢
    obtain ⟨c0, c1, c2, c3, c4, c5, c6, c7, c8, c9⟩ := bEA.cells10
    have r1 : WA.cell? ⟨gr, 1, none⟩ = some lv := by have := rdA.blk.cell 1; simpa using this
    refine wp_appendEO (M := [entM name 3 mo x3 x4 x5 d []]) (g := fun _ => Value.slice none 0 0) _ _ rfl rfl rdA.eo rfl (fun h => by cases h) (fun _ => ⟨⟨gS, 0, none⟩, rfl, fun j u hu => by
      have hu2 : (entC (entM name 3 mo x3 x4 x5 d []) (Value.slice none 0 0))[j]? = some u := by simpa [ofC] using hu
      rw [Addr.add_lit, Nat.zero_add, bS.cell]
      show (List.toArray _)[j]? = _
      rw [List.getElem?_toArray]
      exact hu2⟩) (fun j hj => by
        have hj0 : j = 0 := by simp at hj; exact hj
        subst hj0
        exact hslA.mono good_byte (by omega) fun k _ e => .inr (.inr (.inl e))) (by simp; omega) rdA.bel.size ?_
    intro v' W' hE' hk' hob'
    obtain ⟨A', c', rfl⟩ := own_form hE'.row
    have KK := hk'
    refine hK _ _ (⟨KK.cell r1 (own_notblk rdA.row rdA.blk (by decide)), KK.cell c0 hlvE, KK.cell c1 hlvE, KK.cell c2 hlvE, KK.cell c3 hlvE, KK.cell c4 hlvE, KK.cell c5 hlvE, KK.cell c6 hlvE, KK.cell c7 hlvE, KK.cell c8 hlvE, KK.cell c9 hlvE⟩) ?_
    clear hK K
    (try simp only [Act.put, List.setIfInBounds_toArray, List.set_cons_zero, List.set_cons_succ])
    iterate 2 ((first | refine plan_quiet (v := ?_) rfl rfl (fun w' hw' => ?_) ?_ | refine plan_calm (v := ?_) (fun _ _ => trivial) rfl (fun w' hw' => ?_) ?_); rotate_left; (focus (go_simp <;> (first | with_reducible rfl | (rw [if_neg (by simp [undef])]; try rfl)))); simp only [Act.put, List.setIfInBounds_toArray, List.set_cons_zero, List.set_cons_succ])
    refine plan_last rfl (by kernel_rfl) (by kernel_rfl) (fun K hK => ?_)
    have b1 := hk'.blk rdA.blk (own_notblk rdA.row rdA.blk (by decide))
    have r1' : W'.cell? ⟨gr, 1, none⟩ = some lv := by have := b1.cell 1; simpa using this
    have fr1 := b1.frozen 1
    have hfin := rdA.app hE' hk' hob' hslA (fun bb hbb => by cases hbb)
    rw [show (L ++ [entM name 3 mo x3 x4 x5 d []]).length = L.length + 1 by simp] at hfin
    have hkp : Kept (BX gr mf lv pv) w (W'.setCell ⟨gr, 1, none⟩ (.slice A' (L ++ [entM name 3 mo x3 x4 x5 d []]).length c')) := (hkA.trans (hk'.mono fun k _ h => .inr (.inr (.inl h)))).setCell _ fun _ => .inl rfl
    rw [show (L ++ [entM name 3 mo x3 x4 x5 d []]).length = L.length + 1 by simp] at hkp
    clear KK hkA
    go_simp
    refine hK _ _ (trivial) ?_
    clear hK K
    (try simp only [Act.put, List.setIfInBounds_toArray, List.set_cons_zero, List.set_cons_succ])
    refine plan_end ?_
    clear r1' fr1 b1 hk' hob' hE' hslA bEA bS rdA r1 c0 c1 c2 c3 c4 c5 c6 c7 c8 c9
    go_wp2_with fail
    go_ret
    exact ⟨_, _, _, _, _, rfl, hfin, hkp, by rw [entQ, if_neg H8.out, if_neg H4.out, if_pos H10.out]; exact ⟨rfl, rfl, rfl⟩⟩
  have t10 : ((qq : Int) * 4096 == 40960) = false := by simp; omega
  have H10 := Lib.hid h10
  have hfin := hrd.below hq2
  clear h10
  go_wp2_with fail
  go_ret
  exact ⟨_, _, _, _, _, rfl, hfin, Kept.of_below hq2 _, by rw [entQ, if_neg H8.out, if_neg H4.out, if_neg H10.out]; exact ⟨rfl, rfl, rfl⟩⟩
end Go.Proofs.YtolknddegfcmpaaDoor
