/- The walk of cpio's grouped. Printed by gen_cqc.py. -/
import Derived.Test.YtolknddegfcmpaaDoorCpNO
import Derived.Test.YtolknddegfcmpaaDoorCqA
namespace Go.Proofs.YtolknddegfcmpaaDoor
open Go.RowKit
/-- What a file with more links than one comes to, its numbers told one by one. -/
def grpV (fnd : Option Nat) (L : List En) (nm : List UInt8) (m x3 x4 x5 : Nat) (d : List UInt8) : Int × List En :=
  match fnd with
  | none => (0, L ++ [entM nm 1 m x3 x4 x5 [] d])
  | some i => match L[i]? with
    | none => (3, L)
    | some x =>
      if (m : Int) ≠ x.mode ∨ (x3 : Int) ≠ x.uid ∨ (x4 : Int) ≠ x.gid ∨ (x5 : Int) ≠ x.mtime then (3, L)
      else if d ≠ [] ∧ x.data ≠ [] then (3, L)
      else (0, (if d = [] then L else L.set i { x with data := d }) ++ [entM nm 4 m x3 x4 x5 x.path []])
theorem grpC_is (fnd : Option Nat) (L : List En) (ns : List Nat) (nm d : List UInt8) : grpC fnd L ns nm d = grpV fnd L nm (ns.getD 1 0 % 4096) (ns.getD 3 0) (ns.getD 4 0) (ns.getD 5 0) d := rfl
section
variable {w0 w w' : World} {gr mf : Nat} {bv lv pv : Value} {L : List En} {f : Nat → Value} {PL : List Nat} {mo : Obj}
theorem no10 (s0 s5 s6 s8 : ByteArray) (k1 k2 k3 k4 k7 : Int) (A : Option Addr) (n c : Nat) : ∀ (i : Nat) (b : Int), (#[.string s0, .int .i64 k1, .int .i64 k2, .int .i64 k3, .int .i64 k4, .string s5, .string s6, .int .i64 k7, .string s8, .slice A n c] : Array Value)[i]? ≠ some (Value.int .u8 b)
  | 0, b | 1, b | 2, b | 3, b | 4, b | 5, b | 6, b | 7, b | 8, b | 9, b => by simp
  | i + 10, b => by simp
theorem RD.pokeE (h : RD w0 gr mf bv lv pv L f PL mo w) {g : Nat} {s0 s5 s6 s8 : ByteArray} {k1 k2 k3 k4 k7 : Int} {A : Option Addr} {n c : Nat} (hg : Blk w g tE #[.string s0, .int .i64 k1, .int .i64 k2, .int .i64 k3, .int .i64 k4, .string s5, .string s6, .int .i64 k7, .string s8, .slice A n c]) (hH : w0.heap.size ≤ g) (hlv : lv.ownBlock ≠ some g) (i : Nat) (u : Value) : RD w0 gr mf bv lv pv L f PL mo (w.setCell ⟨g, i, none⟩ u) :=
  h.poke hg hH (by decide) (.inr hlv) (by decide) (fun j hj => by rw [List.getElem?_eq_getElem hj]; exact (h.dat j hj).off hg (no10 s0 s5 s6 s8 k1 k2 k3 k4 k7 A n c)) i u
/-- The map was written. -/
theorem RD.map (h : RD w0 gr mf bv lv pv L f PL mo w) {mo' : Obj} (hm : ∃ es c, mo' = .map es c) : RD w0 gr mf bv lv pv L f PL mo' { w with heap := w.heap.setIfInBounds mf mo' } ∧ Kept (fun k => k = mf) w { w with heap := w.heap.setIfInBounds mf mo' } := by
  have hlt := (Array.getElem?_eq_some_iff.1 h.mp).1
  have hk : Kept (fun k => k = mf) w { w with heap := w.heap.setIfInBounds mf mo' } := ⟨rfl, rfl, rfl, by simp, fun k _ hx => by
    show (w.heap.setIfInBounds mf mo')[k]? = _
    simp [Ne.symm hx]⟩
  refine ⟨⟨h.bel.trans (hk.below h.bel.size fun k _ e => by rw [e]; exact h.mfH), hk.blk h.blk fun e => blk_notmap h.blk h.mp h.mok e, hk.own h.row fun k e1 e2 => own_notmap h.row h.mp h.mok (by rw [e1, e2]), fun j hj => (h.dat j hj).keep good_byte (hk.mono fun k _ e => .inr (.inl e)), h.fr, hk.own h.pl fun k e1 e2 => own_notmap h.pl h.mp h.mok (by rw [e1, e2]), ?_, hm, h.grH, h.mfH⟩, hk⟩
  show (w.heap.setIfInBounds mf mo')[mf]? = _
  simp [hlt]
/-- An entry's data were written. -/
theorem RD.data (h : RD w0 gr mf bv lv pv L f PL mo w) {g n cap : Nat} (hlv : lv = .slice (some ⟨g, 0, none⟩) n cap) (i : Nat) (hi : i < L.length) (u : Value) (d : List UInt8) (hd : Sl 1 Rbyte (BX gr mf lv pv) w u d) (hdn : ∀ bb, u.ownBlock = some bb → w0.heap.size ≤ bb) :
    RD w0 gr mf bv lv pv (L.set i { L[i] with data := d }) (upd f i u) PL mo (w.setCell ⟨g, i * 10 + 9, none⟩ u) ∧ Kept (BX gr mf lv pv) w (w.setCell ⟨g, i * 10 + 9, none⟩ u) := by
  subst hlv
  have hk : Kept (fun b => (Value.slice (some ⟨g, 0, none⟩) n cap).ownBlock = some b) w (w.setCell ⟨g, i * 10 + 9, none⟩ u) := (Kept.refl _ w).setCell u fun _ => rfl
  have hkB : Kept (BX gr mf (.slice (some ⟨g, 0, none⟩) n cap) pv) w (w.setCell ⟨g, i * 10 + 9, none⟩ u) := hk.mono fun k _ e => .inr (.inr (.inl e))
  have hp := h.eo.put h.bel.size i hi 9 (by omega) u { L[i] with data := d } u rfl (hd.mono good_byte (by omega) fun k _ e => .inr (.inr (.inl e)))
  have hne : ∀ bb, u.ownBlock = some bb ∨ ¬ u.ownBlock = some bb := fun _ => Classical.em _
  refine ⟨⟨h.bel.trans (hk.below h.bel.size fun k _ e => (h.row.lt k e).1), hk.blk h.blk (own_notblk h.row h.blk (by decide)), hp.1.row, fun j hj => ?_, fun j hj bb hbb => ?_, own_other h.pl u (fun e => own_notown h.row h.pl (by decide) rfl e), ?_, h.mok, h.grH, h.mfH⟩, hkB⟩
  · have hj2 : j < L.length := by rw [List.length_set] at hj; exact hj
    by_cases hjk : j = i
    · subst hjk
      have e2 : (L.set j { L[j] with data := d })[j]'hj = { L[j] with data := d } := by simp
      rw [e2, upd, if_pos rfl]
      exact hd.keep good_byte hkB
    · have e2 : (L.set i { L[i] with data := d })[j]'hj = L[j]'hj2 := List.getElem_set_ne (fun h => hjk h.symm) _
      rw [e2, upd, if_neg hjk]
      exact (h.dat j hj2).keep good_byte hkB
  · have hj2 : j < L.length := by rw [List.length_set] at hj; exact hj
    by_cases hjk : j = i
    · rw [upd, if_pos hjk] at hbb; exact hdn bb hbb
    · rw [upd, if_neg hjk] at hbb; exact h.fr j hj2 bb hbb
  · exact (hk.block mf (Array.getElem?_eq_some_iff.1 h.mp).1 fun e => own_notmap h.row h.mp h.mok e).trans h.mp
end
set_option maxRecDepth 20000 in
set_option maxHeartbeats 16000000 in
theorem grouped_any (w0 : World) (gr mf : Nat) (bv lv pv : Value) (L : List En) (f : Nat → Value) (PL : List Nat) (mo : Obj) (w : World) (hrd0 : RD w0 gr mf bv lv pv L f PL mo w) (hL : L.length ≤ 100000)
    (x0 x1 x2 x3 x4 x5 x6 x7 x8 x9 x10 x11 x12 m : Nat) (name : List UInt8) (dv : Value) (d : List UInt8) (hd : Sl 1 Rbyte (fun k => w0.heap.size ≤ k) w0 dv d) (hdl : d.length ≤ 100000000) (s : List (List Nat × Nat)) (hM : MapR 5 mo s) (hF : Fst (findP [x0, x7, x8, x9, x10] s) L) :
    Calls Tryd.prog 80 #[.pointer (some ⟨gr, 0, none⟩), .agg #[.int .i64 x0, .int .i64 x1, .int .i64 x2, .int .i64 x3, .int .i64 x4, .int .i64 x5, .int .i64 x6, .int .i64 x7, .int .i64 x8, .int .i64 x9, .int .i64 x10, .int .i64 x11, .int .i64 x12], .agg #[.string (bs name), .int .i64 1, .int .i64 m, .int .i64 x3, .int .i64 x4, .string ⟨#[]⟩, .string ⟨#[]⟩, .int .i64 x5, .string ⟨#[]⟩, .slice none 0 0], dv] w (EntP w0 gr mf bv lv pv PL w fun c L' mo' => c = (grpV (findP [x0, x7, x8, x9, x10] s) L name m x3 x4 x5 d).1 ∧ (c = 0 → L' = (grpV (findP [x0, x7, x8, x9, x10] s) L name m x3 x4 x5 d).2 ∧ MapR 5 mo' (if findP [x0, x7, x8, x9, x10] s = none then s ++ [([x0, x7, x8, x9, x10], L.length)] else s)) ∧ (c ≠ 0 → L' = L)) := by
  obtain ⟨Ad, capd, rfl, hd1, hd2⟩ := hd.form
  unfold maxLen at hd2
  have hbuild : ∀ W : World, (Instr.build 157 #[(0, .int .i64 x0), (1, .int .i64 x7), (2, .int .i64 x8), (3, .int .i64 x9), (4, .int .i64 x10)]).run Tryd.prog W = .ok (.agg #[.int .i64 x0, .int .i64 x7, .int .i64 x8, .int .i64 x9, .int .i64 x10]) W := fun W => run_build W _ _ _ (by kernel_rfl)
  have hmt : Tryd.prog.underlying 62 = some (.map 157 3) := Tryd.underlying62
  have hkt : Tryd.prog.underlying 157 = some (.array 5 3) := Tryd.underlying157
  have hit : Tryd.prog.underlying 3 = some (.int .i64) := Tryd.underlying3
  have hsz : ∀ W : World, (sizeOf 3).run Tryd.prog W = .ok 1 W := fun W => by kernel_rfl
  have hzv : ∀ W : World, (zeroValue 3).run Tryd.prog W = .ok (.int .i64 0) W := fun W => by kernel_rfl
  have HGET := Lib.hid (fun (W : World) (mo' : Obj) (hb : W.heap[mf]? = some mo') (h : MapR 5 mo' s) => mapR_get W hmt hkt hit hsz hzv hb h [x0, x7, x8, x9, x10] rfl)
  have HPUT := Lib.hid (fun (W : World) (hb : W.heap[mf]? = some mo) (hn : findP [x0, x7, x8, x9, x10] s = none) => mapR_put W hmt hkt hit hsz hb hM [x0, x7, x8, x9, x10] rfl hn L.length)
  clear hmt hkt hit hsz hzv
  have HK : Hid (keyA [x0, x7, x8, x9, x10] = .agg #[.int .i64 x0, .int .i64 x7, .int .i64 x8, .int .i64 x9, .int .i64 x10]) := Lib.hid rfl
  rw [HK.out] at HGET HPUT
  obtain ⟨fn, HFN⟩ : ∃ o, Hid (findP [x0, x7, x8, x9, x10] s = o) := ⟨_, Lib.hid rfl⟩
  rw [HFN.out] at hF HGET HPUT ⊢
  obtain ⟨GV, HGV⟩ : ∃ v, Hid (grpV fn L name m x3 x4 x5 d = v) := ⟨_, Lib.hid rfl⟩
  rw [HGV.out]
  obtain ⟨Al, cl, hlv⟩ := own_form hrd0.row
  go_enter Tryd.func80, Tryd.ntmps80
  go_upto_region 1 with fail
  have bN := Blk.new w 57 #[.int .i64 x0, .int .i64 x1, .int .i64 x2, .int .i64 x3, .int .i64 x4, .int .i64 x5, .int .i64 x6, .int .i64 x7, .int .i64 x8, .int .i64 x9, .int .i64 x10, .int .i64 x11, .int .i64 x12]
  have hq := (Below.refl w.heap.size w).alloc (Nat.le_refl _) (.cells #[.int .i64 x0, .int .i64 x1, .int .i64 x2, .int .i64 x3, .int .i64 x4, .int .i64 x5, .int .i64 x6, .int .i64 x7, .int .i64 x8, .int .i64 x9, .int .i64 x10, .int .i64 x11, .int .i64 x12] 57)
  have hs1 : (w.alloc (.cells #[.int .i64 x0, .int .i64 x1, .int .i64 x2, .int .i64 x3, .int .i64 x4, .int .i64 x5, .int .i64 x6, .int .i64 x7, .int .i64 x8, .int .i64 x9, .int .i64 x10, .int .i64 x11, .int .i64 x12] 57)).heap.size = w.heap.size + 1 := by
    show (w.heap.push _).size = _
    rw [Array.size_push]
  generalize w.alloc (.cells #[.int .i64 x0, .int .i64 x1, .int .i64 x2, .int .i64 x3, .int .i64 x4, .int .i64 x5, .int .i64 x6, .int .i64 x7, .int .i64 x8, .int .i64 x9, .int .i64 x10, .int .i64 x11, .int .i64 x12] 57) = W1 at bN hq hs1 ⊢
  have bE := Blk.new W1 tE #[.string (bs name), .int .i64 1, .int .i64 m, .int .i64 x3, .int .i64 x4, .string ⟨#[]⟩, .string ⟨#[]⟩, .int .i64 x5, .string ⟨#[]⟩, .slice none 0 0]
  have hq2 : Below w.heap.size w (W1.alloc (.cells #[.string (bs name), .int .i64 1, .int .i64 m, .int .i64 x3, .int .i64 x4, .string ⟨#[]⟩, .string ⟨#[]⟩, .int .i64 x5, .string ⟨#[]⟩, .slice none 0 0] tE)) := hq.alloc hq.size _
  have bN2 := bN.below ((Below.refl W1.heap.size W1).alloc (Nat.le_refl _) (.cells #[.string (bs name), .int .i64 1, .int .i64 m, .int .i64 x3, .int .i64 x4, .string ⟨#[]⟩, .string ⟨#[]⟩, .int .i64 x5, .string ⟨#[]⟩, .slice none 0 0] tE)) bN.lt
  have hgE : w.heap.size ≤ W1.heap.size := hq.size
  clear hq bN
  generalize W1.alloc (.cells #[.string (bs name), .int .i64 1, .int .i64 m, .int .i64 x3, .int .i64 x4, .string ⟨#[]⟩, .string ⟨#[]⟩, .int .i64 x5, .string ⟨#[]⟩, .slice none 0 0] tE) = W2 at bE hq2 bN2 ⊢
  rw [hs1] at bE hgE
  clear hs1
  generalize hgE1 : w.heap.size + 1 = gE at bE hgE ⊢
  clear hgE1
  have hlvE : lv.ownBlock ≠ some gE := fun e => by have := (hrd0.row.lt _ e).2; omega
  obtain ⟨e0, e1, e2, e3, e4, e5, e6, e7, e8, e9, e10, e11, e12⟩ := bN2.cells13
  go_upto_region 2 with fail
  have bK := Blk.new W2 157 #[.int .i64 x0, .int .i64 x7, .int .i64 x8, .int .i64 x9, .int .i64 x10]
  have hqK := (Below.refl W2.heap.size W2).alloc (Nat.le_refl _) (.cells #[.int .i64 x0, .int .i64 x7, .int .i64 x8, .int .i64 x9, .int .i64 x10] 157)
  have hq3 : Below w.heap.size w (W2.alloc (.cells #[.int .i64 x0, .int .i64 x7, .int .i64 x8, .int .i64 x9, .int .i64 x10] 157)) := hq2.alloc hq2.size _
  have bE2 := bE.below hqK bE.lt
  have hgK : w.heap.size ≤ W2.heap.size := hq2.size
  clear hqK bN2 bE hq2 hbuild e0 e1 e2 e3 e4 e5 e6 e7 e8 e9 e10 e11 e12
  generalize W2.alloc (.cells #[.int .i64 x0, .int .i64 x7, .int .i64 x8, .int .i64 x9, .int .i64 x10] 157) = W3 at bK hq3 bE2 ⊢
  generalize W2.heap.size = gK at bK hgK ⊢
  have rd := hrd0.below (hq3.drew)
  have bK := (show Blk W3.drew gK 157 #[.int .i64 x0, .int .i64 x7, .int .i64 x8, .int .i64 x9, .int .i64 x10] from bK)
  have bE := (show Blk W3.drew gE tE #[.string (bs name), .int .i64 1, .int .i64 m, .int .i64 x3, .int .i64 x4, .string ⟨#[]⟩, .string ⟨#[]⟩, .int .i64 x5, .string ⟨#[]⟩, .slice none 0 0] from bE2)
  have hkw : Kept (BX gr mf lv pv) w W3.drew := Kept.of_below hq3.drew _
  have hslW : ∀ W, Below w.heap.size w W → Sl 1 Rbyte (fun k => w0.heap.size ≤ k) W (.slice Ad d.length capd) d := fun W h => hd.keep good_byte (Kept.low (hrd0.bel.trans (h.mono hrd0.bel.size)))
  have hdW := hslW _ hq3.drew
  have hHW : w.heap.size ≤ W3.drew.heap.size := hq3.drew.size
  have hBXn : ∀ bb, w.heap.size ≤ bb → ¬ BX gr mf lv pv bb := fun bb h1 h2 => by
    rcases h2 with h2 | h2 | h2 | h2
    · have := hrd0.blk.lt; omega
    · have := (Array.getElem?_eq_some_iff.1 hrd0.mp).1; omega
    · have := (hrd0.row.lt _ h2).2; omega
    · have := (hrd0.pl.lt _ h2).2; omega
  obtain ⟨k0, k1, k2, k3, k4⟩ : W3.cell? ⟨gK, 0, none⟩ = some (.int .i64 x0) ∧ W3.cell? ⟨gK, 1, none⟩ = some (.int .i64 x7) ∧ W3.cell? ⟨gK, 2, none⟩ = some (.int .i64 x8) ∧ W3.cell? ⟨gK, 3, none⟩ = some (.int .i64 x9) ∧ W3.cell? ⟨gK, 4, none⟩ = some (.int .i64 x10) := by
    have d0 := bK.cell 0
    have d1 := bK.cell 1
    have d2 := bK.cell 2
    have d3 := bK.cell 3
    have d4 := bK.cell 4
    simp at d0 d1 d2 d3 d4
    exact ⟨d0, d1, d2, d3, d4⟩
  have r3 : W3.cell? ⟨gr, 3, none⟩ = some (.map (some mf)) := by have := rd.blk.cell 3; simpa using this
  have hget := HGET.out W3.drew mo rd.mp hM
  have HHF := Lib.hid hF
  clear hF bE2 hq3
  cases fn with
  | none =>
    simp only [Option.getD_none, Option.isSome_none] at hget
    refine wp_region_plan (fun W => W.cell? ⟨gr, 3, none⟩ = some (.map (some mf)) ∧ W.cell? ⟨gK, 0, none⟩ = some (.int .i64 x0) ∧ W.cell? ⟨gK, 1, none⟩ = some (.int .i64 x7) ∧ W.cell? ⟨gK, 2, none⟩ = some (.int .i64 x8) ∧ W.cell? ⟨gK, 3, none⟩ = some (.int .i64 x9) ∧ W.cell? ⟨gK, 4, none⟩ = some (.int .i64 x10) ∧ (Instr.lookup 62 (.map (some mf)) (.agg #[.int .i64 x0, .int .i64 x7, .int .i64 x8, .int .i64 x9, .int .i64 x10]) true).run Tryd.prog W = .ok (.tuple #[.int .i64 ((0 : Nat) : Int), .bool false]) W) [(false, 0), (false, 1), (false, 2), (false, 3), (false, 4), (false, 5), (false, 6), (false, 7), (false, 8), (false, 9), (false, 10)] (by kernel_rfl) (by kernel_rfl) (⟨r3, k0, k1, k2, k3, k4, hget⟩) ?_
    simp only [planOps, List.map, List.getD_cons_zero, List.getD_cons_succ]
    iterate 11 ((first | refine plan_quiet (v := ?_) rfl rfl (fun w' hw' => ?_) ?_ | refine plan_calm (v := ?_) (tt_of) rfl (fun w' hw' => ?_) ?_); rotate_left; (focus (go_simp <;> (first | with_reducible rfl | (rw [if_neg (by simp [undef])]; try rfl)))); simp only [Act.put, List.setIfInBounds_toArray, List.set_cons_zero, List.set_cons_succ])
    refine plan_end ?_
    clear hget HGET
    generalize W3.drew = WB at rd bE bK hkw hdW hHW ⊢
    obtain ⟨k0, k1, k2, k3, k4⟩ : WB.cell? ⟨gK, 0, none⟩ = some (.int .i64 x0) ∧ WB.cell? ⟨gK, 1, none⟩ = some (.int .i64 x7) ∧ WB.cell? ⟨gK, 2, none⟩ = some (.int .i64 x8) ∧ WB.cell? ⟨gK, 3, none⟩ = some (.int .i64 x9) ∧ WB.cell? ⟨gK, 4, none⟩ = some (.int .i64 x10) := by
      have d0 := bK.cell 0
      have d1 := bK.cell 1
      have d2 := bK.cell 2
      have d3 := bK.cell 3
      have d4 := bK.cell 4
      simp at d0 d1 d2 d3 d4
      exact ⟨d0, d1, d2, d3, d4⟩
    have r3 : WB.cell? ⟨gr, 3, none⟩ = some (.map (some mf)) := by have := rd.blk.cell 3; simpa using this
    have r1 : WB.cell? ⟨gr, 1, none⟩ = some (.slice Al L.length cl) := by have := rd.blk.cell 1; rw [hlv] at this; simpa using this
    have rdD := rd.below ((Below.refl _ WB).drew)
    obtain ⟨mo', hM', hmo', hput⟩ := HPUT.out WB.drew rdD.mp rfl
    obtain ⟨rdM, hkM0⟩ := rdD.map hmo'
    generalize ({ WB.drew with heap := WB.drew.heap.setIfInBounds mf mo' } : World) = WM at rdM hkM0 hput
    have hmf : mf < w.heap.size := (Array.getElem?_eq_some_iff.1 hrd0.mp).1
    have hkM : Kept (BX gr mf lv pv) WB.drew WM := hkM0.mono fun k _ e => .inr (.inl e)
    have hkMw : Kept (BX gr mf lv pv) w WM := (hkw.trans (Kept.of_below ((Below.refl _ WB).drew) _)).trans hkM
    have bEM : Blk WM gE tE #[.string (bs name), .int .i64 1, .int .i64 m, .int .i64 x3, .int .i64 x4, .string ⟨#[]⟩, .string ⟨#[]⟩, .int .i64 x5, .string ⟨#[]⟩, .slice none 0 0] := hkM.blk (show Blk WB.drew gE tE #[.string (bs name), .int .i64 1, .int .i64 m, .int .i64 x3, .int .i64 x4, .string ⟨#[]⟩, .string ⟨#[]⟩, .int .i64 x5, .string ⟨#[]⟩, .slice none 0 0] from bE) (hBXn gE hgE)
    have hdM : Sl 1 Rbyte (fun k => w0.heap.size ≤ k) WM (.slice Ad d.length capd) d := (Below.sl good_byte ((Below.refl _ WB).drew) hdW).keep good_byte (hkM.mono fun k _ h => by
      rcases h with h | h | h | h
      · rw [h]; exact hrd0.grH
      · rw [h]; exact hrd0.mfH
      · exact (hrd0.row.lt _ h).1
      · exact (hrd0.pl.lt _ h).1)
    have hHM : w.heap.size ≤ WM.heap.size := hkMw.size
    go_upto_region 4 with fail
    refine wp_region_plan (fun W => W.cell? ⟨gr, 3, none⟩ = some (.map (some mf)) ∧ W.cell? ⟨gr, 1, none⟩ = some (.slice Al L.length cl) ∧ W.cell? ⟨gK, 0, none⟩ = some (.int .i64 x0) ∧ W.cell? ⟨gK, 1, none⟩ = some (.int .i64 x7) ∧ W.cell? ⟨gK, 2, none⟩ = some (.int .i64 x8) ∧ W.cell? ⟨gK, 3, none⟩ = some (.int .i64 x9) ∧ W.cell? ⟨gK, 4, none⟩ = some (.int .i64 x10)) [(false, 0), (false, 1), (false, 2), (false, 3), (false, 4), (false, 5), (false, 6), (false, 7), (false, 8), (false, 9), (true, 10)] (by kernel_rfl) (by kernel_rfl) (⟨r3, r1, k0, k1, k2, k3, k4⟩) ?_
    simp only [planOps, List.map, List.getD_cons_zero, List.getD_cons_succ]
    iterate 10 ((first | refine plan_quiet (v := ?_) rfl rfl (fun w' hw' => ?_) ?_ | refine plan_calm (v := ?_) (tt_of) rfl (fun w' hw' => ?_) ?_); rotate_left; (focus (go_simp <;> (first | with_reducible rfl | (rw [if_neg (by simp [undef])]; try rfl)))); simp only [Act.put, List.setIfInBounds_toArray, List.set_cons_zero, List.set_cons_succ])
    refine plan_loud rfl (fun K hK => ?_)
    go_simp
    have r3M : WM.cell? ⟨gr, 3, none⟩ = some (.map (some mf)) := by have := rdM.blk.cell 3; simpa using this
    have r1M : WM.cell? ⟨gr, 1, none⟩ = some (.slice Al L.length cl) := by have := rdM.blk.cell 1; rw [hlv] at this; simpa using this
    have hgm : ¬ gK = mf := by omega
    refine hK _ _ (⟨r3M, r1M, hkM0.cell k0 hgm, hkM0.cell k1 hgm, hkM0.cell k2 hgm, hkM0.cell k3 hgm, hkM0.cell k4 hgm⟩) ?_
    clear hK K
    (try simp only [Act.put, List.setIfInBounds_toArray, List.set_cons_zero, List.set_cons_succ])
    refine plan_end ?_
    clear r3M r1M hgm
    clear hlv r3 r1 k0 k1 k2 k3 k4 hput HPUT rd rdD hkw bE bK hdW hkM hHW
    have hcl := bclone_any d (.slice Ad d.length capd) _ WM hdM (by omega)
    have f9 := bEM.frozen 9
    obtain ⟨c0, c1, c2, c3, c4, c5, c6, c7, c8, c9⟩ := bEM.cells10
    go_upto_region 6 with (go_at_call 81; refine hcl.mono ?_; rintro r W4 ⟨⟨vd, rfl, how⟩, hb4⟩; obtain ⟨Av, cv, rfl⟩ := how.form; have bE4 := bEM.below hb4 bEM.lt; have g9 := bE4.cells10.2.2.2.2.2.2.2.2.2; have f9 := bE4.frozen 9)
    have hvn : ∀ bb, (Value.slice Av d.length cv).ownBlock = some bb → WM.heap.size ≤ bb := fun bb hbb => own_typed_ge how hbb
    have bE5 : Blk (W4.setCell ⟨gE, 9, none⟩ (.slice Av d.length cv)) gE tE #[.string (bs name), .int .i64 1, .int .i64 m, .int .i64 x3, .int .i64 x4, .string ⟨#[]⟩, .string ⟨#[]⟩, .int .i64 x5, .string ⟨#[]⟩, .slice Av d.length cv] := bE4.set (u := .slice Av d.length cv) 9
    have hvE : ¬ (Value.slice Av d.length cv).ownBlock = some gE := fun e => by have := hvn gE e; have := bEM.lt; omega
    have hkE : Kept (fun k => k = gE) W4 (W4.setCell ⟨gE, 9, none⟩ (.slice Av d.length cv)) := (Kept.refl _ W4).setCell (p := ⟨gE, 9, none⟩) _ fun _ => rfl
    have rd4 := rdM.below hb4
    have hnE : ∀ k, BX gr mf lv pv k → k ≠ gE := fun k h e => hBXn gE hgE (e ▸ h)
    have hq5 : Kept (BX gr mf lv pv) w (W4.setCell ⟨gE, 9, none⟩ (.slice Av d.length cv)) := (hkMw.trans (Kept.of_below hb4 _)).setCell _ fun h => absurd h (by simp; omega)
    have rd5 : RD w0 gr mf bv lv pv L f PL mo' (W4.setCell ⟨gE, 9, none⟩ (.slice Av d.length cv)) := rd4.pokeE bE4 (Nat.le_trans hrd0.bel.size hgE) hlvE 9 _
    have hslv2 : Sl 1 Rbyte (BX gr mf lv pv) (W4.setCell ⟨gE, 9, none⟩ (.slice Av d.length cv)) (.slice Av d.length cv) d := by
      have h1 := (how.to free_byte (Y := fun k => BX gr mf lv pv k ∨ k = gE) (fun k hk h => h.elim (fun h => hBXn k (Nat.le_trans hHM (own_typed_ge how hk)) h) (fun h => hvE (by rw [← h]; exact hk)))).sl good_byte
      exact (h1.keep good_byte (hkE.mono fun k _ e => .inr e)).mono good_byte (by omega) fun k _ h => .inl h
    clear c0 c1 c2 c3 c4 c5 c6 c7 c8 c9 bE4 g9 f9 hkE rd4 how hb4 hcl bEM hkMw rdM hdM
    generalize W4.setCell ⟨gE, 9, none⟩ (.slice Av d.length cv) = W6 at bE5 hq5 rd5 hslv2 ⊢
    obtain ⟨c0, c1, c2, c3, c4, c5, c6, c7, c8, c9⟩ := bE5.cells10
    have r1 : W6.cell? ⟨gr, 1, none⟩ = some lv := by have := rd5.blk.cell 1; simpa using this
    refine wp_region_plan2 (wkD [56]) (fun W => W.cell? ⟨gr, 1, none⟩ = some lv ∧ W.cell? ⟨gE, 0, none⟩ = some (.string (bs name)) ∧ W.cell? ⟨gE, 1, none⟩ = some (.int .i64 1) ∧ W.cell? ⟨gE, 2, none⟩ = some (.int .i64 m) ∧ W.cell? ⟨gE, 3, none⟩ = some (.int .i64 x3) ∧ W.cell? ⟨gE, 4, none⟩ = some (.int .i64 x4) ∧ W.cell? ⟨gE, 5, none⟩ = some (.string ⟨#[]⟩) ∧ W.cell? ⟨gE, 6, none⟩ = some (.string ⟨#[]⟩) ∧ W.cell? ⟨gE, 7, none⟩ = some (.int .i64 x5) ∧ W.cell? ⟨gE, 8, none⟩ = some (.string ⟨#[]⟩) ∧ W.cell? ⟨gE, 9, none⟩ = some (.slice Av d.length cv)) (fun _ => True) (fun _ _ => trivial) [(false, 0), (false, 1), (false, 2), (false, 3), (false, 4), (false, 5), (true, 6), (true, 7), (false, 8), (false, 9), (true, 10)] (by kernel_rfl) (by kernel_rfl) (⟨r1, c0, c1, c2, c3, c4, c5, c6, c7, c8, c9⟩) ?_
    simp only [planOps, List.map, List.getD_cons_zero, List.getD_cons_succ]
    iterate 6 ((first | refine plan_quiet (v := ?_) rfl rfl (fun w' hw' => ?_) ?_ | refine plan_calm (v := ?_) (fun _ _ => trivial) rfl (fun w' hw' => ?_) ?_); rotate_left; (focus (go_simp <;> (first | with_reducible rfl | (rw [if_neg (by simp [undef])]; try rfl)))); simp only [Act.put, List.setIfInBounds_toArray, List.set_cons_zero, List.set_cons_succ])
    refine plan_loud rfl (fun K hK => ?_)
    go_simp
    have hbA : Below W6.heap.size W6 (W6.alloc (.cells #[.string (bs name), .int .i64 1, .int .i64 m, .int .i64 x3, .int .i64 x4, .string ⟨#[]⟩, .string ⟨#[]⟩, .int .i64 x5, .string ⟨#[]⟩, .slice Av d.length cv] tE)).drew := ((Below.refl _ W6).alloc (Nat.le_refl _) _).drew
    have KK := Kept.of_below hbA nowhere
    refine hK _ _ (⟨KK.cell r1 (fun h => h), KK.cell c0 (fun h => h), KK.cell c1 (fun h => h), KK.cell c2 (fun h => h), KK.cell c3 (fun h => h), KK.cell c4 (fun h => h), KK.cell c5 (fun h => h), KK.cell c6 (fun h => h), KK.cell c7 (fun h => h), KK.cell c8 (fun h => h), KK.cell c9 (fun h => h)⟩) ?_
    clear hK K
    (try simp only [Act.put, List.setIfInBounds_toArray, List.set_cons_zero, List.set_cons_succ])
    refine plan_loud rfl (fun K hK => ?_)
    have rdA := rd5.below hbA
    have bS : Blk (W6.alloc (.cells #[.string (bs name), .int .i64 1, .int .i64 m, .int .i64 x3, .int .i64 x4, .string ⟨#[]⟩, .string ⟨#[]⟩, .int .i64 x5, .string ⟨#[]⟩, .slice Av d.length cv] tE)).drew W6.heap.size tE #[.string (bs name), .int .i64 1, .int .i64 m, .int .i64 x3, .int .i64 x4, .string ⟨#[]⟩, .string ⟨#[]⟩, .int .i64 x5, .string ⟨#[]⟩, .slice Av d.length cv] := Blk.new W6 _ _
    have bEA := bE5.below hbA bE5.lt
    have hslA := Below.sl good_byte hbA hslv2
    have hkA : Kept (BX gr mf lv pv) w (W6.alloc (.cells #[.string (bs name), .int .i64 1, .int .i64 m, .int .i64 x3, .int .i64 x4, .string ⟨#[]⟩, .string ⟨#[]⟩, .int .i64 x5, .string ⟨#[]⟩, .slice Av d.length cv] tE)).drew := hq5.trans (Kept.of_below hbA _)
    clear KK r1 c0 c1 c2 c3 c4 c5 c6 c7 c8 c9 hbA
    generalize (W6.alloc (.cells #[.string (bs name), .int .i64 1, .int .i64 m, .int .i64 x3, .int .i64 x4, .string ⟨#[]⟩, .string ⟨#[]⟩, .int .i64 x5, .string ⟨#[]⟩, .slice Av d.length cv] tE)).drew = WA at rdA bS bEA hslA hkA ⊢
    generalize W6.heap.size = gS at bS ⊢
    obtain ⟨c0, c1, c2, c3, c4, c5, c6, c7, c8, c9⟩ := bEA.cells10
    have r1 : WA.cell? ⟨gr, 1, none⟩ = some lv := by have := rdA.blk.cell 1; simpa using this
    refine wp_appendEO (M := [entM name 1 m x3 x4 x5 [] d]) (g := fun _ => .slice Av d.length cv) _ _ rfl rfl rdA.eo rfl (fun h => by cases h) (fun _ => ⟨⟨gS, 0, none⟩, rfl, fun j u hu => by
      have hu2 : (entC (entM name 1 m x3 x4 x5 [] d) (.slice Av d.length cv))[j]? = some u := by simpa [ofC] using hu
      rw [Addr.add_lit, Nat.zero_add, bS.cell]
      show (List.toArray _)[j]? = _
      rw [List.getElem?_toArray]
      exact hu2⟩) (fun j hj => by
        have hj0 : j = 0 := by simp at hj; exact hj
        subst hj0
        exact hslA.mono good_byte (by omega) fun k _ e => .inr (.inr (.inl e))) (by simp; omega) rdA.bel.size ?_
    intro v' W' hE' hk' hob'
    obtain ⟨A', c', rfl⟩ := own_form hE'.row
    have KK := hk'
    refine hK _ _ (⟨KK.cell r1 (own_notblk rdA.row rdA.blk (by decide)), KK.cell c0 hlvE, KK.cell c1 hlvE, KK.cell c2 hlvE, KK.cell c3 hlvE, KK.cell c4 hlvE, KK.cell c5 hlvE, KK.cell c6 hlvE, KK.cell c7 hlvE, KK.cell c8 hlvE, KK.cell c9 hlvE⟩) ?_
    clear hK K
    (try simp only [Act.put, List.setIfInBounds_toArray, List.set_cons_zero, List.set_cons_succ])
    iterate 2 ((first | refine plan_quiet (v := ?_) rfl rfl (fun w' hw' => ?_) ?_ | refine plan_calm (v := ?_) (fun _ _ => trivial) rfl (fun w' hw' => ?_) ?_); rotate_left; (focus (go_simp <;> (first | with_reducible rfl | (rw [if_neg (by simp [undef])]; try rfl)))); simp only [Act.put, List.setIfInBounds_toArray, List.set_cons_zero, List.set_cons_succ])
    refine plan_last rfl (by kernel_rfl) (by kernel_rfl) (fun K hK => ?_)
    have b1 := hk'.blk rdA.blk (own_notblk rdA.row rdA.blk (by decide))
    have r1' : W'.cell? ⟨gr, 1, none⟩ = some lv := by have := b1.cell 1; simpa using this
    have fr1 := b1.frozen 1
    have hfin := rdA.app hE' hk' hob' hslA (fun bb hbb => Nat.le_trans hrd0.bel.size (Nat.le_trans hHM (hvn bb hbb)))
    rw [show (L ++ [entM name 1 m x3 x4 x5 [] d]).length = L.length + 1 by simp] at hfin
    have hkp : Kept (BX gr mf lv pv) w (W'.setCell ⟨gr, 1, none⟩ (.slice A' (L ++ [entM name 1 m x3 x4 x5 [] d]).length c')) := (hkA.trans (hk'.mono fun k _ h => .inr (.inr (.inl h)))).setCell _ fun _ => .inl rfl
    rw [show (L ++ [entM name 1 m x3 x4 x5 [] d]).length = L.length + 1 by simp] at hkp
    clear KK hkA
    go_simp
    refine hK _ _ (trivial) ?_
    clear hK K
    (try simp only [Act.put, List.setIfInBounds_toArray, List.set_cons_zero, List.set_cons_succ])
    refine plan_end ?_
    clear r1' fr1 b1 hk' hob' hE' hslA bEA bS rdA r1 c0 c1 c2 c3 c4 c5 c6 c7 c8 c9
    go_wp2_with fail
    go_ret
    exact ⟨_, _, _, _, _, rfl, hfin, hkp, by rw [← HGV.out]; rfl, fun _ => ⟨by rw [← HGV.out]; rfl, by first | exact hM' | (rw [if_pos rfl]; exact hM')⟩, fun h => absurd rfl h⟩
  | some i =>
    obtain ⟨hi, hk1⟩ := HHF.out i rfl
    simp only [Option.getD_some, Option.isSome_some] at hget
    refine wp_region_plan (fun W => W.cell? ⟨gr, 3, none⟩ = some (.map (some mf)) ∧ W.cell? ⟨gK, 0, none⟩ = some (.int .i64 x0) ∧ W.cell? ⟨gK, 1, none⟩ = some (.int .i64 x7) ∧ W.cell? ⟨gK, 2, none⟩ = some (.int .i64 x8) ∧ W.cell? ⟨gK, 3, none⟩ = some (.int .i64 x9) ∧ W.cell? ⟨gK, 4, none⟩ = some (.int .i64 x10) ∧ (Instr.lookup 62 (.map (some mf)) (.agg #[.int .i64 x0, .int .i64 x7, .int .i64 x8, .int .i64 x9, .int .i64 x10]) true).run Tryd.prog W = .ok (.tuple #[.int .i64 (i : Int), .bool true]) W) [(false, 0), (false, 1), (false, 2), (false, 3), (false, 4), (false, 5), (false, 6), (false, 7), (false, 8), (false, 9), (false, 10)] (by kernel_rfl) (by kernel_rfl) (⟨r3, k0, k1, k2, k3, k4, hget⟩) ?_
    simp only [planOps, List.map, List.getD_cons_zero, List.getD_cons_succ]
    iterate 11 ((first | refine plan_quiet (v := ?_) rfl rfl (fun w' hw' => ?_) ?_ | refine plan_calm (v := ?_) (tt_of) rfl (fun w' hw' => ?_) ?_); rotate_left; (focus (go_simp <;> (first | with_reducible rfl | (rw [if_neg (by simp [undef])]; try rfl)))); simp only [Act.put, List.setIfInBounds_toArray, List.set_cons_zero, List.set_cons_succ])
    refine plan_end ?_
    clear hget HGET HPUT k0 k1 k2 k3 k4 r3
    generalize W3.drew = WB at rd bE bK hkw hdW hHW ⊢
    obtain ⟨g, cap', hlv2⟩ : ∃ g cap', lv = .slice (some ⟨g, 0, none⟩) L.length cap' := by
      obtain ⟨g, cap', h, _⟩ := rd.eo.form (by omega)
      exact ⟨g, cap', h⟩
    have heo := rd.eo
    rw [hlv2] at heo
    have hAt := heo.cell i hi
    have hxd := rd.dat i hi
    obtain ⟨Ax, cx, hfx, hx1, hx2⟩ := hxd.form
    rw [hfx] at hAt
    have hgE2 : g ≠ gE := fun e => hlvE (by rw [hlv2, ← e]; rfl)
    have HG : Hid (grpV (some i) L name m x3 x4 x5 d = if (m : Int) ≠ L[i].mode ∨ (x3 : Int) ≠ L[i].uid ∨ (x4 : Int) ≠ L[i].gid ∨ (x5 : Int) ≠ L[i].mtime then (3, L) else if d ≠ [] ∧ L[i].data ≠ [] then (3, L) else (0, (if d = [] then L else L.set i { L[i] with data := d }) ++ [entM name 4 m x3 x4 x5 L[i].path []])) := Lib.hid (by rw [grpV]; simp only [List.getElem?_eq_getElem hi])
    rw [HGV.out] at HG
    have HDAT := Lib.hid (fun (WW : World) (rdW : RD w0 gr mf bv lv pv L f PL mo WW) (u : Value) (hsu : Sl 1 Rbyte (BX gr mf lv pv) WW u d) (hun : ∀ bb, u.ownBlock = some bb → w0.heap.size ≤ bb) => rdW.data hlv2 i hi u d hsu hun)
    have a0 := hAt.c0
    have a2 := hAt.c2
    have a3 := hAt.c3
    have a4 := hAt.c4
    have a7 := hAt.c7
    have a9 := hAt.c9
    generalize hpth : L[i].path = pth at a0 HG
    generalize L[i].mode = xm at a2 HG
    generalize L[i].uid = xu at a3 HG
    generalize L[i].gid = xg at a4 HG
    generalize L[i].mtime = xt at a7 HG
    obtain ⟨xn, HXN⟩ : ∃ n, Hid (L[i].data.length = n) := ⟨_, Lib.hid rfl⟩
    rw [HXN.out] at a9
    have HXD : Hid (L[i].data ≠ [] ↔ 0 < xn) := Lib.hid (by rw [← HXN.out]; exact (List.length_pos_iff).symm)
    obtain ⟨c0, c1, c2, c3, c4, c5, c6, c7, c8, c9⟩ := bE.cells10
    have r1 : WB.cell? ⟨gr, 1, none⟩ = some (.slice (some ⟨g, 0, none⟩) L.length cap') := by have := rd.blk.cell 1; rw [hlv2] at this; simpa using this
    have j1 : (0 : Int) ≤ (i : Int) := by omega
    have j2 : (i : Int) < (L.length : Int) := by omega
    have j3 : i < L.length := hi
    go_upto_region 9 with fail
    clear r1
    have hlvH := Lib.hid hlv
    have hlvH2 := Lib.hid hlv2
    clear hlv hlv2
    have rdS := rd.below ((Below.refl _ WB).drew)
    have hkS : Kept (BX gr mf lv pv) w WB.drew := hkw.trans (Kept.of_below ((Below.refl _ WB).drew) _)
    have bES : Blk WB.drew gE tE #[.string (bs name), .int .i64 1, .int .i64 m, .int .i64 x3, .int .i64 x4, .string ⟨#[]⟩, .string ⟨#[]⟩, .int .i64 x5, .string ⟨#[]⟩, .slice none 0 0] := bE
    have hdS : Sl 1 Rbyte (fun k => w0.heap.size ≤ k) WB.drew (.slice Ad d.length capd) d := Below.sl good_byte ((Below.refl _ WB).drew) hdW
    have hHS : w.heap.size ≤ WB.drew.heap.size := hkS.size
    have a0S : WB.drew.cell? ⟨g, i * 10, none⟩ = some (.string (bs pth)) := a0
    have a9S : WB.drew.cell? ⟨g, i * 10 + 9, none⟩ = some (.slice Ax xn cx) := a9
    have hfzS : WB.drew.frozen? ⟨g, i * 10 + 9, none⟩ = false := by
      have h1 := rdS.eo.sl
      rw [hlvH2.out] at h1
      have := h1.free (i * 10 + 9) (by omega)
      simpa using this
    have hgW : g < WB.drew.heap.size := (rdS.row.lt g (by rw [hlvH2.out]; rfl)).2
    by_cases y2 : (m : Int) = xm
    rotate_left
    · have n2 : ((m : Int) == xm) = false := by simpa using y2
      have n2b : ((m : Int) != xm) = true := by simpa using y2
      have HV := Lib.hid (HG.out.trans (if_pos (Or.inl y2)))
      clear y2
      refine wp_region_plan (fun W => W.cell? ⟨gE, 2, none⟩ = some (.int .i64 m) ∧ W.cell? ⟨g, i * 10 + 2, none⟩ = some (.int .i64 xm) ∧ W.cell? ⟨gE, 3, none⟩ = some (.int .i64 x3) ∧ W.cell? ⟨g, i * 10 + 3, none⟩ = some (.int .i64 xu) ∧ W.cell? ⟨gE, 4, none⟩ = some (.int .i64 x4) ∧ W.cell? ⟨g, i * 10 + 4, none⟩ = some (.int .i64 xg) ∧ W.cell? ⟨gE, 7, none⟩ = some (.int .i64 x5) ∧ W.cell? ⟨g, i * 10 + 7, none⟩ = some (.int .i64 xt)) [(false, 0), (false, 1), (false, 2), (false, 3), (false, 4), (false, 5), (false, 6), (false, 7), (false, 8), (false, 9), (false, 10), (false, 11), (false, 12), (false, 13), (false, 14), (false, 15), (false, 16), (false, 17), (false, 18), (false, 19), (false, 20), (false, 21), (false, 22), (false, 23), (false, 24), (false, 25), (false, 26), (false, 27), (false, 28), (false, 29), (false, 30), (false, 31), (false, 32), (false, 33)] (by kernel_rfl) (by kernel_rfl) (⟨c2, a2, c3, a3, c4, a4, c7, a7⟩) ?_
      simp only [planOps, List.map, List.getD_cons_zero, List.getD_cons_succ]
      iterate 34 ((first | refine plan_quiet_guarded (v := ?_) rfl (fun w' hw' => ?_) ?_ | refine plan_calm_guarded (v := ?_) (tt_of) (fun w' hw' => ?_) ?_); rotate_left; (focus (go_simp <;> (first | with_reducible rfl | (rw [if_neg (by simp [undef])]; try rfl)))); simp only [Act.put, List.setIfInBounds_toArray, List.set_cons_zero, List.set_cons_succ])
      refine plan_end ?_
      clear a2 a3 a4 a7 c0 c1 c2 c3 c4 c5 c6 c7 c8 c9 rd bE bK hdW heo hAt hxd
      go_wp2_with fail
      go_ret
      exact ⟨_, _, _, _, _, rfl, rdS, hkS, by rw [HV.out], fun h => absurd h (by decide), fun _ => rfl⟩
    have n2 : ((m : Int) == xm) = true := by simpa using y2
    have n2b : ((m : Int) != xm) = false := by simpa using y2
    by_cases y3 : (x3 : Int) = xu
    rotate_left
    · have n3 : ((x3 : Int) == xu) = false := by simpa using y3
      have n3b : ((x3 : Int) != xu) = true := by simpa using y3
      have HV := Lib.hid (HG.out.trans (if_pos (Or.inr (Or.inl y3))))
      clear y3
      refine wp_region_plan (fun W => W.cell? ⟨gE, 2, none⟩ = some (.int .i64 m) ∧ W.cell? ⟨g, i * 10 + 2, none⟩ = some (.int .i64 xm) ∧ W.cell? ⟨gE, 3, none⟩ = some (.int .i64 x3) ∧ W.cell? ⟨g, i * 10 + 3, none⟩ = some (.int .i64 xu) ∧ W.cell? ⟨gE, 4, none⟩ = some (.int .i64 x4) ∧ W.cell? ⟨g, i * 10 + 4, none⟩ = some (.int .i64 xg) ∧ W.cell? ⟨gE, 7, none⟩ = some (.int .i64 x5) ∧ W.cell? ⟨g, i * 10 + 7, none⟩ = some (.int .i64 xt)) [(false, 0), (false, 1), (false, 2), (false, 3), (false, 4), (false, 5), (false, 6), (false, 7), (false, 8), (false, 9), (false, 10), (false, 11), (false, 12), (false, 13), (false, 14), (false, 15), (false, 16), (false, 17), (false, 18), (false, 19), (false, 20), (false, 21), (false, 22), (false, 23), (false, 24), (false, 25), (false, 26), (false, 27), (false, 28), (false, 29), (false, 30), (false, 31), (false, 32), (false, 33)] (by kernel_rfl) (by kernel_rfl) (⟨c2, a2, c3, a3, c4, a4, c7, a7⟩) ?_
      simp only [planOps, List.map, List.getD_cons_zero, List.getD_cons_succ]
      iterate 34 ((first | refine plan_quiet_guarded (v := ?_) rfl (fun w' hw' => ?_) ?_ | refine plan_calm_guarded (v := ?_) (tt_of) (fun w' hw' => ?_) ?_); rotate_left; (focus (go_simp <;> (first | with_reducible rfl | (rw [if_neg (by simp [undef])]; try rfl)))); simp only [Act.put, List.setIfInBounds_toArray, List.set_cons_zero, List.set_cons_succ])
      refine plan_end ?_
      clear a2 a3 a4 a7 c0 c1 c2 c3 c4 c5 c6 c7 c8 c9 rd bE bK hdW heo hAt hxd
      go_wp2_with fail
      go_ret
      exact ⟨_, _, _, _, _, rfl, rdS, hkS, by rw [HV.out], fun h => absurd h (by decide), fun _ => rfl⟩
    have n3 : ((x3 : Int) == xu) = true := by simpa using y3
    have n3b : ((x3 : Int) != xu) = false := by simpa using y3
    by_cases y4 : (x4 : Int) = xg
    rotate_left
    · have n4 : ((x4 : Int) == xg) = false := by simpa using y4
      have n4b : ((x4 : Int) != xg) = true := by simpa using y4
      have HV := Lib.hid (HG.out.trans (if_pos (Or.inr (Or.inr (Or.inl y4)))))
      clear y4
      refine wp_region_plan (fun W => W.cell? ⟨gE, 2, none⟩ = some (.int .i64 m) ∧ W.cell? ⟨g, i * 10 + 2, none⟩ = some (.int .i64 xm) ∧ W.cell? ⟨gE, 3, none⟩ = some (.int .i64 x3) ∧ W.cell? ⟨g, i * 10 + 3, none⟩ = some (.int .i64 xu) ∧ W.cell? ⟨gE, 4, none⟩ = some (.int .i64 x4) ∧ W.cell? ⟨g, i * 10 + 4, none⟩ = some (.int .i64 xg) ∧ W.cell? ⟨gE, 7, none⟩ = some (.int .i64 x5) ∧ W.cell? ⟨g, i * 10 + 7, none⟩ = some (.int .i64 xt)) [(false, 0), (false, 1), (false, 2), (false, 3), (false, 4), (false, 5), (false, 6), (false, 7), (false, 8), (false, 9), (false, 10), (false, 11), (false, 12), (false, 13), (false, 14), (false, 15), (false, 16), (false, 17), (false, 18), (false, 19), (false, 20), (false, 21), (false, 22), (false, 23), (false, 24), (false, 25), (false, 26), (false, 27), (false, 28), (false, 29), (false, 30), (false, 31), (false, 32), (false, 33)] (by kernel_rfl) (by kernel_rfl) (⟨c2, a2, c3, a3, c4, a4, c7, a7⟩) ?_
      simp only [planOps, List.map, List.getD_cons_zero, List.getD_cons_succ]
      iterate 34 ((first | refine plan_quiet_guarded (v := ?_) rfl (fun w' hw' => ?_) ?_ | refine plan_calm_guarded (v := ?_) (tt_of) (fun w' hw' => ?_) ?_); rotate_left; (focus (go_simp <;> (first | with_reducible rfl | (rw [if_neg (by simp [undef])]; try rfl)))); simp only [Act.put, List.setIfInBounds_toArray, List.set_cons_zero, List.set_cons_succ])
      refine plan_end ?_
      clear a2 a3 a4 a7 c0 c1 c2 c3 c4 c5 c6 c7 c8 c9 rd bE bK hdW heo hAt hxd
      go_wp2_with fail
      go_ret
      exact ⟨_, _, _, _, _, rfl, rdS, hkS, by rw [HV.out], fun h => absurd h (by decide), fun _ => rfl⟩
    have n4 : ((x4 : Int) == xg) = true := by simpa using y4
    have n4b : ((x4 : Int) != xg) = false := by simpa using y4
    by_cases y7 : (x5 : Int) = xt
    rotate_left
    · have n7 : ((x5 : Int) == xt) = false := by simpa using y7
      have n7b : ((x5 : Int) != xt) = true := by simpa using y7
      have HV := Lib.hid (HG.out.trans (if_pos (Or.inr (Or.inr (Or.inr y7)))))
      clear y7
      refine wp_region_plan (fun W => W.cell? ⟨gE, 2, none⟩ = some (.int .i64 m) ∧ W.cell? ⟨g, i * 10 + 2, none⟩ = some (.int .i64 xm) ∧ W.cell? ⟨gE, 3, none⟩ = some (.int .i64 x3) ∧ W.cell? ⟨g, i * 10 + 3, none⟩ = some (.int .i64 xu) ∧ W.cell? ⟨gE, 4, none⟩ = some (.int .i64 x4) ∧ W.cell? ⟨g, i * 10 + 4, none⟩ = some (.int .i64 xg) ∧ W.cell? ⟨gE, 7, none⟩ = some (.int .i64 x5) ∧ W.cell? ⟨g, i * 10 + 7, none⟩ = some (.int .i64 xt)) [(false, 0), (false, 1), (false, 2), (false, 3), (false, 4), (false, 5), (false, 6), (false, 7), (false, 8), (false, 9), (false, 10), (false, 11), (false, 12), (false, 13), (false, 14), (false, 15), (false, 16), (false, 17), (false, 18), (false, 19), (false, 20), (false, 21), (false, 22), (false, 23), (false, 24), (false, 25), (false, 26), (false, 27), (false, 28), (false, 29), (false, 30), (false, 31), (false, 32), (false, 33)] (by kernel_rfl) (by kernel_rfl) (⟨c2, a2, c3, a3, c4, a4, c7, a7⟩) ?_
      simp only [planOps, List.map, List.getD_cons_zero, List.getD_cons_succ]
      iterate 34 ((first | refine plan_quiet_guarded (v := ?_) rfl (fun w' hw' => ?_) ?_ | refine plan_calm_guarded (v := ?_) (tt_of) (fun w' hw' => ?_) ?_); rotate_left; (focus (go_simp <;> (first | with_reducible rfl | (rw [if_neg (by simp [undef])]; try rfl)))); simp only [Act.put, List.setIfInBounds_toArray, List.set_cons_zero, List.set_cons_succ])
      refine plan_end ?_
      clear a2 a3 a4 a7 c0 c1 c2 c3 c4 c5 c6 c7 c8 c9 rd bE bK hdW heo hAt hxd
      go_wp2_with fail
      go_ret
      exact ⟨_, _, _, _, _, rfl, rdS, hkS, by rw [HV.out], fun h => absurd h (by decide), fun _ => rfl⟩
    have n7 : ((x5 : Int) == xt) = true := by simpa using y7
    have n7b : ((x5 : Int) != xt) = false := by simpa using y7
    refine wp_region_plan (fun W => W.cell? ⟨gE, 2, none⟩ = some (.int .i64 m) ∧ W.cell? ⟨g, i * 10 + 2, none⟩ = some (.int .i64 xm) ∧ W.cell? ⟨gE, 3, none⟩ = some (.int .i64 x3) ∧ W.cell? ⟨g, i * 10 + 3, none⟩ = some (.int .i64 xu) ∧ W.cell? ⟨gE, 4, none⟩ = some (.int .i64 x4) ∧ W.cell? ⟨g, i * 10 + 4, none⟩ = some (.int .i64 xg) ∧ W.cell? ⟨gE, 7, none⟩ = some (.int .i64 x5) ∧ W.cell? ⟨g, i * 10 + 7, none⟩ = some (.int .i64 xt)) [(false, 0), (false, 1), (false, 2), (false, 3), (false, 4), (false, 5), (false, 6), (false, 7), (false, 8), (false, 9), (false, 10), (false, 11), (false, 12), (false, 13), (false, 14), (false, 15), (false, 16), (false, 17), (false, 18), (false, 19), (false, 20), (false, 21), (false, 22), (false, 23), (false, 24), (false, 25), (false, 26), (false, 27), (false, 28), (false, 29), (false, 30), (false, 31), (false, 32), (false, 33)] (by kernel_rfl) (by kernel_rfl) (⟨c2, a2, c3, a3, c4, a4, c7, a7⟩) ?_
    simp only [planOps, List.map, List.getD_cons_zero, List.getD_cons_succ]
    iterate 34 ((first | refine plan_quiet_guarded (v := ?_) rfl (fun w' hw' => ?_) ?_ | refine plan_calm_guarded (v := ?_) (tt_of) (fun w' hw' => ?_) ?_); rotate_left; (focus (go_simp <;> (first | with_reducible rfl | (rw [if_neg (by simp [undef])]; try rfl)))); simp only [Act.put, List.setIfInBounds_toArray, List.set_cons_zero, List.set_cons_succ])
    refine plan_end ?_
    clear a2 a3 a4 a7 c0 c1 c2 c3 c4 c5 c6 c7 c8 c9
    have HG2 := Lib.hid (HG.out.trans (if_neg (by rintro (h | h | h | h) <;> exact h (by assumption))))
    clear HG
    clear y2 y3 y4 y7 n2 n3 n4 n7 n2b n3b n4b n7b
    clear a0 a9 heo hAt hxd hdW hHW rd hkw bE bK
    generalize WB.drew = WC at rdS hkS bES hdS hHS a0S a9S hfzS hgW ⊢
    by_cases hd0 : d = []
    · have hdp : decide ((0 : Int) < (d.length : Int)) = false := by rw [hd0]; rfl
      have hdpb : decide (0 < d.length) = false := by rw [hd0]; rfl
      have hdn : d.length = 0 := by rw [hd0]; rfl
      have HV := Lib.hid (HG2.out.trans (if_neg (fun h => h.1 hd0)))
      rw [if_pos hd0] at HV
      clear HG2
      go_upto_region 15 with fail
      clear hdp hdpb hdn hd0 a9S hfzS HDAT
      obtain ⟨c0, c1, c2, c3, c4, c5, c6, c7, c8, c9⟩ := bES.cells10
      have f1 := bES.frozen 1
      have f8 := bES.frozen 8
      have hne1 : (⟨gE, 1, none⟩ : Addr) ≠ ⟨g, i * 10, none⟩ := fun e => hgE2 (by injection e with e; exact e.symm)
      refine wp_region_plan (fun W => W.cell? ⟨g, i * 10, none⟩ = some (.string (bs pth))) [(false, 0), (false, 1), (false, 2), (false, 3), (false, 4), (true, 5), (false, 6), (true, 7)] (by kernel_rfl) (by kernel_rfl) (a0S) ?_
      simp only [planOps, List.map, List.getD_cons_zero, List.getD_cons_succ]
      iterate 5 ((first | refine plan_quiet (v := ?_) rfl rfl (fun w' hw' => ?_) ?_ | refine plan_calm (v := ?_) (tt_of) rfl (fun w' hw' => ?_) ?_); rotate_left; (focus (go_simp <;> (first | with_reducible rfl | (rw [if_neg (by simp [undef])]; try rfl)))); simp only [Act.put, List.setIfInBounds_toArray, List.set_cons_zero, List.set_cons_succ])
      refine plan_loud rfl (fun K hK => ?_)
      go_simp
      have HP1 : (WC.setCell ⟨gE, 1, none⟩ (.int .i64 4)).drew.cell? ⟨g, i * 10, none⟩ = some (.string (bs pth)) := (show (WC.setCell ⟨gE, 1, none⟩ (.int .i64 4)).cell? ⟨g, i * 10, none⟩ = _ by rw [World.cell?_setCell_other _ _ _ _ hne1]; exact a0S)
      refine hK _ _ (HP1) ?_
      clear hK K
      (try simp only [Act.put, List.setIfInBounds_toArray, List.set_cons_zero, List.set_cons_succ])
      iterate 1 ((first | refine plan_quiet (v := ?_) rfl rfl (fun w' hw' => ?_) ?_ | refine plan_calm (v := ?_) (tt_of) rfl (fun w' hw' => ?_) ?_); rotate_left; (focus (go_simp <;> (first | with_reducible rfl | (rw [if_neg (by simp [undef])]; try rfl)))); simp only [Act.put, List.setIfInBounds_toArray, List.set_cons_zero, List.set_cons_succ])
      refine plan_last rfl (by kernel_rfl) (by kernel_rfl) (fun K hK => ?_)
      go_simp
      refine hK _ _ (trivial) ?_
      clear hK K
      (try simp only [Act.put, List.setIfInBounds_toArray, List.set_cons_zero, List.set_cons_succ])
      refine plan_end ?_
      have hgH : w0.heap.size ≤ gE := Nat.le_trans hrd0.bel.size hgE
      have bE1 := bES.set (u := .int .i64 4) 1
      have rdE1 := rdS.pokeE bES hgH hlvE 1 (.int .i64 4)
      have bE1 : Blk (WC.setCell ⟨gE, 1, none⟩ (.int .i64 4)) gE tE #[.string (bs name), .int .i64 4, .int .i64 m, .int .i64 x3, .int .i64 x4, .string ⟨#[]⟩, .string ⟨#[]⟩, .int .i64 x5, .string ⟨#[]⟩, .slice none 0 0] := bE1
      have rdE2 := rdE1.pokeE bE1 hgH hlvE 8 (.string (bs pth))
      have bE2 : Blk ((WC.setCell ⟨gE, 1, none⟩ (.int .i64 4)).setCell ⟨gE, 8, none⟩ (.string (bs pth))) gE tE #[.string (bs name), .int .i64 4, .int .i64 m, .int .i64 x3, .int .i64 x4, .string ⟨#[]⟩, .string ⟨#[]⟩, .int .i64 x5, .string (bs pth), .slice none 0 0] := bE1.set (u := .string (bs pth)) 8
      have hkE2 : Kept (BX gr mf lv pv) w ((WC.setCell ⟨gE, 1, none⟩ (.int .i64 4)).setCell ⟨gE, 8, none⟩ (.string (bs pth))) := (hkS.setCell (p := ⟨gE, 1, none⟩) _ fun h => absurd (show gE < w.heap.size from h) (by omega)).setCell (p := ⟨gE, 8, none⟩) _ fun h => absurd (show gE < w.heap.size from h) (by omega)
      have rdE3 := rdE2.below ((Below.refl _ _).drew)
      have bE3 : Blk ((WC.setCell ⟨gE, 1, none⟩ (.int .i64 4)).setCell ⟨gE, 8, none⟩ (.string (bs pth))).drew gE tE #[.string (bs name), .int .i64 4, .int .i64 m, .int .i64 x3, .int .i64 x4, .string ⟨#[]⟩, .string ⟨#[]⟩, .int .i64 x5, .string (bs pth), .slice none 0 0] := bE2
      have hkE3 : Kept (BX gr mf lv pv) w ((WC.setCell ⟨gE, 1, none⟩ (.int .i64 4)).setCell ⟨gE, 8, none⟩ (.string (bs pth))).drew := hkE2.drew
      clear a0S c0 c1 c2 c3 c4 c5 c6 c7 c8 c9 f1 f8 HP1 rdE1 rdE2 bE1 bE2 hkE2 bES rdS hkS
      go_upto_region 16 with fail
      generalize ((WC.setCell ⟨gE, 1, none⟩ (.int .i64 4)).setCell ⟨gE, 8, none⟩ (.string (bs pth))).drew = W6 at rdE3 bE3 hkE3 ⊢
      have hslE : Sl 1 Rbyte (BX gr mf lv pv) W6 (.slice none 0 0) [] := Sl.nil _ _ _ _
      obtain ⟨c0, c1, c2, c3, c4, c5, c6, c7, c8, c9⟩ := bE3.cells10
      have r1 : W6.cell? ⟨gr, 1, none⟩ = some lv := by have := rdE3.blk.cell 1; simpa using this
      refine wp_region_plan2 (wkD [126]) (fun W => W.cell? ⟨gr, 1, none⟩ = some lv ∧ W.cell? ⟨gE, 0, none⟩ = some (.string (bs name)) ∧ W.cell? ⟨gE, 1, none⟩ = some (.int .i64 4) ∧ W.cell? ⟨gE, 2, none⟩ = some (.int .i64 m) ∧ W.cell? ⟨gE, 3, none⟩ = some (.int .i64 x3) ∧ W.cell? ⟨gE, 4, none⟩ = some (.int .i64 x4) ∧ W.cell? ⟨gE, 5, none⟩ = some (.string ⟨#[]⟩) ∧ W.cell? ⟨gE, 6, none⟩ = some (.string ⟨#[]⟩) ∧ W.cell? ⟨gE, 7, none⟩ = some (.int .i64 x5) ∧ W.cell? ⟨gE, 8, none⟩ = some (.string (bs pth)) ∧ W.cell? ⟨gE, 9, none⟩ = some (.slice none 0 0)) (fun _ => True) (fun _ _ => trivial) [(false, 0), (false, 1), (false, 2), (false, 3), (false, 4), (false, 5), (true, 6), (true, 7), (false, 8), (false, 9), (true, 10)] (by kernel_rfl) (by kernel_rfl) (⟨r1, c0, c1, c2, c3, c4, c5, c6, c7, c8, c9⟩) ?_
      simp only [planOps, List.map, List.getD_cons_zero, List.getD_cons_succ]
      iterate 6 ((first | refine plan_quiet (v := ?_) rfl rfl (fun w' hw' => ?_) ?_ | refine plan_calm (v := ?_) (fun _ _ => trivial) rfl (fun w' hw' => ?_) ?_); rotate_left; (focus (go_simp <;> (first | with_reducible rfl | (rw [if_neg (by simp [undef])]; try rfl)))); simp only [Act.put, List.setIfInBounds_toArray, List.set_cons_zero, List.set_cons_succ])
      refine plan_loud rfl (fun K hK => ?_)
      go_simp
      have hbA : Below W6.heap.size W6 (W6.alloc (.cells #[.string (bs name), .int .i64 4, .int .i64 m, .int .i64 x3, .int .i64 x4, .string ⟨#[]⟩, .string ⟨#[]⟩, .int .i64 x5, .string (bs pth), .slice none 0 0] tE)).drew := ((Below.refl _ W6).alloc (Nat.le_refl _) _).drew
      have KK := Kept.of_below hbA nowhere
      refine hK _ _ (⟨KK.cell r1 (fun h => h), KK.cell c0 (fun h => h), KK.cell c1 (fun h => h), KK.cell c2 (fun h => h), KK.cell c3 (fun h => h), KK.cell c4 (fun h => h), KK.cell c5 (fun h => h), KK.cell c6 (fun h => h), KK.cell c7 (fun h => h), KK.cell c8 (fun h => h), KK.cell c9 (fun h => h)⟩) ?_
      clear hK K
      (try simp only [Act.put, List.setIfInBounds_toArray, List.set_cons_zero, List.set_cons_succ])
      refine plan_loud rfl (fun K hK => ?_)
      have rdA := rdE3.below hbA
      have bS : Blk (W6.alloc (.cells #[.string (bs name), .int .i64 4, .int .i64 m, .int .i64 x3, .int .i64 x4, .string ⟨#[]⟩, .string ⟨#[]⟩, .int .i64 x5, .string (bs pth), .slice none 0 0] tE)).drew W6.heap.size tE #[.string (bs name), .int .i64 4, .int .i64 m, .int .i64 x3, .int .i64 x4, .string ⟨#[]⟩, .string ⟨#[]⟩, .int .i64 x5, .string (bs pth), .slice none 0 0] := Blk.new W6 _ _
      have bEA := bE3.below hbA bE3.lt
      have hslA := Below.sl good_byte hbA hslE
      have hkA : Kept (BX gr mf lv pv) w (W6.alloc (.cells #[.string (bs name), .int .i64 4, .int .i64 m, .int .i64 x3, .int .i64 x4, .string ⟨#[]⟩, .string ⟨#[]⟩, .int .i64 x5, .string (bs pth), .slice none 0 0] tE)).drew := hkE3.trans (Kept.of_below hbA _)
      clear KK r1 c0 c1 c2 c3 c4 c5 c6 c7 c8 c9 hbA
      generalize (W6.alloc (.cells #[.string (bs name), .int .i64 4, .int .i64 m, .int .i64 x3, .int .i64 x4, .string ⟨#[]⟩, .string ⟨#[]⟩, .int .i64 x5, .string (bs pth), .slice none 0 0] tE)).drew = WA at rdA bS bEA hslA hkA ⊢
      generalize W6.heap.size = gS at bS ⊢
      obtain ⟨c0, c1, c2, c3, c4, c5, c6, c7, c8, c9⟩ := bEA.cells10
      have r1 : WA.cell? ⟨gr, 1, none⟩ = some lv := by have := rdA.blk.cell 1; simpa using this
      refine wp_appendEO (M := [entM name 4 m x3 x4 x5 pth []]) (g := fun _ => .slice none 0 0) _ _ rfl rfl rdA.eo rfl (fun h => by cases h) (fun _ => ⟨⟨gS, 0, none⟩, rfl, fun j u hu => by
        have hu2 : (entC (entM name 4 m x3 x4 x5 pth []) (.slice none 0 0))[j]? = some u := by simpa [ofC] using hu
        rw [Addr.add_lit, Nat.zero_add, bS.cell]
        show (List.toArray _)[j]? = _
        rw [List.getElem?_toArray]
        exact hu2⟩) (fun j hj => by
          have hj0 : j = 0 := by simp at hj; exact hj
          subst hj0
          exact hslA.mono good_byte (by omega) fun k _ e => .inr (.inr (.inl e))) (by simp; omega) rdA.bel.size ?_
      intro v' W' hE' hk' hob'
      obtain ⟨A', c', rfl⟩ := own_form hE'.row
      have KK := hk'
      refine hK _ _ (⟨KK.cell r1 (own_notblk rdA.row rdA.blk (by decide)), KK.cell c0 hlvE, KK.cell c1 hlvE, KK.cell c2 hlvE, KK.cell c3 hlvE, KK.cell c4 hlvE, KK.cell c5 hlvE, KK.cell c6 hlvE, KK.cell c7 hlvE, KK.cell c8 hlvE, KK.cell c9 hlvE⟩) ?_
      clear hK K
      (try simp only [Act.put, List.setIfInBounds_toArray, List.set_cons_zero, List.set_cons_succ])
      iterate 2 ((first | refine plan_quiet (v := ?_) rfl rfl (fun w' hw' => ?_) ?_ | refine plan_calm (v := ?_) (fun _ _ => trivial) rfl (fun w' hw' => ?_) ?_); rotate_left; (focus (go_simp <;> (first | with_reducible rfl | (rw [if_neg (by simp [undef])]; try rfl)))); simp only [Act.put, List.setIfInBounds_toArray, List.set_cons_zero, List.set_cons_succ])
      refine plan_last rfl (by kernel_rfl) (by kernel_rfl) (fun K hK => ?_)
      have b1 := hk'.blk rdA.blk (own_notblk rdA.row rdA.blk (by decide))
      have r1' : W'.cell? ⟨gr, 1, none⟩ = some lv := by have := b1.cell 1; simpa using this
      have fr1 := b1.frozen 1
      have hfin := rdA.app hE' hk' hob' hslA (fun bb hbb => by cases hbb)
      rw [show (L ++ [entM name 4 m x3 x4 x5 pth []]).length = L.length + 1 by simp] at hfin
      have hkp : Kept (BX gr mf lv pv) w (W'.setCell ⟨gr, 1, none⟩ (.slice A' (L ++ [entM name 4 m x3 x4 x5 pth []]).length c')) := (hkA.trans (hk'.mono fun k _ h => .inr (.inr (.inl h)))).setCell _ fun _ => .inl rfl
      rw [show (L ++ [entM name 4 m x3 x4 x5 pth []]).length = L.length + 1 by simp] at hkp
      clear KK hkA
      go_simp
      refine hK _ _ (trivial) ?_
      clear hK K
      (try simp only [Act.put, List.setIfInBounds_toArray, List.set_cons_zero, List.set_cons_succ])
      refine plan_end ?_
      clear r1' fr1 b1 hk' hob' hE' hslA bEA bS rdA r1 c0 c1 c2 c3 c4 c5 c6 c7 c8 c9
      go_wp2_with fail
      go_ret
      exact ⟨_, _, _, _, _, rfl, hfin, hkp, by rw [HV.out], fun _ => ⟨by rw [HV.out], by first | exact hM | (rw [if_neg (by simp)]; exact hM)⟩, fun h => absurd rfl h⟩
    · have hlp : 0 < d.length := List.length_pos_iff.2 hd0
      have hdp : decide ((0 : Int) < (d.length : Int)) = true := decide_eq_true (by omega)
      have hdpb : decide (0 < d.length) = true := decide_eq_true hlp
      have hdn : ¬ d.length = 0 := by omega
      by_cases hx0 : 0 < xn
      · have hxp : decide ((0 : Int) < (xn : Int)) = true := decide_eq_true (by omega)
        have hxpb : decide (0 < xn) = true := decide_eq_true hx0
        have hxn : ¬ xn = 0 := by omega
        have HV := Lib.hid (HG2.out.trans (if_pos ⟨hd0, HXD.out.2 hx0⟩))
        clear HG2
        clear hd0 hx0 hlp
        go_wp2_with fail
        go_ret
        exact ⟨_, _, _, _, _, rfl, rdS, hkS, by rw [HV.out], fun h => absurd h (by decide), fun _ => rfl⟩
      · have hxp : decide ((0 : Int) < (xn : Int)) = false := decide_eq_false (by omega)
        have hxpb : decide (0 < xn) = false := decide_eq_false hx0
        have hxn : xn = 0 := by omega
        have HV := Lib.hid (HG2.out.trans (if_neg (fun h => hx0 (HXD.out.1 h.2))))
        rw [if_neg hd0] at HV
        clear HG2
        have hcl := bclone_any d (.slice Ad d.length capd) _ WC hdS (by omega)
        clear hd0 hx0 hlp
        go_upto_region 14 with fail
        clear hdp hdpb hdn hxp hxpb hxn
        go_upto_region 15 with (go_at_call 81; refine hcl.mono ?_; rintro r W4 ⟨⟨vd, rfl, how⟩, hb4⟩; obtain ⟨Av, cv, rfl⟩ := how.form; have a9T := (Kept.of_below hb4 nowhere).cell a9S (fun h => h); have f9T := ((Kept.of_below hb4 nowhere).frozen (p := ⟨g, i * 10 + 9, none⟩) hgW (fun h => h)).trans hfzS)
        have hsu : Sl 1 Rbyte (BX gr mf lv pv) W4 (.slice Av d.length cv) d := (how.to free_byte (Y := BX gr mf lv pv) (fun k hk h => hBXn k (Nat.le_trans hHS (own_typed_ge how hk)) h)).sl good_byte
        have hun : ∀ bb, (Value.slice Av d.length cv).ownBlock = some bb → w0.heap.size ≤ bb := fun bb hbb => Nat.le_trans hrd0.bel.size (Nat.le_trans hHS (own_typed_ge how hbb))
        obtain ⟨rdT, hkT⟩ := HDAT.out W4 (rdS.below hb4) (.slice Av d.length cv) hsu hun
        have bET := hkT.blk (bES.below hb4 bES.lt) (hBXn gE hgE)
        have hkU : Kept (BX gr mf lv pv) w (W4.setCell ⟨g, i * 10 + 9, none⟩ (.slice Av d.length cv)) := (hkS.trans (Kept.of_below hb4 _)).trans hkT
        have a0T : (W4.setCell ⟨g, i * 10 + 9, none⟩ (.slice Av d.length cv)).cell? ⟨g, i * 10, none⟩ = some (.string (bs pth)) := by
          rw [World.cell?_setCell_other _ _ _ _ (fun e => by injection e with _ e _; omega)]
          exact (Kept.of_below hb4 nowhere).cell a0S (fun h => h)
        have hLs : (L.set i { L[i] with data := d }).length = L.length := List.length_set
        clear HDAT rdS hkS bES hdS hHS a0S a9S hfzS a9T f9T hsu hun hkT hcl how hb4
        generalize W4.setCell ⟨g, i * 10 + 9, none⟩ (.slice Av d.length cv) = WC at rdT hkU bET a0T ⊢
        generalize L.set i { L[i] with data := d } = LT at rdT HV hLs
        obtain ⟨c0, c1, c2, c3, c4, c5, c6, c7, c8, c9⟩ := bET.cells10
        have f1 := bET.frozen 1
        have f8 := bET.frozen 8
        have hne1 : (⟨gE, 1, none⟩ : Addr) ≠ ⟨g, i * 10, none⟩ := fun e => hgE2 (by injection e with e; exact e.symm)
        refine wp_region_plan (fun W => W.cell? ⟨g, i * 10, none⟩ = some (.string (bs pth))) [(false, 0), (false, 1), (false, 2), (false, 3), (false, 4), (true, 5), (false, 6), (true, 7)] (by kernel_rfl) (by kernel_rfl) (a0T) ?_
        simp only [planOps, List.map, List.getD_cons_zero, List.getD_cons_succ]
        iterate 5 ((first | refine plan_quiet (v := ?_) rfl rfl (fun w' hw' => ?_) ?_ | refine plan_calm (v := ?_) (tt_of) rfl (fun w' hw' => ?_) ?_); rotate_left; (focus (go_simp <;> (first | with_reducible rfl | (rw [if_neg (by simp [undef])]; try rfl)))); simp only [Act.put, List.setIfInBounds_toArray, List.set_cons_zero, List.set_cons_succ])
        refine plan_loud rfl (fun K hK => ?_)
        go_simp
        have HP1 : (WC.setCell ⟨gE, 1, none⟩ (.int .i64 4)).drew.cell? ⟨g, i * 10, none⟩ = some (.string (bs pth)) := (show (WC.setCell ⟨gE, 1, none⟩ (.int .i64 4)).cell? ⟨g, i * 10, none⟩ = _ by rw [World.cell?_setCell_other _ _ _ _ hne1]; exact a0T)
        refine hK _ _ (HP1) ?_
        clear hK K
        (try simp only [Act.put, List.setIfInBounds_toArray, List.set_cons_zero, List.set_cons_succ])
        iterate 1 ((first | refine plan_quiet (v := ?_) rfl rfl (fun w' hw' => ?_) ?_ | refine plan_calm (v := ?_) (tt_of) rfl (fun w' hw' => ?_) ?_); rotate_left; (focus (go_simp <;> (first | with_reducible rfl | (rw [if_neg (by simp [undef])]; try rfl)))); simp only [Act.put, List.setIfInBounds_toArray, List.set_cons_zero, List.set_cons_succ])
        refine plan_last rfl (by kernel_rfl) (by kernel_rfl) (fun K hK => ?_)
        go_simp
        refine hK _ _ (trivial) ?_
        clear hK K
        (try simp only [Act.put, List.setIfInBounds_toArray, List.set_cons_zero, List.set_cons_succ])
        refine plan_end ?_
        have hgH : w0.heap.size ≤ gE := Nat.le_trans hrd0.bel.size hgE
        have bE1 := bET.set (u := .int .i64 4) 1
        have rdE1 := rdT.pokeE bET hgH hlvE 1 (.int .i64 4)
        have bE1 : Blk (WC.setCell ⟨gE, 1, none⟩ (.int .i64 4)) gE tE #[.string (bs name), .int .i64 4, .int .i64 m, .int .i64 x3, .int .i64 x4, .string ⟨#[]⟩, .string ⟨#[]⟩, .int .i64 x5, .string ⟨#[]⟩, .slice none 0 0] := bE1
        have rdE2 := rdE1.pokeE bE1 hgH hlvE 8 (.string (bs pth))
        have bE2 : Blk ((WC.setCell ⟨gE, 1, none⟩ (.int .i64 4)).setCell ⟨gE, 8, none⟩ (.string (bs pth))) gE tE #[.string (bs name), .int .i64 4, .int .i64 m, .int .i64 x3, .int .i64 x4, .string ⟨#[]⟩, .string ⟨#[]⟩, .int .i64 x5, .string (bs pth), .slice none 0 0] := bE1.set (u := .string (bs pth)) 8
        have hkE2 : Kept (BX gr mf lv pv) w ((WC.setCell ⟨gE, 1, none⟩ (.int .i64 4)).setCell ⟨gE, 8, none⟩ (.string (bs pth))) := (hkU.setCell (p := ⟨gE, 1, none⟩) _ fun h => absurd (show gE < w.heap.size from h) (by omega)).setCell (p := ⟨gE, 8, none⟩) _ fun h => absurd (show gE < w.heap.size from h) (by omega)
        have rdE3 := rdE2.below ((Below.refl _ _).drew)
        have bE3 : Blk ((WC.setCell ⟨gE, 1, none⟩ (.int .i64 4)).setCell ⟨gE, 8, none⟩ (.string (bs pth))).drew gE tE #[.string (bs name), .int .i64 4, .int .i64 m, .int .i64 x3, .int .i64 x4, .string ⟨#[]⟩, .string ⟨#[]⟩, .int .i64 x5, .string (bs pth), .slice none 0 0] := bE2
        have hkE3 : Kept (BX gr mf lv pv) w ((WC.setCell ⟨gE, 1, none⟩ (.int .i64 4)).setCell ⟨gE, 8, none⟩ (.string (bs pth))).drew := hkE2.drew
        clear a0T c0 c1 c2 c3 c4 c5 c6 c7 c8 c9 f1 f8 HP1 rdE1 rdE2 bE1 bE2 hkE2 bET rdT hkU
        go_upto_region 16 with fail
        generalize ((WC.setCell ⟨gE, 1, none⟩ (.int .i64 4)).setCell ⟨gE, 8, none⟩ (.string (bs pth))).drew = W6 at rdE3 bE3 hkE3 ⊢
        have hslE : Sl 1 Rbyte (BX gr mf lv pv) W6 (.slice none 0 0) [] := Sl.nil _ _ _ _
        obtain ⟨c0, c1, c2, c3, c4, c5, c6, c7, c8, c9⟩ := bE3.cells10
        have r1 : W6.cell? ⟨gr, 1, none⟩ = some lv := by have := rdE3.blk.cell 1; simpa using this
        refine wp_region_plan2 (wkD [126]) (fun W => W.cell? ⟨gr, 1, none⟩ = some lv ∧ W.cell? ⟨gE, 0, none⟩ = some (.string (bs name)) ∧ W.cell? ⟨gE, 1, none⟩ = some (.int .i64 4) ∧ W.cell? ⟨gE, 2, none⟩ = some (.int .i64 m) ∧ W.cell? ⟨gE, 3, none⟩ = some (.int .i64 x3) ∧ W.cell? ⟨gE, 4, none⟩ = some (.int .i64 x4) ∧ W.cell? ⟨gE, 5, none⟩ = some (.string ⟨#[]⟩) ∧ W.cell? ⟨gE, 6, none⟩ = some (.string ⟨#[]⟩) ∧ W.cell? ⟨gE, 7, none⟩ = some (.int .i64 x5) ∧ W.cell? ⟨gE, 8, none⟩ = some (.string (bs pth)) ∧ W.cell? ⟨gE, 9, none⟩ = some (.slice none 0 0)) (fun _ => True) (fun _ _ => trivial) [(false, 0), (false, 1), (false, 2), (false, 3), (false, 4), (false, 5), (true, 6), (true, 7), (false, 8), (false, 9), (true, 10)] (by kernel_rfl) (by kernel_rfl) (⟨r1, c0, c1, c2, c3, c4, c5, c6, c7, c8, c9⟩) ?_
        simp only [planOps, List.map, List.getD_cons_zero, List.getD_cons_succ]
        iterate 6 ((first | refine plan_quiet (v := ?_) rfl rfl (fun w' hw' => ?_) ?_ | refine plan_calm (v := ?_) (fun _ _ => trivial) rfl (fun w' hw' => ?_) ?_); rotate_left; (focus (go_simp <;> (first | with_reducible rfl | (rw [if_neg (by simp [undef])]; try rfl)))); simp only [Act.put, List.setIfInBounds_toArray, List.set_cons_zero, List.set_cons_succ])
        refine plan_loud rfl (fun K hK => ?_)
        go_simp
        have hbA : Below W6.heap.size W6 (W6.alloc (.cells #[.string (bs name), .int .i64 4, .int .i64 m, .int .i64 x3, .int .i64 x4, .string ⟨#[]⟩, .string ⟨#[]⟩, .int .i64 x5, .string (bs pth), .slice none 0 0] tE)).drew := ((Below.refl _ W6).alloc (Nat.le_refl _) _).drew
        have KK := Kept.of_below hbA nowhere
        refine hK _ _ (⟨KK.cell r1 (fun h => h), KK.cell c0 (fun h => h), KK.cell c1 (fun h => h), KK.cell c2 (fun h => h), KK.cell c3 (fun h => h), KK.cell c4 (fun h => h), KK.cell c5 (fun h => h), KK.cell c6 (fun h => h), KK.cell c7 (fun h => h), KK.cell c8 (fun h => h), KK.cell c9 (fun h => h)⟩) ?_
        clear hK K
        (try simp only [Act.put, List.setIfInBounds_toArray, List.set_cons_zero, List.set_cons_succ])
        refine plan_loud rfl (fun K hK => ?_)
        have rdA := rdE3.below hbA
        have bS : Blk (W6.alloc (.cells #[.string (bs name), .int .i64 4, .int .i64 m, .int .i64 x3, .int .i64 x4, .string ⟨#[]⟩, .string ⟨#[]⟩, .int .i64 x5, .string (bs pth), .slice none 0 0] tE)).drew W6.heap.size tE #[.string (bs name), .int .i64 4, .int .i64 m, .int .i64 x3, .int .i64 x4, .string ⟨#[]⟩, .string ⟨#[]⟩, .int .i64 x5, .string (bs pth), .slice none 0 0] := Blk.new W6 _ _
        have bEA := bE3.below hbA bE3.lt
        have hslA := Below.sl good_byte hbA hslE
        have hkA : Kept (BX gr mf lv pv) w (W6.alloc (.cells #[.string (bs name), .int .i64 4, .int .i64 m, .int .i64 x3, .int .i64 x4, .string ⟨#[]⟩, .string ⟨#[]⟩, .int .i64 x5, .string (bs pth), .slice none 0 0] tE)).drew := hkE3.trans (Kept.of_below hbA _)
        clear KK r1 c0 c1 c2 c3 c4 c5 c6 c7 c8 c9 hbA
        generalize (W6.alloc (.cells #[.string (bs name), .int .i64 4, .int .i64 m, .int .i64 x3, .int .i64 x4, .string ⟨#[]⟩, .string ⟨#[]⟩, .int .i64 x5, .string (bs pth), .slice none 0 0] tE)).drew = WA at rdA bS bEA hslA hkA ⊢
        generalize W6.heap.size = gS at bS ⊢
        obtain ⟨c0, c1, c2, c3, c4, c5, c6, c7, c8, c9⟩ := bEA.cells10
        have r1 : WA.cell? ⟨gr, 1, none⟩ = some lv := by have := rdA.blk.cell 1; simpa using this
        refine wp_appendEO (M := [entM name 4 m x3 x4 x5 pth []]) (g := fun _ => .slice none 0 0) _ _ rfl rfl rdA.eo rfl (fun h => by cases h) (fun _ => ⟨⟨gS, 0, none⟩, rfl, fun j u hu => by
          have hu2 : (entC (entM name 4 m x3 x4 x5 pth []) (.slice none 0 0))[j]? = some u := by simpa [ofC] using hu
          rw [Addr.add_lit, Nat.zero_add, bS.cell]
          show (List.toArray _)[j]? = _
          rw [List.getElem?_toArray]
          exact hu2⟩) (fun j hj => by
            have hj0 : j = 0 := by simp at hj; exact hj
            subst hj0
            exact hslA.mono good_byte (by omega) fun k _ e => .inr (.inr (.inl e))) (by simp; omega) rdA.bel.size ?_
        intro v' W' hE' hk' hob'
        obtain ⟨A', c', rfl⟩ := own_form hE'.row
        have KK := hk'
        refine hK _ _ (⟨KK.cell r1 (own_notblk rdA.row rdA.blk (by decide)), KK.cell c0 hlvE, KK.cell c1 hlvE, KK.cell c2 hlvE, KK.cell c3 hlvE, KK.cell c4 hlvE, KK.cell c5 hlvE, KK.cell c6 hlvE, KK.cell c7 hlvE, KK.cell c8 hlvE, KK.cell c9 hlvE⟩) ?_
        clear hK K
        (try simp only [Act.put, List.setIfInBounds_toArray, List.set_cons_zero, List.set_cons_succ])
        iterate 2 ((first | refine plan_quiet (v := ?_) rfl rfl (fun w' hw' => ?_) ?_ | refine plan_calm (v := ?_) (fun _ _ => trivial) rfl (fun w' hw' => ?_) ?_); rotate_left; (focus (go_simp <;> (first | with_reducible rfl | (rw [if_neg (by simp [undef])]; try rfl)))); simp only [Act.put, List.setIfInBounds_toArray, List.set_cons_zero, List.set_cons_succ])
        refine plan_last rfl (by kernel_rfl) (by kernel_rfl) (fun K hK => ?_)
        have b1 := hk'.blk rdA.blk (own_notblk rdA.row rdA.blk (by decide))
        have r1' : W'.cell? ⟨gr, 1, none⟩ = some lv := by have := b1.cell 1; simpa using this
        have fr1 := b1.frozen 1
        have hfin := rdA.app hE' hk' hob' hslA (fun bb hbb => by cases hbb)
        rw [show (LT ++ [entM name 4 m x3 x4 x5 pth []]).length = LT.length + 1 by simp] at hfin
        have hkp : Kept (BX gr mf lv pv) w (W'.setCell ⟨gr, 1, none⟩ (.slice A' (LT ++ [entM name 4 m x3 x4 x5 pth []]).length c')) := (hkA.trans (hk'.mono fun k _ h => .inr (.inr (.inl h)))).setCell _ fun _ => .inl rfl
        rw [show (LT ++ [entM name 4 m x3 x4 x5 pth []]).length = LT.length + 1 by simp] at hkp
        clear KK hkA
        go_simp
        refine hK _ _ (trivial) ?_
        clear hK K
        (try simp only [Act.put, List.setIfInBounds_toArray, List.set_cons_zero, List.set_cons_succ])
        refine plan_end ?_
        clear r1' fr1 b1 hk' hob' hE' hslA bEA bS rdA r1 c0 c1 c2 c3 c4 c5 c6 c7 c8 c9
        go_wp2_with fail
        go_ret
        rw [hLs] at hfin hkp
        exact ⟨_, _, _, _, _, rfl, hfin, hkp, by rw [HV.out], fun _ => ⟨by rw [HV.out], by first | exact hM | (rw [if_neg (by simp)]; exact hM)⟩, fun h => absurd rfl h⟩
end Go.Proofs.YtolknddegfcmpaaDoor
