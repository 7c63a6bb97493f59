/- The walk of tar.putHead. Printed by gen_tad.py. The walk of tar.headOf. Printed by gen_tag.py. -/
import Derived.Test.YtpheifdpjcppdaaGreatDoorTaAC
namespace Go.Proofs.YtpheifdpjcppdaaGreatDoor
open Go.RowKit
theorem Deb.below {w w' : World} (h : Deb w) (hb : Below w.heap.size w w') : Deb w' := (Kept.of_below hb nowhere).cell h fun h => h
theorem fixW_self {s : List UInt8} {n : Nat} (h : s.length = n) : fixW s n = s := by
  rw [fixW, List.take_of_length_le (by omega), show n - s.length = 0 by omega]
  simp
theorem store_func (W : World) (t : TypeId) (f : Fn) (a b : Array Value) : (store ⟨W.heap.size, 0, none⟩ (.func f a b)).run Tryz.prog (W.alloc (.cells #[.nilFunc] t)) = .ok () (W.alloc (.cells #[.func f a b] t)) := by
  have hb := Blk.new W t #[.nilFunc]
  have hc : (W.alloc (.cells #[.nilFunc] t)).cell? ⟨W.heap.size, 0, none⟩ = some .nilFunc := hb.cell 0
  have hf := hb.frozen 0
  rw [run_store _ _ _ _ _ rfl, hc]
  simp only [hf, Bool.false_eq_true, if_false]
  rw [World.setCell_alloc_new]
  rfl
/-- What putHead has in memory: the block that is being made, the head, the closure. -/
structure PH (w : World) (gx gh g8 : Nat) (h : Hd) (W : World) (l : List UInt8) : Prop where
  box : ∃ v, Blk W gx 25 #[v] ∧ W.ownsRow w.heap.size 5 1 v l.length (bvs l)
  below : Below w.heap.size w W
  bh : Blk W gh 43 #[.string (bs h.name), .string (bs h.pfx), .string (bs h.link), .int .i64 (h.mode : Int), .int .i64 (h.uid : Int), .int .i64 (h.gid : Int), .int .i64 (h.size : Int), .int .i64 (h.mtime : Int), .int .u8 (h.kind.toNat : Int), .string (bs h.owner), .string (bs h.group)]
  b8 : Blk W g8 80 #[(.func (.func 36) #[] #[.pointer (some ⟨gx, 0, none⟩)])]
  hx : w.heap.size ≤ gx
section
variable {w W W' : World} {gx gh g8 : Nat} {h : Hd} {l l' : List UInt8}
theorem PH.next (p : PH w gx gh g8 h W l) (hb : Below W.heap.size W W') : PH w gx gh g8 h W' l := by
  obtain ⟨v, h1, h2⟩ := p.box
  exact ⟨⟨v, h1.below hb h1.lt, own_below h2 hb⟩, p.below.trans (hb.mono p.below.size), p.bh.below hb p.bh.lt, p.b8.below hb p.b8.lt, p.hx⟩
theorem PH.kept (p : PH w gx gh g8 h W l) {v v' : Value} (h1 : Blk W gx 25 #[v]) (h2 : W.ownsRow w.heap.size 5 1 v l.length (bvs l)) (k1 : Blk W' gx 25 #[v']) (k2 : W'.ownsRow w.heap.size 5 1 v' l'.length (bvs l')) (hk : Kept (fun k => k = gx ∨ v.ownBlock = some k) W W') : PH w gx gh g8 h W' l' := by
  have n1 : ¬ (gh = gx ∨ v.ownBlock = some gh) := fun e => e.elim (fun e => Blk.apartT p.bh h1 (by decide) e) (fun e => own_notblk h2 p.bh (by decide) e)
  have n2 : ¬ (g8 = gx ∨ v.ownBlock = some g8) := fun e => e.elim (fun e => Blk.apartT p.b8 h1 (by decide) e) (fun e => own_notblk h2 p.b8 (by decide) e)
  exact ⟨⟨v', k1, k2⟩, p.below.trans (hk.below p.below.size fun k _ e => e.elim (fun e => by rw [e]; exact p.hx) (fun e => (h2.lt _ e).1)), hk.blk p.bh n1, hk.blk p.b8 n2, p.hx⟩
theorem PH.put (p : PH w gx gh g8 h W l) (s : List UInt8) (wd : Nat) (hwd : wd ≤ 1000) (hl : l.length ≤ 100000) :
    Calls Tryz.prog 36 #[.string (bs s), .int .i64 (wd : Int), .pointer (some ⟨gx, 0, none⟩)] W fun r W' => r = .returned (.tuple #[]) ∧ PH w gx gh g8 h W' (l ++ fixW s wd) := by
  obtain ⟨v, h1, h2⟩ := p.box
  refine (tput_any s wd hwd W gx w.heap.size v l h1 h2 p.below.size (by omega)).mono ?_
  rintro r W' ⟨rfl, v', k1, k2, k3, _⟩
  exact ⟨rfl, p.kept h1 h2 k1 k2 k3⟩
set_option maxRecDepth 20000 in
set_option maxHeartbeats 8000000 in
theorem PH.num (p : PH w gx gh g8 h W l) (hD : Deb w) (n wd : Nat) (hn : n ≤ 10000000000) (h2 : 2 ≤ wd) (h12 : wd ≤ 12) (hf : fitsO n wd) (hl : l.length ≤ 100000) :
    Calls Tryz.prog 37 #[.int .i64 (n : Int), .int .i64 (wd : Int), .pointer (some ⟨g8, 0, none⟩)] W fun r W' => r = .returned (.tuple #[]) ∧ PH w gx gh g8 h W' (l ++ octF n wd) := by
  have ho := toct_any n wd W hn h2 h12 hf (hD.below p.below)
  have hfx := fixW_self (octF_len hf (by omega))
  have y0 : W.cell? ⟨g8, 0, none⟩ = some (.func (.func 36) #[] #[.pointer (some ⟨gx, 0, none⟩)]) := by have := p.b8.cell 0; simpa using this
  go_enter Tryz.func37, Tryz.ntmps37
  go_upto_region 1 with (go_at_call 38; refine ho.mono ?_; clear ho; rintro r W2 ⟨rfl, hb2⟩; have p2 := p.next hb2; have y2 : W2.cell? ⟨g8, 0, none⟩ = some (.func (.func 36) #[] #[.pointer (some ⟨gx, 0, none⟩)]) := (by have := p2.b8.cell 0; simpa using this))
  have hp := p2.put (octF n wd) wd (by omega) hl
  rw [hfx] at hp
  go_wp2_with (go_at_call 36; refine hp.mono ?_; clear hp; rintro r W3 ⟨rfl, p3⟩)
  refine bodyPost_end (v := .tuple #[]) ?_ ?_ ?_
  · simp [results, Tryz.results37, go_sem]
  · rfl
  · exact ⟨rfl, p3⟩
end
def headV (h : Hd) : Value := .agg #[.string (bs h.name), .string (bs h.pfx), .string (bs h.link), .int .i64 (h.mode : Int), .int .i64 (h.uid : Int), .int .i64 (h.gid : Int), .int .i64 (h.size : Int), .int .i64 (h.mtime : Int), .int .u8 (h.kind.toNat : Int), .string (bs h.owner), .string (bs h.group)]
theorem splice_row (cur pre mid mid' post : List Value) (h : cur.take 512 = pre ++ mid ++ post) (h1 : pre.length = 148) (h2 : mid.length = 8) (h3 : mid'.length = 8) (h4 : post.length = 356) :
    (cur.take 148 ++ mid' ++ cur.drop (148 + 8)).take 512 = pre ++ mid' ++ post ∧ (cur.take 148 ++ mid' ++ cur.drop (148 + 8)).length = cur.length := by
  have hl := congrArg List.length h
  simp only [List.length_append, List.length_take] at hl
  have hp : cur.take 148 = pre := by
    have := congrArg (List.take 148) h
    rw [List.take_take, show min 148 512 = 148 by decide, List.append_assoc, List.take_append, List.take_of_length_le (Nat.le_of_eq h1)] at this
    rw [this, h1]
    simp
  have hq : (cur.drop (148 + 8)).take 356 = post := by
    have := congrArg (List.drop 156) h
    rw [List.drop_take, List.drop_append] at this
    rw [show (148 + 8) = 156 by rfl, show 356 = 512 - 156 by rfl, this]
    have h5 : (pre ++ mid).length = 156 := by rw [List.length_append, h1, h2]
    rw [h5, List.drop_of_length_le (Nat.le_of_eq h5)]
    simp
  refine ⟨?_, ?_⟩
  · have h6 : (pre ++ mid').length = 156 := by rw [List.length_append, h1, h3]
    rw [hp, List.take_append, h6, hq, List.take_of_length_le (by omega)]
  · simp only [List.length_append, List.length_take, List.length_drop, h3]
    omega
theorem cells11 {w : World} {g : Nat} {t : TypeId} {x0 x1 x2 x3 x4 x5 x6 x7 x8 x9 x10 : Value} (h : Blk w g t #[x0, x1, x2, x3, x4, x5, x6, x7, x8, x9, x10]) :
    w.cell? ⟨g, 0, none⟩ = some x0 ∧ w.cell? ⟨g, 1, none⟩ = some x1 ∧ w.cell? ⟨g, 2, none⟩ = some x2 ∧ w.cell? ⟨g, 3, none⟩ = some x3 ∧ w.cell? ⟨g, 4, none⟩ = some x4 ∧ w.cell? ⟨g, 5, none⟩ = some x5 ∧ w.cell? ⟨g, 6, none⟩ = some x6 ∧ w.cell? ⟨g, 7, none⟩ = some x7 ∧ w.cell? ⟨g, 8, none⟩ = some x8 ∧ w.cell? ⟨g, 9, none⟩ = some x9 ∧ w.cell? ⟨g, 10, none⟩ = some x10 :=
  ⟨h.cell 0, h.cell 1, h.cell 2, h.cell 3, h.cell 4, h.cell 5, h.cell 6, h.cell 7, h.cell 8, h.cell 9, h.cell 10⟩
set_option maxRecDepth 20000 in
set_option maxHeartbeats 16000000 in
theorem phead_any (h : Hd) (gnu : Bool) (hk : HdOk h) (b1 : h.mode ≤ 10000000000) (b2 : h.uid ≤ 10000000000) (b3 : h.gid ≤ 10000000000) (b4 : h.size ≤ 10000000000) (b5 : h.mtime ≤ 10000000000) (w : World) (base : Nat) (v : Value) (l : List UInt8) (hown : w.ownsRow base 5 1 v l.length (bvs l)) (hbase : base ≤ w.heap.size) (hl : l.length ≤ 1000000000) (hD : Deb w) :
    Calls Tryz.prog 20 #[v, headV h, .string (bs (magicB gnu))] w fun r w' => ∃ v', r = .returned v' ∧ Row8 w v.ownBlock base 5 w' v' (l ++ blockB h gnu) := by
  obtain ⟨A0, c0, rfl⟩ := own_form hown
  obtain ⟨i0, hi, hz0, hz1, hz2⟩ := info_parts u8info
  have hmk := fun W => run_makeSlice (P := Tryz.prog) (w := W) 25 5 i0 (.int .u8 0) Tryz.underlying25 hi hz0 .i64 .i64 0 512 (by omega) (by omega) (by rw [hz1]; decide) (by rw [hz2]; omega) (by omega)
  rw [hz1] at hmk
  have hmk : ∀ W : World, (Instr.makeSlice 25 (.int .i64 0) (.int .i64 512)).run Tryz.prog W = .ok (.slice (some ⟨W.heap.size, 0, none⟩) 0 512) (W.alloc (.cells (madeCells #[.int .u8 0] 512) 5)) := hmk
  have hsz1 : (Tryz.prog.info? 5).map (·.size) = some 1 := by rw [hi]; simp [hz1]
  have HMG := Lib.hid (show (magicB gnu).length = 8 by cases gnu <;> rfl)
  obtain ⟨mg, HM⟩ : ∃ mg, Hid (magicB gnu = mg) := ⟨_, Lib.hid rfl⟩
  rw [HM.out] at HMG ⊢
  unfold headV
  go_enter Tryz.func20, Tryz.ntmps20
  go_upto_region 1 with fail
  have bh := Blk.new w 43 #[.string (bs h.name), .string (bs h.pfx), .string (bs h.link), .int .i64 (h.mode : Int), .int .i64 (h.uid : Int), .int .i64 (h.gid : Int), .int .i64 (h.size : Int), .int .i64 (h.mtime : Int), .int .u8 (h.kind.toNat : Int), .string (bs h.owner), .string (bs h.group)]
  have hq1 := (Below.refl w.heap.size w).alloc (Nat.le_refl _) (.cells #[.string (bs h.name), .string (bs h.pfx), .string (bs h.link), .int .i64 (h.mode : Int), .int .i64 (h.uid : Int), .int .i64 (h.gid : Int), .int .i64 (h.size : Int), .int .i64 (h.mtime : Int), .int .u8 (h.kind.toNat : Int), .string (bs h.owner), .string (bs h.group)] 43)
  generalize w.alloc (.cells #[.string (bs h.name), .string (bs h.pfx), .string (bs h.link), .int .i64 (h.mode : Int), .int .i64 (h.uid : Int), .int .i64 (h.gid : Int), .int .i64 (h.size : Int), .int .i64 (h.mtime : Int), .int .u8 (h.kind.toNat : Int), .string (bs h.owner), .string (bs h.group)] 43) = W1 at bh hq1 ⊢
  obtain ⟨gh, hgh⟩ : ∃ gh, w.heap.size = gh := ⟨_, rfl⟩
  go_upto_region 2 with fail
  have e2 : (W1.alloc (.cells (madeCells #[.int .u8 0] 512) 5)).heap.size = W1.heap.size + 1 := by simp
  have hq2 := (Below.refl W1.heap.size W1).alloc (Nat.le_refl _) (.cells (madeCells #[.int .u8 0] 512) 5)
  have ho2 : (W1.alloc (.cells (madeCells #[.int .u8 0] 512) 5)).ownsRow w.heap.size 5 1 (.slice (some ⟨W1.heap.size, 0, none⟩) 0 512) 0 (bvs []) :=
    World.ownsRow_made (size := 1) W1 _ 512 (by have := hq1.size; exact this) (by decide) (by simp [madeCells])
  generalize W1.alloc (.cells (madeCells #[.int .u8 0] 512) 5) = W2 at e2 hq2 ho2 ⊢
  have bx := Blk.new W2 25 #[.slice (some ⟨W1.heap.size, 0, none⟩) 0 512]
  have hq3 := (Below.refl W2.heap.size W2).alloc (Nat.le_refl _) (.cells #[.slice (some ⟨W1.heap.size, 0, none⟩) 0 512] 25)
  have ho3 := own_below ho2 hq3
  have bh3 := (bh.below hq2 bh.lt).below hq3 (bh.below hq2 bh.lt).lt
  have hb3 : Below w.heap.size w (W2.alloc (.cells #[.slice (some ⟨W1.heap.size, 0, none⟩) 0 512] 25)) := hq1.trans ((hq2.trans (hq3.mono hq2.size)).mono hq1.size)
  have hgx : w.heap.size ≤ W2.heap.size := Nat.le_trans hq1.size hq2.size
  rw [← e2]
  generalize W2.alloc (.cells #[.slice (some ⟨W1.heap.size, 0, none⟩) 0 512] 25) = W3 at bx ho3 bh3 hb3 ⊢
  obtain ⟨gx, hgxx⟩ : ∃ gx, W2.heap.size = gx := ⟨_, rfl⟩
  rw [hgxx] at bx hgx ⊢
  have hsf := store_func W3 80 (.func 36) #[] #[.pointer (some ⟨gx, 0, none⟩)]
  clear hmk e2 hq2 ho2 hq3 hq1 bh
  go_upto_region 3 with fail
  have b8 := Blk.new W3 80 #[(.func (.func 36) #[] #[.pointer (some ⟨gx, 0, none⟩)])]
  have hq4 := (Below.refl W3.heap.size W3).alloc (Nat.le_refl _) (.cells #[(.func (.func 36) #[] #[.pointer (some ⟨gx, 0, none⟩)])] 80)
  rw [hgh] at bh3 ⊢
  have p0 : PH w gx gh W3.heap.size h (W3.alloc (.cells #[(.func (.func 36) #[] #[.pointer (some ⟨gx, 0, none⟩)])] 80)) [] := ⟨⟨_, bx.below hq4 bx.lt, own_below ho3 hq4⟩, hb3.trans (hq4.mono hb3.size), bh3.below hq4 bh3.lt, b8, hgx⟩
  clear hsf b8 hq4 bh3 bx ho3 hb3
  generalize W3.alloc (.cells #[(.func (.func 36) #[] #[.pointer (some ⟨gx, 0, none⟩)])] 80) = W4 at p0 ⊢
  generalize W3.heap.size = g8 at p0 ⊢
  obtain ⟨h1, h2, h3, h4, h5⟩ := hk
  have f0 : fitsO 0 8 := fits_of (w := 6) (by decide)
  obtain ⟨l0, HL0⟩ : ∃ x : List UInt8, Hid (x = []) := ⟨_, Lib.hid rfl⟩
  have hl0 : l0.length = 0 := by rw [HL0.out]; rfl
  rw [← HL0.out] at p0
  go_upto_region 4 with fail

  obtain ⟨y0, y1, y2, y3, y4, y5, y6, y7, y8, y9, y10⟩ := cells11 p0.bh
  have y11 : W4.cell? ⟨g8, 0, none⟩ = some (.func (.func 36) #[] #[.pointer (some ⟨gx, 0, none⟩)]) := by have := p0.b8.cell 0; simpa using this
  have hp := p0.put h.name 100 (by omega) (by omega)
  go_upto_region 5 with (go_at_call 36; refine hp.mono ?_; clear hp y0 y1 y2 y3 y4 y5 y6 y7 y8 y9 y10 y11; rintro r W5 ⟨rfl, pp⟩)
  obtain ⟨l1, HL1⟩ : ∃ x, Hid (x = l0 ++ fixW h.name 100) := ⟨_, Lib.hid rfl⟩
  have hl1 : l1.length = 100 := by rw [HL1.out, List.length_append, fixW_len]; omega
  rw [← HL1.out] at pp
  have p1 := pp
  clear pp p0 hl0

  obtain ⟨y0, y1, y2, y3, y4, y5, y6, y7, y8, y9, y10⟩ := cells11 p1.bh
  have y11 : W5.cell? ⟨g8, 0, none⟩ = some (.func (.func 36) #[] #[.pointer (some ⟨gx, 0, none⟩)]) := by have := p1.b8.cell 0; simpa using this
  have hp := p1.num hD h.mode 8 b1 (by omega) (by omega) h1 (by omega)
  go_upto_region 6 with (go_at_call 37; refine hp.mono ?_; clear hp y0 y1 y2 y3 y4 y5 y6 y7 y8 y9 y10 y11; rintro r W6 ⟨rfl, pp⟩)
  obtain ⟨l2, HL2⟩ : ∃ x, Hid (x = l1 ++ octF h.mode 8) := ⟨_, Lib.hid rfl⟩
  have hl2 : l2.length = 108 := by rw [HL2.out, List.length_append, octF_len h1 (by omega)]; omega
  rw [← HL2.out] at pp
  have p2 := pp
  clear pp p1 hl1

  obtain ⟨y0, y1, y2, y3, y4, y5, y6, y7, y8, y9, y10⟩ := cells11 p2.bh
  have y11 : W6.cell? ⟨g8, 0, none⟩ = some (.func (.func 36) #[] #[.pointer (some ⟨gx, 0, none⟩)]) := by have := p2.b8.cell 0; simpa using this
  have hp := p2.num hD h.uid 8 b2 (by omega) (by omega) h2 (by omega)
  go_upto_region 7 with (go_at_call 37; refine hp.mono ?_; clear hp y0 y1 y2 y3 y4 y5 y6 y7 y8 y9 y10 y11; rintro r W7 ⟨rfl, pp⟩)
  obtain ⟨l3, HL3⟩ : ∃ x, Hid (x = l2 ++ octF h.uid 8) := ⟨_, Lib.hid rfl⟩
  have hl3 : l3.length = 116 := by rw [HL3.out, List.length_append, octF_len h2 (by omega)]; omega
  rw [← HL3.out] at pp
  have p3 := pp
  clear pp p2 hl2

  obtain ⟨y0, y1, y2, y3, y4, y5, y6, y7, y8, y9, y10⟩ := cells11 p3.bh
  have y11 : W7.cell? ⟨g8, 0, none⟩ = some (.func (.func 36) #[] #[.pointer (some ⟨gx, 0, none⟩)]) := by have := p3.b8.cell 0; simpa using this
  have hp := p3.num hD h.gid 8 b3 (by omega) (by omega) h3 (by omega)
  go_upto_region 8 with (go_at_call 37; refine hp.mono ?_; clear hp y0 y1 y2 y3 y4 y5 y6 y7 y8 y9 y10 y11; rintro r W8 ⟨rfl, pp⟩)
  obtain ⟨l4, HL4⟩ : ∃ x, Hid (x = l3 ++ octF h.gid 8) := ⟨_, Lib.hid rfl⟩
  have hl4 : l4.length = 124 := by rw [HL4.out, List.length_append, octF_len h3 (by omega)]; omega
  rw [← HL4.out] at pp
  have p4 := pp
  clear pp p3 hl3

  obtain ⟨y0, y1, y2, y3, y4, y5, y6, y7, y8, y9, y10⟩ := cells11 p4.bh
  have y11 : W8.cell? ⟨g8, 0, none⟩ = some (.func (.func 36) #[] #[.pointer (some ⟨gx, 0, none⟩)]) := by have := p4.b8.cell 0; simpa using this
  have hp := p4.num hD h.size 12 b4 (by omega) (by omega) h4 (by omega)
  go_upto_region 9 with (go_at_call 37; refine hp.mono ?_; clear hp y0 y1 y2 y3 y4 y5 y6 y7 y8 y9 y10 y11; rintro r W9 ⟨rfl, pp⟩)
  obtain ⟨l5, HL5⟩ : ∃ x, Hid (x = l4 ++ octF h.size 12) := ⟨_, Lib.hid rfl⟩
  have hl5 : l5.length = 136 := by rw [HL5.out, List.length_append, octF_len h4 (by omega)]; omega
  rw [← HL5.out] at pp
  have p5 := pp
  clear pp p4 hl4

  obtain ⟨y0, y1, y2, y3, y4, y5, y6, y7, y8, y9, y10⟩ := cells11 p5.bh
  have y11 : W9.cell? ⟨g8, 0, none⟩ = some (.func (.func 36) #[] #[.pointer (some ⟨gx, 0, none⟩)]) := by have := p5.b8.cell 0; simpa using this
  have hp := p5.num hD h.mtime 12 b5 (by omega) (by omega) h5 (by omega)
  go_upto_region 10 with (go_at_call 37; refine hp.mono ?_; clear hp y0 y1 y2 y3 y4 y5 y6 y7 y8 y9 y10 y11; rintro r W10 ⟨rfl, pp⟩)
  obtain ⟨l6, HL6⟩ : ∃ x, Hid (x = l5 ++ octF h.mtime 12) := ⟨_, Lib.hid rfl⟩
  have hl6 : l6.length = 148 := by rw [HL6.out, List.length_append, octF_len h5 (by omega)]; omega
  rw [← HL6.out] at pp
  have p6 := pp
  clear pp p5 hl5

  obtain ⟨y0, y1, y2, y3, y4, y5, y6, y7, y8, y9, y10⟩ := cells11 p6.bh
  have y11 : W10.cell? ⟨g8, 0, none⟩ = some (.func (.func 36) #[] #[.pointer (some ⟨gx, 0, none⟩)]) := by have := p6.b8.cell 0; simpa using this
  have hp := p6.put [] 8 (by omega) (by omega)
  go_upto_region 11 with (go_at_call 36; refine hp.mono ?_; clear hp y0 y1 y2 y3 y4 y5 y6 y7 y8 y9 y10 y11; rintro r W11 ⟨rfl, pp⟩)
  obtain ⟨l7, HL7⟩ : ∃ x, Hid (x = l6 ++ fixW [] 8) := ⟨_, Lib.hid rfl⟩
  have hl7 : l7.length = 156 := by rw [HL7.out, List.length_append, fixW_len]; omega
  rw [← HL7.out] at pp
  have p7 := pp
  clear pp p6 hl6

  obtain ⟨y0, y1, y2, y3, y4, y5, y6, y7, y8, y9, y10⟩ := cells11 p7.bh
  have y11 : W11.cell? ⟨g8, 0, none⟩ = some (.func (.func 36) #[] #[.pointer (some ⟨gx, 0, none⟩)]) := by have := p7.b8.cell 0; simpa using this
  have hcv : (convert 25 9 (.slice (some ⟨W11.heap.size, 0, none⟩) 1 1)).run Tryz.prog (W11.alloc (.cells #[.int .u8 (h.kind.toNat : Int)] 5)) = .ok (.string ⟨[h.kind].toArray⟩) (W11.alloc (.cells #[.int .u8 (h.kind.toNat : Int)] 5)) := str8 (SB.blk (l := [h.kind]) (Blk.new W11 5 #[.int .u8 (h.kind.toNat : Int)]) (by show 1 ≤ maxLen; decide))
  have hqk := (Below.refl W11.heap.size W11).alloc (Nat.le_refl _) (.cells #[.int .u8 (h.kind.toNat : Int)] 5)
  have hp := (p7.next hqk).put [h.kind] 1 (by omega) (by omega)
  go_upto_region 12 with (go_at_call 36; refine hp.mono ?_; clear hp hcv y0 y1 y2 y3 y4 y5 y6 y7 y8 y9 y10 y11; rintro r W12 ⟨rfl, pp⟩)
  clear hqk
  obtain ⟨l8, HL8⟩ : ∃ x, Hid (x = l7 ++ fixW [h.kind] 1) := ⟨_, Lib.hid rfl⟩
  have hl8 : l8.length = 157 := by rw [HL8.out, List.length_append, fixW_len]; omega
  rw [← HL8.out] at pp
  have p8 := pp
  clear pp p7 hl7

  obtain ⟨y0, y1, y2, y3, y4, y5, y6, y7, y8, y9, y10⟩ := cells11 p8.bh
  have y11 : W12.cell? ⟨g8, 0, none⟩ = some (.func (.func 36) #[] #[.pointer (some ⟨gx, 0, none⟩)]) := by have := p8.b8.cell 0; simpa using this
  have hp := p8.put h.link 100 (by omega) (by omega)
  go_upto_region 13 with (go_at_call 36; refine hp.mono ?_; clear hp y0 y1 y2 y3 y4 y5 y6 y7 y8 y9 y10 y11; rintro r W13 ⟨rfl, pp⟩)
  obtain ⟨l9, HL9⟩ : ∃ x, Hid (x = l8 ++ fixW h.link 100) := ⟨_, Lib.hid rfl⟩
  have hl9 : l9.length = 257 := by rw [HL9.out, List.length_append, fixW_len]; omega
  rw [← HL9.out] at pp
  have p9 := pp
  clear pp p8 hl8

  obtain ⟨y0, y1, y2, y3, y4, y5, y6, y7, y8, y9, y10⟩ := cells11 p9.bh
  have y11 : W13.cell? ⟨g8, 0, none⟩ = some (.func (.func 36) #[] #[.pointer (some ⟨gx, 0, none⟩)]) := by have := p9.b8.cell 0; simpa using this
  have hp := p9.put mg 8 (by omega) (by omega)
  go_upto_region 14 with (go_at_call 36; refine hp.mono ?_; clear hp y0 y1 y2 y3 y4 y5 y6 y7 y8 y9 y10 y11; rintro r W14 ⟨rfl, pp⟩)
  obtain ⟨l10, HL10⟩ : ∃ x, Hid (x = l9 ++ fixW mg 8) := ⟨_, Lib.hid rfl⟩
  have hl10 : l10.length = 265 := by rw [HL10.out, List.length_append, fixW_len]; omega
  rw [← HL10.out] at pp
  have p10 := pp
  clear pp p9 hl9

  obtain ⟨y0, y1, y2, y3, y4, y5, y6, y7, y8, y9, y10⟩ := cells11 p10.bh
  have y11 : W14.cell? ⟨g8, 0, none⟩ = some (.func (.func 36) #[] #[.pointer (some ⟨gx, 0, none⟩)]) := by have := p10.b8.cell 0; simpa using this
  have hp := p10.put h.owner 32 (by omega) (by omega)
  go_upto_region 15 with (go_at_call 36; refine hp.mono ?_; clear hp y0 y1 y2 y3 y4 y5 y6 y7 y8 y9 y10 y11; rintro r W15 ⟨rfl, pp⟩)
  obtain ⟨l11, HL11⟩ : ∃ x, Hid (x = l10 ++ fixW h.owner 32) := ⟨_, Lib.hid rfl⟩
  have hl11 : l11.length = 297 := by rw [HL11.out, List.length_append, fixW_len]; omega
  rw [← HL11.out] at pp
  have p11 := pp
  clear pp p10 hl10

  obtain ⟨y0, y1, y2, y3, y4, y5, y6, y7, y8, y9, y10⟩ := cells11 p11.bh
  have y11 : W15.cell? ⟨g8, 0, none⟩ = some (.func (.func 36) #[] #[.pointer (some ⟨gx, 0, none⟩)]) := by have := p11.b8.cell 0; simpa using this
  have hp := p11.put h.group 32 (by omega) (by omega)
  go_upto_region 16 with (go_at_call 36; refine hp.mono ?_; clear hp y0 y1 y2 y3 y4 y5 y6 y7 y8 y9 y10 y11; rintro r W16 ⟨rfl, pp⟩)
  obtain ⟨l12, HL12⟩ : ∃ x, Hid (x = l11 ++ fixW h.group 32) := ⟨_, Lib.hid rfl⟩
  have hl12 : l12.length = 329 := by rw [HL12.out, List.length_append, fixW_len]; omega
  rw [← HL12.out] at pp
  have p12 := pp
  clear pp p11 hl11

  obtain ⟨y0, y1, y2, y3, y4, y5, y6, y7, y8, y9, y10⟩ := cells11 p12.bh
  have y11 : W16.cell? ⟨g8, 0, none⟩ = some (.func (.func 36) #[] #[.pointer (some ⟨gx, 0, none⟩)]) := by have := p12.b8.cell 0; simpa using this
  have hp := p12.num hD 0 8 (by omega) (by omega) (by omega) f0 (by omega)
  go_upto_region 17 with (go_at_call 37; refine hp.mono ?_; clear hp y0 y1 y2 y3 y4 y5 y6 y7 y8 y9 y10 y11; rintro r W17 ⟨rfl, pp⟩)
  obtain ⟨l13, HL13⟩ : ∃ x, Hid (x = l12 ++ octF 0 8) := ⟨_, Lib.hid rfl⟩
  have hl13 : l13.length = 337 := by rw [HL13.out, List.length_append, octF_len f0 (by omega)]; omega
  rw [← HL13.out] at pp
  have p13 := pp
  clear pp p12 hl12

  obtain ⟨y0, y1, y2, y3, y4, y5, y6, y7, y8, y9, y10⟩ := cells11 p13.bh
  have y11 : W17.cell? ⟨g8, 0, none⟩ = some (.func (.func 36) #[] #[.pointer (some ⟨gx, 0, none⟩)]) := by have := p13.b8.cell 0; simpa using this
  have hp := p13.num hD 0 8 (by omega) (by omega) (by omega) f0 (by omega)
  go_upto_region 18 with (go_at_call 37; refine hp.mono ?_; clear hp y0 y1 y2 y3 y4 y5 y6 y7 y8 y9 y10 y11; rintro r W18 ⟨rfl, pp⟩)
  obtain ⟨l14, HL14⟩ : ∃ x, Hid (x = l13 ++ octF 0 8) := ⟨_, Lib.hid rfl⟩
  have hl14 : l14.length = 345 := by rw [HL14.out, List.length_append, octF_len f0 (by omega)]; omega
  rw [← HL14.out] at pp
  have p14 := pp
  clear pp p13 hl13

  obtain ⟨y0, y1, y2, y3, y4, y5, y6, y7, y8, y9, y10⟩ := cells11 p14.bh
  have y11 : W18.cell? ⟨g8, 0, none⟩ = some (.func (.func 36) #[] #[.pointer (some ⟨gx, 0, none⟩)]) := by have := p14.b8.cell 0; simpa using this
  have hp := p14.put h.pfx 155 (by omega) (by omega)
  go_upto_region 19 with (go_at_call 36; refine hp.mono ?_; clear hp y0 y1 y2 y3 y4 y5 y6 y7 y8 y9 y10 y11; rintro r W19 ⟨rfl, pp⟩)
  obtain ⟨l15, HL15⟩ : ∃ x, Hid (x = l14 ++ fixW h.pfx 155) := ⟨_, Lib.hid rfl⟩
  have hl15 : l15.length = 500 := by rw [HL15.out, List.length_append, fixW_len]; omega
  rw [← HL15.out] at pp
  have p15 := pp
  clear pp p14 hl14

  obtain ⟨y0, y1, y2, y3, y4, y5, y6, y7, y8, y9, y10⟩ := cells11 p15.bh
  have y11 : W19.cell? ⟨g8, 0, none⟩ = some (.func (.func 36) #[] #[.pointer (some ⟨gx, 0, none⟩)]) := by have := p15.b8.cell 0; simpa using this
  have hp := p15.put [] 12 (by omega) (by omega)
  go_upto_region 20 with (go_at_call 36; refine hp.mono ?_; clear hp y0 y1 y2 y3 y4 y5 y6 y7 y8 y9 y10 y11; rintro r W20 ⟨rfl, pp⟩)
  obtain ⟨l16, HL16⟩ : ∃ x, Hid (x = l15 ++ fixW [] 12) := ⟨_, Lib.hid rfl⟩
  have hl16 : l16.length = 512 := by rw [HL16.out, List.length_append, fixW_len]; omega
  rw [← HL16.out] at pp
  have p16 := pp
  clear pp p15 hl15

  have HALL : Hid (l16 = preB h ++ List.replicate 8 0 ++ postB h gnu) := Lib.hid (by
    rw [HL16.out, HL15.out, HL14.out, HL13.out, HL12.out, HL11.out, HL10.out, HL9.out, HL8.out, HL7.out, HL6.out, HL5.out, HL4.out, HL3.out, HL2.out, HL1.out, HL0.out, preB, postB, HM.out, fixW_self (s := [h.kind]) (n := 1) rfl, fixW_self HMG.out, show fixW [] 8 = List.replicate 8 0 from rfl, show fixW [] 12 = List.replicate 12 0 from rfl]
    simp only [List.nil_append, List.append_assoc])
  clear HL0 HL1 HL2 HL3 HL4 HL5 HL6 HL7 HL8 HL9 HL10 HL11 HL12 HL13 HL14 HL15 HL16
  obtain ⟨v, hbx, hox⟩ := p16.box
  have T := p16
  have hpl := preB_len ⟨h1, h2, h3, h4, h5⟩
  have hpo := postB_len h gnu
  have hST : Hid (sumT l16 = 256 + sumB (preB h) + sumB (postB h gnu)) := Lib.hid (by rw [HALL.out]; exact sumT_parts _ _ _ hpl (by simp))
  have hsb1 := sumB_le (preB h)
  have hsb2 := sumB_le (postB h gnu)
  have hSle : sumT l16 ≤ 200000 := by rw [hST.out]; omega
  have sb := SB.of_own hox
  have hsum := tsum_any l16 _ _ sb (by omega)
  obtain ⟨S, HS⟩ : ∃ S, sumT l16 = S := ⟨_, rfl⟩
  rw [HS] at hsum hSle hST
  have fS : fitsO S 7 := fits_of (w := 5) (by omega)
  have hoc := toct_any S 7 W20 (by omega) (by omega) (by omega) fS (hD.below T.below)
  have hol := octF_len fS (by omega)
  rcases hox.2 with ⟨_, hz⟩ | ⟨gB, cap, cur, hveq, hB1, hB2, hB3, hB4, hB5, hB6⟩
  · omega
  subst hveq
  rw [hl16] at hsum hbx hB3 hB6 hox sb
  have hBx : gB ≠ gx := fun e => Blk.apartT (t := 5) hB2 hbx (by decide) e
  have y0 := hbx.cell 0
  simp at y0
  have hBW := (Array.getElem?_eq_some_iff.1 hB2).1
  go_upto_region 21 with (first
    | (go_at_call 39; refine hsum.mono ?_; clear hsum; rintro r Ww ⟨rfl, rfl⟩)
    | (go_at_call 38; refine hoc.mono ?_; clear hoc; rintro r W25 ⟨rfl, hb25⟩; have hbx5 := hbx.below hb25 hbx.lt; have y5 := hbx5.cell 0; simp at y5))
  have hB5w : Blk W25 gB 5 cur := (hb25.block gB hBW).trans hB2
  have hbw5 := T.below.trans (hb25.mono T.below.size)
  have zo := bs_size (octF S 7)
  have hcs : 512 ≤ cur.size := by rw [hB5]; omega
  have hcp : (Builtin.copy_ #[25, 9] 3 #[.slice (some ⟨gB, 148, none⟩) 364 (cap - 148), .string (bs (octF S 7) ++ ⟨#[32]⟩)]).run Tryz.prog W25 = .ok (goInt (min 364 (octF S 7 ++ [32]).length : Nat)) (W25.setRow gB (cur.toList.take 148 ++ bvs ((octF S 7 ++ [32]).take 364) ++ cur.toList.drop (148 + min 364 (octF S 7 ++ [32]).length)).toArray) := by
    rw [show bs (octF S 7) ++ (⟨#[32]⟩ : ByteArray) = bs (octF S 7 ++ [32]) from bs_app _ _]
    exact run_copy_text W25 25 9 3 5 gB 148 364 (cap - 148) (octF S 7 ++ [32]) cur 5 Tryz.underlying25 hsz1 hB5w (by simp only [List.length_append, List.length_cons, List.length_nil, hol]; omega)
  have hm8 : min 364 (octF S 7 ++ [32]).length = 8 := by simp only [List.length_append, List.length_cons, List.length_nil, hol]; rfl
  have ht8 : (octF S 7 ++ [32]).take 364 = octF S 7 ++ [32] := List.take_of_length_le (by simp only [List.length_append, List.length_cons, List.length_nil, hol]; omega)
  rw [hm8, ht8] at hcp
  have hk26 := setRow_kept W25 gB (cur.toList.take 148 ++ bvs (octF S 7 ++ [32]) ++ cur.toList.drop (148 + 8)).toArray
  have hB26 := setRow_blk hB5w (cur.toList.take 148 ++ bvs (octF S 7 ++ [32]) ++ cur.toList.drop (148 + 8)).toArray
  obtain ⟨sp1, sp2⟩ := splice_row cur.toList (bvs (preB h)) (bvs (List.replicate 8 0)) (bvs (octF S 7 ++ [32])) (bvs (postB h gnu)) (by rw [← bvs_append, ← bvs_append, ← HALL.out]; simpa using hB6) (by rw [bvs_length]; exact hpl) (by rw [bvs_length]; simp) (by rw [bvs_length]; simp only [List.length_append, List.length_cons, List.length_nil, hol]) (by rw [bvs_length]; exact hpo)
  rw [← bvs_append, ← bvs_append] at sp1
  have hBL : Hid (preB h ++ (octF S 7 ++ [32]) ++ postB h gnu = blockB h gnu) := Lib.hid (by rw [blockB, ← hST.out])
  have hblen := blockB_len ⟨h1, h2, h3, h4, h5⟩ gnu
  rw [hBL.out] at sp1
  generalize cur.toList.take 148 ++ bvs (octF S 7 ++ [32]) ++ cur.toList.drop (148 + 8) = cur2 at hcp hk26 hB26 sp1 sp2
  have hbx6 : Blk (W25.setRow gB cur2.toArray) gx 25 #[.slice (some ⟨gB, 0, none⟩) 512 cap] := by
    have := hk26.blk hbx5 (fun e => hBx e.symm)
    exact this
  have hbw6 : Below w.heap.size w (W25.setRow gB cur2.toArray) := hbw5.trans (hk26.below hbw5.size fun k _ e => by rw [e]; exact hB1)
  have hox6 : (W25.setRow gB cur2.toArray).ownsRow w.heap.size 5 1 (.slice (some ⟨gB, 0, none⟩) 512 cap) 512 (bvs (blockB h gnu)) :=
    ⟨by rw [bvs_length, hblen], .inr ⟨gB, cap, cur2.toArray, rfl, hB1, hB26, hB3, hB4, by rw [List.size_toArray, sp2, Array.length_toList]; exact hB5, by simpa using sp1⟩⟩
  have sb6 := SB.of_own hox6
  have hr := (Row8.first hown hbase).below hbw6
  clear hsb1 hsb2 hST sp1 sp2 hk26 hB26 hbx5 hB5w hbw5 hB2 hB6 hB5 hcs hox T p16 HALL sb hbx y0 hbw6 hox6
  go_upto_region 22 with fail
  generalize W25.setRow gB cur2.toArray = W26 at hbx6 hr sb6 ⊢
  have y6 := hbx6.cell 0
  simp at y6
  go_wp2_with (at_builtin; refine wpList_row_bytes rfl _ _ 25 rfl Tryz.underlying25 u8info rfl hr (some ⟨gB, 0, none⟩) 512 cap (blockB h gnu) rfl sb6 (by rw [hblen]; omega) ?_; intro v7 W7 hr7; obtain ⟨A7, c7, rfl⟩ := own_form hr7.own)
  rw [List.length_append, hblen] at hr7
  go_ret
  exact ⟨_, rfl, hr7⟩
end Go.Proofs.YtpheifdpjcppdaaGreatDoor
namespace Go.Proofs.YtpheifdpjcppdaaGreatDoor
open Go.RowKit
def kindT (k : Int) : Int := if k = 1 then 48 else if k = 4 then 49 else if k = 3 then 50 else 53
theorem two_al (w : World) (t t' : TypeId) (c c' : Array Value) : ∃ W g g', W = (w.alloc (.cells c t)).alloc (.cells c' t') ∧ g = w.heap.size ∧ g' = w.heap.size + 1 ∧ Blk W g t c ∧ Blk W g' t' c' ∧ Below w.heap.size w W ∧ w.heap.size ≤ g ∧ w.heap.size ≤ g' := by
  refine ⟨_, _, _, rfl, rfl, rfl, (Blk.new w t c).alloc _, ?_, ((Below.refl _ w).alloc (Nat.le_refl _) _).alloc (by simp) _, Nat.le_refl _, Nat.le_succ _⟩
  have := Blk.new (w.alloc (.cells c t)) t' c'
  rw [show (w.alloc (.cells c t)).heap.size = w.heap.size + 1 by simp] at this
  exact this
theorem set11 {W : World} {g : Nat} {t : TypeId} {x0 x1 x2 x3 x4 x5 x6 x7 x8 x9 x10 : Value} (h : Blk W g t #[x0, x1, x2, x3, x4, x5, x6, x7, x8, x9, x10]) (a0 a1 a2 a3 a4 a5 a6 a7 a8 a9 a10 : Value) :
    ∃ W9, W9 = ((((((((((W.setCell ⟨g, 0, none⟩ a0).setCell ⟨g, 1, none⟩ a1).setCell ⟨g, 2, none⟩ a2).setCell ⟨g, 3, none⟩ a3).setCell ⟨g, 4, none⟩ a4).setCell ⟨g, 5, none⟩ a5).setCell ⟨g, 6, none⟩ a6).setCell ⟨g, 7, none⟩ a7).setCell ⟨g, 8, none⟩ a8).setCell ⟨g, 9, none⟩ a9).setCell ⟨g, 10, none⟩ a10 ∧
      Blk W9 g t #[a0, a1, a2, a3, a4, a5, a6, a7, a8, a9, a10] ∧ Kept (fun k => k = g) W W9 := by
  refine ⟨_, rfl, ?_, ?_⟩
  · have := ((((((((((h.set (u := a0) 0).set (u := a1) 1).set (u := a2) 2).set (u := a3) 3).set (u := a4) 4).set (u := a5) 5).set (u := a6) 6).set (u := a7) 7).set (u := a8) 8).set (u := a9) 9).set (u := a10) 10
    simpa using this
  · exact (((((((((((Kept.refl (fun k => k = g) W).setCell (p := ⟨g, 0, none⟩) a0 fun _ => rfl).setCell (p := ⟨g, 1, none⟩) a1 fun _ => rfl).setCell (p := ⟨g, 2, none⟩) a2 fun _ => rfl).setCell (p := ⟨g, 3, none⟩) a3 fun _ => rfl).setCell (p := ⟨g, 4, none⟩) a4 fun _ => rfl).setCell (p := ⟨g, 5, none⟩) a5 fun _ => rfl).setCell (p := ⟨g, 6, none⟩) a6 fun _ => rfl).setCell (p := ⟨g, 7, none⟩) a7 fun _ => rfl).setCell (p := ⟨g, 8, none⟩) a8 fun _ => rfl).setCell (p := ⟨g, 9, none⟩) a9 fun _ => rfl).setCell (p := ⟨g, 10, none⟩) a10 fun _ => rfl
set_option maxRecDepth 20000 in
set_option maxHeartbeats 16000000 in
theorem theadOf_any (e : En) (A : Option Addr) (cap : Nat) (w : World) :
    Calls Tryz.prog 16 #[entV e (.slice A e.data.length cap)] w fun r w' => r = .returned (.agg #[.string ⟨#[]⟩, .string ⟨#[]⟩, .string ⟨#[]⟩, .int .i64 e.mode, .int .i64 e.uid, .int .i64 e.gid, .int .i64 (e.data.length : Int), .int .i64 e.mtime, .int .u8 (kindT e.kind), .string (bs e.owner), .string (bs e.group)]) ∧ Below w.heap.size w w' := by
  obtain ⟨K, HK⟩ : ∃ K, Hid (K = kindT e.kind) := ⟨_, Lib.hid rfl⟩
  rw [← HK.out]
  obtain ⟨W1, gE, gR, hW1, hgE, hgR0, bE, bR, hb1, _, hgR⟩ := two_al w 41 43 #[.string (bs e.path), .int .i64 e.kind, .int .i64 e.mode, .int .i64 e.uid, .int .i64 e.gid, .string (bs e.owner), .string (bs e.group), .int .i64 e.mtime, .string (bs e.link), .slice A e.data.length cap] #[.string ⟨#[]⟩, .string ⟨#[]⟩, .string ⟨#[]⟩, .int .i64 0, .int .i64 0, .int .i64 0, .int .i64 0, .int .i64 0, .int .u8 0, .string ⟨#[]⟩, .string ⟨#[]⟩]
  unfold entV
  go_enter Tryz.func16, Tryz.ntmps16
  go_upto_region 1 with fail
  rw [← hW1, ← hgR0, ← hgE]
  clear hW1 hgR0 hgE
  have hER : gE ≠ gR := Blk.apartT bE bR (by decide)
  obtain ⟨c0, c1, c2, c3, c4, c5, c6, c7, c8, c9⟩ := bE.cells10
  go_upto_region 2 with fail
  have bH := Blk.new W1 43 #[.string ⟨#[]⟩, .string ⟨#[]⟩, .string ⟨#[]⟩, .int .i64 e.mode, .int .i64 e.uid, .int .i64 e.gid, .int .i64 (e.data.length : Int), .int .i64 e.mtime, .int .u8 0, .string (bs e.owner), .string (bs e.group)]
  have hq := (Below.refl W1.heap.size W1).alloc (Nat.le_refl _) (.cells #[.string ⟨#[]⟩, .string ⟨#[]⟩, .string ⟨#[]⟩, .int .i64 e.mode, .int .i64 e.uid, .int .i64 e.gid, .int .i64 (e.data.length : Int), .int .i64 e.mtime, .int .u8 0, .string (bs e.owner), .string (bs e.group)] 43)
  have bR3 := bR.below hq bR.lt
  have bE3 := bE.below hq bE.lt
  have hHR : W1.heap.size ≠ gR := fun e => by have := bR.lt; omega
  have hgH : w.heap.size ≤ W1.heap.size := hb1.size
  have hbw4 := hb1.trans (hq.mono hb1.size)
  clear hq bR bE hb1 c0 c1 c2 c3 c4 c5 c6 c7 c8 c9
  generalize W1.alloc (.cells #[.string ⟨#[]⟩, .string ⟨#[]⟩, .string ⟨#[]⟩, .int .i64 e.mode, .int .i64 e.uid, .int .i64 e.gid, .int .i64 (e.data.length : Int), .int .i64 e.mtime, .int .u8 0, .string (bs e.owner), .string (bs e.group)] 43) = W4 at bH bR3 bE3 hbw4 ⊢
  generalize W1.heap.size = gH at bH hHR hgH ⊢
  obtain ⟨c0, c1, c2, c3, c4, c5, c6, c7, c8, c9⟩ := bE3.cells10
  have h8 : W4.cell? ⟨gH, 8, none⟩ = some (.int .u8 0) := bH.cell 8
  have f8 := bH.frozen 8
  by_cases h1 : e.kind = 1
  · have q1 : (e.kind == 1) = true := by simpa using h1

    have hV : Hid (K = 48) := Lib.hid (by rw [HK.out, kindT]; rw [if_pos h1])
    go_upto_region 10 with fail
    have bH2 : Blk (W4.setCell ⟨gH, 8, none⟩ (.int .u8 48)) gH 43 #[.string ⟨#[]⟩, .string ⟨#[]⟩, .string ⟨#[]⟩, .int .i64 e.mode, .int .i64 e.uid, .int .i64 e.gid, .int .i64 (e.data.length : Int), .int .i64 e.mtime, .int .u8 48, .string (bs e.owner), .string (bs e.group)] := by
      have := bH.set (u := .int .u8 48) 8
      simpa using this
    have kH := (Kept.refl (fun k => k = gH) W4).setCell (p := ⟨gH, 8, none⟩) (.int .u8 48) fun _ => rfl
    have bR2 := kH.blk bR3 (fun e => hHR e.symm)
    have hbw5 := hbw4.trans (kH.below hbw4.size fun k _ e => by rw [e]; exact hgH)
    clear bH bR3 hbw4 kH c0 c1 c2 c3 c4 c5 c6 c7 c8 c9 f8
    generalize W4.setCell ⟨gH, 8, none⟩ (.int .u8 48) = W5 at bH2 bR2 hbw5 ⊢
    obtain ⟨y0, y1, y2, y3, y4, y5, y6, y7, y8, y9, y10⟩ := cells11 bH2
    obtain ⟨z0, z1, z2, z3, z4, z5, z6, z7, z8, z9, z10⟩ := cells11 bR2
    have g0 := bR2.frozen 0
    have g1 := bR2.frozen 1
    have g2 := bR2.frozen 2
    have g3 := bR2.frozen 3
    have g4 := bR2.frozen 4
    have g5 := bR2.frozen 5
    have g6 := bR2.frozen 6
    have g7 := bR2.frozen 7
    have g8 := bR2.frozen 8
    have g9 := bR2.frozen 9
    have g10 := bR2.frozen 10
    go_wp2_with fail
    obtain ⟨W9, hW9, c9, k9⟩ := set11 bR2 (.string ⟨#[]⟩) (.string ⟨#[]⟩) (.string ⟨#[]⟩) (.int .i64 e.mode) (.int .i64 e.uid) (.int .i64 e.gid) (.int .i64 (e.data.length : Int)) (.int .i64 e.mtime) (.int .u8 48) (.string (bs e.owner)) (.string (bs e.group))
    rw [← hW9]
    obtain ⟨y0, y1, y2, y3, y4, y5, y6, y7, y8, y9, y10⟩ := cells11 c9
    refine bodyPost_ret (v := .agg #[.string ⟨#[]⟩, .string ⟨#[]⟩, .string ⟨#[]⟩, .int .i64 e.mode, .int .i64 e.uid, .int .i64 e.gid, .int .i64 (e.data.length : Int), .int .i64 e.mtime, .int .u8 48, .string (bs e.owner), .string (bs e.group)]) (by simp [results, Tryz.results16, go_sem, y0, y1, y2, y3, y4, y5, y6, y7, y8, y9, y10]) rfl ?_
    exact ⟨by rw [hV.out], hbw5.trans (k9.below hbw5.size fun k _ e => by rw [e]; exact hgR)⟩

  have q1 : (e.kind == 1) = false := by simpa using h1
  by_cases h4 : e.kind = 4
  · have q4 : (e.kind == 4) = true := by simpa using h4

    have hV : Hid (K = 49) := Lib.hid (by rw [HK.out, kindT]; rw [if_neg h1, if_pos h4])
    go_upto_region 10 with fail
    have bH2 : Blk (W4.setCell ⟨gH, 8, none⟩ (.int .u8 49)) gH 43 #[.string ⟨#[]⟩, .string ⟨#[]⟩, .string ⟨#[]⟩, .int .i64 e.mode, .int .i64 e.uid, .int .i64 e.gid, .int .i64 (e.data.length : Int), .int .i64 e.mtime, .int .u8 49, .string (bs e.owner), .string (bs e.group)] := by
      have := bH.set (u := .int .u8 49) 8
      simpa using this
    have kH := (Kept.refl (fun k => k = gH) W4).setCell (p := ⟨gH, 8, none⟩) (.int .u8 49) fun _ => rfl
    have bR2 := kH.blk bR3 (fun e => hHR e.symm)
    have hbw5 := hbw4.trans (kH.below hbw4.size fun k _ e => by rw [e]; exact hgH)
    clear bH bR3 hbw4 kH c0 c1 c2 c3 c4 c5 c6 c7 c8 c9 f8
    generalize W4.setCell ⟨gH, 8, none⟩ (.int .u8 49) = W5 at bH2 bR2 hbw5 ⊢
    obtain ⟨y0, y1, y2, y3, y4, y5, y6, y7, y8, y9, y10⟩ := cells11 bH2
    obtain ⟨z0, z1, z2, z3, z4, z5, z6, z7, z8, z9, z10⟩ := cells11 bR2
    have g0 := bR2.frozen 0
    have g1 := bR2.frozen 1
    have g2 := bR2.frozen 2
    have g3 := bR2.frozen 3
    have g4 := bR2.frozen 4
    have g5 := bR2.frozen 5
    have g6 := bR2.frozen 6
    have g7 := bR2.frozen 7
    have g8 := bR2.frozen 8
    have g9 := bR2.frozen 9
    have g10 := bR2.frozen 10
    go_wp2_with fail
    obtain ⟨W9, hW9, c9, k9⟩ := set11 bR2 (.string ⟨#[]⟩) (.string ⟨#[]⟩) (.string ⟨#[]⟩) (.int .i64 e.mode) (.int .i64 e.uid) (.int .i64 e.gid) (.int .i64 (e.data.length : Int)) (.int .i64 e.mtime) (.int .u8 49) (.string (bs e.owner)) (.string (bs e.group))
    rw [← hW9]
    obtain ⟨y0, y1, y2, y3, y4, y5, y6, y7, y8, y9, y10⟩ := cells11 c9
    refine bodyPost_ret (v := .agg #[.string ⟨#[]⟩, .string ⟨#[]⟩, .string ⟨#[]⟩, .int .i64 e.mode, .int .i64 e.uid, .int .i64 e.gid, .int .i64 (e.data.length : Int), .int .i64 e.mtime, .int .u8 49, .string (bs e.owner), .string (bs e.group)]) (by simp [results, Tryz.results16, go_sem, y0, y1, y2, y3, y4, y5, y6, y7, y8, y9, y10]) rfl ?_
    exact ⟨by rw [hV.out], hbw5.trans (k9.below hbw5.size fun k _ e => by rw [e]; exact hgR)⟩

  have q4 : (e.kind == 4) = false := by simpa using h4
  by_cases h3 : e.kind = 3
  · have q3 : (e.kind == 3) = true := by simpa using h3

    have hV : Hid (K = 50) := Lib.hid (by rw [HK.out, kindT]; rw [if_neg h1, if_neg h4, if_pos h3])
    go_upto_region 10 with fail
    have bH2 : Blk (W4.setCell ⟨gH, 8, none⟩ (.int .u8 50)) gH 43 #[.string ⟨#[]⟩, .string ⟨#[]⟩, .string ⟨#[]⟩, .int .i64 e.mode, .int .i64 e.uid, .int .i64 e.gid, .int .i64 (e.data.length : Int), .int .i64 e.mtime, .int .u8 50, .string (bs e.owner), .string (bs e.group)] := by
      have := bH.set (u := .int .u8 50) 8
      simpa using this
    have kH := (Kept.refl (fun k => k = gH) W4).setCell (p := ⟨gH, 8, none⟩) (.int .u8 50) fun _ => rfl
    have bR2 := kH.blk bR3 (fun e => hHR e.symm)
    have hbw5 := hbw4.trans (kH.below hbw4.size fun k _ e => by rw [e]; exact hgH)
    clear bH bR3 hbw4 kH c0 c1 c2 c3 c4 c5 c6 c7 c8 c9 f8
    generalize W4.setCell ⟨gH, 8, none⟩ (.int .u8 50) = W5 at bH2 bR2 hbw5 ⊢
    obtain ⟨y0, y1, y2, y3, y4, y5, y6, y7, y8, y9, y10⟩ := cells11 bH2
    obtain ⟨z0, z1, z2, z3, z4, z5, z6, z7, z8, z9, z10⟩ := cells11 bR2
    have g0 := bR2.frozen 0
    have g1 := bR2.frozen 1
    have g2 := bR2.frozen 2
    have g3 := bR2.frozen 3
    have g4 := bR2.frozen 4
    have g5 := bR2.frozen 5
    have g6 := bR2.frozen 6
    have g7 := bR2.frozen 7
    have g8 := bR2.frozen 8
    have g9 := bR2.frozen 9
    have g10 := bR2.frozen 10
    go_wp2_with fail
    obtain ⟨W9, hW9, c9, k9⟩ := set11 bR2 (.string ⟨#[]⟩) (.string ⟨#[]⟩) (.string ⟨#[]⟩) (.int .i64 e.mode) (.int .i64 e.uid) (.int .i64 e.gid) (.int .i64 (e.data.length : Int)) (.int .i64 e.mtime) (.int .u8 50) (.string (bs e.owner)) (.string (bs e.group))
    rw [← hW9]
    obtain ⟨y0, y1, y2, y3, y4, y5, y6, y7, y8, y9, y10⟩ := cells11 c9
    refine bodyPost_ret (v := .agg #[.string ⟨#[]⟩, .string ⟨#[]⟩, .string ⟨#[]⟩, .int .i64 e.mode, .int .i64 e.uid, .int .i64 e.gid, .int .i64 (e.data.length : Int), .int .i64 e.mtime, .int .u8 50, .string (bs e.owner), .string (bs e.group)]) (by simp [results, Tryz.results16, go_sem, y0, y1, y2, y3, y4, y5, y6, y7, y8, y9, y10]) rfl ?_
    exact ⟨by rw [hV.out], hbw5.trans (k9.below hbw5.size fun k _ e => by rw [e]; exact hgR)⟩

  · have q3 : (e.kind == 3) = false := by simpa using h3

    have hV : Hid (K = 53) := Lib.hid (by rw [HK.out, kindT]; rw [if_neg h1, if_neg h4, if_neg h3])
    go_upto_region 10 with fail
    have bH2 : Blk (W4.setCell ⟨gH, 8, none⟩ (.int .u8 53)) gH 43 #[.string ⟨#[]⟩, .string ⟨#[]⟩, .string ⟨#[]⟩, .int .i64 e.mode, .int .i64 e.uid, .int .i64 e.gid, .int .i64 (e.data.length : Int), .int .i64 e.mtime, .int .u8 53, .string (bs e.owner), .string (bs e.group)] := by
      have := bH.set (u := .int .u8 53) 8
      simpa using this
    have kH := (Kept.refl (fun k => k = gH) W4).setCell (p := ⟨gH, 8, none⟩) (.int .u8 53) fun _ => rfl
    have bR2 := kH.blk bR3 (fun e => hHR e.symm)
    have hbw5 := hbw4.trans (kH.below hbw4.size fun k _ e => by rw [e]; exact hgH)
    clear bH bR3 hbw4 kH c0 c1 c2 c3 c4 c5 c6 c7 c8 c9 f8
    generalize W4.setCell ⟨gH, 8, none⟩ (.int .u8 53) = W5 at bH2 bR2 hbw5 ⊢
    obtain ⟨y0, y1, y2, y3, y4, y5, y6, y7, y8, y9, y10⟩ := cells11 bH2
    obtain ⟨z0, z1, z2, z3, z4, z5, z6, z7, z8, z9, z10⟩ := cells11 bR2
    have g0 := bR2.frozen 0
    have g1 := bR2.frozen 1
    have g2 := bR2.frozen 2
    have g3 := bR2.frozen 3
    have g4 := bR2.frozen 4
    have g5 := bR2.frozen 5
    have g6 := bR2.frozen 6
    have g7 := bR2.frozen 7
    have g8 := bR2.frozen 8
    have g9 := bR2.frozen 9
    have g10 := bR2.frozen 10
    go_wp2_with fail
    obtain ⟨W9, hW9, c9, k9⟩ := set11 bR2 (.string ⟨#[]⟩) (.string ⟨#[]⟩) (.string ⟨#[]⟩) (.int .i64 e.mode) (.int .i64 e.uid) (.int .i64 e.gid) (.int .i64 (e.data.length : Int)) (.int .i64 e.mtime) (.int .u8 53) (.string (bs e.owner)) (.string (bs e.group))
    rw [← hW9]
    obtain ⟨y0, y1, y2, y3, y4, y5, y6, y7, y8, y9, y10⟩ := cells11 c9
    refine bodyPost_ret (v := .agg #[.string ⟨#[]⟩, .string ⟨#[]⟩, .string ⟨#[]⟩, .int .i64 e.mode, .int .i64 e.uid, .int .i64 e.gid, .int .i64 (e.data.length : Int), .int .i64 e.mtime, .int .u8 53, .string (bs e.owner), .string (bs e.group)]) (by simp [results, Tryz.results16, go_sem, y0, y1, y2, y3, y4, y5, y6, y7, y8, y9, y10]) rfl ?_
    exact ⟨by rw [hV.out], hbw5.trans (k9.below hbw5.size fun k _ e => by rw [e]; exact hgR)⟩

end Go.Proofs.YtpheifdpjcppdaaGreatDoor
