/- The walk of tar.readHead. Printed by gen_tbe.py. What tar's reader has in memory; the walks of its end. -/
import Derived.Test.YtpheifdpjcppdaaGreatDoorTbAD
import Derived.Test.YtpheifdpjcppdaaGreatDoorTaDG
import Derived.Test.YtpheifdpjcppdaaGreatDoorEnMN
namespace Go.Proofs.YtpheifdpjcppdaaGreatDoor
open Go.RowKit
def wdK : Nat → Nat
  | 0 => 8
  | 1 => 8
  | 2 => 8
  | 3 => 12
  | 4 => 12
  | _ => 0
def offK : Nat → Nat
  | 0 => 100
  | 1 => 108
  | 2 => 116
  | 3 => 124
  | 4 => 136
  | _ => 148
theorem off_next : ∀ k, k < 5 → offK k + wdK k = offK (k + 1) ∧ offK (k + 1) ≤ 148
  | 0, _ => by decide
  | 1, _ => by decide
  | 2, _ => by decide
  | 3, _ => by decide
  | 4, _ => by decide
def numK (l : List UInt8) (k : Nat) : List UInt8 := fldB l (offK k) (wdK k)
def numC (l : List UInt8) (k : Nat) : Array Value := #[.string (bs (if 0 < k then numK l 0 else [])), .string (bs (if 1 < k then numK l 1 else [])), .string (bs (if 2 < k then numK l 2 else [])), .string (bs (if 3 < k then numK l 3 else [])), .string (bs (if 4 < k then numK l 4 else []))]
theorem numC_at (l : List UInt8) : ∀ k, k < 5 → (numC l k)[k]? = some (.string ⟨#[]⟩) ∧ (numC l 5)[k]? = some (.string (bs (numK l k))) ∧ (numC l k).setIfInBounds k (.string (bs (numK l k))) = numC l (k + 1)
  | 0, _ => ⟨rfl, rfl, rfl⟩
  | 1, _ => ⟨rfl, rfl, rfl⟩
  | 2, _ => ⟨rfl, rfl, rfl⟩
  | 3, _ => ⟨rfl, rfl, rfl⟩
  | 4, _ => ⟨rfl, rfl, rfl⟩
theorem wd_at (W : World) : ∀ k : Nat, k < 5 → (Instr.index 109 (.agg #[.int .i64 8, .int .i64 8, .int .i64 8, .int .i64 12, .int .i64 12]) (.int .i64 (k : Int))).run Tryz.prog W = .ok (.int .i64 (wdK k : Int)) W
  | 0, _ => by kernel_rfl
  | 1, _ => by kernel_rfl
  | 2, _ => by kernel_rfl
  | 3, _ => by kernel_rfl
  | 4, _ => by kernel_rfl
theorem ptr_at (gh : Nat) (W : World) : ∀ k : Nat, k < 5 → (Instr.index 112 (.agg #[.pointer (some ⟨gh, 3, none⟩), .pointer (some ⟨gh, 4, none⟩), .pointer (some ⟨gh, 5, none⟩), .pointer (some ⟨gh, 6, none⟩), .pointer (some ⟨gh, 7, none⟩)]) (.int .i64 (k : Int))).run Tryz.prog W = .ok (.pointer (some ⟨gh, 3 + k, none⟩)) W
  | 0, _ => by kernel_rfl
  | 1, _ => by kernel_rfl
  | 2, _ => by kernel_rfl
  | 3, _ => by kernel_rfl
  | 4, _ => by kernel_rfl
def iC (l : List UInt8) (k j : Nat) : Value := .int .i64 (if j < k then (ocN (numK l j) : Int) else 0)
def hdC (l : List UInt8) (n p lk : Value) (kd o g : Value) (k : Nat) : Array Value := #[n, p, lk, iC l k 0, iC l k 1, iC l k 2, iC l k 3, iC l k 4, kd, o, g]
theorem hdC_at (l : List UInt8) (n p lk kd o g : Value) : ∀ k, k < 5 → (hdC l n p lk kd o g k)[3 + k]? = some (.int .i64 0) ∧ (hdC l n p lk kd o g k).setIfInBounds (3 + k) (.int .i64 (ocN (numK l k) : Int)) = hdC l n p lk kd o g (k + 1)
  | 0, _ => ⟨rfl, rfl⟩
  | 1, _ => ⟨rfl, rfl⟩
  | 2, _ => ⟨rfl, rfl⟩
  | 3, _ => ⟨rfl, rfl⟩
  | 4, _ => ⟨rfl, rfl⟩
theorem arr11 {cs : Array Value} (h : cs.size = 11) : ∃ x0 x1 x2 x3 x4 x5 x6 x7 x8 x9 x10, cs = #[x0, x1, x2, x3, x4, x5, x6, x7, x8, x9, x10] := by
  obtain ⟨l⟩ := cs
  match l, h with
  | [x0, x1, x2, x3, x4, x5, x6, x7, x8, x9, x10], _ => exact ⟨_, _, _, _, _, _, _, _, _, _, _, rfl⟩
theorem nums_drop (l : List UInt8) : ∀ k, k < 5 → (numsL l).drop k = numK l k :: (numsL l).drop (k + 1)
  | 0, _ => rfl
  | 1, _ => rfl
  | 2, _ => rfl
  | 3, _ => rfl
  | 4, _ => rfl
theorem oct_num (s : List UInt8) (h : octCode s = 0) : octNum s = (ocN s : Int) := by rw [octNum, if_pos h]; rfl
theorem RH.other {w W : World} {gr gh gf : Nat} {full : List UInt8} {k : Nat} {H : Array Value} (p : RH w gr gh gf full k H W) {g : Nat} {t : TypeId} {cs : Array Value} (hb : Blk W g t cs) (h1 : 9 ≠ t) (h2 : 43 ≠ t) (h3 : 53 ≠ t) (hg : w.heap.size ≤ g) (i : Nat) (u : Value) : RH w gr gh gf full k H (W.setCell ⟨g, i, none⟩ u) := by
  have hk : Kept (fun k => k = g) W (W.setCell ⟨g, i, none⟩ u) := (Kept.refl _ W).setCell (p := ⟨g, i, none⟩) u fun _ => rfl
  exact ⟨p.below.trans (hk.below p.below.size fun k _ e => by rw [e]; exact hg), p.rest.other (a := ⟨g, i, none⟩) u (Blk.apartT p.rest hb h1), p.bh.other (a := ⟨g, i, none⟩) u (Blk.apartT p.bh hb h2), p.bf.other (a := ⟨g, i, none⟩) u (Blk.apartT p.bf hb h3), p.lr, p.lh⟩
theorem kept_num {W W' : World} {gr g8 : Nat} {a : Array Value} {cs : Array Value} {t : TypeId} (k : Kept (fun j => j = gr) W W') (hr : Blk W gr 9 a) (hb : Blk W g8 t cs) (h : t ≠ 9) : Blk W' g8 t cs := k.blk hb (Blk.apartT hb hr h)
/-- What a head that is read is as a value. -/
def headRV (h : HdR) : Value := .agg #[.string (bs h.name), .string (bs h.pfx), .string (bs h.link), .int .i64 (h.mode : Int), .int .i64 (h.uid : Int), .int .i64 (h.gid : Int), .int .i64 (h.size : Int), .int .i64 (h.mtime : Int), .int .u8 (h.kind.toNat : Int), .string (bs h.owner), .string (bs h.group)]
def hrV : HR → Value
  | .bad c => .tuple #[.agg #[.string ⟨#[]⟩, .string ⟨#[]⟩, .string ⟨#[]⟩, .int .i64 0, .int .i64 0, .int .i64 0, .int .i64 0, .int .i64 0, .int .u8 0, .string ⟨#[]⟩, .string ⟨#[]⟩], .bool false, .int .i64 c]
  | .ok h => .tuple #[headRV h, .bool h.gnu, .int .i64 0]
theorem beq_bytes (m k : List UInt8) : ((bs m).toList == k) = decide (m = k) := by
  rw [toList_bs, Bool.eq_iff_iff]; simp
set_option maxRecDepth 20000 in
set_option maxHeartbeats 32000000 in
theorem readHead_any (l : List UInt8) (hl : l.length = 512) (A : Option Addr) (cap : Nat) (X : Nat → Prop) (w : World) (hsl : Sl 1 Rbyte X w (.slice A 512 cap) l) :
    Calls Tryz.prog 46 #[.slice A 512 cap] w fun r w' => r = .returned (hrV (headS l)) ∧ Below w.heap.size w w' := by
  have HST : Hid (∀ W, Below w.heap.size w W → (convert 25 9 (.slice A 512 cap)).run Tryz.prog W = .ok (.string (bs l)) W) := Lib.hid fun W hb => str8 (Below.sl good_byte hb hsl).sb8
  have HSUM := Lib.hid fun W (hb : Below w.heap.size w W) => tsum_any l _ W (Below.sl good_byte hb hsl).sb8 (by omega)
  obtain ⟨R, HR⟩ : ∃ R, Hid (headS l = R) := ⟨_, Lib.hid rfl⟩
  have HRV : Hid (R = if octCode (fldB l 148 8) ≠ 0 ∨ ocN (fldB l 148 8) ≠ sumT l then .bad 5 else if fldB l 257 8 ≠ magicB false ∧ fldB l 257 8 ≠ magicB true then .bad 3 else if fstBad (numsL l) ≠ 0 then .bad (fstBad (numsL l)) else .ok (hdR l)) := Lib.hid (by rw [← HR.out]; rfl)
  rw [HR.out]
  clear HR hsl
  go_enter Tryz.func46, Tryz.ntmps46
  go_upto_region 1 with fail
  have bH0 := Blk.new w 43 #[.string ⟨#[]⟩, .string ⟨#[]⟩, .string ⟨#[]⟩, .int .i64 0, .int .i64 0, .int .i64 0, .int .i64 0, .int .i64 0, .int .u8 0, .string ⟨#[]⟩, .string ⟨#[]⟩]
  have hb1 := (Below.refl w.heap.size w).alloc (Nat.le_refl _) (.cells #[.string ⟨#[]⟩, .string ⟨#[]⟩, .string ⟨#[]⟩, .int .i64 0, .int .i64 0, .int .i64 0, .int .i64 0, .int .i64 0, .int .u8 0, .string ⟨#[]⟩, .string ⟨#[]⟩] 43)
  obtain ⟨gh, hgh⟩ : ∃ gh, w.heap.size = gh := ⟨_, rfl⟩
  rw [hgh] at bH0
  rw [show (Value.pointer (some { block := w.heap.size, off := 0 })) = .pointer (some ⟨gh, 0, none⟩) by rw [hgh]]
  generalize w.alloc (.cells #[.string ⟨#[]⟩, .string ⟨#[]⟩, .string ⟨#[]⟩, .int .i64 0, .int .i64 0, .int .i64 0, .int .i64 0, .int .i64 0, .int .u8 0, .string ⟨#[]⟩, .string ⟨#[]⟩] 43) = W1 at bH0 hb1 ⊢
  have hst := HST.out W1 hb1
  clear HST
  go_upto_region 2 with fail
  have bR0 := Blk.new W1 9 #[.string (bs l)]
  have hq2 := (Below.refl W1.heap.size W1).alloc (Nat.le_refl _) (.cells #[.string (bs l)] 9)
  have hlr : w.heap.size ≤ W1.heap.size := hb1.size
  have hb2 := hb1.trans (hq2.mono hb1.size)
  have bH1 := bH0.below hq2 bH0.lt
  clear hst hq2 bH0 hb1
  generalize W1.alloc (.cells #[.string (bs l)] 9) = W2 at bR0 bH1 hb2 ⊢
  generalize W1.heap.size = gr at bR0 hlr ⊢
  have hsf := store_func W2 53 (.func 66) #[] #[.pointer (some ⟨gr, 0, none⟩)]
  go_upto_region 3 with fail
  have bF0 := Blk.new W2 53 #[.func (.func 66) #[] #[.pointer (some ⟨gr, 0, none⟩)]]
  have hq3 := (Below.refl W2.heap.size W2).alloc (Nat.le_refl _) (.cells #[.func (.func 66) #[] #[.pointer (some ⟨gr, 0, none⟩)]] 53)
  have p0 : RH w gr gh W2.heap.size l 0 #[.string ⟨#[]⟩, .string ⟨#[]⟩, .string ⟨#[]⟩, .int .i64 0, .int .i64 0, .int .i64 0, .int .i64 0, .int .i64 0, .int .u8 0, .string ⟨#[]⟩, .string ⟨#[]⟩] (W2.alloc (.cells #[.func (.func 66) #[] #[.pointer (some ⟨gr, 0, none⟩)]] 53)) :=
    ⟨hb2.trans (hq3.mono hb2.size), bR0.below hq3 bR0.lt, bH1.below hq3 bH1.lt, bF0, hlr, by omega⟩
  clear hsf bF0 hq3 bH1 bR0 hb2 hlr
  generalize W2.alloc (.cells #[.func (.func 66) #[] #[.pointer (some ⟨gr, 0, none⟩)]] 53) = W3 at p0 ⊢
  generalize W2.heap.size = gf at p0 ⊢
  go_upto_region 4 with fail
  have hp := p0.text 100 (by omega) (by omega)
  clear p0
  obtain ⟨nm, HNM⟩ : ∃ x, Hid (bs (upZ (fldB l 0 100)) = x) := ⟨_, Lib.hid rfl⟩
  rw [HNM.out] at hp
  go_upto_region 5 with (go_at_call 67; refine hp.mono ?_; clear hp; rintro r W4 ⟨rfl, p1, _⟩; have y := p1.bh.cell 0; simp at y; have f := p1.bh.frozen 0)
  have p2 := p1.poke 0 (.string nm)
  simp at p2
  clear p1 y f
  generalize W4.setCell ⟨gh, 0, none⟩ (.string nm) = W5 at p2 ⊢
  go_upto_region 6 with fail
  have b8 := Blk.new W5 108 (numC l 0)
  have hq := (Below.refl W5.heap.size W5).alloc (Nat.le_refl _) (.cells (numC l 0) 108)
  have hg8 : w.heap.size ≤ W5.heap.size := p2.below.size
  have p3 := p2.next hq
  have e5 : (W5.alloc (.cells #[.string ⟨#[]⟩, .string ⟨#[]⟩, .string ⟨#[]⟩, .string ⟨#[]⟩, .string ⟨#[]⟩] 108)) = W5.alloc (.cells (numC l 0) 108) := rfl
  rw [e5]
  clear e5 hq p2
  generalize W5.alloc (.cells (numC l 0) 108) = W6 at b8 p3 ⊢
  generalize W5.heap.size = g8 at b8 hg8 ⊢
  go_wp2_with fail
  go_loopg [9, 10, 24] 5 (fun G s9 s10 s24 wr => ∃ k : Nat, k ≤ 5 ∧ G = 5 - k ∧ s24 = .int .i64 (k : Int) ∧ RH w gr gh gf l (offK k) #[.string nm, .string ⟨#[]⟩, .string ⟨#[]⟩, .int .i64 0, .int .i64 0, .int .i64 0, .int .i64 0, .int .i64 0, .int .u8 0, .string ⟨#[]⟩, .string ⟨#[]⟩] wr ∧ Blk wr g8 108 (numC l k))
  case atStart => exact ⟨0, by omega, rfl, rfl, p3, b8⟩
  case round =>
   clear p3 b8
   obtain ⟨k, hk, rfl, rfl, p, b8⟩ := hrel
   by_cases hlt : k < 5
   · have t1 : decide ((k : Int) < 5) = true := decide_eq_true (by omega)
     have hix := fun W => wd_at W k hlt
     obtain ⟨ho, ho2⟩ := off_next k hlt
     have hp := p.field (wdK k) (by omega) (by omega)
     rw [show fldB l (offK k) (wdK k) = numK l k from rfl, ho] at hp
     have y6 : wr.cell? ⟨gf, 0, none⟩ = some (.func (.func 66) #[] #[.pointer (some ⟨gr, 0, none⟩)]) := by have := p.bf.cell 0; simpa using this
     obtain ⟨n1, n2, n3⟩ := numC_at l k hlt
     have i1 : (0 : Int) ≤ (k : Int) := by omega
     have i2 : (k : Int) < 5 := by omega
     have wk : IntKind.i64.wrap ((k : Int) + 1) = (k : Int) + 1 := i64_in _ (by omega) (by omega)
     have HN3 := Lib.hid n3
     have HN1 := Lib.hid n1
     have HPR := Lib.hid p
     clear n1 n2 n3 ho2 p
     generalize wdK k = wd at hix hp ho
     generalize numK l k = nk at hp HN3
     clear ho
     go_wp2_with (go_at_call 66; refine hp.mono ?_; clear hp; rintro r W7 ⟨rfl, p7, k7⟩; have b7 := kept_num k7 HPR.out.rest b8 (by decide); clear k7; have y8 : W7.cell? ⟨g8, k, none⟩ = some (.string ⟨#[]⟩) := (b7.cell k).trans HN1.out; have f8 := b7.frozen k)
     have b9 := b7.set (u := .string (bs nk)) k
     rw [HN3.out] at b9
     have p9 := p7.other b7 (by decide) (by decide) (by decide) hg8 k (.string (bs nk))
     clear HPR HN3 HN1 b8 b7 p7 y8 f8 hix
     go_roundg (5 - (k + 1))
     case measure => omega
     case rel => exact ⟨k + 1, by omega, rfl, by simp, p9, b9⟩
   · have t1 : decide ((k : Int) < 5) = false := decide_eq_false (by omega)
     have hk5 : k = 5 := by omega
     subst hk5
     rw [show offK 5 = 148 from rfl] at p
     clear hlt hk
     -- the sum
     have hp := p.field 8 (by omega) (by omega)
     have y6 : wr.cell? ⟨gf, 0, none⟩ = some (.func (.func 66) #[] #[.pointer (some ⟨gr, 0, none⟩)]) := by have := p.bf.cell 0; simpa using this
     have hsl8 : (fldB l 148 8).length = 8 := fldB_len (by omega)
     have hun := fun W => unoctal_any (bs (fldB l 148 8)) W (by rw [bs_size]; omega)
     rw [bs_list] at hun
     have HON := Lib.hid (oct_num (fldB l 148 8))
     have HRP := Lib.hid p.rest
     clear hsl8 p
     generalize fldB l 148 8 = F at hp hun HON HRV
     go_upto_region 12 with first
       | (go_at_call 66; refine hp.mono ?_; clear hp; rintro r W7 ⟨rfl, p7, k7⟩; have b7 := kept_num k7 HRP.out b8 (by decide); clear k7)
       | (go_at_call 69; refine (hun _).mono ?_; clear hun; rintro r W8 ⟨rfl, hb8⟩)
     have p8 := p7.next hb8
     have b88 := b7.below hb8 b7.lt
     clear p7 b7 hb8 b8 y6 HRP t1
     obtain ⟨oc, HOC⟩ : ∃ x, Hid (octCode F = x) := ⟨_, Lib.hid rfl⟩
     rw [HOC.out] at HON HRV ⊢
     have hsum := HSUM.out W8 p8.below
     have hsm : sumT l ≤ 1000000 := by
       have := goS_le l 0
       rw [sumT]; omega
     obtain ⟨sm, HSM⟩ : ∃ x, Hid (sumT l = x) := ⟨_, Lib.hid rfl⟩
     rw [HSM.out] at hsum hsm HRV
     clear HSUM
     by_cases hoc : oc = 0
     rotate_left
     · have q1 : (oc != 0) = true := by simpa using hoc
       have HV : Hid (R = .bad 5) := Lib.hid (HRV.out.trans (if_pos (.inl hoc)))
       clear HRV HON hsum hoc
       have p811 : (#[.string nm, .string ⟨#[]⟩, .string ⟨#[]⟩, .int .i64 0, .int .i64 0, .int .i64 0, .int .i64 0, .int .i64 0, .int .u8 0, .string ⟨#[]⟩, .string ⟨#[]⟩] : Array Value).size = 11 := rfl
       obtain ⟨x0, x1, x2, x3, x4, x5, x6, x7, x8, x9, x10, hxx⟩ := arr11 p811
       have bhF := p8.bh
       rw [hxx] at bhF
       obtain ⟨y0, y1, y2, y3, y4, y5, y6, y7, y8, y9, y10⟩ := cells11 bhF
       have g0 := bhF.frozen 0
       have g1 := bhF.frozen 1
       have g2 := bhF.frozen 2
       have g3 := bhF.frozen 3
       have g4 := bhF.frozen 4
       have g5 := bhF.frozen 5
       have g6 := bhF.frozen 6
       have g7 := bhF.frozen 7
       have g8' := bhF.frozen 8
       have g9 := bhF.frozen 9
       have g10 := bhF.frozen 10
       have hbF := p8.below
       have hlF := p8.lh
       clear hxx p811
       go_wp2_with fail
       obtain ⟨W9, hW9, c9, k9⟩ := set11 bhF (.string ⟨#[]⟩) (.string ⟨#[]⟩) (.string ⟨#[]⟩) (.int .i64 0) (.int .i64 0) (.int .i64 0) (.int .i64 0) (.int .i64 0) (.int .u8 0) (.string ⟨#[]⟩) (.string ⟨#[]⟩)
       rw [← hW9]
       have hfin := hbF.trans (k9.below hbF.size fun k _ e => by rw [e]; exact hlF)
       clear hW9 k9 g0 g1 g2 g3 g4 g5 g6 g7 g8' g9 g10 y0 y1 y2 y3 y4 y5 y6 y7 y8 y9 y10 bhF hbF
       obtain ⟨y0, y1, y2, y3, y4, y5, y6, y7, y8, y9, y10⟩ := cells11 c9
       clear c9
       refine bodyPost_ret (v := .tuple #[.agg #[.string ⟨#[]⟩, .string ⟨#[]⟩, .string ⟨#[]⟩, .int .i64 0, .int .i64 0, .int .i64 0, .int .i64 0, .int .i64 0, .int .u8 0, .string ⟨#[]⟩, .string ⟨#[]⟩], .bool false, .int .i64 5]) ?_ ?_ ?_
       · simp [results, Tryz.results46, go_sem, y0, y1, y2, y3, y4, y5, y6, y7, y8, y9, y10]
       · rfl
       · exact ⟨by rw [HV.out]; rfl, hfin⟩
     have q1 : (oc != 0) = false := by simpa using hoc
     have hon := HON.out hoc
     rw [hon]
     generalize ocN F = ON at hon HRV
     by_cases hos : ON = sm
     rotate_left
     · have q2 : ((ON : Int) != (sm : Int)) = true := by simpa using (show ¬ (ON : Int) = (sm : Int) by omega)
       have q3 : ¬ ON = sm := hos
       have HV : Hid (R = .bad 5) := Lib.hid (HRV.out.trans (if_pos (.inr hos)))
       clear HRV HON hoc hon hos
       have p811 : (#[.string nm, .string ⟨#[]⟩, .string ⟨#[]⟩, .int .i64 0, .int .i64 0, .int .i64 0, .int .i64 0, .int .i64 0, .int .u8 0, .string ⟨#[]⟩, .string ⟨#[]⟩] : Array Value).size = 11 := rfl
       go_upto_region 13 with (go_at_call 39; refine hsum.mono ?_; clear hsum; rintro r W9x ⟨rfl, rfl⟩)
       obtain ⟨x0, x1, x2, x3, x4, x5, x6, x7, x8, x9, x10, hxx⟩ := arr11 p811
       have bhF := p8.bh
       rw [hxx] at bhF
       obtain ⟨y0, y1, y2, y3, y4, y5, y6, y7, y8, y9, y10⟩ := cells11 bhF
       have g0 := bhF.frozen 0
       have g1 := bhF.frozen 1
       have g2 := bhF.frozen 2
       have g3 := bhF.frozen 3
       have g4 := bhF.frozen 4
       have g5 := bhF.frozen 5
       have g6 := bhF.frozen 6
       have g7 := bhF.frozen 7
       have g8' := bhF.frozen 8
       have g9 := bhF.frozen 9
       have g10 := bhF.frozen 10
       have hbF := p8.below
       have hlF := p8.lh
       clear hxx p811
       go_wp2_with fail
       obtain ⟨W9, hW9, c9, k9⟩ := set11 bhF (.string ⟨#[]⟩) (.string ⟨#[]⟩) (.string ⟨#[]⟩) (.int .i64 0) (.int .i64 0) (.int .i64 0) (.int .i64 0) (.int .i64 0) (.int .u8 0) (.string ⟨#[]⟩) (.string ⟨#[]⟩)
       rw [← hW9]
       have hfin := hbF.trans (k9.below hbF.size fun k _ e => by rw [e]; exact hlF)
       clear hW9 k9 g0 g1 g2 g3 g4 g5 g6 g7 g8' g9 g10 y0 y1 y2 y3 y4 y5 y6 y7 y8 y9 y10 bhF hbF
       obtain ⟨y0, y1, y2, y3, y4, y5, y6, y7, y8, y9, y10⟩ := cells11 c9
       clear c9
       refine bodyPost_ret (v := .tuple #[.agg #[.string ⟨#[]⟩, .string ⟨#[]⟩, .string ⟨#[]⟩, .int .i64 0, .int .i64 0, .int .i64 0, .int .i64 0, .int .i64 0, .int .u8 0, .string ⟨#[]⟩, .string ⟨#[]⟩], .bool false, .int .i64 5]) ?_ ?_ ?_
       · simp [results, Tryz.results46, go_sem, y0, y1, y2, y3, y4, y5, y6, y7, y8, y9, y10]
       · rfl
       · exact ⟨by rw [HV.out]; rfl, hfin⟩
     have q2 : ((ON : Int) != (sm : Int)) = false := by simpa using (show (ON : Int) = (sm : Int) by omega)
     have HRW := Lib.hid (HRV.out.trans (if_neg (by rw [not_or]; exact ⟨fun h => h hoc, fun h => h hos⟩)))
     clear HRV HON hoc hon
     subst hos
     go_upto_region 14 with (go_at_call 39; refine hsum.mono ?_; clear hsum; rintro r W9x ⟨rfl, rfl⟩)
     -- the kind
     have hp := p8.field 1 (by omega) (by omega)
     have y6 : W8.cell? ⟨gf, 0, none⟩ = some (.func (.func 66) #[] #[.pointer (some ⟨gr, 0, none⟩)]) := by have := p8.bf.cell 0; simpa using this
     have hk1 : fldB l 156 1 = [l.getD 156 0] := by
       rw [fldB, List.drop_eq_getElem_cons (by omega), List.take_succ_cons, List.take_zero]
       simp [List.getD, hl]
     rw [show fldB l (148 + 8) 1 = fldB l 156 1 from rfl, hk1] at hp
     obtain ⟨kc, HKC⟩ : ∃ x, Hid (l.getD 156 0 = x) := ⟨_, Lib.hid rfl⟩
     rw [HKC.out] at hp
     have HR8 := Lib.hid p8.rest
     have hkz : (bs [kc]).size = 1 := rfl
     have hkv : (bs [kc])[0]'(by rw [hkz]; omega) = kc := rfl
     obtain ⟨KB, HKB⟩ : ∃ x, Hid (bs [kc] = x) := ⟨_, Lib.hid rfl⟩
     simp only [HKB.out] at hp hkz hkv
     clear hk1 p8
     go_upto_region 15 with (go_at_call 66; refine hp.mono ?_; clear hp y6; rintro r W10 ⟨rfl, p10, k10⟩; have b10 := kept_num k10 HR8.out b88 (by decide); clear k10; have y := p10.bh.cell 8; simp at y; have f := p10.bh.frozen 8)
     have p11 := p10.poke 8 (.int .u8 (kc.toNat : Int))
     have b11 := b10.other (a := ⟨gh, 8, none⟩) (.int .u8 (kc.toNat : Int)) (Blk.apartT b10 p10.bh (by decide))
     simp at p11
     clear p10 b10 b88 y f hkz hkv HKB HR8
     generalize W10.setCell ⟨gh, 8, none⟩ (.int .u8 (kc.toNat : Int)) = W11 at p11 b11 ⊢
     have hp := p11.text 100 (by omega) (by omega)
     have HRX := Lib.hid p11.rest
     have y6 : W11.cell? ⟨gf, 0, none⟩ = some (.func (.func 66) #[] #[.pointer (some ⟨gr, 0, none⟩)]) := by have := p11.bf.cell 0; simpa using this
     obtain ⟨lk, HLK⟩ : ∃ x, Hid (bs (upZ (fldB l 157 100)) = x) := ⟨_, Lib.hid rfl⟩
     rw [HLK.out] at hp
     clear p11
     go_upto_region 16 with (go_at_call 67; refine hp.mono ?_; clear hp y6; rintro r Wq ⟨rfl, pq, kq⟩; have bq := kept_num kq HRX.out b11 (by decide); clear kq; have y := pq.bh.cell 2; simp at y; have f := pq.bh.frozen 2)
     have p12 := pq.poke 2 (.string lk)
     have b12 := bq.other (a := ⟨gh, 2, none⟩) (.string lk) (Blk.apartT bq pq.bh (by decide))
     simp at p12
     clear pq bq b11 y f HRX
     generalize Wq.setCell ⟨gh, 2, none⟩ (.string lk) = W12 at p12 b12 ⊢
     -- the magic
     have hp := p12.field 8 (by omega) (by omega)
     have HRX := Lib.hid p12.rest
     have y6 : W12.cell? ⟨gf, 0, none⟩ = some (.func (.func 66) #[] #[.pointer (some ⟨gr, 0, none⟩)]) := by have := p12.bf.cell 0; simpa using this
     have HGN : Hid ((hdR l).gnu = decide (fldB l 257 8 = magicB true)) := Lib.hid rfl
     generalize hM : fldB l 257 8 = M at HRW HGN
     rw [hM] at hp
     clear p12 hM
     go_upto_region 17 with (go_at_call 66; refine hp.mono ?_; clear hp y6; rintro r W13 ⟨rfl, p13, k13⟩; have b13 := kept_num k13 HRX.out b12 (by decide); clear k13)
     clear HRX b12
     have e1 := beq_bytes M [117, 115, 116, 97, 114, 0, 48, 48]
     have e2 := beq_bytes M [117, 115, 116, 97, 114, 32, 32, 0]
     by_cases hm : M ≠ magicB false ∧ M ≠ magicB true
     · rw [decide_eq_false (show ¬ M = [117, 115, 116, 97, 114, 0, 48, 48] from hm.1)] at e1
       rw [decide_eq_false (show ¬ M = [117, 115, 116, 97, 114, 32, 32, 0] from hm.2)] at e2
       have HV : Hid (R = .bad 3) := Lib.hid (HRW.out.trans (if_pos hm))
       clear HRW hm HGN
       have p1311 : (#[.string nm, .string ⟨#[]⟩, .string lk, .int .i64 0, .int .i64 0, .int .i64 0, .int .i64 0, .int .i64 0, .int .u8 (kc.toNat : Int), .string ⟨#[]⟩, .string ⟨#[]⟩] : Array Value).size = 11 := rfl
       obtain ⟨x0, x1, x2, x3, x4, x5, x6, x7, x8, x9, x10, hxx⟩ := arr11 p1311
       have bhF := p13.bh
       rw [hxx] at bhF
       obtain ⟨y0, y1, y2, y3, y4, y5, y6, y7, y8, y9, y10⟩ := cells11 bhF
       have g0 := bhF.frozen 0
       have g1 := bhF.frozen 1
       have g2 := bhF.frozen 2
       have g3 := bhF.frozen 3
       have g4 := bhF.frozen 4
       have g5 := bhF.frozen 5
       have g6 := bhF.frozen 6
       have g7 := bhF.frozen 7
       have g8' := bhF.frozen 8
       have g9 := bhF.frozen 9
       have g10 := bhF.frozen 10
       have hbF := p13.below
       have hlF := p13.lh
       clear hxx p1311
       go_wp2_with fail
       obtain ⟨W9, hW9, c9, k9⟩ := set11 bhF (.string ⟨#[]⟩) (.string ⟨#[]⟩) (.string ⟨#[]⟩) (.int .i64 0) (.int .i64 0) (.int .i64 0) (.int .i64 0) (.int .i64 0) (.int .u8 0) (.string ⟨#[]⟩) (.string ⟨#[]⟩)
       rw [← hW9]
       have hfin := hbF.trans (k9.below hbF.size fun k _ e => by rw [e]; exact hlF)
       clear hW9 k9 g0 g1 g2 g3 g4 g5 g6 g7 g8' g9 g10 y0 y1 y2 y3 y4 y5 y6 y7 y8 y9 y10 bhF hbF
       obtain ⟨y0, y1, y2, y3, y4, y5, y6, y7, y8, y9, y10⟩ := cells11 c9
       clear c9
       refine bodyPost_ret (v := .tuple #[.agg #[.string ⟨#[]⟩, .string ⟨#[]⟩, .string ⟨#[]⟩, .int .i64 0, .int .i64 0, .int .i64 0, .int .i64 0, .int .i64 0, .int .u8 0, .string ⟨#[]⟩, .string ⟨#[]⟩], .bool false, .int .i64 3]) ?_ ?_ ?_
       · simp [results, Tryz.results46, go_sem, y0, y1, y2, y3, y4, y5, y6, y7, y8, y9, y10]
       · rfl
       · exact ⟨by rw [HV.out]; rfl, hfin⟩
     have HRX := Lib.hid (HRW.out.trans (if_neg hm))
     clear HRW
     obtain ⟨gn, HGG⟩ : ∃ b : Bool, Hid ((hdR l).gnu = b) := ⟨_, Lib.hid rfl⟩
     have HG2 : Hid (decide (M = magicB true) = gn) := Lib.hid (by rw [← HGN.out, HGG.out])
     have e2' : ((bs M).toList == [117, 115, 116, 97, 114, 32, 32, 0]) = gn := by rw [e2]; exact HG2.out
     clear e2
     have hstep : ((bs M).toList == [117, 115, 116, 97, 114, 0, 48, 48]) = true ∨ ((bs M).toList == [117, 115, 116, 97, 114, 0, 48, 48]) = false ∧ gn = true := by
       by_cases h1 : M = magicB false
       · left; rw [e1]; exact decide_eq_true h1
       · right
         have h2 : M = magicB true := Classical.byContradiction fun h2 => hm ⟨h1, h2⟩
         exact ⟨by rw [e1]; exact decide_eq_false h1, by rw [← HG2.out]; exact decide_eq_true h2⟩
     clear e1 hm HG2 HGN
     go_cut [63] (fun s63 wx => s63 = .bool false ∧ W13 = wx)
     case first =>
       rcases hstep with e1 | ⟨e1, e3⟩
       · go_wp2_with fail
         go_meet
         exact ⟨rfl, rfl⟩
       · subst e3
         go_wp2_with fail
         go_meet
         exact ⟨rfl, rfl⟩
     case rest =>
     obtain ⟨hc63, hc13⟩ := hcut
     subst hc63
     subst hc13
     clear hstep
     -- the owners
     have hp := p13.text 32 (by omega) (by omega)
     have HRY := Lib.hid p13.rest
     obtain ⟨ow, HOW⟩ : ∃ x, Hid (bs (upZ (fldB l 265 32)) = x) := ⟨_, Lib.hid rfl⟩
     obtain ⟨gp, HGP⟩ : ∃ x, Hid (bs (upZ (fldB l 297 32)) = x) := ⟨_, Lib.hid rfl⟩
     rw [show 257 + 8 = 265 from rfl, HOW.out] at hp
     clear p13
     go_upto_region 20 with first
       | (go_at_call 67; refine hp.mono ?_; clear hp; rintro r W14 ⟨rfl, p14, k14⟩; have b14 := kept_num k14 HRY.out b13 (by decide); clear k14 b13; have HRZ := Lib.hid p14.rest; have hp2 := p14.text 32 (by omega) (by omega); rw [show 265 + 32 = 297 from rfl, HGP.out] at hp2; clear p14)
       | (go_at_call 67; refine hp2.mono ?_; clear hp2; rintro r W15 ⟨rfl, p15, k15⟩; have b15 := kept_num k15 HRZ.out b14 (by decide); clear k15 b14 HRZ; have y := p15.bh.cell 9; have y' := p15.bh.cell 10; simp at y y'; have f := p15.bh.frozen 9; have f' := p15.bh.frozen 10)
     have p16 := (p15.poke 9 (.string ow)).poke 10 (.string gp)
     have b16 := (b15.other (a := ⟨gh, 9, none⟩) (.string ow) (Blk.apartT b15 p15.bh (by decide))).other (a := ⟨gh, 10, none⟩) (.string gp) (Blk.apartT b15 p15.bh (by decide))
     simp at p16
     clear p15 b15 y y' f f' HRY
     generalize (W15.setCell ⟨gh, 9, none⟩ (.string ow)).setCell ⟨gh, 10, none⟩ (.string gp) = W16 at p16 b16 ⊢
     have hp := p16.field 16 (by omega) (by omega)
     have HRY := Lib.hid p16.rest
     have y6 : W16.cell? ⟨gf, 0, none⟩ = some (.func (.func 66) #[] #[.pointer (some ⟨gr, 0, none⟩)]) := by have := p16.bf.cell 0; simpa using this
     clear p16
     go_upto_region 21 with (go_at_call 66; refine hp.mono ?_; clear hp y6; rintro r W17 ⟨rfl, p17, k17⟩; have b17 := kept_num k17 HRY.out b16 (by decide); clear k17)
     clear b16 HRY
     simp at p17
     have hp := p17.text 155 (by omega) (by omega)
     have HRX := Lib.hid p17.rest
     have y6 : W17.cell? ⟨gf, 0, none⟩ = some (.func (.func 66) #[] #[.pointer (some ⟨gr, 0, none⟩)]) := by have := p17.bf.cell 0; simpa using this
     obtain ⟨px, HPX⟩ : ∃ x, Hid (bs (upZ (fldB l 345 155)) = x) := ⟨_, Lib.hid rfl⟩
     rw [HPX.out] at hp
     clear p17
     go_upto_region 22 with (go_at_call 67; refine hp.mono ?_; clear hp y6; rintro r Wq ⟨rfl, pq, kq⟩; have bq := kept_num kq HRX.out b17 (by decide); clear kq; have y := pq.bh.cell 1; simp at y; have f := pq.bh.frozen 1)
     have p18 := pq.poke 1 (.string px)
     have b18 := bq.other (a := ⟨gh, 1, none⟩) (.string px) (Blk.apartT bq pq.bh (by decide))
     simp at p18
     clear pq bq b17 y f HRX
     generalize Wq.setCell ⟨gh, 1, none⟩ (.string px) = W18 at p18 b18 ⊢
     have t25 := hdC_at l (.string nm) (.string px) (.string lk) (.int .u8 (kc.toNat : Int)) (.string ow) (.string gp)
     have hpa := fun W k h => ptr_at gh W k h
     have hnd := nums_drop l
     have hna := fun k h => (numC_at l k h).2.1
     have HRZ : Hid (R = if fstBad ((numsL l).drop 0) ≠ 0 then .bad (fstBad ((numsL l).drop 0)) else .ok (hdR l)) := HRX
     have p19 : RH w gr gh gf l 500 (hdC l (.string nm) (.string px) (.string lk) (.int .u8 (kc.toNat : Int)) (.string ow) (.string gp) 0) W18 := p18
     clear HRX p18
     go_wp2_with fail
     go_loopg [4, 14, 15, 82] 5 (fun G s4 s14 s15 s82 wr => ∃ k : Nat, k ≤ 5 ∧ G = 5 - k ∧ s82 = .int .i64 (k : Int) ∧ s4 = .int .i64 0 ∧ RH w gr gh gf l 500 (hdC l (.string nm) (.string px) (.string lk) (.int .u8 (kc.toNat : Int)) (.string ow) (.string gp) k) wr ∧ Blk wr g8 108 (numC l 5) ∧ Hid (R = if fstBad ((numsL l).drop k) ≠ 0 then .bad (fstBad ((numsL l).drop k)) else .ok (hdR l)))
     case atStart => exact ⟨0, by omega, rfl, rfl, rfl, p19, b18, HRZ⟩
     case round =>
      clear p19 b18 HRZ
      obtain ⟨k, hk, rfl, rfl, rfl, p, b8, HRR⟩ := hrel
      by_cases hlt : k < 5
      · have t1 : decide ((k : Int) < 5) = true := decide_eq_true (by omega)
        have hix := fun W => hpa W k hlt
        obtain ⟨n1, n2⟩ := t25 k hlt
        have i1 : (0 : Int) ≤ (k : Int) := by omega
        have i2 : (k : Int) < 5 := by omega
        have wk : IntKind.i64.wrap ((k : Int) + 1) = (k : Int) + 1 := i64_in _ (by omega) (by omega)
        have y8 : wr.cell? ⟨g8, k, none⟩ = some (.string (bs (numK l k))) := (b8.cell k).trans (hna k hlt)
        have HND := Lib.hid (hnd k hlt)
        have hnl : (numK l k).length ≤ 1000 := by
          have : ∀ a b, (fldB l a b).length ≤ 512 := fun a b => by rw [fldB, List.length_take, List.length_drop]; omega
          have := this (offK k) (wdK k)
          unfold numK
          omega
        have hun := fun W => unoctal_any (bs (numK l k)) W (by rw [bs_size]; omega)
        rw [bs_list] at hun
        have HON := Lib.hid (oct_num (numK l k))
        have HN1 := Lib.hid n1
        have HN2 := Lib.hid n2
        clear hpa t25 hnd hna n1 n2 hnl
        generalize numK l k = nk at y8 HND hun HON HN2
        obtain ⟨oc, HOC⟩ : ∃ x, Hid (octCode nk = x) := ⟨_, Lib.hid rfl⟩
        rw [HOC.out] at hun HON
        have HF : Hid (fstBad ((numsL l).drop k) = if oc = 0 then fstBad ((numsL l).drop (k + 1)) else oc) := Lib.hid (by rw [HND.out, fstBad, HOC.out])
        clear HND HOC
        by_cases hoc : oc = 0
        rotate_left
        · have q1 : (oc != 0) = true := by simpa using hoc
          have hz : fstBad ((numsL l).drop k) = oc := by rw [HF.out, if_neg hoc]
          have HV : Hid (R = .bad oc) := Lib.hid (by rw [HRR.out, hz, if_pos hoc])
          clear HRR HF hz HON HN2 hoc
          go_upto_if 96 with (go_at_call 69; refine (hun _).mono ?_; clear hun; rintro r W8 ⟨rfl, hb8⟩; have p8 := p.next hb8; have y9 : W8.cell? ⟨gh, 3 + k, none⟩ = some (.int .i64 0) := (p8.bh.cell (3 + k)).trans HN1.out; have f9 := p8.bh.frozen (3 + k))
          have p9 := p8.poke (3 + k) (.int .i64 (octNum nk))
          have p911 : ((hdC l (.string nm) (.string px) (.string lk) (.int .u8 (kc.toNat : Int)) (.string ow) (.string gp) k).setIfInBounds (3 + k) (.int .i64 (octNum nk))).size = 11 := by rw [Array.size_setIfInBounds]; rfl
          clear p p8 y9 f9 b8 y8 HN1
          generalize (hdC l (.string nm) (.string px) (.string lk) (.int .u8 (kc.toNat : Int)) (.string ow) (.string gp) k).setIfInBounds (3 + k) (.int .i64 (octNum nk)) = HX at p9 p911
          generalize W8.setCell ⟨gh, 3 + k, none⟩ (.int .i64 (octNum nk)) = W9x at p9 ⊢
          obtain ⟨x0, x1, x2, x3, x4, x5, x6, x7, x8, x9, x10, hxx⟩ := arr11 p911
          have bhF := p9.bh
          rw [hxx] at bhF
          obtain ⟨y0, y1, y2, y3, y4, y5, y6, y7, y8, y9, y10⟩ := cells11 bhF
          have g0 := bhF.frozen 0
          have g1 := bhF.frozen 1
          have g2 := bhF.frozen 2
          have g3 := bhF.frozen 3
          have g4 := bhF.frozen 4
          have g5 := bhF.frozen 5
          have g6 := bhF.frozen 6
          have g7 := bhF.frozen 7
          have g8' := bhF.frozen 8
          have g9 := bhF.frozen 9
          have g10 := bhF.frozen 10
          have hbF := p9.below
          have hlF := p9.lh
          clear hxx p911
          go_wp2_with fail
          obtain ⟨W9, hW9, c9, k9⟩ := set11 bhF (.string ⟨#[]⟩) (.string ⟨#[]⟩) (.string ⟨#[]⟩) (.int .i64 0) (.int .i64 0) (.int .i64 0) (.int .i64 0) (.int .i64 0) (.int .u8 0) (.string ⟨#[]⟩) (.string ⟨#[]⟩)
          rw [← hW9]
          have hfin := hbF.trans (k9.below hbF.size fun k _ e => by rw [e]; exact hlF)
          clear hW9 k9 g0 g1 g2 g3 g4 g5 g6 g7 g8' g9 g10 y0 y1 y2 y3 y4 y5 y6 y7 y8 y9 y10 bhF hbF
          obtain ⟨y0, y1, y2, y3, y4, y5, y6, y7, y8, y9, y10⟩ := cells11 c9
          clear c9
          refine bodyPost_ret (v := .tuple #[.agg #[.string ⟨#[]⟩, .string ⟨#[]⟩, .string ⟨#[]⟩, .int .i64 0, .int .i64 0, .int .i64 0, .int .i64 0, .int .i64 0, .int .u8 0, .string ⟨#[]⟩, .string ⟨#[]⟩], .bool false, .int .i64 oc]) ?_ ?_ ?_
          · simp [results, Tryz.results46, go_sem, y0, y1, y2, y3, y4, y5, y6, y7, y8, y9, y10]
          · rfl
          · exact ⟨by rw [HV.out]; rfl, hfin⟩
        · have q1 : (oc != 0) = false := by simpa using hoc
          have hon := HON.out hoc
          have HRN : Hid (R = if fstBad ((numsL l).drop (k + 1)) ≠ 0 then .bad (fstBad ((numsL l).drop (k + 1))) else .ok (hdR l)) := Lib.hid (by rw [HRR.out, HF.out, if_pos hoc])
          rw [hon, hoc] at hun
          generalize ocN nk = on at hun HN2
          clear HRR HF HON hon hoc q1
          have HPB := Lib.hid b8
          go_wp2_with (go_at_call 69; refine (hun _).mono ?_; clear hun; rintro r W8 ⟨rfl, hb8⟩; have p8 := p.next hb8; have y9 : W8.cell? ⟨gh, 3 + k, none⟩ = some (.int .i64 0) := (p8.bh.cell (3 + k)).trans HN1.out; have f9 := p8.bh.frozen (3 + k))
          have b88 := HPB.out.below hb8 HPB.out.lt
          have p9 := p8.poke (3 + k) (.int .i64 (on : Int))
          have b9 := b88.other (a := ⟨gh, 3 + k, none⟩) (.int .i64 (on : Int)) (Blk.apartT b88 p8.bh (by decide))
          rw [HN2.out] at p9
          clear p p8 y9 f9 b8 y8 HN1 HPB b88
          go_roundg (5 - (k + 1))
          case measure => omega
          case rel => exact ⟨k + 1, by omega, rfl, by simp, rfl, p9, b9, HRN⟩
      · have t1 : decide ((k : Int) < 5) = false := decide_eq_false (by omega)
        have hk5 : k = 5 := by omega
        subst hk5
        have HV : Hid (R = .ok (hdR l)) := HRR
        have bhF : Blk wr gh 43 #[.string nm, .string px, .string lk, .int .i64 (ocN (numK l 0) : Int), .int .i64 (ocN (numK l 1) : Int), .int .i64 (ocN (numK l 2) : Int), .int .i64 (ocN (numK l 3) : Int), .int .i64 (ocN (numK l 4) : Int), .int .u8 (kc.toNat : Int), .string ow, .string gp] := p.bh
        obtain ⟨y0, y1, y2, y3, y4, y5, y6, y7, y8, y9, y10⟩ := cells11 bhF
        have g0 := bhF.frozen 0
        have g1 := bhF.frozen 1
        have g2 := bhF.frozen 2
        have g3 := bhF.frozen 3
        have g4 := bhF.frozen 4
        have g5 := bhF.frozen 5
        have g6 := bhF.frozen 6
        have g7 := bhF.frozen 7
        have g8' := bhF.frozen 8
        have g9 := bhF.frozen 9
        have g10 := bhF.frozen 10
        have hbF := p.below
        have hlF := p.lh
        have HVV : Hid (headRV (hdR l) = .agg #[.string nm, .string px, .string lk, .int .i64 (ocN (numK l 0) : Int), .int .i64 (ocN (numK l 1) : Int), .int .i64 (ocN (numK l 2) : Int), .int .i64 (ocN (numK l 3) : Int), .int .i64 (ocN (numK l 4) : Int), .int .u8 (kc.toNat : Int), .string ow, .string gp]) := Lib.hid (by
          rw [← HNM.out, ← HPX.out, ← HLK.out, ← HKC.out, ← HOW.out, ← HGP.out]; rfl)
        clear hpa t25 hnd hna p b8 HRR hlt hk HNM HPX HLK HKC HOW HGP
        generalize ocN (numK l 0) = z0 at *
        generalize ocN (numK l 1) = z1 at *
        generalize ocN (numK l 2) = z2 at *
        generalize ocN (numK l 3) = z3 at *
        generalize ocN (numK l 4) = z4 at *
        go_wp2_with fail
        obtain ⟨W9, hW9, c9, k9⟩ := set11 bhF (.string nm) (.string px) (.string lk) (.int .i64 (z0 : Int)) (.int .i64 (z1 : Int)) (.int .i64 (z2 : Int)) (.int .i64 (z3 : Int)) (.int .i64 (z4 : Int)) (.int .u8 (kc.toNat : Int)) (.string ow) (.string gp)
        rw [← hW9]
        have hfin := hbF.trans (k9.below hbF.size fun k _ e => by rw [e]; exact hlF)
        clear hW9 k9 g0 g1 g2 g3 g4 g5 g6 g7 g8' g9 g10 y0 y1 y2 y3 y4 y5 y6 y7 y8 y9 y10 bhF hbF
        obtain ⟨y0, y1, y2, y3, y4, y5, y6, y7, y8, y9, y10⟩ := cells11 c9
        clear c9
        refine bodyPost_ret (v := .tuple #[.agg #[.string nm, .string px, .string lk, .int .i64 (z0 : Int), .int .i64 (z1 : Int), .int .i64 (z2 : Int), .int .i64 (z3 : Int), .int .i64 (z4 : Int), .int .u8 (kc.toNat : Int), .string ow, .string gp], .bool gn, .int .i64 0]) ?_ ?_ ?_
        · simp [results, Tryz.results46, go_sem, y0, y1, y2, y3, y4, y5, y6, y7, y8, y9, y10]
        · rfl
        · exact ⟨by rw [HV.out, hrV, HVV.out, HGG.out], hfin⟩
end Go.Proofs.YtpheifdpjcppdaaGreatDoor
namespace Go.Proofs.YtpheifdpjcppdaaGreatDoor
open Go.RowKit
def vP (n : Nat) : Value := .int .i64 (n : Int)
/-- What was told, as a map's value. -/
def tvV (p : List UInt8 × Nat) : Value := .agg #[.string (bs p.1), .int .i64 (p.2 : Int)]
def tdM (t : Td) : List UInt8 → Option Value := fun k => (t k).map tvV
/-- What was told was told by a head L, K or x. -/
def TdOk (t : Td) : Prop := ∀ k, t k ≠ none → noneB t = false
def BX (gr mf : Nat) (lv pv : Value) : Nat → Prop := fun k => k = gr ∨ k = mf ∨ lv.ownBlock = some k ∨ pv.ownBlock = some k
/-- A reader: the bytes bv, the entries L, the places PL, what was told t, the first of the heads that told. -/
structure RT (w0 : World) (gr mf : Nat) (bv lv pv : Value) (L : List En) (f : Nat → Value) (PL : List Nat) (t : Td) (fr : Nat) (w : World) : Prop where
  bel : Below w0.heap.size w0 w
  blk : Blk w gr 58 #[bv, lv, pv, .map (some mf), .int .i64 (fr : Int)]
  row : w.ownsRow w0.heap.size tE 10 lv L.length (ofC L f)
  dat : ∀ j (h : j < L.length), Sl 1 Rbyte (BX gr mf lv pv) w (f j) L[j].data
  frs : ∀ j, j < L.length → ∀ bb, (f j).ownBlock = some bb → w0.heap.size ≤ bb
  pl : w.ownsRow w0.heap.size 3 1 pv PL.length (PL.map vP)
  mp : ∃ mo, w.heap[mf]? = some mo ∧ MapS mo (tdM t)
  grH : w0.heap.size ≤ gr
  mfH : w0.heap.size ≤ mf
variable {w0 w w' : World} {gr mf : Nat} {bv lv pv : Value} {L : List En} {f : Nat → Value} {PL : List Nat} {t : Td} {fr : Nat}
theorem own_notmap {base : Nat} {e : TypeId} {size : Nat} {v : Value} {n : Nat} {xs : List Value} (h : w.ownsRow base e size v n xs) {b : Nat} {mo : Obj} (hb : w.heap[b]? = some mo) (hm : ∃ es c, mo = .map es c) : v.ownBlock ≠ some b := fun e1 => by
  obtain ⟨cs, hc⟩ := own_typed h e1
  obtain ⟨es, c, rfl⟩ := hm
  rw [Blk, hb] at hc
  injection hc with hc
  cases hc
theorem blk_notmap {t : TypeId} {g : Nat} {cs : Array Value} (h : Blk w g t cs) {b : Nat} {mo : Obj} (hb : w.heap[b]? = some mo) (hm : ∃ es c, mo = .map es c) : g ≠ b := fun e1 => by
  obtain ⟨es, c, rfl⟩ := hm
  subst e1
  rw [Blk, hb] at h
  injection h with h
  cases h
theorem own_notown {base base' : Nat} {e t : TypeId} {size size' : Nat} {v v' : Value} {n n' : Nat} {xs xs' : List Value} (h : w.ownsRow base e size v n xs) (h' : w.ownsRow base' t size' v' n' xs') (hne : e ≠ t) {b : Nat} (hb : v.ownBlock = some b) : v'.ownBlock ≠ some b := fun e1 => by
  obtain ⟨c, hc⟩ := own_typed h' e1
  exact own_notblk h hc hne hb
theorem RT.eo (h : RT w0 gr mf bv lv pv L f PL t fr w) : EO w0.heap.size w lv L f :=
  ⟨h.row, fun j hj => (h.dat j hj).mono good_byte (by omega) fun k _ e => .inr (.inr (.inl e))⟩
theorem RT.below (h : RT w0 gr mf bv lv pv L f PL t fr w) (hb : Below w.heap.size w w') : RT w0 gr mf bv lv pv L f PL t fr w' := by
  obtain ⟨mo, hm, hM⟩ := h.mp
  exact ⟨h.bel.trans (hb.mono h.bel.size), h.blk.below hb h.blk.lt, own_below h.row hb, fun j hj => Below.sl good_byte hb (h.dat j hj), h.frs, own_below h.pl hb, ⟨mo, (hb.block mf (Array.getElem?_eq_some_iff.1 hm).1).trans hm, hM⟩, h.grH, h.mfH⟩
theorem RT.mflt (h : RT w0 gr mf bv lv pv L f PL t fr w) : mf < w.heap.size := by
  obtain ⟨mo, hm, _⟩ := h.mp
  exact (Array.getElem?_eq_some_iff.1 hm).1
theorem RT.notmap (h : RT w0 gr mf bv lv pv L f PL t fr w) : lv.ownBlock ≠ some mf ∧ pv.ownBlock ≠ some mf ∧ gr ≠ mf := by
  obtain ⟨mo, hm, hM⟩ := h.mp
  exact ⟨own_notmap h.row hm hM.isMap, own_notmap h.pl hm hM.isMap, blk_notmap h.blk hm hM.isMap⟩
/-- The map alone is another one. -/
theorem RT.told (h : RT w0 gr mf bv lv pv L f PL t fr w) (hk : Kept (fun k => k = mf) w w') {t' : Td} {mo : Obj} (hm : w'.heap[mf]? = some mo) (hM : MapS mo (tdM t')) : RT w0 gr mf bv lv pv L f PL t' fr w' := by
  obtain ⟨n1, n2, n3⟩ := h.notmap
  refine ⟨h.bel.trans (hk.below h.bel.size fun k _ e => by rw [e]; exact h.mfH), hk.blk h.blk n3, hk.own h.row fun k e1 e2 => n1 (by rw [e1, e2]), fun j hj => ?_, h.frs, hk.own h.pl fun k e1 e2 => n2 (by rw [e1, e2]), ⟨mo, hm, hM⟩, h.grH, h.mfH⟩
  exact (h.dat j hj).keep good_byte (hk.mono fun k _ e => .inr (.inl e))
/-- The first place is stored. -/
theorem RT.first (h : RT w0 gr mf bv lv pv L f PL t fr w) (p : Nat) : RT w0 gr mf bv lv pv L f PL t p (w.setCell ⟨gr, 4, none⟩ (.int .i64 (p : Int))) := by
  have hk : Kept (fun k => k = gr) w (w.setCell ⟨gr, 4, none⟩ (.int .i64 (p : Int))) := (Kept.refl _ w).setCell (p := ⟨gr, 4, none⟩) _ fun _ => rfl
  obtain ⟨mo, hm, hM⟩ := h.mp
  refine ⟨h.bel.trans (hk.below h.bel.size fun k _ e => by rw [e]; exact h.grH), h.blk.set 4, hk.own h.row fun k e1 e2 => own_notblk h.row h.blk (by decide) (by rw [e1, e2]), fun j hj => (h.dat j hj).keep good_byte (hk.mono fun k _ e => .inl e), h.frs, hk.own h.pl fun k e1 e2 => own_notblk h.pl h.blk (by decide) (by rw [e1, e2]), ⟨mo, ?_, hM⟩, h.grH, h.mfH⟩
  exact (hk.block mf (Array.getElem?_eq_some_iff.1 hm).1 fun e => h.notmap.2.2 e.symm).trans hm
theorem Kept.low' {B : Nat} (h : Below B w w') : Kept (fun k => B ≤ k) w w' := ⟨h.os, h.tape, h.output, h.size, fun k _ hx => h.block k (by omega)⟩
/-- b[k:j] reads as that piece. -/
theorem Sl.fld {P : Program} {X : Nat → Prop} {w : World} {A : Option Addr} {n cap : Nat} {l : List UInt8} (h : Sl 1 Rbyte X w (.slice A n cap) l) (t e : TypeId) (ht : P.underlying t = some (.slice e)) (he : (P.info? e).map (·.size) = some 1) (k j : Nat) (hk : k ≤ j) (hj : j ≤ n) :
    ∃ A' cap', (∀ W : World, (Instr.slice t (.slice A n cap) (some (.int .i64 (k : Int))) (some (.int .i64 (j : Int))) none).run P W = .ok (.slice A' (j - k) cap') W) ∧ Sl 1 Rbyte X w (.slice A' (j - k) cap') (fldB l k (j - k)) := by
  obtain ⟨A0, cap0, hv, h1, h2, h3, h4, h5⟩ := h
  injection hv with e1 e2 e3
  subst e1 e3
  have hlen : (fldB l k (j - k)).length = j - k := fldB_len (by omega)
  refine ⟨if cap = k then A else A.map (·.add k), cap - k, fun W => ?_, _, cap - k, by rw [hlen], by rw [hlen]; omega, by omega, ?_, fun hne => ?_, fun b off hA i hi => ?_⟩
  · cases hi : P.info? e with
    | none => simp [hi] at he
    | some i =>
      have h1 : i.size = 1 := by simpa [hi] using he
      have hb : (j : Int) ≤ (cap : Int) := by omega
      simp [Instr.slice, Instr.sliceBounds, Instr.sliceBound, run_underlying ht, sizeOf, typeInfo, hi, h1, asIntOf]
      rw [if_pos (by omega), if_pos (by omega)]
  · intro hA
    split at hA
    · omega
    · have : A = none := by simpa using hA
      have := h3 this
      omega
  · have hpos : 0 < j - k := by
      rcases Nat.eq_zero_or_pos (j - k) with h0 | h0
      · exact absurd (List.eq_nil_of_length_eq_zero (by rw [hlen]; exact h0)) hne
      · exact h0
    obtain ⟨b, off, rfl, hX, hc⟩ := h4 (fun e => by rw [e] at e2; simp at e2; omega)
    rw [if_neg (by omega)]
    refine ⟨b, off + k, by simp [Addr.add_lit], hX, fun i hi => ?_⟩
    rw [hlen] at hi
    obtain ⟨cs, hcs, hR⟩ := hc (k + i) (by omega)
    refine ⟨cs, fun q u hu => ?_, ?_⟩
    · have := hcs q u hu
      rw [show off + k + i * 1 + q = off + (k + i) * 1 + q by omega]
      exact this
    · have e : (fldB l k (j - k))[i]'(by rw [hlen]; exact hi) = l[k + i]'(by omega) := by simp [fldB]
      rw [e]; exact hR
  · rw [hlen] at hi
    by_cases hck : cap = k
    · omega
    · rw [if_neg hck] at hA
      cases A with
      | none => simp at hA
      | some a =>
        obtain ⟨b0, off0, hb0, _, _⟩ := h4 (fun e => by rw [e] at e2; simp at e2; omega)
        injection hb0 with hb0
        subst hb0
        simp [Addr.add_lit] at hA
        obtain ⟨rfl, rfl⟩ := hA
        have := h5 b0 off0 rfl (k + i) (by omega)
        rw [← Nat.add_assoc] at this
        exact this
/-- b[:j] reads as that piece. -/
theorem slice_low {P : Program} (v : Value) (t : TypeId) (hi : Option Value) (W : World) : (Instr.slice t v none hi none).run P W = (Instr.slice t v (some (.int .i64 ((0 : Nat) : Int))) hi none).run P W := by
  unfold Instr.slice
  rfl
theorem toldU : Tryz.prog.underlying 55 = some (.map 9 90) := Tryz.underlying55
theorem none_all {t : Td} (h : TdOk t) : (∀ k, tdM t k = none) ↔ noneB t = true := by
  constructor
  · intro h1
    have e : ∀ k, t k = none := fun k => by
      have := h1 k
      simpa [tdM] using this
    simp [noneB, e]
  · intro h1 k
    cases hk : t k with
    | none => simp [tdM, hk]
    | some p =>
      have := h k (by rw [hk]; simp)
      rw [h1] at this
      cases this
/-- What stands at the end. -/
def endS (b : List UInt8) (t : Td) (p : Nat) : Int × Int := if b.length < p + 1024 then (0, 2) else if nulB (fldB b (p + 512) 512) = false then (0, 3) else if noneB t = false then (0, 15) else (-1, 0)
set_option maxRecDepth 20000 in
set_option maxHeartbeats 8000000 in
theorem tend_any (hrd : RT w0 gr mf bv lv pv L f PL t fr w) (bb : List UInt8) (hb : Sl 1 Rbyte (fun k => w0.heap.size ≤ k) w0 bv bb) (hbl : bb.length ≤ 100000000) (hT : TdOk t) (p : Nat) (hp : p + 512 ≤ bb.length) :
    Calls Tryz.prog 45 #[.pointer (some ⟨gr, 0, none⟩), .int .i64 p] w fun r w' => r = .returned (.tuple #[.int .i64 (endS bb t p).1, .int .i64 (endS bb t p).2]) ∧ w = w' := by
  obtain ⟨Ab, capb, rfl, hb1, hb2⟩ := hb.form
  unfold maxLen at hb2
  have HE : Hid (endS bb t p = if bb.length < p + 1024 then (0, 2) else if nulB (fldB bb (p + 512) 512) = false then (0, 3) else if noneB t = false then (0, 15) else (-1, 0)) := Lib.hid rfl
  obtain ⟨E, HEE⟩ : ∃ E, Hid (endS bb t p = E) := ⟨_, Lib.hid rfl⟩
  rw [HEE.out] at HE ⊢
  have r0 : w.cell? ⟨gr, 0, none⟩ = some (.slice Ab bb.length capb) := by have := hrd.blk.cell 0; simpa using this
  have r3 : w.cell? ⟨gr, 3, none⟩ = some (.map (some mf)) := by have := hrd.blk.cell 3; simpa using this
  have w1 : IntKind.i64.wrap ((bb.length : Int) - (p : Int)) = (bb.length : Int) - (p : Int) := i64_in _ (by omega) (by omega)
  have hu8 : (Tryz.prog.info? 5).map (·.size) = some 1 := by kernel_rfl
  obtain ⟨mo, hmo, hM⟩ := hrd.mp
  obtain ⟨n, hn0, hn⟩ := mapS_len w toldU hmo hM
  have hnn := hn0.trans (none_all hT)
  have hsb := hb.keep good_byte (Kept.low' hrd.bel)
  clear hn0 hM hmo hrd hb
  go_enter Tryz.func45, Tryz.ntmps45
  by_cases h1 : bb.length < p + 1024
  · have t1 : decide ((bb.length : Int) - (p : Int) < 1024) = true := decide_eq_true (by omega)
    have HV := Lib.hid (HE.out.trans (if_pos h1))
    clear h1 HE hnn
    go_wp2_with fail
    go_ret2
    exact ⟨by rw [HV.out]; rfl, rfl⟩
  have t1 : decide ((bb.length : Int) - (p : Int) < 1024) = false := decide_eq_false (by omega)
  have HE2 := Lib.hid (HE.out.trans (if_neg h1))
  obtain ⟨p1, HP1⟩ : ∃ x, Hid (x = p + 512) := ⟨_, Lib.hid rfl⟩
  obtain ⟨p2, HP2⟩ : ∃ x, Hid (x = p + 1024) := ⟨_, Lib.hid rfl⟩
  have w2 : IntKind.i64.wrap ((p : Int) + 512) = (p1 : Int) := by rw [i64_in _ (by omega) (by omega), HP1.out]; omega
  have w3 : IntKind.i64.wrap ((p : Int) + 1024) = (p2 : Int) := by rw [i64_in _ (by omega) (by omega), HP2.out]; omega
  obtain ⟨A1, cap1, hsc, hsl⟩ := Sl.fld (P := Tryz.prog) hsb 25 5 Tryz.underlying25 hu8 p1 p2 (by rw [HP1.out, HP2.out]; omega) (by rw [HP2.out]; omega)
  have e1 : p2 - p1 = 512 := by rw [HP1.out, HP2.out]; omega
  rw [e1] at hsc hsl
  rw [← HP1.out] at HE2
  have hem := tempty_any _ _ w hsl.sb8
  generalize nulB (fldB bb p1 512) = nb at hem HE2
  clear h1 HE hsl hsb e1 HP1 HP2
  cases nb with
  | false =>
    have HV := Lib.hid (HE2.out.trans (if_pos rfl))
    clear HE2 hnn
    go_wp2_with (go_at_call 44; refine hem.mono ?_; clear hem; rintro r W2 ⟨rfl, rfl⟩)
    go_ret2
    exact ⟨by rw [HV.out]; rfl, rfl⟩
  | true =>
    have HE3 := Lib.hid (HE2.out.trans (if_neg (by simp)))
    clear HE2
    by_cases h0 : n = 0
    · have q1 : decide ((0 : Int) < (n : Int)) = false := decide_eq_false (by omega)
      have q2 : ¬ 0 < n := by omega
      have HV := Lib.hid (HE3.out.trans (if_neg (by rw [hnn.1 h0]; simp)))
      clear HE3 hnn h0
      go_wp2_with first
        | (go_at_call 44; refine hem.mono ?_; clear hem; rintro r W2 ⟨rfl, rfl⟩)
        | (at_len; refine wpList_lenS _ rfl _ rfl rfl n hn ?_)
      go_ret2
      exact ⟨by rw [HV.out]; rfl, rfl⟩
    · have q1 : decide ((0 : Int) < (n : Int)) = true := decide_eq_true (by omega)
      have q2 : 0 < n := by omega
      have hno : noneB t = false := by
        cases hq : noneB t with
        | false => rfl
        | true => exact absurd (hnn.2 hq) h0
      have HV := Lib.hid (HE3.out.trans (if_pos hno))
      clear HE3 hnn h0 hno
      go_wp2_with first
        | (go_at_call 44; refine hem.mono ?_; clear hem; rintro r W2 ⟨rfl, rfl⟩)
        | (at_len; refine wpList_lenS _ rfl _ rfl rfl n hn ?_)
      go_ret2
      exact ⟨by rw [HV.out]; rfl, rfl⟩
end Go.Proofs.YtpheifdpjcppdaaGreatDoor
