/- The walk of cpio.Write. Printed by gen_cpg.py. -/
import Derived.Test.YtolknddegfcmpaaDoorCpBE
import Derived.Test.YtolknddegfcmpaaDoorRw8
import Derived.Test.YtolknddegfcmpaaDoorPlaF
namespace Go.Proofs.YtolknddegfcmpaaDoor
open Go.RowKit Go.WideMaps Go.Maps
/-- The archive of right entries. -/
def arcB (l : List En) : List UInt8 := arcU l l.length ++ trailM
def CpW (w : World) (l : List En) (r : Ending) (w' : World) : Prop :=
  ∃ v : Value, r = .returned (.tuple #[v, .int .i64 (cpErr l)]) ∧ Below w.heap.size w w' ∧ w'.ownsRow w.heap.size 5 1 v (if cpErr l = 0 then arcB l else []).length (bvs (if cpErr l = 0 then arcB l else []))
def SmallL (l : List En) : Prop := l.length ≤ 1000 ∧ ∀ e ∈ l, e.path.length ≤ 100000 ∧ e.link.length ≤ 100000 ∧ e.data.length ≤ 100000
def tMp : TypeId := 51
/-- What Write has in memory. -/
structure WS (w : World) (gx mb n : Nat) (m : List UInt8 → Option Nat) (D : List UInt8 → Kw) (wr : World) : Prop where
  bel : Below w.heap.size w wr
  box : Blk wr gx 51 #[.map (some mb)]
  map : PMap wr mb n m
  kn : KN w.heap.size wr m D
  gxH : w.heap.size ≤ gx
  mbH : w.heap.size ≤ mb
section
variable {w wr w' : World} {gx mb n : Nat} {m : List UInt8 → Option Nat} {D : List UInt8 → Kw}
theorem WS.below (h : WS w gx mb n m D wr) (hb : Below wr.heap.size wr w') : WS w gx mb n m D w' :=
  ⟨h.bel.trans (hb.mono h.bel.size), h.box.below hb h.box.lt, h.map.below hb, h.kn.below hb, h.gxH, h.mbH⟩
theorem WS.sl (h : WS w gx mb n m D wr) {v : Value} {l : List En} (hs : Sl 10 Rent (fun k => w.heap.size ≤ k) w v l) : Sl 10 Rent (fun k => w.heap.size ≤ k) wr v l := hs.keep good_ent (Kept.low h.bel)
theorem WS.cell (h : WS w gx mb n m D wr) : wr.cell? ⟨gx, 0, none⟩ = some (.map (some mb)) := by
  have := h.box.cell 0
  simpa using this
theorem WS.set (h : WS w gx mb n m D wr) {p : List UInt8} {b : Nat} (hb : m p = some b) (i : Nat) (u : Value) (x : Kw) (hx : kCells x = (kCells (D p)).setIfInBounds i u) : WS w gx mb n m (putD D p x) (wr.setCell ⟨b, i, none⟩ u) := by
  have hB := h.kn.blk p b hb
  have hk : Kept (fun k => k = b) wr (wr.setCell ⟨b, i, none⟩ u) := (Kept.refl _ wr).setCell u fun _ => rfl
  refine ⟨h.bel.trans (hk.below h.bel.size fun k _ e => by rw [e]; exact hB.2), hk.blk h.box fun e => Blk.apartT h.box hB.1 (by decide) e, h.map.keep hk fun e => Blk.apartP hB.1 h.map e.symm, ?_, h.gxH, h.mbH⟩
  exact h.kn.set hb x hk (by rw [hx]; exact hB.1.set i)
theorem WS.put (h : WS w gx mb n m D wr) {g : Nat} {x : Kw} (hg : Blk wr g 55 (kCells x)) (hH : w.heap.size ≤ g) (hne : ∀ q b, m q = some b → b ≠ g) {p : List UInt8} (hm : PMap w' mb (n + 1) (putP m p g)) (hk : Kept (fun k => k = mb) wr w') : WS w gx mb (n + 1) (putP m p g) (putD D p x) w' := by
  refine ⟨h.bel.trans (hk.below h.bel.size fun k _ e => by rw [e]; exact h.mbH), hk.blk h.box fun e => Blk.apartP h.box h.map e, hm, ?_, h.gxH, h.mbH⟩
  have h1 := h.kn.put p x g hg hH hne
  refine h1.keep hk fun q b hq e => ?_
  exact Blk.apartP (h1.blk q b hq).1 h.map e
theorem WS.poke (h : WS w gx mb n m D wr) {g : Nat} {t : TypeId} {cs : Array Value} (hg : Blk wr g t cs) (ht : t ≠ 55) (ht2 : t ≠ 51) (hH : w.heap.size ≤ g) (i : Nat) (u : Value) : WS w gx mb n m D (wr.setCell ⟨g, i, none⟩ u) := by
  have hk : Kept (fun k => k = g) wr (wr.setCell ⟨g, i, none⟩ u) := (Kept.refl _ wr).setCell u fun _ => rfl
  refine ⟨h.bel.trans (hk.below h.bel.size fun k _ e => by rw [e]; exact hH), hk.blk h.box fun e => Blk.apartT h.box hg (fun c => ht2 c.symm) e, h.map.keep hk fun e => Blk.apartP hg h.map e.symm, h.kn.keep hk fun p b hb e => Blk.apartT (h.kn.blk p b hb).1 hg (fun c => ht c.symm) e, h.gxH, h.mbH⟩
theorem WS.row (h : WS w gx mb n m D wr) {v : Value} {ln : Nat} {xs : List Value} (ho : wr.ownsRow w.heap.size 5 1 v ln xs) (hk : Kept (fun k => v.ownBlock = some k) wr w') : WS w gx mb n m D w' := by
  refine ⟨h.bel.trans (hk.below h.bel.size fun k _ e => (ho.lt k e).1), hk.blk h.box fun e => ?_, h.map.keep hk fun e => ?_, h.kn.keep hk fun p b hb e => ?_, h.gxH, h.mbH⟩
  · obtain ⟨cs, hc⟩ := own_typed ho e
    exact Blk.apartT h.box hc (by decide) rfl
  · obtain ⟨cs, hc⟩ := own_typed ho e
    exact Blk.apartP hc h.map rfl
  · obtain ⟨cs, hc⟩ := own_typed ho e
    exact Blk.apartT (h.kn.blk p b hb).1 hc (by decide) rfl
/-- What stands in a round of Write's second loop. -/
structure SW (w : World) (gx mb n : Nat) (m : List UInt8 → Option Nat) (D : List UInt8 → Kw) (g : Nat) (ce : Array Value) (gN : Nat) (cs : Array Value) (v : Value) (la : List UInt8) (W : World) : Prop where
  ws : WS w gx mb n m D W
  be : Blk W g 49 ce
  bn : Blk W gN 57 cs
  row : W.ownsRow w.heap.size 5 1 v la.length (bvs la)
  low : w.heap.size ≤ gN
section
variable {g gN : Nat} {ce cs : Array Value} {v : Value} {la : List UInt8} {W W' : World}
theorem SW.below (h : SW w gx mb n m D g ce gN cs v la W) (hb : Below W.heap.size W W') : SW w gx mb n m D g ce gN cs v la W' :=
  ⟨h.ws.below hb, h.be.below hb h.be.lt, h.bn.below hb h.bn.lt, own_below h.row hb, h.low⟩
theorem SW.poke (h : SW w gx mb n m D g ce gN cs v la W) (i : Nat) (u : Value) : SW w gx mb n m D g ce gN (cs.setIfInBounds i u) v la (W.setCell ⟨gN, i, none⟩ u) := by
  refine ⟨h.ws.poke h.bn (by decide) (by decide) h.low i u, h.be.other (a := ⟨gN, i, none⟩) u (Blk.apartT h.be h.bn (by decide)), h.bn.set i, ?_, h.low⟩
  refine own_other h.row u fun e => ?_
  obtain ⟨c, hc⟩ := own_typed h.row e
  exact Blk.apartT hc h.bn (by decide) rfl
end
theorem memB_le (f md lk ui gi ti sz nz : Nat) (name data : List UInt8) (h : name.length ≤ 100000) (h2 : data.length ≤ 100000) : (memB (numL f md lk ui gi ti sz nz) name data).length ≤ 400000 := by
  have h1 := fil_lt (111 + name.length)
  have h3 := fil_lt data.length
  simp only [memB, List.length_append, List.length_replicate, List.length_singleton]
  have h4 : ((numL f md lk ui gi ti sz nz).map fun n => hxd n 8).flatten.length = 104 := by
    have := hexK_len (numL f md lk ui gi ti sz nz) 13 (by simp [numL])
    have e : (numL f md lk ui gi ti sz nz).take 13 = numL f md lk ui gi ti sz nz := List.take_of_length_le (by simp [numL])
    rw [hexK, e] at this
    exact this
  have h5 : magicL.length = 6 := rfl
  omega
theorem bd_step {a b i : Nat} (h : a ≤ i * 400000) (hb : b ≤ 400000) : a + b ≤ (i + 1) * 400000 := by omega
theorem bd_max {a i : Nat} (h : a ≤ i * 400000) (hi : i ≤ 1000) : a ≤ 1000000000 := by omega
theorem KN.at2 {H : Nat} (h : KN H w m D) {p : List UInt8} {b : Nat} (hb : m p = some b) {na nc nd : Nat} {nv : Value} (hD : D p = ⟨na, nc, nd, nv⟩) : w.cell? ⟨b, 0, none⟩ = some (.int .i64 (na : Int)) ∧ w.cell? ⟨b, 1, none⟩ = some (.int .i64 (nc : Int)) ∧ w.cell? ⟨b, 2, none⟩ = some (.int .i64 (nd : Int)) ∧ w.cell? ⟨b, 3, none⟩ = some nv ∧ ∀ i, w.frozen? ⟨b, i, none⟩ = false := by
  obtain ⟨h0, h1, h2, h3⟩ := h.at hb
  rw [hD] at h0 h1 h2 h3
  exact ⟨h0, h1, h2, h3, fun i => (h.blk p b hb).1.frozen i⟩
theorem of_some (e : En) (dv : Value) (w : World) (A : Option Addr) (nA cap : Nat) (h : dv = .slice A nA cap) (bx mb n : Nat) (m : List UInt8 → Option Nat) (hbx : w.cell? ⟨bx, 0, none⟩ = some (.map (some mb))) (hm : PMap w mb n m)
    (hp : e.path.length ≤ 10000000) (hl : e.link.length ≤ 10000000) (b : Nat) (hb : m (nmE e) = some b) :
    Calls Tryd.prog 24 #[entV e dv, .pointer (some ⟨bx, 0, none⟩)] w fun r w' => r = .returned (.pointer (some ⟨b, 0, none⟩)) ∧ Below w.heap.size w w' := by
  have := of_any e dv w A nA cap h bx mb n m hbx hm hp hl
  rw [hb] at this
  exact this
end
set_option maxRecDepth 20000 in
set_option maxHeartbeats 16000000 in
theorem write_any (l : List En) (v : Value) (X : Nat → Prop) (w : World) (hsl : Sl 10 Rent X w v l) (hL : LB l) (hS : SmallL l) :
    Calls Tryd.prog 10 #[v] w (CpW w l) := by
  have hck := check_any l v X w hsl hL
  have hsl0 : Sl 10 Rent (fun k => w.heap.size ≤ k) w v l := hsl.mono good_ent (by omega) fun k hk h => absurd h (by omega)
  clear hsl
  obtain ⟨A, cap, rfl, hc1, hc2⟩ := hsl0.form
  unfold maxLen at hc2
  obtain ⟨hS1, hS2⟩ := hS
  have HS := Lib.hid hS2
  clear hS2 hL
  have HCE : Hid (cpErr l = 0 → Rt l ∧ (∀ e ∈ l, e.mtime ≤ 4294967295)) := Lib.hid fun h => cp_right h
  obtain ⟨c, HC⟩ : ∃ c, Hid (cpErr l = c) := ⟨_, Lib.hid rfl⟩
  rw [HC.out] at hck
  go_enter Tryd.func10, Tryd.ntmps10
  go_upto_region 2 with (go_at_call 23; refine hck.mono ?_; rintro e W1 ⟨rfl, hb⟩)
  by_cases hz : c = 0
  rotate_left
  · have hzb : (c != 0) = true := by simpa using hz
    have HZ := Lib.hid hz
    clear hz hck
    go_wp2_with fail
    go_ret2
    refine ⟨_, by rw [HC.out]; rfl, hb, ?_⟩
    rw [HC.out, if_neg HZ.out]
    exact World.ownsRow_nil _ _ _ _
  obtain ⟨hR, hMT⟩ := HCE.out (by rw [HC.out, hz])
  have HR := Lib.hid hR
  have HMT := Lib.hid hMT
  subst hz
  clear hR hMT HCE hck
  have hmm := @run_makeMap Tryd.prog
  go_upto_region 6 with fail
  have e1 : (W1.alloc (.map #[] 0)).heap.size = W1.heap.size + 1 := by simp
  have hb1 := (Below.refl _ (W1.alloc (.map #[] 0))).alloc (Nat.le_refl _) (.cells #[.map (some W1.heap.size)] 51)
  have bX := Blk.new (W1.alloc (.map #[] 0)) 51 #[.map (some W1.heap.size)]
  rw [e1] at bX
  obtain ⟨D0, _⟩ : ∃ D : List UInt8 → Kw, True := ⟨fun _ => ⟨0, 0, 0, undef⟩, trivial⟩
  have ws : WS w (W1.heap.size + 1) W1.heap.size 0 (fun _ => none) D0 ((W1.alloc (.map #[] 0)).alloc (.cells #[.map (some W1.heap.size)] 51)) :=
    ⟨(hb.alloc hb.size _).alloc (by rw [e1]; exact Nat.le_succ_of_le hb.size) _, bX, (PMap.made W1).below hb1, KN.nil _ _ _, Nat.le_succ_of_le hb.size, hb.size⟩
  clear hb hb1 bX e1
  generalize (W1.alloc (.map #[] 0)).alloc (.cells #[.map (some W1.heap.size)] 51) = W2 at ws ⊢
  generalize W1.heap.size + 1 = gx at ws ⊢
  generalize W1.heap.size = mb at ws ⊢
  have hDS := Lib.hid (DS.nil l (Sl 1 Rbyte (fun k => w.heap.size ≤ k) w) D0)
  go_wp2_with fail
  go_loopg [7, 25] l.length (fun G s7 s25 wr => ∃ (k n nx : Nat) (m : List UInt8 → Option Nat) (D : List UInt8 → Kw), k ≤ l.length ∧ G = l.length - k ∧ s7 = .int .i64 nx ∧ Hid (nx = numU l k + 1) ∧ s25 = .int .i64 k ∧ n ≤ k ∧ WS w gx mb n m D wr ∧ Hid (DS l (Sl 1 Rbyte (fun k => w.heap.size ≤ k) w) k m D))
  case atStart => exact ⟨0, 0, 1, _, D0, Nat.zero_le _, rfl, rfl, Lib.hid (by simp [numU]), rfl, Nat.le_refl _, ws, hDS⟩
  case round =>
    clear hDS ws
    obtain ⟨k, n, nx, m, D, hk, rfl, rfl, HNX0, rfl, hnk, ws, hDS⟩ := hrel
    by_cases hlt : k < l.length
    · have hslr := ws.sl hsl0
      obtain ⟨b, off, rfl, _, hc⟩ := hslr.ent (by omega)
      obtain ⟨dv, hat, hdv⟩ := hc k hlt
      obtain ⟨Ad, capd, rfl, _, _⟩ := hdv.form
      have HDV : Hid (Sl 1 Rbyte (fun k => w.heap.size ≤ k) w (.slice Ad l[k].data.length capd) l[k].data) := Lib.hid (sl_back ws.bel hsl0 hlt hat hdv)
      have HNEW := Lib.hid (fun h4 b => hDS.out.new HR.out hlt h4 b _ HDV.out)
      have HOLD := Lib.hid (fun h4 => hDS.out.old HR.out hlt h4)
      have HNU := Lib.hid (numU_step l k hlt)
      have hnu := numU_le l k
      have HEB := HS.out _ (List.getElem_mem hlt)
      obtain ⟨e, He⟩ : ∃ e, Hid (l[k] = e) := ⟨_, Lib.hid rfl⟩
      rw [He.out] at hat hdv HNEW HOLD HEB HNU
      obtain ⟨lp, ll, ld⟩ := HEB
      obtain ⟨c0, c1, c2, c3, c4, c5, c6, c7, c8, c9⟩ := hat
      have i1 : (0 : Int) ≤ (k : Int) := by omega
      have i2 : (k : Int) < (l.length : Int) := by omega
      clear hc hdv HDV
      go_upto_region 10 with fail
      have bE := Blk.new wr tE #[.string (bs e.path), .int .i64 e.kind, .int .i64 e.mode, .int .i64 e.uid, .int .i64 e.gid, .string (bs e.owner), .string (bs e.group), .int .i64 e.mtime, .string (bs e.link), .slice Ad e.data.length capd]
      have hq : Below wr.heap.size wr (wr.alloc (.cells #[.string (bs e.path), .int .i64 e.kind, .int .i64 e.mode, .int .i64 e.uid, .int .i64 e.gid, .string (bs e.owner), .string (bs e.group), .int .i64 e.mtime, .string (bs e.link), .slice Ad e.data.length capd] tE)) := (Below.refl _ _).alloc (Nat.le_refl _) _
      have ws1 := ws.below hq
      clear ws hslr hq c0 c1 c2 c3 c4 c5 c6 c7 c8 c9
      generalize wr.alloc (.cells #[.string (bs e.path), .int .i64 e.kind, .int .i64 e.mode, .int .i64 e.uid, .int .i64 e.gid, .string (bs e.owner), .string (bs e.group), .int .i64 e.mtime, .string (bs e.link), .slice Ad e.data.length capd] tE) = W1 at bE ws1 ⊢
      generalize wr.heap.size = g at bE ⊢
      obtain ⟨d0, d1, d2, d3, d4, d5, d6, d7, d8, d9⟩ := bE.cells10
      have hnx := HNX0.out
      by_cases h4 : e.kind = 4
      · have e4 : (e.kind != 4) = false := by simpa using h4
        obtain ⟨kb, hkb0, hDS2⟩ := HOLD.out h4
        have hnm : nmE e = e.link := by rw [nmE, if_pos h4]
        rw [← hnm] at hkb0 hDS2
        have hkb := hkb0
        obtain ⟨_, _, _, _, _, _, hcb, _, _⟩ := (hDS.out _).2 _ hkb
        have hlk := lksU_le l (nmE e) k
        obtain ⟨x, hDp⟩ : ∃ x, D (nmE e) = x := ⟨_, rfl⟩
        rw [hDp] at hDS2 hcb
        obtain ⟨na, nc, nd, nv⟩ := x
        obtain ⟨nc1, HN1⟩ : ∃ x, Hid (x = nc + 1) := ⟨_, Lib.hid rfl⟩
        have HDS2 : Hid (DS l (Sl 1 Rbyte (fun k => w.heap.size ≤ k) w) (k + 1) m (putD D (nmE e) ⟨na, nc1, k, nv⟩)) := Lib.hid (by rw [HN1.out]; exact hDS2)
        have HDP := Lib.hid hDp
        have hnc : nc ≤ 1000 := by simp only at hcb; omega
        have HNX : Hid (nx = numU l (k + 1) + 1) := Lib.hid (by rw [HNU.out, if_pos h4]; exact hnx)
        clear HNEW HOLD hDS hDS2 hkb0 HNU hnm h4 hcb hlk hDp hnx hnu HNX0
        have hx := ws1.cell
        have of1 := of_some e (.slice Ad e.data.length capd) _ Ad _ capd rfl gx mb _ _ hx ws1.map (by omega) (by omega) kb hkb
        have w2 : IntKind.i64.wrap ((nc : Int) + 1) = (nc1 : Int) := by rw [i64_in _ (by omega) (by omega), HN1.out]; omega
        go_upto_region 14 with (go_at_call 24; refine of1.mono ?_; rintro r W3 ⟨rfl, hb3⟩; have ws3 := ws1.below hb3; have bE3 := bE.below hb3 bE.lt; obtain ⟨k0, k1, k2, k3, hfr⟩ := ws3.kn.at2 hkb HDP.out; have hf1 := hfr 1)
        have ws4 := ws3.set hkb 1 (.int .i64 nc1) ⟨na, nc1, nd, nv⟩ (by rw [HDP.out]; rfl)
        have bE4 := bE3.other (a := ⟨kb, 1, none⟩) (.int .i64 nc1) (Blk.apartT bE3 (ws3.kn.blk _ _ hkb).1 (by decide))
        clear ws3 bE3 k0 k1 k2 k3 hfr hf1 ws1 bE hb3 of1 w2 hx HDP d0 d1 d2 d3 d4 d5 d6 d7 d8 d9
        generalize W3.setCell ⟨kb, 1, none⟩ (.int .i64 nc1) = W4 at ws4 bE4 ⊢
        have hx := ws4.cell
        have of1 := of_some e (.slice Ad e.data.length capd) _ Ad _ capd rfl gx mb _ _ hx ws4.map (by omega) (by omega) kb hkb
        obtain ⟨d0, d1, d2, d3, d4, d5, d6, d7, d8, d9⟩ := bE4.cells10
        go_upto_region 15 with (go_at_call 24; refine of1.mono ?_; rintro r W5 ⟨rfl, hb5⟩; have ws5 := ws4.below hb5; obtain ⟨k0, k1, k2, k3, hfr⟩ := ws5.kn.at2 hkb (putD_same _ _ _); have hf2 := hfr 2)
        have ws6 := ws5.set hkb 2 (.int .i64 k) ⟨na, nc1, k, nv⟩ (by rw [putD_same]; rfl)
        rw [putD_put] at ws6
        clear ws5 k0 k1 k2 k3 hfr hf2 ws4 bE4 hb5 of1 hx d0 d1 d2 d3 d4 d5 d6 d7 d8 d9
        generalize W5.setCell ⟨kb, 2, none⟩ (.int .i64 k) = W6 at ws6 ⊢
        go_wp2_with fail
        go_roundg (l.length - (k + 1))
        case measure => omega
        case rel => exact ⟨k + 1, _, nx, _, _, by omega, rfl, rfl, HNX, by simp, by omega, ws6, HDS2⟩
      · have e4 : (e.kind != 4) = true := by simpa using h4
        have hnm : nmE e = e.path := by rw [nmE, if_neg h4]
        obtain ⟨nx1, HX1⟩ : ∃ x, Hid (x = nx + 1) := ⟨_, Lib.hid rfl⟩
        have w1 : IntKind.i64.wrap ((nx : Int) + 1) = (nx1 : Int) := by rw [i64_in _ (by omega) (by omega), HX1.out]; omega
        have HNU1 : Hid (numU l (k + 1) = nx) := Lib.hid (by rw [HNU.out, if_neg h4]; exact hnx.symm)
        have HNX : Hid (nx1 = numU l (k + 1) + 1) := Lib.hid (by rw [HX1.out, HNU1.out])
        have HDS1 := Lib.hid (HNEW.out h4)
        have hx0 := ws1.cell
        have hq2 : Below W1.heap.size W1 (W1.alloc (.cells #[.int .i64 nx, .int .i64 0, .int .i64 0, .slice Ad e.data.length capd] 55)) := (Below.refl _ _).alloc (Nat.le_refl _) _
        have ws2 := ws1.below hq2
        have bK : Blk (W1.alloc (.cells #[.int .i64 nx, .int .i64 0, .int .i64 0, .slice Ad e.data.length capd] 55)) W1.heap.size 55 (kCells ⟨nx, 0, 0, .slice Ad e.data.length capd⟩) := Blk.new W1 _ _
        have bE2 := bE.below hq2 bE.lt
        have hH := ws1.bel.size
        have HNE := Lib.hid (fun (q : List UInt8) (c : Nat) (hc : m q = some c) => Nat.ne_of_lt (ws1.kn.lt hc))
        have hme := Blk.apartP bE2 ws2.map
        clear HNEW HOLD hDS HNU h4 hnx hnu HNX0 hq2
        go_upto_region 12 with (at_mapUpdate; refine wpList_pput _ rfl _ _ _ rfl mb n m rfl ws2.map (by omega) e.path rfl (by omega) _ rfl ?_; intro W6 hM6 hk6)
        have ws6 := ws2.put bK hH HNE.out hM6 hk6
        have bE6 := hk6.blk bE2 hme
        have HD0 : Hid (DS l (Sl 1 Rbyte (fun k => w.heap.size ≤ k) w) (k + 1) (putP m e.path W1.heap.size) (putD (putD D e.path ⟨nx, 0, 0, .slice Ad e.data.length capd⟩) (nmE e) ⟨nx, 1, k, .slice Ad e.data.length capd⟩)) := Lib.hid (by rw [hnm, putD_put]; have := HDS1.out W1.heap.size; rw [HNU1.out] at this; exact this)
        have hkb : putP m e.path W1.heap.size (nmE e) = some W1.heap.size := by rw [hnm]; exact if_pos rfl
        obtain ⟨nc, HNC⟩ : ∃ x, Hid (x = 0) := ⟨_, Lib.hid rfl⟩
        obtain ⟨nd, HND⟩ : ∃ x, Hid (x = 0) := ⟨_, Lib.hid rfl⟩
        obtain ⟨nc1, HN1⟩ : ∃ x, Hid (x = nc + 1) := ⟨_, Lib.hid rfl⟩
        have HDP : Hid (putD D e.path ⟨nx, 0, 0, .slice Ad e.data.length capd⟩ (nmE e) = ⟨nx, nc, nd, .slice Ad e.data.length capd⟩) := Lib.hid (by rw [hnm, putD_same, HNC.out, HND.out])
        have HDS2 : Hid (DS l (Sl 1 Rbyte (fun k => w.heap.size ≤ k) w) (k + 1) (putP m e.path W1.heap.size) (putD (putD D e.path ⟨nx, 0, 0, .slice Ad e.data.length capd⟩) (nmE e) ⟨nx, nc1, k, .slice Ad e.data.length capd⟩)) := Lib.hid (by rw [HN1.out, HNC.out]; exact HD0.out)
        have hnc : nc ≤ 1000 := by have := HNC.out; omega
        clear ws2 bK bE2 hM6 hk6 HD0 HDS1 HNE hme hH ws1 bE d0 d1 d2 d3 d4 d5 d6 d7 d8 d9 hx0 hnm
        generalize putD D e.path ⟨nx, 0, 0, .slice Ad e.data.length capd⟩ = D2 at ws6 HDP HDS2
        generalize W1.heap.size = kb at ws6 HDS2 hkb ⊢
        generalize putP m e.path kb = m2 at ws6 HDS2 hkb
        clear m
        obtain ⟨d0, d1, d2, d3, d4, d5, d6, d7, d8, d9⟩ := bE6.cells10
        have hx := ws6.cell
        have of1 := of_some e (.slice Ad e.data.length capd) _ Ad _ capd rfl gx mb _ _ hx ws6.map (by omega) (by omega) kb hkb
        have w2 : IntKind.i64.wrap ((nc : Int) + 1) = (nc1 : Int) := by rw [i64_in _ (by omega) (by omega), HN1.out]; omega
        go_upto_region 14 with (go_at_call 24; refine of1.mono ?_; rintro r W3 ⟨rfl, hb3⟩; have ws3 := ws6.below hb3; have bE3 := bE6.below hb3 bE6.lt; obtain ⟨k0, k1, k2, k3, hfr⟩ := ws3.kn.at2 hkb HDP.out; have hf1 := hfr 1)
        have ws4 := ws3.set hkb 1 (.int .i64 nc1) ⟨nx, nc1, nd, .slice Ad e.data.length capd⟩ (by rw [HDP.out]; rfl)
        have bE4 := bE3.other (a := ⟨kb, 1, none⟩) (.int .i64 nc1) (Blk.apartT bE3 (ws3.kn.blk _ _ hkb).1 (by decide))
        clear ws3 bE3 k0 k1 k2 k3 hfr hf1 ws6 bE6 hb3 of1 w2 hx HDP d0 d1 d2 d3 d4 d5 d6 d7 d8 d9
        generalize W3.setCell ⟨kb, 1, none⟩ (.int .i64 nc1) = W4 at ws4 bE4 ⊢
        have hx := ws4.cell
        have of1 := of_some e (.slice Ad e.data.length capd) _ Ad _ capd rfl gx mb _ _ hx ws4.map (by omega) (by omega) kb hkb
        obtain ⟨d0, d1, d2, d3, d4, d5, d6, d7, d8, d9⟩ := bE4.cells10
        go_upto_region 15 with (go_at_call 24; refine of1.mono ?_; rintro r W5 ⟨rfl, hb5⟩; have ws5 := ws4.below hb5; obtain ⟨k0, k1, k2, k3, hfr⟩ := ws5.kn.at2 hkb (putD_same _ _ _); have hf2 := hfr 2)
        have ws7 := ws5.set hkb 2 (.int .i64 k) ⟨nx, nc1, k, .slice Ad e.data.length capd⟩ (by rw [putD_same]; rfl)
        rw [putD_put] at ws7
        clear ws5 k0 k1 k2 k3 hfr hf2 ws4 bE4 hb5 of1 hx d0 d1 d2 d3 d4 d5 d6 d7 d8 d9
        generalize W5.setCell ⟨kb, 2, none⟩ (.int .i64 k) = W7 at ws7 ⊢
        go_wp2_with fail
        go_roundg (l.length - (k + 1))
        case measure => omega
        case rel => exact ⟨k + 1, _, nx1, _, _, by omega, rfl, rfl, HNX, by simp, by omega, ws7, HDS2⟩
    · have hke : k = l.length := by omega
      subst hke
      go_wp2_with fail
      generalize wr = W8 at ws ⊢
      go_loopg [10, 61] l.length (fun G s10 s61 wr => ∃ i : Nat, i ≤ l.length ∧ G = l.length - i ∧ s61 = .int .i64 i ∧ WS w gx mb n m D wr ∧ wr.ownsRow w.heap.size 5 1 s10 (arcU l i).length (bvs (arcU l i)) ∧ Hid ((arcU l i).length ≤ i * 400000))
      case atStart => exact ⟨0, Nat.zero_le _, rfl, rfl, ws, World.ownsRow_nil _ _ _ _, Lib.hid (by simp [arcU])⟩
      case round =>
        clear ws
        obtain ⟨i, hi, rfl, rfl, ws, hrow, HBL⟩ := hrel
        by_cases hlt : i < l.length
        · have hslr := ws.sl hsl0
          obtain ⟨b, off, rfl, _, hc⟩ := hslr.ent (by omega)
          obtain ⟨dv, hat, hdv⟩ := hc i hlt
          obtain ⟨Ad, capd, rfl, _, _⟩ := hdv.form
          obtain ⟨kb, hkb, j, hj, hf1, hf2, hf3, hw, _, hr1, hr2, hr3, hr4⟩ := hDS.out.found HR.out hlt
          have HST := Lib.hid (arcU_step hlt hj hw)
          have hck := chkE_facts (HR.out.chk _ (List.getElem_mem hlt))
          have hmt := HMT.out _ (List.getElem_mem hlt)
          have HL1 := Lib.hid (fun h4 h1 => link_one HR.out hlt h4 h1)
          have HEB := HS.out _ (List.getElem_mem hlt)
          have HFB := (HS.out _ (List.getElem_mem hj)).2.2
          have hna := numU_le l (j + 1)
          have hnc := lksU_le l (nmE l[i]) l.length
          have hnd := lstU_le l (nmE l[i]) 0 l.length
          generalize l[j] = f at hr4 HST HFB
          obtain ⟨e, He⟩ : ∃ e, Hid (l[i] = e) := ⟨_, Lib.hid rfl⟩
          rw [He.out] at hat hdv hkb hr1 hr2 hr3 hr4 HST hck hmt HL1 HEB hnc hnd
          obtain ⟨lp, ll, ld⟩ := HEB
          have hof : ∀ W, WS w gx mb n m D W → Calls Tryd.prog 24 #[entV e (.slice Ad e.data.length capd), .pointer (some ⟨gx, 0, none⟩)] W fun r w' => r = .returned (.pointer (some ⟨kb, 0, none⟩)) ∧ Below W.heap.size W w' := fun W h => of_some e _ W Ad _ capd rfl gx mb n m h.cell h.map (by omega) (by omega) kb hkb
          obtain ⟨x, hDp⟩ : ∃ x, D (nmE e) = x := ⟨_, rfl⟩
          rw [hDp] at hr1 hr2 hr3 hr4
          obtain ⟨na, nc, nd, nv⟩ := x
          simp only at hr1 hr2 hr3 hr4
          have HDP := Lib.hid hDp
          have HKB := Lib.hid hkb
          have HLL : Hid (e.kind ≠ 4 → e.kind ≠ 1 → nc = 1) := Lib.hid fun h4 h1 => hr2.trans (HL1.out h4 h1)
          have HME : Hid (memE l i e j f = if e.kind = 2 then memB (numL na (16384 + e.mode.toNat) 2 e.uid.toNat e.gid.toNat e.mtime.toNat 0 (e.path.length + 1)) e.path [] else if e.kind = 3 then memB (numL na (40960 + e.mode.toNat) 1 e.uid.toNat e.gid.toNat e.mtime.toNat e.link.length (e.path.length + 1)) e.path e.link else if nd = i then memB (numL na (32768 + e.mode.toNat) nc e.uid.toNat e.gid.toNat e.mtime.toNat f.data.length (e.path.length + 1)) e.path f.data else memB (numL na (32768 + e.mode.toNat) nc e.uid.toNat e.gid.toNat e.mtime.toNat 0 (e.path.length + 1)) e.path []) := Lib.hid (by rw [hr1, hr2, hr3]; rfl)
          rw [← hr1] at hna
          rw [← hr2] at hnc
          rw [← hr3] at hnd
          generalize memE l i e j f = me at HST HME
          obtain ⟨path, kind, mode, uid, gid, owner, group, mtime, link, data⟩ := e
          simp only at hck hmt lp ll ld HLL HME hat
          obtain ⟨hk1, hk4, hm0, hm1, hu0, hu1, hg0, hg1, ht0, _, _⟩ := hck
          obtain ⟨mo, rfl⟩ := Int.eq_ofNat_of_zero_le hm0
          obtain ⟨ui, rfl⟩ := Int.eq_ofNat_of_zero_le hu0
          obtain ⟨gi, rfl⟩ := Int.eq_ofNat_of_zero_le hg0
          obtain ⟨ti, rfl⟩ := Int.eq_ofNat_of_zero_le ht0
          simp only [Int.toNat_natCast] at HME
          simp only [entV] at hof
          obtain ⟨c0, c1, c2, c3, c4, c5, c6, c7, c8, c9⟩ := hat
          have i1 : (0 : Int) ≤ (i : Int) := by omega
          have i2 : (i : Int) < (l.length : Int) := by omega
          simp only at c0 c1 c2 c3 c4 c5 c6 c7 c8 c9
          clear hc hdv hr1 hr2 hr3 hDp hkb hf1 hf2 hf3 HL1 hw hm0 hu0 hg0 ht0 hslr
          go_upto_region 20 with fail
          have bE := Blk.new wr tE #[.string (bs path), .int .i64 kind, .int .i64 mo, .int .i64 ui, .int .i64 gi, .string (bs owner), .string (bs group), .int .i64 ti, .string (bs link), .slice Ad data.length capd]
          have hq : Below wr.heap.size wr (wr.alloc (.cells #[.string (bs path), .int .i64 kind, .int .i64 mo, .int .i64 ui, .int .i64 gi, .string (bs owner), .string (bs group), .int .i64 ti, .string (bs link), .slice Ad data.length capd] tE)) := (Below.refl _ _).alloc (Nat.le_refl _) _
          have ws1 := ws.below hq
          have hrow1 := own_below hrow hq
          clear ws hrow hq c0 c1 c2 c3 c4 c5 c6 c7 c8 c9
          generalize wr.alloc (.cells #[.string (bs path), .int .i64 kind, .int .i64 mo, .int .i64 ui, .int .i64 gi, .string (bs owner), .string (bs group), .int .i64 ti, .string (bs link), .slice Ad data.length capd] tE) = W1 at bE ws1 hrow1 ⊢
          generalize wr.heap.size = g at bE ⊢
          obtain ⟨d0, d1, d2, d3, d4, d5, d6, d7, d8, d9⟩ := bE.cells10
          have hof1 := hof _ ws1
          go_upto_region 21 with (go_at_call 24; refine hof1.mono ?_; rintro r W3 ⟨rfl, hb3⟩)
          have ws3 := ws1.below hb3
          have bE3 := bE.below hb3 bE.lt
          have hrow3 := own_below hrow1 hb3
          clear hof1 hof ws1 bE hrow1 hb3 d0 d1 d2 d3 d4 d5 d6 d7 d8 d9
          obtain ⟨d0, d1, d2, d3, d4, d5, d6, d7, d8, d9⟩ := bE3.cells10
          obtain ⟨k0, k1, k2, k3, _⟩ := ws3.kn.at2 HKB.out HDP.out
          refine wp_region_plan (fun W => W.cell? ⟨kb, 0, none⟩ = some (.int .i64 na) ∧ W.cell? ⟨kb, 1, none⟩ = some (.int .i64 nc) ∧ W.cell? ⟨g, 3, none⟩ = some (.int .i64 ui) ∧ W.cell? ⟨g, 4, none⟩ = some (.int .i64 gi) ∧ W.cell? ⟨g, 7, none⟩ = some (.int .i64 ti)) [(false, 0), (false, 1), (false, 2), (false, 3), (false, 4), (false, 5), (false, 6), (false, 7), (false, 8), (false, 9), (false, 10), (false, 11), (false, 12), (false, 13), (false, 14), (true, 15), (true, 16)] (by kernel_rfl) (by kernel_rfl) (⟨k0, k1, d3, d4, d7⟩) ?_
          simp only [planOps, List.map, List.getD_cons_zero, List.getD_cons_succ]
          iterate 15 ((first | refine plan_quiet (v := ?_) rfl rfl (fun w' hw' => ?_) ?_ | refine plan_calm (v := ?_) (tt_of) rfl (fun w' hw' => ?_) ?_); rotate_left; (focus (go_simp <;> (first | with_reducible rfl | (rw [if_neg (by simp [undef])]; try rfl)))); simp only [Act.put, List.setIfInBounds_toArray, List.set_cons_zero, List.set_cons_succ])
          refine plan_loud rfl (fun K hK => ?_)
          go_simp
          have kq := Kept.of_below (((Below.refl _ W3).alloc (Nat.le_refl _) (.cells #[.int .i64 0, .int .i64 0, .int .i64 0, .int .i64 0, .int .i64 0, .int .i64 0, .int .i64 0, .int .i64 0, .int .i64 0, .int .i64 0, .int .i64 0, .int .i64 0, .int .i64 0] 57)).drew) nowhere
          refine hK _ _ (⟨kq.cell k0 (fun h => h), kq.cell k1 (fun h => h), kq.cell d3 (fun h => h), kq.cell d4 (fun h => h), kq.cell d7 (fun h => h)⟩) ?_
          clear hK K
          (try simp only [Act.put, List.setIfInBounds_toArray, List.set_cons_zero, List.set_cons_succ])
          refine plan_last rfl (by kernel_rfl) (by kernel_rfl) (fun K hK => ?_)
          clear kq
          go_simp
          refine hK _ _ (trivial) ?_
          clear hK K
          (try simp only [Act.put, List.setIfInBounds_toArray, List.set_cons_zero, List.set_cons_succ])
          refine plan_end ?_
          go_upto_region 23 with fail
          have hbN : Below W3.heap.size W3 (W3.alloc (.cells #[.int .i64 na, .int .i64 0, .int .i64 nc, .int .i64 ui, .int .i64 gi, .int .i64 ti, .int .i64 0, .int .i64 0, .int .i64 0, .int .i64 0, .int .i64 0, .int .i64 0, .int .i64 0] 57)).drew := ((Below.refl _ W3).alloc (Nat.le_refl _) _).drew
          have sw : SW w gx mb n m D g #[.string (bs path), .int .i64 kind, .int .i64 mo, .int .i64 ui, .int .i64 gi, .string (bs owner), .string (bs group), .int .i64 ti, .string (bs link), .slice Ad data.length capd] W3.heap.size #[.int .i64 na, .int .i64 0, .int .i64 nc, .int .i64 ui, .int .i64 gi, .int .i64 ti, .int .i64 0, .int .i64 0, .int .i64 0, .int .i64 0, .int .i64 0, .int .i64 0, .int .i64 0] _ (arcU l i) (W3.alloc (.cells #[.int .i64 na, .int .i64 0, .int .i64 nc, .int .i64 ui, .int .i64 gi, .int .i64 ti, .int .i64 0, .int .i64 0, .int .i64 0, .int .i64 0, .int .i64 0, .int .i64 0, .int .i64 0] 57)).drew := ⟨ws3.below hbN, bE3.below hbN bE3.lt, Blk.new W3 _ _, own_below hrow3 hbN, ws3.bel.size⟩
          clear ws3 bE3 hrow3 hbN d0 d1 d2 d3 d4 d5 d6 d7 d8 d9 k0 k1 k2 k3
          generalize (W3.alloc (.cells #[.int .i64 na, .int .i64 0, .int .i64 nc, .int .i64 ui, .int .i64 gi, .int .i64 ti, .int .i64 0, .int .i64 0, .int .i64 0, .int .i64 0, .int .i64 0, .int .i64 0, .int .i64 0] 57)).drew = W4 at sw ⊢
          generalize W3.heap.size = gN at sw ⊢
          obtain ⟨d0, d1, d2, d3, d4, d5, d6, d7, d8, d9⟩ := sw.be.cells10
          obtain ⟨e0, e1, e2, e3, e4, e5, e6, e7, e8, e9, e10, e11, e12⟩ := sw.bn.cells13
          obtain ⟨k0, k1, k2, k3, _⟩ := sw.ws.kn.at2 HKB.out HDP.out
          have hz0 := bd_max HBL.out (by omega)
          have hHW := sw.ws.bel.size
          by_cases h2 : kind = 2
          · have q2 : (kind == 2) = true := by simpa using h2
            obtain ⟨md, HMD⟩ : ∃ x, Hid (x = 16384 + mo) := ⟨_, Lib.hid rfl⟩
            have hmdl : md ≤ 4294967295 := by have := HMD.out; omega
            have hor : bits .or .i64 16384 (mo : Int) = (md : Int) := by rw [HMD.out, show ((16384 + mo : Nat) : Int) = 16384 + (mo : Int) by omega]; exact bits_or_low 14 1 mo (by omega) (by omega) (by omega) (by omega) (by omega)
            have HV : Hid (me = memB (numL na md 2 ui gi ti ([] : List UInt8).length (path.length + 1)) path []) := Lib.hid (by rw [HME.out, if_pos h2, HMD.out]; rfl)
            have f1 := sw.bn.frozen 1
            have sw1 := sw.poke 1 (.int .i64 md)
            have f2 := sw1.bn.frozen 2
            have g2 := sw1.bn.cell 2
            simp at g2
            have sw2 := sw1.poke 2 (.int .i64 2)
            clear HME h2 HLL
            go_upto_region 31 with fail
            have sw3 : SW w gx mb n m D g #[.string (bs path), .int .i64 kind, .int .i64 mo, .int .i64 ui, .int .i64 gi, .string (bs owner), .string (bs group), .int .i64 ti, .string (bs link), .slice Ad data.length capd] gN #[.int .i64 na, .int .i64 md, .int .i64 2, .int .i64 ui, .int .i64 gi, .int .i64 ti, .int .i64 0, .int .i64 0, .int .i64 0, .int .i64 0, .int .i64 0, .int .i64 0, .int .i64 0] u10 (arcU l i) ((W4.setCell ⟨gN, 1, none⟩ (.int .i64 md)).setCell ⟨gN, 2, none⟩ (.int .i64 2)) := sw2
            clear sw2 d0 d1 d2 d3 d4 d5 d6 d7 d8 d9 e0 e1 e2 e3 e4 e5 e6 e7 e8 e9 e10 e11 e12 k0 k1 k2 k3 hor
            generalize (W4.setCell ⟨gN, 1, none⟩ (.int .i64 md)).setCell ⟨gN, 2, none⟩ (.int .i64 2) = W5 at sw3 ⊢
            obtain ⟨d0, d1, d2, d3, d4, d5, d6, d7, d8, d9⟩ := sw3.be.cells10
            obtain ⟨e0, e1, e2, e3, e4, e5, e6, e7, e8, e9, e10, e11, e12⟩ := sw3.bn.cells13
            have hp0 := put_any W5 w.heap.size u10 (arcU l i) sw3.row sw3.ws.bel.size hz0 na md 2 ui gi ti (by omega) (by omega) (by omega) (by omega) (by omega) (by omega) path (by omega) (.slice none 0 0) [] (Sl.nil _ _ _ _) (by simp)
            go_wp2_with (go_at_call 25; refine hp0.mono ?_; rintro e W9 ⟨v9, rfl, hr9⟩)
            have ws9 := sw3.ws.row sw3.row hr9.kept
            have row9 := hr9.own
            have hme := HST.out
            rw [HV.out] at hme
            have HB9 : Hid ((arcU l (i + 1)).length ≤ (i + 1) * 400000) := Lib.hid (by rw [hme, List.length_append]; exact bd_step HBL.out (memB_le _ _ _ _ _ _ _ _ _ _ (by omega) (by simp)))
            rw [← hme] at row9
            clear hme hr9 sw3 hp0 d0 d1 d2 d3 d4 d5 d6 d7 d8 d9 e0 e1 e2 e3 e4 e5 e6 e7 e8 e9 e10 e11 e12
            go_roundg (l.length - (i + 1))
            case measure => omega
            case rel => exact ⟨i + 1, by omega, rfl, by first | (simp; done) | (simp; omega), ws9, row9, HB9⟩
          have q2 : (kind == 2) = false := by simpa using h2
          by_cases h3 : kind = 3
          · have q3 : (kind == 3) = true := by simpa using h3
            obtain ⟨md, HMD⟩ : ∃ x, Hid (x = 40960 + mo) := ⟨_, Lib.hid rfl⟩
            have hmdl : md ≤ 4294967295 := by have := HMD.out; omega
            have hor : bits .or .i64 40960 (mo : Int) = (md : Int) := by rw [HMD.out, show ((40960 + mo : Nat) : Int) = 40960 + (mo : Int) by omega]; exact bits_or_low 13 5 mo (by omega) (by omega) (by omega) (by omega) (by omega)
            have HV : Hid (me = memB (numL na md nc ui gi ti link.length (path.length + 1)) path link) := Lib.hid (by rw [HME.out, if_neg h2, if_pos h3, HMD.out, HLL.out (by omega) (by omega)])
            clear HME h2 HLL
            go_upto_region 30 with fail
            have swd := sw.below ((Below.refl _ W4).drew)
            obtain ⟨gc, cv, Wc, hcv, hbc, hgc, hsc⟩ := conv_sl2 (P := Tryd.prog) W4.drew 9 26 5 link Tryd.underlying9 Tryd.underlying26 Tryd.underlying5 (by omega)
            have swc := swd.below hbc
            have swcs := swc.poke 1 (.int .i64 md)
            have sws := swd.poke 1 (.int .i64 md)
            obtain ⟨gc2, cv2, Wc2, hcv2, hbc2, hgc2, hsc2⟩ := conv_sl2 (P := Tryd.prog) (W4.setCell ⟨gN, 1, none⟩ (.int .i64 md)).drew 9 26 5 link Tryd.underlying9 Tryd.underlying26 Tryd.underlying5 (by omega)
            have swB := (sw.poke 1 (.int .i64 md)).below ((Below.refl _ (W4.setCell ⟨gN, 1, none⟩ (.int .i64 md))).drew)
            have swsc := swB.below hbc2
            have KS : ∀ (cs : Array Value) (W : World), SW w gx mb n m D g #[.string (bs path), .int .i64 kind, .int .i64 mo, .int .i64 ui, .int .i64 gi, .string (bs owner), .string (bs group), .int .i64 ti, .string (bs link), .slice Ad data.length capd] gN cs u10 (arcU l i) W → W.cell? ⟨g, 2, none⟩ = some (.int .i64 mo) ∧ W.cell? ⟨g, 8, none⟩ = some (.string (bs link)) := fun cs W h => ⟨h.be.cells10.2.2.1, h.be.cells10.2.2.2.2.2.2.2.2.1⟩
            have e1d := swd.bn.cells13.2.1
            have f1d := swd.bn.frozen 1
            have e1c := swc.bn.cells13.2.1
            have f1c := swc.bn.frozen 1
            have hn1 : u10.ownBlock ≠ some gc := fun e => by have := (swd.row.lt _ e).2; omega
            have hn2 : u10.ownBlock ≠ some gc2 := fun e => by have := (swB.row.lt _ e).2; omega
            clear swB
            have hgC : gN ≠ gc := fun e => by have := swd.bn.lt; omega
            clear sw hgc hgc2
            refine wp_region_tree (fun W => W.cell? ⟨g, 2, none⟩ = some (.int .i64 mo) ∧ W.cell? ⟨g, 8, none⟩ = some (.string (bs link))) (.q 0 (.q 1 (.q 2 (.q 3 (.q 4 (.q 6 (.f 5 (.l 7 (.q 8 .nil)) 7 (.l 5 (.q 8 .nil))))))))) (by kernel_rfl) (by kernel_rfl) (KS _ _ swd) ?_
            iterate 6 (refine tree_q (v := ?_) rfl rfl (fun w' hw' => ?_) ?_; rotate_left; (focus (go_simp <;> with_reducible rfl)); simp only [Act.put, List.setIfInBounds_toArray, List.set_cons_zero, List.set_cons_succ])
            refine tree_f rfl rfl (fun K hK => ?_) rfl rfl (fun K hK => ?_)
            · go_simp
              refine hK _ _ (KS _ _ swc) ?_
              clear hK K
              (try simp only [Act.put, List.setIfInBounds_toArray, List.set_cons_zero, List.set_cons_succ])
              refine tree_l rfl rfl (fun K hK => ?_)
              go_simp
              refine hK _ _ (KS _ _ swcs) ?_
              clear hK K
              (try simp only [Act.put, List.setIfInBounds_toArray, List.set_cons_zero, List.set_cons_succ])
              refine tree_q (v := ?_) rfl rfl (fun w' hw' => ?_) ?_; rotate_left; (focus (go_simp <;> with_reducible rfl)); simp only [Act.put, List.setIfInBounds_toArray, List.set_cons_zero, List.set_cons_succ]
              refine tree_end ?_
              have h1 := (hsc (fun k => k = gN ∨ u10.ownBlock = some k) (fun h => h.elim (fun h => hgC h.symm) hn1)).keep good_byte (((Kept.refl (fun k => k = gN ∨ u10.ownBlock = some k) Wc).setCell (p := ⟨gN, 1, none⟩) (.int .i64 md) fun _ => .inl rfl))
              have hsl2 : Sl 1 Rbyte (fun k => u10.ownBlock = some k) (Wc.setCell ⟨gN, 1, none⟩ (.int .i64 md)) (.slice (some ⟨gc, 0, none⟩) link.length cv) link := h1.mono good_byte (by omega) fun k _ h => .inr h
              clear h1 hsc hsc2 swd swc sws swsc hcv hcv2 hbc hbc2 e1d f1d e1c f1c hn1 hn2 hgC KS
              have sw3 : SW w gx mb n m D g #[.string (bs path), .int .i64 kind, .int .i64 mo, .int .i64 ui, .int .i64 gi, .string (bs owner), .string (bs group), .int .i64 ti, .string (bs link), .slice Ad data.length capd] gN #[.int .i64 na, .int .i64 md, .int .i64 nc, .int .i64 ui, .int .i64 gi, .int .i64 ti, .int .i64 0, .int .i64 0, .int .i64 0, .int .i64 0, .int .i64 0, .int .i64 0, .int .i64 0] u10 (arcU l i) (Wc.setCell ⟨gN, 1, none⟩ (.int .i64 md)) := swcs
              clear swcs d0 d1 d2 d3 d4 d5 d6 d7 d8 d9 e0 e1 e2 e3 e4 e5 e6 e7 e8 e9 e10 e11 e12 k0 k1 k2 k3 hor
              generalize Wc.setCell ⟨gN, 1, none⟩ (.int .i64 md) = W5 at sw3 hsl2 ⊢
              obtain ⟨d0, d1, d2, d3, d4, d5, d6, d7, d8, d9⟩ := sw3.be.cells10
              obtain ⟨e0, e1, e2, e3, e4, e5, e6, e7, e8, e9, e10, e11, e12⟩ := sw3.bn.cells13
              have hp0 := put_any W5 w.heap.size u10 (arcU l i) sw3.row sw3.ws.bel.size hz0 na md nc ui gi ti (by omega) (by omega) (by omega) (by omega) (by omega) (by omega) path (by omega) (.slice (some ⟨gc, 0, none⟩) link.length cv) link hsl2 (by omega)
              go_wp2_with (go_at_call 25; refine hp0.mono ?_; rintro e W9 ⟨v9, rfl, hr9⟩)
              have ws9 := sw3.ws.row sw3.row hr9.kept
              have row9 := hr9.own
              have hme := HST.out
              rw [HV.out] at hme
              have HB9 : Hid ((arcU l (i + 1)).length ≤ (i + 1) * 400000) := Lib.hid (by rw [hme, List.length_append]; exact bd_step HBL.out (memB_le _ _ _ _ _ _ _ _ _ _ (by omega) (by omega)))
              rw [← hme] at row9
              clear hme hr9 sw3 hp0 d0 d1 d2 d3 d4 d5 d6 d7 d8 d9 e0 e1 e2 e3 e4 e5 e6 e7 e8 e9 e10 e11 e12
              go_roundg (l.length - (i + 1))
              case measure => omega
              case rel => exact ⟨i + 1, by omega, rfl, by first | (simp; done) | (simp; omega), ws9, row9, HB9⟩
            · go_simp
              refine hK _ _ (KS _ _ sws) ?_
              clear hK K
              (try simp only [Act.put, List.setIfInBounds_toArray, List.set_cons_zero, List.set_cons_succ])
              refine tree_l rfl rfl (fun K hK => ?_)
              go_simp
              refine hK _ _ (KS _ _ swsc) ?_
              clear hK K
              (try simp only [Act.put, List.setIfInBounds_toArray, List.set_cons_zero, List.set_cons_succ])
              refine tree_q (v := ?_) rfl rfl (fun w' hw' => ?_) ?_; rotate_left; (focus (go_simp <;> with_reducible rfl)); simp only [Act.put, List.setIfInBounds_toArray, List.set_cons_zero, List.set_cons_succ]
              refine tree_end ?_
              have hsl2 : Sl 1 Rbyte (fun k => u10.ownBlock = some k) Wc2 (.slice (some ⟨gc2, 0, none⟩) link.length cv2) link := hsc2 _ hn2
              clear hsc hsc2 swd swc sws swcs hcv hcv2 hbc hbc2 e1d f1d e1c f1c hn1 hn2 hgC KS
              have sw3 : SW w gx mb n m D g #[.string (bs path), .int .i64 kind, .int .i64 mo, .int .i64 ui, .int .i64 gi, .string (bs owner), .string (bs group), .int .i64 ti, .string (bs link), .slice Ad data.length capd] gN #[.int .i64 na, .int .i64 md, .int .i64 nc, .int .i64 ui, .int .i64 gi, .int .i64 ti, .int .i64 0, .int .i64 0, .int .i64 0, .int .i64 0, .int .i64 0, .int .i64 0, .int .i64 0] u10 (arcU l i) (Wc2) := swsc
              clear swsc d0 d1 d2 d3 d4 d5 d6 d7 d8 d9 e0 e1 e2 e3 e4 e5 e6 e7 e8 e9 e10 e11 e12 k0 k1 k2 k3 hor
              generalize Wc2 = W5 at sw3 hsl2 ⊢
              obtain ⟨d0, d1, d2, d3, d4, d5, d6, d7, d8, d9⟩ := sw3.be.cells10
              obtain ⟨e0, e1, e2, e3, e4, e5, e6, e7, e8, e9, e10, e11, e12⟩ := sw3.bn.cells13
              have hp0 := put_any W5 w.heap.size u10 (arcU l i) sw3.row sw3.ws.bel.size hz0 na md nc ui gi ti (by omega) (by omega) (by omega) (by omega) (by omega) (by omega) path (by omega) (.slice (some ⟨gc2, 0, none⟩) link.length cv2) link hsl2 (by omega)
              go_wp2_with (go_at_call 25; refine hp0.mono ?_; rintro e W9 ⟨v9, rfl, hr9⟩)
              have ws9 := sw3.ws.row sw3.row hr9.kept
              have row9 := hr9.own
              have hme := HST.out
              rw [HV.out] at hme
              have HB9 : Hid ((arcU l (i + 1)).length ≤ (i + 1) * 400000) := Lib.hid (by rw [hme, List.length_append]; exact bd_step HBL.out (memB_le _ _ _ _ _ _ _ _ _ _ (by omega) (by omega)))
              rw [← hme] at row9
              clear hme hr9 sw3 hp0 d0 d1 d2 d3 d4 d5 d6 d7 d8 d9 e0 e1 e2 e3 e4 e5 e6 e7 e8 e9 e10 e11 e12
              go_roundg (l.length - (i + 1))
              case measure => omega
              case rel => exact ⟨i + 1, by omega, rfl, by first | (simp; done) | (simp; omega), ws9, row9, HB9⟩
          have q3 : (kind == 3) = false := by simpa using h3
          obtain ⟨md, HMD⟩ : ∃ x, Hid (x = 32768 + mo) := ⟨_, Lib.hid rfl⟩
          have hmdl : md ≤ 4294967295 := by have := HMD.out; omega
          have hor : bits .or .i64 32768 (mo : Int) = (md : Int) := by rw [HMD.out, show ((32768 + mo : Nat) : Int) = 32768 + (mo : Int) by omega]; exact bits_or_low 15 1 mo (by omega) (by omega) (by omega) (by omega) (by omega)
          have HV0 : Hid (me = if nd = i then memB (numL na md nc ui gi ti f.data.length (path.length + 1)) path f.data else memB (numL na md nc ui gi ti 0 (path.length + 1)) path []) := Lib.hid (by rw [HME.out, if_neg h2, if_neg h3, HMD.out])
          have f1 := sw.bn.frozen 1
          have sw1 := sw.poke 1 (.int .i64 md)
          clear HME h2 h3 HLL
          go_upto_region 25 with fail
          have sw2 : SW w gx mb n m D g #[.string (bs path), .int .i64 kind, .int .i64 mo, .int .i64 ui, .int .i64 gi, .string (bs owner), .string (bs group), .int .i64 ti, .string (bs link), .slice Ad data.length capd] gN #[.int .i64 na, .int .i64 md, .int .i64 nc, .int .i64 ui, .int .i64 gi, .int .i64 ti, .int .i64 0, .int .i64 0, .int .i64 0, .int .i64 0, .int .i64 0, .int .i64 0, .int .i64 0] u10 (arcU l i) (W4.setCell ⟨gN, 1, none⟩ (.int .i64 md)) := sw1
          clear sw1 sw f1 hor d0 d1 d2 d3 d4 d5 d6 d7 d8 d9 e0 e1 e2 e3 e4 e5 e6 e7 e8 e9 e10 e11 e12 k0 k1 k2 k3
          generalize W4.setCell ⟨gN, 1, none⟩ (.int .i64 md) = W6 at sw2 ⊢
          obtain ⟨k0, k1, k2, k3, _⟩ := sw2.ws.kn.at2 HKB.out HDP.out
          by_cases hni : nd = i
          · have HV : Hid (me = memB (numL na md nc ui gi ti f.data.length (path.length + 1)) path f.data) := Lib.hid (by rw [HV0.out, if_pos hni])
            have hqi : ((i : Int) == (nd : Int)) = true := by rw [beq_iff_eq]; omega
            have hin : i = nd := hni.symm
            have hsl2 : Sl 1 Rbyte (fun k => u10.ownBlock = some k) W6 nv f.data := (hr4.keep good_byte (Kept.low sw2.ws.bel)).mono good_byte (by omega) fun k _ h => (sw2.row.lt k h).1
            clear hni HV0
            go_upto_region 31 with fail
            have sw3 : SW w gx mb n m D g #[.string (bs path), .int .i64 kind, .int .i64 mo, .int .i64 ui, .int .i64 gi, .string (bs owner), .string (bs group), .int .i64 ti, .string (bs link), .slice Ad data.length capd] gN #[.int .i64 na, .int .i64 md, .int .i64 nc, .int .i64 ui, .int .i64 gi, .int .i64 ti, .int .i64 0, .int .i64 0, .int .i64 0, .int .i64 0, .int .i64 0, .int .i64 0, .int .i64 0] u10 (arcU l i) (W6) := sw2
            clear sw2 k0 k1 k2 k3
            generalize W6 = W5 at sw3 hsl2 ⊢
            obtain ⟨d0, d1, d2, d3, d4, d5, d6, d7, d8, d9⟩ := sw3.be.cells10
            obtain ⟨e0, e1, e2, e3, e4, e5, e6, e7, e8, e9, e10, e11, e12⟩ := sw3.bn.cells13
            have hp0 := put_any W5 w.heap.size u10 (arcU l i) sw3.row sw3.ws.bel.size hz0 na md nc ui gi ti (by omega) (by omega) (by omega) (by omega) (by omega) (by omega) path (by omega) nv f.data hsl2 (by omega)
            go_wp2_with (go_at_call 25; refine hp0.mono ?_; rintro e W9 ⟨v9, rfl, hr9⟩)
            have ws9 := sw3.ws.row sw3.row hr9.kept
            have row9 := hr9.own
            have hme := HST.out
            rw [HV.out] at hme
            have HB9 : Hid ((arcU l (i + 1)).length ≤ (i + 1) * 400000) := Lib.hid (by rw [hme, List.length_append]; exact bd_step HBL.out (memB_le _ _ _ _ _ _ _ _ _ _ (by omega) HFB))
            rw [← hme] at row9
            clear hme hr9 sw3 hp0 d0 d1 d2 d3 d4 d5 d6 d7 d8 d9 e0 e1 e2 e3 e4 e5 e6 e7 e8 e9 e10 e11 e12
            go_roundg (l.length - (i + 1))
            case measure => omega
            case rel => exact ⟨i + 1, by omega, rfl, by first | (simp; done) | (simp; omega), ws9, row9, HB9⟩
          · have HV : Hid (me = memB (numL na md nc ui gi ti ([] : List UInt8).length (path.length + 1)) path []) := Lib.hid (by rw [HV0.out, if_neg hni]; rfl)
            have hqi : ((i : Int) == (nd : Int)) = false := by simp; omega
            have hin : ¬ i = nd := fun e => hni e.symm
            clear hni HV0
            go_upto_region 31 with fail
            have sw3 : SW w gx mb n m D g #[.string (bs path), .int .i64 kind, .int .i64 mo, .int .i64 ui, .int .i64 gi, .string (bs owner), .string (bs group), .int .i64 ti, .string (bs link), .slice Ad data.length capd] gN #[.int .i64 na, .int .i64 md, .int .i64 nc, .int .i64 ui, .int .i64 gi, .int .i64 ti, .int .i64 0, .int .i64 0, .int .i64 0, .int .i64 0, .int .i64 0, .int .i64 0, .int .i64 0] u10 (arcU l i) (W6) := sw2
            clear sw2 k0 k1 k2 k3
            generalize W6 = W5 at sw3 ⊢
            obtain ⟨d0, d1, d2, d3, d4, d5, d6, d7, d8, d9⟩ := sw3.be.cells10
            obtain ⟨e0, e1, e2, e3, e4, e5, e6, e7, e8, e9, e10, e11, e12⟩ := sw3.bn.cells13
            have hp0 := put_any W5 w.heap.size u10 (arcU l i) sw3.row sw3.ws.bel.size hz0 na md nc ui gi ti (by omega) (by omega) (by omega) (by omega) (by omega) (by omega) path (by omega) (.slice none 0 0) [] (Sl.nil _ _ _ _) (by simp)
            go_wp2_with (go_at_call 25; refine hp0.mono ?_; rintro e W9 ⟨v9, rfl, hr9⟩)
            have ws9 := sw3.ws.row sw3.row hr9.kept
            have row9 := hr9.own
            have hme := HST.out
            rw [HV.out] at hme
            have HB9 : Hid ((arcU l (i + 1)).length ≤ (i + 1) * 400000) := Lib.hid (by rw [hme, List.length_append]; exact bd_step HBL.out (memB_le _ _ _ _ _ _ _ _ _ _ (by omega) (by simp)))
            rw [← hme] at row9
            clear hme hr9 sw3 hp0 d0 d1 d2 d3 d4 d5 d6 d7 d8 d9 e0 e1 e2 e3 e4 e5 e6 e7 e8 e9 e10 e11 e12
            go_roundg (l.length - (i + 1))
            case measure => omega
            case rel => exact ⟨i + 1, by omega, rfl, by first | (simp; done) | (simp; omega), ws9, row9, HB9⟩
        · have hke : i = l.length := by omega
          subst hke
          have hz0 := bd_max HBL.out (by omega)
          have hp0 : Calls Tryd.prog 25 #[u10, .agg #[.int .i64 0, .int .i64 0, .int .i64 1, .int .i64 0, .int .i64 0, .int .i64 0, .int .i64 0, .int .i64 0, .int .i64 0, .int .i64 0, .int .i64 0, .int .i64 0, .int .i64 0], .string ⟨#[84, 82, 65, 73, 76, 69, 82, 33, 33, 33]⟩, .slice none 0 0] wr fun e w' => ∃ v', e = .returned v' ∧ Row8 wr u10.ownBlock w.heap.size 5 w' v' (arcU l l.length ++ trailM) :=
            put_any wr w.heap.size u10 (arcU l l.length) hrow ws.bel.size hz0 0 0 1 0 0 0 (by omega) (by omega) (by omega) (by omega) (by omega) (by omega) trailL (by decide) (.slice none 0 0) [] (Sl.nil _ _ _ _) (by simp)
          go_wp2_with (go_at_call 25; refine hp0.mono ?_; rintro e W9 ⟨v9, rfl, hr9⟩)
          have hb9 := (ws.row hrow hr9.kept).bel
          have row9 := hr9.own
          clear hp0 ws hrow hr9
          go_ret2
          refine ⟨_, by rw [HC.out]; rfl, hb9, ?_⟩
          rw [HC.out, if_pos rfl]
          exact row9
end Go.Proofs.YtolknddegfcmpaaDoor
