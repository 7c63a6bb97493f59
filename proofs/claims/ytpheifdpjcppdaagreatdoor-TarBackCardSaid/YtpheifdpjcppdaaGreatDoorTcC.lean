/- The law TarBack. -/
import Derived.Test.YtpheifdpjcppdaaGreatDoorTcB
import Derived.Test.YtpheifdpjcppdaaGreatDoorEoF
namespace Go.Proofs.YtpheifdpjcppdaaGreatDoor
open Go.RowKit
theorem sl_re {X Y : Nat → Prop} {w : World} {v : Value} {d : List UInt8} (h : Sl 1 Rbyte X w v d) (hY : d ≠ [] → ∀ bb, v.ownBlock = some bb → ¬ Y bb) : Sl 1 Rbyte Y w v d := by
  obtain ⟨A, cap, rfl, h1, h2, h3, h4, h5⟩ := h
  refine ⟨A, cap, rfl, h1, h2, h3, fun hne => ?_, h5⟩
  obtain ⟨b, off, hA, _, hc⟩ := h4 hne
  subst hA
  exact ⟨b, off, rfl, hY hne b rfl, hc⟩
theorem sl_off_own {X : Nat → Prop} {w : World} {v : Value} {d : List UInt8} (h : Sl 1 Rbyte (fun k => X k) w v d) (hd : d ≠ []) {bb : Nat} (hbb : v.ownBlock = some bb) : ¬ X bb := by
  obtain ⟨A, cap, rfl, h1, h2, h3, h4, h5⟩ := h
  obtain ⟨b, off, hA, hX, _⟩ := h4 hd
  subst hA
  have : b = bb := Option.some.inj hbb
  subst this
  exact hX
theorem EO.slY {B : Nat} {w : World} {v : Value} {l : List En} {f : Nat → Value} (h : EO B w v l f) {Y : Nat → Prop} (hv : ∀ k, v.ownBlock = some k → ¬ Y k) (hf : ∀ j, j < l.length → ∀ bb, (f j).ownBlock = some bb → ¬ Y bb) : Sl 10 Rent Y w v l := by
  have : OwnL 10 Rent tE B Y w v l := by
    refine ⟨List.ofFn fun j : Fin l.length => entC l[j] (f j), h.row, by simp, hv, fun j hj h' => ?_⟩
    exact ⟨f j, by simp, sl_re (h.dat j hj) fun hne bb hbb hm => hm.elim (hf j hj bb hbb) (sl_off_own (h.dat j hj) hne hbb)⟩
  exact this.sl good_ent
theorem back_err {s : Nat} {l : List En} (hs : s < 3) (he : tarErr (s : Int) l ≠ 0) (hc : (chkL l).2 = 0) : s = 0 ∧ tarErr (s : Int) l = 10 := by
  have hb : badSt (s : Int) = false := by
    simp only [badSt, Bool.or_eq_false_iff, decide_eq_false_iff_not]
    omega
  unfold tarErr at he ⊢
  rw [hb, if_neg (by decide), if_neg (fun h => h hc)] at he ⊢
  cases ha : l.any (badT (s : Int).toNat) with
  | false => rw [ha, if_neg (by decide)] at he; exact absurd rfl he
  | true =>
    refine ⟨?_, by rw [if_pos rfl]⟩
    obtain ⟨e, _, h⟩ := List.any_eq_true.1 ha
    rw [badT, Bool.and_eq_true, decide_eq_true_iff, Int.toNat_natCast] at h
    exact h.1
theorem out_pos {st : Int} {l : List En} (he : tarErr st l = 0) : 0 < (tarOut st l).length := by
  rw [out_is he, List.length_append, List.length_replicate]; omega
set_option maxRecDepth 20000 in
set_option maxHeartbeats 16000000 in
theorem law_tarback (v : Value) (l : List En) (v2 : Value) (bh : List UInt8) (w : World) (hsl : Sl 10 Rent nowhere w v l) (hsb : Sl 1 Rbyte nowhere w v2 bh) (hT : Tab w) (hD : Deb w) :
    Calls Tryz.prog 5 #[v, v2] w fun r w' => r = .returned (.bool true) ∧ Below w.heap.size w w' := by
  obtain ⟨A, cap, rfl, hc1, hc2⟩ := hsl.form
  obtain ⟨Ab, capb, rfl, hcb1, hcb2⟩ := hsb.form
  unfold maxLen at hcb2
  have HT := Lib.hid (fun W (hb : Below w.heap.size w W) => (⟨hT.below hb, hD.below hb⟩ : Tab W ∧ Deb W))
  have haw := awakeT w hD hT
  clear hT hD
  go_enter Tryz.func5, Tryz.ntmps5
  go_wp2_with fail
  refine (haw).mono ?_
  rintro e w1 ⟨rfl, hb1⟩
  have hs1 := Below.sl good_ent hb1 hsl
  clear haw
  go_wp2_with fail
  refine (rlight_any l 12 _ nowhere _ hs1 (by omega)).mono ?_
  rintro e w2 ⟨rfl, hb2⟩
  have hs2 := Below.sl good_ent hb2 hs1
  have q2 := hb1.trans (hb2.mono hb1.size)
  have hsb2 := Below.sl good_byte q2 hsb
  clear hsl hs1 hb1 hb2 hsb
  cases hlt : lightE 12 l with
  | false =>
    clear hlt
    go_wp2_with fail
    go_ret
    exact ⟨rfl, q2⟩
  | true =>
    obtain ⟨hLB, hln⟩ := light_lb12 hlt
    have HLT := Lib.hid hlt
    clear hlt
    by_cases hbl : 2000 < bh.length
    · have t1 : decide ((2000 : Int) < (bh.length : Int)) = true := decide_eq_true (by omega)
      have t1b : decide (2000 < bh.length) = true := decide_eq_true hbl
      clear hbl
      go_wp2_with fail
      go_ret
      exact ⟨rfl, q2⟩
    have t1 : decide ((2000 : Int) < (bh.length : Int)) = false := decide_eq_false (by omega)
    have t1b : decide (2000 < bh.length) = false := decide_eq_false hbl
    have hck := rchkall_any l _ nowhere w2 hs2 hLB
    obtain ⟨c2, HC2⟩ : ∃ c, Hid ((chkL l).2 = c) := ⟨_, Lib.hid rfl⟩
    rw [HC2.out] at hck
    generalize (chkL l).1 = c1 at hck
    go_upto_region 6 with (go_at_call 14; refine hck.mono ?_; rintro r w3 ⟨rfl, hb3⟩; clear hck)
    have hs3 := Below.sl good_ent hb3 hs2
    have hsb3 := Below.sl good_byte hb3 hsb2
    have q3 := q2.trans (hb3.mono q2.size)
    have HWR := Lib.hid (fun (s : Nat) (W : World) (hq : Below w.heap.size w W) (h : Sl 10 Rent nowhere W (.slice A l.length cap) l) => twrite_any (s : Int) l _ nowhere W h hLB hln (HT.out W hq).2 (HT.out W hq).1)
    have HER := Lib.hid (fun (s : Nat) (hs : s < 3) (he : tarErr (s : Int) l ≠ 0) (hc : c2 = 0) => back_err (l := l) hs he (HC2.out.trans hc))
    have HOL := Lib.hid (fun (s : Nat) (he : tarErr (s : Int) l = 0) => (⟨out_pos he, out_le HLT.out he, back_readT he bh⟩ : 0 < (tarOut (s : Int) l).length ∧ (tarOut (s : Int) l).length ≤ 200000 ∧ readA (runT (tarOut (s : Int) l ++ bh) ((tarOut (s : Int) l ++ bh).length + 1) (fun _ => none) 0 [] [] 0) = (l, 0, 0)))
    have hln2 := hln
    clear HT hb3 hs2 hsb2 q2 hLB HLT HC2 hln
    go_wp2_with fail
    go_loopg [7] 3 (fun G s7 wr => ∃ s : Nat, s ≤ 3 ∧ G = 3 - s ∧ s7 = .int .i64 s ∧ Below w3.heap.size w3 wr)
    case atStart => exact ⟨0, by omega, rfl, rfl, Below.refl _ _⟩
    case round =>
      obtain ⟨s, hs3', rfl, rfl, hbw⟩ := hrel
      obtain ⟨wo, hwo⟩ : ∃ x, x = wr := ⟨wr, rfl⟩
      subst hwo
      by_cases hlt : s < 3
      · have i1 : decide ((s : Int) < 3) = true := decide_eq_true (by omega)
        have i1b : decide (s < 3) = true := decide_eq_true hlt
        have wk : IntKind.i64.wrap ((s : Int) + 1) = (s : Int) + 1 := i64_in _ (by omega) (by omega)
        have hsW := Below.sl good_ent hbw hs3
        have hsbW := Below.sl good_byte hbw hsb3
        have qw := q3.trans (hbw.mono q3.size)
        have hwr := HWR.out s wo qw hsW
        have hsH : Sl 10 Rent (fun k => wo.heap.size ≤ k) wo (.slice A l.length cap) l := hsW.mono good_ent (by omega) fun k hk h => absurd h (by omega)
        have HER1 := Lib.hid (HER.out s hlt)
        have HOL1 := Lib.hid (HOL.out s)
        obtain ⟨ce, HCE⟩ : ∃ c, Hid (tarErr (s : Int) l = c) := ⟨_, Lib.hid rfl⟩
        rw [HCE.out] at hwr HER1 HOL1
        generalize tarOut (s : Int) l = ab at hwr HOL1
        clear hsW HER HOL HWR HCE
        go_upto_region 10 with (go_at_call 9; refine hwr.mono ?_; clear hwr; rintro e w4 ⟨v4, rfl, hr4⟩)
        have hb4 : Below wo.heap.size wo w4 := hr4.bel fun _ h => by cases h
        have q4 := qw.trans (hb4.mono qw.size)
        by_cases hce : ce = 0
        rotate_left
        · have t2 : (ce != 0) = true := by simpa using hce
          have hB4 := hbw.trans (hb4.mono hbw.size)
          by_cases hc0 : c2 = 0
          · obtain ⟨hs0, hce10⟩ := HER1.out hce hc0
            have t3 : (c2 == 0) = true := by simpa using hc0
            have t4 : decide ((0 : Int) < (s : Int)) = false := decide_eq_false (by omega)
            have t4b : decide (0 < s) = false := decide_eq_false (by omega)
            have t5 : (ce != 10) = false := by rw [hce10]; rfl
            clear hc0 hs0 hce10 HER1 HOL1 hce hr4
            go_wp2_with fail
            go_roundg (3 - (s + 1))
            case measure => omega
            case rel => exact ⟨s + 1, by omega, rfl, by first | (simp; done) | (simp; omega), hB4⟩
          · have t3 : (c2 == 0) = false := by simpa using hc0
            clear hc0 HER1 HOL1 hce hr4
            go_wp2_with fail
            go_roundg (3 - (s + 1))
            case measure => omega
            case rel => exact ⟨s + 1, by omega, rfl, by first | (simp; done) | (simp; omega), hB4⟩
        · subst hce
          have t2 : ((0 : Int) != 0) = false := rfl
          obtain ⟨hsm1, hsm2, hrb⟩ := HOL1.out rfl
          have ho4 := hr4.own
          have hlo : ∀ k, v4.ownBlock = some k → wo.heap.size ≤ k := fun k hk => (ho4.lt k hk).1
          have hr4' := Row8.first ho4 (by have := hb4.size; omega)
          have hsb4 := Below.sl good_byte hb4 hsbW
          have hsbb := hsb4.sb8
          clear HER1 HOL1 hr4 ho4 hsbW
          obtain ⟨A4, c4, rfl⟩ := own_form hr4'.own
          go_upto_region 14 with (at_builtin; refine wpList_row_bytes rfl _ _ 25 rfl Tryz.underlying25 u8info rfl hr4' _ _ _ bh rfl hsbb (by omega) ?_; intro v5 w5 hr5; obtain ⟨A5, c5, rfl⟩ := own_form hr5.own)
          have hbel5 : Below wo.heap.size wo w5 := hb4.trans (hr5.bel hlo)
          have ho5 := hr5.own
          have q5 : Below w.heap.size w w5 := qw.trans (hbel5.mono qw.size)
          obtain ⟨xs, HXS⟩ : ∃ x, Hid (ab ++ bh = x) := ⟨_, Lib.hid rfl⟩
          have hxl : xs.length ≤ 400000 ∧ 0 < xs.length := by rw [← HXS.out, List.length_append]; omega
          rw [HXS.out] at ho5 hrb
          have hlx : (ab ++ bh).length = xs.length := by rw [HXS.out]
          obtain ⟨nx, HNX⟩ : ∃ n, Hid (xs.length = n) := ⟨_, Lib.hid rfl⟩
          rw [HNX.out] at ho5 hlx hxl
          have hlx2 : ab.length + bh.length = nx := by rw [← hlx, List.length_append]
          clear hr4' hr5 hsbb hlo hsm1 hsm2 hb4 q4 hsb4
          obtain ⟨gx, hA5⟩ : ∃ gx, A5 = some ⟨gx, 0, none⟩ := by
            rcases ho5.2 with ⟨h0, hn0⟩ | ⟨g, cap, cur, h, _⟩
            · omega
            · injection h with h1; exact ⟨g, h1⟩
          subst hA5
          have hrd := tread_any (.slice (some ⟨gx, 0, none⟩) nx c5) xs nowhere w5 (by
            have h := ho5
            rw [← HNX.out] at h ⊢
            exact own_sl8 h) (by rw [HNX.out]; omega)
          rw [hrb] at hrd
          rw [hlx2]
          clear hrb
          have hgxr : wo.heap.size ≤ gx := (ho5.lt gx rfl).1
          have hgx0 : w.heap.size ≤ gx := Nat.le_trans qw.size hgxr
          have hgx3 : w3.heap.size ≤ gx := Nat.le_trans hbw.size hgxr
          have hgx5 : gx < w5.heap.size := (ho5.lt gx rfl).2
          go_upto_region 15 with (go_at_call 11; refine hrd.mono ?_; rintro r w6 ⟨⟨v6, f6, rfl, he6, hf6⟩, hb6⟩; clear hrd; obtain ⟨A6, c6, rfl⟩ := own_form he6.row)
          have hb7 := hb6.alloc hb6.size (.cells #[.string ⟨#[]⟩, .int .i64 0, .int .i64 0] 31)
          have hbA := (Below.refl w6.heap.size w6).alloc (Nat.le_refl _) (.cells #[.string ⟨#[]⟩, .int .i64 0, .int .i64 0] 31)
          have bF := Blk.new w6 31 #[.string ⟨#[]⟩, .int .i64 0, .int .i64 0]
          have hslk : Sl 10 Rent (fun k => k = gx) w6 (.slice A6 l.length c6) l := he6.slY (fun k hk e => by have := (he6.row.lt k hk).1; omega) (fun j hj bb hbb e => by have := hf6 j hj bb hbb; omega)
          have hslk := Below.sl good_ent hbA hslk
          have ho7 := own_below ho5 hb7
          have hbel7 : Below wo.heap.size wo (w6.alloc (.cells #[.string ⟨#[]⟩, .int .i64 0, .int .i64 0] 31)) := hbel5.trans (hb7.mono hbel5.size)
          have hslb := hsH.keep good_ent (Kept.low hbel7)
          have hB7 := hbw.trans (hbel7.mono hbw.size)
          have hgF : gx ≠ w6.heap.size := fun e => by have := hb6.size; omega
          clear hb7 hbA he6 hf6 hb6 ho5 hbel5 hsH q5 hbel7 qw hbw
          generalize w6.alloc (.cells #[.string ⟨#[]⟩, .int .i64 0, .int .i64 0] 31) = w7 at bF hslk ho7 hslb hB7 ⊢
          generalize w6.heap.size = gF at bF hgF ⊢
          go_upto_region 16 with fail
          go_loopg [12] nx (fun G s12 wr => ∃ (k : Nat) (ys : List UInt8), k ≤ nx ∧ G = nx - k ∧ s12 = .int .i64 k ∧ Kept (fun i => i = gx) w7 wr ∧ Hid (ys.length = nx) ∧ wr.ownsRow wo.heap.size 5 1 (.slice (some ⟨gx, 0, none⟩) nx c5) nx (bvs ys))
          case atStart => exact ⟨0, xs, Nat.zero_le _, rfl, rfl, Kept.refl _ _, HNX, ho7⟩
          case round =>
            clear ho7
            obtain ⟨k, ys, hk, rfl, rfl, hkp, HYS, ho⟩ := hrel
            by_cases hkt : k < nx
            · have j1 : (0 : Int) ≤ (k : Int) := by omega
              have j2 : (k : Int) < (nx : Int) := by omega
              have tk : decide ((k : Int) < (nx : Int)) = true := decide_eq_true j2
              have tkb : decide (k < nx) = true := decide_eq_true hkt
              obtain ⟨k1, HK1⟩ : ∃ x, Hid (x = k + 1) := ⟨_, Lib.hid rfl⟩
              have wk1 : IntKind.i64.wrap ((k : Int) + 1) = (k1 : Int) := by rw [i64_in _ (by omega) (by omega), HK1.out]; omega
              have hc := ho.cellAt k (by omega)
              have hbv : (bvs ys)[k]? = some (.int .u8 ((ys[k]'(by rw [HYS.out]; exact hkt)).toNat : Int)) := by
                simp [bvs, show k < ys.length by rw [HYS.out]; exact hkt]
                rfl
              rw [hbv] at hc
              generalize ((ys[k]'(by rw [HYS.out]; exact hkt)).toNat : Int) = yk at hc
              have hfz : wr.frozen? ⟨gx, k, none⟩ = false := by
                have h := ho
                rw [← HYS.out] at h
                have := (own_sl8 h).free k (by rw [HYS.out]; omega)
                simpa using this
              have ho' := own_set ho k (.int .u8 7)
              rw [show (Value.int .u8 7) = .int .u8 ((7 : UInt8).toNat : Int) from rfl, bvs_set] at ho'
              have hkp' : Kept (fun i => i = gx) w7 (wr.setCell ⟨gx, k, none⟩ (.int .u8 7)) := hkp.setCell _ fun _ => rfl
              have HYS2 : Hid ((ys.set k 7).length = nx) := Lib.hid (by rw [List.length_set]; exact HYS.out)
              clear hbv hkp ho
              go_wp2_with fail
              go_roundg (nx - (k + 1))
              case measure => omega
              case rel => exact ⟨k + 1, ys.set k 7, by omega, rfl, by have := HK1.out; first | (simp; done) | (simp; omega) | (subst this; rfl), hkp', HYS2, ho'⟩
            · have tk : decide ((k : Int) < (nx : Int)) = false := decide_eq_false (by omega)
              have tkb : decide (k < nx) = false := decide_eq_false (by omega)
              have hs8 := hslk.keep good_ent hkp
              have hsb8 := hslb.keep good_ent (hkp.mono fun i _ e => by rw [e]; exact hgxr)
              have bF8 := hkp.blk bF (fun e => hgF e.symm)
              have hB8 : Below w3.heap.size w3 wr := hB7.trans (hkp.below (B := w3.heap.size) hB7.size fun i _ e => by rw [e]; exact hgx3)
              have hsm := rsame_any l l _ _ (fun k => k = gx) (fun k => wo.heap.size ≤ k) wr hs8 hsb8 (by omega)
              rw [sameL_self] at hsm
              have k0 := bF8.cell 0
              have k1 := bF8.cell 1
              have k2 := bF8.cell 2
              simp at k0 k1 k2
              clear hslk hslb bF hkp ho hs8 hsb8
              go_wp2_with (go_at_call 13; refine hsm.mono ?_; rintro r w9 ⟨rfl, hb9⟩; clear hsm)
              go_roundg (3 - (s + 1))
              case measure => omega
              case rel => exact ⟨s + 1, by omega, rfl, by first | (simp; done) | (simp; omega), hB8.trans (hb9.mono hB8.size)⟩
      · have i1 : decide ((s : Int) < 3) = false := decide_eq_false (by omega)
        have i1b : decide (s < 3) = false := decide_eq_false hlt
        have qw := q3.trans (hbw.mono q3.size)
        go_wp2_with fail
        go_ret
        exact ⟨rfl, qw⟩
end Go.Proofs.YtpheifdpjcppdaaGreatDoor
