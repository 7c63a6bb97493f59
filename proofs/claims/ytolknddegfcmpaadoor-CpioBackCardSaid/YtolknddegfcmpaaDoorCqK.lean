/- The law CpioBack. -/
import Derived.Test.YtolknddegfcmpaaDoorCqB
import Derived.Test.YtolknddegfcmpaaDoorCqI
import Derived.Test.YtolknddegfcmpaaDoorCpXY
import Derived.Test.YtolknddegfcmpaaDoorEoF
namespace Go.Proofs.YtolknddegfcmpaaDoor
open Go.RowKit
theorem sl_re {X Y : Nat → Prop} {w : World} {v : Value} {d : List UInt8} (h : Sl 1 Rbyte X w v d) (hY : d ≠ [] → ∀ bb, v.ownBlock = some bb → ¬ Y bb) : Sl 1 Rbyte Y w v d := by
  obtain ⟨A, cap, rfl, h1, h2, h3, h4, h5⟩ := h
  refine ⟨A, cap, rfl, h1, h2, h3, fun hne => ?_, h5⟩
  obtain ⟨b, off, hA, _, hc⟩ := h4 hne
  subst hA
  exact ⟨b, off, rfl, hY hne b rfl, hc⟩
theorem sl_off_own {X : Nat → Prop} {w : World} {v : Value} {d : List UInt8} (h : Sl 1 Rbyte (fun k => X k) w v d) (hd : d ≠ []) {bb : Nat} (hbb : v.ownBlock = some bb) : ¬ X bb := by
  obtain ⟨A, cap, rfl, h1, h2, h3, h4, h5⟩ := h
  obtain ⟨b, off, hA, hX, _⟩ := h4 hd
  subst hA
  have : b = bb := Option.some.inj hbb
  subst this
  exact hX
theorem EO.slY {B : Nat} {w : World} {v : Value} {l : List En} {f : Nat → Value} (h : EO B w v l f) {Y : Nat → Prop} (hv : ∀ k, v.ownBlock = some k → ¬ Y k) (hf : ∀ j, j < l.length → ∀ bb, (f j).ownBlock = some bb → ¬ Y bb) : Sl 10 Rent Y w v l := by
  have : OwnL 10 Rent tE B Y w v l := by
    refine ⟨List.ofFn fun j : Fin l.length => entC l[j] (f j), h.row, by simp, hv, fun j hj h' => ?_⟩
    exact ⟨f j, by simp, sl_re (h.dat j hj) fun hne bb hbb hm => hm.elim (hf j hj bb hbb) (sl_off_own (h.dat j hj) hne hbb)⟩
  exact this.sl good_ent
theorem memB_small (ns : List Nat) (h : ns.length = 13) (name data : List UInt8) (h1 : name.length ≤ 4000) (h2 : data.length ≤ 4000) : (memB ns name data).length ≤ 8200 := by
  have := memB_len ns h name data
  have := fil_lt (111 + name.length)
  have := fil_lt data.length
  omega
theorem bd82 {a b i : Nat} (h : a ≤ i * 8200) (hb : b ≤ 8200) : a + b ≤ (i + 1) * 8200 := by omega
theorem bd82m {a i : Nat} (h : a ≤ i * 8200) (hi : i ≤ 20) : a ≤ 164000 := by omega
theorem arcU_small {l : List En} (h : ∀ e ∈ l, e.path.length ≤ 4000 ∧ e.link.length ≤ 4000 ∧ e.data.length ≤ 4000) : ∀ i, (arcU l i).length ≤ i * 8200
  | 0 => by simp [arcU]
  | i + 1 => by
    have ih := arcU_small h i
    rw [arcU, List.length_append]
    split
    · rename_i e f he hf
      have he2 := h e (List.mem_of_getElem? he)
      have hf2 := h f (List.mem_of_getElem? hf)
      rw [memE_row]
      have : (rowE l i e f).2.2.length ≤ 4000 := by
        unfold rowE
        split
        · simp
        split
        · exact he2.2.1
        · simp only
          split
          · exact hf2.2.2
          · simp
      exact bd82 ih (memB_small (nsE l i (whereE l (nmE e)) e f) rfl e.path (rowE l i e f).2.2 he2.1 this)
    · exact bd82 ih (Nat.zero_le _)
theorem arcB_small {l : List En} (hl : l.length ≤ 20) (h : ∀ e ∈ l, e.path.length ≤ 4000 ∧ e.link.length ≤ 4000 ∧ e.data.length ≤ 4000) : 0 < (arcB l).length ∧ (arcB l).length ≤ 200000 := by
  have h1 := bd82m (arcU_small h l.length) hl
  have h2 := memB_small (numL 0 0 1 0 0 0 0 11) rfl trailL [] (by simp [trailL]) (by simp)
  have h3 := memB_len (numL 0 0 1 0 0 0 0 11) rfl trailL []
  rw [arcB, List.length_append, trailM]
  omega
/-- What is wrong with entries that have no owners' names and times that may be. -/
theorem cp_bare {l : List En} (h : ∀ e ∈ l, e.owner = [] ∧ e.group = [] ∧ e.mtime ≤ 4294967295) (hc : cpErr l ≠ 0) : ((chkL l).2 ≠ 0 ∧ cpErr l = (chkL l).2) ∨ ((chkL l).2 = 0 ∧ l.any isTrail = true) := by
  unfold cpErr at hc ⊢
  by_cases h1 : (chkL l).2 = 0
  · rw [if_neg (fun h => h h1)] at hc
    have n1 : ¬ l.any named = true := fun hh => by
      obtain ⟨e, he, hn⟩ := List.any_eq_true.1 hh
      obtain ⟨a, b, _⟩ := h e he
      simp [named, a, b] at hn
    have n2 : ¬ l.any late = true := fun hh => by
      obtain ⟨e, he, hn⟩ := List.any_eq_true.1 hh
      have := (h e he).2.2
      simp only [late, decide_eq_true_iff] at hn
      omega
    rw [if_neg n1, if_neg n2] at hc
    refine .inr ⟨h1, ?_⟩
    cases hq : l.any isTrail with
    | true => rfl
    | false => rw [hq] at hc; exact absurd rfl hc
  · exact .inl ⟨h1, by rw [if_pos h1]⟩
theorem bvs_set (ys : List UInt8) (k : Nat) (u : UInt8) : (bvs ys).set k (.int .u8 (u.toNat : Int)) = bvs (ys.set k u) := by
  induction ys generalizing k with
  | nil => rfl
  | cons y ys ih =>
    cases k with
    | zero => rfl
    | succ k => exact congrArg (Value.int .u8 (y.toNat : Int) :: ·) (ih k)
set_option maxRecDepth 20000 in
set_option maxHeartbeats 16000000 in
theorem law_back (v : Value) (l : List En) (v2 : Value) (bh : List UInt8) (w : World) (hsl : Sl 10 Rent nowhere w v l) (hsb : Sl 1 Rbyte nowhere w v2 bh) :
    Calls Tryd.prog 5 #[v, v2] w fun r w' => r = .returned (.bool true) ∧ Below w.heap.size w w' := by
  obtain ⟨A, cap, rfl, hc1, hc2⟩ := hsl.form
  obtain ⟨Ab, capb, rfl, hcb1, hcb2⟩ := hsb.form
  unfold maxLen at hcb2
  go_enter Tryd.func5, Tryd.ntmps5
  go_wp2_with fail
  refine (awakeC _).mono ?_
  rintro e w1 ⟨rfl, hb1⟩
  have hs1 := Below.sl good_ent hb1 hsl
  go_wp2_with fail
  refine (rlight_any l 20 _ nowhere _ hs1 (by omega)).mono ?_
  rintro e w2 ⟨rfl, hb2⟩
  have hs2 := Below.sl good_ent hb2 hs1
  have q2 := hb1.trans (hb2.mono hb1.size)
  have hsb2 := Below.sl good_byte q2 hsb
  clear hsl hs1 hb1 hb2 hsb
  cases hlt : lightE 20 l with
  | false =>
    clear hlt
    go_wp2_with fail
    go_ret
    exact ⟨rfl, q2⟩
  | true =>
    have HLT := Lib.hid hlt
    clear hlt
    by_cases hbl : 2000 < bh.length
    · have t1 : decide ((2000 : Int) < (bh.length : Int)) = true := decide_eq_true (by omega)
      have t1b : decide (2000 < bh.length) = true := decide_eq_true hbl
      clear hbl
      go_wp2_with fail
      go_ret
      exact ⟨rfl, q2⟩
    have t1 : decide ((2000 : Int) < (bh.length : Int)) = false := decide_eq_false (by omega)
    have t1b : decide (2000 < bh.length) = false := decide_eq_false hbl
    obtain ⟨h20, hsz⟩ := light_eb 20 l HLT.out
    go_upto_region 6 with (go_at_call 9; refine (bare_any l _ nowhere _ hs2 (by omega)).mono ?_; rintro e w3 ⟨⟨v3, f3, rfl, he3⟩, hb3⟩; obtain ⟨A3, c3, rfl⟩ := own_form he3.row)
    have hsW := he3.sl
    rw [List.length_map] at hsW
    have q3 := q2.trans (hb3.mono q2.size)
    have hsb3 := Below.sl good_byte hb3 hsb2
    have hB : ∀ e ∈ l.map bareE, (e.owner = [] ∧ e.group = [] ∧ e.mtime ≤ 4294967295) ∧ e.path.length ≤ 4000 ∧ e.link.length ≤ 4000 ∧ e.data.length ≤ 4000 := fun e he => by
      obtain ⟨x, hx, rfl⟩ := List.mem_map.1 he
      obtain ⟨s1, s2, _, _, s5⟩ := hsz x hx
      refine ⟨⟨rfl, rfl, ?_⟩, s1, s2, s5⟩
      simp only [bareE]
      split <;> omega
    have hLB : LB (l.map bareE) := ⟨by rw [List.length_map]; omega, fun e he => by
      obtain ⟨⟨a, b, _⟩, s1, s2, _⟩ := hB e he
      exact ⟨by omega, by rw [a]; simp, by rw [b]; simp, by omega⟩⟩
    have hSm : SmallL (l.map bareE) := ⟨by rw [List.length_map]; omega, fun e he => by obtain ⟨_, s1, s2, s3⟩ := hB e he; exact ⟨by omega, by omega, by omega⟩⟩
    obtain ⟨ln, HLN⟩ : ∃ n, Hid (l.length = n) := ⟨_, Lib.hid rfl⟩
    have hl2 : (l.map bareE).length = ln := by rw [List.length_map]; exact HLN.out
    have hl20 : ln ≤ 20 := by rw [← HLN.out]; exact h20
    rw [HLN.out] at hsW ⊢
    clear he3 hb3 hs2 HLT hsz q2 hsb2 h20 HLN
    generalize l.map bareE = l' at hsW hLB hSm hB hl2 ⊢
    have hcpb := cp_bare (fun e he => (hB e he).1)
    have hbk := fun h => back_read (l := l') h bh
    have hsm := arcB_small (by omega) (fun e he => (hB e he).2)
    have hsH : Sl 10 Rent (fun k => w3.heap.size ≤ k) w3 (.slice A3 ln c3) l' := hsW.mono good_ent (by omega) fun k hk h => absurd h (by omega)
    have hwr := write_any l' _ nowhere w3 hsW hLB hSm
    have hfh := fndE_has l' trailL
    have HANY : Hid (l'.any isTrail = hasE l' trailL) := Lib.hid rfl
    obtain ⟨ce, HCE⟩ : ∃ c, Hid (cpErr l' = c) := ⟨_, Lib.hid rfl⟩
    go_upto_region 7 with (go_at_call 10; refine hwr.mono ?_; clear hwr; rintro e w4 ⟨v4, rfl, hb4, ho4⟩; rw [HCE.out])
    rw [HCE.out] at hcpb hbk ho4
    have hs4 := Below.sl good_ent hb4 hsW
    have hsb4 := Below.sl good_byte hb4 hsb3
    have q4 := q3.trans (hb4.mono q3.size)
    by_cases hce : ce = 0
    rotate_left
    · have t2 : (ce != 0) = true := by simpa using hce
      have hck := rchkall_any l' _ nowhere w4 hs4 hLB
      have hor := hcpb hce
      clear hcpb hbk ho4 hsH hsW hsb3 hsb4 hB hSm hsm HCE hLB
      rcases hor with ⟨hA1, hA2⟩ | ⟨hA1, hA2⟩
      · have t3 : ((chkL l').2 != 0) = true := by simpa using hA1
        generalize (chkL l').2 = c2 at hck t3 hA1 hA2
        generalize (chkL l').1 = c1 at hck
        subst hA2
        have t4 : (ce == ce) = true := by simp
        clear hA1 hce hfh HANY
        go_wp2_with (go_at_call 15; refine hck.mono ?_; rintro r w5 ⟨rfl, hb5⟩; clear hck)
        go_ret
        exact ⟨by simp, q4.trans (hb5.mono q4.size)⟩
      · rw [hA1] at hck
        generalize (chkL l').1 = c1 at hck
        rw [← HANY.out, hA2] at hfh
        have hfd := fun W (h : Sl 10 Rent nowhere W (.slice A3 ln c3) l') => rfind_any l' trailL _ nowhere W h
        have etr : bs trailL = ⟨#[84, 82, 65, 73, 76, 69, 82, 33, 33, 33]⟩ := rfl
        rw [etr] at hfd
        have t3 : ((0 : Int) != 0) = false := rfl
        clear hA1 hA2 hce HANY etr
        generalize fndE trailL l' 0 = fd at hfh hfd
        have hfh2 : decide ((0 : Int) ≤ fd) = true := hfh
        go_wp2_with (first
          | (go_at_call 15; refine hck.mono ?_; rintro r w5 ⟨rfl, hb5⟩; clear hck; have hs5 := Below.sl good_ent hb5 hs4; have hf5 := hfd w5 hs5)
          | (go_at_call 16; refine hf5.mono ?_; rintro r w6 ⟨rfl, rfl⟩; clear hf5))
        go_ret
        exact ⟨by simp [hfh2], q4.trans (hb5.mono q4.size)⟩
    · subst hce
      have t2 : ((0 : Int) != 0) = false := rfl
      rw [if_pos rfl] at ho4
      have hrb := hbk rfl
      clear hcpb hbk hfh HANY HCE hLB hSm hB hsb3 hs4
      generalize arcB l' = ab at ho4 hrb hsm
      have hr4 := Row8.first ho4 (by have := hb4.size; omega)
      have hsbb := hsb4.sb8
      have hlo : ∀ k, v4.ownBlock = some k → w3.heap.size ≤ k := fun k hk => (ho4.lt k hk).1
      clear ho4
      obtain ⟨A4, c4, rfl⟩ := own_form hr4.own
      go_upto_region 11 with (at_builtin; refine wpList_row_bytes rfl _ _ 26 rfl Tryd.underlying26 u8info rfl hr4 _ _ _ bh rfl hsbb (by omega) ?_; intro v5 w5 hr5; obtain ⟨A5, c5, rfl⟩ := own_form hr5.own)
      have hbel5 : Below w3.heap.size w3 w5 := hb4.trans (hr5.bel hlo)
      have ho5 := hr5.own
      have q5 : Below w.heap.size w w5 := q3.trans (hbel5.mono q3.size)
      obtain ⟨xs, HXS⟩ : ∃ x, Hid (ab ++ bh = x) := ⟨_, Lib.hid rfl⟩
      have hxl : xs.length ≤ 400000 ∧ 0 < xs.length := by rw [← HXS.out, List.length_append]; omega
      rw [HXS.out] at ho5 hrb
      have hlx : (ab ++ bh).length = xs.length := by rw [HXS.out]
      obtain ⟨nx, HNX⟩ : ∃ n, Hid (xs.length = n) := ⟨_, Lib.hid rfl⟩
      rw [HNX.out] at ho5 hlx hxl
      have hlx2 : ab.length + bh.length = nx := by rw [← hlx, List.length_append]
      clear hr4 hr5 hsbb hlo hsm hb4
      obtain ⟨gx, hA5⟩ : ∃ gx, A5 = some ⟨gx, 0, none⟩ := by
        rcases ho5.2 with ⟨h0, hn0⟩ | ⟨g, cap, cur, h, _⟩
        · omega
        · injection h with h1; exact ⟨g, h1⟩
      subst hA5
      have hrd := read_all (.slice (some ⟨gx, 0, none⟩) nx c5) xs nowhere w5 (by
        have h := ho5
        rw [← HNX.out] at h ⊢
        exact own_sl8 h) (by rw [HNX.out]; exact hxl.1)
      rw [hrb] at hrd
      rw [hlx2]
      clear hrb
      have hgx3 : w3.heap.size ≤ gx := (ho5.lt gx rfl).1
      have hgx0 : w.heap.size ≤ gx := Nat.le_trans q3.size hgx3
      have hgx5 : gx < w5.heap.size := (ho5.lt gx rfl).2
      go_upto_region 12 with (go_at_call 12; refine hrd.mono ?_; rintro r w6 ⟨⟨v6, f6, rfl, he6, hf6⟩, hb6⟩; clear hrd; obtain ⟨A6, c6, rfl⟩ := own_form he6.row)
      have hb7 := hb6.alloc hb6.size (.cells #[.string ⟨#[]⟩, .int .i64 0, .int .i64 0] 32)
      have hbA := (Below.refl w6.heap.size w6).alloc (Nat.le_refl _) (.cells #[.string ⟨#[]⟩, .int .i64 0, .int .i64 0] 32)
      have bF := Blk.new w6 32 #[.string ⟨#[]⟩, .int .i64 0, .int .i64 0]
      have hslk : Sl 10 Rent (fun k => k = gx) w6 (.slice A6 l'.length c6) l' := he6.slY (fun k hk e => by have := (he6.row.lt k hk).1; omega) (fun j hj bb hbb e => by have := hf6 j hj bb hbb; omega)
      have hslk := Below.sl good_ent hbA hslk
      have ho7 := own_below ho5 hb7
      have hbel7 : Below w3.heap.size w3 (w6.alloc (.cells #[.string ⟨#[]⟩, .int .i64 0, .int .i64 0] 32)) := hbel5.trans (hb7.mono hbel5.size)
      have hslb := hsH.keep good_ent (Kept.low hbel7)
      have q7 := q5.trans (hb7.mono q5.size)
      have hgF : gx ≠ w6.heap.size := fun e => by have := hb6.size; omega
      rw [hl2] at hslk
      clear hb7 hbA he6 hf6 hb6 ho5 hbel5 hsH q5 q4 q3 hbel7
      generalize w6.alloc (.cells #[.string ⟨#[]⟩, .int .i64 0, .int .i64 0] 32) = w7 at bF hslk ho7 hslb q7 ⊢
      generalize w6.heap.size = gF at bF hgF ⊢
      go_upto_region 13 with fail
      go_loopg [11] nx (fun G s11 wr => ∃ (k : Nat) (ys : List UInt8), k ≤ nx ∧ G = nx - k ∧ s11 = .int .i64 k ∧ Kept (fun i => i = gx) w7 wr ∧ Hid (ys.length = nx) ∧ wr.ownsRow w3.heap.size 5 1 (.slice (some ⟨gx, 0, none⟩) nx c5) nx (bvs ys))
      case atStart => exact ⟨0, xs, Nat.zero_le _, rfl, rfl, Kept.refl _ _, HNX, ho7⟩
      case round =>
        clear ho7
        obtain ⟨k, ys, hk, rfl, rfl, hkp, HYS, ho⟩ := hrel
        by_cases hlt : k < nx
        · have j1 : (0 : Int) ≤ (k : Int) := by omega
          have j2 : (k : Int) < (nx : Int) := by omega
          have tk : decide ((k : Int) < (nx : Int)) = true := decide_eq_true j2
          have tkb : decide (k < nx) = true := decide_eq_true hlt
          obtain ⟨k1, HK1⟩ : ∃ x, Hid (x = k + 1) := ⟨_, Lib.hid rfl⟩
          have wk1 : IntKind.i64.wrap ((k : Int) + 1) = (k1 : Int) := by rw [i64_in _ (by omega) (by omega), HK1.out]; omega
          have hc := ho.cellAt k (by omega)
          have hbv : (bvs ys)[k]? = some (.int .u8 ((ys[k]'(by rw [HYS.out]; exact hlt)).toNat : Int)) := by
            simp [bvs, show k < ys.length by rw [HYS.out]; exact hlt]
            rfl
          rw [hbv] at hc
          generalize ((ys[k]'(by rw [HYS.out]; exact hlt)).toNat : Int) = yk at hc
          have hfz : wr.frozen? ⟨gx, k, none⟩ = false := by
            have h := ho
            rw [← HYS.out] at h
            have := (own_sl8 h).free k (by rw [HYS.out]; omega)
            simpa using this
          have ho' := own_set ho k (.int .u8 7)
          rw [show (Value.int .u8 7) = .int .u8 ((7 : UInt8).toNat : Int) from rfl, bvs_set] at ho'
          have hkp' : Kept (fun i => i = gx) w7 (wr.setCell ⟨gx, k, none⟩ (.int .u8 7)) := hkp.setCell _ fun _ => rfl
          have HYS2 : Hid ((ys.set k 7).length = nx) := Lib.hid (by rw [List.length_set]; exact HYS.out)
          clear hbv hkp ho
          go_wp2_with fail
          go_roundg (nx - (k + 1))
          case measure => omega
          case rel => exact ⟨k + 1, ys.set k 7, by omega, rfl, by have := HK1.out; first | (simp; done) | (simp; omega) | (subst this; rfl), hkp', HYS2, ho'⟩
        · have tk : decide ((k : Int) < (nx : Int)) = false := decide_eq_false (by omega)
          have tkb : decide (k < nx) = false := decide_eq_false (by omega)
          have hs8 := hslk.keep good_ent hkp
          have hsb8 := hslb.keep good_ent (hkp.mono fun i _ e => by rw [e]; exact hgx3)
          have bF8 := hkp.blk bF (fun e => hgF e.symm)
          have q8 := q7.trans (hkp.below (B := w.heap.size) q7.size fun i _ e => by rw [e]; exact hgx0)
          have hsm := rsame_any l' l' _ _ (fun k => k = gx) (fun k => w3.heap.size ≤ k) wr hs8 hsb8 (by omega)
          rw [sameL_self] at hsm
          have k0 := bF8.cell 0
          have k1 := bF8.cell 1
          have k2 := bF8.cell 2
          simp at k0 k1 k2
          clear hslk hslb bF hkp ho hs8 hsb8
          go_wp2_with (go_at_call 14; refine hsm.mono ?_; rintro r w9 ⟨rfl, hb9⟩; clear hsm)
          go_ret
          exact ⟨by simp, q8.trans (hb9.mono q8.size)⟩
end Go.Proofs.YtolknddegfcmpaaDoor
