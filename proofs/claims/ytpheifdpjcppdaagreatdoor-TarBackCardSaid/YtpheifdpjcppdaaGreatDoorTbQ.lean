/- The law TarSums. -/
import Derived.Test.YtpheifdpjcppdaaGreatDoorTbP
import Derived.Test.YtpheifdpjcppdaaGreatDoorTbMO
namespace Go.Proofs.YtpheifdpjcppdaaGreatDoor
open Go.RowKit
/-- An entry begins with a head. -/
theorem mem_first {s : Nat} {e : En} (hF : Fx e) : ∃ h gnu rest, HdOk h ∧ memT s e = blockB h gnu ++ rest := by
  have hh : ∀ x, ∃ h gnu rest, HdOk h ∧ partH e (partT (nameT e)) ++ x = blockB h gnu ++ rest := fun x => by
    cases partT (nameT e) with
    | none => exact ⟨_, _, _, hdH_ok hF _ _, rfl⟩
    | some p => exact ⟨_, _, _, hdH_ok hF _ _, rfl⟩
  have hn := nameT_le hF
  have hl := hF.l2
  rw [memT, headT, aheadT]
  by_cases h0 : s = 0
  · rw [if_pos h0, if_neg (by omega), List.nil_append]
    exact hh _
  rw [if_neg h0]
  by_cases h1 : s = 1
  · rw [if_pos h1, if_pos h1]
    by_cases h2 : 100 < (nameT e).length
    · rw [if_pos h2, longB]
      simp only [List.append_assoc]
      exact ⟨_, _, _, tell_ok (name := longN) (kind := 76) (size := (nameT e).length + 1) (by omega), rfl⟩
    rw [if_neg h2, List.nil_append]
    by_cases h3 : 100 < e.link.length
    · rw [if_pos h3, longB]
      simp only [List.append_assoc]
      exact ⟨_, _, _, tell_ok (name := longN) (kind := 75) (size := e.link.length + 1) (by omega), rfl⟩
    · rw [if_neg h3, List.nil_append]
      exact ⟨_, _, _, hdH_ok hF _ _, rfl⟩
  rw [if_neg h1, if_neg h1]
  by_cases h2 : toldB e = []
  · rw [if_pos h2, List.nil_append]
    exact hh _
  · rw [if_neg h2]
    have := toldB_le hF
    simp only [List.append_assoc]
    exact ⟨_, _, _, tell_ok (name := paxN) (kind := 120) (size := (toldB e).length) (by omega), rfl⟩
theorem err_zero {st : Int} {l : List En} (he : tarErr st l = 0) : badSt st = false ∧ (chkL l).2 = 0 ∧ l.any (badT st.toNat) = false := by
  unfold tarErr at he
  cases h1 : badSt st with
  | true => rw [h1, if_pos rfl] at he; exact absurd he (by decide)
  | false =>
    rw [h1, if_neg (by decide)] at he
    by_cases h2 : (chkL l).2 = 0
    · rw [if_neg (fun h => h h2)] at he
      cases h3 : l.any (badT st.toNat) with
      | true => rw [h3, if_pos rfl] at he; exact absurd he (by decide)
      | false => exact ⟨rfl, h2, rfl⟩
    · rw [if_pos h2] at he; exact absurd he h2
theorem out_is {st : Int} {l : List En} (he : tarErr st l = 0) : tarOut st l = (l.map (memT st.toNat)).flatten ++ List.replicate 1024 0 := by
  rw [tarOut, if_pos he, tarB, accT, List.take_length]
theorem out_first {st : Int} {l : List En} (he : tarErr st l = 0) (hl : l ≠ []) : ∃ h gnu rest, HdOk h ∧ tarOut st l = blockB h gnu ++ rest := by
  obtain ⟨_, hc, _⟩ := err_zero he
  have hR := (chk_rt l).1 hc
  rw [out_is he]
  cases l with
  | nil => exact absurd rfl hl
  | cons e t =>
    obtain ⟨h, gnu, rest, h1, h2⟩ := mem_first (s := st.toNat) (chk_fx (hR.chk e (.head _)))
    refine ⟨h, gnu, rest ++ ((t.map (memT st.toNat)).flatten ++ List.replicate 1024 0), h1, ?_⟩
    rw [List.map_cons, List.flatten_cons, h2]
    simp only [List.append_assoc]
theorem flat_le {s : Nat} : ∀ (l : List En), (∀ e ∈ l, Fx e ∧ e.data.length ≤ 4000) → ((l.map (memT s)).flatten).length ≤ l.length * 14000
  | [], _ => by simp
  | e :: t, h => by
    have ih := flat_le (s := s) t fun x hx => h x (.tail _ hx)
    obtain ⟨h1, h2⟩ := h e (.head _)
    have h3 := memT_le h1 s
    rw [List.map_cons, List.flatten_cons, List.length_append, List.length_cons]
    omega
theorem out_le {st : Int} {l : List En} (hl : lightE 12 l = true) (he : tarErr st l = 0) : (tarOut st l).length ≤ 200000 := by
  obtain ⟨_, hc, _⟩ := err_zero he
  have hR := (chk_rt l).1 hc
  obtain ⟨h12, hd⟩ := light_eb 12 l hl
  have := flat_le (s := st.toNat) l fun e h => ⟨chk_fx (hR.chk e h), (hd e h).2.2.2.2⟩
  rw [out_is he, List.length_append, List.length_replicate]
  omega
/-- A head that is turned is told. -/
theorem sums_plain {st : Int} {l : List En} (he : tarErr st l = 0) (hl : l ≠ []) : 512 ≤ (tarOut st l).length ∧ ∀ i, i < 512 → (i < 148 ∨ 156 ≤ i) → ∀ c, (tarOut st l)[i]? ≠ some c → readA (runT ((tarOut st l).set i c) (((tarOut st l).set i c).length + 1) (fun _ => none) 0 [] [] 0) = ([], 0, 5) := by
  obtain ⟨h, gnu, rest, h1, h2⟩ := out_first he hl
  have hb := blockB_len h1 gnu
  rw [h2]
  refine ⟨by rw [List.length_append]; omega, fun i hi hr c hc => ?_⟩
  rw [List.getElem?_append_left (by omega)] at hc
  obtain ⟨a, b⟩ := head_turned h1 gnu i hi hr c hc
  have e : (blockB h gnu ++ rest).set i c = (blockB h gnu).set i c ++ rest := List.set_append_left _ _ (by omega)
  have hf : fldB ((blockB h gnu).set i c ++ rest) 0 512 = (blockB h gnu).set i c := fld_head (by rw [List.length_set]; exact hb)
  rw [e, runT, stepT, if_neg (by rw [List.length_append, List.length_set]; omega), hf, b, if_neg (by decide), a]
  rfl
theorem bvs_set (ys : List UInt8) (k : Nat) (u : UInt8) : (bvs ys).set k (.int .u8 (u.toNat : Int)) = bvs (ys.set k u) := by
  induction ys generalizing k with
  | nil => rfl
  | cons y ys ih =>
    cases k with
    | zero => rfl
    | succ k => exact congrArg (Value.int .u8 (y.toNat : Int) :: ·) (ih k)
set_option maxRecDepth 20000 in
set_option maxHeartbeats 16000000 in
theorem law_tarsums (v : Value) (l : List En) (st at_ c : Int) (w : World) (hsl : Sl 10 Rent nowhere w v l) (_ : -9223372036854775808 ≤ st ∧ st ≤ 9223372036854775807) (hat : -9223372036854775808 ≤ at_ ∧ at_ ≤ 9223372036854775807) (hcw : 0 ≤ c ∧ c ≤ 255) (hT : Tab w) (hD : Deb w) :
    Calls Tryz.prog 6 #[v, .int .i64 st, .int .i64 at_, .int .u8 c] w fun r w' => r = .returned (.bool true) ∧ Below w.heap.size w w' := by
  obtain ⟨A, cap, rfl, hc1, hc2⟩ := hsl.form
  obtain ⟨cb, rfl⟩ : ∃ cb : UInt8, c = (cb.toNat : Int) := ⟨UInt8.ofNat c.toNat, by rw [UInt8.toNat_ofNat']; omega⟩
  have HT := Lib.hid (fun W (hb : Below w.heap.size w W) => (⟨hT.below hb, hD.below hb⟩ : Tab W ∧ Deb W))
  have haw := awakeT w hD hT
  clear hT hD hcw
  go_enter Tryz.func6, Tryz.ntmps6
  go_wp2_with fail
  refine (haw).mono ?_
  rintro e w1 ⟨rfl, hb1⟩
  have hs1 := Below.sl good_ent hb1 hsl
  clear haw
  go_wp2_with fail
  refine (rlight_any l 12 _ nowhere _ hs1 (by omega)).mono ?_
  rintro e w2 ⟨rfl, hb2⟩
  have hs2 := Below.sl good_ent hb2 hs1
  have q2 := hb1.trans (hb2.mono hb1.size)
  clear hsl hs1 hb1 hb2
  cases hlt : lightE 12 l with
  | false =>
    clear hlt
    go_wp2_with fail
    go_ret
    exact ⟨rfl, q2⟩
  | true =>
    obtain ⟨hLB, hln⟩ := light_lb12 hlt
    have HLT := Lib.hid hlt
    clear hlt
    by_cases hl0 : l = []
    · have e0 : ((l.length : Int) == 0) = true := by rw [hl0]; rfl
      have e0b : decide (l.length = 0) = true := by rw [hl0]; rfl
      clear hl0
      go_wp2_with fail
      go_ret
      exact ⟨rfl, q2⟩
    have hlp : 0 < l.length := List.length_pos_iff.2 hl0
    have HL0 := Lib.hid hl0
    have e0 : ((l.length : Int) == 0) = false := by simp; omega
    have e0b : decide (l.length = 0) = false := by simp; omega
    have hwr := twrite_any st l _ nowhere w2 hs2 hLB hln (HT.out w2 q2).2 (HT.out w2 q2).1
    clear hl0 hLB
    obtain ⟨ce, HCE⟩ : ∃ c, Hid (tarErr st l = c) := ⟨_, Lib.hid rfl⟩
    rw [HCE.out] at hwr
    go_upto_region 6 with (go_at_call 9; refine hwr.mono ?_; clear hwr; rintro e W4 ⟨v4, rfl, hr4⟩)
    have hb4 : Below w2.heap.size w2 W4 := hr4.bel fun _ h => by cases h
    have q4 := q2.trans (hb4.mono q2.size)
    have hlo : ∀ k, v4.ownBlock = some k → w2.heap.size ≤ k := fun k hk => (hr4.own.lt k hk).1
    have ho4 := hr4.own
    clear hs2 hr4 hb4 HT
    by_cases hce : ce = 0
    rotate_left
    · have t2 : (ce != 0) = true := by simpa using hce
      clear hce ho4 HCE HLT
      go_wp2_with fail
      go_ret
      exact ⟨by simp, q4⟩
    subst hce
    have t2 : ((0 : Int) != 0) = false := rfl
    by_cases hn : at_ < 0
    · have d1 : decide (at_ < 0) = true := decide_eq_true hn
      clear hn ho4 HCE HLT
      go_wp2_with fail
      go_ret
      exact ⟨by simp, q4⟩
    have d1 : decide (at_ < 0) = false := decide_eq_false hn
    by_cases hg : 512 ≤ at_
    · have d2 : decide (512 ≤ at_) = true := decide_eq_true hg
      clear hn hg ho4 HCE HLT
      go_wp2_with fail
      go_ret
      exact ⟨by simp, q4⟩
    have d2 : decide (512 ≤ at_) = false := decide_eq_false hg
    by_cases hm : 148 ≤ at_ ∧ at_ < 156
    · have d3 : decide (148 ≤ at_) = true := decide_eq_true hm.1
      have d4 : decide (at_ < 156) = true := decide_eq_true hm.2
      clear hn hg hm ho4 HCE HLT
      go_wp2_with fail
      go_ret
      exact ⟨by simp, q4⟩
    obtain ⟨b3, HB3⟩ : ∃ b, Hid (decide (148 ≤ at_) = b) := ⟨_, Lib.hid rfl⟩
    obtain ⟨b4, HB4⟩ : ∃ b, Hid (decide (at_ < 156) = b) := ⟨_, Lib.hid rfl⟩
    have d34 : b3 = false ∨ (b3 = true ∧ b4 = false) := by
      rw [← HB3.out, ← HB4.out]
      simp only [decide_eq_false_iff_not, decide_eq_true_iff]
      omega
    have d3 := HB3.out
    have d4 := HB4.out
    obtain ⟨k, rfl⟩ := Int.eq_ofNat_of_zero_le (show 0 ≤ at_ by omega)
    have hk : k < 512 := by omega
    have hr : k < 148 ∨ 156 ≤ k := by omega
    obtain ⟨hx1, hx2⟩ := sums_plain HCE.out HL0.out
    have hx3 := out_le HLT.out HCE.out
    clear hn hg hm HCE HL0 HLT HB3 HB4
    generalize tarOut st l = xs at ho4 hx1 hx2 hx3
    obtain ⟨gx, c4, rfl⟩ : ∃ gx c4, v4 = .slice (some ⟨gx, 0, none⟩) xs.length c4 := by
      rcases ho4.2 with ⟨h0, hn0⟩ | ⟨g, cap, cur, h, _⟩
      · omega
      · exact ⟨g, cap, h⟩
    have hgx : w2.heap.size ≤ gx := hlo gx rfl
    have hgx0 : w.heap.size ≤ gx := Nat.le_trans q2.size hgx
    have hcl := ho4.cellAt k (by omega)
    obtain ⟨yb, HYB⟩ : ∃ y : UInt8, Hid (xs[k]? = some y) := ⟨xs[k]'(by omega), Lib.hid (List.getElem?_eq_getElem _)⟩
    have hbv : (bvs xs)[k]? = some (.int .u8 (yb.toNat : Int)) := by
      have := HYB.out
      simp [bvs, this]
      rfl
    rw [hbv] at hcl
    have j1 : (0 : Int) ≤ (k : Int) := by omega
    have j2 : (k : Int) < (xs.length : Int) := by omega
    by_cases hcy : yb = cb
    · have t5 : ((yb.toNat : Int) == (cb.toNat : Int)) = true := by rw [hcy]; simp
      clear hx2 hbv hcy HYB
      rcases d34 with rfl | ⟨rfl, rfl⟩
      · go_wp2_with fail
        go_ret
        exact ⟨by simp, q4⟩
      · go_wp2_with fail
        go_ret
        exact ⟨by simp, q4⟩
    have t5 : ((yb.toNat : Int) == (cb.toNat : Int)) = false := by rw [beq_byteT]; exact decide_eq_false hcy
    have hrd0 := hx2 k hk hr cb (by rw [HYB.out]; exact fun e => hcy (Option.some.inj e))
    have hfz : W4.frozen? ⟨gx, k, none⟩ = false := by
      have := (own_sl8 ho4).free k (by omega)
      simpa using this
    have ho' := own_set ho4 k (.int .u8 (cb.toNat : Int))
    rw [bvs_set] at ho'
    have q5 : Below w.heap.size w (W4.setCell ⟨gx, k, none⟩ (.int .u8 (cb.toNat : Int))) := q4.setCell (p := ⟨gx, k, none⟩) hgx0 _
    have hls : (xs.set k cb).length = xs.length := List.length_set ..
    rw [← hls] at ho'
    have hrd := tread_any _ (xs.set k cb) nowhere _ (own_sl8 ho') (by rw [hls]; omega)
    rw [hrd0, hls] at hrd
    clear hx2 hbv hcy HYB ho' ho4 hrd0 hls hlo q4
    rcases d34 with rfl | ⟨rfl, rfl⟩
    all_goals
      go_upto_region 9 with fail
      generalize W4.setCell ⟨gx, k, none⟩ (.int .u8 (cb.toNat : Int)) = W5 at hrd q5 ⊢
      clear hcl hfz d1 d2 d3 d4 t5
      go_upto_region 10 with (go_at_call 11; refine hrd.mono ?_; clear hrd; rintro e W6 ⟨⟨v6, f6, rfl, he6, hf6⟩, hb6⟩; obtain ⟨A6, c6, rfl⟩ := own_form he6.row)
      have bA := Blk.new W6 31 #[.string ⟨#[]⟩, .int .i64 0, .int .i64 5]
      have q6 := q5.trans (hb6.mono q5.size)
      have q7 := q6.alloc q6.size (.cells #[.string ⟨#[]⟩, .int .i64 0, .int .i64 5] 31)
      clear he6 hf6 hb6 q5 q6
      generalize W6.alloc (.cells #[.string ⟨#[]⟩, .int .i64 0, .int .i64 5] 31) = W7 at bA q7 ⊢
      generalize W6.heap.size = gA at bA ⊢
      have z0 := bA.cell 0
      have z1 := bA.cell 1
      have z2 := bA.cell 2
      simp at z0 z1 z2
      have e1 : ((([] : List En).length : Int) == 0) = true := rfl
      go_wp2_with fail
      go_ret
      exact ⟨by simp, q7⟩
end Go.Proofs.YtpheifdpjcppdaaGreatDoor
