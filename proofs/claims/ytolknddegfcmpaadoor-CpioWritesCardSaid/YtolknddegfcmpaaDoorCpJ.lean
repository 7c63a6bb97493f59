/- The walk of the document's Write. Printed by gen_cpj.py. -/
import Derived.Test.YtolknddegfcmpaaDoorCpI
import Derived.Test.YtolknddegfcmpaaDoorCpG
namespace Go.Proofs.YtolknddegfcmpaaDoor
open Go.RowKit
/-- What the document's Write answers. -/
def CpQ (w : World) (l : List En) (r : Ending) (w' : World) : Prop :=
  ∃ v : Value, r = .returned (.tuple #[v, .int .i64 (cpErr l)]) ∧ Below w.heap.size w w' ∧ Sl 1 Rbyte nowhere w' v (if cpErr l = 0 then arcB l else [])
theorem bd_last {a i : Nat} (h : a ≤ i * 400000) (hi : i ≤ 1000) : a ≤ 400000000 := by omega
theorem numU_min (l : List En) (j k : Nat) (h : k < l.length) : numU l (min (k + 1) (j + 1)) = numU l (min k (j + 1)) + if k ≤ j ∧ l[k].kind ≠ 4 then 1 else 0 := by
  by_cases hkj : k ≤ j
  · rw [Nat.min_eq_left (by omega), Nat.min_eq_left (by omega), numU_step l k h]
    by_cases h4 : l[k].kind = 4 <;> simp [h4, hkj]
  · rw [Nat.min_eq_right (by omega), Nat.min_eq_right (by omega), if_neg (by omega)]; rfl
set_option maxRecDepth 20000 in
set_option maxHeartbeats 16000000 in
theorem rwrite_any (l : List En) (v : Value) (X : Nat → Prop) (w : World) (hsl : Sl 10 Rent X w v l) (hL : LB l) (hS : SmallL l) :
    Calls Tryd.prog 11 #[v] w (CpQ w l) := by
  have hall := rchkall_any l v X w hsl hL
  obtain ⟨A, cap, rfl, hc1, hc2⟩ := hsl.form
  unfold maxLen at hc2
  obtain ⟨hS1, hS2⟩ := hS
  have HS := Lib.hid hS2
  clear hS2 hL
  have HCE : Hid (cpErr l = 0 → Rt l ∧ (∀ e ∈ l, e.mtime ≤ 4294967295)) := Lib.hid fun h => cp_right h
  have HX : Hid (cpErr l = if (chkL l).2 ≠ 0 then (chkL l).2 else if l.any named = true then 10 else if l.any late = true then 1 else if l.any isTrail = true then 10 else 0) := Lib.hid rfl
  generalize (chkL l).1 = c1 at hall
  generalize (chkL l).2 = c2 at hall HX
  go_enter Tryd.func11, Tryd.ntmps11
  go_upto_region 2 with (go_at_call 15; refine hall.mono ?_; rintro e W1 ⟨rfl, hbw⟩)
  have hsl := Below.sl good_ent hbw hsl
  by_cases hz : c2 = 0
  rotate_left
  · have hzb : (c2 != 0) = true := by simpa using hz
    have HV := Lib.hid (HX.out.trans (if_pos hz))
    have HZ := Lib.hid hz
    clear hz HX
    go_wp2_with fail
    go_ret2
    exact ⟨_, by rw [HV.out]; rfl, hbw, by rw [HV.out, if_neg HZ.out]; exact Sl.nil _ _ _ _⟩
  have hzb : (c2 != 0) = false := by simpa using hz
  have HE : Hid (cpErr l = if (l.drop 0).any named = true then 10 else if l.any late = true then 1 else if l.any isTrail = true then 10 else 0) := Lib.hid (HX.out.trans (if_neg (by simpa using hz)))
  clear hz HX hall
  go_wp2_with fail
  go_loopg [6] l.length (fun G s6 wr => ∃ k : Nat, k ≤ l.length ∧ G = l.length - k ∧ s6 = .int .i64 k ∧ W1 = wr ∧ Hid (cpErr l = if (l.drop k).any named = true then 10 else if l.any late = true then 1 else if l.any isTrail = true then 10 else 0))
  case atStart => exact ⟨0, Nat.zero_le _, rfl, rfl, rfl, HE⟩
  case round =>
    clear HE
    obtain ⟨k, hk, rfl, rfl, rfl, HE⟩ := hrel
    by_cases hlt : k < l.length
    · obtain ⟨b, off, rfl, _, hc⟩ := hsl.ent (by omega)
      obtain ⟨dv, hat, hdv⟩ := hc k hlt
      have HST := Lib.hid (HE.out.trans (any_step named l k hlt 10 (if l.any late = true then 1 else if l.any isTrail = true then 10 else 0)))
      obtain ⟨e, He⟩ : ∃ e, Hid (l[k] = e) := ⟨_, Lib.hid rfl⟩
      rw [He.out] at hat hdv HST
      obtain ⟨d0, c1, c2, c3, c4, d5, d6, d7, c8, c9⟩ := hat
      have i1 : (0 : Int) ≤ (k : Int) := by omega
      have i2 : (k : Int) < (l.length : Int) := by omega
      clear HE hc hdv c1 c2 c3 c4 c8 c9
      obtain ⟨ow, HOW⟩ : ∃ x, Hid (e.owner = x) := ⟨_, Lib.hid rfl⟩
      obtain ⟨gr, HGR⟩ : ∃ x, Hid (e.group = x) := ⟨_, Lib.hid rfl⟩
      rw [HOW.out] at d5
      rw [HGR.out] at d6
      have HNM : Hid (named e = (!decide (ow = []) || !decide (gr = []))) := Lib.hid (by rw [named, HOW.out, HGR.out])
      clear HOW HGR
      cases ow with
      | cons c t =>
        have z1 : (bs (c :: t)).toList.isEmpty = false := by rw [toList_bs]; rfl
        have HT := Lib.hid (show named e = true by rw [HNM.out]; simp)
        clear HNM
        have HV := Lib.hid (HST.out.trans (if_pos (HT.out)))
        clear HST
        go_wp2_with fail
        go_ret2
        exact ⟨_, by rw [HV.out]; rfl, hbw, by rw [HV.out]; exact Sl.nil _ _ _ _⟩
      | nil =>
        have z0 : (bs []).toList.isEmpty = true := by rw [toList_bs]; rfl
        cases gr with
        | cons c t =>
          have z1 : (bs (c :: t)).toList.isEmpty = false := by rw [toList_bs]; rfl
          have HT := Lib.hid (show named e = true by rw [HNM.out]; simp)
          clear HNM
          have HV := Lib.hid (HST.out.trans (if_pos (HT.out)))
          clear HST
          go_wp2_with fail
          go_ret2
          exact ⟨_, by rw [HV.out]; rfl, hbw, by rw [HV.out]; exact Sl.nil _ _ _ _⟩
        | nil =>
          have HT := Lib.hid (show ¬ named e = true by rw [HNM.out]; simp)
          clear HNM
          have HV := Lib.hid (HST.out.trans (if_neg (HT.out)))
          clear HST
          go_wp2_with fail
          go_roundg (l.length - (k + 1))
          case measure => omega
          case rel => exact ⟨k + 1, by omega, rfl, by simp, rfl, HV⟩

    · have hke : k = l.length := by omega
      subst hke
      have HN := Lib.hid (HE.out.trans (any_end named l 10 (if l.any late = true then 1 else if l.any isTrail = true then 10 else 0)))
      clear HE
      have HE : Hid (cpErr l = if (l.drop 0).any late = true then 1 else if l.any isTrail = true then 10 else 0) := Lib.hid HN.out
      clear HN
      go_wp2_with fail
      go_loopg [7] l.length (fun G s7 wr => ∃ k : Nat, k ≤ l.length ∧ G = l.length - k ∧ s7 = .int .i64 k ∧ W1 = wr ∧ Hid (cpErr l = if (l.drop k).any late = true then 1 else if l.any isTrail = true then 10 else 0))
      case atStart => exact ⟨0, Nat.zero_le _, rfl, rfl, rfl, HE⟩
      case round =>
        clear HE
        obtain ⟨k, hk, rfl, rfl, rfl, HE⟩ := hrel
        by_cases hlt : k < l.length
        · obtain ⟨b, off, rfl, _, hc⟩ := hsl.ent (by omega)
          obtain ⟨dv, hat, hdv⟩ := hc k hlt
          have HST := Lib.hid (HE.out.trans (any_step late l k hlt 1 (if l.any isTrail = true then 10 else 0)))
          obtain ⟨e, He⟩ : ∃ e, Hid (l[k] = e) := ⟨_, Lib.hid rfl⟩
          rw [He.out] at hat hdv HST
          obtain ⟨d0, c1, c2, c3, c4, d5, d6, d7, c8, c9⟩ := hat
          have i1 : (0 : Int) ≤ (k : Int) := by omega
          have i2 : (k : Int) < (l.length : Int) := by omega
          clear HE hc hdv c1 c2 c3 c4 c8 c9
          generalize hmt : e.mtime = mt at d7
          by_cases ht : 4294967295 < mt
          · have hd : decide (4294967295 < mt) = true := decide_eq_true ht
            have HT := Lib.hid (show late e = true by rw [late, hmt]; exact hd)
            clear hmt
            have HV := Lib.hid (HST.out.trans (if_pos (HT.out)))
            clear HST
            go_wp2_with fail
            go_ret2
            exact ⟨_, by rw [HV.out]; rfl, hbw, by rw [HV.out]; exact Sl.nil _ _ _ _⟩
          · have hd : decide (4294967295 < mt) = false := decide_eq_false ht
            have HT := Lib.hid (show ¬ late e = true by rw [late, hmt, hd]; simp)
            clear hmt
            have HV := Lib.hid (HST.out.trans (if_neg (HT.out)))
            clear HST
            go_wp2_with fail
            go_roundg (l.length - (k + 1))
            case measure => omega
            case rel => exact ⟨k + 1, by omega, rfl, by simp, rfl, HV⟩

        · have hke : k = l.length := by omega
          subst hke
          have HN := Lib.hid (HE.out.trans (any_end late l 1 (if l.any isTrail = true then 10 else 0)))
          clear HE
          have HE : Hid (cpErr l = if (l.drop 0).any isTrail = true then 10 else 0) := Lib.hid HN.out
          clear HN
          go_wp2_with fail
          go_loopg [8] l.length (fun G s8 wr => ∃ k : Nat, k ≤ l.length ∧ G = l.length - k ∧ s8 = .int .i64 k ∧ W1 = wr ∧ Hid (cpErr l = if (l.drop k).any isTrail = true then 10 else 0))
          case atStart => exact ⟨0, Nat.zero_le _, rfl, rfl, rfl, HE⟩
          case round =>
            clear HE
            obtain ⟨k, hk, rfl, rfl, rfl, HE⟩ := hrel
            by_cases hlt : k < l.length
            · obtain ⟨b, off, rfl, _, hc⟩ := hsl.ent (by omega)
              obtain ⟨dv, hat, hdv⟩ := hc k hlt
              have HST := Lib.hid (HE.out.trans (any_step isTrail l k hlt 10 (0)))
              obtain ⟨e, He⟩ : ∃ e, Hid (l[k] = e) := ⟨_, Lib.hid rfl⟩
              rw [He.out] at hat hdv HST
              obtain ⟨d0, c1, c2, c3, c4, d5, d6, d7, c8, c9⟩ := hat
              have i1 : (0 : Int) ≤ (k : Int) := by omega
              have i2 : (k : Int) < (l.length : Int) := by omega
              clear HE hc hdv c1 c2 c3 c4 c8 c9
              generalize hpt : e.path = pt at d0
              have hq := beq_trail pt
              by_cases ht : pt = trailL
              · have hd : decide (pt = trailL) = true := decide_eq_true ht
                have HT := Lib.hid (show isTrail e = true by rw [isTrail, hpt]; exact hd)
                rw [hd] at hq
                clear hpt hd ht
                have HV := Lib.hid (HST.out.trans (if_pos (HT.out)))
                clear HST
                go_wp2_with fail
                go_ret2
                exact ⟨_, by rw [HV.out]; rfl, hbw, by rw [HV.out]; exact Sl.nil _ _ _ _⟩
              · have hd : decide (pt = trailL) = false := decide_eq_false ht
                have HT := Lib.hid (show ¬ isTrail e = true by rw [isTrail, hpt, hd]; simp)
                rw [hd] at hq
                clear hpt hd ht
                have HV := Lib.hid (HST.out.trans (if_neg (HT.out)))
                clear HST
                go_wp2_with fail
                go_roundg (l.length - (k + 1))
                case measure => omega
                case rel => exact ⟨k + 1, by omega, rfl, by simp, rfl, HV⟩

            · have hke : k = l.length := by omega
              subst hke
              have HN := Lib.hid (HE.out.trans (any_end isTrail l 10 (0)))
              clear HE
              have HR := Lib.hid (HCE.out HN.out).1
              have HMT := Lib.hid (HCE.out HN.out).2
              clear HCE
              go_wp2_with fail
              have hcat := bs_app
              have hsz := bs_size
              go_loopg [9, 10] l.length (fun G s9 s10 wr => ∃ (i : Nat) (q : List UInt8), i ≤ l.length ∧ G = l.length - i ∧ s10 = .int .i64 i ∧ s9 = .string (bs q) ∧ Hid (arcU l i = q) ∧ Hid (q.length ≤ i * 400000) ∧ Below W1.heap.size W1 wr)
              case atStart => exact ⟨0, [], Nat.zero_le _, rfl, rfl, rfl, Lib.hid rfl, Lib.hid (by simp), Below.refl _ _⟩
              case round =>
                obtain ⟨i, q, hi, rfl, rfl, rfl, HQ, HBL, hb⟩ := hrel
                have hql := bd_max HBL.out (by omega)
                by_cases hlt : i < l.length
                · have hslr := Below.sl good_ent hb hsl
                  obtain ⟨b, off, rfl, _, hc⟩ := hslr.ent (by omega)
                  obtain ⟨dv, hat, hdv⟩ := hc i hlt
                  obtain ⟨Ad, capd, rfl, _, _⟩ := hdv.form
                  obtain ⟨j, hj, hji, hf1, hf2, hf3, _, hfn, hw⟩ := file_of HR.out hlt
                  obtain ⟨dvf, hatf, hdvf⟩ := hc j hj
                  have HST := Lib.hid (arcU_step hlt hj hw)
                  have hck := chkE_facts (HR.out.chk _ (List.getElem_mem hlt))
                  have hmt := HMT.out _ (List.getElem_mem hlt)
                  have HL1 := Lib.hid (fun h4 h1 => link_one HR.out hlt h4 h1)
                  have HLA := Lib.hid (fun d d' => lstU_any l (nmE l[i]) d d' i hlt rfl l.length hlt)
                  have HEB := HS.out _ (List.getElem_mem hlt)
                  have HFB := (HS.out _ (List.getElem_mem hj)).2.2
                  have hna := numU_le l (j + 1)
                  have hnc := lksU_le l (nmE l[i]) l.length
                  obtain ⟨f, Hf⟩ : ∃ f, Hid (l[j] = f) := ⟨_, Lib.hid rfl⟩
                  obtain ⟨e, He⟩ : ∃ e, Hid (l[i] = e) := ⟨_, Lib.hid rfl⟩
                  rw [Hf.out] at hatf hdvf HST HFB
                  rw [He.out] at hat hdv HST hck hmt HL1 HLA HEB hnc hfn
                  obtain ⟨lp, ll, ld⟩ := HEB
                  have hne : ∀ W, Calls Tryd.prog 26 #[entV e (.slice Ad e.data.length capd)] W fun r w' => r = .returned (.string (bs (nmE e))) ∧ Below W.heap.size W w' := fun W => rname_any e _ W Ad _ capd rfl
                  have HME : Hid (memE l i e j f = if e.kind = 2 then memB (numL (numU l (j + 1)) (16384 + e.mode.toNat) 2 e.uid.toNat e.gid.toNat e.mtime.toNat 0 (e.path.length + 1)) e.path [] else if e.kind = 3 then memB (numL (numU l (j + 1)) (40960 + e.mode.toNat) 1 e.uid.toNat e.gid.toNat e.mtime.toNat e.link.length (e.path.length + 1)) e.path e.link else if lstU l (nmE e) 0 l.length = i then memB (numL (numU l (j + 1)) (32768 + e.mode.toNat) (lksU l (nmE e) l.length) e.uid.toNat e.gid.toNat e.mtime.toNat f.data.length (e.path.length + 1)) e.path f.data else memB (numL (numU l (j + 1)) (32768 + e.mode.toNat) (lksU l (nmE e) l.length) e.uid.toNat e.gid.toNat e.mtime.toNat 0 (e.path.length + 1)) e.path []) := Lib.hid rfl
                  generalize memE l i e j f = me at HST HME
                  obtain ⟨p, Hp⟩ : ∃ p, Hid (nmE e = p) := ⟨_, Lib.hid rfl⟩
                  have hpl : p.length ≤ 100000 := by rw [← Hp.out, nmE]; split <;> assumption
                  rw [Hp.out] at hne HME HL1 HLA hnc hfn
                  obtain ⟨path, kind, mode, uid, gid, owner, group, mtime, link, data⟩ := e
                  simp only at hck hmt lp ll ld HME hat
                  obtain ⟨hk1, hk4, hm0, hm1, hu0, hu1, hg0, hg1, ht0, _, _⟩ := hck
                  obtain ⟨mo, rfl⟩ := Int.eq_ofNat_of_zero_le hm0
                  obtain ⟨ui, rfl⟩ := Int.eq_ofNat_of_zero_le hu0
                  obtain ⟨gi, rfl⟩ := Int.eq_ofNat_of_zero_le hg0
                  obtain ⟨ti, rfl⟩ := Int.eq_ofNat_of_zero_le ht0
                  simp only [Int.toNat_natCast] at HME
                  simp only [entV] at hne
                  obtain ⟨c0, c1, c2, c3, c4, c5, c6, c7, c8, c9⟩ := hat
                  have i1 : (0 : Int) ≤ (i : Int) := by omega
                  have i2 : (i : Int) < (l.length : Int) := by omega
                  simp only at c0 c1 c2 c3 c4 c5 c6 c7 c8 c9
                  clear hc hdv hf1 hf2 hf3 hw hm0 hu0 hg0 ht0
                  go_upto_region 24 with fail
                  have bE := Blk.new wr tE #[.string (bs path), .int .i64 kind, .int .i64 mo, .int .i64 ui, .int .i64 gi, .string (bs owner), .string (bs group), .int .i64 ti, .string (bs link), .slice Ad data.length capd]
                  have hq := (Below.refl _ _).alloc (Nat.le_refl wr.heap.size) (.cells #[.string (bs path), .int .i64 kind, .int .i64 mo, .int .i64 ui, .int .i64 gi, .string (bs owner), .string (bs group), .int .i64 ti, .string (bs link), .slice Ad data.length capd] tE)
                  have hsl2 := Below.sl good_ent hq hslr
                  have hdf2 := Below.sl good_byte hq hdvf
                  have hatf2 := hatf.below hq
                  have hb2 := hb.trans (hq.mono hb.size)
                  clear hslr hdvf hatf hq c0 c1 c2 c3 c4 c5 c6 c7 c8 c9
                  generalize wr.alloc (.cells #[.string (bs path), .int .i64 kind, .int .i64 mo, .int .i64 ui, .int .i64 gi, .string (bs owner), .string (bs group), .int .i64 ti, .string (bs link), .slice Ad data.length capd] tE) = W2 at bE hsl2 hdf2 hatf2 hb2 ⊢
                  generalize wr.heap.size = g at bE ⊢
                  clear hb
                  generalize wr = wq
                  go_wp2_with fail
                  go_loopg [12, 13, 14, 15] l.length (fun G s12 s13 s14 s15 wr => ∃ k a c d : Nat, k ≤ l.length ∧ G = l.length - k ∧ s12 = .int .i64 a ∧ s13 = .int .i64 c ∧ s14 = .int .i64 d ∧ s15 = .int .i64 k ∧ Hid (a = numU l (min k (j + 1))) ∧ Hid (c = lksU l p k) ∧ Hid (d = lstU l p i k) ∧ a ≤ k ∧ c ≤ k ∧ Below W2.heap.size W2 wr)
                  case atStart => exact ⟨0, 0, 0, i, Nat.zero_le _, rfl, rfl, rfl, rfl, rfl, Lib.hid (by simp [numU]), Lib.hid (by simp [lksU]), Lib.hid rfl, Nat.le_refl _, Nat.le_refl _, Below.refl _ _⟩
                  case round =>
                    obtain ⟨k, a, c, d, hk, rfl, rfl, rfl, rfl, rfl, HA, HC, HD, hak, hck, hb3⟩ := hrel
                    have bE3 := bE.below hb3 bE.lt
                    obtain ⟨d0, d1, d2, d3, d4, d5, d6, d7, d8, d9⟩ := bE3.cells10
                    by_cases hlk : k < l.length
                    · have hsl3 := Below.sl good_ent hb3 hsl2
                      obtain ⟨b2, off2, hAe, _, hc⟩ := hsl3.ent (by omega)
                      injection hAe with hAe
                      injection hAe with e1 e2
                      subst e1 e2
                      obtain ⟨dv, hat, hdv⟩ := hc k hlk
                      obtain ⟨Ax, capx, rfl, _, _⟩ := hdv.form
                      have HS1 := Lib.hid (numU_min l j k hlk)
                      have HS2 := Lib.hid (lksU_step l p k hlk)
                      have HS3 := Lib.hid (lstU_step l p i k hlk)
                      have hfd := rfind_any l p _ _ _ hsl3
                      rw [hfn] at hfd
                      obtain ⟨x, Hx⟩ : ∃ x, Hid (l[k] = x) := ⟨_, Lib.hid rfl⟩
                      rw [Hx.out] at hat hdv HS1 HS2 HS3
                      obtain ⟨x0, x1, x2, x3, x4, x5, x6, x7, x8, x9⟩ := hat
                      have j1 : (0 : Int) ≤ (k : Int) := by omega
                      have j2 : (k : Int) < (l.length : Int) := by omega
                      clear hc hdv
                      obtain ⟨a1, HA1⟩ : ∃ y, Hid (y = a + 1) := ⟨_, Lib.hid rfl⟩
                      obtain ⟨cc1, HC1⟩ : ∃ y, Hid (y = c + 1) := ⟨_, Lib.hid rfl⟩
                      have wa : IntKind.i64.wrap ((a : Int) + 1) = (a1 : Int) := by rw [i64_in _ (by omega) (by omega), HA1.out]; omega
                      have wc : IntKind.i64.wrap ((c : Int) + 1) = (cc1 : Int) := by rw [i64_in _ (by omega) (by omega), HC1.out]; omega
                      have hnx : ∀ W, Calls Tryd.prog 26 #[entV x (.slice Ax x.data.length capx)] W fun r w' => r = .returned (.string (bs (nmE x))) ∧ Below W.heap.size W w' := fun W => rname_any x _ W Ax _ capx rfl
                      obtain ⟨y, Hy⟩ : ∃ y, Hid (nmE x = y) := ⟨_, Lib.hid rfl⟩
                      rw [Hy.out] at hnx HS2 HS3
                      have hqy := beq_bs2 y p
                      simp only [entV] at hnx
                      go_upto_region 30 with fail
                      by_cases h4 : x.kind = 4
                      · have q4 : (x.kind != 4) = false := by simpa using h4
                        have HAN : Hid (a = numU l (min (k + 1) (j + 1))) := Lib.hid (by rw [HS1.out, if_neg (fun h => h.2 h4), HA.out]; rfl)
                        clear h4 HS1 HA hfd wa HA1
                        go_upto_region 32 with fail
                        have hbZ := hb3
                        have KS : ∀ W', Below wr.heap.size wr W' → (fun W => W.cell? ⟨b, off + k * 10, none⟩ = some (.string (bs x.path)) ∧ W.cell? ⟨b, off + k * 10 + 1, none⟩ = some (.int .i64 x.kind) ∧ W.cell? ⟨b, off + k * 10 + 2, none⟩ = some (.int .i64 x.mode) ∧ W.cell? ⟨b, off + k * 10 + 3, none⟩ = some (.int .i64 x.uid) ∧ W.cell? ⟨b, off + k * 10 + 4, none⟩ = some (.int .i64 x.gid) ∧ W.cell? ⟨b, off + k * 10 + 5, none⟩ = some (.string (bs x.owner)) ∧ W.cell? ⟨b, off + k * 10 + 6, none⟩ = some (.string (bs x.group)) ∧ W.cell? ⟨b, off + k * 10 + 7, none⟩ = some (.int .i64 x.mtime) ∧ W.cell? ⟨b, off + k * 10 + 8, none⟩ = some (.string (bs x.link)) ∧ W.cell? ⟨b, off + k * 10 + 9, none⟩ = some (.slice Ax x.data.length capx) ∧ W.cell? ⟨g, 0, none⟩ = some (.string (bs path)) ∧ W.cell? ⟨g, 1, none⟩ = some (.int .i64 kind) ∧ W.cell? ⟨g, 2, none⟩ = some (.int .i64 mo) ∧ W.cell? ⟨g, 3, none⟩ = some (.int .i64 ui) ∧ W.cell? ⟨g, 4, none⟩ = some (.int .i64 gi) ∧ W.cell? ⟨g, 5, none⟩ = some (.string (bs owner)) ∧ W.cell? ⟨g, 6, none⟩ = some (.string (bs group)) ∧ W.cell? ⟨g, 7, none⟩ = some (.int .i64 ti) ∧ W.cell? ⟨g, 8, none⟩ = some (.string (bs link)) ∧ W.cell? ⟨g, 9, none⟩ = some (.slice Ad data.length capd)) W' := fun W' h => ⟨(Kept.of_below h nowhere).cell x0 (fun h => h), (Kept.of_below h nowhere).cell x1 (fun h => h), (Kept.of_below h nowhere).cell x2 (fun h => h), (Kept.of_below h nowhere).cell x3 (fun h => h), (Kept.of_below h nowhere).cell x4 (fun h => h), (Kept.of_below h nowhere).cell x5 (fun h => h), (Kept.of_below h nowhere).cell x6 (fun h => h), (Kept.of_below h nowhere).cell x7 (fun h => h), (Kept.of_below h nowhere).cell x8 (fun h => h), (Kept.of_below h nowhere).cell x9 (fun h => h), (Kept.of_below h nowhere).cell d0 (fun h => h), (Kept.of_below h nowhere).cell d1 (fun h => h), (Kept.of_below h nowhere).cell d2 (fun h => h), (Kept.of_below h nowhere).cell d3 (fun h => h), (Kept.of_below h nowhere).cell d4 (fun h => h), (Kept.of_below h nowhere).cell d5 (fun h => h), (Kept.of_below h nowhere).cell d6 (fun h => h), (Kept.of_below h nowhere).cell d7 (fun h => h), (Kept.of_below h nowhere).cell d8 (fun h => h), (Kept.of_below h nowhere).cell d9 (fun h => h)⟩
                        by_cases hyp : y = p
                        · have hd : decide (y = p) = true := decide_eq_true hyp
                          rw [hd] at hqy
                          clear hd
                          refine wp_region_plan (fun W => W.cell? ⟨b, off + k * 10, none⟩ = some (.string (bs x.path)) ∧ W.cell? ⟨b, off + k * 10 + 1, none⟩ = some (.int .i64 x.kind) ∧ W.cell? ⟨b, off + k * 10 + 2, none⟩ = some (.int .i64 x.mode) ∧ W.cell? ⟨b, off + k * 10 + 3, none⟩ = some (.int .i64 x.uid) ∧ W.cell? ⟨b, off + k * 10 + 4, none⟩ = some (.int .i64 x.gid) ∧ W.cell? ⟨b, off + k * 10 + 5, none⟩ = some (.string (bs x.owner)) ∧ W.cell? ⟨b, off + k * 10 + 6, none⟩ = some (.string (bs x.group)) ∧ W.cell? ⟨b, off + k * 10 + 7, none⟩ = some (.int .i64 x.mtime) ∧ W.cell? ⟨b, off + k * 10 + 8, none⟩ = some (.string (bs x.link)) ∧ W.cell? ⟨b, off + k * 10 + 9, none⟩ = some (.slice Ax x.data.length capx) ∧ W.cell? ⟨g, 0, none⟩ = some (.string (bs path)) ∧ W.cell? ⟨g, 1, none⟩ = some (.int .i64 kind) ∧ W.cell? ⟨g, 2, none⟩ = some (.int .i64 mo) ∧ W.cell? ⟨g, 3, none⟩ = some (.int .i64 ui) ∧ W.cell? ⟨g, 4, none⟩ = some (.int .i64 gi) ∧ W.cell? ⟨g, 5, none⟩ = some (.string (bs owner)) ∧ W.cell? ⟨g, 6, none⟩ = some (.string (bs group)) ∧ W.cell? ⟨g, 7, none⟩ = some (.int .i64 ti) ∧ W.cell? ⟨g, 8, none⟩ = some (.string (bs link)) ∧ W.cell? ⟨g, 9, none⟩ = some (.slice Ad data.length capd)) [(false, 0), (false, 1), (false, 2), (false, 3), (false, 5), (true, 4), (true, 6), (false, 7)] (by kernel_rfl) (by kernel_rfl) (KS _ ((Below.refl _ _).drew)) ?_
                          simp only [planOps, List.map, List.getD_cons_zero, List.getD_cons_succ]
                          iterate 5 ((first | refine plan_quiet (v := ?_) rfl rfl (fun w' hw' => ?_) ?_ | refine plan_calm (v := ?_) (tt_of) rfl (fun w' hw' => ?_) ?_); rotate_left; (focus (go_simp <;> (first | with_reducible rfl | (rw [if_neg (by simp [undef])]; try rfl)))); simp only [Act.put, List.setIfInBounds_toArray, List.set_cons_zero, List.set_cons_succ])
                          refine plan_loud rfl (fun K hK => ?_)
                          go_simp
                          refine (hnx _).mono ?_
                          rintro r W8 ⟨rfl, hb8⟩
                          go_simp
                          have hbA := ((Below.refl wr.heap.size wr).drew).trans (hb8.mono (Nat.le_refl _))
                          refine hK _ _ (KS _ hbA) ?_
                          clear hK K
                          (try simp only [Act.put, List.setIfInBounds_toArray, List.set_cons_zero, List.set_cons_succ])
                          refine plan_loud rfl (fun K hK => ?_)
                          go_simp
                          refine (hne _).mono ?_
                          rintro r W9 ⟨rfl, hb9⟩
                          go_simp
                          have hbB := hbA.trans (hb9.mono hbA.size)
                          refine hK _ _ (KS _ hbB) ?_
                          clear hK K
                          (try simp only [Act.put, List.setIfInBounds_toArray, List.set_cons_zero, List.set_cons_succ])
                          iterate 1 ((first | refine plan_quiet (v := ?_) rfl rfl (fun w' hw' => ?_) ?_ | refine plan_calm (v := ?_) (tt_of) rfl (fun w' hw' => ?_) ?_); rotate_left; (focus (go_simp <;> (first | with_reducible rfl | (rw [if_neg (by simp [undef])]; try rfl)))); simp only [Act.put, List.setIfInBounds_toArray, List.set_cons_zero, List.set_cons_succ])
                          refine plan_end ?_
                          have hbC := hbZ.trans (hbB.mono hbZ.size)
                          clear hbA hbB hb8 hb9 KS hbZ hnx x0 x1 x2 x3 x4 x5 x6 x7 x8 x9 d0 d1 d2 d3 d4 d5 d6 d7 d8 d9 bE3
                          go_wp2_with fail
                          go_roundg (l.length - (k + 1))
                          case measure => omega
                          case rel => exact ⟨k + 1, a, cc1, k, by omega, by omega, rfl, rfl, rfl, by first | (simp; done) | (simp; omega), HAN, Lib.hid (by rw [HS2.out, if_pos hyp, HC1.out, HC.out]), Lib.hid (by rw [HS3.out, if_pos hyp]), by omega, by have := HC1.out; omega, hbC⟩

                        · have hd : decide (y = p) = false := decide_eq_false hyp
                          rw [hd] at hqy
                          clear hd
                          refine wp_region_plan (fun W => W.cell? ⟨b, off + k * 10, none⟩ = some (.string (bs x.path)) ∧ W.cell? ⟨b, off + k * 10 + 1, none⟩ = some (.int .i64 x.kind) ∧ W.cell? ⟨b, off + k * 10 + 2, none⟩ = some (.int .i64 x.mode) ∧ W.cell? ⟨b, off + k * 10 + 3, none⟩ = some (.int .i64 x.uid) ∧ W.cell? ⟨b, off + k * 10 + 4, none⟩ = some (.int .i64 x.gid) ∧ W.cell? ⟨b, off + k * 10 + 5, none⟩ = some (.string (bs x.owner)) ∧ W.cell? ⟨b, off + k * 10 + 6, none⟩ = some (.string (bs x.group)) ∧ W.cell? ⟨b, off + k * 10 + 7, none⟩ = some (.int .i64 x.mtime) ∧ W.cell? ⟨b, off + k * 10 + 8, none⟩ = some (.string (bs x.link)) ∧ W.cell? ⟨b, off + k * 10 + 9, none⟩ = some (.slice Ax x.data.length capx) ∧ W.cell? ⟨g, 0, none⟩ = some (.string (bs path)) ∧ W.cell? ⟨g, 1, none⟩ = some (.int .i64 kind) ∧ W.cell? ⟨g, 2, none⟩ = some (.int .i64 mo) ∧ W.cell? ⟨g, 3, none⟩ = some (.int .i64 ui) ∧ W.cell? ⟨g, 4, none⟩ = some (.int .i64 gi) ∧ W.cell? ⟨g, 5, none⟩ = some (.string (bs owner)) ∧ W.cell? ⟨g, 6, none⟩ = some (.string (bs group)) ∧ W.cell? ⟨g, 7, none⟩ = some (.int .i64 ti) ∧ W.cell? ⟨g, 8, none⟩ = some (.string (bs link)) ∧ W.cell? ⟨g, 9, none⟩ = some (.slice Ad data.length capd)) [(false, 0), (false, 1), (false, 2), (false, 3), (false, 5), (true, 4), (true, 6), (false, 7)] (by kernel_rfl) (by kernel_rfl) (KS _ ((Below.refl _ _).drew)) ?_
                          simp only [planOps, List.map, List.getD_cons_zero, List.getD_cons_succ]
                          iterate 5 ((first | refine plan_quiet (v := ?_) rfl rfl (fun w' hw' => ?_) ?_ | refine plan_calm (v := ?_) (tt_of) rfl (fun w' hw' => ?_) ?_); rotate_left; (focus (go_simp <;> (first | with_reducible rfl | (rw [if_neg (by simp [undef])]; try rfl)))); simp only [Act.put, List.setIfInBounds_toArray, List.set_cons_zero, List.set_cons_succ])
                          refine plan_loud rfl (fun K hK => ?_)
                          go_simp
                          refine (hnx _).mono ?_
                          rintro r W8 ⟨rfl, hb8⟩
                          go_simp
                          have hbA := ((Below.refl wr.heap.size wr).drew).trans (hb8.mono (Nat.le_refl _))
                          refine hK _ _ (KS _ hbA) ?_
                          clear hK K
                          (try simp only [Act.put, List.setIfInBounds_toArray, List.set_cons_zero, List.set_cons_succ])
                          refine plan_loud rfl (fun K hK => ?_)
                          go_simp
                          refine (hne _).mono ?_
                          rintro r W9 ⟨rfl, hb9⟩
                          go_simp
                          have hbB := hbA.trans (hb9.mono hbA.size)
                          refine hK _ _ (KS _ hbB) ?_
                          clear hK K
                          (try simp only [Act.put, List.setIfInBounds_toArray, List.set_cons_zero, List.set_cons_succ])
                          iterate 1 ((first | refine plan_quiet (v := ?_) rfl rfl (fun w' hw' => ?_) ?_ | refine plan_calm (v := ?_) (tt_of) rfl (fun w' hw' => ?_) ?_); rotate_left; (focus (go_simp <;> (first | with_reducible rfl | (rw [if_neg (by simp [undef])]; try rfl)))); simp only [Act.put, List.setIfInBounds_toArray, List.set_cons_zero, List.set_cons_succ])
                          refine plan_end ?_
                          have hbC := hbZ.trans (hbB.mono hbZ.size)
                          clear hbA hbB hb8 hb9 KS hbZ hnx x0 x1 x2 x3 x4 x5 x6 x7 x8 x9 d0 d1 d2 d3 d4 d5 d6 d7 d8 d9 bE3
                          go_wp2_with fail
                          go_roundg (l.length - (k + 1))
                          case measure => omega
                          case rel => exact ⟨k + 1, a, c, d, by omega, by omega, rfl, rfl, rfl, by first | (simp; done) | (simp; omega), HAN, Lib.hid (by rw [HS2.out, if_neg hyp, HC.out]; rfl), Lib.hid (by rw [HS3.out, if_neg hyp, HD.out]), by omega, by omega, hbC⟩

                      have q4 : (x.kind != 4) = true := by simpa using h4
                      by_cases hkj : k ≤ j
                      · have qkj : decide ((k : Int) ≤ (j : Int)) = true := by simp; exact hkj
                        have qkj2 : decide (k ≤ j) = true := decide_eq_true hkj
                        have HAN : Hid (a1 = numU l (min (k + 1) (j + 1))) := Lib.hid (by rw [HS1.out, if_pos ⟨hkj, h4⟩, HA.out.symm, HA1.out])
                        clear h4 HS1 HA hkj
                        go_upto_region 32 with (first
                          | (go_at_call 26; refine (hne _).mono ?_; rintro r W5 ⟨rfl, hb5⟩; have hfd5 := rfind_any l p _ _ _ (Below.sl good_ent hb5 hsl3); rw [hfn] at hfd5)
                          | (go_at_call 16; refine hfd5.mono ?_; rintro r W6 ⟨rfl, rfl⟩))
                        have k5 := Kept.of_below hb5 nowhere
                        have hbZ := hb3.trans (hb5.mono hb3.size)
                        replace x0 := k5.cell x0 (fun h => h)
                        replace x1 := k5.cell x1 (fun h => h)
                        replace x2 := k5.cell x2 (fun h => h)
                        replace x3 := k5.cell x3 (fun h => h)
                        replace x4 := k5.cell x4 (fun h => h)
                        replace x5 := k5.cell x5 (fun h => h)
                        replace x6 := k5.cell x6 (fun h => h)
                        replace x7 := k5.cell x7 (fun h => h)
                        replace x8 := k5.cell x8 (fun h => h)
                        replace x9 := k5.cell x9 (fun h => h)
                        replace d0 := k5.cell d0 (fun h => h)
                        replace d1 := k5.cell d1 (fun h => h)
                        replace d2 := k5.cell d2 (fun h => h)
                        replace d3 := k5.cell d3 (fun h => h)
                        replace d4 := k5.cell d4 (fun h => h)
                        replace d5 := k5.cell d5 (fun h => h)
                        replace d6 := k5.cell d6 (fun h => h)
                        replace d7 := k5.cell d7 (fun h => h)
                        replace d8 := k5.cell d8 (fun h => h)
                        replace d9 := k5.cell d9 (fun h => h)
                        clear hfd5 hfd k5
                        have KS : ∀ W', Below W5.heap.size W5 W' → (fun W => W.cell? ⟨b, off + k * 10, none⟩ = some (.string (bs x.path)) ∧ W.cell? ⟨b, off + k * 10 + 1, none⟩ = some (.int .i64 x.kind) ∧ W.cell? ⟨b, off + k * 10 + 2, none⟩ = some (.int .i64 x.mode) ∧ W.cell? ⟨b, off + k * 10 + 3, none⟩ = some (.int .i64 x.uid) ∧ W.cell? ⟨b, off + k * 10 + 4, none⟩ = some (.int .i64 x.gid) ∧ W.cell? ⟨b, off + k * 10 + 5, none⟩ = some (.string (bs x.owner)) ∧ W.cell? ⟨b, off + k * 10 + 6, none⟩ = some (.string (bs x.group)) ∧ W.cell? ⟨b, off + k * 10 + 7, none⟩ = some (.int .i64 x.mtime) ∧ W.cell? ⟨b, off + k * 10 + 8, none⟩ = some (.string (bs x.link)) ∧ W.cell? ⟨b, off + k * 10 + 9, none⟩ = some (.slice Ax x.data.length capx) ∧ W.cell? ⟨g, 0, none⟩ = some (.string (bs path)) ∧ W.cell? ⟨g, 1, none⟩ = some (.int .i64 kind) ∧ W.cell? ⟨g, 2, none⟩ = some (.int .i64 mo) ∧ W.cell? ⟨g, 3, none⟩ = some (.int .i64 ui) ∧ W.cell? ⟨g, 4, none⟩ = some (.int .i64 gi) ∧ W.cell? ⟨g, 5, none⟩ = some (.string (bs owner)) ∧ W.cell? ⟨g, 6, none⟩ = some (.string (bs group)) ∧ W.cell? ⟨g, 7, none⟩ = some (.int .i64 ti) ∧ W.cell? ⟨g, 8, none⟩ = some (.string (bs link)) ∧ W.cell? ⟨g, 9, none⟩ = some (.slice Ad data.length capd)) W' := fun W' h => ⟨(Kept.of_below h nowhere).cell x0 (fun h => h), (Kept.of_below h nowhere).cell x1 (fun h => h), (Kept.of_below h nowhere).cell x2 (fun h => h), (Kept.of_below h nowhere).cell x3 (fun h => h), (Kept.of_below h nowhere).cell x4 (fun h => h), (Kept.of_below h nowhere).cell x5 (fun h => h), (Kept.of_below h nowhere).cell x6 (fun h => h), (Kept.of_below h nowhere).cell x7 (fun h => h), (Kept.of_below h nowhere).cell x8 (fun h => h), (Kept.of_below h nowhere).cell x9 (fun h => h), (Kept.of_below h nowhere).cell d0 (fun h => h), (Kept.of_below h nowhere).cell d1 (fun h => h), (Kept.of_below h nowhere).cell d2 (fun h => h), (Kept.of_below h nowhere).cell d3 (fun h => h), (Kept.of_below h nowhere).cell d4 (fun h => h), (Kept.of_below h nowhere).cell d5 (fun h => h), (Kept.of_below h nowhere).cell d6 (fun h => h), (Kept.of_below h nowhere).cell d7 (fun h => h), (Kept.of_below h nowhere).cell d8 (fun h => h), (Kept.of_below h nowhere).cell d9 (fun h => h)⟩
                        by_cases hyp : y = p
                        · have hd : decide (y = p) = true := decide_eq_true hyp
                          rw [hd] at hqy
                          clear hd
                          refine wp_region_plan (fun W => W.cell? ⟨b, off + k * 10, none⟩ = some (.string (bs x.path)) ∧ W.cell? ⟨b, off + k * 10 + 1, none⟩ = some (.int .i64 x.kind) ∧ W.cell? ⟨b, off + k * 10 + 2, none⟩ = some (.int .i64 x.mode) ∧ W.cell? ⟨b, off + k * 10 + 3, none⟩ = some (.int .i64 x.uid) ∧ W.cell? ⟨b, off + k * 10 + 4, none⟩ = some (.int .i64 x.gid) ∧ W.cell? ⟨b, off + k * 10 + 5, none⟩ = some (.string (bs x.owner)) ∧ W.cell? ⟨b, off + k * 10 + 6, none⟩ = some (.string (bs x.group)) ∧ W.cell? ⟨b, off + k * 10 + 7, none⟩ = some (.int .i64 x.mtime) ∧ W.cell? ⟨b, off + k * 10 + 8, none⟩ = some (.string (bs x.link)) ∧ W.cell? ⟨b, off + k * 10 + 9, none⟩ = some (.slice Ax x.data.length capx) ∧ W.cell? ⟨g, 0, none⟩ = some (.string (bs path)) ∧ W.cell? ⟨g, 1, none⟩ = some (.int .i64 kind) ∧ W.cell? ⟨g, 2, none⟩ = some (.int .i64 mo) ∧ W.cell? ⟨g, 3, none⟩ = some (.int .i64 ui) ∧ W.cell? ⟨g, 4, none⟩ = some (.int .i64 gi) ∧ W.cell? ⟨g, 5, none⟩ = some (.string (bs owner)) ∧ W.cell? ⟨g, 6, none⟩ = some (.string (bs group)) ∧ W.cell? ⟨g, 7, none⟩ = some (.int .i64 ti) ∧ W.cell? ⟨g, 8, none⟩ = some (.string (bs link)) ∧ W.cell? ⟨g, 9, none⟩ = some (.slice Ad data.length capd)) [(false, 0), (false, 1), (false, 2), (false, 3), (false, 5), (true, 4), (true, 6), (false, 7)] (by kernel_rfl) (by kernel_rfl) (KS _ ((Below.refl _ _).drew)) ?_
                          simp only [planOps, List.map, List.getD_cons_zero, List.getD_cons_succ]
                          iterate 5 ((first | refine plan_quiet (v := ?_) rfl rfl (fun w' hw' => ?_) ?_ | refine plan_calm (v := ?_) (tt_of) rfl (fun w' hw' => ?_) ?_); rotate_left; (focus (go_simp <;> (first | with_reducible rfl | (rw [if_neg (by simp [undef])]; try rfl)))); simp only [Act.put, List.setIfInBounds_toArray, List.set_cons_zero, List.set_cons_succ])
                          refine plan_loud rfl (fun K hK => ?_)
                          go_simp
                          refine (hnx _).mono ?_
                          rintro r W8 ⟨rfl, hb8⟩
                          go_simp
                          have hbA := ((Below.refl W5.heap.size W5).drew).trans (hb8.mono (Nat.le_refl _))
                          refine hK _ _ (KS _ hbA) ?_
                          clear hK K
                          (try simp only [Act.put, List.setIfInBounds_toArray, List.set_cons_zero, List.set_cons_succ])
                          refine plan_loud rfl (fun K hK => ?_)
                          go_simp
                          refine (hne _).mono ?_
                          rintro r W9 ⟨rfl, hb9⟩
                          go_simp
                          have hbB := hbA.trans (hb9.mono hbA.size)
                          refine hK _ _ (KS _ hbB) ?_
                          clear hK K
                          (try simp only [Act.put, List.setIfInBounds_toArray, List.set_cons_zero, List.set_cons_succ])
                          iterate 1 ((first | refine plan_quiet (v := ?_) rfl rfl (fun w' hw' => ?_) ?_ | refine plan_calm (v := ?_) (tt_of) rfl (fun w' hw' => ?_) ?_); rotate_left; (focus (go_simp <;> (first | with_reducible rfl | (rw [if_neg (by simp [undef])]; try rfl)))); simp only [Act.put, List.setIfInBounds_toArray, List.set_cons_zero, List.set_cons_succ])
                          refine plan_end ?_
                          have hbC := hbZ.trans (hbB.mono hbZ.size)
                          clear hbA hbB hb8 hb9 KS hbZ hnx x0 x1 x2 x3 x4 x5 x6 x7 x8 x9 d0 d1 d2 d3 d4 d5 d6 d7 d8 d9 bE3
                          go_wp2_with fail
                          go_roundg (l.length - (k + 1))
                          case measure => omega
                          case rel => exact ⟨k + 1, a1, cc1, k, by omega, by omega, rfl, rfl, rfl, by first | (simp; done) | (simp; omega), HAN, Lib.hid (by rw [HS2.out, if_pos hyp, HC1.out, HC.out]), Lib.hid (by rw [HS3.out, if_pos hyp]), by have := HA1.out; omega, by have := HC1.out; omega, hbC⟩

                        · have hd : decide (y = p) = false := decide_eq_false hyp
                          rw [hd] at hqy
                          clear hd
                          refine wp_region_plan (fun W => W.cell? ⟨b, off + k * 10, none⟩ = some (.string (bs x.path)) ∧ W.cell? ⟨b, off + k * 10 + 1, none⟩ = some (.int .i64 x.kind) ∧ W.cell? ⟨b, off + k * 10 + 2, none⟩ = some (.int .i64 x.mode) ∧ W.cell? ⟨b, off + k * 10 + 3, none⟩ = some (.int .i64 x.uid) ∧ W.cell? ⟨b, off + k * 10 + 4, none⟩ = some (.int .i64 x.gid) ∧ W.cell? ⟨b, off + k * 10 + 5, none⟩ = some (.string (bs x.owner)) ∧ W.cell? ⟨b, off + k * 10 + 6, none⟩ = some (.string (bs x.group)) ∧ W.cell? ⟨b, off + k * 10 + 7, none⟩ = some (.int .i64 x.mtime) ∧ W.cell? ⟨b, off + k * 10 + 8, none⟩ = some (.string (bs x.link)) ∧ W.cell? ⟨b, off + k * 10 + 9, none⟩ = some (.slice Ax x.data.length capx) ∧ W.cell? ⟨g, 0, none⟩ = some (.string (bs path)) ∧ W.cell? ⟨g, 1, none⟩ = some (.int .i64 kind) ∧ W.cell? ⟨g, 2, none⟩ = some (.int .i64 mo) ∧ W.cell? ⟨g, 3, none⟩ = some (.int .i64 ui) ∧ W.cell? ⟨g, 4, none⟩ = some (.int .i64 gi) ∧ W.cell? ⟨g, 5, none⟩ = some (.string (bs owner)) ∧ W.cell? ⟨g, 6, none⟩ = some (.string (bs group)) ∧ W.cell? ⟨g, 7, none⟩ = some (.int .i64 ti) ∧ W.cell? ⟨g, 8, none⟩ = some (.string (bs link)) ∧ W.cell? ⟨g, 9, none⟩ = some (.slice Ad data.length capd)) [(false, 0), (false, 1), (false, 2), (false, 3), (false, 5), (true, 4), (true, 6), (false, 7)] (by kernel_rfl) (by kernel_rfl) (KS _ ((Below.refl _ _).drew)) ?_
                          simp only [planOps, List.map, List.getD_cons_zero, List.getD_cons_succ]
                          iterate 5 ((first | refine plan_quiet (v := ?_) rfl rfl (fun w' hw' => ?_) ?_ | refine plan_calm (v := ?_) (tt_of) rfl (fun w' hw' => ?_) ?_); rotate_left; (focus (go_simp <;> (first | with_reducible rfl | (rw [if_neg (by simp [undef])]; try rfl)))); simp only [Act.put, List.setIfInBounds_toArray, List.set_cons_zero, List.set_cons_succ])
                          refine plan_loud rfl (fun K hK => ?_)
                          go_simp
                          refine (hnx _).mono ?_
                          rintro r W8 ⟨rfl, hb8⟩
                          go_simp
                          have hbA := ((Below.refl W5.heap.size W5).drew).trans (hb8.mono (Nat.le_refl _))
                          refine hK _ _ (KS _ hbA) ?_
                          clear hK K
                          (try simp only [Act.put, List.setIfInBounds_toArray, List.set_cons_zero, List.set_cons_succ])
                          refine plan_loud rfl (fun K hK => ?_)
                          go_simp
                          refine (hne _).mono ?_
                          rintro r W9 ⟨rfl, hb9⟩
                          go_simp
                          have hbB := hbA.trans (hb9.mono hbA.size)
                          refine hK _ _ (KS _ hbB) ?_
                          clear hK K
                          (try simp only [Act.put, List.setIfInBounds_toArray, List.set_cons_zero, List.set_cons_succ])
                          iterate 1 ((first | refine plan_quiet (v := ?_) rfl rfl (fun w' hw' => ?_) ?_ | refine plan_calm (v := ?_) (tt_of) rfl (fun w' hw' => ?_) ?_); rotate_left; (focus (go_simp <;> (first | with_reducible rfl | (rw [if_neg (by simp [undef])]; try rfl)))); simp only [Act.put, List.setIfInBounds_toArray, List.set_cons_zero, List.set_cons_succ])
                          refine plan_end ?_
                          have hbC := hbZ.trans (hbB.mono hbZ.size)
                          clear hbA hbB hb8 hb9 KS hbZ hnx x0 x1 x2 x3 x4 x5 x6 x7 x8 x9 d0 d1 d2 d3 d4 d5 d6 d7 d8 d9 bE3
                          go_wp2_with fail
                          go_roundg (l.length - (k + 1))
                          case measure => omega
                          case rel => exact ⟨k + 1, a1, c, d, by omega, by omega, rfl, rfl, rfl, by first | (simp; done) | (simp; omega), HAN, Lib.hid (by rw [HS2.out, if_neg hyp, HC.out]; rfl), Lib.hid (by rw [HS3.out, if_neg hyp, HD.out]), by have := HA1.out; omega, by omega, hbC⟩

                      · have qkj : decide ((k : Int) ≤ (j : Int)) = false := by simp; omega
                        have qkj2 : decide (k ≤ j) = false := decide_eq_false hkj
                        have HAN : Hid (a = numU l (min (k + 1) (j + 1))) := Lib.hid (by rw [HS1.out, if_neg (fun h => hkj h.1), HA.out]; rfl)
                        clear h4 HS1 HA hkj wa HA1
                        go_upto_region 32 with (first
                          | (go_at_call 26; refine (hne _).mono ?_; rintro r W5 ⟨rfl, hb5⟩; have hfd5 := rfind_any l p _ _ _ (Below.sl good_ent hb5 hsl3); rw [hfn] at hfd5)
                          | (go_at_call 16; refine hfd5.mono ?_; rintro r W6 ⟨rfl, rfl⟩))
                        have k5 := Kept.of_below hb5 nowhere
                        have hbZ := hb3.trans (hb5.mono hb3.size)
                        replace x0 := k5.cell x0 (fun h => h)
                        replace x1 := k5.cell x1 (fun h => h)
                        replace x2 := k5.cell x2 (fun h => h)
                        replace x3 := k5.cell x3 (fun h => h)
                        replace x4 := k5.cell x4 (fun h => h)
                        replace x5 := k5.cell x5 (fun h => h)
                        replace x6 := k5.cell x6 (fun h => h)
                        replace x7 := k5.cell x7 (fun h => h)
                        replace x8 := k5.cell x8 (fun h => h)
                        replace x9 := k5.cell x9 (fun h => h)
                        replace d0 := k5.cell d0 (fun h => h)
                        replace d1 := k5.cell d1 (fun h => h)
                        replace d2 := k5.cell d2 (fun h => h)
                        replace d3 := k5.cell d3 (fun h => h)
                        replace d4 := k5.cell d4 (fun h => h)
                        replace d5 := k5.cell d5 (fun h => h)
                        replace d6 := k5.cell d6 (fun h => h)
                        replace d7 := k5.cell d7 (fun h => h)
                        replace d8 := k5.cell d8 (fun h => h)
                        replace d9 := k5.cell d9 (fun h => h)
                        clear hfd5 hfd k5
                        have KS : ∀ W', Below W5.heap.size W5 W' → (fun W => W.cell? ⟨b, off + k * 10, none⟩ = some (.string (bs x.path)) ∧ W.cell? ⟨b, off + k * 10 + 1, none⟩ = some (.int .i64 x.kind) ∧ W.cell? ⟨b, off + k * 10 + 2, none⟩ = some (.int .i64 x.mode) ∧ W.cell? ⟨b, off + k * 10 + 3, none⟩ = some (.int .i64 x.uid) ∧ W.cell? ⟨b, off + k * 10 + 4, none⟩ = some (.int .i64 x.gid) ∧ W.cell? ⟨b, off + k * 10 + 5, none⟩ = some (.string (bs x.owner)) ∧ W.cell? ⟨b, off + k * 10 + 6, none⟩ = some (.string (bs x.group)) ∧ W.cell? ⟨b, off + k * 10 + 7, none⟩ = some (.int .i64 x.mtime) ∧ W.cell? ⟨b, off + k * 10 + 8, none⟩ = some (.string (bs x.link)) ∧ W.cell? ⟨b, off + k * 10 + 9, none⟩ = some (.slice Ax x.data.length capx) ∧ W.cell? ⟨g, 0, none⟩ = some (.string (bs path)) ∧ W.cell? ⟨g, 1, none⟩ = some (.int .i64 kind) ∧ W.cell? ⟨g, 2, none⟩ = some (.int .i64 mo) ∧ W.cell? ⟨g, 3, none⟩ = some (.int .i64 ui) ∧ W.cell? ⟨g, 4, none⟩ = some (.int .i64 gi) ∧ W.cell? ⟨g, 5, none⟩ = some (.string (bs owner)) ∧ W.cell? ⟨g, 6, none⟩ = some (.string (bs group)) ∧ W.cell? ⟨g, 7, none⟩ = some (.int .i64 ti) ∧ W.cell? ⟨g, 8, none⟩ = some (.string (bs link)) ∧ W.cell? ⟨g, 9, none⟩ = some (.slice Ad data.length capd)) W' := fun W' h => ⟨(Kept.of_below h nowhere).cell x0 (fun h => h), (Kept.of_below h nowhere).cell x1 (fun h => h), (Kept.of_below h nowhere).cell x2 (fun h => h), (Kept.of_below h nowhere).cell x3 (fun h => h), (Kept.of_below h nowhere).cell x4 (fun h => h), (Kept.of_below h nowhere).cell x5 (fun h => h), (Kept.of_below h nowhere).cell x6 (fun h => h), (Kept.of_below h nowhere).cell x7 (fun h => h), (Kept.of_below h nowhere).cell x8 (fun h => h), (Kept.of_below h nowhere).cell x9 (fun h => h), (Kept.of_below h nowhere).cell d0 (fun h => h), (Kept.of_below h nowhere).cell d1 (fun h => h), (Kept.of_below h nowhere).cell d2 (fun h => h), (Kept.of_below h nowhere).cell d3 (fun h => h), (Kept.of_below h nowhere).cell d4 (fun h => h), (Kept.of_below h nowhere).cell d5 (fun h => h), (Kept.of_below h nowhere).cell d6 (fun h => h), (Kept.of_below h nowhere).cell d7 (fun h => h), (Kept.of_below h nowhere).cell d8 (fun h => h), (Kept.of_below h nowhere).cell d9 (fun h => h)⟩
                        by_cases hyp : y = p
                        · have hd : decide (y = p) = true := decide_eq_true hyp
                          rw [hd] at hqy
                          clear hd
                          refine wp_region_plan (fun W => W.cell? ⟨b, off + k * 10, none⟩ = some (.string (bs x.path)) ∧ W.cell? ⟨b, off + k * 10 + 1, none⟩ = some (.int .i64 x.kind) ∧ W.cell? ⟨b, off + k * 10 + 2, none⟩ = some (.int .i64 x.mode) ∧ W.cell? ⟨b, off + k * 10 + 3, none⟩ = some (.int .i64 x.uid) ∧ W.cell? ⟨b, off + k * 10 + 4, none⟩ = some (.int .i64 x.gid) ∧ W.cell? ⟨b, off + k * 10 + 5, none⟩ = some (.string (bs x.owner)) ∧ W.cell? ⟨b, off + k * 10 + 6, none⟩ = some (.string (bs x.group)) ∧ W.cell? ⟨b, off + k * 10 + 7, none⟩ = some (.int .i64 x.mtime) ∧ W.cell? ⟨b, off + k * 10 + 8, none⟩ = some (.string (bs x.link)) ∧ W.cell? ⟨b, off + k * 10 + 9, none⟩ = some (.slice Ax x.data.length capx) ∧ W.cell? ⟨g, 0, none⟩ = some (.string (bs path)) ∧ W.cell? ⟨g, 1, none⟩ = some (.int .i64 kind) ∧ W.cell? ⟨g, 2, none⟩ = some (.int .i64 mo) ∧ W.cell? ⟨g, 3, none⟩ = some (.int .i64 ui) ∧ W.cell? ⟨g, 4, none⟩ = some (.int .i64 gi) ∧ W.cell? ⟨g, 5, none⟩ = some (.string (bs owner)) ∧ W.cell? ⟨g, 6, none⟩ = some (.string (bs group)) ∧ W.cell? ⟨g, 7, none⟩ = some (.int .i64 ti) ∧ W.cell? ⟨g, 8, none⟩ = some (.string (bs link)) ∧ W.cell? ⟨g, 9, none⟩ = some (.slice Ad data.length capd)) [(false, 0), (false, 1), (false, 2), (false, 3), (false, 5), (true, 4), (true, 6), (false, 7)] (by kernel_rfl) (by kernel_rfl) (KS _ ((Below.refl _ _).drew)) ?_
                          simp only [planOps, List.map, List.getD_cons_zero, List.getD_cons_succ]
                          iterate 5 ((first | refine plan_quiet (v := ?_) rfl rfl (fun w' hw' => ?_) ?_ | refine plan_calm (v := ?_) (tt_of) rfl (fun w' hw' => ?_) ?_); rotate_left; (focus (go_simp <;> (first | with_reducible rfl | (rw [if_neg (by simp [undef])]; try rfl)))); simp only [Act.put, List.setIfInBounds_toArray, List.set_cons_zero, List.set_cons_succ])
                          refine plan_loud rfl (fun K hK => ?_)
                          go_simp
                          refine (hnx _).mono ?_
                          rintro r W8 ⟨rfl, hb8⟩
                          go_simp
                          have hbA := ((Below.refl W5.heap.size W5).drew).trans (hb8.mono (Nat.le_refl _))
                          refine hK _ _ (KS _ hbA) ?_
                          clear hK K
                          (try simp only [Act.put, List.setIfInBounds_toArray, List.set_cons_zero, List.set_cons_succ])
                          refine plan_loud rfl (fun K hK => ?_)
                          go_simp
                          refine (hne _).mono ?_
                          rintro r W9 ⟨rfl, hb9⟩
                          go_simp
                          have hbB := hbA.trans (hb9.mono hbA.size)
                          refine hK _ _ (KS _ hbB) ?_
                          clear hK K
                          (try simp only [Act.put, List.setIfInBounds_toArray, List.set_cons_zero, List.set_cons_succ])
                          iterate 1 ((first | refine plan_quiet (v := ?_) rfl rfl (fun w' hw' => ?_) ?_ | refine plan_calm (v := ?_) (tt_of) rfl (fun w' hw' => ?_) ?_); rotate_left; (focus (go_simp <;> (first | with_reducible rfl | (rw [if_neg (by simp [undef])]; try rfl)))); simp only [Act.put, List.setIfInBounds_toArray, List.set_cons_zero, List.set_cons_succ])
                          refine plan_end ?_
                          have hbC := hbZ.trans (hbB.mono hbZ.size)
                          clear hbA hbB hb8 hb9 KS hbZ hnx x0 x1 x2 x3 x4 x5 x6 x7 x8 x9 d0 d1 d2 d3 d4 d5 d6 d7 d8 d9 bE3
                          go_wp2_with fail
                          go_roundg (l.length - (k + 1))
                          case measure => omega
                          case rel => exact ⟨k + 1, a, cc1, k, by omega, by omega, rfl, rfl, rfl, by first | (simp; done) | (simp; omega), HAN, Lib.hid (by rw [HS2.out, if_pos hyp, HC1.out, HC.out]), Lib.hid (by rw [HS3.out, if_pos hyp]), by omega, by have := HC1.out; omega, hbC⟩

                        · have hd : decide (y = p) = false := decide_eq_false hyp
                          rw [hd] at hqy
                          clear hd
                          refine wp_region_plan (fun W => W.cell? ⟨b, off + k * 10, none⟩ = some (.string (bs x.path)) ∧ W.cell? ⟨b, off + k * 10 + 1, none⟩ = some (.int .i64 x.kind) ∧ W.cell? ⟨b, off + k * 10 + 2, none⟩ = some (.int .i64 x.mode) ∧ W.cell? ⟨b, off + k * 10 + 3, none⟩ = some (.int .i64 x.uid) ∧ W.cell? ⟨b, off + k * 10 + 4, none⟩ = some (.int .i64 x.gid) ∧ W.cell? ⟨b, off + k * 10 + 5, none⟩ = some (.string (bs x.owner)) ∧ W.cell? ⟨b, off + k * 10 + 6, none⟩ = some (.string (bs x.group)) ∧ W.cell? ⟨b, off + k * 10 + 7, none⟩ = some (.int .i64 x.mtime) ∧ W.cell? ⟨b, off + k * 10 + 8, none⟩ = some (.string (bs x.link)) ∧ W.cell? ⟨b, off + k * 10 + 9, none⟩ = some (.slice Ax x.data.length capx) ∧ W.cell? ⟨g, 0, none⟩ = some (.string (bs path)) ∧ W.cell? ⟨g, 1, none⟩ = some (.int .i64 kind) ∧ W.cell? ⟨g, 2, none⟩ = some (.int .i64 mo) ∧ W.cell? ⟨g, 3, none⟩ = some (.int .i64 ui) ∧ W.cell? ⟨g, 4, none⟩ = some (.int .i64 gi) ∧ W.cell? ⟨g, 5, none⟩ = some (.string (bs owner)) ∧ W.cell? ⟨g, 6, none⟩ = some (.string (bs group)) ∧ W.cell? ⟨g, 7, none⟩ = some (.int .i64 ti) ∧ W.cell? ⟨g, 8, none⟩ = some (.string (bs link)) ∧ W.cell? ⟨g, 9, none⟩ = some (.slice Ad data.length capd)) [(false, 0), (false, 1), (false, 2), (false, 3), (false, 5), (true, 4), (true, 6), (false, 7)] (by kernel_rfl) (by kernel_rfl) (KS _ ((Below.refl _ _).drew)) ?_
                          simp only [planOps, List.map, List.getD_cons_zero, List.getD_cons_succ]
                          iterate 5 ((first | refine plan_quiet (v := ?_) rfl rfl (fun w' hw' => ?_) ?_ | refine plan_calm (v := ?_) (tt_of) rfl (fun w' hw' => ?_) ?_); rotate_left; (focus (go_simp <;> (first | with_reducible rfl | (rw [if_neg (by simp [undef])]; try rfl)))); simp only [Act.put, List.setIfInBounds_toArray, List.set_cons_zero, List.set_cons_succ])
                          refine plan_loud rfl (fun K hK => ?_)
                          go_simp
                          refine (hnx _).mono ?_
                          rintro r W8 ⟨rfl, hb8⟩
                          go_simp
                          have hbA := ((Below.refl W5.heap.size W5).drew).trans (hb8.mono (Nat.le_refl _))
                          refine hK _ _ (KS _ hbA) ?_
                          clear hK K
                          (try simp only [Act.put, List.setIfInBounds_toArray, List.set_cons_zero, List.set_cons_succ])
                          refine plan_loud rfl (fun K hK => ?_)
                          go_simp
                          refine (hne _).mono ?_
                          rintro r W9 ⟨rfl, hb9⟩
                          go_simp
                          have hbB := hbA.trans (hb9.mono hbA.size)
                          refine hK _ _ (KS _ hbB) ?_
                          clear hK K
                          (try simp only [Act.put, List.setIfInBounds_toArray, List.set_cons_zero, List.set_cons_succ])
                          iterate 1 ((first | refine plan_quiet (v := ?_) rfl rfl (fun w' hw' => ?_) ?_ | refine plan_calm (v := ?_) (tt_of) rfl (fun w' hw' => ?_) ?_); rotate_left; (focus (go_simp <;> (first | with_reducible rfl | (rw [if_neg (by simp [undef])]; try rfl)))); simp only [Act.put, List.setIfInBounds_toArray, List.set_cons_zero, List.set_cons_succ])
                          refine plan_end ?_
                          have hbC := hbZ.trans (hbB.mono hbZ.size)
                          clear hbA hbB hb8 hb9 KS hbZ hnx x0 x1 x2 x3 x4 x5 x6 x7 x8 x9 d0 d1 d2 d3 d4 d5 d6 d7 d8 d9 bE3
                          go_wp2_with fail
                          go_roundg (l.length - (k + 1))
                          case measure => omega
                          case rel => exact ⟨k + 1, a, c, d, by omega, by omega, rfl, rfl, rfl, by first | (simp; done) | (simp; omega), HAN, Lib.hid (by rw [HS2.out, if_neg hyp, HC.out]; rfl), Lib.hid (by rw [HS3.out, if_neg hyp, HD.out]), by omega, by omega, hbC⟩

                    · have hke : k = l.length := by omega
                      subst hke
                      have HA2 : Hid (a = numU l (j + 1)) := Lib.hid (by rw [HA.out, Nat.min_eq_right (by omega)])
                      have HD2 : Hid (d = lstU l p 0 l.length) := Lib.hid (by rw [HD.out, HLA.out i 0])
                      have HLL : Hid (kind ≠ 4 → kind ≠ 1 → c = 1) := Lib.hid fun h4 h1 => HC.out.trans (HL1.out h4 h1)
                      rw [← HA2.out, ← HC.out, ← HD2.out] at HME
                      have hsl3 := Below.sl good_ent hb3 hsl2
                      have hdf3 := Below.sl good_byte hb3 hdf2
                      have hatf3 := hatf2.below hb3
                      have hbz := hb2.trans (hb3.mono hb2.size)
                      have hfl : f.data.length ≤ 100000 := HFB
                      clear HA HA2 HC HD HD2 hna hnc HL1 HLA hb2 hb3 hsl2 hdf2 hatf2 bE bE3
                      by_cases h2 : kind = 2
                      · have q2 : (kind == 2) = true := by simpa using h2
                        obtain ⟨md, HMD⟩ : ∃ x, Hid (x = 16384 + mo) := ⟨_, Lib.hid rfl⟩
                        have hmdl : md ≤ 4294967295 := by have := HMD.out; omega
                        have wm : IntKind.i64.wrap ((mo : Int) + 16384) = (md : Int) := by rw [i64_in _ (by omega) (by omega), HMD.out]; omega
                        have HV : Hid (me = memB (numL a md 2 ui gi ti ([] : List UInt8).length (path.length + 1)) path []) := Lib.hid (by rw [HME.out, if_pos h2, HMD.out]; rfl)
                        clear HME h2 HLL
                        have hmm := memB_le a md 2 ui gi ti ([] : List UInt8).length (path.length + 1) path ([] : List UInt8) (by omega) (by simp)
                        have hmem : ∀ W : World, Calls Tryd.prog 27 #[.int .i64 a, .int .i64 md, .int .i64 2, .agg #[.string (bs path), .int .i64 kind, .int .i64 mo, .int .i64 ui, .int .i64 gi, .string (bs owner), .string (bs group), .int .i64 ti, .string (bs link), .slice Ad data.length capd], .string (bs path), .string (bs ([] : List UInt8))] W fun e w' => e = .returned (.string (bs (memB (numL a md 2 ui gi ti ([] : List UInt8).length (path.length + 1)) path ([] : List UInt8)))) ∧ Below W.heap.size W w' := fun W => rmember_any W a md 2 ui gi ti (by omega) (by omega) (by omega) (by omega) (by omega) (by omega) path owner group link kind mo Ad _ capd path (by omega) ([] : List UInt8) (by first | omega | simp)
                        rw [← HV.out] at hmm hmem
                        have HST2 : Hid (arcU l (i + 1) = q ++ me) := Lib.hid (by rw [HST.out, HQ.out])
                        have HB9 : Hid ((q ++ me).length ≤ (i + 1) * 400000) := Lib.hid (by rw [List.length_append]; exact bd_step HBL.out hmm)
                        clear HV HST HQ HBL
                        go_wp2_with (first
                          | (go_at_call 27; refine (hmem _).mono ?_; rintro e W9 ⟨rfl, hb9⟩; clear hmem))
                        have hbzz := hbz.trans (hb9.mono hbz.size)
                        go_roundg (l.length - (i + 1))
                        case measure => omega
                        case rel => exact ⟨i + 1, q ++ me, by omega, rfl, by first | (simp; done) | (simp; omega), rfl, HST2, HB9, hbzz⟩
                      have q2 : (kind == 2) = false := by simpa using h2
                      by_cases h3 : kind = 3
                      · have q3 : (kind == 3) = true := by simpa using h3
                        obtain ⟨md, HMD⟩ : ∃ x, Hid (x = 40960 + mo) := ⟨_, Lib.hid rfl⟩
                        have hmdl : md ≤ 4294967295 := by have := HMD.out; omega
                        have wm : IntKind.i64.wrap ((mo : Int) + 40960) = (md : Int) := by rw [i64_in _ (by omega) (by omega), HMD.out]; omega
                        have HV : Hid (me = memB (numL a md 1 ui gi ti link.length (path.length + 1)) path link) := Lib.hid (by rw [HME.out, if_neg h2, if_pos h3, HMD.out])
                        clear HME h2 h3 HLL
                        have hmm := memB_le a md 1 ui gi ti link.length (path.length + 1) path link (by omega) (by omega)
                        have hmem : ∀ W : World, Calls Tryd.prog 27 #[.int .i64 a, .int .i64 md, .int .i64 1, .agg #[.string (bs path), .int .i64 kind, .int .i64 mo, .int .i64 ui, .int .i64 gi, .string (bs owner), .string (bs group), .int .i64 ti, .string (bs link), .slice Ad data.length capd], .string (bs path), .string (bs link)] W fun e w' => e = .returned (.string (bs (memB (numL a md 1 ui gi ti link.length (path.length + 1)) path link))) ∧ Below W.heap.size W w' := fun W => rmember_any W a md 1 ui gi ti (by omega) (by omega) (by omega) (by omega) (by omega) (by omega) path owner group link kind mo Ad _ capd path (by omega) link (by first | omega | simp)
                        rw [← HV.out] at hmm hmem
                        have HST2 : Hid (arcU l (i + 1) = q ++ me) := Lib.hid (by rw [HST.out, HQ.out])
                        have HB9 : Hid ((q ++ me).length ≤ (i + 1) * 400000) := Lib.hid (by rw [List.length_append]; exact bd_step HBL.out hmm)
                        clear HV HST HQ HBL
                        go_wp2_with (first
                          | (go_at_call 27; refine (hmem _).mono ?_; rintro e W9 ⟨rfl, hb9⟩; clear hmem))
                        have hbzz := hbz.trans (hb9.mono hbz.size)
                        go_roundg (l.length - (i + 1))
                        case measure => omega
                        case rel => exact ⟨i + 1, q ++ me, by omega, rfl, by first | (simp; done) | (simp; omega), rfl, HST2, HB9, hbzz⟩
                      have q3 : (kind == 3) = false := by simpa using h3
                      obtain ⟨md, HMD⟩ : ∃ x, Hid (x = 32768 + mo) := ⟨_, Lib.hid rfl⟩
                      have hmdl : md ≤ 4294967295 := by have := HMD.out; omega
                      have wm : IntKind.i64.wrap ((mo : Int) + 32768) = (md : Int) := by rw [i64_in _ (by omega) (by omega), HMD.out]; omega
                      by_cases hni : d = i
                      · have HV : Hid (me = memB (numL a md c ui gi ti f.data.length (path.length + 1)) path f.data) := Lib.hid (by rw [HME.out, if_neg h2, if_neg h3, if_pos hni, HMD.out])
                        have hqi : ((d : Int) == (i : Int)) = true := by rw [beq_iff_eq]; omega
                        obtain ⟨Af, capf, rfl, _, _⟩ := hdf3.form
                        have j1 : (0 : Int) ≤ (j : Int) := by omega
                        have j2 : (j : Int) < (l.length : Int) := by omega
                        clear HME h2 h3 hni HLL
                        go_upto_region 39 with (first
                          | (go_at_call 26; refine (hne _).mono ?_; rintro r W5 ⟨rfl, hb5⟩; clear hne; have hfd5 := rfind_any l p _ _ _ (Below.sl good_ent hb5 hsl3); rw [hfn] at hfd5; have x9 := (hatf3.below hb5).c9; have hst : (convert 26 9 (.slice Af f.data.length capf)).run Tryd.prog W5 = .ok (.string (bs f.data)) W5 := str8 (Below.sl good_byte hb5 hdf3).sb8)
                          | (go_at_call 16; refine hfd5.mono ?_; rintro r W6 ⟨rfl, rfl⟩))
                        have hbz5 := hbz.trans (hb5.mono hbz.size)
                        have k5 := Kept.of_below hb5 nowhere
                        replace d0 := k5.cell d0 (fun h => h)
                        replace d1 := k5.cell d1 (fun h => h)
                        replace d2 := k5.cell d2 (fun h => h)
                        replace d3 := k5.cell d3 (fun h => h)
                        replace d4 := k5.cell d4 (fun h => h)
                        replace d5 := k5.cell d5 (fun h => h)
                        replace d6 := k5.cell d6 (fun h => h)
                        replace d7 := k5.cell d7 (fun h => h)
                        replace d8 := k5.cell d8 (fun h => h)
                        replace d9 := k5.cell d9 (fun h => h)
                        clear hfd5 x9 hst hsl3 hdf3 hatf3 hb5 k5 hbz
                        have hmm := memB_le a md c ui gi ti f.data.length (path.length + 1) path f.data (by omega) (by omega)
                        have hmem : ∀ W : World, Calls Tryd.prog 27 #[.int .i64 a, .int .i64 md, .int .i64 c, .agg #[.string (bs path), .int .i64 kind, .int .i64 mo, .int .i64 ui, .int .i64 gi, .string (bs owner), .string (bs group), .int .i64 ti, .string (bs link), .slice Ad data.length capd], .string (bs path), .string (bs f.data)] W fun e w' => e = .returned (.string (bs (memB (numL a md c ui gi ti f.data.length (path.length + 1)) path f.data))) ∧ Below W.heap.size W w' := fun W => rmember_any W a md c ui gi ti (by omega) (by omega) (by omega) (by omega) (by omega) (by omega) path owner group link kind mo Ad _ capd path (by omega) f.data (by first | omega | simp)
                        rw [← HV.out] at hmm hmem
                        have HST2 : Hid (arcU l (i + 1) = q ++ me) := Lib.hid (by rw [HST.out, HQ.out])
                        have HB9 : Hid ((q ++ me).length ≤ (i + 1) * 400000) := Lib.hid (by rw [List.length_append]; exact bd_step HBL.out hmm)
                        clear HV HST HQ HBL
                        go_wp2_with (first
                          | (go_at_call 27; refine (hmem _).mono ?_; rintro e W9 ⟨rfl, hb9⟩; clear hmem))
                        have hbzz := hbz5.trans (hb9.mono hbz5.size)
                        go_roundg (l.length - (i + 1))
                        case measure => omega
                        case rel => exact ⟨i + 1, q ++ me, by omega, rfl, by first | (simp; done) | (simp; omega), rfl, HST2, HB9, hbzz⟩
                      · have HV : Hid (me = memB (numL a md c ui gi ti ([] : List UInt8).length (path.length + 1)) path []) := Lib.hid (by rw [HME.out, if_neg h2, if_neg h3, if_neg hni, HMD.out]; rfl)
                        have hqi : ((d : Int) == (i : Int)) = false := by simp; omega
                        clear HME h2 h3 HLL
                        have hni2 := Lib.hid hni
                        clear hni
                        have hmm := memB_le a md c ui gi ti ([] : List UInt8).length (path.length + 1) path ([] : List UInt8) (by omega) (by simp)
                        have hmem : ∀ W : World, Calls Tryd.prog 27 #[.int .i64 a, .int .i64 md, .int .i64 c, .agg #[.string (bs path), .int .i64 kind, .int .i64 mo, .int .i64 ui, .int .i64 gi, .string (bs owner), .string (bs group), .int .i64 ti, .string (bs link), .slice Ad data.length capd], .string (bs path), .string (bs ([] : List UInt8))] W fun e w' => e = .returned (.string (bs (memB (numL a md c ui gi ti ([] : List UInt8).length (path.length + 1)) path ([] : List UInt8)))) ∧ Below W.heap.size W w' := fun W => rmember_any W a md c ui gi ti (by omega) (by omega) (by omega) (by omega) (by omega) (by omega) path owner group link kind mo Ad _ capd path (by omega) ([] : List UInt8) (by first | omega | simp)
                        rw [← HV.out] at hmm hmem
                        have HST2 : Hid (arcU l (i + 1) = q ++ me) := Lib.hid (by rw [HST.out, HQ.out])
                        have HB9 : Hid ((q ++ me).length ≤ (i + 1) * 400000) := Lib.hid (by rw [List.length_append]; exact bd_step HBL.out hmm)
                        clear HV HST HQ HBL
                        go_wp2_with (first
                          | (go_at_call 27; refine (hmem _).mono ?_; rintro e W9 ⟨rfl, hb9⟩; clear hmem))
                        have hbzz := hbz.trans (hb9.mono hbz.size)
                        go_roundg (l.length - (i + 1))
                        case measure => omega
                        case rel => exact ⟨i + 1, q ++ me, by omega, rfl, by first | (simp; done) | (simp; omega), rfl, HST2, HB9, hbzz⟩
                · have hke : i = l.length := by omega
                  subst hke
                  have hmm := memB_le 0 0 1 0 0 0 ([] : List UInt8).length (trailL.length + 1) trailL [] (by decide) (by simp)
                  have hmem : Calls Tryd.prog 27 #[.int .i64 0, .int .i64 0, .int .i64 1, .agg #[.string ⟨#[]⟩, .int .i64 0, .int .i64 0, .int .i64 0, .int .i64 0, .string ⟨#[]⟩, .string ⟨#[]⟩, .int .i64 0, .string ⟨#[]⟩, .slice none 0 0], .string ⟨#[84, 82, 65, 73, 76, 69, 82, 33, 33, 33]⟩, .string ⟨#[]⟩] wr fun e w' => e = .returned (.string (bs trailM)) ∧ Below wr.heap.size wr w' :=
                    rmember_any wr 0 0 1 0 0 0 (by omega) (by omega) (by omega) (by omega) (by omega) (by omega) [] [] [] [] 0 0 none 0 0 trailL (by decide) [] (by simp)
                  have hmm : trailM.length ≤ 400000 := hmm
                  have HST2 : Hid (q ++ trailM = arcB l) := Lib.hid (by rw [← HQ.out]; rfl)
                  have hql2 : (q ++ trailM).length ≤ 1000000000 := by
                    rw [List.length_append]
                    have := bd_last HBL.out (by omega)
                    omega
                  generalize trailM = tm at hmm hmem HST2 hql2
                  obtain ⟨qt, hqt⟩ : ∃ qt, q ++ tm = qt := ⟨_, rfl⟩
                  have hql3 : q.length + tm.length ≤ 1000000000 := by rw [← List.length_append]; exact hql2
                  rw [hqt] at HST2 hql2
                  clear HQ HBL
                  go_wp2_with (go_at_call 27; refine hmem.mono ?_; rintro e W9 ⟨rfl, hb9⟩; obtain ⟨gc, cv, Wc, hcv, hbc, _, hsc⟩ := conv_sl2 (P := Tryd.prog) W9 9 26 5 qt Tryd.underlying9 Tryd.underlying26 Tryd.underlying5 hql2)
                  have hbz := ((hbw.trans (hb.mono hbw.size)).trans (hb9.mono (hbw.trans (hb.mono hbw.size)).size))
                  have hbz := hbz.trans (hbc.mono hbz.size)
                  go_ret2
                  refine ⟨_, by rw [HN.out]; rfl, hbz, ?_⟩
                  rw [HN.out, if_pos rfl, ← HST2.out]
                  exact hsc nowhere (fun h => h)
end Go.Proofs.YtolknddegfcmpaaDoor
