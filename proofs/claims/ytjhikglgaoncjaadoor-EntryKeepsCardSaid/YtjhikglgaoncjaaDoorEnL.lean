/- The walks of both CheckAlls on entries. -/
import Derived.Test.YtjhikglgaoncjaaDoorEnK
namespace Go.Proofs.YtjhikglgaoncjaaDoor
open Go.RowKit Go.WideMaps Go.Maps
theorem wf_nat {n : Nat} (h : n ≤ 1000000000000000) : (Lit.int .i64 (n : Int)).wf = true := by
  simp [Lit.wf, IntKind.min, IntKind.max, IntKind.signed, IntKind.bits]; omega
set_option maxRecDepth 20000 in
set_option maxHeartbeats 8000000 in
theorem rchkall_any (l : List En) (v : Value) (X : Nat → Prop) (w : World) (hsl : Sl 10 Rent X w v l) (hL : LB l) :
    Calls Tryd.prog 12 #[v] w fun e w' => e = .returned (.tuple #[.int .i64 (chkL l).1, .int .i64 (chkL l).2]) ∧ Below w.heap.size w w' := by
  obtain ⟨A, cap, rfl, hc1, hc2⟩ := hsl.form
  unfold maxLen at hc2
  have hL1 := hL.1
  have HLL := Lib.hid hL
  clear hL
  have HT : Hid (chkL l = if 4096 < l.length then (4096, 4) else goE (l.take 0) (l.drop 0)) := Lib.hid rfl
  obtain ⟨res, hres⟩ : ∃ r, chkL l = r := ⟨_, rfl⟩
  rw [hres] at HT ⊢
  clear hres
  go_enter Tryd.func12, Tryd.ntmps12
  by_cases h4 : 4096 < l.length
  · have HV : Hid (res = (4096, 4)) := Lib.hid (by rw [HT.out, if_pos h4])
    have hb : decide ((4096 : Int) < (l.length : Int)) = true := by simp; omega
    clear h4 HT
    go_wp2_with fail
    go_ret2
    exact ⟨by rw [HV.out]; rfl, Below.refl _ _⟩
  · have HV : Hid (res = goE (l.take 0) (l.drop 0)) := Lib.hid (by rw [HT.out, if_neg h4])
    have hb : decide ((4096 : Int) < (l.length : Int)) = false := by simp; omega
    clear h4 HT
    go_wp2_with fail
    clear hb
    go_loopg [4] l.length (fun G s4 wr => ∃ k : Nat, k ≤ l.length ∧ G = l.length - k ∧ s4 = .int .i64 k ∧ Below w.heap.size w wr ∧ Hid (res = goE (l.take k) (l.drop k)))
    case atStart => exact ⟨0, Nat.zero_le _, rfl, rfl, Below.refl _ _, HV⟩
    case round =>
      clear HV
      obtain ⟨k, hk, rfl, rfl, hbw, HE⟩ := hrel
      by_cases hlt : k < l.length
      · have hslr := hsl.keep good_ent (Kept.of_below hbw X)
        have HST := Lib.hid (HE.out.trans (goE_step l k hlt))
        have i2 : (k : Int) < (l.length : Int) := by omega
        clear HE
        go_wp2_with fail
        refine (rbad_any l _ X _ k hlt hslr HLL.out).mono ?_
        rintro e w2 ⟨rfl, hb2⟩
        have q2 := hbw.trans (hb2.mono hbw.size)
        generalize badE (l.take k) l[k] = z at HST ⊢
        by_cases hz : z = 0
        · have hzb : (z != 0) = false := by simpa using hz
          have HV := Lib.hid (HST.out.trans (if_pos hz))
          clear hz HST
          go_wp2_with fail
          go_roundg (l.length - (k + 1))
          case measure => omega
          case rel => exact ⟨k + 1, by omega, rfl, by simp, q2, HV⟩
        · have hzb : (z != 0) = true := by simpa using hz
          have HV := Lib.hid (HST.out.trans (if_neg hz))
          clear hz HST
          go_wp2_with fail
          go_ret2
          exact ⟨by rw [HV.out]; rfl, q2⟩
      · have HV : Hid (res = (0, 0)) := Lib.hid (by rw [HE.out, List.drop_eq_nil_of_le (by omega)]; rfl)
        have hke : k = l.length := by omega
        subst hke
        clear HE
        go_wp2_with fail
        go_ret2
        exact ⟨by rw [HV.out]; rfl, hbw⟩
theorem path_short {e : En} {a : List En} (h : badE a e = 0) : e.path.length ≤ 200 ∧ hasE a e.path = false := by
  rw [badE] at h
  split at h
  · rename_i hz
    constructor
    · rw [chkE] at hz
      split at hz
      · cases hz
      · rename_i hp
        have hp : pathOk e.path = true := by simpa using hp
        rw [pathOk] at hp
        simp at hp
        omega
    · split at h
      · cases h
      · rename_i hh; simpa using hh
  · rename_i hz; exact absurd h hz
theorem Sl.text_off {X : Nat → Prop} {w : World} {v : Value} {l : List (List UInt8)} {m n : Nat} {f : List UInt8 → Option Int} (h : Sl 1 Rtext X w v l) (hm : NMap w m n f) : Sl 1 Rtext (fun b => b = m) w v l := by
  obtain ⟨A, cap, hv, h1, h2, h3, h4, h5⟩ := h
  refine ⟨A, cap, hv, h1, h2, h3, fun hl => ?_, h5⟩
  obtain ⟨b, off, hA, hX, hc⟩ := h4 hl
  refine ⟨b, off, hA, fun e => ?_, fun j hj => ?_⟩
  · have hpos : 0 < l.length := List.length_pos_iff.2 hl
    obtain ⟨cs, hcs, hR⟩ := hc 0 hpos
    have hR : cs = [.string (bs l[0])] := hR
    subst hR
    have hcell := hcs 0 _ rfl
    obtain ⟨es, c, hbk⟩ := hm.blk
    subst e
    simp [World.cell?, hbk] at hcell
  · obtain ⟨cs, hcs, hR⟩ := hc j hj
    exact ⟨cs, hcs, hR⟩
/-- The paths above an entry join those that are known. -/
theorem AbM.step {m : List UInt8 → Option Int} {a : List En} {e : En} (h : ∀ p, (m p).isSome = ((a.any fun x => (upsL x.path).contains p) || (upsL e.path).contains p)) : AbM m (a ++ [e]) := fun p => by
  rw [h p, List.any_append]
  simp
set_option maxRecDepth 20000 in
set_option maxHeartbeats 16000000 in
theorem pchkall_any (l : List En) (v : Value) (X : Nat → Prop) (w : World) (hsl : Sl 10 Rent X w v l) (hL : LB l) :
    Calls Tryd.prog 11 #[v] w fun e w' => e = .returned (.tuple #[.int .i64 (chkL l).1, .int .i64 (chkL l).2]) ∧ Below w.heap.size w w' := by
  obtain ⟨A, cap, rfl, hc1, hc2⟩ := hsl.form
  unfold maxLen at hc2
  have hL1 := hL.1
  have HLL := Lib.hid hL
  clear hL
  have HT : Hid (chkL l = if 4096 < l.length then (4096, 4) else goE (l.take 0) (l.drop 0)) := Lib.hid rfl
  obtain ⟨res, hres⟩ : ∃ r, chkL l = r := ⟨_, rfl⟩
  rw [hres] at HT ⊢
  clear hres
  go_enter Tryd.func11, Tryd.ntmps11
  by_cases h4 : 4096 < l.length
  · have HV : Hid (res = (4096, 4)) := Lib.hid (by rw [HT.out, if_pos h4])
    have hb : decide ((4096 : Int) < (l.length : Int)) = true := by simp; omega
    clear h4 HT
    go_wp2_with fail
    go_ret2
    exact ⟨by rw [HV.out]; rfl, Below.refl _ _⟩
  · have HV : Hid (res = goE (l.take 0) (l.drop 0)) := Lib.hid (by rw [HT.out, if_neg h4])
    have hb : decide ((4096 : Int) < (l.length : Int)) = false := by simp; omega
    have hl4 : l.length ≤ 4096 := by omega
    clear h4 HT
    have hmm := @run_makeMap Tryd.prog
    go_upto_region 4 with fail
    have M1 := NMap.made w
    have e1 : (w.alloc (.map #[] 0)).heap.size = w.heap.size + 1 := by simp
    have M2 := NMap.made (w.alloc (.map #[] 0))
    rw [e1] at M2
    have e2 : ((w.alloc (.map #[] 0)).alloc (.map #[] 0)).heap.size = w.heap.size + 1 + 1 := by simp
    have M1 := M1.below ((Below.refl _ (w.alloc (.map #[] 0))).alloc (Nat.le_refl _) (.map #[] 0))
    have bC := Blk.new ((w.alloc (.map #[] 0)).alloc (.map #[] 0)) tC #[.slice A l.length cap, .map (some w.heap.size), .map (some (w.heap.size + 1))]
    rw [e2] at bC
    have hb3 := (Below.refl _ ((w.alloc (.map #[] 0)).alloc (.map #[] 0))).alloc (Nat.le_refl _) (.cells #[.slice A l.length cap, .map (some w.heap.size), .map (some (w.heap.size + 1))] tC)
    have ck0 : CK _ _ _ _ 0 0 _ _ _ := ⟨bC, M1.below hb3, M2.below hb3⟩
    have q0 := (((Below.refl w.heap.size w).alloc (Nat.le_refl _) (.map #[] 0)).alloc (by rw [e1]; omega) (.map #[] 0)).alloc (by rw [e2]; omega) (.cells #[.slice A l.length cap, .map (some w.heap.size), .map (some (w.heap.size + 1))] tC)
    have g1 : w.heap.size ≤ w.heap.size := Nat.le_refl _
    have g2 : w.heap.size ≤ w.heap.size + 1 := by omega
    have g12 : w.heap.size ≠ w.heap.size + 1 := by omega
    clear hmm M1 M2 bC hb3 e1 e2
    generalize ((w.alloc (.map #[] 0)).alloc (.map #[] 0)).alloc (.cells #[.slice A l.length cap, .map (some w.heap.size), .map (some (w.heap.size + 1))] tC) = W0 at ck0 q0 ⊢
    generalize w.heap.size + 1 + 1 = cp at ck0 ⊢
    generalize w.heap.size + 1 = m2 at ck0 g2 g12 ⊢
    generalize hm1 : w.heap.size = m1 at ck0 g12 ⊢
    have g1 : w.heap.size ≤ m1 := by omega
    have hU0 : Hid (Uniq (l.take 0)) := Lib.hid (fun i j hi => by simp at hi)
    have hA0 : Hid (AtM (fun _ => none) l 0) := Lib.hid (AtM.nil l)
    have hB0 : Hid (AbM (fun _ => none) (l.take 0)) := Lib.hid (by simpa using AbM.nil)
    go_wp2_with fail
    go_loopg [20] l.length (fun G s20 wr => ∃ (k n1 n2 : Nat) (f1 f2 : List UInt8 → Option Int), k ≤ l.length ∧ G = l.length - k ∧ s20 = .int .i64 k ∧ n1 ≤ k ∧ n2 ≤ k * 200 ∧ Below w.heap.size w wr ∧ CK wr cp m1 m2 n1 n2 (.slice A l.length cap) f1 f2 ∧ Hid (AtM f1 l k) ∧ Hid (AbM f2 (l.take k)) ∧ Hid (Uniq (l.take k)) ∧ Hid (res = goE (l.take k) (l.drop k)))
    case atStart => exact ⟨0, 0, 0, _, _, Nat.zero_le _, rfl, rfl, Nat.le_refl _, Nat.le_refl _, q0, ck0, hA0, hB0, hU0, HV⟩
    case round =>
      clear HV q0 ck0 hA0 hB0 hU0 hb
      obtain ⟨k, n1, n2, f1, f2, hk, rfl, rfl, hn1, hn2, hbw, ck, HA, HB, HU, HE⟩ := hrel
      by_cases hlt : k < l.length
      rotate_left
      · have HV : Hid (res = (0, 0)) := Lib.hid (by rw [HE.out, List.drop_eq_nil_of_le (by omega)]; rfl)
        have hke : k = l.length := by omega
        subst hke
        clear HE
        go_wp2_with fail
        go_ret2
        exact ⟨by rw [HV.out]; rfl, by first | exact hbw | (rw [← hm1]; exact hbw)⟩
      have hslr := hsl.keep good_ent (Kept.of_below hbw X)
      have HST := Lib.hid (HE.out.trans (goE_step l k hlt))
      obtain ⟨b, off, rfl, _, hc⟩ := hslr.ent (by omega)
      obtain ⟨dv, hat, hdv⟩ := hc k hlt
      obtain ⟨Ad, capd, rfl, _, _⟩ := hdv.form
      have htk := List.take_succ_eq_append_getElem hlt
      have HAP := Lib.hid (fun hn => HA.out.put hlt hn)
      have hPB := fun (W : World) (hs : Sl 10 Rent X W (.slice (some ⟨b, off, none⟩) l.length cap) l) (hd : Sl 1 Rbyte X W (.slice Ad (l[k]'hlt).data.length capd) (l[k]'hlt).data) (hc : CK W cp m1 m2 n1 n2 (.slice (some ⟨b, off, none⟩) l.length cap) f1 f2) => pbad_any l _ X W k hlt (some ⟨b, off, none⟩) cap cp m1 m2 n1 n2 f1 f2 hs hd hc HA.out HB.out HU.out HLL.out
      have hEB := HLL.out.2 _ (List.getElem_mem hlt)
      obtain ⟨e, He⟩ : ∃ e, Hid (l[k] = e) := ⟨_, Lib.hid rfl⟩
      rw [He.out] at hat hdv hPB hEB htk HAP HST
      have HTK := Lib.hid htk
      have HPB := Lib.hid hPB
      obtain ⟨c0, c1, c2, c3, c4, c5, c6, c7, c8, c9⟩ := hat
      have i1 : (0 : Int) ≤ (k : Int) := by omega
      have i2 : (k : Int) < (l.length : Int) := by omega
      obtain ⟨lp, _, _, _⟩ := hEB
      clear HE hc htk hPB
      go_upto_region 7 with fail
      have bE := Blk.new wr tE #[.string (bs e.path), .int .i64 e.kind, .int .i64 e.mode, .int .i64 e.uid, .int .i64 e.gid, .string (bs e.owner), .string (bs e.group), .int .i64 e.mtime, .string (bs e.link), .slice Ad e.data.length capd]
      have hq : Below wr.heap.size wr (wr.alloc (.cells #[.string (bs e.path), .int .i64 e.kind, .int .i64 e.mode, .int .i64 e.uid, .int .i64 e.gid, .string (bs e.owner), .string (bs e.group), .int .i64 e.mtime, .string (bs e.link), .slice Ad e.data.length capd] tE)) := (Below.refl _ _).alloc (Nat.le_refl _) _
      have hsl1 := Below.sl good_ent hq hslr
      have hdv1 := Below.sl good_byte hq hdv
      have ck1 := ck.below hq
      have q1 := hbw.trans (hq.mono hbw.size)
      clear hslr hdv ck hq hbw c0 c1 c2 c3 c4 c5 c6 c7 c8 c9
      generalize wr.alloc (.cells #[.string (bs e.path), .int .i64 e.kind, .int .i64 e.mode, .int .i64 e.uid, .int .i64 e.gid, .string (bs e.owner), .string (bs e.group), .int .i64 e.mtime, .string (bs e.link), .slice Ad e.data.length capd] tE) = W1 at bE hsl1 hdv1 ck1 q1 ⊢
      generalize wr.heap.size = g at bE ⊢
      have d0 := bE.cell 0
      have d1 := bE.cell 1
      have d2 := bE.cell 2
      have d3 := bE.cell 3
      have d4 := bE.cell 4
      have d5 := bE.cell 5
      have d6 := bE.cell 6
      have d7 := bE.cell 7
      have d8 := bE.cell 8
      have d9 := bE.cell 9
      simp at d0 d1 d2 d3 d4 d5 d6 d7 d8 d9
      go_wp2_with fail
      refine (HPB.out W1 hsl1 hdv1 ck1).mono ?_
      rintro r W2 ⟨rfl, hb2⟩
      have b2 := bE.below hb2 bE.lt
      have ck2 := ck1.below hb2
      have q2 := q1.trans (hb2.mono q1.size)
      clear bE ck1 q1 hb2 hsl1 hdv1 HPB d0 d1 d2 d3 d4 d5 d6 d7 d8 d9
      have HPS := Lib.hid (fun h : badE (l.take k) e = 0 => path_short h)
      generalize badE (l.take k) e = z at HST HPS ⊢
      by_cases hz : z = 0
      rotate_left
      · have hzb : (z != 0) = true := by simpa using hz
        have HV := Lib.hid (HST.out.trans (if_neg hz))
        clear hz HST HPS
        go_wp2_with fail
        go_ret2
        exact ⟨by rw [HV.out]; rfl, by first | exact q2 | (rw [← hm1]; exact q2)⟩
      have hzb : (z != 0) = false := by simpa using hz
      have HV := Lib.hid (HST.out.trans (if_pos hz))
      obtain ⟨hp200, hno⟩ := HPS.out hz
      have HNO := Lib.hid hno
      clear hz HST HPS hno
      have k1 := ck2.blk.cell 1
      have d0 := b2.cell 0
      simp at k1 d0
      go_upto_region 10 with fail
      refine wp_region_plan (fun W => W.cell? ⟨cp, 1, none⟩ = some (.map (some m1)) ∧ W.cell? ⟨g, 0, none⟩ = some (.string (bs e.path))) [(false, 0), (false, 1), (false, 2), (false, 3), (false, 4), (false, 5), (false, 6), (true, 7)] (by kernel_rfl) (by kernel_rfl) (⟨by simpa using k1, by simpa using d0⟩) ?_
      simp only [planOps, List.map, List.getD_cons_zero, List.getD_cons_succ]
      iterate 7 ((first | refine plan_quiet (v := ?_) rfl rfl (fun w' hw' => ?_) ?_ | refine plan_calm (v := ?_) (tt_of) rfl (fun w' hw' => ?_) ?_); rotate_left; (focus (go_simp <;> (first | with_reducible rfl | (rw [if_neg (by simp [undef])]; try rfl)))); simp only [Act.put, List.setIfInBounds_toArray, List.set_cons_zero, List.set_cons_succ])
      refine plan_loud rfl (fun K hK => ?_)
      have b0 : Below W2.heap.size W2 W2.drew := (Below.refl _ W2).drew
      have b3 := (Kept.of_below b0 nowhere).blk b2 (fun h => h)
      have ck3 := ck2.below b0
      have q3 := q2.drew
      clear b0 b2 ck2 q2 k1 d0
      generalize W2.drew = W3 at b3 ck3 q3 ⊢
      refine wp_nput _ _ _ _ rfl m1 n1 f1 rfl ck3.at_ (by omega) e.path rfl (by omega) k rfl (wf_nat (by omega)) ?_
      intro w4 hM4 hk4
      have b4 := hk4.blk b3 (fun h => b3.apartM ck3.at_ h)
      have ck4 : CK w4 cp m1 m2 (n1 + 1) n2 (.slice (some ⟨b, off, none⟩) l.length cap) (putM f1 e.path k) f2 := ⟨hk4.blk ck3.blk (fun h => ck3.blk.apartM ck3.at_ h), hM4, ck3.ab.keep hk4 (fun h => g12 h.symm)⟩
      have q4 := q3.trans (hk4.below q3.size (fun k _ h => by rw [h]; exact g1))
      clear b3 ck3 q3 hM4 hk4
      have k1 := ck4.blk.cell 1
      have d0 := b4.cell 0
      simp at k1 d0
      refine hK _ _ (⟨k1, d0⟩) ?_
      clear hK K
      (try simp only [Act.put, List.setIfInBounds_toArray, List.set_cons_zero, List.set_cons_succ])
      refine plan_end ?_
      have HA4 : Hid (AtM (putM f1 e.path k) l (k + 1)) := Lib.hid (HAP.out HNO.out)
      generalize putM f1 e.path k = f1' at ck4 HA4
      clear HAP
      go_wp2_with fail
      refine (parents_any e.path _ lp).mono ?_
      rintro r W5 ⟨⟨v5, rfl, hs5⟩, hb5⟩
      have q5 := q4.trans (hb5.mono q4.size)
      have ck5 := ck4.below hb5
      clear b4 q4 ck4 hb5 k1 d0
      have hul : (upsL e.path).length ≤ 200 := Nat.le_trans (up_len e.path []) hp200
      have HUK := Lib.hid (fun x (hx : x ∈ upsL e.path) => (ups_mem x e.path).1 hx)
      obtain ⟨P, HP⟩ : ∃ P, Hid (upsL e.path = P) := ⟨_, Lib.hid rfl⟩
      rw [HP.out] at hs5 hul
      have HUP : Hid (∀ x ∈ P, x.length ≤ 1000) := Lib.hid fun x hx => by
        obtain ⟨t, ht⟩ := HUK.out x (by rw [HP.out]; exact hx)
        have := congrArg List.length ht
        simp at this
        omega
      have HF : Hid (∀ p, (f2 p).isSome = (((l.take k).any fun x => (upsL x.path).contains p) || (P.take 0).contains p)) := Lib.hid fun p => by rw [HB.out p]; simp
      clear HUK HB
      have hs5 := hs5.text_off ck5.ab
      obtain ⟨A5, cap5, rfl, hd1, hd2⟩ := hs5.form
      unfold maxLen at hd2
      go_wp2_with fail
      go_loopg [43] P.length (fun G s43 wx => ∃ (j n3 : Nat) (f3 : List UInt8 → Option Int), j ≤ P.length ∧ G = P.length - j ∧ s43 = .int .i64 j ∧ n3 ≤ n2 + j ∧ Below w.heap.size w wx ∧ CK wx cp m1 m2 (n1 + 1) n3 (.slice (some ⟨b, off, none⟩) l.length cap) f1' f3 ∧ Sl 1 Rtext (fun b => b = m2) wx (.slice A5 P.length cap5) P ∧ Hid (∀ p, (f3 p).isSome = (((l.take k).any fun x => (upsL x.path).contains p) || (P.take j).contains p)))
      case atStart => exact ⟨0, n2, f2, Nat.zero_le _, rfl, rfl, Nat.le_refl _, q5, ck5, hs5, HF⟩
      case round =>
        clear HF q5 ck5 hs5
        obtain ⟨j, n3, f3, hj, rfl, rfl, hn3, q5, ck5, hs5, HF⟩ := hrel
        by_cases hjl : j < P.length
        · obtain ⟨_, _, _, bp, offp, rfl, hc⟩ := hs5.text (by omega)
          have ckp := hc j hjl
          have hpl := HUP.out _ (List.getElem_mem hjl)
          have HFS : Hid (∀ p, (((l.take k).any fun x => (upsL x.path).contains p) || (P.take (j + 1)).contains p) = ((((l.take k).any fun x => (upsL x.path).contains p) || (P.take j).contains p) || decide (p = P[j]))) := Lib.hid fun p => by
            rw [List.take_succ_eq_append_getElem hjl, Bool.or_assoc]
            congr 1
            rw [Bool.eq_iff_iff, List.contains_iff_mem, List.mem_append, List.mem_singleton, Bool.or_eq_true, List.contains_iff_mem, decide_eq_true_iff]
          clear hc
          generalize P[j] = p at ckp hpl HFS
          have k2 := ck5.blk.cell 2
          simp at k2
          have j1 : (0 : Int) ≤ (j : Int) := by omega
          have j2 : (j : Int) < (P.length : Int) := by omega
          have hwf : (Lit.int .i64 (k : Int)).wf = true := wf_nat (by omega)
          have hma := ck5.ab
          go_wp2_with (at_mapUpdate; refine wpList_nput _ rfl _ _ _ rfl m2 n3 f3 rfl hma (by omega) p rfl (by omega) k rfl hwf ?_; intro w6 hM6 hk6)
          have ck6 : CK w6 cp m1 m2 (n1 + 1) (n3 + 1) (.slice (some ⟨b, off, none⟩) l.length cap) f1' (putM f3 p k) := ⟨hk6.blk ck5.blk (fun h => ck5.blk.apartM ck5.ab h), ck5.at_.keep hk6 g12, hM6⟩
          have q6 := q5.trans (hk6.below q5.size (fun k _ h => by rw [h]; exact g2))
          have hs6 := hs5.keep good_text hk6
          have HF6 : Hid (∀ y, (putM f3 p k y).isSome = (((l.take k).any fun x => (upsL x.path).contains y) || (P.take (j + 1)).contains y)) := Lib.hid fun y => by
            rw [HFS.out y, ← HF.out y, putM]
            by_cases h : y = p
            · simp [h]
            · simp [h]
          generalize putM f3 p k = f4 at ck6 HF6
          clear hM6 hk6 ck5 q5 hs5 HF HFS hma k2 ckp
          go_wp2_with fail
          go_roundg (P.length - (j + 1))
          case measure => omega
          case rel => exact ⟨j + 1, n3 + 1, f4, by omega, rfl, by simp, by omega, q6, ck6, hs6, HF6⟩
        · have hje : j = P.length := by omega
          subst hje
          have HB6 : Hid (AbM f3 (l.take (k + 1))) := Lib.hid (by rw [HTK.out]; exact AbM.step fun p => by rw [HF.out p, HP.out, List.take_length])
          have HU6 : Hid (Uniq (l.take (k + 1))) := Lib.hid (by rw [HTK.out]; exact HU.out.snoc HNO.out)
          clear HF hs5
          go_wp2_with fail
          go_roundg (l.length - (k + 1))
          case measure => omega
          case rel => exact ⟨k + 1, n1 + 1, n3, f1', f3, by omega, rfl, by simp, by omega, by omega, q5, ck5, HA4, HB6, HU6, HV⟩
end Go.Proofs.YtjhikglgaoncjaaDoor
