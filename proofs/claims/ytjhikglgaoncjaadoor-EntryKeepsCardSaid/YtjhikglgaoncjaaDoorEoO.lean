/- The walk of the law on sameness, copies and what stays. Printed by gen_keeps.py. -/
import Derived.Test.YtjhikglgaoncjaaDoorEoM
import Derived.Test.YtjhikglgaoncjaaDoorEoN
namespace Go.Proofs.YtjhikglgaoncjaaDoor
open Go.RowKit
theorem Sl.offY {X Y : Nat → Prop} {w : World} {d : Value} {l : List UInt8} (h : Sl 1 Rbyte X w d l) (hy : l ≠ [] → ∀ b, d.ownBlock = some b → ¬ Y b) : Sl 1 Rbyte (fun k => Y k ∨ X k) w d l := by
  obtain ⟨A, cap, hv, h1, h2, h3, h4, h5⟩ := h
  refine ⟨A, cap, hv, h1, h2, h3, fun hl => ?_, h5⟩
  obtain ⟨b, off, hA, hX, hc⟩ := h4 hl
  subst hA hv
  exact ⟨b, off, rfl, fun e => e.elim (hy hl b rfl) hX, hc⟩
theorem Sl.stay {X Y : Nat → Prop} {w w' : World} {d : Value} {l : List UInt8} (h : Sl 1 Rbyte X w d l) (hy : l ≠ [] → ∀ b, d.ownBlock = some b → ¬ Y b) (k : Kept Y w w') : Sl 1 Rbyte X w' d l :=
  ((h.offY hy).keep good_byte (k.mono fun _ _ e => .inl e)).mono good_byte (by decide) fun _ _ e => .inr e
theorem Mess.kept {lo hi : Nat} {Y : Nat → Prop} {W W' : World} {v : Value} {ls : List Nat} {f : Nat → Value} (h : Mess lo hi W v ls f) (k : Kept Y W W') (hy : ∀ b, b < hi → ¬ Y b) : Mess lo hi W' v ls f := by
  obtain ⟨L, hL, hE⟩ := h.ex
  have hlen : L.length = ls.length := by rw [← hL, List.length_map]
  refine ⟨⟨L, hL, k.own hE.row fun b hb => hy b (h.blk b hb), fun j hj => (hE.dat j hj).stay (fun hne b hb => hy b (h.fre j (by omega) ?_ b hb).2) k⟩, h.blk, h.fre⟩
  have : ls[j]'(by omega) = L[j].data.length := by simp [← hL]
  rw [this]
  exact List.length_pos_iff.2 hne
theorem mess_of {B : Nat} {W : World} {v : Value} {L : List En} {f : Nat → Value} (h : EO B W v L f) (hf : FR B L.length f) : Mess B W.heap.size W v (L.map fun e => e.data.length) f := by
  refine ⟨⟨L, rfl, h⟩, fun b hb => (h.row.lt b hb).2, fun j hj hpos b hb => ⟨hf j (by simpa using hj) b hb, ?_⟩⟩
  have hjL : j < L.length := by simpa using hj
  simp only [List.getElem_map] at hpos
  obtain ⟨A, c, hv, _, _, _, h4, _⟩ := h.dat j hjL
  obtain ⟨bb, off, hA, _, hc⟩ := h4 (List.length_pos_iff.1 hpos)
  subst hA
  rw [hv] at hb
  have e : bb = b := Option.some.inj hb
  subst e
  obtain ⟨cs, hcs, hR⟩ := hc 0 hpos
  have hR : cs = [.int .u8 (L[j].data[0].toNat : Int)] := hR
  subst hR
  exact lt_of_cell (hcs 0 _ rfl)
theorem EO.slX {B : Nat} {X : Nat → Prop} {w : World} {v : Value} {l : List En} {f : Nat → Value} (h : EO B w v l f) (hf : FR B l.length f) (hX : ∀ b, B ≤ b → ¬ X b) : Sl 10 Rent X w v l := by
  have : OwnL 10 Rent tE B X w v l := by
    refine ⟨List.ofFn fun j : Fin l.length => entC l[j] (f j), h.row, by simp, fun k hk => hX k (h.row.lt k hk).1, fun j hj h' => ?_⟩
    exact ⟨f j, by simp, (h.dat j hj).offY fun _ b hb => hX b (hf j hj b hb)⟩
  exact this.sl good_ent
theorem canonR_x {w w' : World} {l : List En} {r : Ending} (h : CanonR w l r w') : (∃ vx L f B c, r = .returned (.tuple #[vx, .int .i64 c]) ∧ w.heap.size ≤ B ∧ EO B w' vx L f ∧ FR B L.length f ∧ L.length ≤ l.length) ∧ Below w.heap.size w w' := by
  obtain ⟨h1, h2⟩ := h
  refine ⟨?_, h2⟩
  by_cases hz : (chkL l).2 = 0
  · rw [if_pos hz] at h1
    obtain ⟨v', l', f, B, hB, hv, hE, hp, _, hf⟩ := h1
    exact ⟨_, l', f, B, 0, hv, hB, hE, hf, by rw [hp.length_eq, outK_len]; exact Nat.le_refl _⟩
  · rw [if_neg hz] at h1
    exact ⟨.slice none 0 0, [], fun _ => .slice none 0 0, w.heap.size, _, h1, Nat.le_refl _, ⟨World.ownsRow_nil _ _ _ _, fun j hj => by simp at hj⟩, fun j hj => by simp at hj, by simp⟩
set_option maxRecDepth 20000 in
set_option maxHeartbeats 16000000 in
theorem law_keeps (v : Value) (a : List En) (u : Value) (b : List En) (w : World) (hsa : Sl 10 Rent nowhere w v a) (hsb : Sl 10 Rent nowhere w u b) :
    Calls Tryd.prog 8 #[v, u] w fun r w' => r = .returned (.bool true) ∧ Below w.heap.size w w' := by
  obtain ⟨Aa, capa, rfl, _, _⟩ := hsa.form
  obtain ⟨Ab, capb, rfl, _, _⟩ := hsb.form
  go_enter Tryd.func8, Tryd.ntmps8
  go_wp2_with fail
  refine (awakeE _).mono ?_
  rintro e w1 ⟨rfl, hb1⟩
  have hsa := Below.sl good_ent hb1 hsa
  have hsb := Below.sl good_ent hb1 hsb
  go_wp2_with fail
  refine (rlight_any a 60 _ nowhere _ hsa (by omega)).mono ?_
  rintro r w2 ⟨rfl, hb2⟩
  have hsa := Below.sl good_ent hb2 hsa
  have hsb := Below.sl good_ent hb2 hsb
  have q2 := below_trans hb1 hb2
  clear hb1 hb2
  cases hLa : lightE 60 a with
  | false =>
    go_wp2_with fail
    go_ret
    exact ⟨rfl, q2⟩
  | true =>
    have hLB := Lib.hid (light_lb 60 (by omega) a hLa)
    have hEa := (light_eb 60 a hLa)
    have ha60 := hEa.1
    have HED : Hid (∀ e ∈ a, e.data.length ≤ 140737488355328) := Lib.hid fun e he => by have := (hEa.2 e he).2.2.2.2; omega
    clear hLa hEa
    go_wp2_with fail
    refine (rlight_any b 60 _ nowhere _ hsb (by omega)).mono ?_
    rintro r w3 ⟨rfl, hb3⟩
    have hsa := Below.sl good_ent hb3 hsa
    have hsb := Below.sl good_ent hb3 hsb
    have q3 := below_trans q2 hb3
    clear hb3 q2
    cases hLb : lightE 60 b with
    | false =>
      go_wp2_with fail
      go_ret
      exact ⟨rfl, q3⟩
    | true =>
      have hb60 := (light_eb 60 b hLb).1
      clear hLb
      have hsa : Sl 10 Rent (fun k => w3.heap.size ≤ k) w3 (.slice Aa a.length capa) a := hsa.mono good_ent (by omega) fun k hk h => by omega
      have hsb : Sl 10 Rent (fun k => w3.heap.size ≤ k) w3 (.slice Ab b.length capb) b := hsb.mono good_ent (by omega) fun k hk h => by omega
      go_wp2_with fail
      refine (copy_any a _ _ _ hsa (by omega) HED.out).mono ?_
      rintro r w4 ⟨⟨vc, fc, rfl, hc0, hcf⟩, hb4⟩
      have hcm := mess_of hc0 hcf
      have hsa := Below.sl good_ent hb4 hsa
      have hsb := Below.sl good_ent hb4 hsb
      have q4 := below_trans q3 hb4
      have s34 := hb4.size
      have hclen : Hid ((a.map fun e => e.data.length).length = a.length) := Lib.hid (List.length_map ..)
      have s03 := q3.size
      clear hcf hb4 q3
      obtain ⟨Ac, capc, rfl⟩ := own_form hc0.row
      clear hc0
      go_wp2_with fail
      refine (copy_any a _ _ _ hsa (by omega) HED.out).mono ?_
      rintro r w5 ⟨⟨vd, fd, rfl, hd0, hdf⟩, hb5⟩
      have hsa := Below.sl good_ent hb5 hsa
      have hsb := Below.sl good_ent hb5 hsb
      have hcm := hcm.below hb5
      have q5 := below_trans q4 hb5
      have s45 := hb5.size
      have hsd : Sl 10 Rent (fun k => k < w4.heap.size ∨ w5.heap.size ≤ k) w5 vd a := (hd0.slX (X := fun k => k < w4.heap.size) hdf fun b hb => by omega).mono good_ent (by omega) fun k hk h => by omega
      obtain ⟨Ad, capd, rfl, _, _⟩ := hsd.form
      clear hd0 hdf hb5 q4
      go_wp2_with fail
      refine (pcanon_any a _ _ _ hsa hLB.out HED.out).mono ?_
      rintro r w6 h6
      obtain ⟨⟨vx, Lx, fx, Bx, cx, rfl, hBx, hx0, hxf, hxl⟩, hb6⟩ := canonR_x h6
      clear h6
      have hxm := mess_of hx0 hxf
      have hsa := Below.sl good_ent hb6 hsa
      have hsb := Below.sl good_ent hb6 hsb
      have hsd := Below.sl good_ent hb6 hsd
      have hcm := hcm.below hb6
      have q6 := below_trans q5 hb6
      obtain ⟨Axx, capx, rfl⟩ := own_form hx0.row
      obtain ⟨lx, Hlx⟩ : ∃ lx, Hid ((Lx.map fun e => e.data.length) = lx) := ⟨_, Lib.hid rfl⟩
      have hnx : (Lx.map fun e => e.data.length).length = Lx.length := List.length_map ..
      obtain ⟨nx, hnx2⟩ : ∃ nx, Lx.length = nx := ⟨_, rfl⟩
      have Hnx : Hid (lx.length = nx) := Lib.hid (by rw [← Hlx.out, hnx, hnx2])
      rw [hnx2] at hxm hxl ⊢
      rw [Hlx.out] at hxm
      have hnx60 : nx ≤ 60 := by omega
      obtain ⟨lc, Hlc⟩ : ∃ lc, Hid ((a.map fun e => e.data.length) = lc) := ⟨_, Lib.hid rfl⟩
      have hclen : Hid (lc.length = a.length) := Lib.hid (by rw [← Hlc.out]; exact hclen.out)
      rw [Hlc.out] at hcm
      have sB : w.heap.size ≤ Bx := Nat.le_trans q5.size hBx
      have s56 := hb6.size
      clear hx0 hxf hb6 q5 hnx hnx2 Hlx Hlc hLB HED
      have hhi := hxm.blk
      generalize hhe : w6.heap.size = hi6 at hxm hhi
      clear hhi
      go_wp2_with fail
      go_loopg [9] nx (fun G si wx => ∃ i : Nat, i ≤ nx ∧ G = nx - i ∧ si = .int .i64 i ∧ Kept (fun b => Bx ≤ b ∧ b < hi6) w6 wx ∧ Mess Bx hi6 wx (.slice Axx nx capx) lx fx)
      case atStart => exact ⟨0, Nat.zero_le _, rfl, rfl, Kept.refl _ _, hxm⟩
      case round =>
        clear hxm
        obtain ⟨i, hi, rfl, rfl, kq, hM⟩ := hrel
        by_cases hlt : i < nx
        rotate_left
        · have hie : i = nx := by omega
          have hsa := hsa.keep good_ent (kq.mono fun bb _ hb => show w3.heap.size ≤ bb by omega)
          have hsb := hsb.keep good_ent (kq.mono fun bb _ hb => show w3.heap.size ≤ bb by omega)
          have hsd := hsd.keep good_ent (kq.mono fun bb _ hb => .inr (by omega))
          have hcm := hcm.kept kq (fun bb hb hc => by omega)
          have q7 : Below w.heap.size w wr := q6.trans (kq.below q6.size fun bb _ hb => by omega)
          have s37 : w3.heap.size ≤ wr.heap.size := by have := kq.size; omega
          clear hM kq hie hi q6 hBx hhe
          generalize wr = W7 at hsa hsb hsd hcm q7 s37 ⊢
          go_wp2_with fail
          go_loopg [11] a.length (fun G si wx => ∃ i : Nat, i ≤ a.length ∧ G = a.length - i ∧ si = .int .i64 i ∧ Kept (fun b => w3.heap.size ≤ b ∧ b < w4.heap.size) W7 wx ∧ Mess w3.heap.size w4.heap.size wx (.slice Ac a.length capc) lc fc)
          case atStart => exact ⟨0, Nat.zero_le _, rfl, rfl, Kept.refl _ _, hcm⟩
          case round =>
            clear hcm
            obtain ⟨i, hi, rfl, rfl, kq, hM⟩ := hrel
            by_cases hlt : i < a.length
            rotate_left
            · have hie : i = a.length := by omega
              have hsa := hsa.keep good_ent (kq.mono fun bb _ hb => hb.1)
              have hsb := hsb.keep good_ent (kq.mono fun bb _ hb => hb.1)
              have hsd := hsd.keep good_ent (kq.mono fun bb _ hb => .inl hb.2)
              have q8 : Below w.heap.size w wr := q7.trans (kq.below q7.size fun bb _ hb => by omega)
              have hla : a.length ≤ 1000000 := by omega
              clear hM kq hie hi q7
              go_wp2_with fail
              refine (psame_any a b _ _ _ _ _ hsa hsb hla).mono ?_
              rintro r w8 ⟨rfl, hb8⟩
              have hsa := Below.sl good_ent hb8 hsa
              have hsb := Below.sl good_ent hb8 hsb
              have hsd := Below.sl good_ent hb8 hsd
              have q9 := below_trans q8 hb8
              clear hb8 q8
              go_wp2_with fail
              refine (rsame_any a b _ _ _ _ _ hsa hsb hla).mono ?_
              rintro r w9 ⟨rfl, hb9⟩
              have hsa := Below.sl good_ent hb9 hsa
              have hsd := Below.sl good_ent hb9 hsd
              have qa := below_trans q9 hb9
              clear hb9 q9 hsb
              obtain ⟨sm, hsm⟩ : ∃ sm, sameL a b = sm := ⟨_, rfl⟩
              rw [hsm]
              have es : (sm == sm) = true := by simp
              clear hsm
              go_wp2_with fail
              refine (psame_any a a _ _ _ _ _ hsa hsd hla).mono ?_
              rw [sameL_self]
              rintro r wa ⟨rfl, hba⟩
              have hsa := Below.sl good_ent hba hsa
              have hsd := Below.sl good_ent hba hsd
              have qb := below_trans qa hba
              clear hba qa
              go_wp2_with fail
              refine (rsame_any a a _ _ _ _ _ hsd hsa hla).mono ?_
              rw [sameL_self]
              rintro r wb ⟨rfl, hbb⟩
              have qc := below_trans qb hbb
              clear hbb qb hsa hsd
              go_wp2_with fail
              go_ret
              exact ⟨rfl, qc⟩
            have hil : i < lc.length := by rw [hclen.out]; exact hlt
            obtain ⟨g, cp, hv⟩ : ∃ g cp, Value.slice Ac a.length capc = .slice (some ⟨g, 0, none⟩) a.length cp := by
              obtain ⟨Lm, hLm, hEm⟩ := hM.ex
              have hll := congrArg List.length hLm
              rw [List.length_map] at hll
              obtain ⟨g, cp, hv, _⟩ := hEm.form (by omega)
              exact ⟨g, cp, by rw [hv, hll, hclen.out]⟩
            injection hv with hv1 hv2 hv3
            subst hv1 hv3
            clear hv2
            obtain ⟨c9, ⟨pth, c0⟩, fz0, ⟨A1, c1, hfi, hl1, hl2⟩, _⟩ := hM.at i hil
            rw [hfi] at c9
            have i1 : (0 : Int) ≤ (i : Int) := by omega
            have i2 : (i : Int) < (a.length : Int) := by omega
            obtain ⟨ln, Hln⟩ : ∃ ln, Hid (lc[i] = ln) := ⟨_, Lib.hid rfl⟩
            rw [Hln.out] at c9 hfi hl1
            unfold maxLen at hl2
            go_wp2_with fail
            go_loopg [12] ln (fun G sk wx => ∃ k : Nat, k ≤ ln ∧ G = ln - k ∧ sk = .int .i64 k ∧ Kept (fun b => w3.heap.size ≤ b ∧ b < w4.heap.size) W7 wx ∧ Mess w3.heap.size w4.heap.size wx (.slice (some ⟨g, 0, none⟩) a.length capc) lc fc)
            case atStart => exact ⟨0, Nat.zero_le _, rfl, rfl, kq, hM⟩
            case round =>
              clear kq hM c9 c0 fz0
              obtain ⟨k, hk, rfl, rfl, kq, hM⟩ := hrel
              by_cases hkl : k < ln
              rotate_left
              · have hke : k = ln := by omega
                obtain ⟨c9, ⟨pth, c0⟩, fz0, _, _⟩ := hM.at i hil
                rw [hfi] at c9
                obtain ⟨hM3, k3⟩ := hM.path (by have := kq.size; omega) i hil [33]
                have kq3 := kq.trans k3
                clear hM kq k3
                go_wp2_with fail
                go_roundg (a.length - (i + 1))
                case measure => omega
                case rel => exact ⟨i + 1, by omega, rfl, by simp, kq3, hM3⟩
              have hpos : 0 < lc[i] := by rw [Hln.out]; omega
              have hMd := hM.below ((Below.refl _ wr).drew)
              have kqd := kq.drew
              obtain ⟨c9, _, _, _, hpk⟩ := hMd.at i hil
              obtain ⟨bb, off, cc, hfi2, hkk⟩ := hpk hpos
              rw [Hln.out] at hfi2 hkk
              rw [hfi] at hfi2 c9
              injection hfi2 with e1 e2 e3
              subst e1 e3
              obtain ⟨⟨y, hy⟩, hfz, hset⟩ := hkk k hkl
              obtain ⟨m, hm⟩ := xor255 y
              obtain ⟨hM2, k2⟩ := hset m
              have kq2 := kqd.trans k2
              have k1 : (0 : Int) ≤ (k : Int) := by omega
              have kk2 : (k : Int) < (ln : Int) := by omega
              have c9r : wr.cell? ⟨g, i * 10 + 9, none⟩ = some (.slice (some ⟨bb, off, none⟩) ln c1) := by simpa using c9
              clear hpk hkk hset e2 hMd kqd hM kq k2
              go_upto_region 20 with fail
              refine wp_region_plan (fun W => W.cell? ⟨g, i * 10 + 9, none⟩ = some (.slice (some ⟨bb, off, none⟩) ln c1) ∧ W.cell? ⟨bb, off + k, none⟩ = some (.int .u8 (y.toNat : Int))) [(false, 0), (false, 1), (false, 2), (false, 3), (false, 4), (false, 5), (false, 6), (false, 7), (false, 8), (false, 9), (false, 10), (false, 11), (false, 12), (false, 13), (false, 14), (false, 15), (true, 16)] (by kernel_rfl) (by kernel_rfl) (⟨c9, hy⟩) ?_
              simp only [planOps, List.map, List.getD_cons_zero, List.getD_cons_succ]
              iterate 16 ((first | refine plan_quiet (v := ?_) rfl rfl (fun w' hw' => ?_) ?_ | refine plan_calm (v := ?_) (tt_of) rfl (fun w' hw' => ?_) ?_); rotate_left; (focus (go_simp <;> (first | with_reducible rfl | (rw [if_neg (by simp [undef])]; try rfl)))); simp only [Act.put, List.setIfInBounds_toArray, List.set_cons_zero, List.set_cons_succ])
              refine plan_last rfl (by kernel_rfl) (by kernel_rfl) (fun K hK => ?_)
              go_simp
              refine hK _ _ (trivial) ?_
              clear hK K
              (try simp only [Act.put, List.setIfInBounds_toArray, List.set_cons_zero, List.set_cons_succ])
              refine plan_end ?_
              clear c9 hy hfz hm c9r
              go_wp2_with fail
              go_roundg (ln - (k + 1))
              case measure => omega
              case rel => exact ⟨k + 1, by omega, rfl, by simp, kq2, hM2⟩
        have hil : i < lx.length := by rw [Hnx.out]; exact hlt
        obtain ⟨g, cp, hv⟩ : ∃ g cp, Value.slice Axx nx capx = .slice (some ⟨g, 0, none⟩) nx cp := by
          obtain ⟨Lm, hLm, hEm⟩ := hM.ex
          have hll := congrArg List.length hLm
          rw [List.length_map] at hll
          obtain ⟨g, cp, hv, _⟩ := hEm.form (by omega)
          exact ⟨g, cp, by rw [hv, hll, Hnx.out]⟩
        injection hv with hv1 hv2 hv3
        subst hv1 hv3
        clear hv2
        obtain ⟨c9, ⟨pth, c0⟩, fz0, ⟨A1, c1, hfi, hl1, hl2⟩, _⟩ := hM.at i hil
        rw [hfi] at c9
        have i1 : (0 : Int) ≤ (i : Int) := by omega
        have i2 : (i : Int) < (nx : Int) := by omega
        obtain ⟨ln, Hln⟩ : ∃ ln, Hid (lx[i] = ln) := ⟨_, Lib.hid rfl⟩
        rw [Hln.out] at c9 hfi hl1
        unfold maxLen at hl2
        go_wp2_with fail
        go_loopg [10] ln (fun G sk wx => ∃ k : Nat, k ≤ ln ∧ G = ln - k ∧ sk = .int .i64 k ∧ Kept (fun b => Bx ≤ b ∧ b < hi6) w6 wx ∧ Mess Bx hi6 wx (.slice (some ⟨g, 0, none⟩) nx capx) lx fx)
        case atStart => exact ⟨0, Nat.zero_le _, rfl, rfl, kq, hM⟩
        case round =>
          clear kq hM c9 c0 fz0
          obtain ⟨k, hk, rfl, rfl, kq, hM⟩ := hrel
          by_cases hkl : k < ln
          rotate_left
          · have hke : k = ln := by omega
            obtain ⟨c9, ⟨pth, c0⟩, fz0, _, _⟩ := hM.at i hil
            rw [hfi] at c9
            clear c0 fz0
            go_wp2_with fail
            go_roundg (nx - (i + 1))
            case measure => omega
            case rel => exact ⟨i + 1, by omega, rfl, by simp, kq, hM⟩
          have hpos : 0 < lx[i] := by rw [Hln.out]; omega
          have hMd := hM.below ((Below.refl _ wr).drew)
          have kqd := kq.drew
          obtain ⟨c9, _, _, _, hpk⟩ := hMd.at i hil
          obtain ⟨bb, off, cc, hfi2, hkk⟩ := hpk hpos
          rw [Hln.out] at hfi2 hkk
          rw [hfi] at hfi2 c9
          injection hfi2 with e1 e2 e3
          subst e1 e3
          obtain ⟨⟨y, hy⟩, hfz, hset⟩ := hkk k hkl
          obtain ⟨m, hm⟩ := xor255 y
          obtain ⟨hM2, k2⟩ := hset m
          have kq2 := kqd.trans k2
          have k1 : (0 : Int) ≤ (k : Int) := by omega
          have kk2 : (k : Int) < (ln : Int) := by omega
          have c9r : wr.cell? ⟨g, i * 10 + 9, none⟩ = some (.slice (some ⟨bb, off, none⟩) ln c1) := by simpa using c9
          clear hpk hkk hset e2 hMd kqd hM kq k2
          go_upto_region 13 with fail
          refine wp_region_plan (fun W => W.cell? ⟨g, i * 10 + 9, none⟩ = some (.slice (some ⟨bb, off, none⟩) ln c1) ∧ W.cell? ⟨bb, off + k, none⟩ = some (.int .u8 (y.toNat : Int))) [(false, 0), (false, 1), (false, 2), (false, 3), (false, 4), (false, 5), (false, 6), (false, 7), (false, 8), (false, 9), (false, 10), (false, 11), (false, 12), (false, 13), (false, 14), (false, 15), (true, 16)] (by kernel_rfl) (by kernel_rfl) (⟨c9, hy⟩) ?_
          simp only [planOps, List.map, List.getD_cons_zero, List.getD_cons_succ]
          iterate 16 ((first | refine plan_quiet (v := ?_) rfl rfl (fun w' hw' => ?_) ?_ | refine plan_calm (v := ?_) (tt_of) rfl (fun w' hw' => ?_) ?_); rotate_left; (focus (go_simp <;> (first | with_reducible rfl | (rw [if_neg (by simp [undef])]; try rfl)))); simp only [Act.put, List.setIfInBounds_toArray, List.set_cons_zero, List.set_cons_succ])
          refine plan_last rfl (by kernel_rfl) (by kernel_rfl) (fun K hK => ?_)
          go_simp
          refine hK _ _ (trivial) ?_
          clear hK K
          (try simp only [Act.put, List.setIfInBounds_toArray, List.set_cons_zero, List.set_cons_succ])
          refine plan_end ?_
          clear c9 hy hfz hm c9r
          go_wp2_with fail
          go_roundg (ln - (k + 1))
          case measure => omega
          case rel => exact ⟨k + 1, by omega, rfl, by simp, kq2, hM2⟩
end Go.Proofs.YtjhikglgaoncjaaDoor
