/- The walk of tar.Write in the style Ustar. Printed by gen_taw.py. The walk of tar.Write in the style Gnu. Printed by gen_taw.py. The walk of tar.Write in the style Pax. Printed by gen_taw.py. -/
import Derived.Test.YtpheifdpjcppdaaGreatDoorTaEK
import Derived.Test.YtpheifdpjcppdaaGreatDoorPlaF
namespace Go.Proofs.YtpheifdpjcppdaaGreatDoor
open Go.RowKit
set_option maxRecDepth 20000 in
set_option maxHeartbeats 16000000 in
theorem twrite0_any (l : List En) (v : Value) (X : Nat → Prop) (w : World) (hsl : Sl 10 Rent X w v l) (hL : LB l) (hlen : l.length ≤ 50) (hR : Rt l) (hD : Deb w) (hT : Tab w) :
    Calls Tryz.prog 9 #[v, .int .i64 0] w fun r w' => ∃ v', r = .returned (.tuple #[v', .int .i64 (if l.any badU = true then 10 else 0)]) ∧ Row8 w none w.heap.size 5 w' v' (if l.any badU = true then [] else tarB 0 l) := by
  have hck := pchkall_any l v X w hsl hL
  rw [rt_chk hR] at hck
  have hsl0 : Sl 10 Rent (fun k => w.heap.size ≤ k) w v l := hsl.mono good_ent (by omega) fun k hk h => absurd h (by omega)
  clear hsl
  obtain ⟨A, cap, rfl, hc1, hc2⟩ := hsl0.form
  unfold maxLen at hc2
  have HFX : Hid (∀ e ∈ l, Fx e) := Lib.hid fun e he => chk_fx (hR.chk e he)
  obtain ⟨rc, HRC⟩ : ∃ r : Int, Hid (r = if l.any badU = true then 10 else 0) := ⟨_, Lib.hid rfl⟩
  obtain ⟨rx, HRX⟩ : ∃ r, Hid (r = if l.any badU = true then [] else tarB 0 l) := ⟨_, Lib.hid rfl⟩
  rw [← HRC.out, ← HRX.out]
  clear hL hR
  go_enter Tryz.func9, Tryz.ntmps9
  go_upto_region 6 with (go_at_call 15; refine hck.mono ?_; clear hck; rintro e W1 ⟨rfl, hb⟩)
  have hr0 : Row8 w none w.heap.size 5 W1 (.slice none 0 0) (accT 0 l 0) := ⟨World.ownsRow_nil _ _ _ _, (fun k h => by cases h), Kept.of_below hb _, Nat.le_refl _⟩
  clear hb
  go_wp2_with fail
  go_loopg [8, 39] l.length (fun G s8 s39 wr => ∃ k : Nat, k ≤ l.length ∧ G = l.length - k ∧ s39 = .int .i64 (k : Int) ∧ Row8 w none w.heap.size 5 wr s8 (accT 0 l k) ∧ Hid ((accT 0 l k).length ≤ k * 1100000) ∧ Hid (l.any badU = (l.drop k).any badU))
  case atStart => exact ⟨0, Nat.zero_le _, rfl, rfl, hr0, Lib.hid (by simp [accT]), Lib.hid rfl⟩
  case round =>
    clear hr0
    obtain ⟨k, hk, rfl, rfl, hrow, HLE, HLB⟩ := hrel
    have HLE2 : (accT 0 l k).length ≤ 60000000 := by have := HLE.out; omega
    have HLE2 := Lib.hid HLE2
    obtain ⟨A8, c8, rfl⟩ := own_form hrow.own
    generalize hs8 : Value.slice A8 (accT 0 l k).length c8 = s8 at hrow ⊢
    clear hs8
    by_cases hlt : k < l.length
    · have HST := Lib.hid (accT_step 0 l k hlt)
      have hslr := hsl0.keep good_ent (Kept.low hrow.belw)
      obtain ⟨b, off, rfl, _, hc⟩ := hslr.ent (by omega)
      obtain ⟨dv, hat, hdv⟩ := hc k hlt
      obtain ⟨Ad, capd, rfl, _, _⟩ := hdv.form
      have HDV : Hid (Sl 1 Rbyte (fun k => w.heap.size ≤ k) w (.slice Ad l[k].data.length capd) l[k].data) := Lib.hid (sl_back hrow.belw hsl0 hlt hat hdv)
      clear hdv
      have HF := HFX.out _ (List.getElem_mem hlt)
      have hml := memT_le HF 0
      have hd2 := HF.d2
      have HLN : Hid ((accT 0 l (k + 1)).length ≤ (k + 1) * 1100000) := Lib.hid (by rw [HST.out, List.length_append]; have := HLE.out; omega)
      clear hml hd2 HLE
      have HBS := Lib.hid (show (l.drop k).any badU = (badU l[k] || (l.drop (k + 1)).any badU) by rw [drop_cons l k hlt, List.any_cons])
      have i1 : (0 : Int) ≤ (k : Int) := by omega
      have i2 : (k : Int) < (l.length : Int) := by omega
      have wk : IntKind.i64.wrap ((k : Int) + 1) = (k : Int) + 1 := i64_in _ (by omega) (by omega)
      clear hc hslr
      generalize l[k] = e at hat HDV HST HF HBS
      obtain ⟨path, kind, mode, uid, gid, owner, group, mtime, link, data⟩ := e
      obtain ⟨k1, k2, m1, m2, u1, u2, g1, g2, t1, t2, p1, p2, l2, hnd, hnl, d2, o2, q2⟩ := id HF
      dsimp only at k1 k2 m1 m2 u1 u2 g1 g2 t1 t2 p1 p2 l2 hnd hnl d2 o2 q2
      obtain ⟨mo, rfl⟩ := Int.eq_ofNat_of_zero_le m1
      obtain ⟨ui, rfl⟩ := Int.eq_ofNat_of_zero_le u1
      obtain ⟨gi, rfl⟩ := Int.eq_ofNat_of_zero_le g1
      obtain ⟨ti, rfl⟩ := Int.eq_ofNat_of_zero_le t1
      obtain ⟨c0, c1, c2, c3, c4, c5, c6, c7, c8', c9⟩ := hat
      dsimp only at c0 c1 c2 c3 c4 c5 c6 c7 c8' c9
      obtain ⟨E, HE⟩ : ∃ E : En, Hid (E = ⟨path, kind, mo, ui, gi, owner, group, ti, link, data⟩) := ⟨_, Lib.hid rfl⟩
      rw [← HE.out] at HST HF HBS
      have hnm := nameT_le HF
      have HKD : Hid (E.kind = kind ∧ E.path = path ∧ E.link = link ∧ E.data = data) := Lib.hid (by rw [HE.out]; exact ⟨rfl, rfl, rfl, rfl⟩)
      have HHD : Hid (∀ a b, headV (hdH E a b) = .agg #[.string (bs a), .string (bs b), .string (bs link), .int .i64 mo, .int .i64 ui, .int .i64 gi, .int .i64 (data.length : Int), .int .i64 ti, .int .u8 (kindT kind), .string (bs owner), .string (bs group)]) := Lib.hid fun a b => by
        rw [HE.out, ← kindU_is]; rfl
      have hho : ∀ W, Calls Tryz.prog 16 #[.agg #[.string (bs path), .int .i64 kind, .int .i64 mo, .int .i64 ui, .int .i64 gi, .string (bs owner), .string (bs group), .int .i64 ti, .string (bs link), .slice Ad data.length capd]] W fun r w' => r = .returned (.agg #[.string ⟨#[]⟩, .string ⟨#[]⟩, .string ⟨#[]⟩, .int .i64 mo, .int .i64 ui, .int .i64 gi, .int .i64 (data.length : Int), .int .i64 ti, .int .u8 (kindT kind), .string (bs owner), .string (bs group)]) ∧ Below W.heap.size W w' := fun W => theadOf_any ⟨path, kind, mo, ui, gi, owner, group, ti, link, data⟩ Ad capd W
      clear HE
      obtain ⟨N, HN⟩ : ∃ N, Hid (N = nameT E) := ⟨_, Lib.hid rfl⟩
      rw [← HN.out] at hnm
      go_upto_region 10 with fail
      have bE := Blk.new wr 41 #[.string (bs path), .int .i64 kind, .int .i64 mo, .int .i64 ui, .int .i64 gi, .string (bs owner), .string (bs group), .int .i64 ti, .string (bs link), .slice Ad data.length capd]
      have hq := (Below.refl _ wr).alloc (Nat.le_refl _) (.cells #[.string (bs path), .int .i64 kind, .int .i64 mo, .int .i64 ui, .int .i64 gi, .string (bs owner), .string (bs group), .int .i64 ti, .string (bs link), .slice Ad data.length capd] 41)
      have hrow1 := hrow.below hq
      clear hrow hq c0 c1 c2 c3 c4 c5 c6 c7 c8' c9
      generalize wr.alloc (.cells #[.string (bs path), .int .i64 kind, .int .i64 mo, .int .i64 ui, .int .i64 gi, .string (bs owner), .string (bs group), .int .i64 ti, .string (bs link), .slice Ad data.length capd] 41) = W2 at bE hrow1 ⊢
      generalize wr.heap.size = gE at bE ⊢
      obtain ⟨d0, d1, d2', d3, d4, d5, d6, d7, d8, d9⟩ := bE.cells10
      go_upto_if 47 with fail
      go_cut [11] (fun s11 wx => s11 = .string (bs N) ∧ W2 = wx)
      case first =>
        have x1 : ¬ 9223372036854775807 < path.length + 1 := by omega
        have zp := bs_size path
        by_cases h2 : kind = 2
        · have q : (kind == 2) = true := by simpa using h2
          have HN2 : Hid (bs N = bs path ++ ⟨#[47]⟩) := Lib.hid (by rw [HN.out, nameT, if_pos (by rw [HKD.out.1]; exact h2), HKD.out.2.1]; exact bs_app path [47])
          clear h2
          go_wp2_with fail
          go_meet
          exact ⟨by rw [HN2.out], rfl⟩
        · have q : (kind == 2) = false := by simpa using h2
          have HN2 : Hid (N = path) := Lib.hid (by rw [HN.out, nameT, if_neg (by rw [HKD.out.1]; exact h2), HKD.out.2.1])
          clear h2
          go_wp2_with fail
          go_meet
          exact ⟨by rw [HN2.out], rfl⟩
      case rest =>
        obtain ⟨rfl, rfl⟩ := hcut
        go_upto_region 14 with (go_at_call 16; refine (hho _).mono ?_; clear hho; rintro r W3 ⟨rfl, hb3⟩)
        have bH := Blk.new W3 43 #[.string ⟨#[]⟩, .string ⟨#[]⟩, .string ⟨#[]⟩, .int .i64 mo, .int .i64 ui, .int .i64 gi, .int .i64 (data.length : Int), .int .i64 ti, .int .u8 (kindT kind), .string (bs owner), .string (bs group)]
        have hq := (Below.refl _ W3).alloc (Nat.le_refl _) (.cells #[.string ⟨#[]⟩, .string ⟨#[]⟩, .string ⟨#[]⟩, .int .i64 mo, .int .i64 ui, .int .i64 gi, .int .i64 (data.length : Int), .int .i64 ti, .int .u8 (kindT kind), .string (bs owner), .string (bs group)] 43)
        have hr3 := hrow1.below hb3
        have ts : TS w gE #[.string (bs path), .int .i64 kind, .int .i64 mo, .int .i64 ui, .int .i64 gi, .string (bs owner), .string (bs group), .int .i64 ti, .string (bs link), .slice Ad data.length capd] W3.heap.size #[.string ⟨#[]⟩, .string ⟨#[]⟩, .string ⟨#[]⟩, .int .i64 mo, .int .i64 ui, .int .i64 gi, .int .i64 (data.length : Int), .int .i64 ti, .int .u8 (kindT kind), .string (bs owner), .string (bs group)] s8 (accT 0 l k) (W3.alloc (.cells #[.string ⟨#[]⟩, .string ⟨#[]⟩, .string ⟨#[]⟩, .int .i64 mo, .int .i64 ui, .int .i64 gi, .int .i64 (data.length : Int), .int .i64 ti, .int .u8 (kindT kind), .string (bs owner), .string (bs group)] 43)) := ⟨hr3.below hq, (bE.below hb3 bE.lt).alloc _, bH, hr3.lowW⟩
        clear bH hq hr3 hrow1 bE hb3 d0 d1 d2' d3 d4 d5 d6 d7 d8 d9
        generalize W3.alloc (.cells #[.string ⟨#[]⟩, .string ⟨#[]⟩, .string ⟨#[]⟩, .int .i64 mo, .int .i64 ui, .int .i64 gi, .int .i64 (data.length : Int), .int .i64 ti, .int .u8 (kindT kind), .string (bs owner), .string (bs group)] 43) = W4 at ts ⊢
        generalize W3.heap.size = gH at ts ⊢
        obtain ⟨d0, d1, d2', d3, d4, d5, d6, d7, d8, d9⟩ := ts.be.cells10
        obtain ⟨y0, y1, y2, y3, y4, y5, y6, y7, y8, y9, y10⟩ := cells11 ts.bh
        have fH := ts.bh.frozen
        go_cut [] (fun wx => TS w gE #[.string (bs path), .int .i64 kind, .int .i64 mo, .int .i64 ui, .int .i64 gi, .string (bs owner), .string (bs group), .int .i64 ti, .string (bs link), .slice Ad data.length capd] gH #[.string (bs N), .string ⟨#[]⟩, .string (bs link), .int .i64 mo, .int .i64 ui, .int .i64 gi, .int .i64 (data.length : Int), .int .i64 ti, .int .u8 (kindT kind), .string (bs owner), .string (bs group)] s8 (accT 0 l k) wx)
        case first =>
          have ts1 := (ts.poke 0 (.string (bs N))).poke 2 (.string (bs link))
          have ts2 := (ts.poke 2 (.string (bs link))).poke 0 (.string (bs N))
          go_region_with (fail)
          all_goals (go_wp2_with fail; go_meet; first | exact ts1 | exact ts2 | exact ts1.below (Below.refl _ _).drew | exact ts2.below (Below.refl _ _).drew)
        case rest =>
          clear fH d0 d1 d2' d3 d4 d5 d6 d7 d8 d9 y0 y1 y2 y3 y4 y5 y6 y7 y8 y9 y10 ts
          generalize hwc : wc = W5 at hcut ⊢
          clear hwc
          have ts := hcut
          clear hcut
          obtain ⟨P, HP⟩ : ∃ P, Hid (P = partT N) := ⟨_, Lib.hid rfl⟩
          have hpa := tpart_any N W5 (by omega)
          rw [← HP.out] at hpa
          have zl := bs_size link
          have zn := bs_size N
          obtain ⟨L2, HL0⟩ : ∃ L, Hid (accT 0 l k = L) := ⟨_, Lib.hid rfl⟩
          rw [HL0.out] at ts HST HLE2
          have d8 := ts.be.cells10.2.2.2.2.2.2.2.2.1
          rcases P with _ | ⟨p, r⟩
          · have HBE : Hid (badU E = true) := Lib.hid (by rw [badU, ← HN.out, ← HP.out]; rfl)
            have hpa : Calls Tryz.prog 17 #[.string (bs N)] W5 fun r w' => r = .returned (.tuple #[.string ⟨#[]⟩, .string ⟨#[]⟩, .bool false]) ∧ Below W5.heap.size W5 w' := hpa
            clear HP
            go_upto_region 17 with (go_at_call 17; refine hpa.mono ?_; clear hpa; rintro r W6 ⟨rfl, hb6⟩; have ts6 := ts.below hb6; have d8' := ts6.be.cells10.2.2.2.2.2.2.2.2.1)
            by_cases h1 : 100 < link.length
            · have q : decide ((100 : Int) < (link.length : Int)) = true := decide_eq_true (by omega)
              have q2 : (100 : Int) < (link.length : Int) := by omega
              go_wp2_with fail
              go_ret2
              have hB : l.any badU = true := by rw [HLB.out, HBS.out, HBE.out]; rfl
              exact ⟨.slice none 0 0, by rw [HRC.out, if_pos hB]; rfl, by rw [HRX.out, if_pos hB]; exact ⟨World.ownsRow_nil _ _ _ _, (fun k h => by cases h), Kept.of_below ts6.row.belw _, Nat.le_refl _⟩⟩
            · have q : decide ((100 : Int) < (link.length : Int)) = false := decide_eq_false (by omega)
              have q2 : ¬ (100 : Int) < (link.length : Int) := by omega
              go_wp2_with fail
              go_ret2
              have hB : l.any badU = true := by rw [HLB.out, HBS.out, HBE.out]; rfl
              exact ⟨.slice none 0 0, by rw [HRC.out, if_pos hB]; rfl, by rw [HRX.out, if_pos hB]; exact ⟨World.ownsRow_nil _ _ _ _, (fun k h => by cases h), Kept.of_below ts6.row.belw _, Nat.le_refl _⟩⟩
          · have hpa : Calls Tryz.prog 17 #[.string (bs N)] W5 fun r' w' => r' = .returned (.tuple #[.string (bs p), .string (bs r), .bool true]) ∧ Below W5.heap.size W5 w' := hpa
            go_upto_region 17 with (go_at_call 17; refine hpa.mono ?_; clear hpa; rintro r' W6 ⟨rfl, hb6⟩; have ts6 := ts.below hb6; have d8' := ts6.be.cells10.2.2.2.2.2.2.2.2.1)
            by_cases h1 : 100 < link.length
            · have HBE : Hid (badU E = true) := Lib.hid (by rw [badU, HKD.out.2.2.1, decide_eq_true h1, Bool.or_true])
              have q : decide ((100 : Int) < (link.length : Int)) = true := decide_eq_true (by omega)
              have q2 : (100 : Int) < (link.length : Int) := by omega
              go_wp2_with fail
              go_ret2
              have hB : l.any badU = true := by rw [HLB.out, HBS.out, HBE.out]; rfl
              exact ⟨.slice none 0 0, by rw [HRC.out, if_pos hB]; rfl, by rw [HRX.out, if_pos hB]; exact ⟨World.ownsRow_nil _ _ _ _, (fun k h => by cases h), Kept.of_below ts6.row.belw _, Nat.le_refl _⟩⟩
            · have HBE : Hid (badU E = false) := Lib.hid (by rw [badU, HKD.out.2.2.1, decide_eq_false h1, ← HN.out, ← HP.out]; rfl)
              have HLB2 : Hid (l.any badU = (l.drop (k + 1)).any badU) := Lib.hid (by rw [HLB.out, HBS.out, HBE.out, Bool.false_or])
              have q : decide ((100 : Int) < (link.length : Int)) = false := decide_eq_false (by omega)
              have q2 : ¬ (100 : Int) < (link.length : Int) := by omega
              have f0 := ts6.bh.frozen 0
              have f1 := ts6.bh.frozen 1
              obtain ⟨y0, y1, y2, y3, y4, y5, y6, y7, y8, y9, y10⟩ := cells11 ts6.bh
              have hl9 : L2.length ≤ 60020000 := by have := HLE2.out; omega
              clear h1 hb6
              go_upto_region 37 with fail
              have ts7 : TS w gE #[.string (bs path), .int .i64 kind, .int .i64 mo, .int .i64 ui, .int .i64 gi, .string (bs owner), .string (bs group), .int .i64 ti, .string (bs link), .slice Ad data.length capd] gH #[.string (bs r), .string (bs p), .string (bs link), .int .i64 mo, .int .i64 ui, .int .i64 gi, .int .i64 (data.length : Int), .int .i64 ti, .int .u8 (kindT kind), .string (bs owner), .string (bs group)] s8 L2 ((W6.setCell ⟨gH, 1, none⟩ (.string (bs p))).setCell ⟨gH, 0, none⟩ (.string (bs r))) := (ts6.poke 1 (.string (bs p))).poke 0 (.string (bs r))
              clear ts ts6 d8 d8' f0 f1 y0 y1 y2 y3 y4 y5 y6 y7 y8 y9 y10
              have ts := ts7
              clear ts7
              generalize (W6.setCell ⟨gH, 1, none⟩ (.string (bs p))).setCell ⟨gH, 0, none⟩ (.string (bs r)) = W9 at ts ⊢
              have hp : Calls Tryz.prog 20 #[s8, .agg #[.string (bs r), .string (bs p), .string (bs link), .int .i64 mo, .int .i64 ui, .int .i64 gi, .int .i64 (data.length : Int), .int .i64 ti, .int .u8 (kindT kind), .string (bs owner), .string (bs group)], .string ⟨#[117, 115, 116, 97, 114, 0, 48, 48]⟩] W9 fun ez w' => ∃ v', ez = .returned v' ∧ Row8 W9 s8.ownBlock w.heap.size 5 w' v' (L2 ++ blockB (hdH E r p) false) := by
                have := phead_any (hdH E r p) false (hdH_ok HF _ _) (by show E.mode.toNat ≤ _; have := HF.m2; omega) (by show E.uid.toNat ≤ _; have := HF.u2; omega) (by show E.gid.toNat ≤ _; have := HF.g2; omega) (by show E.data.length ≤ _; have := HF.d2; omega) (by show E.mtime.toNat ≤ _; have := HF.t2; omega) W9 w.heap.size s8 L2 ts.row.own ts.row.lowW (by omega) (hD.below ts.row.belw)
                rw [HHD.out] at this
                exact this
              have hbl := blockB_len (hdH_ok HF r p) false
              have HFIN : Hid (∀ Bk, Bk = blockB (hdH E r p) false → accT 0 l (k + 1) = L2 ++ Bk ++ wholeB data) := Lib.hid fun Bk hB => by
                have e1 : headT 0 E = Bk := by rw [hB, headT, if_neg (by decide), ← HN.out, ← HP.out, partH]
                rw [HST.out, memT, e1, aheadT, if_pos rfl, HKD.out.2.2.2, List.nil_append]
                simp only [List.append_assoc]
              obtain ⟨Bk, HBk⟩ : ∃ Bk, Hid (Bk = blockB (hdH E r p) false) := ⟨_, Lib.hid rfl⟩
              rw [← HBk.out] at hp hbl
              obtain ⟨y0, y1, y2, y3, y4, y5, y6, y7, y8, y9, y10⟩ := cells11 ts.bh
              go_upto_region 41 with (go_at_call 20; refine hp.mono ?_; clear hp; rintro r W10 ⟨v10, rfl, hr10⟩)
              have ts10 := ts.grow hr10
              clear ts hr10 y0 y1 y2 y3 y4 y5 y6 y7 y8 y9 y10
              have d9 := ts10.be.cells10.2.2.2.2.2.2.2.2.2
              have hq := tputb_any data (.slice Ad data.length capd) W10 w.heap.size v10 (L2 ++ Bk) ts10.row.own ts10.row.lowW (by rw [List.length_append]; omega) (HDV.out.keep good_byte (Kept.low ts10.row.belw)).sb8 (by omega)
              go_wp2_with (go_at_call 21; refine hq.mono ?_; clear hq; rintro r W11 ⟨v11, rfl, hr11⟩)
              have ts11 := ts10.grow hr11
              clear ts10 hr11 d9
              rw [← HFIN.out Bk HBk.out] at ts11
              go_roundg (l.length - (k + 1))
              case measure => omega
              case rel => exact ⟨k + 1, by omega, rfl, by first | (simp; done) | (simp; omega), ts11.row, HLN, HLB2⟩
    · have hke : k = l.length := by omega
      subst hke
      have i2 : ¬ (l.length : Int) < (l.length : Int) := by omega
      obtain ⟨L, HL⟩ : ∃ L, Hid (accT 0 l l.length = L) := ⟨_, Lib.hid rfl⟩
      rw [HL.out] at hrow HLE2
      have hl8 := HLE2.out
      go_wp2_with (at_builtin; refine wpList_row_zeros rfl _ _ 25 3 rfl Tryz.underlying25 Tryz.underlying3 u8info (by first | rfl | (simp; done)) hrow 1024 rfl (by omega) ?_; intro v2 W2 hr2; obtain ⟨A2, c2, rfl⟩ := own_form hr2.own)
      go_ret2
      have : tarB 0 l = L ++ List.replicate 1024 0 := by rw [tarB, HL.out]
      have hB : l.any badU = false := by rw [HLB.out, List.drop_eq_nil_of_le (Nat.le_refl _)]; rfl
      exact ⟨.slice A2 (L.length + 1024) c2, by rw [HRC.out, hB]; rfl, by rw [HRX.out, hB, if_neg (by decide), this]; rw [List.length_append, List.length_replicate] at hr2; exact hr2⟩
end Go.Proofs.YtpheifdpjcppdaaGreatDoor
namespace Go.Proofs.YtpheifdpjcppdaaGreatDoor
open Go.RowKit
set_option maxRecDepth 20000 in
set_option maxHeartbeats 16000000 in
theorem twrite1_any (l : List En) (v : Value) (X : Nat → Prop) (w : World) (hsl : Sl 10 Rent X w v l) (hL : LB l) (hlen : l.length ≤ 50) (hR : Rt l) (hD : Deb w) (hT : Tab w) :
    Calls Tryz.prog 9 #[v, .int .i64 1] w fun r w' => ∃ v', r = .returned (.tuple #[v', .int .i64 0]) ∧ Row8 w none w.heap.size 5 w' v' (tarB 1 l) := by
  have hck := pchkall_any l v X w hsl hL
  rw [rt_chk hR] at hck
  have hsl0 : Sl 10 Rent (fun k => w.heap.size ≤ k) w v l := hsl.mono good_ent (by omega) fun k hk h => absurd h (by omega)
  clear hsl
  obtain ⟨A, cap, rfl, hc1, hc2⟩ := hsl0.form
  unfold maxLen at hc2
  have HFX : Hid (∀ e ∈ l, Fx e) := Lib.hid fun e he => chk_fx (hR.chk e he)
  clear hL hR
  go_enter Tryz.func9, Tryz.ntmps9
  go_upto_region 6 with (go_at_call 15; refine hck.mono ?_; clear hck; rintro e W1 ⟨rfl, hb⟩)
  have hr0 : Row8 w none w.heap.size 5 W1 (.slice none 0 0) (accT 1 l 0) := ⟨World.ownsRow_nil _ _ _ _, (fun k h => by cases h), Kept.of_below hb _, Nat.le_refl _⟩
  clear hb
  go_wp2_with fail
  go_loopg [8, 39] l.length (fun G s8 s39 wr => ∃ k : Nat, k ≤ l.length ∧ G = l.length - k ∧ s39 = .int .i64 (k : Int) ∧ Row8 w none w.heap.size 5 wr s8 (accT 1 l k) ∧ Hid ((accT 1 l k).length ≤ k * 1100000))
  case atStart => exact ⟨0, Nat.zero_le _, rfl, rfl, hr0, Lib.hid (by simp [accT])⟩
  case round =>
    clear hr0
    obtain ⟨k, hk, rfl, rfl, hrow, HLE⟩ := hrel
    have HLE2 : (accT 1 l k).length ≤ 60000000 := by have := HLE.out; omega
    have HLE2 := Lib.hid HLE2
    obtain ⟨A8, c8, rfl⟩ := own_form hrow.own
    generalize hs8 : Value.slice A8 (accT 1 l k).length c8 = s8 at hrow ⊢
    clear hs8
    by_cases hlt : k < l.length
    · have HST := Lib.hid (accT_step 1 l k hlt)
      have hslr := hsl0.keep good_ent (Kept.low hrow.belw)
      obtain ⟨b, off, rfl, _, hc⟩ := hslr.ent (by omega)
      obtain ⟨dv, hat, hdv⟩ := hc k hlt
      obtain ⟨Ad, capd, rfl, _, _⟩ := hdv.form
      have HDV : Hid (Sl 1 Rbyte (fun k => w.heap.size ≤ k) w (.slice Ad l[k].data.length capd) l[k].data) := Lib.hid (sl_back hrow.belw hsl0 hlt hat hdv)
      clear hdv
      have HF := HFX.out _ (List.getElem_mem hlt)
      have hml := memT_le HF 1
      have hd2 := HF.d2
      have HLN : Hid ((accT 1 l (k + 1)).length ≤ (k + 1) * 1100000) := Lib.hid (by rw [HST.out, List.length_append]; have := HLE.out; omega)
      clear hml hd2 HLE
      have i1 : (0 : Int) ≤ (k : Int) := by omega
      have i2 : (k : Int) < (l.length : Int) := by omega
      have wk : IntKind.i64.wrap ((k : Int) + 1) = (k : Int) + 1 := i64_in _ (by omega) (by omega)
      clear hc hslr
      generalize l[k] = e at hat HDV HST HF 
      obtain ⟨path, kind, mode, uid, gid, owner, group, mtime, link, data⟩ := e
      obtain ⟨k1, k2, m1, m2, u1, u2, g1, g2, t1, t2, p1, p2, l2, hnd, hnl, d2, o2, q2⟩ := id HF
      dsimp only at k1 k2 m1 m2 u1 u2 g1 g2 t1 t2 p1 p2 l2 hnd hnl d2 o2 q2
      obtain ⟨mo, rfl⟩ := Int.eq_ofNat_of_zero_le m1
      obtain ⟨ui, rfl⟩ := Int.eq_ofNat_of_zero_le u1
      obtain ⟨gi, rfl⟩ := Int.eq_ofNat_of_zero_le g1
      obtain ⟨ti, rfl⟩ := Int.eq_ofNat_of_zero_le t1
      obtain ⟨c0, c1, c2, c3, c4, c5, c6, c7, c8', c9⟩ := hat
      dsimp only at c0 c1 c2 c3 c4 c5 c6 c7 c8' c9
      obtain ⟨E, HE⟩ : ∃ E : En, Hid (E = ⟨path, kind, mo, ui, gi, owner, group, ti, link, data⟩) := ⟨_, Lib.hid rfl⟩
      rw [← HE.out] at HST HF 
      have hnm := nameT_le HF
      have HKD : Hid (E.kind = kind ∧ E.path = path ∧ E.link = link ∧ E.data = data) := Lib.hid (by rw [HE.out]; exact ⟨rfl, rfl, rfl, rfl⟩)
      have HHD : Hid (∀ a b, headV (hdH E a b) = .agg #[.string (bs a), .string (bs b), .string (bs link), .int .i64 mo, .int .i64 ui, .int .i64 gi, .int .i64 (data.length : Int), .int .i64 ti, .int .u8 (kindT kind), .string (bs owner), .string (bs group)]) := Lib.hid fun a b => by
        rw [HE.out, ← kindU_is]; rfl
      have hho : ∀ W, Calls Tryz.prog 16 #[.agg #[.string (bs path), .int .i64 kind, .int .i64 mo, .int .i64 ui, .int .i64 gi, .string (bs owner), .string (bs group), .int .i64 ti, .string (bs link), .slice Ad data.length capd]] W fun r w' => r = .returned (.agg #[.string ⟨#[]⟩, .string ⟨#[]⟩, .string ⟨#[]⟩, .int .i64 mo, .int .i64 ui, .int .i64 gi, .int .i64 (data.length : Int), .int .i64 ti, .int .u8 (kindT kind), .string (bs owner), .string (bs group)]) ∧ Below W.heap.size W w' := fun W => theadOf_any ⟨path, kind, mo, ui, gi, owner, group, ti, link, data⟩ Ad capd W
      clear HE
      obtain ⟨N, HN⟩ : ∃ N, Hid (N = nameT E) := ⟨_, Lib.hid rfl⟩
      rw [← HN.out] at hnm
      go_upto_region 10 with fail
      have bE := Blk.new wr 41 #[.string (bs path), .int .i64 kind, .int .i64 mo, .int .i64 ui, .int .i64 gi, .string (bs owner), .string (bs group), .int .i64 ti, .string (bs link), .slice Ad data.length capd]
      have hq := (Below.refl _ wr).alloc (Nat.le_refl _) (.cells #[.string (bs path), .int .i64 kind, .int .i64 mo, .int .i64 ui, .int .i64 gi, .string (bs owner), .string (bs group), .int .i64 ti, .string (bs link), .slice Ad data.length capd] 41)
      have hrow1 := hrow.below hq
      clear hrow hq c0 c1 c2 c3 c4 c5 c6 c7 c8' c9
      generalize wr.alloc (.cells #[.string (bs path), .int .i64 kind, .int .i64 mo, .int .i64 ui, .int .i64 gi, .string (bs owner), .string (bs group), .int .i64 ti, .string (bs link), .slice Ad data.length capd] 41) = W2 at bE hrow1 ⊢
      generalize wr.heap.size = gE at bE ⊢
      obtain ⟨d0, d1, d2', d3, d4, d5, d6, d7, d8, d9⟩ := bE.cells10
      go_upto_if 47 with fail
      go_cut [11] (fun s11 wx => s11 = .string (bs N) ∧ W2 = wx)
      case first =>
        have x1 : ¬ 9223372036854775807 < path.length + 1 := by omega
        have zp := bs_size path
        by_cases h2 : kind = 2
        · have q : (kind == 2) = true := by simpa using h2
          have HN2 : Hid (bs N = bs path ++ ⟨#[47]⟩) := Lib.hid (by rw [HN.out, nameT, if_pos (by rw [HKD.out.1]; exact h2), HKD.out.2.1]; exact bs_app path [47])
          clear h2
          go_wp2_with fail
          go_meet
          exact ⟨by rw [HN2.out], rfl⟩
        · have q : (kind == 2) = false := by simpa using h2
          have HN2 : Hid (N = path) := Lib.hid (by rw [HN.out, nameT, if_neg (by rw [HKD.out.1]; exact h2), HKD.out.2.1])
          clear h2
          go_wp2_with fail
          go_meet
          exact ⟨by rw [HN2.out], rfl⟩
      case rest =>
        obtain ⟨rfl, rfl⟩ := hcut
        go_upto_region 14 with (go_at_call 16; refine (hho _).mono ?_; clear hho; rintro r W3 ⟨rfl, hb3⟩)
        have bH := Blk.new W3 43 #[.string ⟨#[]⟩, .string ⟨#[]⟩, .string ⟨#[]⟩, .int .i64 mo, .int .i64 ui, .int .i64 gi, .int .i64 (data.length : Int), .int .i64 ti, .int .u8 (kindT kind), .string (bs owner), .string (bs group)]
        have hq := (Below.refl _ W3).alloc (Nat.le_refl _) (.cells #[.string ⟨#[]⟩, .string ⟨#[]⟩, .string ⟨#[]⟩, .int .i64 mo, .int .i64 ui, .int .i64 gi, .int .i64 (data.length : Int), .int .i64 ti, .int .u8 (kindT kind), .string (bs owner), .string (bs group)] 43)
        have hr3 := hrow1.below hb3
        have ts : TS w gE #[.string (bs path), .int .i64 kind, .int .i64 mo, .int .i64 ui, .int .i64 gi, .string (bs owner), .string (bs group), .int .i64 ti, .string (bs link), .slice Ad data.length capd] W3.heap.size #[.string ⟨#[]⟩, .string ⟨#[]⟩, .string ⟨#[]⟩, .int .i64 mo, .int .i64 ui, .int .i64 gi, .int .i64 (data.length : Int), .int .i64 ti, .int .u8 (kindT kind), .string (bs owner), .string (bs group)] s8 (accT 1 l k) (W3.alloc (.cells #[.string ⟨#[]⟩, .string ⟨#[]⟩, .string ⟨#[]⟩, .int .i64 mo, .int .i64 ui, .int .i64 gi, .int .i64 (data.length : Int), .int .i64 ti, .int .u8 (kindT kind), .string (bs owner), .string (bs group)] 43)) := ⟨hr3.below hq, (bE.below hb3 bE.lt).alloc _, bH, hr3.lowW⟩
        clear bH hq hr3 hrow1 bE hb3 d0 d1 d2' d3 d4 d5 d6 d7 d8 d9
        generalize W3.alloc (.cells #[.string ⟨#[]⟩, .string ⟨#[]⟩, .string ⟨#[]⟩, .int .i64 mo, .int .i64 ui, .int .i64 gi, .int .i64 (data.length : Int), .int .i64 ti, .int .u8 (kindT kind), .string (bs owner), .string (bs group)] 43) = W4 at ts ⊢
        generalize W3.heap.size = gH at ts ⊢
        obtain ⟨d0, d1, d2', d3, d4, d5, d6, d7, d8, d9⟩ := ts.be.cells10
        obtain ⟨y0, y1, y2, y3, y4, y5, y6, y7, y8, y9, y10⟩ := cells11 ts.bh
        have fH := ts.bh.frozen
        go_cut [] (fun wx => TS w gE #[.string (bs path), .int .i64 kind, .int .i64 mo, .int .i64 ui, .int .i64 gi, .string (bs owner), .string (bs group), .int .i64 ti, .string (bs link), .slice Ad data.length capd] gH #[.string (bs N), .string ⟨#[]⟩, .string (bs link), .int .i64 mo, .int .i64 ui, .int .i64 gi, .int .i64 (data.length : Int), .int .i64 ti, .int .u8 (kindT kind), .string (bs owner), .string (bs group)] s8 (accT 1 l k) wx)
        case first =>
          have ts1 := (ts.poke 0 (.string (bs N))).poke 2 (.string (bs link))
          have ts2 := (ts.poke 2 (.string (bs link))).poke 0 (.string (bs N))
          go_region_with (fail)
          all_goals (go_wp2_with fail; go_meet; first | exact ts1 | exact ts2 | exact ts1.below (Below.refl _ _).drew | exact ts2.below (Below.refl _ _).drew)
        case rest =>
          clear fH d0 d1 d2' d3 d4 d5 d6 d7 d8 d9 y0 y1 y2 y3 y4 y5 y6 y7 y8 y9 y10 ts
          generalize hwc : wc = W5 at hcut ⊢
          clear hwc
          have ts := hcut
          clear hcut
          obtain ⟨P, HP⟩ : ∃ P, Hid (P = partT N) := ⟨_, Lib.hid rfl⟩
          have hpa := tpart_any N W5 (by omega)
          rw [← HP.out] at hpa
          obtain ⟨a, b', c, hpv⟩ : ∃ a b c, partV P = .tuple #[.string a, .string b, .bool c] := by
            rcases P with _ | ⟨p, r⟩
            · exact ⟨_, _, _, rfl⟩
            · exact ⟨_, _, _, rfl⟩
          rw [hpv] at hpa
          clear hpv HP
          have d8 := ts.be.cells10.2.2.2.2.2.2.2.2.1
          have zl := bs_size link
          have zn := bs_size N
          have HL0 := Lib.hid (rfl : accT 1 l k = accT 1 l k)
          obtain ⟨L0, HL0⟩ : ∃ L, Hid (accT 1 l k = L) := ⟨_, Lib.hid rfl⟩
          rw [HL0.out] at ts HST HLE2
          go_upto_region 17 with (go_at_call 17; refine hpa.mono ?_; clear hpa; rintro r W6 ⟨rfl, hb6⟩; have ts6 := ts.below hb6; have d8' := ts6.be.cells10.2.2.2.2.2.2.2.2.1)
          clear ts d8
          have hl8 := HLE2.out
          have tl := tlong_any 76 N (by omega) W6 w.heap.size s8 L0 ts6.row.own ts6.row.lowW (by omega) (hD.below ts6.row.belw)
          obtain ⟨L1, HL1⟩ : ∃ L, Hid (L = L0 ++ if 100 < N.length then longB 76 N else []) := ⟨_, Lib.hid rfl⟩
          go_upto_if 83 with fail
          go_cut [8] (fun s8 wx => TS w gE #[.string (bs path), .int .i64 kind, .int .i64 mo, .int .i64 ui, .int .i64 gi, .string (bs owner), .string (bs group), .int .i64 ti, .string (bs link), .slice Ad data.length capd] gH #[.string (bs N), .string ⟨#[]⟩, .string (bs link), .int .i64 mo, .int .i64 ui, .int .i64 gi, .int .i64 (data.length : Int), .int .i64 ti, .int .u8 (kindT kind), .string (bs owner), .string (bs group)] s8 L1 wx)
          case first =>
            by_cases h1 : 100 < N.length
            · have q : decide ((100 : Int) < (N.length : Int)) = true := decide_eq_true (by omega)
              have q2 : (100 : Int) < (N.length : Int) := by omega
              have HH := Lib.hid h1
              clear h1
              go_wp2_with (go_at_call 18; refine tl.mono ?_; clear tl; rintro r W7 ⟨v7, rfl, hr7⟩)
              go_meet
              have := ts6.grow hr7
              rw [HL1.out, if_pos HH.out]
              exact this
            · have q : decide ((100 : Int) < (N.length : Int)) = false := decide_eq_false (by omega)
              have q2 : ¬ (100 : Int) < (N.length : Int) := by omega
              have HH := Lib.hid h1
              clear h1 tl
              go_wp2_with fail
              go_meet
              rw [HL1.out, if_neg HH.out, List.append_nil]
              exact ts6
          case rest =>
            clear tl ts6 hl8 d8'
            have ts := hcut
            clear hcut
            generalize wc = W7 at ts ⊢
            have hl8 : L1.length ≤ 60010000 := by
              have a1 := HLE2.out
              have a2 : (if 100 < N.length then longB 76 N else []).length ≤ 3000 := by
                split
                · exact longB_le (by omega)
                · simp
              rw [HL1.out, List.length_append]
              omega
            generalize u8 = s8 at ts ⊢
            have d8 := ts.be.cells10.2.2.2.2.2.2.2.2.1
            have tl := tlong_any 75 link (by omega) W7 w.heap.size s8 L1 ts.row.own ts.row.lowW (by omega) (hD.below ts.row.belw)
            by_cases h1 : 100 < link.length
            · have q : decide ((100 : Int) < (link.length : Int)) = true := decide_eq_true (by omega)
              have q2 : (100 : Int) < (link.length : Int) := by omega
              have HH := Lib.hid h1
              clear h1
              go_upto_region 37 with (go_at_call 18; refine tl.mono ?_; clear tl; rintro r W8 ⟨v8, rfl, hr8⟩)
              have ts9 := ts.grow hr8
              have HL2 : Hid (L1 ++ longB 75 link = L1 ++ if 100 < link.length then longB 75 link else []) := Lib.hid (by rw [if_pos HH.out])
              have hl9 : (L1 ++ longB 75 link).length ≤ 60020000 := by
                have a2 := longB_le (k := 75) (s := link) (by omega)
                rw [List.length_append]
                omega
              clear ts hr8 hl8 d8
              generalize L1 ++ longB 75 link = L2 at ts9 HL2 hl9
              have ts := ts9
              clear ts9
              generalize v8 = s8 at ts ⊢
              generalize W8 = W9 at ts ⊢
              have hp : Calls Tryz.prog 20 #[s8, .agg #[.string (bs N), .string ⟨#[]⟩, .string (bs link), .int .i64 mo, .int .i64 ui, .int .i64 gi, .int .i64 (data.length : Int), .int .i64 ti, .int .u8 (kindT kind), .string (bs owner), .string (bs group)], .string ⟨#[117, 115, 116, 97, 114, 32, 32, 0]⟩] W9 fun r w' => ∃ v', r = .returned v' ∧ Row8 W9 s8.ownBlock w.heap.size 5 w' v' (L2 ++ blockB (hdH E N []) true) := by
                have := phead_any (hdH E N []) true (hdH_ok HF _ _) (by show E.mode.toNat ≤ _; have := HF.m2; omega) (by show E.uid.toNat ≤ _; have := HF.u2; omega) (by show E.gid.toNat ≤ _; have := HF.g2; omega) (by show E.data.length ≤ _; have := HF.d2; omega) (by show E.mtime.toNat ≤ _; have := HF.t2; omega) W9 w.heap.size s8 L2 ts.row.own ts.row.lowW (by omega) (hD.below ts.row.belw)
                rw [HHD.out] at this
                exact this
              have hbl := blockB_len (hdH_ok HF N []) true
              have HFIN : Hid (∀ Bk, Bk = blockB (hdH E N []) true → accT 1 l (k + 1) = L2 ++ Bk ++ wholeB data) := Lib.hid fun Bk hB => by
                have e1 : headT 1 E = Bk := by rw [hB, headT, if_pos rfl, HN.out]
                rw [HST.out, memT, e1, aheadT, if_neg (by decide), if_pos rfl, HL2.out, HL1.out, HN.out, HKD.out.2.2.1, HKD.out.2.2.2]
                simp only [List.append_assoc]
              obtain ⟨Bk, HBk⟩ : ∃ Bk, Hid (Bk = blockB (hdH E N []) true) := ⟨_, Lib.hid rfl⟩
              rw [← HBk.out] at hp hbl
              obtain ⟨y0, y1, y2, y3, y4, y5, y6, y7, y8, y9, y10⟩ := cells11 ts.bh
              go_upto_region 41 with (go_at_call 20; refine hp.mono ?_; clear hp; rintro r W10 ⟨v10, rfl, hr10⟩)
              have ts10 := ts.grow hr10
              clear ts hr10 y0 y1 y2 y3 y4 y5 y6 y7 y8 y9 y10
              have d9 := ts10.be.cells10.2.2.2.2.2.2.2.2.2
              have hq := tputb_any data (.slice Ad data.length capd) W10 w.heap.size v10 (L2 ++ Bk) ts10.row.own ts10.row.lowW (by rw [List.length_append]; omega) (HDV.out.keep good_byte (Kept.low ts10.row.belw)).sb8 (by omega)
              go_wp2_with (go_at_call 21; refine hq.mono ?_; clear hq; rintro r W11 ⟨v11, rfl, hr11⟩)
              have ts11 := ts10.grow hr11
              clear ts10 hr11 d9
              rw [← HFIN.out Bk HBk.out] at ts11
              go_roundg (l.length - (k + 1))
              case measure => omega
              case rel => exact ⟨k + 1, by omega, rfl, by first | (simp; done) | (simp; omega), ts11.row, HLN⟩
            · have q : decide ((100 : Int) < (link.length : Int)) = false := decide_eq_false (by omega)
              have q2 : ¬ (100 : Int) < (link.length : Int) := by omega
              have HL2 : Hid (L1 = L1 ++ if 100 < link.length then longB 75 link else []) := Lib.hid (by rw [if_neg h1, List.append_nil])
              have hl9 : L1.length ≤ 60020000 := by omega
              clear h1 tl
              go_upto_region 37 with fail
              obtain ⟨L2, HE2⟩ : ∃ L, Hid (L1 = L) := ⟨_, Lib.hid rfl⟩
              have HL2 : Hid (L2 = L1 ++ if 100 < link.length then longB 75 link else []) := Lib.hid (by rw [← HE2.out]; exact HL2.out)
              rw [HE2.out] at ts hl9
              clear hl8 d8
              generalize W7 = W9 at ts ⊢
              have hp : Calls Tryz.prog 20 #[s8, .agg #[.string (bs N), .string ⟨#[]⟩, .string (bs link), .int .i64 mo, .int .i64 ui, .int .i64 gi, .int .i64 (data.length : Int), .int .i64 ti, .int .u8 (kindT kind), .string (bs owner), .string (bs group)], .string ⟨#[117, 115, 116, 97, 114, 32, 32, 0]⟩] W9 fun r w' => ∃ v', r = .returned v' ∧ Row8 W9 s8.ownBlock w.heap.size 5 w' v' (L2 ++ blockB (hdH E N []) true) := by
                have := phead_any (hdH E N []) true (hdH_ok HF _ _) (by show E.mode.toNat ≤ _; have := HF.m2; omega) (by show E.uid.toNat ≤ _; have := HF.u2; omega) (by show E.gid.toNat ≤ _; have := HF.g2; omega) (by show E.data.length ≤ _; have := HF.d2; omega) (by show E.mtime.toNat ≤ _; have := HF.t2; omega) W9 w.heap.size s8 L2 ts.row.own ts.row.lowW (by omega) (hD.below ts.row.belw)
                rw [HHD.out] at this
                exact this
              have hbl := blockB_len (hdH_ok HF N []) true
              have HFIN : Hid (∀ Bk, Bk = blockB (hdH E N []) true → accT 1 l (k + 1) = L2 ++ Bk ++ wholeB data) := Lib.hid fun Bk hB => by
                have e1 : headT 1 E = Bk := by rw [hB, headT, if_pos rfl, HN.out]
                rw [HST.out, memT, e1, aheadT, if_neg (by decide), if_pos rfl, HL2.out, HL1.out, HN.out, HKD.out.2.2.1, HKD.out.2.2.2]
                simp only [List.append_assoc]
              obtain ⟨Bk, HBk⟩ : ∃ Bk, Hid (Bk = blockB (hdH E N []) true) := ⟨_, Lib.hid rfl⟩
              rw [← HBk.out] at hp hbl
              obtain ⟨y0, y1, y2, y3, y4, y5, y6, y7, y8, y9, y10⟩ := cells11 ts.bh
              go_upto_region 41 with (go_at_call 20; refine hp.mono ?_; clear hp; rintro r W10 ⟨v10, rfl, hr10⟩)
              have ts10 := ts.grow hr10
              clear ts hr10 y0 y1 y2 y3 y4 y5 y6 y7 y8 y9 y10
              have d9 := ts10.be.cells10.2.2.2.2.2.2.2.2.2
              have hq := tputb_any data (.slice Ad data.length capd) W10 w.heap.size v10 (L2 ++ Bk) ts10.row.own ts10.row.lowW (by rw [List.length_append]; omega) (HDV.out.keep good_byte (Kept.low ts10.row.belw)).sb8 (by omega)
              go_wp2_with (go_at_call 21; refine hq.mono ?_; clear hq; rintro r W11 ⟨v11, rfl, hr11⟩)
              have ts11 := ts10.grow hr11
              clear ts10 hr11 d9
              rw [← HFIN.out Bk HBk.out] at ts11
              go_roundg (l.length - (k + 1))
              case measure => omega
              case rel => exact ⟨k + 1, by omega, rfl, by first | (simp; done) | (simp; omega), ts11.row, HLN⟩
    · have hke : k = l.length := by omega
      subst hke
      have i2 : ¬ (l.length : Int) < (l.length : Int) := by omega
      obtain ⟨L, HL⟩ : ∃ L, Hid (accT 1 l l.length = L) := ⟨_, Lib.hid rfl⟩
      rw [HL.out] at hrow HLE2
      have hl8 := HLE2.out
      go_wp2_with (at_builtin; refine wpList_row_zeros rfl _ _ 25 3 rfl Tryz.underlying25 Tryz.underlying3 u8info (by first | rfl | (simp; done)) hrow 1024 rfl (by omega) ?_; intro v2 W2 hr2; obtain ⟨A2, c2, rfl⟩ := own_form hr2.own)
      go_ret2
      have : tarB 1 l = L ++ List.replicate 1024 0 := by rw [tarB, HL.out]
      exact ⟨.slice A2 (L.length + 1024) c2, rfl, by rw [this]; rw [List.length_append, List.length_replicate] at hr2; exact hr2⟩
end Go.Proofs.YtpheifdpjcppdaaGreatDoor
namespace Go.Proofs.YtpheifdpjcppdaaGreatDoor
open Go.RowKit
set_option maxRecDepth 20000 in
set_option maxHeartbeats 16000000 in
theorem twrite2_any (l : List En) (v : Value) (X : Nat → Prop) (w : World) (hsl : Sl 10 Rent X w v l) (hL : LB l) (hlen : l.length ≤ 50) (hR : Rt l) (hD : Deb w) (hT : Tab w) :
    Calls Tryz.prog 9 #[v, .int .i64 2] w fun r w' => ∃ v', r = .returned (.tuple #[v', .int .i64 0]) ∧ Row8 w none w.heap.size 5 w' v' (tarB 2 l) := by
  have hck := pchkall_any l v X w hsl hL
  rw [rt_chk hR] at hck
  have hsl0 : Sl 10 Rent (fun k => w.heap.size ≤ k) w v l := hsl.mono good_ent (by omega) fun k hk h => absurd h (by omega)
  clear hsl
  obtain ⟨A, cap, rfl, hc1, hc2⟩ := hsl0.form
  unfold maxLen at hc2
  have HFX : Hid (∀ e ∈ l, Fx e) := Lib.hid fun e he => chk_fx (hR.chk e he)
  clear hL hR
  go_enter Tryz.func9, Tryz.ntmps9
  go_upto_region 6 with (go_at_call 15; refine hck.mono ?_; clear hck; rintro e W1 ⟨rfl, hb⟩)
  have hr0 : Row8 w none w.heap.size 5 W1 (.slice none 0 0) (accT 2 l 0) := ⟨World.ownsRow_nil _ _ _ _, (fun k h => by cases h), Kept.of_below hb _, Nat.le_refl _⟩
  clear hb
  go_wp2_with fail
  go_loopg [8, 39] l.length (fun G s8 s39 wr => ∃ k : Nat, k ≤ l.length ∧ G = l.length - k ∧ s39 = .int .i64 (k : Int) ∧ Row8 w none w.heap.size 5 wr s8 (accT 2 l k) ∧ Hid ((accT 2 l k).length ≤ k * 1100000))
  case atStart => exact ⟨0, Nat.zero_le _, rfl, rfl, hr0, Lib.hid (by simp [accT])⟩
  case round =>
    clear hr0
    obtain ⟨k, hk, rfl, rfl, hrow, HLE⟩ := hrel
    have HLE2 : (accT 2 l k).length ≤ 60000000 := by have := HLE.out; omega
    have HLE2 := Lib.hid HLE2
    obtain ⟨A8, c8, rfl⟩ := own_form hrow.own
    generalize hs8 : Value.slice A8 (accT 2 l k).length c8 = s8 at hrow ⊢
    clear hs8
    by_cases hlt : k < l.length
    · have HST := Lib.hid (accT_step 2 l k hlt)
      have hslr := hsl0.keep good_ent (Kept.low hrow.belw)
      obtain ⟨b, off, rfl, _, hc⟩ := hslr.ent (by omega)
      obtain ⟨dv, hat, hdv⟩ := hc k hlt
      obtain ⟨Ad, capd, rfl, _, _⟩ := hdv.form
      have HDV : Hid (Sl 1 Rbyte (fun k => w.heap.size ≤ k) w (.slice Ad l[k].data.length capd) l[k].data) := Lib.hid (sl_back hrow.belw hsl0 hlt hat hdv)
      clear hdv
      have HF := HFX.out _ (List.getElem_mem hlt)
      have hml := memT_le HF 2
      have hd2 := HF.d2
      have HLN : Hid ((accT 2 l (k + 1)).length ≤ (k + 1) * 1100000) := Lib.hid (by rw [HST.out, List.length_append]; have := HLE.out; omega)
      clear hml hd2 HLE
      have i1 : (0 : Int) ≤ (k : Int) := by omega
      have i2 : (k : Int) < (l.length : Int) := by omega
      have wk : IntKind.i64.wrap ((k : Int) + 1) = (k : Int) + 1 := i64_in _ (by omega) (by omega)
      clear hc hslr
      generalize l[k] = e at hat HDV HST HF 
      obtain ⟨path, kind, mode, uid, gid, owner, group, mtime, link, data⟩ := e
      obtain ⟨k1, k2, m1, m2, u1, u2, g1, g2, t1, t2, p1, p2, l2, hnd, hnl, d2, o2, q2⟩ := id HF
      dsimp only at k1 k2 m1 m2 u1 u2 g1 g2 t1 t2 p1 p2 l2 hnd hnl d2 o2 q2
      obtain ⟨mo, rfl⟩ := Int.eq_ofNat_of_zero_le m1
      obtain ⟨ui, rfl⟩ := Int.eq_ofNat_of_zero_le u1
      obtain ⟨gi, rfl⟩ := Int.eq_ofNat_of_zero_le g1
      obtain ⟨ti, rfl⟩ := Int.eq_ofNat_of_zero_le t1
      obtain ⟨c0, c1, c2, c3, c4, c5, c6, c7, c8', c9⟩ := hat
      dsimp only at c0 c1 c2 c3 c4 c5 c6 c7 c8' c9
      obtain ⟨E, HE⟩ : ∃ E : En, Hid (E = ⟨path, kind, mo, ui, gi, owner, group, ti, link, data⟩) := ⟨_, Lib.hid rfl⟩
      rw [← HE.out] at HST HF 
      have hnm := nameT_le HF
      have HKD : Hid (E.kind = kind ∧ E.path = path ∧ E.link = link ∧ E.data = data) := Lib.hid (by rw [HE.out]; exact ⟨rfl, rfl, rfl, rfl⟩)
      have HHD : Hid (∀ a b, headV (hdH E a b) = .agg #[.string (bs a), .string (bs b), .string (bs link), .int .i64 mo, .int .i64 ui, .int .i64 gi, .int .i64 (data.length : Int), .int .i64 ti, .int .u8 (kindT kind), .string (bs owner), .string (bs group)]) := Lib.hid fun a b => by
        rw [HE.out, ← kindU_is]; rfl
      have hho : ∀ W, Calls Tryz.prog 16 #[.agg #[.string (bs path), .int .i64 kind, .int .i64 mo, .int .i64 ui, .int .i64 gi, .string (bs owner), .string (bs group), .int .i64 ti, .string (bs link), .slice Ad data.length capd]] W fun r w' => r = .returned (.agg #[.string ⟨#[]⟩, .string ⟨#[]⟩, .string ⟨#[]⟩, .int .i64 mo, .int .i64 ui, .int .i64 gi, .int .i64 (data.length : Int), .int .i64 ti, .int .u8 (kindT kind), .string (bs owner), .string (bs group)]) ∧ Below W.heap.size W w' := fun W => theadOf_any ⟨path, kind, mo, ui, gi, owner, group, ti, link, data⟩ Ad capd W
      clear HE
      obtain ⟨N, HN⟩ : ∃ N, Hid (N = nameT E) := ⟨_, Lib.hid rfl⟩
      rw [← HN.out] at hnm
      go_upto_region 10 with fail
      have bE := Blk.new wr 41 #[.string (bs path), .int .i64 kind, .int .i64 mo, .int .i64 ui, .int .i64 gi, .string (bs owner), .string (bs group), .int .i64 ti, .string (bs link), .slice Ad data.length capd]
      have hq := (Below.refl _ wr).alloc (Nat.le_refl _) (.cells #[.string (bs path), .int .i64 kind, .int .i64 mo, .int .i64 ui, .int .i64 gi, .string (bs owner), .string (bs group), .int .i64 ti, .string (bs link), .slice Ad data.length capd] 41)
      have hrow1 := hrow.below hq
      clear hrow hq c0 c1 c2 c3 c4 c5 c6 c7 c8' c9
      generalize wr.alloc (.cells #[.string (bs path), .int .i64 kind, .int .i64 mo, .int .i64 ui, .int .i64 gi, .string (bs owner), .string (bs group), .int .i64 ti, .string (bs link), .slice Ad data.length capd] 41) = W2 at bE hrow1 ⊢
      generalize wr.heap.size = gE at bE ⊢
      obtain ⟨d0, d1, d2', d3, d4, d5, d6, d7, d8, d9⟩ := bE.cells10
      go_upto_if 47 with fail
      go_cut [11] (fun s11 wx => s11 = .string (bs N) ∧ W2 = wx)
      case first =>
        have x1 : ¬ 9223372036854775807 < path.length + 1 := by omega
        have zp := bs_size path
        by_cases h2 : kind = 2
        · have q : (kind == 2) = true := by simpa using h2
          have HN2 : Hid (bs N = bs path ++ ⟨#[47]⟩) := Lib.hid (by rw [HN.out, nameT, if_pos (by rw [HKD.out.1]; exact h2), HKD.out.2.1]; exact bs_app path [47])
          clear h2
          go_wp2_with fail
          go_meet
          exact ⟨by rw [HN2.out], rfl⟩
        · have q : (kind == 2) = false := by simpa using h2
          have HN2 : Hid (N = path) := Lib.hid (by rw [HN.out, nameT, if_neg (by rw [HKD.out.1]; exact h2), HKD.out.2.1])
          clear h2
          go_wp2_with fail
          go_meet
          exact ⟨by rw [HN2.out], rfl⟩
      case rest =>
        obtain ⟨rfl, rfl⟩ := hcut
        go_upto_region 14 with (go_at_call 16; refine (hho _).mono ?_; clear hho; rintro r W3 ⟨rfl, hb3⟩)
        have bH := Blk.new W3 43 #[.string ⟨#[]⟩, .string ⟨#[]⟩, .string ⟨#[]⟩, .int .i64 mo, .int .i64 ui, .int .i64 gi, .int .i64 (data.length : Int), .int .i64 ti, .int .u8 (kindT kind), .string (bs owner), .string (bs group)]
        have hq := (Below.refl _ W3).alloc (Nat.le_refl _) (.cells #[.string ⟨#[]⟩, .string ⟨#[]⟩, .string ⟨#[]⟩, .int .i64 mo, .int .i64 ui, .int .i64 gi, .int .i64 (data.length : Int), .int .i64 ti, .int .u8 (kindT kind), .string (bs owner), .string (bs group)] 43)
        have hr3 := hrow1.below hb3
        have ts : TS w gE #[.string (bs path), .int .i64 kind, .int .i64 mo, .int .i64 ui, .int .i64 gi, .string (bs owner), .string (bs group), .int .i64 ti, .string (bs link), .slice Ad data.length capd] W3.heap.size #[.string ⟨#[]⟩, .string ⟨#[]⟩, .string ⟨#[]⟩, .int .i64 mo, .int .i64 ui, .int .i64 gi, .int .i64 (data.length : Int), .int .i64 ti, .int .u8 (kindT kind), .string (bs owner), .string (bs group)] s8 (accT 2 l k) (W3.alloc (.cells #[.string ⟨#[]⟩, .string ⟨#[]⟩, .string ⟨#[]⟩, .int .i64 mo, .int .i64 ui, .int .i64 gi, .int .i64 (data.length : Int), .int .i64 ti, .int .u8 (kindT kind), .string (bs owner), .string (bs group)] 43)) := ⟨hr3.below hq, (bE.below hb3 bE.lt).alloc _, bH, hr3.lowW⟩
        clear bH hq hr3 hrow1 bE hb3 d0 d1 d2' d3 d4 d5 d6 d7 d8 d9
        generalize W3.alloc (.cells #[.string ⟨#[]⟩, .string ⟨#[]⟩, .string ⟨#[]⟩, .int .i64 mo, .int .i64 ui, .int .i64 gi, .int .i64 (data.length : Int), .int .i64 ti, .int .u8 (kindT kind), .string (bs owner), .string (bs group)] 43) = W4 at ts ⊢
        generalize W3.heap.size = gH at ts ⊢
        obtain ⟨d0, d1, d2', d3, d4, d5, d6, d7, d8, d9⟩ := ts.be.cells10
        obtain ⟨y0, y1, y2, y3, y4, y5, y6, y7, y8, y9, y10⟩ := cells11 ts.bh
        have fH := ts.bh.frozen
        go_cut [] (fun wx => TS w gE #[.string (bs path), .int .i64 kind, .int .i64 mo, .int .i64 ui, .int .i64 gi, .string (bs owner), .string (bs group), .int .i64 ti, .string (bs link), .slice Ad data.length capd] gH #[.string (bs N), .string ⟨#[]⟩, .string (bs link), .int .i64 mo, .int .i64 ui, .int .i64 gi, .int .i64 (data.length : Int), .int .i64 ti, .int .u8 (kindT kind), .string (bs owner), .string (bs group)] s8 (accT 2 l k) wx)
        case first =>
          have ts1 := (ts.poke 0 (.string (bs N))).poke 2 (.string (bs link))
          have ts2 := (ts.poke 2 (.string (bs link))).poke 0 (.string (bs N))
          go_region_with (fail)
          all_goals (go_wp2_with fail; go_meet; first | exact ts1 | exact ts2 | exact ts1.below (Below.refl _ _).drew | exact ts2.below (Below.refl _ _).drew)
        case rest =>
          clear fH d0 d1 d2' d3 d4 d5 d6 d7 d8 d9 y0 y1 y2 y3 y4 y5 y6 y7 y8 y9 y10 ts
          generalize hwc : wc = W5 at hcut ⊢
          clear hwc
          have ts := hcut
          clear hcut
          obtain ⟨P, HP⟩ : ∃ P, Hid (P = partT N) := ⟨_, Lib.hid rfl⟩
          have hpa := tpart_any N W5 (by omega)
          rw [← HP.out] at hpa
          have zl := bs_size link
          have zn := bs_size N
          obtain ⟨L0, HL0⟩ : ∃ L, Hid (accT 2 l k = L) := ⟨_, Lib.hid rfl⟩
          rw [HL0.out] at ts HST HLE2
          obtain ⟨a, b', c, hpv, hc⟩ : ∃ a b c, partV P = .tuple #[.string a, .string b, .bool c] ∧ c = P.isSome := by
            rcases P with _ | ⟨p, r⟩
            · exact ⟨_, _, _, rfl, rfl⟩
            · exact ⟨_, _, _, rfl, rfl⟩
          have HPV := Lib.hid hpv
          have HC := Lib.hid hc
          rw [hpv] at hpa
          clear hpv hc
          have d8 := ts.be.cells10.2.2.2.2.2.2.2.2.1
          go_upto_region 17 with (go_at_call 17; refine hpa.mono ?_; clear hpa; rintro r W6 ⟨rfl, hb6⟩; have ts6 := ts.below hb6; have d8' := ts6.be.cells10.2.2.2.2.2.2.2.2.1)
          clear ts d8 hb6
          have hrk1 := recR_len kPath N
          have hrk2 := recR_len kLink link
          have hkp : kPath.length = 4 := rfl
          have hkl : kLink.length = 8 := rfl
          rw [hkp] at hrk1
          rw [hkl] at hrk2
          clear hkp hkl
          go_upto_if 94 with fail
          go_cut [15, 17] (fun s15 s17 wx => Hid (∃ nm px T1, s17 = .string (bs T1) ∧ TS w gE #[.string (bs path), .int .i64 kind, .int .i64 mo, .int .i64 ui, .int .i64 gi, .string (bs owner), .string (bs group), .int .i64 ti, .string (bs link), .slice Ad data.length capd] gH #[.string (bs nm), .string (bs px), .string (bs link), .int .i64 mo, .int .i64 ui, .int .i64 gi, .int .i64 (data.length : Int), .int .i64 ti, .int .u8 (kindT kind), .string (bs owner), .string (bs group)] s8 L0 wx ∧ Hid (T1 = if P.isNone = true then recB kPath N else []) ∧ Hid (partH E P = blockB (hdH E nm px) false) ∧ T1.length ≤ 400))
          case first =>
            rcases P with _ | ⟨p, r⟩
            · have hc : c = false := HC.out
              clear HC
              subst hc
              have hn1 := partT_none HP.out.symm
              have hre : ∀ W, Tab W → Calls Tryz.prog 19 #[.string ⟨#[112, 97, 116, 104]⟩, .string (bs N)] W fun r w' => r = .returned (.string (bs (recB kPath N))) ∧ Below W.heap.size W w' := fun W hW => trec_any kPath N W (by omega) (by omega) hW
              have hrl := recB_len (k := kPath) (v := N) (by omega) (by omega)
              go_wp2_with (go_at_call 19; refine (hre _ (hT.below ts6.row.belw)).mono ?_; clear hre; rintro r W7 ⟨rfl, hb7⟩)
              go_meet
              exact Lib.hid ⟨N, [], _, rfl, ts6.below hb7, Lib.hid rfl, Lib.hid (by rw [partH, HN.out]), by omega⟩
            · have hc : c = true := HC.out
              clear HC
              subst hc
              have HAB : Hid (a = bs p ∧ b' = bs r) := Lib.hid (by
                have := HPV.out
                injection this with this
                have h0 := congrArg (fun x => x[0]?) this
                have h1 := congrArg (fun x => x[1]?) this
                simp at h0 h1
                exact ⟨h0.symm, h1.symm⟩)
              have f0 := ts6.bh.frozen 0
              have f1 := ts6.bh.frozen 1
              obtain ⟨y0, y1, y2, y3, y4, y5, y6, y7, y8, y9, y10⟩ := cells11 ts6.bh
              have ts7 : TS w gE #[.string (bs path), .int .i64 kind, .int .i64 mo, .int .i64 ui, .int .i64 gi, .string (bs owner), .string (bs group), .int .i64 ti, .string (bs link), .slice Ad data.length capd] gH #[.string (bs r), .string (bs p), .string (bs link), .int .i64 mo, .int .i64 ui, .int .i64 gi, .int .i64 (data.length : Int), .int .i64 ti, .int .u8 (kindT kind), .string (bs owner), .string (bs group)] s8 L0 ((W6.setCell ⟨gH, 1, none⟩ (.string a)).setCell ⟨gH, 0, none⟩ (.string b')) := by
                rw [HAB.out.1, HAB.out.2]
                exact (ts6.poke 1 (.string (bs p))).poke 0 (.string (bs r))
              go_wp2_with fail
              go_meet
              exact Lib.hid ⟨r, p, [], rfl, ts7, Lib.hid rfl, Lib.hid rfl, by simp⟩
          case rest =>
            clear ts6 d8' HPV HC
            obtain ⟨nm, px, T1, rfl, ts, HT1, HPH, ht1⟩ := hcut.out
            generalize wc = W6 at ts ⊢
            have d8 := ts.be.cells10.2.2.2.2.2.2.2.2.1
            have z1 := bs_size T1
            go_upto_if 101 with fail
            go_cut [16, 17] (fun s16 s17 wx => Hid (∃ T2, s17 = .string (bs T2) ∧ TS w gE #[.string (bs path), .int .i64 kind, .int .i64 mo, .int .i64 ui, .int .i64 gi, .string (bs owner), .string (bs group), .int .i64 ti, .string (bs link), .slice Ad data.length capd] gH #[.string (bs nm), .string (bs px), .string (bs link), .int .i64 mo, .int .i64 ui, .int .i64 gi, .int .i64 (data.length : Int), .int .i64 ti, .int .u8 (kindT kind), .string (bs owner), .string (bs group)] s8 L0 wx ∧ Hid (T2 = T1 ++ if 100 < link.length then recB kLink link else []) ∧ T2.length ≤ 800))
            case first =>
              by_cases h1 : 100 < link.length
              · have q : decide ((100 : Int) < (link.length : Int)) = true := decide_eq_true (by omega)
                have q2 : (100 : Int) < (link.length : Int) := by omega
                have hre : ∀ W, Tab W → Calls Tryz.prog 19 #[.string ⟨#[108, 105, 110, 107, 112, 97, 116, 104]⟩, .string (bs link)] W fun r w' => r = .returned (.string (bs (recB kLink link))) ∧ Below W.heap.size W w' := fun W hW => trec_any kLink link W (by omega) (by omega) hW
                have hrl := recB_len (k := kLink) (v := link) (by omega) (by omega)
                have hbl : (recB kLink link).length ≤ 400 := by omega
                have z2 := bs_size (recB kLink link)
                obtain ⟨RB, HRB⟩ : ∃ R, Hid (recB kLink link = R) := ⟨_, Lib.hid rfl⟩
                have HRT : Hid (T1 ++ RB = T1 ++ if 100 < link.length then recB kLink link else []) := Lib.hid (by rw [if_pos h1, HRB.out])
                rw [HRB.out] at hre hbl z2
                clear h1 hrl
                have x1 : ¬ 9223372036854775807 < T1.length + RB.length := by omega
                go_wp2_with (go_at_call 19; refine (hre _ (hT.below ts.row.belw)).mono ?_; clear hre; rintro r W7 ⟨rfl, hb7⟩)
                go_meet
                exact Lib.hid ⟨T1 ++ RB, by rw [bs_app], ts.below hb7, HRT, by rw [List.length_append]; omega⟩
              · have q : decide ((100 : Int) < (link.length : Int)) = false := decide_eq_false (by omega)
                have q2 : ¬ (100 : Int) < (link.length : Int) := by omega
                have HRT : Hid (T1 = T1 ++ if 100 < link.length then recB kLink link else []) := Lib.hid (by rw [if_neg h1, List.append_nil])
                clear h1
                go_wp2_with fail
                go_meet
                exact Lib.hid ⟨T1, rfl, ts, HRT, by omega⟩
            case rest =>
              clear ts d8 z1
              obtain ⟨T2, rfl, ts, HT2, ht2⟩ := hcut.out
              generalize wc = W7 at ts ⊢
              have HTB : Hid (toldB E = T2) := Lib.hid (by rw [toldB, ← HN.out, ← HP.out, HKD.out.2.2.1, HT2.out, HT1.out])
              clear HT1 HT2 ht1
              have hl8 : L0.length ≤ 60000000 := HLE2.out
              have z1 := bs_size T2
              by_cases h0 : T2 = []
              · have q1 : (bs T2).toList.isEmpty = true := by rw [toList_bs, h0]; rfl
                have HAH0 : Hid (aheadT 2 E = []) := Lib.hid (by rw [aheadT, if_neg (by decide), if_neg (by decide), HTB.out, if_pos h0])
                clear h0
                go_upto_region 37 with fail
                clear q1
                obtain ⟨L2, HE2⟩ : ∃ L, Hid (L0 = L) := ⟨_, Lib.hid rfl⟩
                have HAH : Hid (L0 ++ (aheadT 2 E ++ (blockB (hdH E nm px) false ++ wholeB data)) = L2 ++ (blockB (hdH E nm px) false ++ wholeB data)) := Lib.hid (by rw [HAH0.out, HE2.out]; rfl)
                have hl9 : L2.length ≤ 60020000 := by rw [← HE2.out]; omega
                rw [HE2.out] at ts
                clear hl8
                generalize W7 = W9 at ts ⊢
                have hp : Calls Tryz.prog 20 #[s8, .agg #[.string (bs nm), .string (bs px), .string (bs link), .int .i64 mo, .int .i64 ui, .int .i64 gi, .int .i64 (data.length : Int), .int .i64 ti, .int .u8 (kindT kind), .string (bs owner), .string (bs group)], .string ⟨#[117, 115, 116, 97, 114, 0, 48, 48]⟩] W9 fun ez w' => ∃ v', ez = .returned v' ∧ Row8 W9 s8.ownBlock w.heap.size 5 w' v' (L2 ++ blockB (hdH E nm px) false) := by
                  have := phead_any (hdH E nm px) false (hdH_ok HF _ _) (by show E.mode.toNat ≤ _; have := HF.m2; omega) (by show E.uid.toNat ≤ _; have := HF.u2; omega) (by show E.gid.toNat ≤ _; have := HF.g2; omega) (by show E.data.length ≤ _; have := HF.d2; omega) (by show E.mtime.toNat ≤ _; have := HF.t2; omega) W9 w.heap.size s8 L2 ts.row.own ts.row.lowW (by omega) (hD.below ts.row.belw)
                  rw [HHD.out] at this
                  exact this
                have hbl := blockB_len (hdH_ok HF nm px) false
                have HFIN : Hid (∀ Bk, Bk = blockB (hdH E nm px) false → accT 2 l (k + 1) = L2 ++ Bk ++ wholeB data) := Lib.hid fun Bk hB => by
                  have e1 : headT 2 E = Bk := by rw [hB, headT, if_neg (by decide), ← HN.out, ← HP.out, HPH.out]
                  rw [HST.out, memT, e1, HKD.out.2.2.2, List.append_assoc, hB, HAH.out, ← hB]
                  exact (List.append_assoc _ _ _).symm
                obtain ⟨Bk, HBk⟩ : ∃ Bk, Hid (Bk = blockB (hdH E nm px) false) := ⟨_, Lib.hid rfl⟩
                rw [← HBk.out] at hp hbl
                obtain ⟨y0, y1, y2, y3, y4, y5, y6, y7, y8, y9, y10⟩ := cells11 ts.bh
                go_upto_region 41 with (go_at_call 20; refine hp.mono ?_; clear hp; rintro r W10 ⟨v10, rfl, hr10⟩)
                have ts10 := ts.grow hr10
                clear ts hr10 y0 y1 y2 y3 y4 y5 y6 y7 y8 y9 y10
                have d9 := ts10.be.cells10.2.2.2.2.2.2.2.2.2
                have hq := tputb_any data (.slice Ad data.length capd) W10 w.heap.size v10 (L2 ++ Bk) ts10.row.own ts10.row.lowW (by rw [List.length_append]; omega) (HDV.out.keep good_byte (Kept.low ts10.row.belw)).sb8 (by omega)
                go_wp2_with (go_at_call 21; refine hq.mono ?_; clear hq; rintro r W11 ⟨v11, rfl, hr11⟩)
                have ts11 := ts10.grow hr11
                clear ts10 hr11 d9
                rw [← HFIN.out Bk HBk.out] at ts11
                go_roundg (l.length - (k + 1))
                case measure => omega
                case rel => exact ⟨k + 1, by omega, rfl, by first | (simp; done) | (simp; omega), ts11.row, HLN⟩

              · have HT0 := Lib.hid h0
                have q1 : (bs T2).toList.isEmpty = false := by rw [toList_bs]; simpa using h0
                have HAH0 : Hid (aheadT 2 E = blockB (tellH paxN 120 T2.length) false ++ wholeB T2) := Lib.hid (by rw [aheadT, if_neg (by decide), if_neg (by decide), HTB.out, if_neg h0])
                clear h0
                have hpp : Calls Tryz.prog 20 #[s8, .agg #[.string ⟨#[80, 97, 120, 72, 101, 97, 100, 101, 114, 115]⟩, .string ⟨#[]⟩, .string ⟨#[]⟩, .int .i64 0, .int .i64 0, .int .i64 0, .int .i64 (T2.length : Int), .int .i64 0, .int .u8 120, .string ⟨#[]⟩, .string ⟨#[]⟩], .string ⟨#[117, 115, 116, 97, 114, 0, 48, 48]⟩] W7 fun r w' => ∃ v', r = .returned v' ∧ Row8 W7 s8.ownBlock w.heap.size 5 w' v' (L0 ++ blockB (tellH paxN 120 T2.length) false) :=
                  phead_any (tellH paxN 120 T2.length) false (tell_ok (by omega)) (by simp [tellH]) (by simp [tellH]) (by simp [tellH]) (by show T2.length ≤ _; omega) (by simp [tellH]) W7 w.heap.size s8 L0 ts.row.own ts.row.lowW (by omega) (hD.below ts.row.belw)
                have hbl1 := blockB_len (tell_ok (name := paxN) (kind := 120) (size := T2.length) (by omega)) false
                generalize blockB (tellH paxN 120 T2.length) false = B1 at hpp hbl1 HAH0
                go_upto_region 36 with (go_at_call 20; refine hpp.mono ?_; clear hpp; rintro r W8 ⟨v8, rfl, hr8⟩)
                have ts8 := ts.grow hr8
                clear ts hr8 q1
                obtain ⟨gc, ccap, Wc, hcv, hbc, hgc, hcc⟩ := conv_sl2 (P := Tryz.prog) W8 9 25 5 T2 Tryz.underlying9 Tryz.underlying25 Tryz.underlying5 (by omega)
                have tsc := ts8.below hbc
                have hcc := (hcc nowhere (fun h => h)).sb8
                have hq := tputb_any T2 (.slice (some ⟨gc, 0, none⟩) T2.length ccap) Wc w.heap.size v8 (L0 ++ B1) tsc.row.own tsc.row.lowW (by rw [List.length_append]; omega) hcc (by omega)
                go_upto_region 37 with (go_at_call 21; refine hq.mono ?_; clear hq; rintro r W10 ⟨v10, rfl, hr10⟩)
                have ts := tsc.grow hr10
                have hw2 := wholeB_le T2
                obtain ⟨L2, HE2⟩ : ∃ L, Hid (L0 ++ B1 ++ wholeB T2 = L) := ⟨_, Lib.hid rfl⟩
                have HAH : Hid (L0 ++ (aheadT 2 E ++ (blockB (hdH E nm px) false ++ wholeB data)) = L2 ++ (blockB (hdH E nm px) false ++ wholeB data)) := Lib.hid (by rw [HAH0.out, ← HE2.out]; simp only [List.append_assoc])
                have hl9 : L2.length ≤ 60020000 := by rw [← HE2.out, List.length_append, List.length_append]; omega
                rw [HE2.out] at ts
                clear ts8 tsc hcv hcc hr10 hbc hl8 hbl1
                generalize v10 = s8 at ts ⊢
                generalize W10 = W9 at ts ⊢
                have hp : Calls Tryz.prog 20 #[s8, .agg #[.string (bs nm), .string (bs px), .string (bs link), .int .i64 mo, .int .i64 ui, .int .i64 gi, .int .i64 (data.length : Int), .int .i64 ti, .int .u8 (kindT kind), .string (bs owner), .string (bs group)], .string ⟨#[117, 115, 116, 97, 114, 0, 48, 48]⟩] W9 fun ez w' => ∃ v', ez = .returned v' ∧ Row8 W9 s8.ownBlock w.heap.size 5 w' v' (L2 ++ blockB (hdH E nm px) false) := by
                  have := phead_any (hdH E nm px) false (hdH_ok HF _ _) (by show E.mode.toNat ≤ _; have := HF.m2; omega) (by show E.uid.toNat ≤ _; have := HF.u2; omega) (by show E.gid.toNat ≤ _; have := HF.g2; omega) (by show E.data.length ≤ _; have := HF.d2; omega) (by show E.mtime.toNat ≤ _; have := HF.t2; omega) W9 w.heap.size s8 L2 ts.row.own ts.row.lowW (by omega) (hD.below ts.row.belw)
                  rw [HHD.out] at this
                  exact this
                have hbl := blockB_len (hdH_ok HF nm px) false
                have HFIN : Hid (∀ Bk, Bk = blockB (hdH E nm px) false → accT 2 l (k + 1) = L2 ++ Bk ++ wholeB data) := Lib.hid fun Bk hB => by
                  have e1 : headT 2 E = Bk := by rw [hB, headT, if_neg (by decide), ← HN.out, ← HP.out, HPH.out]
                  rw [HST.out, memT, e1, HKD.out.2.2.2, List.append_assoc, hB, HAH.out, ← hB]
                  exact (List.append_assoc _ _ _).symm
                obtain ⟨Bk, HBk⟩ : ∃ Bk, Hid (Bk = blockB (hdH E nm px) false) := ⟨_, Lib.hid rfl⟩
                rw [← HBk.out] at hp hbl
                obtain ⟨y0, y1, y2, y3, y4, y5, y6, y7, y8, y9, y10⟩ := cells11 ts.bh
                go_upto_region 41 with (go_at_call 20; refine hp.mono ?_; clear hp; rintro r W10 ⟨v10, rfl, hr10⟩)
                have ts10 := ts.grow hr10
                clear ts hr10 y0 y1 y2 y3 y4 y5 y6 y7 y8 y9 y10
                have d9 := ts10.be.cells10.2.2.2.2.2.2.2.2.2
                have hq := tputb_any data (.slice Ad data.length capd) W10 w.heap.size v10 (L2 ++ Bk) ts10.row.own ts10.row.lowW (by rw [List.length_append]; omega) (HDV.out.keep good_byte (Kept.low ts10.row.belw)).sb8 (by omega)
                go_wp2_with (go_at_call 21; refine hq.mono ?_; clear hq; rintro r W11 ⟨v11, rfl, hr11⟩)
                have ts11 := ts10.grow hr11
                clear ts10 hr11 d9
                rw [← HFIN.out Bk HBk.out] at ts11
                go_roundg (l.length - (k + 1))
                case measure => omega
                case rel => exact ⟨k + 1, by omega, rfl, by first | (simp; done) | (simp; omega), ts11.row, HLN⟩
    · have hke : k = l.length := by omega
      subst hke
      have i2 : ¬ (l.length : Int) < (l.length : Int) := by omega
      obtain ⟨L, HL⟩ : ∃ L, Hid (accT 2 l l.length = L) := ⟨_, Lib.hid rfl⟩
      rw [HL.out] at hrow HLE2
      have hl8 := HLE2.out
      go_wp2_with (at_builtin; refine wpList_row_zeros rfl _ _ 25 3 rfl Tryz.underlying25 Tryz.underlying3 u8info (by first | rfl | (simp; done)) hrow 1024 rfl (by omega) ?_; intro v2 W2 hr2; obtain ⟨A2, c2, rfl⟩ := own_form hr2.own)
      go_ret2
      have : tarB 2 l = L ++ List.replicate 1024 0 := by rw [tarB, HL.out]
      exact ⟨.slice A2 (L.length + 1024) c2, rfl, by rw [this]; rw [List.length_append, List.length_replicate] at hr2; exact hr2⟩
end Go.Proofs.YtpheifdpjcppdaaGreatDoor
