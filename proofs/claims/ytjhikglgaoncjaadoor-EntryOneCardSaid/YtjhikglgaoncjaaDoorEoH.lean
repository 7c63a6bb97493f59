/- The walk of the document's Canon. Printed by gen_rcanon.py. -/
import Derived.Test.YtjhikglgaoncjaaDoorEoG
namespace Go.Proofs.YtjhikglgaoncjaaDoor
open Go.RowKit
/-- What the document's Canon hands out. -/
def RCanonR (w : World) (l : List En) (r : Ending) (w' : World) : Prop :=
  (if (chkL l).2 = 0 then ∃ v' f, r = .returned (.tuple #[v', .int .i64 0]) ∧ EQ w.heap.size w' v' (stepsC l l.length) f else r = .returned (.tuple #[.slice none 0 0, .int .i64 (chkL l).2])) ∧ Below w.heap.size w w'
theorem EQ.at {H : Nat} {w : World} {L : List En} {f : Nat → Value} {b n cap : Nat} (h : EQ H w (.slice (some ⟨b, 0, none⟩) n cap) L f) {k : Nat} {e : En} (hk : L[k]? = some e) :
    EntAt w b (k * 10) e (f k) ∧ Sl 1 Rbyte (fun k => H ≤ k) w (f k) e.data ∧ ∀ c, w.frozen? ⟨b, k * 10 + c, none⟩ = false := by
  obtain ⟨hk1, rfl⟩ := List.getElem?_eq_some_iff.1 hk
  refine ⟨h.eo.cell k hk1, h.dat k hk1, fun c => ?_⟩
  obtain ⟨g, cp, hv, _, _, _, cs, hblk⟩ := h.eo.form (by omega)
  injection hv with hv1
  injection hv1 with hv1
  injection hv1 with hv1
  subst hv1
  exact hblk.frozen _
theorem EQ.step {H : Nat} {w : World} {L : List En} {f : Nat → Value} {b n cap : Nat} (h : EQ H w (.slice (some ⟨b, 0, none⟩) n cap) L f) (hB : H ≤ w.heap.size) (k : Nat) {e : En} (hk : L[k]? = some e) (c : Nat) (hc : c < 10) (u : Value) (e' : En) (d' : Value) (he : (entC e (f k)).set c u = entC e' d')
    (hd : Sl 1 Rbyte (fun k => H ≤ k) w d' e'.data) : ∃ L' f', L' = L.set k e' ∧ f' k = d' ∧ (∀ j, j ≠ k → f' j = f j) ∧ EQ H (w.setCell ⟨b, k * 10 + c, none⟩ u) (.slice (some ⟨b, 0, none⟩) n cap) L' f' ∧ L'[k]? = some e' ∧ (∀ j, j ≠ k → L'[j]? = L[j]?) ∧ Below H w (w.setCell ⟨b, k * 10 + c, none⟩ u) := by
  obtain ⟨hk1, hk2⟩ := List.getElem?_eq_some_iff.1 hk
  obtain ⟨h1, h2⟩ := h.put hB k hk1 hk2 c hc u e' d' he hd
  exact ⟨_, _, rfl, by simp [upd], fun j hj => by simp [upd, hj], h1, by simp [hk1], fun j hj => by rw [List.getElem?_set_ne (fun e => hj e.symm)], h2⟩
theorem ofC_single (x : En) (d : Value) : ofC [x] (fun _ => d) = entC x d := by simp [ofC]
set_option maxRecDepth 20000 in
set_option maxHeartbeats 16000000 in
theorem rcanon_any (l : List En) (v : Value) (X : Nat → Prop) (w : World) (hsl : Sl 10 Rent X w v l) (hL : LB l) :
    Calls Tryd.prog 16 #[v] w fun r w' => RCanonR w l r w' := by
  obtain ⟨A, cap, rfl, hc1, hc2⟩ := hsl.form
  unfold maxLen at hc2
  have hL1 := hL.1
  have HLL := Lib.hid hL
  have hslH : Sl 10 Rent (fun k => w.heap.size ≤ k) w (.slice A l.length cap) l := hsl.mono good_ent (by omega) fun k hk h => by omega
  clear hL
  go_enter Tryd.func16, Tryd.ntmps16
  go_wp2_with fail
  refine (rchkall_any l _ X _ hsl HLL.out).mono ?_
  rintro e w1 ⟨rfl, hb1⟩
  obtain ⟨ca, cc, HC⟩ : ∃ a c, Hid (chkL l = (a, c)) := ⟨_, _, Lib.hid rfl⟩
  rw [HC.out]
  clear hsl
  by_cases hz : cc = 0
  rotate_left
  · have hzb : (cc != 0) = true := by simpa using hz
    go_wp2_with fail
    go_ret2
    rw [RCanonR, HC.out, if_neg hz]
    exact ⟨rfl, hb1⟩
  subst hz
  go_wp2_with fail
  go_loopg [6, 7] l.length (fun G s6 s7 wr => ∃ (i : Nat) (f : Nat → Value), i ≤ l.length ∧ G = l.length - i ∧ s7 = .int .i64 i ∧ Below w.heap.size w wr ∧ EQ w.heap.size wr s6 (sortK l i) f)
  case atStart => exact ⟨0, fun _ => .slice none 0 0, Nat.zero_le _, rfl, rfl, hb1, EQ.nil _ _ _⟩
  case round =>
    clear hb1
    obtain ⟨i, f, hi, rfl, rfl, q, hE⟩ := hrel
    by_cases hlt : i < l.length
    rotate_left
    · have hie : i = l.length := by omega
      subst hie
      obtain ⟨A6, cap6, rfl⟩ := own_form hE.row
      have hLl0 : (sortK l l.length).length = l.length := sortK_len l l.length (Nat.le_refl _)
      rw [hLl0] at hE ⊢
      clear hLl0
      have hE : EQ w.heap.size wr (.slice A6 l.length cap6) (stepsC l 0) f := hE
      go_wp2_with fail
      go_loopg [10] l.length (fun G s10 wx => ∃ (i : Nat) (f : Nat → Value), i ≤ l.length ∧ G = l.length - i ∧ s10 = .int .i64 i ∧ Below w.heap.size w wx ∧ EQ w.heap.size wx (.slice A6 l.length cap6) (stepsC l i) f)
      case atStart => exact ⟨0, f, Nat.zero_le _, rfl, rfl, q, hE⟩
      case round =>
        clear hE q
        obtain ⟨i, f, hi, rfl, rfl, q, hE⟩ := hrel
        by_cases hlt : i < l.length
        rotate_left
        · have hie : i = l.length := by omega
          subst hie
          go_wp2_with fail
          go_ret2
          rw [RCanonR, HC.out, if_pos rfl]
          exact ⟨⟨_, f, rfl, hE⟩, q⟩
        have hLn0 := stepsC_len l i
        have HSC0 : Hid (stepsC l (i + 1) = stepC (stepsC l i) i) := Lib.hid rfl
        obtain ⟨L, HL⟩ : ∃ L, Hid (stepsC l i = L) := ⟨_, Lib.hid rfl⟩
        rw [HL.out] at hE
        have HSC := Lib.hid (show stepsC l (i + 1) = stepC L i by rw [HSC0.out, HL.out])
        have HLn : Hid (L.length = l.length) := Lib.hid (by rw [← HL.out]; exact hLn0)
        clear hLn0 HSC0 HL
        obtain ⟨g, cp, hv, hgH, _, _, _⟩ := hE.eo.form (by rw [HLn.out]; omega)
        injection hv with hv1 hv2 hv3
        subst hv1 hv3
        clear hv2
        obtain ⟨e, He⟩ : ∃ e, Hid (L[i]? = some e) := ⟨L[i]'(by rw [HLn.out]; exact hlt), Lib.hid (List.getElem?_eq_getElem _)⟩
        have o1 := (hE.at He.out).1.c1
        have o8 := (hE.at He.out).1.c8
        have i1 : (0 : Int) ≤ (i : Int) := by omega
        have i2 : (i : Int) < (l.length : Int) := by omega
        by_cases h4 : e.kind = 4
        rotate_left
        · have n4 : (e.kind == 4) = false := by simpa using h4
          have n4' : (e.kind != 4) = true := by simpa using h4
          have HN : Hid (stepsC l (i + 1) = L) := Lib.hid (by rw [HSC.out, stepC, He.out]; simp only; rw [if_neg h4])
          clear HSC h4
          go_wp2_with fail
          go_roundg (l.length - (i + 1))
          case measure => omega
          case rel => exact ⟨i + 1, f, by omega, rfl, by simp, q, by rw [HN.out]; exact hE⟩
        have n4 : (e.kind == 4) = true := by simpa using h4
        have n4' : (e.kind != 4) = false := by simpa using h4
        have HSC := Lib.hid (show stepsC l (i + 1) = if fndE e.link L 0 < i then L else match L[(fndE e.link L 0).toNat]? with
              | none => L
              | some x => if x.kind = 1 then relinkK (promo L i (fndE e.link L 0).toNat e x) (fndE e.link L 0).toNat e.link e.path L.length else L by rw [HSC.out, stepC, He.out]; simp only; rw [if_pos h4]; rfl)
        go_wp2_with fail
        refine (rfind_any L e.link _ nowhere _ hE.eo.sl).mono ?_
        rintro r w2 ⟨rfl, rfl⟩
        have HFG := Lib.hid (fndE_get e.link L 0)
        generalize fndE e.link L 0 = z at HSC HFG
        by_cases hzi : z < (i : Int)
        · have dz : decide (z < (i : Int)) = true := by simpa using hzi
          have HN := Lib.hid (HSC.out.trans (if_pos hzi))
          clear HSC HFG h4
          go_wp2_with fail
          go_roundg (l.length - (i + 1))
          case measure => omega
          case rel => exact ⟨i + 1, f, by omega, rfl, by simp, q, by rw [HN.out]; exact hE⟩
        have HSC := Lib.hid (HSC.out.trans (if_neg hzi))
        obtain ⟨fi, hfi, rfl⟩ : ∃ fi : Nat, fi < L.length ∧ z = (fi : Int) := by
          rcases HFG.out with ⟨h1, _⟩ | ⟨j, hj, h1, _⟩
          · omega
          · exact ⟨j, hj, by rw [h1]; simp⟩
        clear HFG
        obtain ⟨x, Hxx⟩ : ∃ x, Hid (L[fi]? = some x) := ⟨L[fi], Lib.hid (List.getElem?_eq_getElem _)⟩
        have HSC := Lib.hid (show stepsC l (i + 1) = if x.kind = 1 then relinkK (promo L i fi e x) fi e.link e.path L.length else L by rw [HSC.out, Int.toNat_natCast, Hxx.out])
        have x1 := (hE.at Hxx.out).1.c1
        rw [HLn.out] at hfi
        have f1 : (0 : Int) ≤ (fi : Int) := by omega
        have f2 : (fi : Int) < (l.length : Int) := by omega
        have dz : decide ((fi : Int) < (i : Int)) = false := by simpa using hzi
        have dz' : decide (fi < i) = false := by simpa using hzi
        by_cases hx1 : x.kind = 1
        rotate_left
        · have m1 : (x.kind == 1) = false := by simpa using hx1
          have m1' : (x.kind != 1) = true := by simpa using hx1
          have HN := Lib.hid (HSC.out.trans (if_neg hx1))
          clear HSC h4 hx1
          go_wp2_with fail
          go_roundg (l.length - (i + 1))
          case measure => omega
          case rel => exact ⟨i + 1, f, by omega, rfl, by simp, q, by rw [HN.out]; exact hE⟩
        have m1 : (x.kind == 1) = true := by simpa using hx1
        have m1' : (x.kind != 1) = false := by simpa using hx1
        have HSC := Lib.hid (HSC.out.trans (if_pos hx1))
        have hne : fi ≠ i := fun hh => by
          have h5 := Hxx.out
          rw [hh, He.out] at h5
          injection h5 with h5
          rw [h5] at h4
          omega
        have hne' : i ≠ fi := fun hh => hne hh.symm
        have hda := (hE.at He.out).2.1
        have hdx := (hE.at Hxx.out).2.1
        obtain ⟨Ax, cx, hfx, _, _⟩ := hdx.form
        have y9 := (hE.at Hxx.out).1.c9
        go_upto_region 22 with fail
        clear n4 n4' m1 m1' dz dz' o1 o8 x1 h4 hx1 y9
        have zz := (hE.at He.out).2.2 1
        have zc := (hE.at He.out).1.c1
        go_upto_region 23 with fail
        obtain ⟨L1, f1, HL1, hf1, fo1, hE1, hi1, ho1, hb1⟩ := hE.step q.size i He.out 1 (by omega) (.int .i64 1) ({ e with kind := 1 }) (f i) rfl ((hE.at He.out).2.1)
        have hx1 := (ho1 fi hne).trans (Hxx.out)
        have q1 := q.trans hb1
        clear zz zc hb1 ho1
        generalize wr.setCell ⟨g, i * 10 + 1, none⟩ (.int .i64 1) = W1 at hE1 q1 ⊢
        clear hdx hda
        have zz := (hE1.at hi1).2.2 8
        have zc := (hE1.at hi1).1.c8
        go_upto_region 24 with fail
        obtain ⟨L2, f2, HL2, hf2, fo2, hE2, hi2, ho2, hb2⟩ := hE1.step q1.size i hi1 8 (by omega) (.string ⟨#[]⟩) ({ e with kind := 1, link := [] }) (f1 i) rfl ((hE1.at hi1).2.1)
        have hx2 := (ho2 fi hne).trans (hx1)
        have q2 := q1.trans hb2
        clear zz zc hb2 ho2 hE1 q1 hi1 hx1
        generalize W1.setCell ⟨g, i * 10 + 8, none⟩ (.string ⟨#[]⟩) = W2 at hE2 q2 ⊢
        have zz := (hE2.at hi2).2.2 9
        have zc := (hE2.at hi2).1.c9
        have y9 := (hE2.at hx2).1.c9
        have hd3 := (hE2.at hx2).2.1
        rw [fo2 fi hne, fo1 fi hne, hfx] at y9 hd3
        go_upto_region 25 with fail
        obtain ⟨L3, f3, HL3, hf3, fo3, hE3, hi3, ho3, hb3⟩ := hE2.step q2.size i hi2 9 (by omega) (.slice Ax x.data.length cx) ({ e with kind := 1, link := [], data := x.data }) (.slice Ax x.data.length cx) rfl (hd3)
        have hx3 := (ho3 fi hne).trans (hx2)
        have q3 := q2.trans hb3
        clear zz zc hb3 ho3 y9 hd3 hE2 q2 hi2 hx2
        generalize W2.setCell ⟨g, i * 10 + 9, none⟩ (.slice Ax x.data.length cx) = W3 at hE3 q3 ⊢
        have zz := (hE3.at hx3).2.2 1
        have zc := (hE3.at hx3).1.c1
        go_upto_region 26 with fail
        obtain ⟨L4, f4, HL4, hf4, fo4, hE4, hx4, ho4, hb4⟩ := hE3.step q3.size fi hx3 1 (by omega) (.int .i64 4) ({ x with kind := 4 }) (f3 fi) rfl ((hE3.at hx3).2.1)
        have hi4 := (ho4 i hne').trans (hi3)
        have q4 := q3.trans hb4
        clear zz zc hb4 ho4 hE3 q3 hi3 hx3
        generalize W3.setCell ⟨g, fi * 10 + 1, none⟩ (.int .i64 4) = W4 at hE4 q4 ⊢
        have zz := (hE4.at hx4).2.2 8
        have zc := (hE4.at hx4).1.c8
        have y0 := (hE4.at hi4).1.c0
        go_upto_region 27 with fail
        obtain ⟨L5, f5, HL5, hf5, fo5, hE5, hx5, ho5, hb5⟩ := hE4.step q4.size fi hx4 8 (by omega) (.string (bs e.path)) ({ x with kind := 4, link := e.path }) (f4 fi) rfl ((hE4.at hx4).2.1)
        have hi5 := (ho5 i hne').trans (hi4)
        have q5 := q4.trans hb5
        clear zz zc hb5 ho5 y0 hE4 q4 hi4 hx4
        generalize W4.setCell ⟨g, fi * 10 + 8, none⟩ (.string (bs e.path)) = W5 at hE5 q5 ⊢
        have zz := (hE5.at hx5).2.2 9
        have zc := (hE5.at hx5).1.c9
        go_upto_region 28 with fail
        obtain ⟨L6, f6, HL6, hf6, fo6, hE6, hx6, ho6, hb6⟩ := hE5.step q5.size fi hx5 9 (by omega) (.slice none 0 0) ({ x with kind := 4, link := e.path, data := [] }) (.slice none 0 0) rfl (Sl.nil _ _ _ _)
        have hi6 := (ho6 i hne').trans (hi5)
        have q6 := q5.trans hb6
        clear zz zc hb6 ho6 hE5 q5 hi5 hx5
        generalize W5.setCell ⟨g, fi * 10 + 9, none⟩ (.slice none 0 0) = W6 at hE6 q6 ⊢
        have HP : Hid (L6 = promo L i fi e x) := Lib.hid (by rw [HL6, HL5, HL4, HL3, HL2, HL1, promo, List.set_set, List.set_set, List.set_set, List.set_set])
        have HPl : Hid (L6.length = l.length) := Lib.hid (by rw [HP.out, promo, List.length_set, List.length_set]; exact HLn.out)
        have HSC := Lib.hid (show stepsC l (i + 1) = relinkK L6 fi e.link e.path l.length by rw [HSC.out, HP.out, HLn.out])
        have hip := hi6
        clear HL1 HL2 HL3 HL4 HL5 HL6 hf1 hf2 hf3 hf4 hf5 hf6 fo1 fo2 fo3 fo4 fo5 fo6 hfx hE q HP hx6
        clear f1 f2 f3 f4 f5
        have HIP : Hid (∀ k, ∃ y, (relinkK L6 fi e.link e.path k)[i]? = some y ∧ y.path = e.path) := Lib.hid fun k => by
          have hiL : i < L6.length := (List.getElem?_eq_some_iff.1 hip).1
          refine ⟨_, List.getElem?_eq_getElem (by rw [relinkK_len]; exact hiL), ?_⟩
          rw [relinkK_path _ _ _ _ _ _ hiL]
          have := (List.getElem?_eq_some_iff.1 hip).2
          rw [this]
        clear hip hi6
        have fi1 : (0 : Int) ≤ (fi : Int) := by omega
        go_wp2_with fail
        go_loopg [13] l.length (fun G s13 wx => ∃ (k : Nat) (f' : Nat → Value), k ≤ l.length ∧ G = l.length - k ∧ s13 = .int .i64 k ∧ Below w.heap.size w wx ∧ EQ w.heap.size wx (.slice (some ⟨g, 0, none⟩) l.length cap6) (relinkK L6 fi e.link e.path k) f')
        case atStart => exact ⟨0, f6, Nat.zero_le _, rfl, rfl, q6, by rw [relinkK_zero]; exact hE6⟩
        case round =>
          clear hE6 q6
          obtain ⟨k, fk, hk, rfl, rfl, q, hE⟩ := hrel
          by_cases hkl : k < l.length
          rotate_left
          · have hke : k = l.length := by omega
            subst hke
            have hE : EQ w.heap.size wr (.slice (some ⟨g, 0, none⟩) l.length cap6) (stepsC l (i + 1)) fk := by rw [HSC.out]; exact hE
            go_wp2_with fail
            go_roundg (l.length - (i + 1))
            case measure => omega
            case rel => exact ⟨i + 1, fk, by omega, rfl, by simp, q, hE⟩
          have hkP : k < L6.length := by rw [HPl.out]; exact hkl
          obtain ⟨y, hy⟩ : ∃ y, L6[k] = y := ⟨_, rfl⟩
          have HRS := Lib.hid (show relinkK L6 fi e.link e.path (k + 1) = (relinkK L6 fi e.link e.path k).set k (relinkE fi e.link e.path k y) by rw [relinkK_step _ _ _ _ k hkP, hy])
          have HRA := Lib.hid (show (relinkK L6 fi e.link e.path k)[k]? = some y by rw [List.getElem?_eq_getElem (by rw [relinkK_len]; exact hkP), relinkK_at _ _ _ _ k hkP, hy])
          have hsame : ∀ (_ : relinkE fi e.link e.path k y = y), EQ w.heap.size wr (.slice (some ⟨g, 0, none⟩) l.length cap6) (relinkK L6 fi e.link e.path (k + 1)) fk := fun hh => by
            obtain ⟨h1, h2⟩ := List.getElem?_eq_some_iff.1 HRA.out
            rw [HRS.out, hh, ← h2, List.set_getElem_self]
            exact hE
          have HSM := Lib.hid hsame
          obtain ⟨ei, hei, hep⟩ := HIP.out k
          have p0 := (hE.at hei).1.c0
          rw [hep] at p0
          have y1 := (hE.at HRA.out).1.c1
          have y8 := (hE.at HRA.out).1.c8
          have zz := (hE.at HRA.out).2.2 8
          have k1 : (0 : Int) ≤ (k : Int) := by omega
          have k2 : (k : Int) < (l.length : Int) := by omega
          have g1 := beq_bs2 y.link e.link
          clear hsame hy hei hep hkP
          by_cases hkf : k = fi
          · have dk : ((k : Int) == (fi : Int)) = true := by rw [hkf]; simp
            have dk' : ((k : Int) != (fi : Int)) = false := by rw [hkf]; simp
            have hE := HSM.out (by rw [relinkE, if_neg (fun hc => hc.1 hkf)])
            clear hkf g1
            clear HRS HSM
            go_wp2_with fail
            go_roundg (l.length - (k + 1))
            case measure => omega
            case rel => exact ⟨k + 1, fk, by omega, rfl, by simp, q, hE⟩
          have dk : ((k : Int) == (fi : Int)) = false := by rw [beq_eq_false_iff_ne]; omega
          have dk' : ((k : Int) != (fi : Int)) = true := by simp; omega
          by_cases hy4 : y.kind = 4
          rotate_left
          · have m4 : (y.kind == 4) = false := by simpa using hy4
            have hE := HSM.out (by rw [relinkE, if_neg (fun hc => hy4 hc.2.1)])
            clear hkf g1 hy4
            clear HRS HSM
            go_wp2_with fail
            go_roundg (l.length - (k + 1))
            case measure => omega
            case rel => exact ⟨k + 1, fk, by omega, rfl, by simp, q, hE⟩
          have m4 : (y.kind == 4) = true := by simpa using hy4
          by_cases hyl : y.link = e.link
          rotate_left
          · rw [decide_eq_false hyl] at g1
            have hE := HSM.out (by rw [relinkE, if_neg (fun hc => hyl hc.2.2)])
            clear hkf hy4 hyl
            clear HRS HSM
            go_wp2_with fail
            go_roundg (l.length - (k + 1))
            case measure => omega
            case rel => exact ⟨k + 1, fk, by omega, rfl, by simp, q, hE⟩
          rw [decide_eq_true hyl] at g1
          obtain ⟨L', f', HL', _, _, hE', _, _, hb'⟩ := hE.step q.size k HRA.out 8 (by omega) (.string (bs e.path)) { y with link := e.path } (fk k) rfl (hE.at HRA.out).2.1
          have hE2 : EQ w.heap.size (wr.setCell ⟨g, k * 10 + 8, none⟩ (.string (bs e.path))) (.slice (some ⟨g, 0, none⟩) l.length cap6) (relinkK L6 fi e.link e.path (k + 1)) f' := by
            rw [HRS.out, relinkE, if_pos ⟨hkf, hy4, hyl⟩, ← HL']; exact hE'
          have q' := q.trans hb'
          clear hE' hb' HL' hE q hkf hy4 hyl HRS HSM
          go_wp2_with fail
          go_roundg (l.length - (k + 1))
          case measure => omega
          case rel => exact ⟨k + 1, _, by omega, rfl, by simp, q', hE2⟩
    have hLl0 : (sortK l i).length = i := sortK_len l i hi
    obtain ⟨A6, cap6, rfl⟩ := own_form hE.row
    rw [hLl0] at hE ⊢
    have hslr := hslH.keep good_ent (kept_new q)
    obtain ⟨b, off, rfl, hbX, hcj⟩ := hslr.ent (by omega)
    obtain ⟨dv, hat, hdv⟩ := hcj i hlt
    obtain ⟨Ad, capd, rfl, _, _⟩ := hdv.form
    obtain ⟨x, Hx⟩ : ∃ x, Hid (l[i] = x) := ⟨_, Lib.hid rfl⟩
    have HSS := Lib.hid (show sortK l (i + 1) = insE x (sortK l i) by rw [sortK_step l i hlt, Hx.out])
    rw [Hx.out] at hat hdv
    clear hslr hcj
    obtain ⟨L, HLs⟩ : ∃ L, Hid (sortK l i = L) := ⟨_, Lib.hid rfl⟩
    rw [HLs.out] at hE HSS
    have HLn : Hid (L.length = i) := Lib.hid (by rw [← HLs.out]; exact hLl0)
    clear hLl0 HLs
    obtain ⟨c0, _, _, _, _, _, _, _, _, _⟩ := id hat
    have i1 : (0 : Int) ≤ (i : Int) := by omega
    have i2 : (i : Int) < (l.length : Int) := by omega
    go_wp2_with fail
    go_loopg [8] i (fun G s8 wx => ∃ k : Nat, k ≤ i ∧ G = i - k ∧ s8 = .int .i64 k ∧ Below wr.heap.size wr wx ∧ Hid (posE x L = k + posE x (L.drop k)))
    case atStart => exact ⟨0, Nat.zero_le _, rfl, rfl, Below.refl _ _, Lib.hid (by simp)⟩
    case round =>
      obtain ⟨k, hk, rfl, rfl, hbx, HP⟩ := hrel
      have hEx := hE.below hbx
      have c0x := (hbx.cell (p := ⟨b, off + i * 10, none⟩) (World.block_lt_of_cell? _ _ c0)).trans c0
      by_cases hkl : k < i
      · obtain ⟨g, cp, hv, _⟩ := hEx.eo.form (by rw [HLn.out]; omega)
        injection hv with hv1 hv2 hv3
        subst hv1 hv3
        clear hv2
        have hkL : k < L.length := by rw [HLn.out]; exact hkl
        have o0 := (hEx.eo.cell k hkL).c0
        have HPS := Lib.hid (HP.out.trans (by rw [posE_step x L k hkL]))
        generalize L[k].path = yp at o0 HPS
        clear HP
        have k1 : (0 : Int) ≤ (k : Int) := by omega
        have k2 : (k : Int) < (i : Int) := by omega
        have t1 : (bs yp).toList = yp := toList_bs _
        have t2 : (bs x.path).toList = x.path := toList_bs _
        cases hb : Op.bytesLess yp x.path with
        | true =>
          have hb2 : Op.bytesLess (bs yp).toList (bs x.path).toList = true := by rw [t1, t2]; exact hb
          have HPN : Hid (posE x L = k + 1 + posE x (L.drop (k + 1))) := Lib.hid (by rw [HPS.out, if_pos hb]; omega)
          clear HPS t1 t2 hb
          go_upto_region 9 with fail
          refine wp_region_plan (fun W => W.cell? ⟨g, k * 10, none⟩ = some (.string (bs yp)) ∧ W.cell? ⟨b, off + i * 10, none⟩ = some (.string (bs x.path))) [(false, 0), (false, 1), (false, 2), (false, 3), (false, 4), (false, 5), (false, 6), (false, 7), (false, 8), (false, 9), (false, 10), (false, 11), (false, 12), (false, 13), (false, 14), (false, 15), (false, 16)] (by kernel_rfl) (by kernel_rfl) (⟨by simpa using o0, by simpa using c0x⟩) ?_
          simp only [planOps, List.map, List.getD_cons_zero, List.getD_cons_succ]
          iterate 17 ((first | refine plan_quiet_guarded (v := ?_) rfl (fun w' hw' => ?_) ?_ | refine plan_calm_guarded (v := ?_) (tt_of) (fun w' hw' => ?_) ?_); rotate_left; (focus (go_simp <;> (first | with_reducible rfl | (rw [if_neg (by simp [undef])]; try rfl)))); simp only [Act.put, List.setIfInBounds_toArray, List.set_cons_zero, List.set_cons_succ])
          refine plan_end ?_
          have hbd := hbx.drew
          clear hbx o0 c0x hEx hb2
          go_wp2_with fail
          go_roundg (i - (k + 1))
          case measure => omega
          case rel => exact ⟨k + 1, by omega, rfl, by simp, hbd, HPN⟩
        | false =>
          have hb2 : Op.bytesLess (bs yp).toList (bs x.path).toList = false := by rw [t1, t2]; exact hb
          have HPK : Hid (posE x L = k) := Lib.hid (by rw [HPS.out, if_neg (by rw [hb]; simp)]; rfl)
          clear HPS t1 t2 hb
          go_upto_region 9 with fail
          refine wp_region_plan (fun W => W.cell? ⟨g, k * 10, none⟩ = some (.string (bs yp)) ∧ W.cell? ⟨b, off + i * 10, none⟩ = some (.string (bs x.path))) [(false, 0), (false, 1), (false, 2), (false, 3), (false, 4), (false, 5), (false, 6), (false, 7), (false, 8), (false, 9), (false, 10), (false, 11), (false, 12), (false, 13), (false, 14), (false, 15), (false, 16)] (by kernel_rfl) (by kernel_rfl) (⟨by simpa using o0, by simpa using c0x⟩) ?_
          simp only [planOps, List.map, List.getD_cons_zero, List.getD_cons_succ]
          iterate 17 ((first | refine plan_quiet_guarded (v := ?_) rfl (fun w' hw' => ?_) ?_ | refine plan_calm_guarded (v := ?_) (tt_of) (fun w' hw' => ?_) ?_); rotate_left; (focus (go_simp <;> (first | with_reducible rfl | (rw [if_neg (by simp [undef])]; try rfl)))); simp only [Act.put, List.setIfInBounds_toArray, List.set_cons_zero, List.set_cons_succ])
          refine plan_end ?_
          clear o0 c0x hb2
          have hbd := hbx.drew
          have hE0 := hE.below hbd
          have q0 := below_trans q hbd
          have z0 := hbd.mono q.size
          clear hE hEx hbx hbd
          generalize wr.drew = W0 at hE0 q0 z0 ⊢
          obtain ⟨hjunk, hnc, hA0, hsrc1, hdat1⟩ := hE0.upto k (by rw [HLn.out]; omega)
          clear hjunk
          have lk : (L.take k).length = k := by rw [List.length_take, HLn.out]; omega
          go_wp2_with (at_builtin; revert hnc)
          intro hnc
          refine wpList_appendEQ (v := .slice none 0 0) (L := []) (f := fun _ => .slice none 0 0) (M := L.take k) (g := f) (A := some ⟨g, 0, none⟩) (c := cap6) rfl _ _ rfl rfl (EQ.nil _ _ _) ?hx1 hA0 hsrc1 hdat1 (by rw [lk]; simp; omega) q0.size ?_
          case hx1 => rw [lk]; first | rfl | (simp [Act.eval]; done)
          intro v1 w1 h1 hk1 hob1
          have n1 : ∀ bb, v1.ownBlock = some bb → W0.heap.size ≤ bb := fun bb hbb => by
            rcases hob1 with e | e
            · rw [e] at hbb; cases hbb
            · exact e bb hbb
          have hk1b : Below W0.heap.size W0 w1 := hk1.below (Nat.le_refl _) (fun bb _ hbb => by cases hbb)
          have hE1 := hE0.below hk1b
          have q1 := below_trans q0 hk1b
          have z1 := z0.trans (hk1b.mono q0.size)
          have hat1 := hat.keep (kept_new z1) hbX
          have hdv1 := hdv.keep good_byte (kept_new z1)
          have hown0 : ∀ bb, (Value.slice (some ⟨g, 0, none⟩) i cap6).ownBlock = some bb → bb < W0.heap.size := fun bb hbb => (hE0.row.lt bb hbb).2
          have hs01 := hk1b.size
          rw [List.nil_append] at h1
          obtain ⟨A1, cap1, rfl⟩ := own_form h1.row
          rw [lk] at h1 n1 ⊢
          obtain ⟨u0, u1, u2, u3, u4, u5, u6, u7, u8, u9⟩ := id hat1
          have ha : Below w1.heap.size w1 (w1.alloc (.cells #[.string (bs x.path), .int .i64 x.kind, .int .i64 x.mode, .int .i64 x.uid, .int .i64 x.gid, .string (bs x.owner), .string (bs x.group), .int .i64 x.mtime, .string (bs x.link), .slice Ad x.data.length capd] tE)) := (Below.refl _ _).alloc (Nat.le_refl _) _
          have bN := Blk.new w1 tE #[.string (bs x.path), .int .i64 x.kind, .int .i64 x.mode, .int .i64 x.uid, .int .i64 x.gid, .string (bs x.owner), .string (bs x.group), .int .i64 x.mtime, .string (bs x.link), .slice Ad x.data.length capd]
          have h1a := h1.below ha
          have hE1a := hE1.below ha
          have q1a := below_trans q1 ha
          have hdv1a := Below.sl good_byte ha hdv1
          have hs1a := ha.size
          clear hE0 hk1 hk1b hob1 hsrc1 hdat1 hdv1 h1 hE1
          go_wp2_with (at_builtin; revert hnc)
          intro hnc
          refine wpList_appendEQ (v := .slice A1 k cap1) (w := w1.alloc (.cells #[.string (bs x.path), .int .i64 x.kind, .int .i64 x.mode, .int .i64 x.uid, .int .i64 x.gid, .string (bs x.owner), .string (bs x.group), .int .i64 x.mtime, .string (bs x.link), .slice Ad x.data.length capd] tE)) (M := [x]) (g := fun _ => .slice Ad x.data.length capd) (A := some ⟨w1.heap.size, 0, none⟩) (c := 1) rfl _ _ rfl rfl h1a rfl (fun h => by cases h) (fun _ => ⟨_, rfl, fun j u hu => ?_⟩) (fun j hj => ?_) (by rw [lk]; simp; omega) q1a.size ?_
          · rw [Addr.add_lit, bN.cell, Nat.zero_add]
            rw [ofC_single, entC] at hu
            simpa using hu
          · match j, hj with
            | 0, _ => exact hdv1a
          intro v2 w2 h2 hk2 hob2
          have hE2 := hE1a.kept hk2 (fun bb h3 h4 => by have := hown0 bb h3; have := n1 bb h4; omega) (fun bb _ h4 => by have := n1 bb h4; have := q0.size; omega)
          have q2 := q1a.trans (hk2.below q1a.size fun bb _ h4 => by have := n1 bb h4; have := q0.size; omega)
          obtain ⟨A2, cap2, rfl⟩ := own_form h2.row
          have lk2 : (L.take k ++ [x]).length = k + 1 := by rw [List.length_append, lk]; rfl
          have ld : (L.drop k).length = i - k := by rw [List.length_drop, HLn.out]
          obtain ⟨hA2, hsrc2, hdat2⟩ := hE2.from_ k (by rw [HLn.out]; omega)
          clear h1a hE1a hk2 hob2 bN ha hat1 u0 u1 u2 u3 u4 u5 u6 u7 u8 u9 hdv1a n1
          rw [lk2] at h2 ⊢
          have hck : ¬ cap6 = k := by omega
          go_wp2_with (at_builtin; revert hnc)
          intro hnc
          refine wpList_appendEQ (v := .slice A2 (k + 1) cap2) (M := L.drop k) (g := fun j => f (k + j)) (A := if cap6 = k then (some ⟨g, 0, none⟩ : Option Addr) else (some ⟨g, 0, none⟩ : Option Addr).map (·.add (k * 10))) (c := cap6 - k) rfl _ _ rfl rfl h2 ?hx3 hA2 hsrc2 hdat2 (by rw [lk2, ld]; omega) q2.size ?_
          case hx3 => rw [ld]; first | rfl | (simp [Act.eval]; done) | (simp [Act.eval, hck, Addr.add_lit]; done)
          intro v3 w3 h3 hk3 _
          have q3 := q2.trans (hk3.below q2.size fun bb _ h4 => (h2.row.lt bb h4).1)
          have h4 : ∃ F, EQ w.heap.size w3 v3 (sortK l (i + 1)) F := ⟨_, by
            rw [HSS.out, insE, HPK.out]; exact h3⟩
          obtain ⟨F, h4⟩ := h4
          clear h3 hk3 h2 hE2 hsrc2 hdat2 hA2 q2 hat hdv HPK HSS
          go_wp2_with fail
          go_roundg (l.length - (i + 1))
          case measure => omega
          case rel => exact ⟨i + 1, F, by omega, rfl, by simp, q3, h4⟩
      · have hke : k = i := by omega
        have HPK : Hid (posE x L = k) := Lib.hid (by rw [HP.out, posE_end x L k (by rw [HLn.out]; omega)]; rfl)
        clear HP
        have hkl2 : ¬ (k : Int) < (i : Int) := by omega
        have HKE := Lib.hid hke
        clear hke
        go_upto_region 9 with fail
        refine wp_region_plan (fun W => W.cell? ⟨b, off + i * 10, none⟩ = some (.string (bs x.path))) [(false, 0), (false, 1), (false, 2), (false, 3), (false, 4), (false, 5), (false, 6), (false, 7), (false, 8), (false, 9), (false, 10), (false, 11), (false, 12), (false, 13), (false, 14), (false, 15), (false, 16)] (by kernel_rfl) (by kernel_rfl) (by simpa using c0x) ?_
        simp only [planOps, List.map, List.getD_cons_zero, List.getD_cons_succ]
        iterate 17 ((first | refine plan_quiet_guarded (v := ?_) rfl (fun w' hw' => ?_) ?_ | refine plan_calm_guarded (v := ?_) (tt_of) (fun w' hw' => ?_) ?_); rotate_left; (focus (go_simp <;> (first | with_reducible rfl | (rw [if_neg (by simp [undef])]; try rfl)))); simp only [Act.put, List.setIfInBounds_toArray, List.set_cons_zero, List.set_cons_succ])
        refine plan_end ?_
        clear c0x
        have hbd := hbx.drew
        have hE0 := hE.below hbd
        have q0 := below_trans q hbd
        have z0 := hbd.mono q.size
        clear hE hEx hbx hbd
        generalize wr.drew = W0 at hE0 q0 z0 ⊢
        obtain ⟨hjunk, hnc, hA0, hsrc1, hdat1⟩ := hE0.upto k (by rw [HLn.out]; omega)
        clear hjunk
        have lk : (L.take k).length = k := by rw [List.length_take, HLn.out]; omega
        go_wp2_with (at_builtin; revert hnc)
        intro hnc
        refine wpList_appendEQ (v := .slice none 0 0) (L := []) (f := fun _ => .slice none 0 0) (M := L.take k) (g := f) (A := A6) (c := cap6) rfl _ _ rfl rfl (EQ.nil _ _ _) ?hx1 hA0 hsrc1 hdat1 (by rw [lk]; simp; omega) q0.size ?_
        case hx1 => rw [lk]; first | rfl | (simp [Act.eval]; done)
        intro v1 w1 h1 hk1 hob1
        have n1 : ∀ bb, v1.ownBlock = some bb → W0.heap.size ≤ bb := fun bb hbb => by
          rcases hob1 with e | e
          · rw [e] at hbb; cases hbb
          · exact e bb hbb
        have hk1b : Below W0.heap.size W0 w1 := hk1.below (Nat.le_refl _) (fun bb _ hbb => by cases hbb)
        have hE1 := hE0.below hk1b
        have q1 := below_trans q0 hk1b
        have z1 := z0.trans (hk1b.mono q0.size)
        have hat1 := hat.keep (kept_new z1) hbX
        have hdv1 := hdv.keep good_byte (kept_new z1)
        have hown0 : ∀ bb, (Value.slice (A6) i cap6).ownBlock = some bb → bb < W0.heap.size := fun bb hbb => (hE0.row.lt bb hbb).2
        have hs01 := hk1b.size
        rw [List.nil_append] at h1
        obtain ⟨A1, cap1, rfl⟩ := own_form h1.row
        rw [lk] at h1 n1 ⊢
        obtain ⟨u0, u1, u2, u3, u4, u5, u6, u7, u8, u9⟩ := id hat1
        have ha : Below w1.heap.size w1 (w1.alloc (.cells #[.string (bs x.path), .int .i64 x.kind, .int .i64 x.mode, .int .i64 x.uid, .int .i64 x.gid, .string (bs x.owner), .string (bs x.group), .int .i64 x.mtime, .string (bs x.link), .slice Ad x.data.length capd] tE)) := (Below.refl _ _).alloc (Nat.le_refl _) _
        have bN := Blk.new w1 tE #[.string (bs x.path), .int .i64 x.kind, .int .i64 x.mode, .int .i64 x.uid, .int .i64 x.gid, .string (bs x.owner), .string (bs x.group), .int .i64 x.mtime, .string (bs x.link), .slice Ad x.data.length capd]
        have h1a := h1.below ha
        have hE1a := hE1.below ha
        have q1a := below_trans q1 ha
        have hdv1a := Below.sl good_byte ha hdv1
        have hs1a := ha.size
        clear hE0 hk1 hk1b hob1 hsrc1 hdat1 hdv1 h1 hE1
        go_wp2_with (at_builtin; revert hnc)
        intro hnc
        refine wpList_appendEQ (v := .slice A1 k cap1) (w := w1.alloc (.cells #[.string (bs x.path), .int .i64 x.kind, .int .i64 x.mode, .int .i64 x.uid, .int .i64 x.gid, .string (bs x.owner), .string (bs x.group), .int .i64 x.mtime, .string (bs x.link), .slice Ad x.data.length capd] tE)) (M := [x]) (g := fun _ => .slice Ad x.data.length capd) (A := some ⟨w1.heap.size, 0, none⟩) (c := 1) rfl _ _ rfl rfl h1a rfl (fun h => by cases h) (fun _ => ⟨_, rfl, fun j u hu => ?_⟩) (fun j hj => ?_) (by rw [lk]; simp; omega) q1a.size ?_
        · rw [Addr.add_lit, bN.cell, Nat.zero_add]
          rw [ofC_single, entC] at hu
          simpa using hu
        · match j, hj with
          | 0, _ => exact hdv1a
        intro v2 w2 h2 hk2 hob2
        have hE2 := hE1a.kept hk2 (fun bb h3 h4 => by have := hown0 bb h3; have := n1 bb h4; omega) (fun bb _ h4 => by have := n1 bb h4; have := q0.size; omega)
        have q2 := q1a.trans (hk2.below q1a.size fun bb _ h4 => by have := n1 bb h4; have := q0.size; omega)
        obtain ⟨A2, cap2, rfl⟩ := own_form h2.row
        have lk2 : (L.take k ++ [x]).length = k + 1 := by rw [List.length_append, lk]; rfl
        have ld : (L.drop k).length = i - k := by rw [List.length_drop, HLn.out]
        obtain ⟨hA2, hsrc2, hdat2⟩ := hE2.from_ k (by rw [HLn.out]; omega)
        clear h1a hE1a hk2 hob2 bN ha hat1 u0 u1 u2 u3 u4 u5 u6 u7 u8 u9 hdv1a n1
        rw [lk2] at h2 ⊢
        by_cases hck : cap6 = k
        · go_wp2_with (at_builtin; revert hnc)
          intro hnc
          refine wpList_appendEQ (v := .slice A2 (k + 1) cap2) (M := L.drop k) (g := fun j => f (k + j)) (A := if cap6 = k then (A6 : Option Addr) else (A6 : Option Addr).map (·.add (k * 10))) (c := cap6 - k) rfl _ _ rfl rfl h2 ?hx3 hA2 hsrc2 hdat2 (by rw [lk2, ld]; omega) q2.size ?_
          case hx3 => rw [ld]; first | rfl | (simp [Act.eval]; done) | (simp [Act.eval, hck, Addr.add_lit]; done)
          intro v3 w3 h3 hk3 _
          have q3 := q2.trans (hk3.below q2.size fun bb _ h4 => (h2.row.lt bb h4).1)
          have h4 : ∃ F, EQ w.heap.size w3 v3 (sortK l (i + 1)) F := ⟨_, by
            rw [HSS.out, insE, HPK.out]; exact h3⟩
          obtain ⟨F, h4⟩ := h4
          clear h3 hk3 h2 hE2 hsrc2 hdat2 hA2 q2 hat hdv HPK HSS
          go_wp2_with fail
          go_roundg (l.length - (i + 1))
          case measure => omega
          case rel => exact ⟨i + 1, F, by omega, rfl, by simp, q3, h4⟩
        · go_wp2_with (at_builtin; revert hnc)
          intro hnc
          refine wpList_appendEQ (v := .slice A2 (k + 1) cap2) (M := L.drop k) (g := fun j => f (k + j)) (A := if cap6 = k then (A6 : Option Addr) else (A6 : Option Addr).map (·.add (k * 10))) (c := cap6 - k) rfl _ _ rfl rfl h2 ?hx3 hA2 hsrc2 hdat2 (by rw [lk2, ld]; omega) q2.size ?_
          case hx3 => rw [ld]; first | rfl | (simp [Act.eval]; done) | (simp [Act.eval, hck, Addr.add_lit]; done)
          intro v3 w3 h3 hk3 _
          have q3 := q2.trans (hk3.below q2.size fun bb _ h4 => (h2.row.lt bb h4).1)
          have h4 : ∃ F, EQ w.heap.size w3 v3 (sortK l (i + 1)) F := ⟨_, by
            rw [HSS.out, insE, HPK.out]; exact h3⟩
          obtain ⟨F, h4⟩ := h4
          clear h3 hk3 h2 hE2 hsrc2 hdat2 hA2 q2 hat hdv HPK HSS
          go_wp2_with fail
          go_roundg (l.length - (i + 1))
          case measure => omega
          case rel => exact ⟨i + 1, F, by omega, rfl, by simp, q3, h4⟩
end Go.Proofs.YtjhikglgaoncjaaDoor
