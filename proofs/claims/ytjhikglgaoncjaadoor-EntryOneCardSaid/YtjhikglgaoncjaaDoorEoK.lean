/- The walk of the law on a right list in whatever order. Printed by gen_one.py. -/
import Derived.Test.YtjhikglgaoncjaaDoorEoI
import Derived.Test.YtjhikglgaoncjaaDoorEoJ
namespace Go.Proofs.YtjhikglgaoncjaaDoor
open Go.RowKit
def Rint : Rel Int := fun _ _ cs n => cs = [.int .i64 n]
theorem good_int : Good 1 Rint := ⟨fun h _ => h, fun h _ => h, (fun h => by subst h; rfl), (fun h u hu => by subst h; simp at hu; subst hu; rfl)⟩
open Go.ChangeShapes Go.WideShapes Go.ChangeAt in
theorem opens_int {H : Type} {enc : TypeId × Value → H} {P : Program} {W : World} {e : TypeId} (he : P.underlying e = some (.int .i64)) : Opens enc P W e Rint := fun fuel cs x h _ => by
  obtain ⟨n, rfl, _, _⟩ := DataW.trod_int he h
  exact ⟨n, rfl⟩
theorem Sl.ints {X : Nat → Prop} {w : World} {A : Option Addr} {n cap : Nat} {l : List Int} (h : Sl 1 Rint X w (.slice A n cap) l) (hn : 0 < n) : ∃ b off, A = some ⟨b, off, none⟩ ∧ ∀ j (h : j < l.length), w.cell? ⟨b, off + j, none⟩ = some (.int .i64 l[j]) := by
  obtain ⟨h1, h2, h3, h4⟩ := h.at
  obtain ⟨b, off, hA, _, hc⟩ := h4 hn
  refine ⟨b, off, hA, fun j hj => ?_⟩
  obtain ⟨cs, hcs, hR⟩ := hc j hj
  have hR : cs = [.int .i64 l[j]] := hR
  subst hR
  simpa using hcs 0 _ rfl
theorem geq_str (t : TypeId) (a b : ByteArray) : binOp .geq t (.string a) (.string b) = pure (.bool !(Op.bytesLess a.toList b.toList)) := by simp [binOp, Op.stringOp]
theorem tn_lb {l T : List En} (hm : ∀ x ∈ T, x ∈ l) (hlen : T.length ≤ 1000000) (h : ∀ e ∈ l, EB e ∧ e.data.length ≤ 1000000) : LB T ∧ ∀ e ∈ T, e.data.length ≤ 140737488355328 :=
  ⟨⟨hlen, fun e he => (h e (hm e he)).1⟩, fun e he => by have := (h e (hm e he)).2; omega⟩
theorem canon_lb {l : List En} (hr : Rt l) (h : ∀ e ∈ l, EB e ∧ e.data.length ≤ 1000000) : ∀ e ∈ canonL l, EB e ∧ e.data.length ≤ 1000000 := by
  intro e' he'
  obtain ⟨e, he, rfl⟩ := (mem_canon e').1 he'
  obtain ⟨⟨h1, h2, h3, h4⟩, h5⟩ := h e he
  by_cases hF : isF e
  · obtain ⟨q, e0, _, h0, _, hq, _, hc⟩ := fin_cases he hF
    rcases hc with ⟨_, hc⟩ | ⟨_, hc⟩
    · obtain ⟨x, hx, hxp, _, _⟩ := hr.file he hF
      rw [hc, dataOf_is hr hx hxp]
      exact ⟨⟨h1, h2, h3, by simp⟩, (h x hx).2⟩
    · rw [hc]
      refine ⟨⟨h1, h2, h3, ?_⟩, by simp⟩
      show q.length ≤ _
      rw [← hq]; exact (h e0 h0).1.1
  · rw [fin_no hF]; exact ⟨⟨h1, h2, h3, h4⟩, h5⟩
theorem canon_fnd {l : List En} (hr : Rt l) {e : En} (he : e ∈ l) : 0 ≤ fndE e.path (canonL l) 0 := by
  refine Decidable.byContradiction fun hn => ?_
  have := (fnd_neg (canonL l) e.path).1 (by omega) (fin l e) ((mem_canon _).2 ⟨e, he, rfl⟩)
  exact this (fin_path l e)
theorem canon_strict {l : List En} (hr : Rt l) (i : Nat) (h : i + 1 < (canonL l).length) : Op.bytesLess (canonL l)[i].path (canonL l)[i + 1].path = true := by
  have h1 : leP (canonL l)[i] (canonL l)[i + 1] := List.pairwise_iff_getElem.1 (canonL_sorted l) i (i + 1) (by omega) h (by omega)
  cases hb : Op.bytesLess (canonL l)[i].path (canonL l)[i + 1].path with
  | true => rfl
  | false =>
    have := nodup_paths (rt_canon hr).uniq (by omega) h (less_anti hb h1)
    omega
set_option maxRecDepth 20000 in
set_option maxHeartbeats 16000000 in
theorem law_one (v : Value) (l : List En) (u : Value) (o : List Int) (w : World) (hsl : Sl 10 Rent nowhere w v l) (hso : Sl 1 Rint nowhere w u o) :
    Calls Tryd.prog 6 #[v, u] w fun r w' => r = .returned (.bool true) ∧ Below w.heap.size w w' := by
  obtain ⟨A, cap, rfl, hc1, hc2⟩ := hsl.form
  obtain ⟨Ao, capo, rfl, ho1, ho2⟩ := hso.form
  unfold maxLen at hc2 ho2
  go_enter Tryd.func6, Tryd.ntmps6
  go_wp2_with fail
  refine (awakeE _).mono ?_
  rintro e w1 ⟨rfl, hb1⟩
  have hsl := Below.sl good_ent hb1 hsl
  have hso := Below.sl good_int hb1 hso
  go_wp2_with fail
  refine (rlight_any l 60 _ nowhere _ hsl (by omega)).mono ?_
  rintro r w2 ⟨rfl, hb2⟩
  have hsl := Below.sl good_ent hb2 hsl
  have hso := Below.sl good_int hb2 hso
  have q2 := below_trans hb1 hb2
  clear hb1 hb2
  cases hL : lightE 60 l with
  | false =>
    go_wp2_with fail
    go_ret
    exact ⟨rfl, q2⟩
  | true =>
    have hLB := Lib.hid (light_lb 60 (by omega) l hL)
    have hLE := Lib.hid (light_eb 60 l hL)
    have hl60 := hLE.out.1
    have hED : Hid (∀ e ∈ l, EB e ∧ e.data.length ≤ 1000000) := Lib.hid fun e he => ⟨hLB.out.2 e he, by have := (hLE.out.2 e he).2.2.2.2; omega⟩
    clear hL
    by_cases h100 : 100 < o.length
    · have hd : decide ((100 : Int) < (o.length : Int)) = true := by simp; omega
      go_wp2_with fail
      go_ret
      exact ⟨rfl, q2⟩
    have hd : decide ((100 : Int) < (o.length : Int)) = false := by simp; omega
    have ho100 : o.length ≤ 100 := by omega
    clear h100
    go_wp2_with fail
    refine (pcanon_any l _ nowhere _ hsl hLB.out (fun e he => by have := (hED.out e he).2; omega)).mono ?_
    rintro r w3 h3
    obtain ⟨h3, hb3⟩ := canonR_is h3
    have hsl := Below.sl good_ent hb3 hsl
    have hso := Below.sl good_int hb3 hso
    have q3 := below_trans q2 hb3
    clear hb3 q2 hd
    rcases h3 with ⟨hr, v', f0, B, _, rfl, hE0⟩ | ⟨hr, hz, rfl⟩
    rotate_left
    · obtain ⟨c, hc⟩ : ∃ c, (chkL l).2 = c := ⟨_, rfl⟩
      rw [hc] at hz ⊢
      have hcb : (c != 0) = true := by simpa using hz
      clear hsl hso hr hz hc
      go_wp2_with fail
      go_ret
      exact ⟨rfl, q3⟩
    have HR := Lib.hid hr
    clear hr
    obtain ⟨Ax, capx, rfl⟩ := own_form hE0.row
    have hsx := hE0.sl
    clear hE0
    have hCl := Lib.hid (canonL_len l)
    rw [hCl.out] at hsx ⊢
    have hslH : Sl 10 Rent (fun k => w3.heap.size ≤ k) w3 (.slice A l.length cap) l := hsl.mono good_ent (by omega) fun k hk h => by omega
    have hwN : IntKind.i64.wrap ((o.length : Int) + l.length) = ((o.length + l.length : Nat) : Int) := by rw [i64_in _ (by omega) (by omega)]; omega
    obtain ⟨N, hN⟩ : ∃ N, o.length + l.length = N := ⟨_, rfl⟩
    rw [hN] at hwN
    have HN := Lib.hid hN
    have hN160 : N ≤ 160 := by omega
    clear hN
    go_wp2_with fail
    go_loopg [7, 8] N (fun G s7 s8 wr => ∃ (i : Nat) (f : Nat → Value), i ≤ N ∧ G = N - i ∧ s8 = .int .i64 i ∧ Below w3.heap.size w3 wr ∧ EQ w3.heap.size wr s7 (turnK l o i) f)
    case atStart => exact ⟨0, fun _ => .slice none 0 0, Nat.zero_le _, rfl, rfl, Below.refl _ _, EQ.nil _ _ _⟩
    case round =>
      obtain ⟨i, f, hi, rfl, rfl, q, hE⟩ := hrel
      by_cases hlt : i < N
      rotate_left
      · have hie : i = N := by omega
        rw [hie] at hE
        obtain ⟨T, HTT⟩ : ∃ T, Hid (turnK l o N = T) := ⟨_, Lib.hid rfl⟩
        have HPM : Hid (T.Perm l) := Lib.hid (by rw [← HTT.out, ← HN.out]; exact turn_perm HR.out o)
        have HRT : Hid (Rt T) := Lib.hid (by rw [← HTT.out, ← HN.out]; exact turn_rt HR.out o)
        rw [HTT.out] at hE
        obtain ⟨A7, cap7, rfl⟩ := own_form hE.row
        rw [HPM.out.length_eq] at hE ⊢
        have hCT := canon_perm HR.out HRT.out HPM.out
        have HTB := Lib.hid (tn_lb (fun x hx => HPM.out.mem_iff.1 hx) (by rw [HPM.out.length_eq]; omega) hED.out)
        have HCB := Lib.hid (tn_lb (T := canonL l) (l := canonL l) (fun x hx => hx) (by rw [hCl.out]; omega) (canon_lb HR.out hED.out))
        have hst := hE.eo.sl
        have hsx := Below.sl good_ent q hsx
        have hsl := Below.sl good_ent q hsl
        have q4 := below_trans q3 q
        have hNi : ¬ (i : Int) < (N : Int) := by omega
        clear hE HTT hslH hso q q3
        go_wp2_with fail
        refine (pcanon_any T _ nowhere _ hst HTB.out.1 HTB.out.2).mono ?_
        rintro r w4 h4
        obtain ⟨h4, hb4⟩ := canonR_is h4
        rcases h4 with ⟨_, vy, fy, By, _, rfl, hEy⟩ | ⟨hn, _⟩
        rotate_left
        · exact absurd HRT.out hn
        rw [hCT] at hEy
        obtain ⟨Ay, capy, rfl⟩ := own_form hEy.row
        have hsy := hEy.sl
        rw [hCl.out] at hsy ⊢
        have hsx := Below.sl good_ent hb4 hsx
        have hsl := Below.sl good_ent hb4 hsl
        have q5 := below_trans q4 hb4
        clear hEy hb4 q4 hst HTB HPM HRT hCT
        go_wp2_with fail
        refine (pcanon_any (canonL l) _ nowhere _ hsx HCB.out.1 HCB.out.2).mono ?_
        rintro r w5 h5
        obtain ⟨h5, hb5⟩ := canonR_is h5
        rcases h5 with ⟨_, vz, fz, Bz, _, rfl, hEz⟩ | ⟨hn, _⟩
        rotate_left
        · exact absurd (rt_canon HR.out) hn
        rw [canon_canon HR.out] at hEz
        obtain ⟨Az, capz, rfl⟩ := own_form hEz.row
        have hsz := hEz.sl
        rw [hCl.out] at hsz ⊢
        have hsx := Below.sl good_ent hb5 hsx
        have hsy := Below.sl good_ent hb5 hsy
        have hsl := Below.sl good_ent hb5 hsl
        have q6 := below_trans q5 hb5
        clear hEz hb5 q5 HCB
        obtain ⟨C, hC⟩ : ∃ C, canonL l = C := ⟨_, rfl⟩
        have HFN : Hid (∀ e ∈ l, 0 ≤ fndE e.path C 0) := Lib.hid (by rw [← hC]; exact fun e he => canon_fnd HR.out he)
        have HSTR : Hid (∀ j (h : j + 1 < C.length), Op.bytesLess C[j].path C[j + 1].path = true) := Lib.hid (by rw [← hC]; exact fun j h => canon_strict HR.out j h)
        have HS : Hid (sameL C C = true) := Lib.hid (sameL_self C)
        have hCl : Hid (C.length = l.length) := Lib.hid (by rw [← hC]; exact hCl.out)
        rw [hC] at hsx hsy hsz
        clear hC
        have hnC : C.length ≤ 1000000 := by rw [hCl.out]; omega
        go_wp2_with fail
        refine (rsame_any C C _ _ _ _ _ hsx hsy hnC).mono ?_
        rw [HS.out]
        rintro r w6 ⟨rfl, hb6⟩
        have hsx := Below.sl good_ent hb6 hsx
        have hsz := Below.sl good_ent hb6 hsz
        have hsl := Below.sl good_ent hb6 hsl
        have q7 := below_trans q6 hb6
        clear hb6 q6 hsy
        go_wp2_with fail
        refine (rsame_any C C _ _ _ _ _ hsx hsz hnC).mono ?_
        rw [HS.out]
        rintro r w7 ⟨rfl, hb7⟩
        have hsx := Below.sl good_ent hb7 hsx
        have hsl := Below.sl good_ent hb7 hsl
        have q8 := below_trans q7 hb7
        clear hb7 q7 hsz HS hnC
        have hll : ((l.length : Int) != (l.length : Int)) = false := by simp
        go_wp2_with fail
        go_loopg [14] l.length (fun G s14 wx => ∃ k : Nat, k ≤ l.length ∧ G = l.length - k ∧ s14 = .int .i64 k ∧ Below w7.heap.size w7 wx)
        case atStart => exact ⟨0, Nat.zero_le _, rfl, rfl, Below.refl _ _⟩
        case round =>
          obtain ⟨k, hk, rfl, rfl, q⟩ := hrel
          by_cases hkl : k < l.length
          rotate_left
          · have q9 := below_trans q8 q
            clear hll
            go_wp2_with fail
            go_ret
            exact ⟨rfl, q9⟩
          have hslr := Below.sl good_ent q hsl
          have hsxr := Below.sl good_ent q hsx
          obtain ⟨b, off, rfl, _, hcj⟩ := hslr.ent (by omega)
          obtain ⟨bx, ox, rfl, _, hcx⟩ := hsxr.ent (by omega)
          obtain ⟨dv, ⟨c0, _, _, _, _, _, _, _, _, _⟩, _⟩ := hcj k hkl
          have hkC : k < C.length := by rw [hCl.out]; exact hkl
          have x0 : wr.cell? ⟨bx, ox + k * 10, none⟩ = some (.string (bs (C[k]'hkC).path)) := by
            obtain ⟨dj, hjx, _⟩ := hcx k hkC
            exact hjx.c0
          have HZ := Lib.hid (HFN.out _ (List.getElem_mem hkl))
          have RP : Hid (∀ W, Sl 10 Rent nowhere W (.slice (some ⟨bx, ox, none⟩) l.length capx) C → Calls Tryd.prog 18 #[.slice (some ⟨bx, ox, none⟩) l.length capx, .string (bs l[k].path)] W fun e w' => e = .returned (.int .i64 (fndE l[k].path C 0)) ∧ W = w') := Lib.hid fun W h => rfind_any _ _ _ nowhere W h
          generalize fndE l[k].path C 0 = z at HZ RP
          generalize l[k].path = lp at c0 RP
          have dz : decide (z < 0) = false := by have := HZ.out; simp; omega
          have hsd := hsxr.keep good_ent ((Kept.refl nowhere wr).drew)
          have k1 : (0 : Int) ≤ (k : Int) := by omega
          have k2 : (k : Int) < (l.length : Int) := by omega
          have hgq : ∀ (t : TypeId) (a b : ByteArray), binOp .geq t (.string a) (.string b) = pure (.bool !(Op.bytesLess a.toList b.toList)) := geq_str
          clear hll hcj hslr HZ
          by_cases hk0 : 0 < k
          · obtain ⟨j, hj⟩ : ∃ j, k = j + 1 := ⟨k - 1, by omega⟩
            have hjC : j + 1 < C.length := by omega
            have hST := HSTR.out j hjC
            have y0 : wr.cell? ⟨bx, ox + j * 10, none⟩ = some (.string (bs (C[j]'(by omega)).path)) := by
              obtain ⟨dj, hjx, _⟩ := hcx j (by omega)
              exact hjx.c0
            have e1 : C[j + 1] = C[k] := by simp [hj]
            rw [e1] at hST
            generalize C[j].path = pj at y0 hST
            generalize C[k].path = pk at x0 hST
            have t1 : Op.bytesLess (bs pj).toList (bs pk).toList = true := by rw [toList_bs, toList_bs]; exact hST
            have d0 : decide ((0 : Int) < (k : Int)) = true := by simp; omega
            have d0' : decide (0 < k) = true := by simp; omega
            have wj : IntKind.i64.wrap ((k : Int) - 1) = (j : Int) := by rw [i64_in _ (by omega) (by omega)]; omega
            have j1 : (0 : Int) ≤ (j : Int) := by omega
            have j2 : (j : Int) < (l.length : Int) := by omega
            clear hcx hST e1 hj hk0
            go_upto_region 26 with fail
            refine wp_region_plan (fun W => (W.cell? ⟨b, off + k * 10, none⟩ = some (.string (bs lp)) ∧ W.cell? ⟨bx, ox + k * 10, none⟩ = some (.string (bs pk)) ∧ W.cell? ⟨bx, ox + j * 10, none⟩ = some (.string (bs pj))) ∧ Sl 10 Rent nowhere W (.slice (some ⟨bx, ox, none⟩) l.length capx) C) [(false, 0), (false, 1), (false, 2), (false, 3), (false, 4), (false, 5), (false, 6), (false, 7), (false, 8), (false, 9), (false, 10), (false, 11), (false, 12), (false, 13), (false, 14), (false, 15), (false, 16), (false, 17), (false, 18), (false, 19), (false, 20), (false, 21), (false, 22), (false, 23), (false, 24), (false, 25)] (by kernel_rfl) (by kernel_rfl) (⟨⟨by simpa using c0, by simpa using x0, by simpa using y0⟩, hsd⟩) ?_
            simp only [planOps, List.map, List.getD_cons_zero, List.getD_cons_succ]
            iterate 26 ((first | refine plan_quiet_guarded (v := ?_) rfl (fun w' hw' => ?_) ?_ | refine plan_calm_guarded (v := ?_) (tt_of) (fun w' hw' => ?_) ?_); rotate_left; (focus (go_simp <;> (first | with_reducible rfl | (rw [if_neg (by simp [undef])]; try rfl) | (refine (RP.out _ hw'.2).mono ?_; rintro e w2 ⟨rfl, rfl⟩; constructor <;> with_reducible rfl)))); simp only [Act.put, List.setIfInBounds_toArray, List.set_cons_zero, List.set_cons_succ])
            refine plan_end ?_
            have qd := q.drew
            clear c0 x0 y0 hsd hsxr RP
            go_wp2_with fail
            go_roundg (l.length - (k + 1))
            case measure => omega
            case rel => exact ⟨k + 1, by omega, rfl, by simp, qd⟩
          · have d0 : decide ((0 : Int) < (k : Int)) = false := by simp; omega
            have d0' : decide (0 < k) = false := by simp; omega
            clear hcx x0
            go_upto_region 26 with fail
            refine wp_region_plan (fun W => W.cell? ⟨b, off + k * 10, none⟩ = some (.string (bs lp)) ∧ Sl 10 Rent nowhere W (.slice (some ⟨bx, ox, none⟩) l.length capx) C) [(false, 0), (false, 1), (false, 2), (false, 3), (false, 4), (false, 5), (false, 6), (false, 7), (false, 8), (false, 9), (false, 10), (false, 11), (false, 12), (false, 13), (false, 14), (false, 15), (false, 16), (false, 17), (false, 18), (false, 19), (false, 20), (false, 21), (false, 22), (false, 23), (false, 24), (false, 25)] (by kernel_rfl) (by kernel_rfl) (⟨by simpa using c0, hsd⟩) ?_
            simp only [planOps, List.map, List.getD_cons_zero, List.getD_cons_succ]
            iterate 26 ((first | refine plan_quiet_guarded (v := ?_) rfl (fun w' hw' => ?_) ?_ | refine plan_calm_guarded (v := ?_) (tt_of) (fun w' hw' => ?_) ?_); rotate_left; (focus (go_simp <;> (first | with_reducible rfl | (rw [if_neg (by simp [undef])]; try rfl) | (refine (RP.out _ hw'.2).mono ?_; rintro e w2 ⟨rfl, rfl⟩; constructor <;> with_reducible rfl)))); simp only [Act.put, List.setIfInBounds_toArray, List.set_cons_zero, List.set_cons_succ])
            refine plan_end ?_
            have qd := q.drew
            clear c0 hsd hsxr RP
            go_wp2_with fail
            go_roundg (l.length - (k + 1))
            case measure => omega
            case rel => exact ⟨k + 1, by omega, rfl, by simp, qd⟩
      have HT0 : Hid (turnK l o (i + 1) = takeT l (turnK l o i) (ordK o i)) := Lib.hid rfl
      have hTl := (turn_tn l o i).2
      obtain ⟨T, HTT⟩ : ∃ T, Hid (turnK l o i = T) := ⟨_, Lib.hid rfl⟩
      rw [HTT.out] at hE hTl
      have HT := Lib.hid (show turnK l o (i + 1) = takeT l T (ordK o i) by rw [HT0.out, HTT.out])
      clear HT0 HTT
      obtain ⟨A7, cap7, rfl⟩ := own_form hE.row
      have hTn : T.length ≤ 1000 := by omega
      obtain ⟨n7, hn7⟩ : ∃ n7, T.length = n7 := ⟨_, rfl⟩
      rw [hn7] at hE hTn ⊢
      have HTL := Lib.hid hn7
      clear hn7 hTl
      by_cases hio : i < o.length
      · have dio : decide ((i : Int) < (o.length : Int)) = true := by simp; omega
        obtain ⟨bo, oo, rfl, hco⟩ := (hso.keep good_int (Kept.of_below q nowhere)).ints (by omega)
        have ko := hco i hio
        obtain ⟨kk, hkk⟩ : ∃ kk, o[i] = kk := ⟨_, rfl⟩
        have HT := Lib.hid (show turnK l o (i + 1) = takeT l T kk by rw [HT.out, ordK, List.getElem?_eq_getElem hio, hkk])
        rw [hkk] at ko
        clear hco hkk
        have i1 : (0 : Int) ≤ (i : Int) := by omega
        have i2 : (i : Int) < (o.length : Int) := by omega
        go_upto_region 15 with fail
        clear ko dio hio i2
        by_cases k0 : kk < 0
        · have d0 : decide (kk < 0) = true := by simpa using k0
          have HN2 := Lib.hid (show turnK l o (i + 1) = T by rw [HT.out, takeT, if_pos (.inl k0)])
          clear HT k0
          go_wp2_with fail
          go_roundg (N - (i + 1))
          case measure => omega
          case rel => exact ⟨i + 1, f, by omega, rfl, by simp, q, by rw [HN2.out]; exact hE⟩
        have d0 : decide (kk < 0) = false := by simpa using k0
        by_cases k1 : (l.length : Int) ≤ kk
        · have d1 : decide ((l.length : Int) ≤ kk) = true := by simpa using k1
          have HN2 := Lib.hid (show turnK l o (i + 1) = T by rw [HT.out, takeT, if_pos (.inr k1)])
          clear HT k1
          go_wp2_with fail
          go_roundg (N - (i + 1))
          case measure => omega
          case rel => exact ⟨i + 1, f, by omega, rfl, by simp, q, by rw [HN2.out]; exact hE⟩
        have d1 : decide ((l.length : Int) ≤ kk) = false := by simpa using k1
        obtain ⟨m, rfl⟩ : ∃ m : Nat, kk = (m : Int) := ⟨kk.toNat, by omega⟩
        have hml : m < l.length := by omega
        have d1' : decide (l.length ≤ m) = false := by simp; omega
        have hslr := hslH.keep good_ent (kept_new q)
        obtain ⟨b, off, rfl, hbX, hcj⟩ := hslr.ent (by omega)
        obtain ⟨dv, hat, hdv⟩ := hcj m hml
        obtain ⟨Ad, capd, rfl, _, _⟩ := hdv.form
        obtain ⟨e, He⟩ : ∃ e, Hid (l[m] = e) := ⟨_, Lib.hid rfl⟩
        have HT := Lib.hid (show turnK l o (i + 1) = if 0 ≤ fndE e.path T 0 ∨ (e.kind = 4 ∧ fndE e.link T 0 < 0) then T else T ++ [e] by
          rw [HT.out, takeT, if_neg (by omega), Int.toNat_natCast, List.getElem?_eq_getElem hml, He.out])
        rw [He.out] at hat hdv
        clear hslr hcj k0 k1
        obtain ⟨c0, c1, c2, c3, c4, c5, c6, c7, c8, c9⟩ := hat
        have m1 : (0 : Int) ≤ (m : Int) := by omega
        have m2 : (m : Int) < (l.length : Int) := by omega
        go_wp2_with fail
        refine (rfind_any T e.path _ nowhere _ (by have := hE.eo.sl; exact this)).mono ?_
        rintro r w4 ⟨rfl, rfl⟩
        generalize fndE e.path T 0 = z at HT
        by_cases hz : 0 ≤ z
        · have dz : decide ((0 : Int) ≤ z) = true := by simpa using hz
          have HN2 := Lib.hid (HT.out.trans (if_pos (.inl hz)))
          clear HT hz
          go_wp2_with fail
          go_roundg (N - (i + 1))
          case measure => omega
          case rel => exact ⟨i + 1, f, by omega, rfl, by simp, q, by rw [HN2.out]; exact hE⟩
        have dz : decide ((0 : Int) ≤ z) = false := by simpa using hz
        by_cases h4 : e.kind = 4
        · have n4 : (e.kind == 4) = true := by simpa using h4
          go_wp2_with fail
          refine (rfind_any T e.link _ nowhere _ (by have := hE.eo.sl; exact this)).mono ?_
          rintro r w4 ⟨rfl, rfl⟩
          generalize fndE e.link T 0 = z2 at HT
          by_cases hz2 : z2 < 0
          · have dz2 : decide (z2 < (0 : Int)) = true := by simpa using hz2
            have HN2 := Lib.hid (HT.out.trans (if_pos (.inr ⟨h4, hz2⟩)))
            clear HT hz hz2 h4
            go_wp2_with fail
            go_roundg (N - (i + 1))
            case measure => omega
            case rel => exact ⟨i + 1, f, by omega, rfl, by simp, q, by rw [HN2.out]; exact hE⟩
          have dz2 : decide (z2 < (0 : Int)) = false := by simpa using hz2
          have HN2 := Lib.hid (HT.out.trans (if_neg (fun hc => hc.elim (fun h0 => by omega) fun hc => by have := hc.2; omega)))
          clear HT hz hz2 h4
          have ha : Below wr.heap.size wr (wr.alloc (.cells #[.string (bs e.path), .int .i64 e.kind, .int .i64 e.mode, .int .i64 e.uid, .int .i64 e.gid, .string (bs e.owner), .string (bs e.group), .int .i64 e.mtime, .string (bs e.link), .slice Ad e.data.length capd] tE)) := (Below.refl _ _).alloc (Nat.le_refl _) _
          have bN := Blk.new wr tE #[.string (bs e.path), .int .i64 e.kind, .int .i64 e.mode, .int .i64 e.uid, .int .i64 e.gid, .string (bs e.owner), .string (bs e.group), .int .i64 e.mtime, .string (bs e.link), .slice Ad e.data.length capd]
          have hEa := hE.below ha
          have qa := below_trans q ha
          have hdva := Below.sl good_byte ha hdv
          clear hE
          go_wp2_with (at_builtin; revert hTn)
          intro hTn
          refine wpList_appendEQ (v := .slice A7 n7 cap7) (w := wr.alloc (.cells #[.string (bs e.path), .int .i64 e.kind, .int .i64 e.mode, .int .i64 e.uid, .int .i64 e.gid, .string (bs e.owner), .string (bs e.group), .int .i64 e.mtime, .string (bs e.link), .slice Ad e.data.length capd] tE)) (M := [e]) (g := fun _ => .slice Ad e.data.length capd) (A := some ⟨wr.heap.size, 0, none⟩) (c := 1) rfl _ _ rfl rfl hEa rfl (fun h => by cases h) (fun _ => ⟨_, rfl, fun j uu hu => ?_⟩) (fun j hj => ?_) (by rw [HTL.out]; simp; omega) qa.size ?_
          · rw [Addr.add_lit, bN.cell, Nat.zero_add]
            rw [ofC_single, entC] at hu
            simpa using hu
          · match j, hj with
            | 0, _ => exact hdva
          intro v5 w5 h5 hk5 _
          have q5 := qa.trans (hk5.below qa.size fun bb _ h4 => (hEa.row.lt bb h4).1)
          obtain ⟨F, h6⟩ : ∃ F, EQ w3.heap.size w5 v5 (turnK l o (i + 1)) F := ⟨_, by rw [HN2.out]; exact h5⟩
          clear hk5 h5 hEa ha bN qa hdva hdv c0 c1 c2 c3 c4 c5 c6 c7 c8 c9 HN2
          go_wp2_with fail
          go_roundg (N - (i + 1))
          case measure => omega
          case rel => exact ⟨i + 1, F, by omega, rfl, by simp, q5, h6⟩
        have n4 : (e.kind == 4) = false := by simpa using h4
        have HN2 := Lib.hid (HT.out.trans (if_neg (fun hc => hc.elim (fun h0 => by omega) fun hc => h4 hc.1)))
        clear HT hz h4
        have ha : Below wr.heap.size wr (wr.alloc (.cells #[.string (bs e.path), .int .i64 e.kind, .int .i64 e.mode, .int .i64 e.uid, .int .i64 e.gid, .string (bs e.owner), .string (bs e.group), .int .i64 e.mtime, .string (bs e.link), .slice Ad e.data.length capd] tE)) := (Below.refl _ _).alloc (Nat.le_refl _) _
        have bN := Blk.new wr tE #[.string (bs e.path), .int .i64 e.kind, .int .i64 e.mode, .int .i64 e.uid, .int .i64 e.gid, .string (bs e.owner), .string (bs e.group), .int .i64 e.mtime, .string (bs e.link), .slice Ad e.data.length capd]
        have hEa := hE.below ha
        have qa := below_trans q ha
        have hdva := Below.sl good_byte ha hdv
        clear hE
        go_wp2_with (at_builtin; revert hTn)
        intro hTn
        refine wpList_appendEQ (v := .slice A7 n7 cap7) (w := wr.alloc (.cells #[.string (bs e.path), .int .i64 e.kind, .int .i64 e.mode, .int .i64 e.uid, .int .i64 e.gid, .string (bs e.owner), .string (bs e.group), .int .i64 e.mtime, .string (bs e.link), .slice Ad e.data.length capd] tE)) (M := [e]) (g := fun _ => .slice Ad e.data.length capd) (A := some ⟨wr.heap.size, 0, none⟩) (c := 1) rfl _ _ rfl rfl hEa rfl (fun h => by cases h) (fun _ => ⟨_, rfl, fun j uu hu => ?_⟩) (fun j hj => ?_) (by rw [HTL.out]; simp; omega) qa.size ?_
        · rw [Addr.add_lit, bN.cell, Nat.zero_add]
          rw [ofC_single, entC] at hu
          simpa using hu
        · match j, hj with
          | 0, _ => exact hdva
        intro v5 w5 h5 hk5 _
        have q5 := qa.trans (hk5.below qa.size fun bb _ h4 => (hEa.row.lt bb h4).1)
        obtain ⟨F, h6⟩ : ∃ F, EQ w3.heap.size w5 v5 (turnK l o (i + 1)) F := ⟨_, by rw [HN2.out]; exact h5⟩
        clear hk5 h5 hEa ha bN qa hdva hdv c0 c1 c2 c3 c4 c5 c6 c7 c8 c9 HN2
        go_wp2_with fail
        go_roundg (N - (i + 1))
        case measure => omega
        case rel => exact ⟨i + 1, F, by omega, rfl, by simp, q5, h6⟩
      · have dio : decide ((i : Int) < (o.length : Int)) = false := by simp; omega
        obtain ⟨kk, hkk⟩ : ∃ kk : Int, (i : Int) - o.length = kk := ⟨_, rfl⟩
        have HT := Lib.hid (show turnK l o (i + 1) = takeT l T kk by rw [HT.out, ordK, List.getElem?_eq_none (by omega), ← hkk])
        have hwk : IntKind.i64.wrap ((i : Int) - o.length) = kk := by rw [i64_in _ (by omega) (by omega)]; exact hkk
        clear hkk
        go_upto_region 15 with fail
        clear dio hio hwk
        by_cases k0 : kk < 0
        · have d0 : decide (kk < 0) = true := by simpa using k0
          have HN2 := Lib.hid (show turnK l o (i + 1) = T by rw [HT.out, takeT, if_pos (.inl k0)])
          clear HT k0
          go_wp2_with fail
          go_roundg (N - (i + 1))
          case measure => omega
          case rel => exact ⟨i + 1, f, by omega, rfl, by simp, q, by rw [HN2.out]; exact hE⟩
        have d0 : decide (kk < 0) = false := by simpa using k0
        by_cases k1 : (l.length : Int) ≤ kk
        · have d1 : decide ((l.length : Int) ≤ kk) = true := by simpa using k1
          have HN2 := Lib.hid (show turnK l o (i + 1) = T by rw [HT.out, takeT, if_pos (.inr k1)])
          clear HT k1
          go_wp2_with fail
          go_roundg (N - (i + 1))
          case measure => omega
          case rel => exact ⟨i + 1, f, by omega, rfl, by simp, q, by rw [HN2.out]; exact hE⟩
        have d1 : decide ((l.length : Int) ≤ kk) = false := by simpa using k1
        obtain ⟨m, rfl⟩ : ∃ m : Nat, kk = (m : Int) := ⟨kk.toNat, by omega⟩
        have hml : m < l.length := by omega
        have d1' : decide (l.length ≤ m) = false := by simp; omega
        have hslr := hslH.keep good_ent (kept_new q)
        obtain ⟨b, off, rfl, hbX, hcj⟩ := hslr.ent (by omega)
        obtain ⟨dv, hat, hdv⟩ := hcj m hml
        obtain ⟨Ad, capd, rfl, _, _⟩ := hdv.form
        obtain ⟨e, He⟩ : ∃ e, Hid (l[m] = e) := ⟨_, Lib.hid rfl⟩
        have HT := Lib.hid (show turnK l o (i + 1) = if 0 ≤ fndE e.path T 0 ∨ (e.kind = 4 ∧ fndE e.link T 0 < 0) then T else T ++ [e] by
          rw [HT.out, takeT, if_neg (by omega), Int.toNat_natCast, List.getElem?_eq_getElem hml, He.out])
        rw [He.out] at hat hdv
        clear hslr hcj k0 k1
        obtain ⟨c0, c1, c2, c3, c4, c5, c6, c7, c8, c9⟩ := hat
        have m1 : (0 : Int) ≤ (m : Int) := by omega
        have m2 : (m : Int) < (l.length : Int) := by omega
        go_wp2_with fail
        refine (rfind_any T e.path _ nowhere _ (by have := hE.eo.sl; exact this)).mono ?_
        rintro r w4 ⟨rfl, rfl⟩
        generalize fndE e.path T 0 = z at HT
        by_cases hz : 0 ≤ z
        · have dz : decide ((0 : Int) ≤ z) = true := by simpa using hz
          have HN2 := Lib.hid (HT.out.trans (if_pos (.inl hz)))
          clear HT hz
          go_wp2_with fail
          go_roundg (N - (i + 1))
          case measure => omega
          case rel => exact ⟨i + 1, f, by omega, rfl, by simp, q, by rw [HN2.out]; exact hE⟩
        have dz : decide ((0 : Int) ≤ z) = false := by simpa using hz
        by_cases h4 : e.kind = 4
        · have n4 : (e.kind == 4) = true := by simpa using h4
          go_wp2_with fail
          refine (rfind_any T e.link _ nowhere _ (by have := hE.eo.sl; exact this)).mono ?_
          rintro r w4 ⟨rfl, rfl⟩
          generalize fndE e.link T 0 = z2 at HT
          by_cases hz2 : z2 < 0
          · have dz2 : decide (z2 < (0 : Int)) = true := by simpa using hz2
            have HN2 := Lib.hid (HT.out.trans (if_pos (.inr ⟨h4, hz2⟩)))
            clear HT hz hz2 h4
            go_wp2_with fail
            go_roundg (N - (i + 1))
            case measure => omega
            case rel => exact ⟨i + 1, f, by omega, rfl, by simp, q, by rw [HN2.out]; exact hE⟩
          have dz2 : decide (z2 < (0 : Int)) = false := by simpa using hz2
          have HN2 := Lib.hid (HT.out.trans (if_neg (fun hc => hc.elim (fun h0 => by omega) fun hc => by have := hc.2; omega)))
          clear HT hz hz2 h4
          have ha : Below wr.heap.size wr (wr.alloc (.cells #[.string (bs e.path), .int .i64 e.kind, .int .i64 e.mode, .int .i64 e.uid, .int .i64 e.gid, .string (bs e.owner), .string (bs e.group), .int .i64 e.mtime, .string (bs e.link), .slice Ad e.data.length capd] tE)) := (Below.refl _ _).alloc (Nat.le_refl _) _
          have bN := Blk.new wr tE #[.string (bs e.path), .int .i64 e.kind, .int .i64 e.mode, .int .i64 e.uid, .int .i64 e.gid, .string (bs e.owner), .string (bs e.group), .int .i64 e.mtime, .string (bs e.link), .slice Ad e.data.length capd]
          have hEa := hE.below ha
          have qa := below_trans q ha
          have hdva := Below.sl good_byte ha hdv
          clear hE
          go_wp2_with (at_builtin; revert hTn)
          intro hTn
          refine wpList_appendEQ (v := .slice A7 n7 cap7) (w := wr.alloc (.cells #[.string (bs e.path), .int .i64 e.kind, .int .i64 e.mode, .int .i64 e.uid, .int .i64 e.gid, .string (bs e.owner), .string (bs e.group), .int .i64 e.mtime, .string (bs e.link), .slice Ad e.data.length capd] tE)) (M := [e]) (g := fun _ => .slice Ad e.data.length capd) (A := some ⟨wr.heap.size, 0, none⟩) (c := 1) rfl _ _ rfl rfl hEa rfl (fun h => by cases h) (fun _ => ⟨_, rfl, fun j uu hu => ?_⟩) (fun j hj => ?_) (by rw [HTL.out]; simp; omega) qa.size ?_
          · rw [Addr.add_lit, bN.cell, Nat.zero_add]
            rw [ofC_single, entC] at hu
            simpa using hu
          · match j, hj with
            | 0, _ => exact hdva
          intro v5 w5 h5 hk5 _
          have q5 := qa.trans (hk5.below qa.size fun bb _ h4 => (hEa.row.lt bb h4).1)
          obtain ⟨F, h6⟩ : ∃ F, EQ w3.heap.size w5 v5 (turnK l o (i + 1)) F := ⟨_, by rw [HN2.out]; exact h5⟩
          clear hk5 h5 hEa ha bN qa hdva hdv c0 c1 c2 c3 c4 c5 c6 c7 c8 c9 HN2
          go_wp2_with fail
          go_roundg (N - (i + 1))
          case measure => omega
          case rel => exact ⟨i + 1, F, by omega, rfl, by simp, q5, h6⟩
        have n4 : (e.kind == 4) = false := by simpa using h4
        have HN2 := Lib.hid (HT.out.trans (if_neg (fun hc => hc.elim (fun h0 => by omega) fun hc => h4 hc.1)))
        clear HT hz h4
        have ha : Below wr.heap.size wr (wr.alloc (.cells #[.string (bs e.path), .int .i64 e.kind, .int .i64 e.mode, .int .i64 e.uid, .int .i64 e.gid, .string (bs e.owner), .string (bs e.group), .int .i64 e.mtime, .string (bs e.link), .slice Ad e.data.length capd] tE)) := (Below.refl _ _).alloc (Nat.le_refl _) _
        have bN := Blk.new wr tE #[.string (bs e.path), .int .i64 e.kind, .int .i64 e.mode, .int .i64 e.uid, .int .i64 e.gid, .string (bs e.owner), .string (bs e.group), .int .i64 e.mtime, .string (bs e.link), .slice Ad e.data.length capd]
        have hEa := hE.below ha
        have qa := below_trans q ha
        have hdva := Below.sl good_byte ha hdv
        clear hE
        go_wp2_with (at_builtin; revert hTn)
        intro hTn
        refine wpList_appendEQ (v := .slice A7 n7 cap7) (w := wr.alloc (.cells #[.string (bs e.path), .int .i64 e.kind, .int .i64 e.mode, .int .i64 e.uid, .int .i64 e.gid, .string (bs e.owner), .string (bs e.group), .int .i64 e.mtime, .string (bs e.link), .slice Ad e.data.length capd] tE)) (M := [e]) (g := fun _ => .slice Ad e.data.length capd) (A := some ⟨wr.heap.size, 0, none⟩) (c := 1) rfl _ _ rfl rfl hEa rfl (fun h => by cases h) (fun _ => ⟨_, rfl, fun j uu hu => ?_⟩) (fun j hj => ?_) (by rw [HTL.out]; simp; omega) qa.size ?_
        · rw [Addr.add_lit, bN.cell, Nat.zero_add]
          rw [ofC_single, entC] at hu
          simpa using hu
        · match j, hj with
          | 0, _ => exact hdva
        intro v5 w5 h5 hk5 _
        have q5 := qa.trans (hk5.below qa.size fun bb _ h4 => (hEa.row.lt bb h4).1)
        obtain ⟨F, h6⟩ : ∃ F, EQ w3.heap.size w5 v5 (turnK l o (i + 1)) F := ⟨_, by rw [HN2.out]; exact h5⟩
        clear hk5 h5 hEa ha bN qa hdva hdv c0 c1 c2 c3 c4 c5 c6 c7 c8 c9 HN2
        go_wp2_with fail
        go_roundg (N - (i + 1))
        case measure => omega
        case rel => exact ⟨i + 1, F, by omega, rfl, by simp, q5, h6⟩
end Go.Proofs.YtjhikglgaoncjaaDoor
