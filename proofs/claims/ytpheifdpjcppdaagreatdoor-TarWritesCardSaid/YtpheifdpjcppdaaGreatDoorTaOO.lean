/- The walk of the document's one (tar), style 0. Printed by gen_tao.py. The walk of the document's one (tar), style 1. Printed by gen_tao.py. The walk of the document's one (tar), style 2. Printed by gen_tao.py. -/
import Derived.Test.YtpheifdpjcppdaaGreatDoorTaNO
import Derived.Test.YtpheifdpjcppdaaGreatDoorPlaF
namespace Go.Proofs.YtpheifdpjcppdaaGreatDoor
open Go.RowKit
theorem emp_app (x : ByteArray) : (⟨#[]⟩ : ByteArray) ++ x = x := ByteArray.empty_append
set_option maxRecDepth 20000 in
set_option maxHeartbeats 16000000 in
theorem rone0_any (e : En) (A : Option Addr) (cap : Nat) (w : World) (HF : Fx e) (HH : NoHead e) :
    Calls Tryz.prog 22 #[entV e (.slice A e.data.length cap), .int .i64 0] w fun r w' => r = .returned (.string (bs (oneT 0 e))) ∧ Below w.heap.size w w' := by
  obtain ⟨path, kind, mode, uid, gid, owner, group, mtime, link, data⟩ := e
  obtain ⟨k1, k2, m1, m2, u1, u2, g1, g2, t1, t2, p1, p2, l2, hnd, hnl, d2, o2, q2⟩ := id HF
  dsimp only at k1 k2 m1 m2 u1 u2 g1 g2 t1 t2 p1 p2 l2 hnd hnl d2 o2 q2
  obtain ⟨mo, rfl⟩ := Int.eq_ofNat_of_zero_le m1
  obtain ⟨ui, rfl⟩ := Int.eq_ofNat_of_zero_le u1
  obtain ⟨gi, rfl⟩ := Int.eq_ofNat_of_zero_le g1
  obtain ⟨ti, rfl⟩ := Int.eq_ofNat_of_zero_le t1
  obtain ⟨E, HE⟩ : ∃ E : En, Hid (E = ⟨path, kind, mo, ui, gi, owner, group, ti, link, data⟩) := ⟨_, Lib.hid rfl⟩
  have HKD : Hid (E.kind = kind ∧ E.path = path ∧ E.link = link ∧ E.data = data) := Lib.hid (by rw [HE.out]; exact ⟨rfl, rfl, rfl, rfl⟩)
  have hnm := nameT_le HF
  rw [← HE.out] at HF HH hnm
  have HR : Hid (oneT 0 E = if (0 : Nat) = 0 ∧ badU E = true then [] else aheadT 0 E ++ headT 0 E) := Lib.hid rfl
  obtain ⟨R, HRR⟩ : ∃ R, Hid (oneT 0 E = R) := ⟨_, Lib.hid rfl⟩
  have hg : oneT 0 ⟨path, kind, mo, ui, gi, owner, group, ti, link, data⟩ = R := by rw [← HE.out, HRR.out]
  rw [HRR.out] at HR
  rw [hg]
  clear hg
  -- a head of this entry
  have HBK : Hid (∀ (n p : List UInt8) (gnu : Bool) (W : World), n.length ≤ 100 → p.length ≤ 155 → Calls Tryz.prog 41 #[.string (bs n), .agg #[.string (bs path), .int .i64 kind, .int .i64 mo, .int .i64 ui, .int .i64 gi, .string (bs owner), .string (bs group), .int .i64 ti, .string (bs link), .slice A data.length cap], .int .i64 (data.length : Int), .string (bs [kindU kind]), .string (bs (link.take 100)), .bool gnu, .string (bs p)] W fun r w' => r = .returned (.string (bs (blockB ⟨n, p, link.take 100, mo, ui, gi, data.length, ti, kindU kind, owner, group⟩ gnu))) ∧ Below W.heap.size W w') :=
    Lib.hid fun n p gnu W hn hp => rblock_any path owner group link n (link.take 100) p kind (.slice A data.length cap) mo ui gi ti data.length (kindU kind) gnu W hn (by rw [List.length_take]; omega) hp (by omega) (by omega) (by omega) (by omega) (by omega) (by omega) (by omega)
  have HBE : Hid (∀ (n p n' : List UInt8) (gnu : Bool), n.take 100 = n'.take 100 → blockB ⟨n, p, link.take 100, mo, ui, gi, data.length, ti, kindU kind, owner, group⟩ gnu = blockB (hdH E n' p) gnu) := Lib.hid fun n p n' gnu hn => by
    rw [HE.out]
    exact blockB_first (hdH ⟨path, kind, mo, ui, gi, owner, group, ti, link, data⟩ n' p) gnu n (link.take 100) hn (by rw [List.take_take]; rfl)
  have HBL : Hid (∀ (n p : List UInt8) (gnu : Bool), (blockB (hdH E n p) gnu).length = 512) := Lib.hid fun n p gnu => blockB_len (hdH_ok HF n p) gnu
  clear HE
  obtain ⟨N, HN⟩ : ∃ N, Hid (N = nameT E) := ⟨_, Lib.hid rfl⟩
  rw [← HN.out] at hnm
  unfold entV
  dsimp only
  go_enter Tryz.func22, Tryz.ntmps22
  go_upto_region 2 with fail
  have bE := Blk.new w 41 #[.string (bs path), .int .i64 kind, .int .i64 mo, .int .i64 ui, .int .i64 gi, .string (bs owner), .string (bs group), .int .i64 ti, .string (bs link), .slice A data.length cap]
  have hbw := (Below.refl w.heap.size w).alloc (Nat.le_refl _) (.cells #[.string (bs path), .int .i64 kind, .int .i64 mo, .int .i64 ui, .int .i64 gi, .string (bs owner), .string (bs group), .int .i64 ti, .string (bs link), .slice A data.length cap] 41)
  generalize w.alloc (.cells #[.string (bs path), .int .i64 kind, .int .i64 mo, .int .i64 ui, .int .i64 gi, .string (bs owner), .string (bs group), .int .i64 ti, .string (bs link), .slice A data.length cap] 41) = W0 at bE hbw ⊢
  generalize w.heap.size = g at bE ⊢
  obtain ⟨d0, d1, d2', d3, d4, d5, d6, d7, d8, d9⟩ := bE.cells10
  go_upto_if 14 with fail
  go_cut [5, 6] (fun s5 s6 wx => s5 = .string (bs (if kind = 2 then [53] else [48])) ∧ s6 = .string (bs N) ∧ W0 = wx)
  case first =>
    have x1 : ¬ 9223372036854775807 < path.length + 1 := by omega
    have zp := bs_size path
    by_cases h2 : kind = 2
    · have q : (kind == 2) = true := by simpa using h2
      have HN2 : Hid (bs N = bs path ++ ⟨#[47]⟩) := Lib.hid (by rw [HN.out, nameT, if_pos (by rw [HKD.out.1]; exact h2), HKD.out.2.1]; exact bs_app path [47])
      have HV : Hid (bs (if kind = 2 then [53] else [48]) = ⟨#[53]⟩) := Lib.hid (by rw [if_pos h2]; rfl)
      clear h2
      go_wp2_with fail
      go_meet
      exact ⟨by rw [HV.out], by rw [HN2.out], rfl⟩
    · have q : (kind == 2) = false := by simpa using h2
      have HN2 : Hid (N = path) := Lib.hid (by rw [HN.out, nameT, if_neg (by rw [HKD.out.1]; exact h2), HKD.out.2.1])
      have HV : Hid (bs (if kind = 2 then [53] else [48]) = ⟨#[48]⟩) := Lib.hid (by rw [if_neg h2]; rfl)
      clear h2
      go_wp2_with fail
      go_meet
      exact ⟨by rw [HV.out], by rw [HN2.out], rfl⟩
  case rest =>
   obtain ⟨rfl, rfl, rfl⟩ := hcut
   obtain ⟨T5, HT5⟩ : ∃ T, Hid (bs (if kind = 2 then [53] else [48]) = T) := ⟨_, Lib.hid rfl⟩
   rw [HT5.out]
   go_upto_if 19 with fail
   go_cut [5] (fun s5 wx => s5 = .string (if kind = 3 then ⟨#[50]⟩ else T5) ∧ W0 = wx)
   case first =>
    by_cases h2 : kind = 3
    · have q : (kind == 3) = true := by simpa using h2
      have HV : Hid ((if kind = 3 then ⟨#[50]⟩ else T5 : ByteArray) = ⟨#[50]⟩) := Lib.hid (by rw [if_pos h2])
      clear h2
      go_wp2_with fail
      go_meet
      exact ⟨by rw [HV.out], rfl⟩
    · have q : (kind == 3) = false := by simpa using h2
      have HV : Hid ((if kind = 3 then ⟨#[50]⟩ else T5 : ByteArray) = T5) := Lib.hid (by rw [if_neg h2])
      clear h2
      go_wp2_with fail
      go_meet
      exact ⟨by rw [HV.out], rfl⟩
   case rest =>
    obtain ⟨rfl, rfl⟩ := hcut
    obtain ⟨T6, HT6⟩ : ∃ T, Hid ((if kind = 3 then ⟨#[50]⟩ else T5 : ByteArray) = T) := ⟨_, Lib.hid rfl⟩
    rw [HT6.out]
    go_upto_if 22 with fail
    go_cut [5] (fun s5 wx => s5 = .string (if kind = 4 then ⟨#[49]⟩ else T6) ∧ W0 = wx)
    case first =>
     by_cases h2 : kind = 4
     · have q : (kind == 4) = true := by simpa using h2
       have HV : Hid ((if kind = 4 then ⟨#[49]⟩ else T6 : ByteArray) = ⟨#[49]⟩) := Lib.hid (by rw [if_pos h2])
       clear h2
       go_wp2_with fail
       go_meet
       exact ⟨by rw [HV.out], rfl⟩
     · have q : (kind == 4) = false := by simpa using h2
       have HV : Hid ((if kind = 4 then ⟨#[49]⟩ else T6 : ByteArray) = T6) := Lib.hid (by rw [if_neg h2])
       clear h2
       go_wp2_with fail
       go_meet
       exact ⟨by rw [HV.out], rfl⟩
    case rest =>
     obtain ⟨rfl, rfl⟩ := hcut
     have hT7 : (if kind = 4 then ⟨#[49]⟩ else T6 : ByteArray) = bs [kindU kind] := by
      rw [← HT6.out, ← HT5.out, kindU]
      by_cases a1 : kind = 1
      · rw [a1]; rfl
      · by_cases a2 : kind = 2
        · rw [a2]; rfl
        · by_cases a3 : kind = 3
          · rw [a3]; rfl
          · have a4 : kind = 4 := by omega
            rw [a4]; rfl
     rw [hT7]
     clear hT7 HT5 HT6
     have zn := bs_size N
     have zl := bs_size link
     have rp := fun W => rpart_any N W (by omega)
     have rf1 := fun W => rfirst_any N W (by omega)
     have rf2 := fun W => rfirst_any link W (by omega)
     have HBK0 : Hid (∀ W (n : List UInt8) (kk : UInt8) (sz : Nat) (gnu : Bool), n.length ≤ 100 → sz ≤ 10000 → Calls Tryz.prog 41 #[.string (bs n), .agg #[.string ⟨#[]⟩, .int .i64 0, .int .i64 0, .int .i64 0, .int .i64 0, .string ⟨#[]⟩, .string ⟨#[]⟩, .int .i64 0, .string ⟨#[]⟩, .slice none 0 0], .int .i64 (sz : Int), .string (bs [kk]), .string ⟨#[]⟩, .bool gnu, .string ⟨#[]⟩] W fun r w' => r = .returned (.string (bs (blockB (tellH n kk sz) gnu))) ∧ Below W.heap.size W w') :=
      Lib.hid fun W n kk sz gnu hn hsz => rblock_any [] [] [] [] n [] [] 0 (.slice none 0 0) 0 0 0 0 sz kk gnu W hn (by simp) (by simp) (by simp) (by simp) (by omega) (by omega) (by omega) (by omega) (by omega)
     obtain ⟨P, HP⟩ : ∃ P, Hid (P = partT N) := ⟨_, Lib.hid rfl⟩
     obtain ⟨PI, HPI⟩ : ∃ P, Hid (partI N = P) := ⟨_, Lib.hid rfl⟩
     rw [HPI.out] at rp
     rcases P with _ | ⟨p0, r0⟩
     · have hPI : PI = -1 := by rw [← HPI.out]; exact partI_neg HP.out.symm
       have HB : Hid (R = []) := Lib.hid (by rw [HR.out, if_pos ⟨rfl, by rw [badU, ← HN.out, ← HP.out]; rfl⟩])
       have q1 : decide (PI < 0) = true := by rw [hPI]; rfl
       have q2 : PI < 0 := by omega
       clear hPI HPI HP
       go_wp2_with (go_at_call 40; refine (rp _).mono ?_; clear rp; rintro r W1 ⟨rfl, rfl⟩)
       go_ret
       exact ⟨by rw [HB.out]; rfl, hbw⟩
     · have hPI0 : 0 ≤ PI := by
         rw [← HPI.out]
         by_cases hN : 100 < N.length
         · rw [partI_some HP.out.symm hN]; omega
         · rw [partI_low (by omega)]; omega
       have q1 : decide (PI < 0) = false := decide_eq_false (by omega)
       have q2 : ¬ PI < 0 := by omega
       by_cases h1 : 100 < link.length
       · have HB : Hid (R = []) := Lib.hid (by rw [HR.out, if_pos ⟨rfl, by rw [badU, HKD.out.2.2.1, decide_eq_true h1, Bool.or_true]⟩])
         have q : decide ((100 : Int) < (link.length : Int)) = true := decide_eq_true (by omega)
         have q3 : (100 : Int) < (link.length : Int) := by omega
         clear HPI HP h1 hPI0
         go_wp2_with (go_at_call 40; refine (rp _).mono ?_; clear rp; rintro r W1 ⟨rfl, rfl⟩)
         go_ret
         exact ⟨by rw [HB.out]; rfl, hbw⟩
       have q : decide ((100 : Int) < (link.length : Int)) = false := decide_eq_false (by omega)
       have q3 : ¬ (100 : Int) < (link.length : Int) := by omega
       have HRA : Hid (R = [] ++ headT 0 E) := Lib.hid (by
         rw [HR.out, if_neg, aheadT, if_pos rfl]
         intro h
         have := h.2
         rw [badU, HKD.out.2.2.1, decide_eq_false h1, ← HN.out, ← HP.out] at this
         cases this)
       clear h1
       go_upto_if 104 with (go_at_call 40; refine (rp _).mono ?_; clear rp; rintro r W1 ⟨rfl, rfl⟩)
       clear q1 q2 q q3 d0 d1 d2' d3 d4 d5 d6 d7 d8 d9 hPI0 HR
       obtain ⟨A2, HA2⟩ : ∃ L : List UInt8, Hid ([] = L) := ⟨_, Lib.hid rfl⟩
       rw [HA2.out] at HRA
       obtain ⟨P, HPE⟩ : ∃ P, Hid (P = some (p0, r0)) := ⟨_, Lib.hid rfl⟩
       have hPN : P ≠ none := by rw [HPE.out]; simp
       rw [← HPE.out] at HP
       have hA2 : A2.length ≤ 6000 := by rw [← HA2.out]; simp
       have zA2 := bs_size A2
       have bE2 := bE
       have hbw2 := hbw
       clear bE hbw HPE
       generalize W0 = W2 at bE2 hbw2 ⊢
       obtain ⟨d0, d1, d2', d3, d4, d5, d6, d7, d8, d9⟩ := bE2.cells10
       by_cases hN : 100 < N.length
       · rcases P with _ | ⟨p, r⟩
         · exact absurd hPN (by simp)
         · have hcut := partT_cut HP.out.symm hN
           obtain ⟨hp1, hp2, hp3, hp4, hp5⟩ := hcut
           have hp0 := HH p r (by rw [← HN.out]; exact HP.out.symm) (by rw [← HN.out]; exact hN)
           have hPI : PI = (p.length : Int) := by rw [← HPI.out]; exact partI_some HP.out.symm hN
           subst hPI
           have q1 : decide ((p.length : Int) > 0) = true := decide_eq_true (by omega)
           have q1b : 0 < p.length := hp0
           have hxp : (bs N).extract 0 p.length = bs p := by rw [ext_take (bs N) _ (by rw [zn]; omega), bs_list, ← hp1]
           have hxr : (bs N).extract (p.length + 1) N.length = bs r := by
             have := ext_drop (bs N) (p.length + 1)
             rw [zn, bs_list, ← hp2] at this
             exact this
           have HHT : Hid (headT 0 E = blockB (hdH E r p) false) := Lib.hid (by rw [headT, if_neg (by decide), ← HN.out, ← HP.out]; rfl)
           clear hp1 hp2 HH HP HPI
           have HV : Hid (bs R = bs (blockB (hdH E r p) false)) := Lib.hid (by rw [HRA.out, HHT.out, ← HA2.out, List.nil_append])
           have cb := fun W => HBK.out r p false W (by omega) (by omega)
           rw [HBE.out r p r false rfl] at cb
           have z1 : (bs (blockB (hdH E r p) false)).size = 512 := by rw [bs_size]; exact HBL.out r p false
           generalize bs (blockB (hdH E r p) false) = X1 at cb z1 HV
           generalize bs (link.take 100) = F2 at cb rf2
           generalize bs [kindU kind] = F3 at cb ⊢
           generalize bs p = F4 at cb hxp
           generalize bs r = F5 at cb hxr
           generalize p.length = m at *
           clear hA2 zA2 HA2 HRA
           have i1 : (0 : Int) ≤ (m : Int) := by omega
           have i2 : (0 : Int) ≤ (m : Int) + 1 := by omega
           have i3 : (m : Int) + 1 ≤ (N.length : Int) := by omega
           have i4 : (m : Int) ≤ (N.length : Int) := by omega
           have i5 : ((m : Int) + 1).toNat = m + 1 := by omega
           have wm : IntKind.i64.wrap ((m : Int) + 1) = (m : Int) + 1 := i64_in _ (by omega) (by omega)
           clear HBK HBE HBL HBK0
           go_upto_region 28 with fail
           have KS : ∀ W', Below W2.heap.size W2 W' → (fun W => W.cell? ⟨g, 0, none⟩ = some (.string (bs path)) ∧ W.cell? ⟨g, 1, none⟩ = some (.int .i64 kind) ∧ W.cell? ⟨g, 2, none⟩ = some (.int .i64 mo) ∧ W.cell? ⟨g, 3, none⟩ = some (.int .i64 ui) ∧ W.cell? ⟨g, 4, none⟩ = some (.int .i64 gi) ∧ W.cell? ⟨g, 5, none⟩ = some (.string (bs owner)) ∧ W.cell? ⟨g, 6, none⟩ = some (.string (bs group)) ∧ W.cell? ⟨g, 7, none⟩ = some (.int .i64 ti) ∧ W.cell? ⟨g, 8, none⟩ = some (.string (bs link)) ∧ W.cell? ⟨g, 9, none⟩ = some (.slice A data.length cap)) W' := fun W' hb => by
             have q := Kept.of_below hb nowhere
             exact ⟨q.cell d0 fun h => h, q.cell d1 fun h => h, q.cell d2' fun h => h, q.cell d3 fun h => h, q.cell d4 fun h => h, q.cell d5 fun h => h, q.cell d6 fun h => h, q.cell d7 fun h => h, q.cell d8 fun h => h, q.cell d9 fun h => h⟩
           refine wp_region_plan (fun W => W.cell? ⟨g, 0, none⟩ = some (.string (bs path)) ∧ W.cell? ⟨g, 1, none⟩ = some (.int .i64 kind) ∧ W.cell? ⟨g, 2, none⟩ = some (.int .i64 mo) ∧ W.cell? ⟨g, 3, none⟩ = some (.int .i64 ui) ∧ W.cell? ⟨g, 4, none⟩ = some (.int .i64 gi) ∧ W.cell? ⟨g, 5, none⟩ = some (.string (bs owner)) ∧ W.cell? ⟨g, 6, none⟩ = some (.string (bs group)) ∧ W.cell? ⟨g, 7, none⟩ = some (.int .i64 ti) ∧ W.cell? ⟨g, 8, none⟩ = some (.string (bs link)) ∧ W.cell? ⟨g, 9, none⟩ = some (.slice A data.length cap)) [(false, 0), (false, 1), (false, 2), (false, 3), (false, 4), (false, 5), (false, 6), (false, 7), (false, 8), (false, 9), (false, 10), (false, 11), (false, 12), (false, 13), (false, 14), (false, 15), (true, 16), (false, 17), (false, 18)] (by kernel_rfl) (by kernel_rfl) (KS _ ((Below.refl _ W2).drew)) ?_
           simp only [planOps, List.map, List.getD_cons_zero, List.getD_cons_succ]
           iterate 16 ((first | refine plan_quiet (v := ?_) rfl rfl (fun w' hw' => ?_) ?_ | refine plan_calm (v := ?_) (tt_of) rfl (fun w' hw' => ?_) ?_); rotate_left; (focus (go_simp <;> (first | with_reducible rfl | (rw [if_neg (by simp [undef])]; try rfl) | (refine (rf2 _).mono ?_; rintro e w2 ⟨rfl, rfl⟩; constructor <;> with_reducible rfl)))); simp only [Act.put, List.setIfInBounds_toArray, List.set_cons_zero, List.set_cons_succ])
           refine plan_loud rfl (fun K hK => ?_)
           go_simp
           have hz0 := (Below.refl W2.heap.size W2).drew
           refine (cb _).mono ?_
           rintro r Z1 ⟨rfl, hz⟩
           go_simp
           have hz1 := hz0.trans (hz.mono hz0.size)
           refine hK _ _ (KS _ hz1) ?_
           clear hK K
           (try simp only [Act.put, List.setIfInBounds_toArray, List.set_cons_zero, List.set_cons_succ])
           iterate 2 ((first | refine plan_quiet (v := ?_) rfl rfl (fun w' hw' => ?_) ?_ | refine plan_calm (v := ?_) (tt_of) rfl (fun w' hw' => ?_) ?_); rotate_left; (focus (go_simp <;> (first | with_reducible rfl | (rw [if_neg (by simp [undef])]; try rfl) | (refine (rf2 _).mono ?_; rintro e w2 ⟨rfl, rfl⟩; constructor <;> with_reducible rfl)))); simp only [Act.put, List.setIfInBounds_toArray, List.set_cons_zero, List.set_cons_succ])
           refine plan_end ?_
           go_wp2_with fail
           rw [emp_app X1]
           go_ret
           exact ⟨by rw [HV.out]; rfl, hbw2.trans (hz1.mono hbw2.size)⟩
       · have hPI : PI = 0 := by rw [← HPI.out]; exact partI_low (by omega)
         subst hPI
         have HHT : Hid (headT 0 E = blockB (hdH E N []) false) := Lib.hid (by rw [headT, if_neg (by decide), ← HN.out, partT_low (by omega)]; rfl)
         clear HP HPI
         have HV : Hid (bs R = bs (blockB (hdH E N []) false)) := Lib.hid (by rw [HRA.out, HHT.out, ← HA2.out, List.nil_append])
         have cb := fun W => HBK.out (N.take 100) [] false W (by rw [List.length_take]; omega) (by simp)
         rw [HBE.out (N.take 100) [] N false (by rw [List.take_take]; rfl)] at cb
         have z1 : (bs (blockB (hdH E N []) false)).size = 512 := by rw [bs_size]; exact HBL.out N [] false
         generalize bs (blockB (hdH E N []) false) = X1 at cb z1 HV
         generalize bs (N.take 100) = F1 at cb rf1
         generalize bs (link.take 100) = F2 at cb rf2
         generalize bs [kindU kind] = F3 at cb ⊢
         clear hA2 zA2 HA2 HRA
         clear HBK HBE HBL HBK0
         go_upto_region 29 with fail
         have KS : ∀ W', Below W2.heap.size W2 W' → (fun W => W.cell? ⟨g, 0, none⟩ = some (.string (bs path)) ∧ W.cell? ⟨g, 1, none⟩ = some (.int .i64 kind) ∧ W.cell? ⟨g, 2, none⟩ = some (.int .i64 mo) ∧ W.cell? ⟨g, 3, none⟩ = some (.int .i64 ui) ∧ W.cell? ⟨g, 4, none⟩ = some (.int .i64 gi) ∧ W.cell? ⟨g, 5, none⟩ = some (.string (bs owner)) ∧ W.cell? ⟨g, 6, none⟩ = some (.string (bs group)) ∧ W.cell? ⟨g, 7, none⟩ = some (.int .i64 ti) ∧ W.cell? ⟨g, 8, none⟩ = some (.string (bs link)) ∧ W.cell? ⟨g, 9, none⟩ = some (.slice A data.length cap)) W' := fun W' hb => by
           have q := Kept.of_below hb nowhere
           exact ⟨q.cell d0 fun h => h, q.cell d1 fun h => h, q.cell d2' fun h => h, q.cell d3 fun h => h, q.cell d4 fun h => h, q.cell d5 fun h => h, q.cell d6 fun h => h, q.cell d7 fun h => h, q.cell d8 fun h => h, q.cell d9 fun h => h⟩
         refine wp_region_plan (fun W => W.cell? ⟨g, 0, none⟩ = some (.string (bs path)) ∧ W.cell? ⟨g, 1, none⟩ = some (.int .i64 kind) ∧ W.cell? ⟨g, 2, none⟩ = some (.int .i64 mo) ∧ W.cell? ⟨g, 3, none⟩ = some (.int .i64 ui) ∧ W.cell? ⟨g, 4, none⟩ = some (.int .i64 gi) ∧ W.cell? ⟨g, 5, none⟩ = some (.string (bs owner)) ∧ W.cell? ⟨g, 6, none⟩ = some (.string (bs group)) ∧ W.cell? ⟨g, 7, none⟩ = some (.int .i64 ti) ∧ W.cell? ⟨g, 8, none⟩ = some (.string (bs link)) ∧ W.cell? ⟨g, 9, none⟩ = some (.slice A data.length cap)) [(false, 0), (false, 1), (false, 2), (false, 3), (false, 4), (false, 5), (false, 6), (false, 7), (false, 8), (false, 9), (false, 10), (true, 11), (false, 12), (false, 13)] (by kernel_rfl) (by kernel_rfl) (KS _ ((Below.refl _ W2).drew)) ?_
         simp only [planOps, List.map, List.getD_cons_zero, List.getD_cons_succ]
         iterate 11 ((first | refine plan_quiet (v := ?_) rfl rfl (fun w' hw' => ?_) ?_ | refine plan_calm (v := ?_) (tt_of) rfl (fun w' hw' => ?_) ?_); rotate_left; (focus (go_simp <;> (first | with_reducible rfl | (rw [if_neg (by simp [undef])]; try rfl) | (with_reducible refine (rf1 _).mono ?_; rintro e w2 ⟨rfl, rfl⟩; constructor <;> with_reducible rfl) | (with_reducible refine (rf2 _).mono ?_; rintro e w2 ⟨rfl, rfl⟩; constructor <;> with_reducible rfl)))); simp only [Act.put, List.setIfInBounds_toArray, List.set_cons_zero, List.set_cons_succ])
         refine plan_loud rfl (fun K hK => ?_)
         go_simp
         have hz0 := (Below.refl W2.heap.size W2).drew
         refine (cb _).mono ?_
         rintro r Z1 ⟨rfl, hz⟩
         go_simp
         have hz1 := hz0.trans (hz.mono hz0.size)
         refine hK _ _ (KS _ hz1) ?_
         clear hK K
         (try simp only [Act.put, List.setIfInBounds_toArray, List.set_cons_zero, List.set_cons_succ])
         iterate 2 ((first | refine plan_quiet (v := ?_) rfl rfl (fun w' hw' => ?_) ?_ | refine plan_calm (v := ?_) (tt_of) rfl (fun w' hw' => ?_) ?_); rotate_left; (focus (go_simp <;> (first | with_reducible rfl | (rw [if_neg (by simp [undef])]; try rfl) | (with_reducible refine (rf1 _).mono ?_; rintro e w2 ⟨rfl, rfl⟩; constructor <;> with_reducible rfl) | (with_reducible refine (rf2 _).mono ?_; rintro e w2 ⟨rfl, rfl⟩; constructor <;> with_reducible rfl)))); simp only [Act.put, List.setIfInBounds_toArray, List.set_cons_zero, List.set_cons_succ])
         refine plan_end ?_
         go_wp2_with fail
         rw [emp_app X1]
         go_ret
         exact ⟨by rw [HV.out]; rfl, hbw2.trans (hz1.mono hbw2.size)⟩
end Go.Proofs.YtpheifdpjcppdaaGreatDoor
namespace Go.Proofs.YtpheifdpjcppdaaGreatDoor
open Go.RowKit
set_option maxRecDepth 20000 in
set_option maxHeartbeats 16000000 in
theorem rone1_any (e : En) (A : Option Addr) (cap : Nat) (w : World) (HF : Fx e) (HH : NoHead e) :
    Calls Tryz.prog 22 #[entV e (.slice A e.data.length cap), .int .i64 1] w fun r w' => r = .returned (.string (bs (oneT 1 e))) ∧ Below w.heap.size w w' := by
  obtain ⟨path, kind, mode, uid, gid, owner, group, mtime, link, data⟩ := e
  obtain ⟨k1, k2, m1, m2, u1, u2, g1, g2, t1, t2, p1, p2, l2, hnd, hnl, d2, o2, q2⟩ := id HF
  dsimp only at k1 k2 m1 m2 u1 u2 g1 g2 t1 t2 p1 p2 l2 hnd hnl d2 o2 q2
  obtain ⟨mo, rfl⟩ := Int.eq_ofNat_of_zero_le m1
  obtain ⟨ui, rfl⟩ := Int.eq_ofNat_of_zero_le u1
  obtain ⟨gi, rfl⟩ := Int.eq_ofNat_of_zero_le g1
  obtain ⟨ti, rfl⟩ := Int.eq_ofNat_of_zero_le t1
  obtain ⟨E, HE⟩ : ∃ E : En, Hid (E = ⟨path, kind, mo, ui, gi, owner, group, ti, link, data⟩) := ⟨_, Lib.hid rfl⟩
  have HKD : Hid (E.kind = kind ∧ E.path = path ∧ E.link = link ∧ E.data = data) := Lib.hid (by rw [HE.out]; exact ⟨rfl, rfl, rfl, rfl⟩)
  have hnm := nameT_le HF
  rw [← HE.out] at HF HH hnm
  have HR : Hid (oneT 1 E = if (1 : Nat) = 0 ∧ badU E = true then [] else aheadT 1 E ++ headT 1 E) := Lib.hid rfl
  obtain ⟨R, HRR⟩ : ∃ R, Hid (oneT 1 E = R) := ⟨_, Lib.hid rfl⟩
  have hg : oneT 1 ⟨path, kind, mo, ui, gi, owner, group, ti, link, data⟩ = R := by rw [← HE.out, HRR.out]
  rw [HRR.out] at HR
  rw [hg]
  clear hg
  -- a head of this entry
  have HBK : Hid (∀ (n p : List UInt8) (gnu : Bool) (W : World), n.length ≤ 100 → p.length ≤ 155 → Calls Tryz.prog 41 #[.string (bs n), .agg #[.string (bs path), .int .i64 kind, .int .i64 mo, .int .i64 ui, .int .i64 gi, .string (bs owner), .string (bs group), .int .i64 ti, .string (bs link), .slice A data.length cap], .int .i64 (data.length : Int), .string (bs [kindU kind]), .string (bs (link.take 100)), .bool gnu, .string (bs p)] W fun r w' => r = .returned (.string (bs (blockB ⟨n, p, link.take 100, mo, ui, gi, data.length, ti, kindU kind, owner, group⟩ gnu))) ∧ Below W.heap.size W w') :=
    Lib.hid fun n p gnu W hn hp => rblock_any path owner group link n (link.take 100) p kind (.slice A data.length cap) mo ui gi ti data.length (kindU kind) gnu W hn (by rw [List.length_take]; omega) hp (by omega) (by omega) (by omega) (by omega) (by omega) (by omega) (by omega)
  have HBE : Hid (∀ (n p n' : List UInt8) (gnu : Bool), n.take 100 = n'.take 100 → blockB ⟨n, p, link.take 100, mo, ui, gi, data.length, ti, kindU kind, owner, group⟩ gnu = blockB (hdH E n' p) gnu) := Lib.hid fun n p n' gnu hn => by
    rw [HE.out]
    exact blockB_first (hdH ⟨path, kind, mo, ui, gi, owner, group, ti, link, data⟩ n' p) gnu n (link.take 100) hn (by rw [List.take_take]; rfl)
  have HBL : Hid (∀ (n p : List UInt8) (gnu : Bool), (blockB (hdH E n p) gnu).length = 512) := Lib.hid fun n p gnu => blockB_len (hdH_ok HF n p) gnu
  clear HE
  obtain ⟨N, HN⟩ : ∃ N, Hid (N = nameT E) := ⟨_, Lib.hid rfl⟩
  rw [← HN.out] at hnm
  unfold entV
  dsimp only
  go_enter Tryz.func22, Tryz.ntmps22
  go_upto_region 2 with fail
  have bE := Blk.new w 41 #[.string (bs path), .int .i64 kind, .int .i64 mo, .int .i64 ui, .int .i64 gi, .string (bs owner), .string (bs group), .int .i64 ti, .string (bs link), .slice A data.length cap]
  have hbw := (Below.refl w.heap.size w).alloc (Nat.le_refl _) (.cells #[.string (bs path), .int .i64 kind, .int .i64 mo, .int .i64 ui, .int .i64 gi, .string (bs owner), .string (bs group), .int .i64 ti, .string (bs link), .slice A data.length cap] 41)
  generalize w.alloc (.cells #[.string (bs path), .int .i64 kind, .int .i64 mo, .int .i64 ui, .int .i64 gi, .string (bs owner), .string (bs group), .int .i64 ti, .string (bs link), .slice A data.length cap] 41) = W0 at bE hbw ⊢
  generalize w.heap.size = g at bE ⊢
  obtain ⟨d0, d1, d2', d3, d4, d5, d6, d7, d8, d9⟩ := bE.cells10
  go_upto_if 14 with fail
  go_cut [5, 6] (fun s5 s6 wx => s5 = .string (bs (if kind = 2 then [53] else [48])) ∧ s6 = .string (bs N) ∧ W0 = wx)
  case first =>
    have x1 : ¬ 9223372036854775807 < path.length + 1 := by omega
    have zp := bs_size path
    by_cases h2 : kind = 2
    · have q : (kind == 2) = true := by simpa using h2
      have HN2 : Hid (bs N = bs path ++ ⟨#[47]⟩) := Lib.hid (by rw [HN.out, nameT, if_pos (by rw [HKD.out.1]; exact h2), HKD.out.2.1]; exact bs_app path [47])
      have HV : Hid (bs (if kind = 2 then [53] else [48]) = ⟨#[53]⟩) := Lib.hid (by rw [if_pos h2]; rfl)
      clear h2
      go_wp2_with fail
      go_meet
      exact ⟨by rw [HV.out], by rw [HN2.out], rfl⟩
    · have q : (kind == 2) = false := by simpa using h2
      have HN2 : Hid (N = path) := Lib.hid (by rw [HN.out, nameT, if_neg (by rw [HKD.out.1]; exact h2), HKD.out.2.1])
      have HV : Hid (bs (if kind = 2 then [53] else [48]) = ⟨#[48]⟩) := Lib.hid (by rw [if_neg h2]; rfl)
      clear h2
      go_wp2_with fail
      go_meet
      exact ⟨by rw [HV.out], by rw [HN2.out], rfl⟩
  case rest =>
   obtain ⟨rfl, rfl, rfl⟩ := hcut
   obtain ⟨T5, HT5⟩ : ∃ T, Hid (bs (if kind = 2 then [53] else [48]) = T) := ⟨_, Lib.hid rfl⟩
   rw [HT5.out]
   go_upto_if 19 with fail
   go_cut [5] (fun s5 wx => s5 = .string (if kind = 3 then ⟨#[50]⟩ else T5) ∧ W0 = wx)
   case first =>
    by_cases h2 : kind = 3
    · have q : (kind == 3) = true := by simpa using h2
      have HV : Hid ((if kind = 3 then ⟨#[50]⟩ else T5 : ByteArray) = ⟨#[50]⟩) := Lib.hid (by rw [if_pos h2])
      clear h2
      go_wp2_with fail
      go_meet
      exact ⟨by rw [HV.out], rfl⟩
    · have q : (kind == 3) = false := by simpa using h2
      have HV : Hid ((if kind = 3 then ⟨#[50]⟩ else T5 : ByteArray) = T5) := Lib.hid (by rw [if_neg h2])
      clear h2
      go_wp2_with fail
      go_meet
      exact ⟨by rw [HV.out], rfl⟩
   case rest =>
    obtain ⟨rfl, rfl⟩ := hcut
    obtain ⟨T6, HT6⟩ : ∃ T, Hid ((if kind = 3 then ⟨#[50]⟩ else T5 : ByteArray) = T) := ⟨_, Lib.hid rfl⟩
    rw [HT6.out]
    go_upto_if 22 with fail
    go_cut [5] (fun s5 wx => s5 = .string (if kind = 4 then ⟨#[49]⟩ else T6) ∧ W0 = wx)
    case first =>
     by_cases h2 : kind = 4
     · have q : (kind == 4) = true := by simpa using h2
       have HV : Hid ((if kind = 4 then ⟨#[49]⟩ else T6 : ByteArray) = ⟨#[49]⟩) := Lib.hid (by rw [if_pos h2])
       clear h2
       go_wp2_with fail
       go_meet
       exact ⟨by rw [HV.out], rfl⟩
     · have q : (kind == 4) = false := by simpa using h2
       have HV : Hid ((if kind = 4 then ⟨#[49]⟩ else T6 : ByteArray) = T6) := Lib.hid (by rw [if_neg h2])
       clear h2
       go_wp2_with fail
       go_meet
       exact ⟨by rw [HV.out], rfl⟩
    case rest =>
     obtain ⟨rfl, rfl⟩ := hcut
     have hT7 : (if kind = 4 then ⟨#[49]⟩ else T6 : ByteArray) = bs [kindU kind] := by
      rw [← HT6.out, ← HT5.out, kindU]
      by_cases a1 : kind = 1
      · rw [a1]; rfl
      · by_cases a2 : kind = 2
        · rw [a2]; rfl
        · by_cases a3 : kind = 3
          · rw [a3]; rfl
          · have a4 : kind = 4 := by omega
            rw [a4]; rfl
     rw [hT7]
     clear hT7 HT5 HT6
     have zn := bs_size N
     have zl := bs_size link
     have rp := fun W => rpart_any N W (by omega)
     have rf1 := fun W => rfirst_any N W (by omega)
     have rf2 := fun W => rfirst_any link W (by omega)
     have HBK0 : Hid (∀ W (n : List UInt8) (kk : UInt8) (sz : Nat) (gnu : Bool), n.length ≤ 100 → sz ≤ 10000 → Calls Tryz.prog 41 #[.string (bs n), .agg #[.string ⟨#[]⟩, .int .i64 0, .int .i64 0, .int .i64 0, .int .i64 0, .string ⟨#[]⟩, .string ⟨#[]⟩, .int .i64 0, .string ⟨#[]⟩, .slice none 0 0], .int .i64 (sz : Int), .string (bs [kk]), .string ⟨#[]⟩, .bool gnu, .string ⟨#[]⟩] W fun r w' => r = .returned (.string (bs (blockB (tellH n kk sz) gnu))) ∧ Below W.heap.size W w') :=
      Lib.hid fun W n kk sz gnu hn hsz => rblock_any [] [] [] [] n [] [] 0 (.slice none 0 0) 0 0 0 0 sz kk gnu W hn (by simp) (by simp) (by simp) (by simp) (by omega) (by omega) (by omega) (by omega) (by omega)
     obtain ⟨PI, HPI⟩ : ∃ P, Hid (partI N = P) := ⟨_, Lib.hid rfl⟩
     rw [HPI.out] at rp
     clear HPI
     have cw1 := twhole_any (N ++ [0])
     have HA1 : Hid (∀ s : List UInt8, bs s ++ ⟨#[0]⟩ = bs (s ++ [0])) := Lib.hid fun s => bs_app s [0]
     go_upto_if 41 with (go_at_call 40; refine (rp _).mono ?_; clear rp; rintro r W1 ⟨rfl, rfl⟩)
     obtain ⟨A1, HA⟩ : ∃ L, Hid (L = if 100 < N.length then longB 76 N else []) := ⟨_, Lib.hid rfl⟩
     go_cut [8] (fun s8 wx => s8 = .string (bs A1) ∧ Below W0.heap.size W0 wx)
     case first =>
      by_cases h1 : 100 < N.length
      · have q : decide ((100 : Int) < (N.length : Int)) = true := decide_eq_true (by omega)
        have q2 : (100 : Int) < (N.length : Int) := by omega
        have wn : IntKind.i64.wrap ((N.length : Int) + 1) = (N.length : Int) + 1 := i64_in _ (by omega) (by omega)
        have HV : Hid (bs A1 = bs (blockB (tellH longN 76 (N.length + 1)) true) ++ bs (wholeB (N ++ [0]))) := Lib.hid (by rw [HA.out, if_pos h1, longB, bs_app])
        have cb : Calls Tryz.prog 41 #[.string ⟨#[46, 47, 46, 47, 64, 76, 111, 110, 103, 76, 105, 110, 107]⟩, .agg #[.string ⟨#[]⟩, .int .i64 0, .int .i64 0, .int .i64 0, .int .i64 0, .string ⟨#[]⟩, .string ⟨#[]⟩, .int .i64 0, .string ⟨#[]⟩, .slice none 0 0], .int .i64 ((N.length : Int) + 1), .string ⟨#[76]⟩, .string ⟨#[]⟩, .bool true, .string ⟨#[]⟩] W0 fun r w' => r = .returned (.string (bs (blockB (tellH longN 76 (N.length + 1)) true))) ∧ Below W0.heap.size W0 w' := HBK0.out W0 longN 76 (N.length + 1) true (by decide) (by omega)
        have cw : ∀ W, Calls Tryz.prog 23 #[.string (bs N ++ ⟨#[0]⟩)] W fun e w' => e = .returned (.string (bs (wholeB (N ++ [0])))) ∧ W = w' := fun W => by
          rw [HA1.out]
          exact twhole_any (N ++ [0]) W (by rw [List.length_append, List.length_singleton]; omega)
        have z1 : (bs (blockB (tellH longN 76 (N.length + 1)) true)).size = 512 := by rw [bs_size]; exact longB_len (by omega)
        have z2 : (bs (wholeB (N ++ [0]))).size ≤ 10000 := by
          have := wholeB_le (N ++ [0])
          rw [List.length_append, List.length_singleton] at this
          rw [bs_size]; omega
        generalize bs (blockB (tellH longN 76 (N.length + 1)) true) = X1 at cb z1 HV
        generalize bs (wholeB (N ++ [0])) = X2 at cw z2 HV
        have x1 : ¬ 9223372036854775807 < N.length + 1 := by omega
        have x2 : ¬ 9223372036854775807 < 512 + X2.size := by omega
        clear h1 cw1 HA1
        go_wp2_with first
          | (go_at_call 41; refine cb.mono ?_; clear cb; rintro r W1 ⟨rfl, hb1⟩)
          | (go_at_call 23; refine (cw _).mono ?_; clear cw; rintro r W2 ⟨rfl, rfl⟩)
        go_meet
        exact ⟨by rw [HV.out], hb1⟩
      · have q : decide ((100 : Int) < (N.length : Int)) = false := decide_eq_false (by omega)
        have q2 : ¬ (100 : Int) < (N.length : Int) := by omega
        have HV : Hid (A1 = []) := Lib.hid (by rw [HA.out, if_neg h1])
        clear h1
        go_wp2_with fail
        go_meet
        exact ⟨by rw [HV.out]; rfl, Below.refl _ _⟩
     case rest =>
      obtain ⟨rfl, hb1⟩ := hcut
      have bE1 := bE.below hb1 bE.lt
      have hbw1 := hbw.trans (hb1.mono hbw.size)
      clear bE hbw hb1 d0 d1 d2' d3 d4 d5 d6 d7 d8 d9
      generalize wc = W1 at bE1 hbw1 ⊢
      have hA1 : A1.length ≤ 3000 := by
        rw [HA.out]
        split
        · exact longB_le (by omega)
        · simp
      have zA1 := bs_size A1
      obtain ⟨d0, d1, d2', d3, d4, d5, d6, d7, d8, d9⟩ := bE1.cells10
      go_upto_if 54 with fail
      obtain ⟨A2, HAA⟩ : ∃ L, Hid (L = A1 ++ if 100 < link.length then longB 75 link else []) := ⟨_, Lib.hid rfl⟩
      go_cut [8] (fun s8 wx => s8 = .string (bs A2) ∧ Below W1.heap.size W1 wx)
      case first =>
       by_cases h1 : 100 < link.length
       · have q : decide ((100 : Int) < (link.length : Int)) = true := decide_eq_true (by omega)
         have q2 : (100 : Int) < (link.length : Int) := by omega
         have wn : IntKind.i64.wrap ((link.length : Int) + 1) = (link.length : Int) + 1 := i64_in _ (by omega) (by omega)
         have HV : Hid (bs A2 = bs A1 ++ (bs (blockB (tellH longN 75 (link.length + 1)) true) ++ bs (wholeB (link ++ [0])))) := Lib.hid (by rw [HAA.out, if_pos h1, longB, bs_app, bs_app])
         have cb : ∀ W, Calls Tryz.prog 41 #[.string ⟨#[46, 47, 46, 47, 64, 76, 111, 110, 103, 76, 105, 110, 107]⟩, .agg #[.string ⟨#[]⟩, .int .i64 0, .int .i64 0, .int .i64 0, .int .i64 0, .string ⟨#[]⟩, .string ⟨#[]⟩, .int .i64 0, .string ⟨#[]⟩, .slice none 0 0], .int .i64 ((link.length : Int) + 1), .string ⟨#[75]⟩, .string ⟨#[]⟩, .bool true, .string ⟨#[]⟩] W fun r w' => r = .returned (.string (bs (blockB (tellH longN 75 (link.length + 1)) true))) ∧ Below W.heap.size W w' := fun W => HBK0.out W longN 75 (link.length + 1) true (by decide) (by omega)
         have cw : ∀ W, Calls Tryz.prog 23 #[.string (bs link ++ ⟨#[0]⟩)] W fun e w' => e = .returned (.string (bs (wholeB (link ++ [0])))) ∧ W = w' := fun W => by
           rw [HA1.out]
           exact twhole_any (link ++ [0]) W (by rw [List.length_append, List.length_singleton]; omega)
         have z1 : (bs (blockB (tellH longN 75 (link.length + 1)) true)).size = 512 := by rw [bs_size]; exact longB_len (by omega)
         have z2 : (bs (wholeB (link ++ [0]))).size ≤ 10000 := by
           have := wholeB_le (link ++ [0])
           rw [List.length_append, List.length_singleton] at this
           rw [bs_size]; omega
         generalize bs (blockB (tellH longN 75 (link.length + 1)) true) = X1 at cb z1 HV
         generalize bs (wholeB (link ++ [0])) = X2 at cw z2 HV
         have x1 : ¬ 9223372036854775807 < link.length + 1 := by omega
         have x2 : ¬ 9223372036854775807 < A1.length + 512 := by omega
         have x3 : ¬ 9223372036854775807 < A1.length + 512 + X2.size := by omega
         clear h1 cw1 HA1 HA HAA HR HBK HBK0
         go_upto_region 18 with fail
         have KS : ∀ W', Below W1.heap.size W1 W' → (fun W => W.cell? ⟨g, 8, none⟩ = some (.string (bs link))) W' := fun W' hb => (Kept.of_below hb nowhere).cell d8 fun h => h
         refine wp_region_plan (fun W => W.cell? ⟨g, 8, none⟩ = some (.string (bs link))) [(false, 0), (false, 1), (false, 2), (false, 3), (false, 4), (false, 5), (false, 8), (false, 9), (false, 10), (true, 6), (false, 7), (false, 11), (false, 12), (false, 13)] (by kernel_rfl) (by kernel_rfl) (KS _ ((Below.refl _ W1).drew)) ?_
         simp only [planOps, List.map, List.getD_cons_zero, List.getD_cons_succ]
         iterate 9 ((first | refine plan_quiet (v := ?_) rfl rfl (fun w' hw' => ?_) ?_ | refine plan_calm (v := ?_) (tt_of) rfl (fun w' hw' => ?_) ?_); rotate_left; (focus (go_simp <;> (first | with_reducible rfl | (rw [if_neg (by simp [undef])]; try rfl) | (refine (cw _).mono ?_; rintro e w2 ⟨rfl, rfl⟩; constructor <;> with_reducible rfl)))); simp only [Act.put, List.setIfInBounds_toArray, List.set_cons_zero, List.set_cons_succ])
         refine plan_loud rfl (fun K hK => ?_)
         go_simp
         have hz0 := (Below.refl W1.heap.size W1).drew
         refine (cb _).mono ?_
         rintro r Z1 ⟨rfl, hz⟩
         go_simp
         have hz1 := hz0.trans (hz.mono hz0.size)
         refine hK _ _ (KS _ hz1) ?_
         clear hK K
         (try simp only [Act.put, List.setIfInBounds_toArray, List.set_cons_zero, List.set_cons_succ])
         iterate 4 ((first | refine plan_quiet (v := ?_) rfl rfl (fun w' hw' => ?_) ?_ | refine plan_calm (v := ?_) (tt_of) rfl (fun w' hw' => ?_) ?_); rotate_left; (focus (go_simp <;> (first | with_reducible rfl | (rw [if_neg (by simp [undef])]; try rfl) | (refine (cw _).mono ?_; rintro e w2 ⟨rfl, rfl⟩; constructor <;> with_reducible rfl)))); simp only [Act.put, List.setIfInBounds_toArray, List.set_cons_zero, List.set_cons_succ])
         refine plan_end ?_
         go_wp2_with fail
         go_meet
         exact ⟨by rw [HV.out]; first | rfl | (simp only [ByteArray.append_assoc]), hz1⟩
       · have q : decide ((100 : Int) < (link.length : Int)) = false := decide_eq_false (by omega)
         have q2 : ¬ (100 : Int) < (link.length : Int) := by omega
         have HV : Hid (A2 = A1) := Lib.hid (by rw [HAA.out, if_neg h1, List.append_nil])
         clear h1
         go_wp2_with fail
         go_meet
         exact ⟨by rw [HV.out], Below.refl _ _⟩
      case rest =>
       obtain ⟨rfl, hb2⟩ := hcut
       have bE2 := bE1.below hb2 bE1.lt
       have hbw2 := hbw1.trans (hb2.mono hbw1.size)
       clear bE1 hbw1 hb2 d0 d1 d2' d3 d4 d5 d6 d7 d8 d9
       generalize wc = W2 at bE2 hbw2 ⊢
       have hA2 : A2.length ≤ 6000 := by
        rw [HAA.out, List.length_append]
        have : (if 100 < link.length then longB 75 link else []).length ≤ 3000 := by
          split
          · exact longB_le (by omega)
          · simp
        omega
       have HV : Hid (bs R = bs A2 ++ bs (blockB (hdH E N []) true)) := Lib.hid (by
        rw [HR.out, if_neg (by omega), aheadT, if_neg (by omega), if_pos rfl, headT, if_pos rfl, ← HN.out, HKD.out.2.2.1, bs_app, HAA.out, HA.out])
       clear HA HAA HR hA1 zA1 cw1 HA1
       have zA2 := bs_size A2
       obtain ⟨d0, d1, d2', d3, d4, d5, d6, d7, d8, d9⟩ := bE2.cells10
       have cb := fun W => HBK.out (N.take 100) [] true W (by rw [List.length_take]; omega) (by simp)
       rw [HBE.out (N.take 100) [] N true (by rw [List.take_take]; rfl)] at cb
       have z1 : (bs (blockB (hdH E N []) true)).size = 512 := by rw [bs_size]; exact HBL.out N [] true
       generalize bs (blockB (hdH E N []) true) = X1 at cb z1 HV
       generalize bs (N.take 100) = F1 at cb rf1
       generalize bs (link.take 100) = F2 at cb rf2
       generalize bs [kindU kind] = F3 at cb ⊢
       have x2 : ¬ 9223372036854775807 < A2.length + 512 := by omega
       clear HBK HBE HBL HBK0
       go_upto_region 19 with fail
       have KS : ∀ W', Below W2.heap.size W2 W' → (fun W => W.cell? ⟨g, 0, none⟩ = some (.string (bs path)) ∧ W.cell? ⟨g, 1, none⟩ = some (.int .i64 kind) ∧ W.cell? ⟨g, 2, none⟩ = some (.int .i64 mo) ∧ W.cell? ⟨g, 3, none⟩ = some (.int .i64 ui) ∧ W.cell? ⟨g, 4, none⟩ = some (.int .i64 gi) ∧ W.cell? ⟨g, 5, none⟩ = some (.string (bs owner)) ∧ W.cell? ⟨g, 6, none⟩ = some (.string (bs group)) ∧ W.cell? ⟨g, 7, none⟩ = some (.int .i64 ti) ∧ W.cell? ⟨g, 8, none⟩ = some (.string (bs link)) ∧ W.cell? ⟨g, 9, none⟩ = some (.slice A data.length cap)) W' := fun W' hb => by
         have q := Kept.of_below hb nowhere
         exact ⟨q.cell d0 fun h => h, q.cell d1 fun h => h, q.cell d2' fun h => h, q.cell d3 fun h => h, q.cell d4 fun h => h, q.cell d5 fun h => h, q.cell d6 fun h => h, q.cell d7 fun h => h, q.cell d8 fun h => h, q.cell d9 fun h => h⟩
       refine wp_region_plan (fun W => W.cell? ⟨g, 0, none⟩ = some (.string (bs path)) ∧ W.cell? ⟨g, 1, none⟩ = some (.int .i64 kind) ∧ W.cell? ⟨g, 2, none⟩ = some (.int .i64 mo) ∧ W.cell? ⟨g, 3, none⟩ = some (.int .i64 ui) ∧ W.cell? ⟨g, 4, none⟩ = some (.int .i64 gi) ∧ W.cell? ⟨g, 5, none⟩ = some (.string (bs owner)) ∧ W.cell? ⟨g, 6, none⟩ = some (.string (bs group)) ∧ W.cell? ⟨g, 7, none⟩ = some (.int .i64 ti) ∧ W.cell? ⟨g, 8, none⟩ = some (.string (bs link)) ∧ W.cell? ⟨g, 9, none⟩ = some (.slice A data.length cap)) [(false, 0), (false, 1), (false, 2), (false, 3), (false, 4), (false, 5), (false, 6), (false, 7), (false, 8), (false, 9), (false, 10), (true, 11), (false, 12), (false, 13)] (by kernel_rfl) (by kernel_rfl) (KS _ ((Below.refl _ W2).drew)) ?_
       simp only [planOps, List.map, List.getD_cons_zero, List.getD_cons_succ]
       iterate 11 ((first | refine plan_quiet (v := ?_) rfl rfl (fun w' hw' => ?_) ?_ | refine plan_calm (v := ?_) (tt_of) rfl (fun w' hw' => ?_) ?_); rotate_left; (focus (go_simp <;> (first | with_reducible rfl | (rw [if_neg (by simp [undef])]; try rfl) | (with_reducible refine (rf1 _).mono ?_; rintro e w2 ⟨rfl, rfl⟩; constructor <;> with_reducible rfl) | (with_reducible refine (rf2 _).mono ?_; rintro e w2 ⟨rfl, rfl⟩; constructor <;> with_reducible rfl)))); simp only [Act.put, List.setIfInBounds_toArray, List.set_cons_zero, List.set_cons_succ])
       refine plan_loud rfl (fun K hK => ?_)
       go_simp
       have hz0 := (Below.refl W2.heap.size W2).drew
       refine (cb _).mono ?_
       rintro r Z1 ⟨rfl, hz⟩
       go_simp
       have hz1 := hz0.trans (hz.mono hz0.size)
       refine hK _ _ (KS _ hz1) ?_
       clear hK K
       (try simp only [Act.put, List.setIfInBounds_toArray, List.set_cons_zero, List.set_cons_succ])
       iterate 2 ((first | refine plan_quiet (v := ?_) rfl rfl (fun w' hw' => ?_) ?_ | refine plan_calm (v := ?_) (tt_of) rfl (fun w' hw' => ?_) ?_); rotate_left; (focus (go_simp <;> (first | with_reducible rfl | (rw [if_neg (by simp [undef])]; try rfl) | (with_reducible refine (rf1 _).mono ?_; rintro e w2 ⟨rfl, rfl⟩; constructor <;> with_reducible rfl) | (with_reducible refine (rf2 _).mono ?_; rintro e w2 ⟨rfl, rfl⟩; constructor <;> with_reducible rfl)))); simp only [Act.put, List.setIfInBounds_toArray, List.set_cons_zero, List.set_cons_succ])
       refine plan_end ?_
       go_wp2_with fail
       go_ret
       exact ⟨by rw [HV.out]; rfl, hbw2.trans (hz1.mono hbw2.size)⟩
end Go.Proofs.YtpheifdpjcppdaaGreatDoor
namespace Go.Proofs.YtpheifdpjcppdaaGreatDoor
open Go.RowKit
set_option maxRecDepth 20000 in
set_option maxHeartbeats 16000000 in
theorem rone2_any (e : En) (A : Option Addr) (cap : Nat) (w : World) (HF : Fx e) (HH : NoHead e) :
    Calls Tryz.prog 22 #[entV e (.slice A e.data.length cap), .int .i64 2] w fun r w' => r = .returned (.string (bs (oneT 2 e))) ∧ Below w.heap.size w w' := by
  obtain ⟨path, kind, mode, uid, gid, owner, group, mtime, link, data⟩ := e
  obtain ⟨k1, k2, m1, m2, u1, u2, g1, g2, t1, t2, p1, p2, l2, hnd, hnl, d2, o2, q2⟩ := id HF
  dsimp only at k1 k2 m1 m2 u1 u2 g1 g2 t1 t2 p1 p2 l2 hnd hnl d2 o2 q2
  obtain ⟨mo, rfl⟩ := Int.eq_ofNat_of_zero_le m1
  obtain ⟨ui, rfl⟩ := Int.eq_ofNat_of_zero_le u1
  obtain ⟨gi, rfl⟩ := Int.eq_ofNat_of_zero_le g1
  obtain ⟨ti, rfl⟩ := Int.eq_ofNat_of_zero_le t1
  obtain ⟨E, HE⟩ : ∃ E : En, Hid (E = ⟨path, kind, mo, ui, gi, owner, group, ti, link, data⟩) := ⟨_, Lib.hid rfl⟩
  have HKD : Hid (E.kind = kind ∧ E.path = path ∧ E.link = link ∧ E.data = data) := Lib.hid (by rw [HE.out]; exact ⟨rfl, rfl, rfl, rfl⟩)
  have hnm := nameT_le HF
  rw [← HE.out] at HF HH hnm
  have HR : Hid (oneT 2 E = if (2 : Nat) = 0 ∧ badU E = true then [] else aheadT 2 E ++ headT 2 E) := Lib.hid rfl
  obtain ⟨R, HRR⟩ : ∃ R, Hid (oneT 2 E = R) := ⟨_, Lib.hid rfl⟩
  have hg : oneT 2 ⟨path, kind, mo, ui, gi, owner, group, ti, link, data⟩ = R := by rw [← HE.out, HRR.out]
  rw [HRR.out] at HR
  rw [hg]
  clear hg
  -- a head of this entry
  have HBK : Hid (∀ (n p : List UInt8) (gnu : Bool) (W : World), n.length ≤ 100 → p.length ≤ 155 → Calls Tryz.prog 41 #[.string (bs n), .agg #[.string (bs path), .int .i64 kind, .int .i64 mo, .int .i64 ui, .int .i64 gi, .string (bs owner), .string (bs group), .int .i64 ti, .string (bs link), .slice A data.length cap], .int .i64 (data.length : Int), .string (bs [kindU kind]), .string (bs (link.take 100)), .bool gnu, .string (bs p)] W fun r w' => r = .returned (.string (bs (blockB ⟨n, p, link.take 100, mo, ui, gi, data.length, ti, kindU kind, owner, group⟩ gnu))) ∧ Below W.heap.size W w') :=
    Lib.hid fun n p gnu W hn hp => rblock_any path owner group link n (link.take 100) p kind (.slice A data.length cap) mo ui gi ti data.length (kindU kind) gnu W hn (by rw [List.length_take]; omega) hp (by omega) (by omega) (by omega) (by omega) (by omega) (by omega) (by omega)
  have HBE : Hid (∀ (n p n' : List UInt8) (gnu : Bool), n.take 100 = n'.take 100 → blockB ⟨n, p, link.take 100, mo, ui, gi, data.length, ti, kindU kind, owner, group⟩ gnu = blockB (hdH E n' p) gnu) := Lib.hid fun n p n' gnu hn => by
    rw [HE.out]
    exact blockB_first (hdH ⟨path, kind, mo, ui, gi, owner, group, ti, link, data⟩ n' p) gnu n (link.take 100) hn (by rw [List.take_take]; rfl)
  have HBL : Hid (∀ (n p : List UInt8) (gnu : Bool), (blockB (hdH E n p) gnu).length = 512) := Lib.hid fun n p gnu => blockB_len (hdH_ok HF n p) gnu
  clear HE
  obtain ⟨N, HN⟩ : ∃ N, Hid (N = nameT E) := ⟨_, Lib.hid rfl⟩
  rw [← HN.out] at hnm
  unfold entV
  dsimp only
  go_enter Tryz.func22, Tryz.ntmps22
  go_upto_region 2 with fail
  have bE := Blk.new w 41 #[.string (bs path), .int .i64 kind, .int .i64 mo, .int .i64 ui, .int .i64 gi, .string (bs owner), .string (bs group), .int .i64 ti, .string (bs link), .slice A data.length cap]
  have hbw := (Below.refl w.heap.size w).alloc (Nat.le_refl _) (.cells #[.string (bs path), .int .i64 kind, .int .i64 mo, .int .i64 ui, .int .i64 gi, .string (bs owner), .string (bs group), .int .i64 ti, .string (bs link), .slice A data.length cap] 41)
  generalize w.alloc (.cells #[.string (bs path), .int .i64 kind, .int .i64 mo, .int .i64 ui, .int .i64 gi, .string (bs owner), .string (bs group), .int .i64 ti, .string (bs link), .slice A data.length cap] 41) = W0 at bE hbw ⊢
  generalize w.heap.size = g at bE ⊢
  obtain ⟨d0, d1, d2', d3, d4, d5, d6, d7, d8, d9⟩ := bE.cells10
  go_upto_if 14 with fail
  go_cut [5, 6] (fun s5 s6 wx => s5 = .string (bs (if kind = 2 then [53] else [48])) ∧ s6 = .string (bs N) ∧ W0 = wx)
  case first =>
    have x1 : ¬ 9223372036854775807 < path.length + 1 := by omega
    have zp := bs_size path
    by_cases h2 : kind = 2
    · have q : (kind == 2) = true := by simpa using h2
      have HN2 : Hid (bs N = bs path ++ ⟨#[47]⟩) := Lib.hid (by rw [HN.out, nameT, if_pos (by rw [HKD.out.1]; exact h2), HKD.out.2.1]; exact bs_app path [47])
      have HV : Hid (bs (if kind = 2 then [53] else [48]) = ⟨#[53]⟩) := Lib.hid (by rw [if_pos h2]; rfl)
      clear h2
      go_wp2_with fail
      go_meet
      exact ⟨by rw [HV.out], by rw [HN2.out], rfl⟩
    · have q : (kind == 2) = false := by simpa using h2
      have HN2 : Hid (N = path) := Lib.hid (by rw [HN.out, nameT, if_neg (by rw [HKD.out.1]; exact h2), HKD.out.2.1])
      have HV : Hid (bs (if kind = 2 then [53] else [48]) = ⟨#[48]⟩) := Lib.hid (by rw [if_neg h2]; rfl)
      clear h2
      go_wp2_with fail
      go_meet
      exact ⟨by rw [HV.out], by rw [HN2.out], rfl⟩
  case rest =>
   obtain ⟨rfl, rfl, rfl⟩ := hcut
   obtain ⟨T5, HT5⟩ : ∃ T, Hid (bs (if kind = 2 then [53] else [48]) = T) := ⟨_, Lib.hid rfl⟩
   rw [HT5.out]
   go_upto_if 19 with fail
   go_cut [5] (fun s5 wx => s5 = .string (if kind = 3 then ⟨#[50]⟩ else T5) ∧ W0 = wx)
   case first =>
    by_cases h2 : kind = 3
    · have q : (kind == 3) = true := by simpa using h2
      have HV : Hid ((if kind = 3 then ⟨#[50]⟩ else T5 : ByteArray) = ⟨#[50]⟩) := Lib.hid (by rw [if_pos h2])
      clear h2
      go_wp2_with fail
      go_meet
      exact ⟨by rw [HV.out], rfl⟩
    · have q : (kind == 3) = false := by simpa using h2
      have HV : Hid ((if kind = 3 then ⟨#[50]⟩ else T5 : ByteArray) = T5) := Lib.hid (by rw [if_neg h2])
      clear h2
      go_wp2_with fail
      go_meet
      exact ⟨by rw [HV.out], rfl⟩
   case rest =>
    obtain ⟨rfl, rfl⟩ := hcut
    obtain ⟨T6, HT6⟩ : ∃ T, Hid ((if kind = 3 then ⟨#[50]⟩ else T5 : ByteArray) = T) := ⟨_, Lib.hid rfl⟩
    rw [HT6.out]
    go_upto_if 22 with fail
    go_cut [5] (fun s5 wx => s5 = .string (if kind = 4 then ⟨#[49]⟩ else T6) ∧ W0 = wx)
    case first =>
     by_cases h2 : kind = 4
     · have q : (kind == 4) = true := by simpa using h2
       have HV : Hid ((if kind = 4 then ⟨#[49]⟩ else T6 : ByteArray) = ⟨#[49]⟩) := Lib.hid (by rw [if_pos h2])
       clear h2
       go_wp2_with fail
       go_meet
       exact ⟨by rw [HV.out], rfl⟩
     · have q : (kind == 4) = false := by simpa using h2
       have HV : Hid ((if kind = 4 then ⟨#[49]⟩ else T6 : ByteArray) = T6) := Lib.hid (by rw [if_neg h2])
       clear h2
       go_wp2_with fail
       go_meet
       exact ⟨by rw [HV.out], rfl⟩
    case rest =>
     obtain ⟨rfl, rfl⟩ := hcut
     have hT7 : (if kind = 4 then ⟨#[49]⟩ else T6 : ByteArray) = bs [kindU kind] := by
      rw [← HT6.out, ← HT5.out, kindU]
      by_cases a1 : kind = 1
      · rw [a1]; rfl
      · by_cases a2 : kind = 2
        · rw [a2]; rfl
        · by_cases a3 : kind = 3
          · rw [a3]; rfl
          · have a4 : kind = 4 := by omega
            rw [a4]; rfl
     rw [hT7]
     clear hT7 HT5 HT6
     have zn := bs_size N
     have zl := bs_size link
     have rp := fun W => rpart_any N W (by omega)
     have rf1 := fun W => rfirst_any N W (by omega)
     have rf2 := fun W => rfirst_any link W (by omega)
     have HBK0 : Hid (∀ W (n : List UInt8) (kk : UInt8) (sz : Nat) (gnu : Bool), n.length ≤ 100 → sz ≤ 10000 → Calls Tryz.prog 41 #[.string (bs n), .agg #[.string ⟨#[]⟩, .int .i64 0, .int .i64 0, .int .i64 0, .int .i64 0, .string ⟨#[]⟩, .string ⟨#[]⟩, .int .i64 0, .string ⟨#[]⟩, .slice none 0 0], .int .i64 (sz : Int), .string (bs [kk]), .string ⟨#[]⟩, .bool gnu, .string ⟨#[]⟩] W fun r w' => r = .returned (.string (bs (blockB (tellH n kk sz) gnu))) ∧ Below W.heap.size W w') :=
      Lib.hid fun W n kk sz gnu hn hsz => rblock_any [] [] [] [] n [] [] 0 (.slice none 0 0) 0 0 0 0 sz kk gnu W hn (by simp) (by simp) (by simp) (by simp) (by omega) (by omega) (by omega) (by omega) (by omega)
     obtain ⟨P, HP⟩ : ∃ P, Hid (P = partT N) := ⟨_, Lib.hid rfl⟩
     obtain ⟨PI, HPI⟩ : ∃ P, Hid (partI N = P) := ⟨_, Lib.hid rfl⟩
     rw [HPI.out] at rp
     have hrk1 := recR_len kPath N
     have hrk2 := recR_len kLink link
     have hkp : kPath.length = 4 := rfl
     have hkl : kLink.length = 8 := rfl
     rw [hkp] at hrk1
     rw [hkl] at hrk2
     clear hkp hkl
     have HK1 : Hid ((recR kPath N).length = 4 + N.length + 3) := Lib.hid hrk1
     have HK2 : Hid ((recR kLink link).length = 8 + link.length + 3) := Lib.hid hrk2
     clear hrk1 hrk2
     have HTL := Lib.hid (toldB_le HF)
     obtain ⟨T1, HT1⟩ : ∃ T, Hid (T = if P.isNone = true then recB kPath N else []) := ⟨_, Lib.hid rfl⟩
     go_upto_if 82 with (go_at_call 40; refine (rp _).mono ?_; clear rp; rintro r W1 ⟨rfl, rfl⟩)
     go_cut [9] (fun s9 wx => s9 = .string (bs T1) ∧ Below W0.heap.size W0 wx)
     case first =>
      rcases P with _ | ⟨p, r⟩
      · have hPI : PI = -1 := by rw [← HPI.out]; exact partI_neg HP.out.symm
        have hn1 := partT_none HP.out.symm
        have cr : Calls Tryz.prog 43 #[.string ⟨#[112, 97, 116, 104]⟩, .string (bs N)] W0 fun r w' => r = .returned (.string (bs (recB kPath N))) ∧ Below W0.heap.size W0 w' := rrec_any kPath N W0 (by rw [HK1.out]; omega) (by rw [HK1.out]; omega)
        have hV : T1 = recB kPath N := by rw [HT1.out]; rfl
        rw [← hV] at cr
        clear hV HT1 HP
        have q1 : decide (PI < 0) = true := by rw [hPI]; rfl
        have q2 : PI < 0 := by omega
        clear hPI HPI
        go_wp2_with (go_at_call 43; refine cr.mono ?_; clear cr; rintro r W1 ⟨rfl, hb1⟩)
        go_meet
        exact ⟨rfl, hb1⟩
      · have hPI : 0 ≤ PI := by
          rw [← HPI.out]
          by_cases hN : 100 < N.length
          · rw [partI_some HP.out.symm hN]; omega
          · rw [partI_low (by omega)]; omega
        have q1 : decide (PI < 0) = false := decide_eq_false (by omega)
        have q2 : ¬ PI < 0 := by omega
        have HV : Hid (T1 = []) := Lib.hid (by rw [HT1.out]; rfl)
        clear HT1 HP HPI
        go_wp2_with fail
        go_meet
        exact ⟨by rw [HV.out]; rfl, Below.refl _ _⟩
     case rest =>
      obtain ⟨rfl, hb1⟩ := hcut
      have bE1 := bE.below hb1 bE.lt
      have hbw1 := hbw.trans (hb1.mono hbw.size)
      clear bE hbw hb1 d0 d1 d2' d3 d4 d5 d6 d7 d8 d9
      generalize wc = W1 at bE1 hbw1 ⊢
      obtain ⟨T2, HT2⟩ : ∃ T, Hid (T = T1 ++ if 100 < link.length then recB kLink link else []) := ⟨_, Lib.hid rfl⟩
      have HTB : Hid (toldB E = T2) := Lib.hid (by rw [toldB, ← HN.out, ← HP.out, HKD.out.2.2.1, HT2.out, HT1.out])
      have ht2 : T2.length ≤ 1000 := by rw [← HTB.out]; exact HTL.out
      have ht1 : T1.length ≤ 1000 := by rw [HT2.out, List.length_append] at ht2; omega
      have z1 := bs_size T1
      obtain ⟨d0, d1, d2', d3, d4, d5, d6, d7, d8, d9⟩ := bE1.cells10
      go_upto_if 88 with fail
      go_cut [9] (fun s9 wx => s9 = .string (bs T2) ∧ Below W1.heap.size W1 wx)
      case first =>
       by_cases h1 : 100 < link.length
       · have q : decide ((100 : Int) < (link.length : Int)) = true := decide_eq_true (by omega)
         have q2 : (100 : Int) < (link.length : Int) := by omega
         have cr : Calls Tryz.prog 43 #[.string ⟨#[108, 105, 110, 107, 112, 97, 116, 104]⟩, .string (bs link)] W1 fun r w' => r = .returned (.string (bs (recB kLink link))) ∧ Below W1.heap.size W1 w' := rrec_any kLink link W1 (by rw [HK2.out]; omega) (by rw [HK2.out]; omega)
         have HV : Hid (bs T2 = bs T1 ++ bs (recB kLink link)) := Lib.hid (by rw [HT2.out, if_pos h1, bs_app])
         have z2 : (bs (recB kLink link)).size ≤ 1000 := by
           have h := ht2
           rw [HT2.out, if_pos h1, List.length_append] at h
           rw [bs_size]; omega
         generalize bs (recB kLink link) = X1 at cr HV z2
         have x1 : ¬ 9223372036854775807 < T1.length + X1.size := by omega
         clear h1
         go_wp2_with (go_at_call 43; refine cr.mono ?_; clear cr; rintro r W2 ⟨rfl, hb2⟩)
         go_meet
         exact ⟨by rw [HV.out], hb2⟩
       · have q : decide ((100 : Int) < (link.length : Int)) = false := decide_eq_false (by omega)
         have q2 : ¬ (100 : Int) < (link.length : Int) := by omega
         have HV : Hid (T2 = T1) := Lib.hid (by rw [HT2.out, if_neg h1, List.append_nil])
         clear h1
         go_wp2_with fail
         go_meet
         exact ⟨by rw [HV.out], Below.refl _ _⟩
      case rest =>
       obtain ⟨rfl, hb2⟩ := hcut
       have bE3 := bE1.below hb2 bE1.lt
       have hbw3 := hbw1.trans (hb2.mono hbw1.size)
       clear bE1 hbw1 hb2 d0 d1 d2' d3 d4 d5 d6 d7 d8 d9 z1 ht1 HT1 HT2
       generalize wc = W3 at bE3 hbw3 ⊢
       obtain ⟨A2, HA2⟩ : ∃ L, Hid (L = aheadT 2 E) := ⟨_, Lib.hid rfl⟩
       have z1 := bs_size T2
       obtain ⟨bz, hbz⟩ : ∃ b, (bs T2).toList.isEmpty = b := ⟨_, rfl⟩
       have HBZ : Hid (T2.isEmpty = bz) := Lib.hid (by rw [← hbz, toList_bs])
       go_upto_if 95 with fail
       clear hbz
       go_cut [8] (fun s8 wx => s8 = .string (bs A2) ∧ Below W3.heap.size W3 wx)
       case first =>
        cases bz with
        | true =>
          have h0 : T2 = [] := by simpa using HBZ.out
          have HV : Hid (A2 = []) := Lib.hid (by rw [HA2.out, aheadT, if_neg (by decide), if_neg (by decide), HTB.out, if_pos h0])
          clear h0
          go_wp2_with fail
          go_meet
          exact ⟨by rw [HV.out]; rfl, Below.refl _ _⟩
        | false =>
          have h0 : ¬ T2 = [] := by simpa using HBZ.out
          have HV : Hid (bs A2 = bs (blockB (tellH paxN 120 T2.length) false) ++ bs (wholeB T2)) := Lib.hid (by rw [HA2.out, aheadT, if_neg (by decide), if_neg (by decide), HTB.out, if_neg h0, bs_app])
          have cb : Calls Tryz.prog 41 #[.string ⟨#[80, 97, 120, 72, 101, 97, 100, 101, 114, 115]⟩, .agg #[.string ⟨#[]⟩, .int .i64 0, .int .i64 0, .int .i64 0, .int .i64 0, .string ⟨#[]⟩, .string ⟨#[]⟩, .int .i64 0, .string ⟨#[]⟩, .slice none 0 0], .int .i64 (T2.length : Int), .string ⟨#[120]⟩, .string ⟨#[]⟩, .bool false, .string ⟨#[]⟩] W3 fun r w' => r = .returned (.string (bs (blockB (tellH paxN 120 T2.length) false))) ∧ Below W3.heap.size W3 w' := HBK0.out W3 paxN 120 T2.length false (by decide) (by omega)
          have cw := fun W => twhole_any T2 W (by omega)
          have y1 : (bs (blockB (tellH paxN 120 T2.length) false)).size = 512 := by rw [bs_size]; exact blockB_len (tell_ok (by omega)) false
          have y2 : (bs (wholeB T2)).size ≤ 10000 := by
            have := wholeB_le T2
            rw [bs_size]; omega
          generalize bs (blockB (tellH paxN 120 T2.length) false) = X1 at cb y1 HV
          generalize bs (wholeB T2) = X2 at cw y2 HV
          have x2 : ¬ 9223372036854775807 < 512 + X2.size := by omega
          clear h0 HBK0
          go_wp2_with first
            | (go_at_call 41; refine cb.mono ?_; clear cb; rintro r W1 ⟨rfl, hb1⟩)
            | (go_at_call 23; refine (cw _).mono ?_; clear cw; rintro r W2 ⟨rfl, rfl⟩)
          go_meet
          exact ⟨by rw [HV.out], hb1⟩
       case rest =>
       obtain ⟨rfl, hb2⟩ := hcut
       have bE2 := bE3.below hb2 bE3.lt
       have hbw2 := hbw3.trans (hb2.mono hbw3.size)
       clear bE3 hbw3 hb2
       generalize wc = W2 at bE2 hbw2 ⊢
       have hA2 : A2.length ≤ 6000 := by
        rw [HA2.out, aheadT, if_neg (by decide), if_neg (by decide), HTB.out]
        split
        · simp
        · rw [List.length_append, blockB_len (tell_ok (by omega)) false]
          have := wholeB_le T2
          omega
       have HRA : Hid (R = A2 ++ headT 2 E) := Lib.hid (by rw [HR.out, if_neg (fun h => absurd h.1 (by decide)), HA2.out])
       clear HTB z1 ht2 HR HTL HK1 HK2
       have zA2 := bs_size A2
       obtain ⟨d0, d1, d2', d3, d4, d5, d6, d7, d8, d9⟩ := bE2.cells10
       by_cases hN : 100 < N.length
       · rcases P with _ | ⟨p, r⟩
         · have hPI : PI = -1 := by rw [← HPI.out]; exact partI_neg HP.out.symm
           subst hPI
           have HHT : Hid (headT 2 E = blockB (hdH E N []) false) := Lib.hid (by rw [headT, if_neg (by decide), ← HN.out, ← HP.out]; rw [partH, HN.out])
           clear HP HPI
           have HV : Hid (bs R = bs A2 ++ bs (blockB (hdH E N []) false)) := Lib.hid (by rw [HRA.out, HHT.out, bs_app])
           have cb := fun W => HBK.out (N.take 100) [] false W (by rw [List.length_take]; omega) (by simp)
           rw [HBE.out (N.take 100) [] N false (by rw [List.take_take]; rfl)] at cb
           have z1 : (bs (blockB (hdH E N []) false)).size = 512 := by rw [bs_size]; exact HBL.out N [] false
           generalize bs (blockB (hdH E N []) false) = X1 at cb z1 HV
           generalize bs (N.take 100) = F1 at cb rf1
           generalize bs (link.take 100) = F2 at cb rf2
           generalize bs [kindU kind] = F3 at cb ⊢
           have x2 : ¬ 9223372036854775807 < A2.length + 512 := by omega
           clear HBK HBE HBL HBK0
           go_upto_region 29 with fail
           have KS : ∀ W', Below W2.heap.size W2 W' → (fun W => W.cell? ⟨g, 0, none⟩ = some (.string (bs path)) ∧ W.cell? ⟨g, 1, none⟩ = some (.int .i64 kind) ∧ W.cell? ⟨g, 2, none⟩ = some (.int .i64 mo) ∧ W.cell? ⟨g, 3, none⟩ = some (.int .i64 ui) ∧ W.cell? ⟨g, 4, none⟩ = some (.int .i64 gi) ∧ W.cell? ⟨g, 5, none⟩ = some (.string (bs owner)) ∧ W.cell? ⟨g, 6, none⟩ = some (.string (bs group)) ∧ W.cell? ⟨g, 7, none⟩ = some (.int .i64 ti) ∧ W.cell? ⟨g, 8, none⟩ = some (.string (bs link)) ∧ W.cell? ⟨g, 9, none⟩ = some (.slice A data.length cap)) W' := fun W' hb => by
             have q := Kept.of_below hb nowhere
             exact ⟨q.cell d0 fun h => h, q.cell d1 fun h => h, q.cell d2' fun h => h, q.cell d3 fun h => h, q.cell d4 fun h => h, q.cell d5 fun h => h, q.cell d6 fun h => h, q.cell d7 fun h => h, q.cell d8 fun h => h, q.cell d9 fun h => h⟩
           refine wp_region_plan (fun W => W.cell? ⟨g, 0, none⟩ = some (.string (bs path)) ∧ W.cell? ⟨g, 1, none⟩ = some (.int .i64 kind) ∧ W.cell? ⟨g, 2, none⟩ = some (.int .i64 mo) ∧ W.cell? ⟨g, 3, none⟩ = some (.int .i64 ui) ∧ W.cell? ⟨g, 4, none⟩ = some (.int .i64 gi) ∧ W.cell? ⟨g, 5, none⟩ = some (.string (bs owner)) ∧ W.cell? ⟨g, 6, none⟩ = some (.string (bs group)) ∧ W.cell? ⟨g, 7, none⟩ = some (.int .i64 ti) ∧ W.cell? ⟨g, 8, none⟩ = some (.string (bs link)) ∧ W.cell? ⟨g, 9, none⟩ = some (.slice A data.length cap)) [(false, 0), (false, 1), (false, 2), (false, 3), (false, 4), (false, 5), (false, 6), (false, 7), (false, 8), (false, 9), (false, 10), (true, 11), (false, 12), (false, 13)] (by kernel_rfl) (by kernel_rfl) (KS _ ((Below.refl _ W2).drew)) ?_
           simp only [planOps, List.map, List.getD_cons_zero, List.getD_cons_succ]
           iterate 11 ((first | refine plan_quiet (v := ?_) rfl rfl (fun w' hw' => ?_) ?_ | refine plan_calm (v := ?_) (tt_of) rfl (fun w' hw' => ?_) ?_); rotate_left; (focus (go_simp <;> (first | with_reducible rfl | (rw [if_neg (by simp [undef])]; try rfl) | (with_reducible refine (rf1 _).mono ?_; rintro e w2 ⟨rfl, rfl⟩; constructor <;> with_reducible rfl) | (with_reducible refine (rf2 _).mono ?_; rintro e w2 ⟨rfl, rfl⟩; constructor <;> with_reducible rfl)))); simp only [Act.put, List.setIfInBounds_toArray, List.set_cons_zero, List.set_cons_succ])
           refine plan_loud rfl (fun K hK => ?_)
           go_simp
           have hz0 := (Below.refl W2.heap.size W2).drew
           refine (cb _).mono ?_
           rintro r Z1 ⟨rfl, hz⟩
           go_simp
           have hz1 := hz0.trans (hz.mono hz0.size)
           refine hK _ _ (KS _ hz1) ?_
           clear hK K
           (try simp only [Act.put, List.setIfInBounds_toArray, List.set_cons_zero, List.set_cons_succ])
           iterate 2 ((first | refine plan_quiet (v := ?_) rfl rfl (fun w' hw' => ?_) ?_ | refine plan_calm (v := ?_) (tt_of) rfl (fun w' hw' => ?_) ?_); rotate_left; (focus (go_simp <;> (first | with_reducible rfl | (rw [if_neg (by simp [undef])]; try rfl) | (with_reducible refine (rf1 _).mono ?_; rintro e w2 ⟨rfl, rfl⟩; constructor <;> with_reducible rfl) | (with_reducible refine (rf2 _).mono ?_; rintro e w2 ⟨rfl, rfl⟩; constructor <;> with_reducible rfl)))); simp only [Act.put, List.setIfInBounds_toArray, List.set_cons_zero, List.set_cons_succ])
           refine plan_end ?_
           go_wp2_with fail
           go_ret
           exact ⟨by rw [HV.out]; rfl, hbw2.trans (hz1.mono hbw2.size)⟩
         · have hcut := partT_cut HP.out.symm hN
           obtain ⟨hp1, hp2, hp3, hp4, hp5⟩ := hcut
           have hp0 := HH p r (by rw [← HN.out]; exact HP.out.symm) (by rw [← HN.out]; exact hN)
           have hPI : PI = (p.length : Int) := by rw [← HPI.out]; exact partI_some HP.out.symm hN
           subst hPI
           have q1 : decide ((p.length : Int) > 0) = true := decide_eq_true (by omega)
           have q1b : 0 < p.length := hp0
           have hxp : (bs N).extract 0 p.length = bs p := by rw [ext_take (bs N) _ (by rw [zn]; omega), bs_list, ← hp1]
           have hxr : (bs N).extract (p.length + 1) N.length = bs r := by
             have := ext_drop (bs N) (p.length + 1)
             rw [zn, bs_list, ← hp2] at this
             exact this
           have HHT : Hid (headT 2 E = blockB (hdH E r p) false) := Lib.hid (by rw [headT, if_neg (by decide), ← HN.out, ← HP.out]; rfl)
           clear hp1 hp2 HH HP HPI
           have HV : Hid (bs R = bs A2 ++ bs (blockB (hdH E r p) false)) := Lib.hid (by rw [HRA.out, HHT.out, bs_app])
           have cb := fun W => HBK.out r p false W (by omega) (by omega)
           rw [HBE.out r p r false rfl] at cb
           have z1 : (bs (blockB (hdH E r p) false)).size = 512 := by rw [bs_size]; exact HBL.out r p false
           generalize bs (blockB (hdH E r p) false) = X1 at cb z1 HV
           generalize bs (link.take 100) = F2 at cb rf2
           generalize bs [kindU kind] = F3 at cb ⊢
           generalize bs p = F4 at cb hxp
           generalize bs r = F5 at cb hxr
           generalize p.length = m at *
           have x2 : ¬ 9223372036854775807 < A2.length + 512 := by omega
           have i1 : (0 : Int) ≤ (m : Int) := by omega
           have i2 : (0 : Int) ≤ (m : Int) + 1 := by omega
           have i3 : (m : Int) + 1 ≤ (N.length : Int) := by omega
           have i4 : (m : Int) ≤ (N.length : Int) := by omega
           have i5 : ((m : Int) + 1).toNat = m + 1 := by omega
           have wm : IntKind.i64.wrap ((m : Int) + 1) = (m : Int) + 1 := i64_in _ (by omega) (by omega)
           clear HBK HBE HBL HBK0
           go_upto_region 28 with fail
           have KS : ∀ W', Below W2.heap.size W2 W' → (fun W => W.cell? ⟨g, 0, none⟩ = some (.string (bs path)) ∧ W.cell? ⟨g, 1, none⟩ = some (.int .i64 kind) ∧ W.cell? ⟨g, 2, none⟩ = some (.int .i64 mo) ∧ W.cell? ⟨g, 3, none⟩ = some (.int .i64 ui) ∧ W.cell? ⟨g, 4, none⟩ = some (.int .i64 gi) ∧ W.cell? ⟨g, 5, none⟩ = some (.string (bs owner)) ∧ W.cell? ⟨g, 6, none⟩ = some (.string (bs group)) ∧ W.cell? ⟨g, 7, none⟩ = some (.int .i64 ti) ∧ W.cell? ⟨g, 8, none⟩ = some (.string (bs link)) ∧ W.cell? ⟨g, 9, none⟩ = some (.slice A data.length cap)) W' := fun W' hb => by
             have q := Kept.of_below hb nowhere
             exact ⟨q.cell d0 fun h => h, q.cell d1 fun h => h, q.cell d2' fun h => h, q.cell d3 fun h => h, q.cell d4 fun h => h, q.cell d5 fun h => h, q.cell d6 fun h => h, q.cell d7 fun h => h, q.cell d8 fun h => h, q.cell d9 fun h => h⟩
           refine wp_region_plan (fun W => W.cell? ⟨g, 0, none⟩ = some (.string (bs path)) ∧ W.cell? ⟨g, 1, none⟩ = some (.int .i64 kind) ∧ W.cell? ⟨g, 2, none⟩ = some (.int .i64 mo) ∧ W.cell? ⟨g, 3, none⟩ = some (.int .i64 ui) ∧ W.cell? ⟨g, 4, none⟩ = some (.int .i64 gi) ∧ W.cell? ⟨g, 5, none⟩ = some (.string (bs owner)) ∧ W.cell? ⟨g, 6, none⟩ = some (.string (bs group)) ∧ W.cell? ⟨g, 7, none⟩ = some (.int .i64 ti) ∧ W.cell? ⟨g, 8, none⟩ = some (.string (bs link)) ∧ W.cell? ⟨g, 9, none⟩ = some (.slice A data.length cap)) [(false, 0), (false, 1), (false, 2), (false, 3), (false, 4), (false, 5), (false, 6), (false, 7), (false, 8), (false, 9), (false, 10), (false, 11), (false, 12), (false, 13), (false, 14), (false, 15), (true, 16), (false, 17), (false, 18)] (by kernel_rfl) (by kernel_rfl) (KS _ ((Below.refl _ W2).drew)) ?_
           simp only [planOps, List.map, List.getD_cons_zero, List.getD_cons_succ]
           iterate 16 ((first | refine plan_quiet (v := ?_) rfl rfl (fun w' hw' => ?_) ?_ | refine plan_calm (v := ?_) (tt_of) rfl (fun w' hw' => ?_) ?_); rotate_left; (focus (go_simp <;> (first | with_reducible rfl | (rw [if_neg (by simp [undef])]; try rfl) | (refine (rf2 _).mono ?_; rintro e w2 ⟨rfl, rfl⟩; constructor <;> with_reducible rfl)))); simp only [Act.put, List.setIfInBounds_toArray, List.set_cons_zero, List.set_cons_succ])
           refine plan_loud rfl (fun K hK => ?_)
           go_simp
           have hz0 := (Below.refl W2.heap.size W2).drew
           refine (cb _).mono ?_
           rintro r Z1 ⟨rfl, hz⟩
           go_simp
           have hz1 := hz0.trans (hz.mono hz0.size)
           refine hK _ _ (KS _ hz1) ?_
           clear hK K
           (try simp only [Act.put, List.setIfInBounds_toArray, List.set_cons_zero, List.set_cons_succ])
           iterate 2 ((first | refine plan_quiet (v := ?_) rfl rfl (fun w' hw' => ?_) ?_ | refine plan_calm (v := ?_) (tt_of) rfl (fun w' hw' => ?_) ?_); rotate_left; (focus (go_simp <;> (first | with_reducible rfl | (rw [if_neg (by simp [undef])]; try rfl) | (refine (rf2 _).mono ?_; rintro e w2 ⟨rfl, rfl⟩; constructor <;> with_reducible rfl)))); simp only [Act.put, List.setIfInBounds_toArray, List.set_cons_zero, List.set_cons_succ])
           refine plan_end ?_
           go_wp2_with fail
           go_ret
           exact ⟨by rw [HV.out]; rfl, hbw2.trans (hz1.mono hbw2.size)⟩
       · have hPI : PI = 0 := by rw [← HPI.out]; exact partI_low (by omega)
         subst hPI
         have HHT : Hid (headT 2 E = blockB (hdH E N []) false) := Lib.hid (by rw [headT, if_neg (by decide), ← HN.out, partT_low (by omega)]; rfl)
         clear HP HPI
         have HV : Hid (bs R = bs A2 ++ bs (blockB (hdH E N []) false)) := Lib.hid (by rw [HRA.out, HHT.out, bs_app])
         have cb := fun W => HBK.out (N.take 100) [] false W (by rw [List.length_take]; omega) (by simp)
         rw [HBE.out (N.take 100) [] N false (by rw [List.take_take]; rfl)] at cb
         have z1 : (bs (blockB (hdH E N []) false)).size = 512 := by rw [bs_size]; exact HBL.out N [] false
         generalize bs (blockB (hdH E N []) false) = X1 at cb z1 HV
         generalize bs (N.take 100) = F1 at cb rf1
         generalize bs (link.take 100) = F2 at cb rf2
         generalize bs [kindU kind] = F3 at cb ⊢
         have x2 : ¬ 9223372036854775807 < A2.length + 512 := by omega
         clear HBK HBE HBL HBK0
         go_upto_region 29 with fail
         have KS : ∀ W', Below W2.heap.size W2 W' → (fun W => W.cell? ⟨g, 0, none⟩ = some (.string (bs path)) ∧ W.cell? ⟨g, 1, none⟩ = some (.int .i64 kind) ∧ W.cell? ⟨g, 2, none⟩ = some (.int .i64 mo) ∧ W.cell? ⟨g, 3, none⟩ = some (.int .i64 ui) ∧ W.cell? ⟨g, 4, none⟩ = some (.int .i64 gi) ∧ W.cell? ⟨g, 5, none⟩ = some (.string (bs owner)) ∧ W.cell? ⟨g, 6, none⟩ = some (.string (bs group)) ∧ W.cell? ⟨g, 7, none⟩ = some (.int .i64 ti) ∧ W.cell? ⟨g, 8, none⟩ = some (.string (bs link)) ∧ W.cell? ⟨g, 9, none⟩ = some (.slice A data.length cap)) W' := fun W' hb => by
           have q := Kept.of_below hb nowhere
           exact ⟨q.cell d0 fun h => h, q.cell d1 fun h => h, q.cell d2' fun h => h, q.cell d3 fun h => h, q.cell d4 fun h => h, q.cell d5 fun h => h, q.cell d6 fun h => h, q.cell d7 fun h => h, q.cell d8 fun h => h, q.cell d9 fun h => h⟩
         refine wp_region_plan (fun W => W.cell? ⟨g, 0, none⟩ = some (.string (bs path)) ∧ W.cell? ⟨g, 1, none⟩ = some (.int .i64 kind) ∧ W.cell? ⟨g, 2, none⟩ = some (.int .i64 mo) ∧ W.cell? ⟨g, 3, none⟩ = some (.int .i64 ui) ∧ W.cell? ⟨g, 4, none⟩ = some (.int .i64 gi) ∧ W.cell? ⟨g, 5, none⟩ = some (.string (bs owner)) ∧ W.cell? ⟨g, 6, none⟩ = some (.string (bs group)) ∧ W.cell? ⟨g, 7, none⟩ = some (.int .i64 ti) ∧ W.cell? ⟨g, 8, none⟩ = some (.string (bs link)) ∧ W.cell? ⟨g, 9, none⟩ = some (.slice A data.length cap)) [(false, 0), (false, 1), (false, 2), (false, 3), (false, 4), (false, 5), (false, 6), (false, 7), (false, 8), (false, 9), (false, 10), (true, 11), (false, 12), (false, 13)] (by kernel_rfl) (by kernel_rfl) (KS _ ((Below.refl _ W2).drew)) ?_
         simp only [planOps, List.map, List.getD_cons_zero, List.getD_cons_succ]
         iterate 11 ((first | refine plan_quiet (v := ?_) rfl rfl (fun w' hw' => ?_) ?_ | refine plan_calm (v := ?_) (tt_of) rfl (fun w' hw' => ?_) ?_); rotate_left; (focus (go_simp <;> (first | with_reducible rfl | (rw [if_neg (by simp [undef])]; try rfl) | (with_reducible refine (rf1 _).mono ?_; rintro e w2 ⟨rfl, rfl⟩; constructor <;> with_reducible rfl) | (with_reducible refine (rf2 _).mono ?_; rintro e w2 ⟨rfl, rfl⟩; constructor <;> with_reducible rfl)))); simp only [Act.put, List.setIfInBounds_toArray, List.set_cons_zero, List.set_cons_succ])
         refine plan_loud rfl (fun K hK => ?_)
         go_simp
         have hz0 := (Below.refl W2.heap.size W2).drew
         refine (cb _).mono ?_
         rintro r Z1 ⟨rfl, hz⟩
         go_simp
         have hz1 := hz0.trans (hz.mono hz0.size)
         refine hK _ _ (KS _ hz1) ?_
         clear hK K
         (try simp only [Act.put, List.setIfInBounds_toArray, List.set_cons_zero, List.set_cons_succ])
         iterate 2 ((first | refine plan_quiet (v := ?_) rfl rfl (fun w' hw' => ?_) ?_ | refine plan_calm (v := ?_) (tt_of) rfl (fun w' hw' => ?_) ?_); rotate_left; (focus (go_simp <;> (first | with_reducible rfl | (rw [if_neg (by simp [undef])]; try rfl) | (with_reducible refine (rf1 _).mono ?_; rintro e w2 ⟨rfl, rfl⟩; constructor <;> with_reducible rfl) | (with_reducible refine (rf2 _).mono ?_; rintro e w2 ⟨rfl, rfl⟩; constructor <;> with_reducible rfl)))); simp only [Act.put, List.setIfInBounds_toArray, List.set_cons_zero, List.set_cons_succ])
         refine plan_end ?_
         go_wp2_with fail
         go_ret
         exact ⟨by rw [HV.out]; rfl, hbw2.trans (hz1.mono hbw2.size)⟩
end Go.Proofs.YtpheifdpjcppdaaGreatDoor
