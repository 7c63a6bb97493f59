/- rdep's dependencies and groups of all tokens; the walk of rdep.Parse. Printed by gen_rdj.py. -/
import Derived.Test.YtjdcegogkafmoaaDoorRdI
namespace Go.Proofs.YtjdcegogkafmoaaDoor
open Go.RowKit
theorem dep_all (B : Nat) : ∀ k, (∀ j, j ≤ k → DepK B j)
  | 0, j, hj => by
    intro ts n ar gr W _ _ _ _ _ _ _ _ _ hfu
    omega
  | k + 1, j, hj => by
    by_cases h : j ≤ k
    · exact dep_all B k j h
    · have : j = k + 1 := by omega
      subst this
      exact dependency_any B k (group_any B k fun i hi => dep_all B k i (by omega))
theorem tkR_wf (s : List UInt8) (hs : s.length ≤ 1000000) : ∀ (n p : Nat), s.length - p ≤ n → p ≤ s.length → WfT (tkR s p) ∧ (tkR s p).length ≤ s.length - p + 1
  | 0, p, hn, hp => by
    rw [tkR_end s p (by omega)]
    exact ⟨⟨by simp, by simp⟩, by simp⟩
  | n + 1, p, hn, hp => by
    obtain ⟨t, a, r, h1, h2, h3, h4, h5⟩ := tkR_ne s (n + 1) p hn hp
    rw [h1]
    by_cases ht : t = []
    · obtain ⟨h6, h7⟩ := h4 ht
      subst ht h6
      exact ⟨⟨by simp, by simp⟩, by simp⟩
    · obtain ⟨h6, _⟩ := h5 ht
      have hl : 0 < t.length := List.length_pos_iff.2 ht
      obtain ⟨h7, h8⟩ := tkR_wf s hs n (a + t.length) (by omega) h3
      rw [← h6] at h7 h8
      refine ⟨⟨by simp only; omega, ?_⟩, by simp only [List.length_cons]; omega⟩
      split
      · rename_i hr
        rw [hr] at h7
        exact h7.elim
      · exact ⟨ht, h7⟩
/-- What a text is. -/
def parseP (s : List UInt8) : PR := match depP (2 * s.length + 3) (tkR s 0) 0 0 with
  | .err a c => .err a c
  | .ok d ts n => if (hdT ts).1 = [] then .ok d ts n else .err (hdT ts).2 3
def ParseR (w : World) (s : List UInt8) (r : Ending) (w' : World) : Prop :=
  (match parseP s with
  | .err a c => c ≠ 0 ∧ r = .returned (.tuple #[.agg #[.string ⟨#[]⟩, .string ⟨#[]⟩, .int .i64 0, .string ⟨#[]⟩, .slice none 0 0], .agg #[.string ⟨#[]⟩, .int .i64 (a : Int), .int .i64 c]])
  | .ok d _ _ => ∃ kv, r = .returned (.tuple #[richV d kv, .agg #[.string ⟨#[]⟩, .int .i64 0, .int .i64 0]]) ∧ Sk 5 (Rr 40) (fun k => k < w.heap.size) w' kv d.kids) ∧ Below w.heap.size w w'
def FreeR {α : Type} (R : Rel α) : Prop := ∀ X Y w w' cs a, R X w cs a → R Y w' cs a
theorem OwnL.to {α : Type} {sz : Nat} {R : Rel α} {X Y : Nat → Prop} {w : World} {v : Value} {l : List α} {e : TypeId} {B : Nat} (F : FreeR R) (h : OwnL sz R e B X w v l) (hY : ∀ k, v.ownBlock = some k → ¬ Y k) : OwnL sz R e B Y w v l := by
  obtain ⟨css, ho, hl, hX, hR⟩ := h
  exact ⟨css, ho, hl, hY, fun j h h' => F _ _ _ _ _ _ (hR j h h')⟩
theorem free_prt : FreeR Rprt := fun _ _ _ _ _ _ h => h
theorem TT.lt {w : World} (h : TT w) : 4 ≤ w.heap.size := by
  have := lt_of_cell (h.2.2 0 (by decide))
  exact this
set_option maxRecDepth 20000 in
set_option maxHeartbeats 16000000 in
theorem rparse_any (s : List UInt8) (w : World) (hs : s.length ≤ 900000) (hT : TT w) : Calls Tryd.prog 6 #[.string (bs s)] w (ParseR w s) := by
  obtain ⟨hwf, hlen⟩ := tkR_wf s (by omega) s.length 0 (by omega) (Nat.zero_le _)
  have HP : Hid (parseP s = match depP (2 * s.length + 3) (tkR s 0) 0 0 with | .err a c => .err a c | .ok d ts n => if (hdT ts).1 = [] then .ok d ts n else .err (hdT ts).2 3) := Lib.hid rfl
  have hw4 := hT.lt
  have hpar := fun W => parts_any s W (by omega)
  obtain ⟨R, HR⟩ : ∃ R, Hid (parseP s = R) := ⟨_, Lib.hid rfl⟩
  rw [HR.out] at HP
  obtain ⟨W1, gA, gF, hW1, hgA, hgF, bA, bF, hb1, hA, hF⟩ := init2 w
  go_enter Tryd.func6, Tryd.ntmps6
  go_upto_region 1 with fail
  rw [← hW1, ← hgF, ← hgA]
  clear hW1 hgA hgF
  generalize hts : tkR s 0 = ts at hwf hlen HP hpar
  have HTS := Lib.hid hts
  clear hts
  go_upto_region 2 with (go_at_call 14; refine (hpar _).mono ?_; clear hpar; rintro rr W2 ⟨⟨vp, rfl, hown⟩, hb2⟩; obtain ⟨A, c, rfl⟩ := hown.form)
  have bR := Blk.new W2 45 #[.slice A ts.length c, .int .i64 0]
  have hq : Below W2.heap.size W2 (W2.alloc (.cells #[.slice A ts.length c, .int .i64 0] 45)) := (Below.refl _ _).alloc (Nat.le_refl _) _
  have hsl : Sl 2 Rprt (fun k => k = W2.heap.size ∨ W2.heap.size ≤ k) W2 (.slice A ts.length c) ts := (hown.to free_prt fun k hk h => by
    have := (ownL_notX hown hk).2
    omega).sl good_prt
  have rs : RS W2.heap.size (W2.alloc (.cells #[.slice A ts.length c, .int .i64 0] 45)) W2.heap.size ts 0 := ⟨A, c, bR, Below.sl good_prt hq hsl⟩
  have hAF : gA ≠ gF := blkNe bA bF (by decide)
  have hFA : gF ≠ gA := fun e => hAF e.symm
  have hb3 := hb1.trans (hb2.mono hb1.size)
  have hbw := hb3.trans (hq.mono hb3.size)
  have bA3 := (bA.below hb2 bA.lt).below hq (bA.below hb2 bA.lt).lt
  have bF3 := (bF.below hb2 bF.lt).below hq (bF.below hb2 bF.lt).lt
  have hAr : gA ≠ W2.heap.size := fun e => by have := (bA.below hb2 bA.lt).lt; omega
  have hFr : gF ≠ W2.heap.size := fun e => by have := (bF.below hb2 bF.lt).lt; omega
  have h4r : 4 ≤ W2.heap.size := by have := hb3.size; omega
  have hrH : w.heap.size ≤ W2.heap.size := hb3.size
  have TTW := hT.keep (Kept.of_below hbw nowhere) (fun _ _ h => h)
  have hsz3 : W2.heap.size ≤ (W2.alloc (.cells #[.slice A ts.length c, .int .i64 0] 45)).heap.size := hq.size
  clear hq hsl hown hb1 hb2 hb3 bA bF bR
  generalize W2.alloc (.cells #[.slice A ts.length c, .int .i64 0] 45) = W3 at rs hbw bA3 bF3 TTW hsz3 ⊢
  generalize hBB : W2.heap.size = gr at rs hAr hFr h4r hrH hsz3 ⊢
  have hdep := dep_all gr (2 * s.length + 3) _ (Nat.le_refl _) ts 0 0 gr W3 rs hwf hwf.bd (by omega) (by omega) TTW h4r hsz3 (by omega) (by omega)
  have hdep : Calls Tryd.prog 15 #[.pointer (some ⟨gr, 0, none⟩), .int .i64 0] W3 (DepR gr W3 gr 40 ts.length (depP (2 * s.length + 3) ts 0 0)) := hdep
  obtain ⟨PRr, HPRr⟩ : ∃ x, Hid (depP (2 * s.length + 3) ts 0 0 = x) := ⟨_, Lib.hid rfl⟩
  rw [HPRr.out] at hdep HP
  clear hBB TTW HTS rs
  cases PRr with
  | err ea ec =>
    go_upto_region 3 with (go_at_call 15; refine hdep.mono ?_; clear hdep; rintro rr W5 ⟨hk5, hec, rfl⟩)
    have HV : Hid (R = .err ea ec) := HP
    have HEC : Hid (ec ≠ 0) := Lib.hid hec
    have bA5 := hk5.blk bA3 hAr
    have bF5 := hk5.blk bF3 hFr
    have hb5 := hbw.trans (hk5.below hbw.size fun k _ e => by rw [e]; exact hrH)
    obtain ⟨W6, gK, gE, hW6, hgK, hgE, bK, bE, hb6, hK, hE⟩ := two_alloc W5 #[.string ⟨#[]⟩, .string ⟨#[]⟩, .int .i64 0, .string ⟨#[]⟩, .slice none 0 0] #[.string ⟨#[]⟩, .int .i64 (ea : Int), .int .i64 ec]
    rw [← hW6, ← hgE, ← hgK]
    have hEA : gE ≠ gA := fun e => by have := bA5.lt; omega
    have hEF : gE ≠ gF := fun e => by have := bF5.lt; omega
    have bA6 := bA5.below hb6 bA5.lt
    have bF6 := bF5.below hb6 bF5.lt
    have hbl6 := hb5.trans (hb6.mono hb5.size)
    have x0 := bE.cell 0
    have x1 := bE.cell 1
    have x2 := bE.cell 2
    simp at x0 x1 x2
    have qec : (ec != 0) = true := by simpa using hec
    have qec2 : (ec == 0) = false := by simpa using hec
    clear hW6 hgK hgE bK bE hb6 hK hE bA5 bF5 hb5 hk5 HP hec
    obtain ⟨e0, e1, e2, e3, e4, f0, f1, f2, eA, eF⟩ := outs2 bA6 bF6
    have eA0 := eA 0
    have eA1 := eA 1
    have eA2 := eA 2
    have eA3 := eA 3
    have eA4 := eA 4
    have eF0 := eF 0
    have eF1 := eF 1
    have eF2 := eF 2
    go_upto_region 6 with fail
    refine wp_region_plan (fun W => W.cell? ⟨gE, 0, none⟩ = some (.string ⟨#[]⟩) ∧ W.cell? ⟨gE, 1, none⟩ = some (.int .i64 ((ea : Int))) ∧ W.cell? ⟨gE, 2, none⟩ = some (.int .i64 (ec))) [(false, 0), (false, 1), (true, 2), (true, 3)] (by kernel_rfl) (by kernel_rfl) (⟨x0, x1, x2⟩) ?_
    simp only [planOps, List.map, List.getD_cons_zero, List.getD_cons_succ]
    iterate 2 ((first | refine plan_quiet (v := ?_) rfl rfl (fun w' hw' => ?_) ?_ | refine plan_calm (v := ?_) (tt_of) rfl (fun w' hw' => ?_) ?_); rotate_left; (focus (go_simp <;> (first | with_reducible rfl | (rw [if_neg (by simp [undef])]; try rfl) | omega))); simp only [Act.put, List.setIfInBounds_toArray, List.set_cons_zero, List.set_cons_succ])
    refine plan_loud rfl (fun K hK => ?_)
    go_simp
    have kS := (kept_set5 W6 gA (.string ⟨#[]⟩) (.string ⟨#[]⟩) (.int .i64 0) (.string ⟨#[]⟩) (.slice none 0 0)).drew
    refine hK _ _ (⟨kS.cell x0 hEA, kS.cell x1 hEA, kS.cell x2 hEA⟩) ?_
    clear hK K
    (try simp only [Act.put, List.setIfInBounds_toArray, List.set_cons_zero, List.set_cons_succ])
    refine plan_loud rfl (fun K hK => ?_)
    go_simp
    have kT := kept_set53 W6 gA gF (.string ⟨#[]⟩) (.string ⟨#[]⟩) (.int .i64 0) (.string ⟨#[]⟩) (.slice none 0 0) (.string ⟨#[]⟩) (.int .i64 ((ea : Int))) (.int .i64 (ec))
    have kT := kT.drew
    have hEE : ¬ (gE = gA ∨ gE = gF) := fun h => h.elim hEA hEF
    refine hK _ _ (⟨kT.cell x0 hEE, kT.cell x1 hEE, kT.cell x2 hEE⟩) ?_
    clear hK K
    (try simp only [Act.put, List.setIfInBounds_toArray, List.set_cons_zero, List.set_cons_succ])
    refine plan_end ?_
    clear kS kT x0 x1 x2
    go_wp2_with fail

    obtain ⟨W9, hW9, c1, c2, k9⟩ := ret_mem bA6 bF6 (.string ⟨#[]⟩) (.string ⟨#[]⟩) (.int .i64 0) (.string ⟨#[]⟩) (.slice none 0 0) (.string ⟨#[]⟩) (.int .i64 ((ea : Int))) (.int .i64 (ec))
    rw [← hW9]
    have hk9 : Below w.heap.size w W9.drew := (hbl6.trans (k9.below (Nat.le_trans (Nat.le_refl _) hbl6.size) fun k _ h => h.elim (fun e => by rw [e]; exact hA) (fun e => by rw [e]; exact hF))).drew
    have k0 := c1.cell 0
    have k1 := c1.cell 1
    have k2 := c1.cell 2
    have k3 := c1.cell 3
    have k4 := c1.cell 4
    have m0 := c2.cell 0
    have m1 := c2.cell 1
    have m2 := c2.cell 2
    simp at k0 k1 k2 k3 k4 m0 m1 m2
    refine bodyPost_ret (v := .tuple #[.agg #[.string ⟨#[]⟩, .string ⟨#[]⟩, .int .i64 0, .string ⟨#[]⟩, .slice none 0 0], .agg #[.string ⟨#[]⟩, .int .i64 ((ea : Int)), .int .i64 (ec)]]) (by simp [results, Tryd.results6, go_sem, k0, k1, k2, k3, k4, m0, m1, m2]) rfl ?_

    unfold ParseR
    rw [HR.out, HV.out]
    exact And.intro (And.intro HEC.out rfl) hk9
  | ok dd tt nn =>
    obtain ⟨kop, kname, kaop, kver, kkids⟩ := dd
    have hA3 := bA3.lt
    have hF3 := bF3.lt
    go_upto_region 3 with (go_at_call 15; refine hdep.mono ?_; clear hdep; rintro rr W5 ⟨hk5, ⟨kv, rfl, hkv⟩, hwf5, hlen5, hrs5, hn5⟩; obtain ⟨Ak, ck, rfl, _, _⟩ := hkv.form; simp only [richV, richC, Rdp.op, Rdp.name, Rdp.aop, Rdp.ver, Rdp.kids] at hkv ⊢)
    obtain ⟨p1, r1, rfl⟩ := hwf5.ne
    have HP2 : Hid (R = if p1.1 = [] then .ok (.mk kop kname kaop kver kkids) (p1 :: r1) nn else .err p1.2 3) := HP
    have bA5 := hk5.blk bA3 hAr
    have bF5 := hk5.blk bF3 hFr
    have hb5 := hbw.trans (hk5.below hbw.size fun k _ e => by rw [e]; exact hrH)
    have hws := hbw.size
    obtain ⟨W6, gK, gE, hW6, hgK, hgE, bK, bE, hb6, hK, hE⟩ := two_alloc W5 #[.string (bs kop), .string (bs kname), .int .i64 kaop, .string (bs kver), .slice Ak kkids.length ck] #[.string ⟨#[]⟩, .int .i64 0, .int .i64 0]
    rw [← hW6, ← hgE, ← hgK]
    have hEA : gE ≠ gA := fun e => by have := bA5.lt; omega
    have hEF : gE ≠ gF := fun e => by have := bF5.lt; omega
    have hEr : gE ≠ gr := fun e => by have := hrs5.lt; omega
    have hEge : w.heap.size ≤ gE := by have := hb5.size; omega
    have hE3 : W3.heap.size ≤ gE := by have := hk5.size; omega
    have bA6 := bA5.below hb6 bA5.lt
    have bF6 := bF5.below hb6 bF5.lt
    have hbl6 := hb5.trans (hb6.mono hb5.size)
    have rs6 := hrs5.below hb6
    have hkv6 := Below.sk (good_rich 40) hb6 hkv
    have x0 := bE.cell 0
    have x1 := bE.cell 1
    have x2 := bE.cell 2
    have xf0 := bE.frozen 0
    have xf1 := bE.frozen 1
    have xf2 := bE.frozen 2
    have u0 := bK.cell 0
    have u1 := bK.cell 1
    have u2 := bK.cell 2
    have u3 := bK.cell 3
    have u4 := bK.cell 4
    simp at x0 x1 x2 u0 u1 u2 u3 u4
    obtain ⟨b, off, cc, z0, z1, t0, t1, zf⟩ := rs6.first
    clear hW6 hgK hgE hb6 bA5 bF5 hb5 hk5 HP hkv hrs5
    have e1 := eqS p1.1 []
    have e1b : (bs p1.1).toList.isEmpty = decide (p1.1 = []) := by rw [toList_bs, Bool.eq_iff_iff]; simp
    by_cases hp1 : p1.1 = []
    · have HV : Hid (R = .ok (.mk kop kname kaop kver kkids) (p1 :: r1) nn) := Lib.hid (by rw [HP2.out, if_pos hp1])
      rw [decide_eq_true hp1] at e1 e1b
      clear HP2 hp1
      obtain ⟨e0, e1, e2, e3, e4, f0, f1, f2, eA, eF⟩ := outs2 bA6 bF6
      have eA0 := eA 0
      have eA1 := eA 1
      have eA2 := eA 2
      have eA3 := eA 3
      have eA4 := eA 4
      have eF0 := eF 0
      have eF1 := eF 1
      have eF2 := eF 2
      go_wp2_with fail
      obtain ⟨W9, hW9, c1, c2, k9⟩ := ret_mem bA6 bF6 (.string (bs kop)) (.string (bs kname)) (.int .i64 kaop) (.string (bs kver)) (.slice Ak kkids.length ck) (.string ⟨#[]⟩) (.int .i64 0) (.int .i64 0)
      rw [← hW9]
      have hk9 : Below w.heap.size w W9 := (hbl6.trans (k9.below (Nat.le_trans (Nat.le_refl _) hbl6.size) fun k _ h => h.elim (fun e => by rw [e]; exact hA) (fun e => by rw [e]; exact hF)))
      have k0 := c1.cell 0
      have k1 := c1.cell 1
      have k2 := c1.cell 2
      have k3 := c1.cell 3
      have k4 := c1.cell 4
      have m0 := c2.cell 0
      have m1 := c2.cell 1
      have m2 := c2.cell 2
      simp at k0 k1 k2 k3 k4 m0 m1 m2
      refine bodyPost_ret (v := .tuple #[.agg #[.string (bs kop), .string (bs kname), .int .i64 kaop, .string (bs kver), .slice Ak kkids.length ck], .agg #[.string ⟨#[]⟩, .int .i64 0, .int .i64 0]]) (by simp [results, Tryd.results6, go_sem, k0, k1, k2, k3, k4, m0, m1, m2]) rfl ?_

      have hkv9 : Sk 5 (Rr 40) (fun k => k < w.heap.size) W9 (.slice Ak kkids.length ck) kkids := (hkv6.keep (good_rich _) (k9.mono fun i _ hi => hi.elim (fun e => by rw [e]; exact hA3) (fun e => by rw [e]; exact hF3))).mono (good_rich _) (by omega) fun i _ hi => Nat.lt_of_lt_of_le hi hws
      unfold ParseR
      rw [HR.out, HV.out]
      exact And.intro ⟨_, rfl, hkv9⟩ hk9
    · have HV : Hid (R = .err p1.2 3) := Lib.hid (by rw [HP2.out, if_neg hp1])
      have HEC : Hid ((3 : Int) ≠ 0) := Lib.hid (by decide)
      rw [decide_eq_false hp1] at e1 e1b
      clear HP2 hp1
      go_upto_region 5 with (go_at_call 16; refine (fault_any p1.1 p1.2 3 _).mono ?_; rintro rr W7 ⟨rfl, hb8⟩; have bE7 := bE.below hb8 bE.lt; have v0 := bE7.cell 0; have v1 := bE7.cell 1; have v2 := bE7.cell 2; have w0 := bE7.frozen 0; have w1 := bE7.frozen 1; have w2 := bE7.frozen 2; simp at v0 v1 v2)
      have bA7 := bA6.below hb8 bA6.lt
      have bF7 := bF6.below hb8 bF6.lt
      have hbl7 := hbl6.trans (hb8.mono hbl6.size)
      have bE8 := blk_of3 bE7 (.string ⟨#[]⟩) (.int .i64 (p1.2 : Int)) (.int .i64 3)
      have kE : Kept (fun k => k = gE) W7 (((W7.setCell ⟨gE, 0, none⟩ (.string ⟨#[]⟩)).setCell ⟨gE, 1, none⟩ (.int .i64 (p1.2 : Int))).setCell ⟨gE, 2, none⟩ (.int .i64 3)) := (((Kept.refl (fun k => k = gE) W7).setCell (p := ⟨gE, 0, none⟩) (.string ⟨#[]⟩) fun _ => rfl).setCell (p := ⟨gE, 1, none⟩) (.int .i64 (p1.2 : Int)) fun _ => rfl).setCell (p := ⟨gE, 2, none⟩) (.int .i64 3) fun _ => rfl
      have bA8 := kE.blk bA7 (fun e => hEA e.symm)
      have bF8 := kE.blk bF7 (fun e => hEF e.symm)
      have hbl8 := hbl7.trans (kE.below hbl7.size fun k _ e => by rw [e]; exact hEge)
      clear x0 x1 x2 xf0 xf1 xf2 u0 u1 u2 u3 u4 z0 z1 t0 t1 zf bE bE7 v0 v1 v2 w0 w1 w2 bA6 bF6 bA7 bF7 hbl6 hbl7 kE hb8 rs6 hkv6 bK e1 e1b
      generalize ((W7.setCell ⟨gE, 0, none⟩ (.string ⟨#[]⟩)).setCell ⟨gE, 1, none⟩ (.int .i64 (p1.2 : Int))).setCell ⟨gE, 2, none⟩ (.int .i64 3) = W6 at bA8 bF8 bE8 hbl8 ⊢
      have bA6 := bA8
      have bF6 := bF8
      have hbl6 := hbl8
      have x0 := bE8.cell 0
      have x1 := bE8.cell 1
      have x2 := bE8.cell 2
      simp at x0 x1 x2
      obtain ⟨e0, e1, e2, e3, e4, f0, f1, f2, eA, eF⟩ := outs2 bA6 bF6
      have eA0 := eA 0
      have eA1 := eA 1
      have eA2 := eA 2
      have eA3 := eA 3
      have eA4 := eA 4
      have eF0 := eF 0
      have eF1 := eF 1
      have eF2 := eF 2
      go_upto_region 6 with fail
      refine wp_region_plan (fun W => W.cell? ⟨gE, 0, none⟩ = some (.string ⟨#[]⟩) ∧ W.cell? ⟨gE, 1, none⟩ = some (.int .i64 ((p1.2 : Int))) ∧ W.cell? ⟨gE, 2, none⟩ = some (.int .i64 (3))) [(false, 0), (false, 1), (true, 2), (true, 3)] (by kernel_rfl) (by kernel_rfl) (⟨x0, x1, x2⟩) ?_
      simp only [planOps, List.map, List.getD_cons_zero, List.getD_cons_succ]
      iterate 2 ((first | refine plan_quiet (v := ?_) rfl rfl (fun w' hw' => ?_) ?_ | refine plan_calm (v := ?_) (tt_of) rfl (fun w' hw' => ?_) ?_); rotate_left; (focus (go_simp <;> (first | with_reducible rfl | (rw [if_neg (by simp [undef])]; try rfl) | omega))); simp only [Act.put, List.setIfInBounds_toArray, List.set_cons_zero, List.set_cons_succ])
      refine plan_loud rfl (fun K hK => ?_)
      go_simp
      have kS := (kept_set5 W6 gA (.string ⟨#[]⟩) (.string ⟨#[]⟩) (.int .i64 0) (.string ⟨#[]⟩) (.slice none 0 0)).drew
      refine hK _ _ (⟨kS.cell x0 hEA, kS.cell x1 hEA, kS.cell x2 hEA⟩) ?_
      clear hK K
      (try simp only [Act.put, List.setIfInBounds_toArray, List.set_cons_zero, List.set_cons_succ])
      refine plan_loud rfl (fun K hK => ?_)
      go_simp
      have kT := kept_set53 W6 gA gF (.string ⟨#[]⟩) (.string ⟨#[]⟩) (.int .i64 0) (.string ⟨#[]⟩) (.slice none 0 0) (.string ⟨#[]⟩) (.int .i64 ((p1.2 : Int))) (.int .i64 (3))
      have kT := kT.drew
      have hEE : ¬ (gE = gA ∨ gE = gF) := fun h => h.elim hEA hEF
      refine hK _ _ (⟨kT.cell x0 hEE, kT.cell x1 hEE, kT.cell x2 hEE⟩) ?_
      clear hK K
      (try simp only [Act.put, List.setIfInBounds_toArray, List.set_cons_zero, List.set_cons_succ])
      refine plan_end ?_
      clear kS kT x0 x1 x2
      go_wp2_with fail

      obtain ⟨W9, hW9, c1, c2, k9⟩ := ret_mem bA6 bF6 (.string ⟨#[]⟩) (.string ⟨#[]⟩) (.int .i64 0) (.string ⟨#[]⟩) (.slice none 0 0) (.string ⟨#[]⟩) (.int .i64 ((p1.2 : Int))) (.int .i64 (3))
      rw [← hW9]
      have hk9 : Below w.heap.size w W9.drew := (hbl6.trans (k9.below (Nat.le_trans (Nat.le_refl _) hbl6.size) fun k _ h => h.elim (fun e => by rw [e]; exact hA) (fun e => by rw [e]; exact hF))).drew
      have k0 := c1.cell 0
      have k1 := c1.cell 1
      have k2 := c1.cell 2
      have k3 := c1.cell 3
      have k4 := c1.cell 4
      have m0 := c2.cell 0
      have m1 := c2.cell 1
      have m2 := c2.cell 2
      simp at k0 k1 k2 k3 k4 m0 m1 m2
      refine bodyPost_ret (v := .tuple #[.agg #[.string ⟨#[]⟩, .string ⟨#[]⟩, .int .i64 0, .string ⟨#[]⟩, .slice none 0 0], .agg #[.string ⟨#[]⟩, .int .i64 ((p1.2 : Int)), .int .i64 (3)]]) (by simp [results, Tryd.results6, go_sem, k0, k1, k2, k3, k4, m0, m1, m2]) rfl ?_

      unfold ParseR
      rw [HR.out, HV.out]
      exact And.intro (And.intro HEC.out rfl) hk9
end Go.Proofs.YtjdcegogkafmoaaDoor

