/- The walk of the reference's Parse of cores. (printed by gen_rvparse.py) -/
import Derived.Test.YtdfpdmddiapnmaaGreatDoorVmM
import Derived.Test.YtdfpdmddiapnmaaGreatDoorVmF
import Derived.Test.YtdfpdmddiapnmaaGreatDoorVerW
namespace Go.Proofs.YtdfpdmddiapnmaaGreatDoor
open Go.RowKit
theorem dropAt (s : List UInt8) (k : Nat) (h : k < s.length) (h' : k < (bs s).size) : s.drop k = (bs s)[k]'h' :: s.drop (k + 1) := List.drop_eq_getElem_cons h
/-- What the document makes of a candidate. -/
def refFin (f : Int) (s : List UInt8) : Option Co → Co × Int
  | none => (co0, 11)
  | some c => if prC f c = (s, 0) then (c, 0) else (co0, 11)
theorem refPa_eq (f : Int) (s : List UInt8) : refPa f s = if vErr f s = 0 then refFin f s (refCand f s) else (co0, vErr f s) := by
  unfold refPa
  split
  · cases refCand f s <;> rfl
  · rfl
theorem cand_ep (f : Int) (s : List UInt8) (e : Int) (r : List UInt8) (h : epLoop s s 0 s = some (e, r)) : refCand f s = refNums f e (numsR r []) := by
  unfold refCand; rw [h]
theorem cand_no (f : Int) (s : List UInt8) (h : epLoop s s 0 s = none) : refCand f s = none := by
  unfold refCand; rw [h]
theorem ep_hit (s t : List UInt8) (e : Int) (r : List UInt8) (n : Int) (q : List UInt8) (h : takeR s = some (n, q)) : epLoop s (58 :: t) e r = epLoop s t n t := by
  rw [epLoop, if_pos rfl, h]
theorem ep_bad (s t : List UInt8) (e : Int) (r : List UInt8) (h : takeR s = none) : epLoop s (58 :: t) e r = none := by
  rw [epLoop, if_pos rfl, h]
theorem ep_skip (s t : List UInt8) (c : UInt8) (e : Int) (r : List UInt8) (h : c ≠ 58) : epLoop s (c :: t) e r = epLoop s t e r := by
  rw [epLoop, if_neg h]
theorem pre_stay (f : Int) (L : List (List UInt8)) : L.foldl (preStep f) none = none := by
  induction L with
  | nil => rfl
  | cons a L ih => exact ih
theorem pre_fold (f : Int) (r : List UInt8) (k : Nat) (hk : k < 4) : (presL.take (k + 1)).foldl (preStep f) (some ([], 0, r)) = preStep f ((presL.take k).foldl (preStep f) (some ([], 0, r))) (wordV k) := by
  obtain rfl | rfl | rfl | rfl : k = 0 ∨ k = 1 ∨ k = 2 ∨ k = 3 := by omega
  all_goals rfl
theorem pre_split (f : Int) (r : List UInt8) (k : Nat) : preR f r = (presL.drop k).foldl (preStep f) ((presL.take k).foldl (preStep f) (some ([], 0, r))) := by
  unfold preR
  rw [← List.foldl_append, List.take_append_drop]
def letB : List UInt8 → Bool
  | c :: _ => isSmall c
  | [] => false
theorem letR_no (q : List UInt8) (h : letB q = false) : letR q = ([], q) := by
  cases q with
  | nil => rfl
  | cons c t => have h' : isSmall c = false := h; simp [letR, h']
theorem letB_yes (q : List UInt8) (h : letB q = true) : ∃ c t, q = c :: t ∧ isSmall c = true := by
  cases q with
  | nil => cases h
  | cons c t => exact ⟨c, t, rfl, h⟩
theorem letR_len (q : List UInt8) : (letR q).1.length ≤ 1 ∧ (letR q).2.length ≤ q.length := by
  unfold letR
  split
  · split
    · simp
    · simp
  · simp
theorem past_le (s : List UInt8) (n : Int) (q : List UInt8) (h : takeR s = some (n, q)) : q.length < s.length := takeR_lt s n q h
set_option maxRecDepth 100000 in
set_option maxHeartbeats 32000000 in
theorem rvparse_any (f : Int) (s : List UInt8) (w : World) (hl : s.length ≤ 2000) :
    Calls Tryz.prog 9 #[.int .i64 f, .string (bs s)] w (GivesCo w (paC f s)) := by
  rw [← ref_pa f s]
  have HP := Lib.hid (refPa_eq f s)
  have hb0 : Below w.heap.size w (par0 w) := (Below.refl _ _).alloc (Nat.le_refl _) _
  have h0 : (par0 w).heap.size = w.heap.size + 1 := by simp [par0]
  have hB0 : Blk (par0 w) w.heap.size 24 #[.int .i64 0, .slice none 0 0, .string ⟨#[]⟩, .string ⟨#[]⟩, .int .i64 0, .int .i64 0] := Blk.new w _ _
  have hgt0 : w.heap.size < (par0 w).heap.size := by omega
  clear h0
  have hz := bs_size
  go_enter Tryz.func9, Tryz.ntmps9
  go_upto_region 1 with fail
  have hW : par0 w = w.alloc (.cells #[.int .i64 0, .slice none 0 0, .string ⟨#[]⟩, .string ⟨#[]⟩, .int .i64 0, .int .i64 0] 24) := rfl
  rw [← hW]
  clear hW
  go_wp2_with fail
  refine (rcheck_any f s _ (by omega)).mono ?_
  rintro e w1 ⟨rfl, hb1⟩
  obtain ⟨er, Her⟩ : ∃ er, Hid (vErr f s = er) := ⟨_, Lib.hid rfl⟩
  rw [Her.out]
  by_cases her : er = 0
  · subst her
    have HP2 : Hid (refPa f s = refFin f s (refCand f s)) := Lib.hid (by rw [HP.out, if_pos Her.out])
    have HBad : Hid (∀ h : refCand f s = none, refPa f s = (co0, 11)) := Lib.hid (fun h => by rw [HP2.out, h]; rfl)
    have hl64 : s.length ≤ 64 := (vErr_small f s Her.out).1
    have t1 := paW0 w w1 hb1
    clear hb1 hb0 hB0 hgt0 HP
    go_upto_region 5 with fail
    have hW : par0 w1 = w1.alloc (.cells #[.int .i64 0, .slice none 0 0, .string ⟨#[]⟩, .string ⟨#[]⟩, .int .i64 0, .int .i64 0] 24) := rfl
    rw [← hW]
    clear hW
    generalize w1.heap.size = g at t1 ⊢
    generalize par0 w1 = w2 at t1 ⊢
    clear w1
    go_wp2_with fail
    go_loopg [8, 9] s.length (fun G s8 s9 wx => ∃ (k : Nat) (e : Int) (q : List UInt8), k ≤ s.length ∧ G = s.length - k ∧ s9 = .int .i64 k ∧ s8 = .string (bs q) ∧ q.length ≤ 64 ∧ PaW w g e (.slice none 0 0) ⟨#[]⟩ ⟨#[]⟩ 0 0 wx ∧ Hid (epLoop s s 0 s = epLoop s (s.drop k) e q))
    case atStart => exact ⟨0, 0, s, Nat.zero_le _, rfl, rfl, rfl, hl64, t1, Lib.hid rfl⟩
    case round =>
      clear t1
      obtain ⟨k, e, q, hk, rfl, rfl, rfl, hq, tk, HE⟩ := hrel
      by_cases hlt : k < s.length
      · have hks2 : k < (bs s).size := by rw [bs_size]; exact hlt
        have HD := Lib.hid (dropAt s k hlt hks2)
        obtain ⟨d0, d1, d2, d3, d4, d5⟩ := tk.cells
        have g0 := tk.blk.frozen 0
        by_cases hc : (bs s)[k]'hks2 = 58
        · have hb : ((((bs s)[k]'hks2).toNat : Int) == 58) = true := (beq_byte _ 58).trans (by simpa using hc)
          have HE2 : Hid (epLoop s s 0 s = epLoop s (58 :: s.drop (k + 1)) e q) := Lib.hid (by rw [HE.out, HD.out, hc])
          have cT := gtake_any s wr (by omega)
          clear hc HE
          cases hT : takeR s with
          | none =>
            have HV : Hid (refPa f s = (co0, 11)) := Lib.hid (HBad.out (cand_no f s (by rw [HE2.out, ep_bad _ _ _ _ hT])))
            rw [hT, show gotV none = .agg #[.int .i64 0, .string ⟨#[]⟩, .bool false] from rfl] at cT
            go_wp2_with fail
            refine cT.mono ?_
            rintro e' w3 ⟨rfl, hb3⟩
            have hB3 : Below wr.heap.size wr (w3.alloc (.cells #[.int .i64 0, .string ⟨#[]⟩, .bool false] 54)) := hb3.alloc hb3.size _
            have X3 := Blk.new w3 54 #[.int .i64 0, .string ⟨#[]⟩, .bool false]
            have t3 := tk.keep' hB3
            have hg3 : g < w3.heap.size := Nat.lt_of_lt_of_le tk.lt' hb3.size
            go_upto_region 11 with fail
            generalize w3.alloc (.cells #[.int .i64 0, .string ⟨#[]⟩, .bool false] 54) = W3 at t3 X3 hB3 ⊢
            generalize w3.heap.size = gx3 at X3 hg3 ⊢
            have x0 := X3.cell 0
            have x1 := X3.cell 1
            have x2 := X3.cell 2
            simp at x0 x1 x2
            have r0 := t3.res.cell 0
            have r1 := t3.res.cell 1
            have r2 := t3.res.cell 2
            have r3 := t3.res.cell 3
            have r4 := t3.res.cell 4
            have r5 := t3.res.cell 5
            have f0 := t3.res.frozen 0
            have f1 := t3.res.frozen 1
            have f2 := t3.res.frozen 2
            have f3 := t3.res.frozen 3
            have f4 := t3.res.frozen 4
            have f5 := t3.res.frozen 5
            simp at r0 r1 r2 r3 r4 r5
            go_wp2_with fail
            have hB2 := (((((t3.res.set (u := .int .i64 0) 0).set (u := .slice none 0 0) 1).set (u := .string ⟨#[]⟩) 2).set (u := .string ⟨#[]⟩) 3).set (u := .int .i64 0) 4).set (u := .int .i64 0) 5
            have z0 := hB2.cell 0
            have z1 := hB2.cell 1
            have z2 := hB2.cell 2
            have z3 := hB2.cell 3
            have z4 := hB2.cell 4
            have z5 := hB2.cell 5
            refine bodyPost_ret (v := .tuple #[coV co0 (.slice none 0 0), .int .i64 11]) (by simp [results, Tryz.results9, go_sem, z0, z1, z2, z3, z4, z5]; rfl) rfl ?_
            rw [HV.out]
            refine ⟨_, rfl, Sl.nil _ _ _ _, ?_⟩
            exact ((((((t3.below.setCell (by simp) _).setCell (by simp) _).setCell (by simp) _).setCell (by simp) _).setCell (by simp) _).setCell (by simp) _)
          | some y =>
            obtain ⟨n, q2⟩ := y
            have HE3 : Hid (epLoop s s 0 s = epLoop s (s.drop (k + 1)) n (s.drop (k + 1))) := Lib.hid (by rw [HE2.out, ep_hit _ _ _ _ _ _ hT])
            rw [hT, show gotV (some (n, q2)) = .agg #[.int .i64 n, .string (bs q2), .bool true] from rfl] at cT
            have hy : (bs s).extract (k + 1) s.length = bs (s.drop (k + 1)) := by
              have := ext_drop (bs s) (k + 1)
              rw [bs_size] at this
              exact this
            have i1 : (k : Int) + 1 ≤ (s.length : Int) := by omega
            have hql : (s.drop (k + 1)).length ≤ 64 := by rw [List.length_drop]; omega
            clear hT HE2
            go_wp2_with fail
            refine cT.mono ?_
            rintro e' w3 ⟨rfl, hb3⟩
            have hB3 : Below wr.heap.size wr (w3.alloc (.cells #[.int .i64 n, .string (bs q2), .bool true] 54)) := hb3.alloc hb3.size _
            have X3 := Blk.new w3 54 #[.int .i64 n, .string (bs q2), .bool true]
            have t3 := tk.keep' hB3
            have hg3 : g < w3.heap.size := Nat.lt_of_lt_of_le tk.lt' hb3.size
            go_upto_region 11 with fail
            generalize w3.alloc (.cells #[.int .i64 n, .string (bs q2), .bool true] 54) = W3 at t3 X3 hB3 ⊢
            generalize w3.heap.size = gx3 at X3 hg3 ⊢
            have x0 := X3.cell 0
            have x1 := X3.cell 1
            have x2 := X3.cell 2
            simp at x0 x1 x2
            clear d0 d1 d2 d3 d4 d5 g0
            obtain ⟨d0, d1, d2, d3, d4, d5⟩ := t3.cells
            have g0 := t3.blk.frozen 0
            go_wp2_with fail
            go_roundg (s.length - (k + 1))
            case measure => omega
            case rel => exact ⟨k + 1, n, s.drop (k + 1), by omega, rfl, by go_num, rfl, hql, t3.sets 0 _ rfl, HE3⟩
        · have hb : ((((bs s)[k]'hks2).toNat : Int) == 58) = false := (beq_byte _ 58).trans (by simpa using hc)
          have HE2 : Hid (epLoop s s 0 s = epLoop s (s.drop (k + 1)) e q) := Lib.hid (by rw [HE.out, HD.out, ep_skip _ _ _ _ _ hc])
          clear hc HE
          go_wp2_with fail
          go_roundg (s.length - (k + 1))
          case measure => omega
          case rel => exact ⟨k + 1, e, q, by omega, rfl, by go_num, rfl, hq, tk, HE2⟩
      · obtain rfl : k = s.length := by omega
        have HC1 : Hid (refCand f s = refNums f e (numsR q [])) := Lib.hid (cand_ep f s e q (by rw [HE.out, List.drop_length]; rfl))
        clear HE hlt hk
        go_wp2_with fail
        obtain ⟨wo, rfl⟩ : ∃ wo : World, wo = wr := ⟨_, rfl⟩
        go_loopg [8] q.length (fun G s8 wx => ∃ (r : List UInt8) (acc : List Int) (nv : Value), G = r.length ∧ s8 = .string (bs r) ∧ acc.length + r.length ≤ 64 ∧ PaW w g e nv ⟨#[]⟩ ⟨#[]⟩ 0 0 wx ∧ wx.ownsRow (g + 1) 3 1 nv acc.length (ivs acc) ∧ Hid (numsR q [] = numsR r acc))
        case atStart => exact ⟨q, [], _, rfl, rfl, by simpa using hq, tk, World.ownsRow_nil _ _ _ _, Lib.hid rfl⟩
        case round =>
          clear tk
          obtain ⟨r, acc, nv, rfl, rfl, hlr, tk, hown, HN⟩ := hrel
          obtain ⟨A6, c6, rfl⟩ := own_form hown
          have cT := gtake_any r wr (by omega)
          cases hT : takeR r with
          | none =>
            have HV : Hid (refPa f s = (co0, 11)) := Lib.hid (HBad.out (by rw [HC1.out, HN.out, numsR_none r acc hT]; rfl))
            rw [hT, show gotV none = .agg #[.int .i64 0, .string ⟨#[]⟩, .bool false] from rfl] at cT
            go_wp2_with fail
            refine cT.mono ?_
            rintro e' w3 ⟨rfl, hb3⟩
            have hB3 : Below wr.heap.size wr (w3.alloc (.cells #[.int .i64 0, .string ⟨#[]⟩, .bool false] 54)) := hb3.alloc hb3.size _
            have X3 := Blk.new w3 54 #[.int .i64 0, .string ⟨#[]⟩, .bool false]
            have t3 := tk.keep' hB3
            have hg3 : g < w3.heap.size := Nat.lt_of_lt_of_le tk.lt' hb3.size
            go_upto_region 16 with fail
            generalize w3.alloc (.cells #[.int .i64 0, .string ⟨#[]⟩, .bool false] 54) = W3 at t3 X3 hB3 ⊢
            generalize w3.heap.size = gx3 at X3 hg3 ⊢
            have x0 := X3.cell 0
            have x1 := X3.cell 1
            have x2 := X3.cell 2
            simp at x0 x1 x2
            have r0 := t3.res.cell 0
            have r1 := t3.res.cell 1
            have r2 := t3.res.cell 2
            have r3 := t3.res.cell 3
            have r4 := t3.res.cell 4
            have r5 := t3.res.cell 5
            have f0 := t3.res.frozen 0
            have f1 := t3.res.frozen 1
            have f2 := t3.res.frozen 2
            have f3 := t3.res.frozen 3
            have f4 := t3.res.frozen 4
            have f5 := t3.res.frozen 5
            simp at r0 r1 r2 r3 r4 r5
            go_wp2_with fail
            have hB2 := (((((t3.res.set (u := .int .i64 0) 0).set (u := .slice none 0 0) 1).set (u := .string ⟨#[]⟩) 2).set (u := .string ⟨#[]⟩) 3).set (u := .int .i64 0) 4).set (u := .int .i64 0) 5
            have z0 := hB2.cell 0
            have z1 := hB2.cell 1
            have z2 := hB2.cell 2
            have z3 := hB2.cell 3
            have z4 := hB2.cell 4
            have z5 := hB2.cell 5
            refine bodyPost_ret (v := .tuple #[coV co0 (.slice none 0 0), .int .i64 11]) (by simp [results, Tryz.results9, go_sem, z0, z1, z2, z3, z4, z5]; rfl) rfl ?_
            rw [HV.out]
            refine ⟨_, rfl, Sl.nil _ _ _ _, ?_⟩
            exact ((((((t3.below.setCell (by simp) _).setCell (by simp) _).setCell (by simp) _).setCell (by simp) _).setCell (by simp) _).setCell (by simp) _)
          | some y =>
            obtain ⟨n, q2⟩ := y
            have hql := past_le r n q2 hT
            have HT := Lib.hid hT
            rw [hT, show gotV (some (n, q2)) = .agg #[.int .i64 n, .string (bs q2), .bool true] from rfl] at cT
            clear hT
            go_wp2_with fail
            refine cT.mono ?_
            rintro e' w3 ⟨rfl, hb3⟩
            have hB3 : Below wr.heap.size wr (w3.alloc (.cells #[.int .i64 n, .string (bs q2), .bool true] 54)) := hb3.alloc hb3.size _
            have X3 := Blk.new w3 54 #[.int .i64 n, .string (bs q2), .bool true]
            have t3 := tk.keep' hB3
            have hg3 : g < w3.heap.size := Nat.lt_of_lt_of_le tk.lt' hb3.size
            have own3 := own_below hown hB3
            go_upto_region 16 with fail
            generalize w3.alloc (.cells #[.int .i64 n, .string (bs q2), .bool true] 54) = W3 at t3 X3 hB3 own3 ⊢
            generalize w3.heap.size = gx3 at X3 hg3 ⊢
            have x0 := X3.cell 0
            have x1 := X3.cell 1
            have x2 := X3.cell 2
            simp at x0 x1 x2
            obtain ⟨d0, d1, d2, d3, d4, d5⟩ := t3.cells
            have g1 := t3.blk.frozen 1
            have hgw := t3.lt'
            have q1 : acc.length + 1 ≤ 1000000000000 := by omega
            have q2' : g + 1 ≤ W3.heap.size := hgw
            have q3 : ∀ u ∈ [Value.int .i64 n], u.oneCell' = true := by simp [Value.oneCell']
            go_upto_region 18 with fail
            go_wp2_with (at_builtin; refine wpList_append_oneG rfl (.tmp 58) (.tmp 61) _ 3 _ 1 8 rfl Tryz.underlying22 i64info rfl (Nat.zero_lt_one) (g + 1) (.slice A6 acc.length c6) acc.length (ivs acc) rfl own3 [.int .i64 n] rfl rfl q3 q1 (by decide) q2' ?_; intro v2 w6 hown6 hb6 hg6; obtain ⟨A7, c7, rfl⟩ := own_form hown6; have t6 := t3.keep hb6; have X6 : Blk w6 gx3 54 #[.int .i64 n, .string (bs q2), .bool true] := (X3.alloc _).grown hg6 (Lib.ownBlock_ne own3 X3 (by decide)); have x1' : w6.cell? ⟨gx3, 1, none⟩ = some (.string (bs q2)) := X6.cell 1; obtain ⟨e0, e1, e2, e3, e4, e5⟩ := t6.cells; have f1 := t6.blk.frozen 1)
            have t7 := t6.sets (nv' := .slice A7 (acc.length + 1) c7) 1 _ rfl
            have own7 : (w6.setCell ⟨g, 1, none⟩ (.slice A7 (acc.length + 1) c7)).ownsRow (g + 1) 3 1 (.slice A7 (acc.length + 1) c7) (acc ++ [n]).length (ivs (acc ++ [n])) := by
              have := own_other hown6 (a := ⟨g, 1, none⟩) (.slice A7 (acc.length + 1) c7) (own_block hown6 g (by omega))
              rw [← ivs_app, List.length_append]
              exact this
            have hla : (acc ++ [n]).length = acc.length + 1 := by simp
            refine (begins_any q2 [46] _ (by omega) (by simp)).mono ?_
            rintro e' wq ⟨rfl, rfl⟩
            by_cases hd : ∃ t, q2 = 46 :: t
            · obtain ⟨t, rfl⟩ := hd
              have HN2 : Hid (numsR q [] = numsR t (acc ++ [n])) := Lib.hid (by rw [HN.out, numsR_dot r acc n t HT.out])
              have hy : (bs (46 :: t)).extract 1 (t.length + 1) = bs t := by
                have := ext_drop (bs (46 :: t)) 1
                rw [bs_size] at this
                exact this
              have b1 : ([46] : List UInt8).isPrefixOf (46 :: t) = true := by simp [List.isPrefixOf]
              have i1 : (1 : Int) ≤ ((46 :: t).length : Int) := by simp only [List.length_cons]; omega
              have hlt2 : t.length < r.length := by simp at hql; omega
              generalize w6.setCell ⟨g, 1, none⟩ (.slice A7 (acc.length + 1) c7) = w7 at t7 own7 ⊢
              rw [b1]
              go_wp2_with fail
              go_roundg t.length
              case measure => omega
              case rel => exact ⟨t, acc ++ [n], _, rfl, rfl, by rw [hla]; omega, t7, own7, HN2⟩
            · have b1 : ([46] : List UInt8).isPrefixOf q2 = false := by
                cases q2 with
                | nil => rfl
                | cons c t => simp [List.isPrefixOf]; exact fun e => hd ⟨t, by rw [e]⟩
              have HC2 : Hid (refCand f s = refTail f e (acc ++ [n]) (letR q2).1 (preR f (letR q2).2)) := Lib.hid (by rw [HC1.out, HN.out, numsR_end r acc n q2 HT.out (fun t e => hd ⟨t, e⟩)]; rfl)
              generalize w6.setCell ⟨g, 1, none⟩ (.slice A7 (acc.length + 1) c7) = w7 at t7 own7 ⊢
              obtain ⟨ns, Hns⟩ : ∃ ns, Hid (acc ++ [n] = ns) := ⟨_, Lib.hid rfl⟩
              rw [Hns.out] at own7 HC2 hla
              rw [← hla] at t7 own7
              have hns : ns.length ≤ 64 := by omega
              have hq64 : q2.length ≤ 64 := by omega
              rw [b1]
              clear hd b1 HN HT HC1 d0 d1 d2 d3 d4 d5 e0 e1 e2 e3 e4 e5 x0 x1 x2 x1' f1 g1 t3 t6 own3 X3 X6 hown hown6 hb6 hg6 q1 q2' q3 hgw hB3 hb3 tk cT
              go_upto_region 22 with fail
              go_cut [83] (fun s83 wx => s83 = .bool (letB q2) ∧ w7 = wx)
              case first =>
                cases q2 with
                | nil =>
                  go_wp2_with fail
                  go_meet
                  exact ⟨rfl, rfl⟩
                | cons c t =>
                  have hs0 : 0 < (bs (c :: t)).size := by rw [bs_size]; simp
                  have hg0 : (bs (c :: t))[0]'hs0 = c := rfl
                  have HL : Hid (letB (c :: t) = (decide (97 ≤ c.toNat) && decide (c.toNat ≤ 122))) := Lib.hid rfl
                  have hp0 : (0 : Int) < ((c :: t).length : Int) := by simp only [List.length_cons]; omega
                  by_cases hq1 : 97 ≤ c.toNat
                  · have q1 : decide ((97 : Int) ≤ (((bs (c :: t))[0]'hs0).toNat : Int)) = true := by rw [hg0]; simp; omega
                    by_cases hq2 : c.toNat ≤ 122
                    · have q2 : decide ((((bs (c :: t))[0]'hs0).toNat : Int) ≤ 122) = true := by rw [hg0]; simp; omega
                      have HV : Hid (letB (c :: t) = true) := Lib.hid (by rw [HL.out]; simp; omega)
                      clear hg0 hq1 hq2
                      go_wp2_with fail
                      go_meet
                      exact ⟨by rw [HV.out], rfl⟩
                    · have q2 : decide ((((bs (c :: t))[0]'hs0).toNat : Int) ≤ 122) = false := by rw [hg0]; simp; omega
                      have HV : Hid (letB (c :: t) = false) := Lib.hid (by rw [HL.out]; simp; omega)
                      clear hg0 hq1 hq2
                      go_wp2_with fail
                      go_meet
                      exact ⟨by rw [HV.out], rfl⟩
                  · have q1 : decide ((97 : Int) ≤ (((bs (c :: t))[0]'hs0).toNat : Int)) = false := by rw [hg0]; simp; omega
                    have HV : Hid (letB (c :: t) = false) := Lib.hid (by rw [HL.out]; simp; omega)
                    clear hg0 hq1
                    go_wp2_with fail
                    go_meet
                    exact ⟨by rw [HV.out], rfl⟩
              case rest =>
              obtain ⟨rfl, rfl⟩ := hcut
              go_upto_if 83 with fail
              go_cut [8] (fun s8 wx => s8 = .string (bs (letR q2).2) ∧ PaW w g e (.slice A7 ns.length c7) (bs (letR q2).1) ⟨#[]⟩ 0 0 wx ∧ wx.ownsRow (g + 1) 3 1 (.slice A7 ns.length c7) ns.length (ivs ns))
              case first =>
                cases hlb : letB q2 with
                | false =>
                  have HV : Hid (letR q2 = ([], q2)) := Lib.hid (letR_no q2 hlb)
                  go_wp2_with fail
                  go_meet
                  rw [HV.out]
                  exact ⟨rfl, t7, own7⟩
                | true =>
                  obtain ⟨c, t, rfl, hsm⟩ := letB_yes q2 hlb
                  have HV : Hid (letR (c :: t) = ([c], t)) := Lib.hid (by simp [letR, hsm])
                  have hx : (bs (c :: t)).extract 0 1 = bs [c] := by
                    rw [ext_take _ _ (by rw [bs_size]; simp)]; rfl
                  have hy : (bs (c :: t)).extract 1 (t.length + 1) = bs t := by
                    have := ext_drop (bs (c :: t)) 1
                    rw [bs_size] at this
                    exact this
                  have i1 : (1 : Int) ≤ ((c :: t).length : Int) := by simp only [List.length_cons]; omega
                  obtain ⟨d0, d1, d2, d3, d4, d5⟩ := t7.cells
                  have g2 := t7.blk.frozen 2
                  clear hlb hsm
                  go_wp2_with fail
                  go_meet
                  rw [HV.out]
                  exact ⟨rfl, t7.sets 2 _ rfl, own_other own7 _ (own_block own7 g (by omega))⟩
              case rest =>
              obtain ⟨rfl, t8, own8⟩ := hcut
              clear t7 own7
              obtain ⟨lt, Hlt⟩ : ∃ x, Hid ((letR q2).1 = x) := ⟨_, Lib.hid rfl⟩
              obtain ⟨r0, Hr0⟩ : ∃ x, Hid ((letR q2).2 = x) := ⟨_, Lib.hid rfl⟩
              have hl2 := letR_len q2
              rw [Hlt.out] at t8 HC2 hl2
              rw [Hr0.out] at HC2 hl2 ⊢
              go_upto_if 90 with fail
              go_cut [12, 13] (fun s12 s13 wx => s12 = .string (bs [sgnB f]) ∧ s13 = .string (bs (dashF f)) ∧ wc = wx)
              case first =>
                by_cases h3 : f = 3
                · have b3 : (f == 3) = true := by simpa using h3
                  have HV : Hid (sgnB f = 95 ∧ dashF f = [45, 114]) := Lib.hid (by simp [sgnB, dashF, h3])
                  rw [b3]
                  clear h3
                  go_wp2_with fail
                  go_meet
                  rw [HV.out.1, HV.out.2]
                  exact ⟨rfl, rfl, rfl⟩
                · have b3 : (f == 3) = false := by simpa using h3
                  have HV : Hid (sgnB f = 126 ∧ dashF f = [45]) := Lib.hid (by simp [sgnB, dashF, h3])
                  rw [b3]
                  clear h3
                  go_wp2_with fail
                  go_meet
                  rw [HV.out.1, HV.out.2]
                  exact ⟨rfl, rfl, rfl⟩
              case rest =>
              obtain ⟨rfl, rfl, rfl⟩ := hcut
              have hr0 : r0.length ≤ 64 := by omega
              have hlt1 := hl2.1
              clear hl2 Hr0 Hlt Hns hla hq64 hql hlr hg3
              go_wp2_with fail
              obtain ⟨wo2, rfl⟩ : ∃ wo2 : World, wo2 = wr := ⟨_, rfl⟩
              go_loopg [8, 14] 4 (fun G s8 s14 wx => ∃ (k : Nat) (pr : List UInt8) (pn : Int) (r : List UInt8), k ≤ 4 ∧ G = 4 - k ∧ s14 = .int .i64 k ∧ s8 = .string (bs r) ∧ r.length ≤ 64 ∧ pr.length ≤ 5 ∧ PaW w g e (.slice A7 ns.length c7) (bs lt) (bs pr) pn 0 wx ∧ wx.ownsRow (g + 1) 3 1 (.slice A7 ns.length c7) ns.length (ivs ns) ∧ Hid ((presL.take k).foldl (preStep f) (some ([], 0, r0)) = some (pr, pn, r)))
              case atStart => exact ⟨0, [], 0, r0, by omega, rfl, rfl, rfl, hr0, by simp, t8, own8, Lib.hid rfl⟩
              case round =>
                clear t8 own8 hr0
                obtain ⟨k, pr, pn, r, hk, rfl, rfl, rfl, hrl, hpl, tk, hown, HF⟩ := hrel
                obtain ⟨d0, d1, d2, d3, d4, d5⟩ := tk.cells
                by_cases hlt : k < 4
                · have HS : Hid ((presL.take (k + 1)).foldl (preStep f) (some ([], 0, r0)) = preStep f (some (pr, pn, r)) (wordV k)) := Lib.hid (by rw [pre_fold f r0 k hlt, HF.out])
                  have HQ : Hid (preStep f (some (pr, pn, r)) (wordV k) = if pr = [] ∧ (sgnB f :: wordV k).isPrefixOf r = true then (match takeR (r.drop ((wordV k).length + 1)) with
                    | none => none
                    | some y => some (wordV k, y.1, y.2)) else some (pr, pn, r)) := Lib.hid rfl
                  have hwl : (wordV k).length ≤ 5 := by
                    obtain rfl | rfl | rfl | rfl : k = 0 ∨ k = 1 ∨ k = 2 ∨ k = 3 := by omega
                    all_goals decide
                  by_cases hp : pr = []
                  · have n1 : (bs pr).toList = [] := by rw [toList_bs]; exact hp
                    have n2 : (bs pr).toList.isEmpty = true := by rw [n1]; rfl
                    have hcat := bs_app
                    have o1 : ¬ 9223372036854775807 < 1 + (wordV k).length := by omega
                    have HP0 := Lib.hid hp
                    clear hp
                    go_wp2_with fail
                    refine (rword_any k _ hlt).mono ?_
                    rintro e' w3 ⟨rfl, hb3⟩
                    have t3 := tk.keep' hb3
                    have own3 := own_below hown hb3
                    clear d0 d1 d2 d3 d4 d5
                    go_wp2_with fail
                    refine (begins_any r (sgnB f :: wordV k) _ (by omega) (by simp only [List.length_cons]; omega)).mono ?_
                    rintro e' wq ⟨rfl, rfl⟩
                    cases hpf : (sgnB f :: wordV k).isPrefixOf r with
                    | false =>
                      have HV : Hid ((presL.take (k + 1)).foldl (preStep f) (some ([], 0, r0)) = some (pr, pn, r)) := Lib.hid (by rw [HS.out, HQ.out, if_neg (by rw [hpf]; simp)])
                      go_wp2_with fail
                      go_roundg (4 - (k + 1))
                      case measure => omega
                      case rel => exact ⟨k + 1, pr, pn, r, by omega, rfl, by go_num, rfl, hrl, hpl, t3, own3, HV⟩
                    | true =>
                      have HS2 : Hid ((presL.take (k + 1)).foldl (preStep f) (some ([], 0, r0)) = match takeR (r.drop ((wordV k).length + 1)) with
                        | none => none
                        | some y => some (wordV k, y.1, y.2)) := Lib.hid (by rw [HS.out, HQ.out, if_pos ⟨HP0.out, hpf⟩])
                      have hpre := (List.isPrefixOf_iff_prefix.1 hpf).length_le
                      rw [List.length_cons] at hpre
                      clear hpf HS HQ
                      obtain ⟨d0, d1, d2, d3, d4, d5⟩ := t3.cells
                      go_wp2_with fail
                      refine (rword_any k _ hlt).mono ?_
                      rintro e' w4 ⟨rfl, hb4⟩
                      have t4 := t3.keep' hb4
                      have own4 := own_below own3 hb4
                      clear d0 d1 d2 d3 d4 d5
                      obtain ⟨d0, d1, d2, d3, d4, d5⟩ := t4.cells
                      have g3 := t4.blk.frozen 3
                      have t5 := t4.sets (pr' := bs (wordV k)) 3 (.string (bs (wordV k))) rfl
                      have own5 := own_other own4 (a := ⟨g, 3, none⟩) (.string (bs (wordV k))) (own_block own4 g (by omega))
                      go_upto_region 34 with fail
                      clear d0 d1 d2 d3 d4 d5 g3 n1 n2
                      generalize w4.setCell ⟨g, 3, none⟩ (.string (bs (wordV k))) = w5 at t5 own5 ⊢
                      obtain ⟨d0, d1, d2, d3, d4, d5⟩ := t5.cells
                      obtain ⟨wd, Hwd⟩ : ∃ x, Hid (wordV k = x) := ⟨_, Lib.hid rfl⟩
                      rw [Hwd.out] at HS2 hwl hpre d3 t5 o1
                      have q0 : IntKind.i64.wrap (1 + (wd.length : Int)) = 1 + (wd.length : Int) := i64_in _ (by omega) (by omega)
                      have i1 : (1 : Int) + (wd.length : Int) ≤ (r.length : Int) := by omega
                      have hy : (bs r).extract (1 + wd.length) r.length = bs (r.drop (wd.length + 1)) := by
                        have := ext_drop (bs r) (1 + wd.length)
                        rw [bs_size] at this
                        rw [this, Nat.add_comm]
                        rfl
                      have hdl : (r.drop (wd.length + 1)).length ≤ 64 := by rw [List.length_drop]; omega
                      have cT := gtake_any (r.drop (wd.length + 1)) w5 (by omega)
                      cases hT : takeR (r.drop (wd.length + 1)) with
                      | none =>
                        have HV : Hid (refPa f s = (co0, 11)) := Lib.hid (HBad.out (by rw [HC2.out, pre_split f r0 (k + 1), HS2.out, hT]; show refTail f e ns lt ((presL.drop (k + 1)).foldl (preStep f) none) = none; rw [pre_stay]; rfl))
                        rw [hT, show gotV none = .agg #[.int .i64 0, .string ⟨#[]⟩, .bool false] from rfl] at cT
                        go_wp2_with fail
                        refine cT.mono ?_
                        rintro e' w6 ⟨rfl, hb6⟩
                        have hB6 : Below w5.heap.size w5 (w6.alloc (.cells #[.int .i64 0, .string ⟨#[]⟩, .bool false] 54)) := hb6.alloc hb6.size _
                        have X6 := Blk.new w6 54 #[.int .i64 0, .string ⟨#[]⟩, .bool false]
                        have t6 := t5.keep' hB6
                        have hg6 : g < w6.heap.size := Nat.lt_of_lt_of_le t5.lt' hb6.size
                        go_upto_region 35 with fail
                        generalize w6.alloc (.cells #[.int .i64 0, .string ⟨#[]⟩, .bool false] 54) = W6 at t6 X6 hB6 ⊢
                        generalize w6.heap.size = gx6 at X6 hg6 ⊢
                        have x0 := X6.cell 0
                        have x1 := X6.cell 1
                        have x2 := X6.cell 2
                        simp at x0 x1 x2
                        have r0 := t6.res.cell 0
                        have r1 := t6.res.cell 1
                        have r2 := t6.res.cell 2
                        have r3 := t6.res.cell 3
                        have r4 := t6.res.cell 4
                        have r5 := t6.res.cell 5
                        have f0 := t6.res.frozen 0
                        have f1 := t6.res.frozen 1
                        have f2 := t6.res.frozen 2
                        have f3 := t6.res.frozen 3
                        have f4 := t6.res.frozen 4
                        have f5 := t6.res.frozen 5
                        simp at r0 r1 r2 r3 r4 r5
                        go_wp2_with fail
                        have hB2 := (((((t6.res.set (u := .int .i64 0) 0).set (u := .slice none 0 0) 1).set (u := .string ⟨#[]⟩) 2).set (u := .string ⟨#[]⟩) 3).set (u := .int .i64 0) 4).set (u := .int .i64 0) 5
                        have z0 := hB2.cell 0
                        have z1 := hB2.cell 1
                        have z2 := hB2.cell 2
                        have z3 := hB2.cell 3
                        have z4 := hB2.cell 4
                        have z5 := hB2.cell 5
                        refine bodyPost_ret (v := .tuple #[coV co0 (.slice none 0 0), .int .i64 11]) (by simp [results, Tryz.results9, go_sem, z0, z1, z2, z3, z4, z5]; rfl) rfl ?_
                        rw [HV.out]
                        refine ⟨_, rfl, Sl.nil _ _ _ _, ?_⟩
                        exact ((((((t6.below.setCell (by simp) _).setCell (by simp) _).setCell (by simp) _).setCell (by simp) _).setCell (by simp) _).setCell (by simp) _)
                      | some y =>
                        obtain ⟨n', q3⟩ := y
                        have hq3 := past_le _ n' q3 hT
                        have HV : Hid ((presL.take (k + 1)).foldl (preStep f) (some ([], 0, r0)) = some (wd, n', q3)) := Lib.hid (by rw [HS2.out, hT])
                        rw [hT, show gotV (some (n', q3)) = .agg #[.int .i64 n', .string (bs q3), .bool true] from rfl] at cT
                        clear hT HS2
                        go_wp2_with fail
                        refine cT.mono ?_
                        rintro e' w6 ⟨rfl, hb6⟩
                        have hB6 : Below w5.heap.size w5 (w6.alloc (.cells #[.int .i64 n', .string (bs q3), .bool true] 54)) := hb6.alloc hb6.size _
                        have X6 := Blk.new w6 54 #[.int .i64 n', .string (bs q3), .bool true]
                        have t6 := t5.keep' hB6
                        have hg6 : g < w6.heap.size := Nat.lt_of_lt_of_le t5.lt' hb6.size
                        have own6 := own_below own5 hB6
                        go_upto_region 35 with fail
                        generalize w6.alloc (.cells #[.int .i64 n', .string (bs q3), .bool true] 54) = W6 at t6 X6 hB6 own6 ⊢
                        generalize w6.heap.size = gx6 at X6 hg6 ⊢
                        have x0 := X6.cell 0
                        have x1 := X6.cell 1
                        have x2 := X6.cell 2
                        simp at x0 x1 x2
                        clear d0 d1 d2 d3 d4 d5
                        obtain ⟨d0, d1, d2, d3, d4, d5⟩ := t6.cells
                        have g4 := t6.blk.frozen 4
                        have hne : g < gx6 := hg6
                        go_wp2_with fail
                        go_roundg (4 - (k + 1))
                        case measure => omega
                        case rel => exact ⟨k + 1, wd, n', q3, by omega, rfl, by go_num, rfl, by omega, hwl, t6.sets 4 _ rfl, own_other own6 _ (own_block own6 g (by omega)), HV⟩
                  · have n1 : ¬ (bs pr).toList = [] := by rw [toList_bs]; exact hp
                    have n2 : (bs pr).toList.isEmpty = false := by simpa using n1
                    have HV : Hid ((presL.take (k + 1)).foldl (preStep f) (some ([], 0, r0)) = some (pr, pn, r)) := Lib.hid (by rw [HS.out, HQ.out, if_neg (fun h => hp h.1)])
                    clear hp HQ HS
                    go_wp2_with fail
                    go_roundg (4 - (k + 1))
                    case measure => omega
                    case rel => exact ⟨k + 1, pr, pn, r, by omega, rfl, by go_num, rfl, hrl, hpl, tk, hown, HV⟩
                · obtain rfl : k = 4 := by omega
                  have HC3 : Hid (refCand f s = refTail f e ns lt (some (pr, pn, r))) := Lib.hid (by rw [HC2.out, show preR f r0 = some (pr, pn, r) from HF.out])
                  clear HC2 HF hlt hk
                  have hdf : (dashF f).length ≤ 2 := by unfold dashF; split <;> decide
                  have HRV : Hid (revR f r = if (dashF f).isPrefixOf r = true then (match takeR (r.drop (dashF f).length) with
                    | none => none
                    | some x => if x.2 = [] then some x.1 else none) else none) := Lib.hid rfl
                  have hsome : ∀ v, revR f r = some v → Hid (refCand f s = some ⟨e, ns, lt, pr, pn, v⟩) := fun v hv => Lib.hid (by rw [HC3.out, refTail, hv])
                  have hnone : ∀ h : revR f r = none, Hid (refPa f s = (co0, 11)) := fun h => Lib.hid (HBad.out (by rw [HC3.out, refTail, h]))
                  clear HC3
                  go_wp2_with fail
                  refine (begins_any r (dashF f) _ (by omega) (by omega)).mono ?_
                  rintro e' wq ⟨rfl, rfl⟩
                  cases hpf : (dashF f).isPrefixOf r with
                  | false =>
                    have HV := hnone (by rw [HRV.out, if_neg (by rw [hpf]; simp)])
                    clear hsome hnone d0 d1 d2 d3 d4 d5
                    have r0 := tk.res.cell 0
                    have r1 := tk.res.cell 1
                    have r2 := tk.res.cell 2
                    have r3 := tk.res.cell 3
                    have r4 := tk.res.cell 4
                    have r5 := tk.res.cell 5
                    have f0 := tk.res.frozen 0
                    have f1 := tk.res.frozen 1
                    have f2 := tk.res.frozen 2
                    have f3 := tk.res.frozen 3
                    have f4 := tk.res.frozen 4
                    have f5 := tk.res.frozen 5
                    simp at r0 r1 r2 r3 r4 r5
                    go_wp2_with fail
                    have hB2 := (((((tk.res.set (u := .int .i64 0) 0).set (u := .slice none 0 0) 1).set (u := .string ⟨#[]⟩) 2).set (u := .string ⟨#[]⟩) 3).set (u := .int .i64 0) 4).set (u := .int .i64 0) 5
                    have z0 := hB2.cell 0
                    have z1 := hB2.cell 1
                    have z2 := hB2.cell 2
                    have z3 := hB2.cell 3
                    have z4 := hB2.cell 4
                    have z5 := hB2.cell 5
                    refine bodyPost_ret (v := .tuple #[coV co0 (.slice none 0 0), .int .i64 11]) (by simp [results, Tryz.results9, go_sem, z0, z1, z2, z3, z4, z5]; rfl) rfl ?_
                    rw [HV.out]
                    refine ⟨_, rfl, Sl.nil _ _ _ _, ?_⟩
                    exact ((((((tk.below.setCell (by simp) _).setCell (by simp) _).setCell (by simp) _).setCell (by simp) _).setCell (by simp) _).setCell (by simp) _)
                  | true =>
                    have HR2 : Hid (revR f r = match takeR (r.drop (dashF f).length) with
                      | none => none
                      | some x => if x.2 = [] then some x.1 else none) := Lib.hid (by rw [HRV.out, if_pos hpf])
                    have hpre := (List.isPrefixOf_iff_prefix.1 hpf).length_le
                    have i1 : ((dashF f).length : Int) ≤ (r.length : Int) := by omega
                    have hy : (bs r).extract (dashF f).length r.length = bs (r.drop (dashF f).length) := by
                      have := ext_drop (bs r) (dashF f).length
                      rw [bs_size] at this
                      exact this
                    have hdl : (r.drop (dashF f).length).length ≤ 64 := by rw [List.length_drop]; omega
                    have cT := gtake_any (r.drop (dashF f).length) wr (by omega)
                    clear hpf HRV d0 d1 d2 d3 d4 d5
                    cases hT : takeR (r.drop (dashF f).length) with
                    | none =>
                      have HV := hnone (by rw [HR2.out, hT])
                      rw [hT, show gotV none = .agg #[.int .i64 0, .string ⟨#[]⟩, .bool false] from rfl] at cT
                      clear hsome hnone
                      go_wp2_with fail
                      refine cT.mono ?_
                      rintro e' w3 ⟨rfl, hb3⟩
                      have hB3 : Below wr.heap.size wr (w3.alloc (.cells #[.int .i64 0, .string ⟨#[]⟩, .bool false] 54)) := hb3.alloc hb3.size _
                      have X3 := Blk.new w3 54 #[.int .i64 0, .string ⟨#[]⟩, .bool false]
                      have t3 := tk.keep' hB3
                      have hg3 : g < w3.heap.size := Nat.lt_of_lt_of_le tk.lt' hb3.size
                      go_upto_region 42 with fail
                      generalize w3.alloc (.cells #[.int .i64 0, .string ⟨#[]⟩, .bool false] 54) = W3 at t3 X3 hB3 ⊢
                      generalize w3.heap.size = gx3 at X3 hg3 ⊢
                      have x0 := X3.cell 0
                      have x1 := X3.cell 1
                      have x2 := X3.cell 2
                      simp at x0 x1 x2
                      have r0 := t3.res.cell 0
                      have r1 := t3.res.cell 1
                      have r2 := t3.res.cell 2
                      have r3 := t3.res.cell 3
                      have r4 := t3.res.cell 4
                      have r5 := t3.res.cell 5
                      have f0 := t3.res.frozen 0
                      have f1 := t3.res.frozen 1
                      have f2 := t3.res.frozen 2
                      have f3 := t3.res.frozen 3
                      have f4 := t3.res.frozen 4
                      have f5 := t3.res.frozen 5
                      simp at r0 r1 r2 r3 r4 r5
                      go_wp2_with fail
                      have hB2 := (((((t3.res.set (u := .int .i64 0) 0).set (u := .slice none 0 0) 1).set (u := .string ⟨#[]⟩) 2).set (u := .string ⟨#[]⟩) 3).set (u := .int .i64 0) 4).set (u := .int .i64 0) 5
                      have z0 := hB2.cell 0
                      have z1 := hB2.cell 1
                      have z2 := hB2.cell 2
                      have z3 := hB2.cell 3
                      have z4 := hB2.cell 4
                      have z5 := hB2.cell 5
                      refine bodyPost_ret (v := .tuple #[coV co0 (.slice none 0 0), .int .i64 11]) (by simp [results, Tryz.results9, go_sem, z0, z1, z2, z3, z4, z5]; rfl) rfl ?_
                      rw [HV.out]
                      refine ⟨_, rfl, Sl.nil _ _ _ _, ?_⟩
                      exact ((((((t3.below.setCell (by simp) _).setCell (by simp) _).setCell (by simp) _).setCell (by simp) _).setCell (by simp) _).setCell (by simp) _)
                    | some y =>
                      obtain ⟨n', q3⟩ := y
                      rw [hT, show gotV (some (n', q3)) = .agg #[.int .i64 n', .string (bs q3), .bool true] from rfl] at cT
                      by_cases hq3 : q3 = []
                      · have HCd := hsome n' (by rw [HR2.out, hT]; show (if q3 = [] then some n' else none) = some n'; rw [if_pos hq3])
                        have n1 : (bs q3).toList = [] := by rw [toList_bs]; exact hq3
                        have n2 : (bs q3).toList.isEmpty = true := by rw [n1]; rfl
                        clear hT hq3 hsome hnone HR2
                        go_wp2_with fail
                        refine cT.mono ?_
                        rintro e' w3 ⟨rfl, hb3⟩
                        have hB3 : Below wr.heap.size wr (w3.alloc (.cells #[.int .i64 n', .string (bs q3), .bool true] 54)) := hb3.alloc hb3.size _
                        have X3 := Blk.new w3 54 #[.int .i64 n', .string (bs q3), .bool true]
                        have t3 := tk.keep' hB3
                        have hg3 : g < w3.heap.size := Nat.lt_of_lt_of_le tk.lt' hb3.size
                        have own3 := own_below hown hB3
                        go_upto_region 42 with fail
                        generalize w3.alloc (.cells #[.int .i64 n', .string (bs q3), .bool true] 54) = W3 at t3 X3 hB3 own3 ⊢
                        generalize w3.heap.size = gx3 at X3 hg3 ⊢
                        have x0 := X3.cell 0
                        have x1 := X3.cell 1
                        have x2 := X3.cell 2
                        simp at x0 x1 x2
                        obtain ⟨d0, d1, d2, d3, d4, d5⟩ := t3.cells
                        have g5 := t3.blk.frozen 5
                        have t4 := t3.sets (rv' := n') 5 (.int .i64 n') rfl
                        have own4 := own_other own3 (a := ⟨g, 5, none⟩) (.int .i64 n') (own_block own3 g (by omega))
                        go_upto_region 45 with fail
                        clear d0 d1 d2 d3 d4 d5 x0 x1 x2 n1 n2 g5
                        generalize W3.setCell ⟨g, 5, none⟩ (.int .i64 n') = w4 at t4 own4 ⊢
                        have hsl : Sl 1 Rint (fun k => k ≤ g) w4 (.slice A7 ns.length c7) ns := by
                          refine (ivs_own own4 (fun k hk => ?_)).sl good_int
                          have := (own4.lt k hk).1
                          show ¬ k ≤ g
                          omega
                        obtain ⟨c, Hc⟩ : ∃ c : Co, Hid ((⟨e, ns, lt, pr, pn, n'⟩ : Co) = c) := ⟨_, Lib.hid rfl⟩
                        have p0 : c.epoch = e := by rw [← Hc.out]
                        have p1 : c.nums = ns := by rw [← Hc.out]
                        have p2 : c.letter = lt := by rw [← Hc.out]
                        have p3 : c.pre = pr := by rw [← Hc.out]
                        have p4 : c.preNum = pn := by rw [← Hc.out]
                        have p5 : c.rev = n' := by rw [← Hc.out]
                        have hZ : CoZ c := ⟨by rw [p1]; omega, by rw [p2]; omega, by rw [p3]; omega⟩
                        rw [← p1] at hsl
                        rw [← p0, ← p2, ← p3, ← p4, ← p5] at t4
                        rw [Hc.out] at HCd
                        rw [← p1] at t4
                        clear p0 p1 p2 p3 p4 p5 own4 own3 hns hrl hpl
                        obtain ⟨d0, d1, d2, d3, d4, d5⟩ := t4.cells
                        have HZ := Lib.hid hZ
                        clear hZ
                        go_wp2_with fail
                        refine (rvprint_any f c _ _ _ hsl HZ.out).mono ?_
                        rintro e' w7 ⟨rfl, hb7⟩
                        have t7 := t4.keep' hb7
                        have hsl7 := Below.sl good_int hb7 hsl
                        obtain ⟨⟨x, y⟩, Hxy⟩ : ∃ p, Hid (prC f c = p) := ⟨_, Lib.hid rfl⟩
                        have HP3 : Hid (refPa f s = if (x, y) = (s, 0) then (c, 0) else (co0, 11)) := Lib.hid (by rw [HP2.out, HCd.out, refFin, Hxy.out])
                        rw [Hxy.out]
                        have hgt := t7.gt
                        clear t4 hb7 hsl d0 d1 d2 d3 d4 d5 HP2 HBad
                        obtain ⟨d0, d1, d2, d3, d4, d5⟩ := t7.cells
                        have r0 := t7.res.cell 0
                        have r1 := t7.res.cell 1
                        have r2 := t7.res.cell 2
                        have r3 := t7.res.cell 3
                        have r4 := t7.res.cell 4
                        have r5 := t7.res.cell 5
                        have f0 := t7.res.frozen 0
                        have f1 := t7.res.frozen 1
                        have f2 := t7.res.frozen 2
                        have f3 := t7.res.frozen 3
                        have f4 := t7.res.frozen 4
                        have f5 := t7.res.frozen 5
                        simp at r0 r1 r2 r3 r4 r5
                        have bad : ∀ (h : (x, y) ≠ (s, 0)), Hid (refPa f s = (co0, 11)) := fun h => Lib.hid (by rw [HP3.out, if_neg h])
                        by_cases hy : y = 0
                        · subst hy
                          by_cases hx : x = s
                          · subst hx
                            have HV : Hid (refPa f x = (c, 0)) := Lib.hid (by rw [HP3.out, if_pos rfl])
                            have e1 := beq_bs x
                            clear bad
                            go_wp2_with fail
                            have hB2 := (((((t7.res.set (u := .int .i64 c.epoch) 0).set (u := .slice A7 c.nums.length c7) 1).set (u := .string (bs c.letter)) 2).set (u := .string (bs c.pre)) 3).set (u := .int .i64 c.preNum) 4).set (u := .int .i64 c.rev) 5
                            have e0 := hB2.cell 0
                            have e1 := hB2.cell 1
                            have e2 := hB2.cell 2
                            have e3 := hB2.cell 3
                            have e4 := hB2.cell 4
                            have e5 := hB2.cell 5
                            refine bodyPost_ret (v := .tuple #[coV c (.slice A7 c.nums.length c7), .int .i64 0]) (by simp [results, Tryz.results9, go_sem, e0, e1, e2, e3, e4, e5]; rfl) rfl ?_
                            rw [HV.out]
                            refine ⟨_, rfl, ?_, ?_⟩
                            · refine (hsl7.keep good_int ((((((((Kept.refl (fun k => k ≤ g) w7).setCell _ ?_).setCell _ ?_).setCell _ ?_).setCell _ ?_).setCell _ ?_).setCell _ ?_))).mono good_int (by omega) (fun k _ hk => ?_)
                              all_goals first | (intro _; show w.heap.size ≤ g; omega) | (unfold old at hk; show k ≤ g; omega)
                            · exact ((((((t7.below.setCell (by simp) _).setCell (by simp) _).setCell (by simp) _).setCell (by simp) _).setCell (by simp) _).setCell (by simp) _)
                          · have HV := bad (fun e => hx (by injection e))
                            have e1 : ((bs x).toList == (bs s).toList) = false := by rw [toList_bs, toList_bs]; simpa using hx
                            clear bad hx
                            go_wp2_with fail
                            have hB2 := (((((t7.res.set (u := .int .i64 0) 0).set (u := .slice none 0 0) 1).set (u := .string ⟨#[]⟩) 2).set (u := .string ⟨#[]⟩) 3).set (u := .int .i64 0) 4).set (u := .int .i64 0) 5
                            have z0 := hB2.cell 0
                            have z1 := hB2.cell 1
                            have z2 := hB2.cell 2
                            have z3 := hB2.cell 3
                            have z4 := hB2.cell 4
                            have z5 := hB2.cell 5
                            refine bodyPost_ret (v := .tuple #[coV co0 (.slice none 0 0), .int .i64 11]) (by simp [results, Tryz.results9, go_sem, z0, z1, z2, z3, z4, z5]; rfl) rfl ?_
                            rw [HV.out]
                            refine ⟨_, rfl, Sl.nil _ _ _ _, ?_⟩
                            exact ((((((t7.below.setCell (by simp) _).setCell (by simp) _).setCell (by simp) _).setCell (by simp) _).setCell (by simp) _).setCell (by simp) _)
                        · have HV := bad (fun e => hy (by injection e))
                          have b1 : (y != 0) = true := by simpa using hy
                          clear bad hy
                          go_wp2_with fail
                          have hB2 := (((((t7.res.set (u := .int .i64 0) 0).set (u := .slice none 0 0) 1).set (u := .string ⟨#[]⟩) 2).set (u := .string ⟨#[]⟩) 3).set (u := .int .i64 0) 4).set (u := .int .i64 0) 5
                          have z0 := hB2.cell 0
                          have z1 := hB2.cell 1
                          have z2 := hB2.cell 2
                          have z3 := hB2.cell 3
                          have z4 := hB2.cell 4
                          have z5 := hB2.cell 5
                          refine bodyPost_ret (v := .tuple #[coV co0 (.slice none 0 0), .int .i64 11]) (by simp [results, Tryz.results9, go_sem, z0, z1, z2, z3, z4, z5]; rfl) rfl ?_
                          rw [HV.out]
                          refine ⟨_, rfl, Sl.nil _ _ _ _, ?_⟩
                          exact ((((((t7.below.setCell (by simp) _).setCell (by simp) _).setCell (by simp) _).setCell (by simp) _).setCell (by simp) _).setCell (by simp) _)
                      · have HV := hnone (by rw [HR2.out, hT]; show (if q3 = [] then some n' else none) = none; rw [if_neg hq3])
                        have n1 : ¬ (bs q3).toList = [] := by rw [toList_bs]; exact hq3
                        have n2 : (bs q3).toList.isEmpty = false := by simpa using n1
                        clear hT hq3 hsome hnone HR2
                        go_wp2_with fail
                        refine cT.mono ?_
                        rintro e' w3 ⟨rfl, hb3⟩
                        have hB3 : Below wr.heap.size wr (w3.alloc (.cells #[.int .i64 n', .string (bs q3), .bool true] 54)) := hb3.alloc hb3.size _
                        have X3 := Blk.new w3 54 #[.int .i64 n', .string (bs q3), .bool true]
                        have t3 := tk.keep' hB3
                        have hg3 : g < w3.heap.size := Nat.lt_of_lt_of_le tk.lt' hb3.size
                        go_upto_region 42 with fail
                        generalize w3.alloc (.cells #[.int .i64 n', .string (bs q3), .bool true] 54) = W3 at t3 X3 hB3 ⊢
                        generalize w3.heap.size = gx3 at X3 hg3 ⊢
                        have x0 := X3.cell 0
                        have x1 := X3.cell 1
                        have x2 := X3.cell 2
                        simp at x0 x1 x2
                        have r0 := t3.res.cell 0
                        have r1 := t3.res.cell 1
                        have r2 := t3.res.cell 2
                        have r3 := t3.res.cell 3
                        have r4 := t3.res.cell 4
                        have r5 := t3.res.cell 5
                        have f0 := t3.res.frozen 0
                        have f1 := t3.res.frozen 1
                        have f2 := t3.res.frozen 2
                        have f3 := t3.res.frozen 3
                        have f4 := t3.res.frozen 4
                        have f5 := t3.res.frozen 5
                        simp at r0 r1 r2 r3 r4 r5
                        go_wp2_with fail
                        have hB2 := (((((t3.res.set (u := .int .i64 0) 0).set (u := .slice none 0 0) 1).set (u := .string ⟨#[]⟩) 2).set (u := .string ⟨#[]⟩) 3).set (u := .int .i64 0) 4).set (u := .int .i64 0) 5
                        have z0 := hB2.cell 0
                        have z1 := hB2.cell 1
                        have z2 := hB2.cell 2
                        have z3 := hB2.cell 3
                        have z4 := hB2.cell 4
                        have z5 := hB2.cell 5
                        refine bodyPost_ret (v := .tuple #[coV co0 (.slice none 0 0), .int .i64 11]) (by simp [results, Tryz.results9, go_sem, z0, z1, z2, z3, z4, z5]; rfl) rfl ?_
                        rw [HV.out]
                        refine ⟨_, rfl, Sl.nil _ _ _ _, ?_⟩
                        exact ((((((t3.below.setCell (by simp) _).setCell (by simp) _).setCell (by simp) _).setCell (by simp) _).setCell (by simp) _).setCell (by simp) _)
  · have HV : Hid (refPa f s = (co0, er)) := Lib.hid (by rw [HP.out, if_neg (by rw [Her.out]; exact her), Her.out])
    have b1 : (er != 0) = true := by simpa using her
    have hB1 := hB0.below hb1 hgt0
    have c0 := hB1.cell 0
    have c1 := hB1.cell 1
    have c2 := hB1.cell 2
    have c3 := hB1.cell 3
    have c4 := hB1.cell 4
    have c5 := hB1.cell 5
    have f0 := hB1.frozen 0
    have f1 := hB1.frozen 1
    have f2 := hB1.frozen 2
    have f3 := hB1.frozen 3
    have f4 := hB1.frozen 4
    have f5 := hB1.frozen 5
    simp at c0 c1 c2 c3 c4 c5
    clear her
    go_wp2_with fail
    have hB2 := (((((hB1.set (u := .int .i64 0) 0).set (u := .slice none 0 0) 1).set (u := .string ⟨#[]⟩) 2).set (u := .string ⟨#[]⟩) 3).set (u := .int .i64 0) 4).set (u := .int .i64 0) 5
    have d0 := hB2.cell 0
    have d1 := hB2.cell 1
    have d2 := hB2.cell 2
    have d3 := hB2.cell 3
    have d4 := hB2.cell 4
    have d5 := hB2.cell 5
    refine bodyPost_ret (v := .tuple #[coV co0 (.slice none 0 0), .int .i64 er]) (by simp [results, Tryz.results9, go_sem, d0, d1, d2, d3, d4, d5]; rfl) rfl ?_
    rw [HV.out]
    refine ⟨_, rfl, Sl.nil _ _ _ _, ?_⟩
    exact (((((((hb0.trans (hb1.mono (by omega))).setCell (by simp) _).setCell (by simp) _).setCell (by simp) _).setCell (by simp) _).setCell (by simp) _).setCell (by simp) _)
end Go.Proofs.YtdfpdmddiapnmaaGreatDoor
