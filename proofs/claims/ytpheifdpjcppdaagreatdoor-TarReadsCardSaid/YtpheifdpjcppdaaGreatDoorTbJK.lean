/- The walk of tar's entry. What tar's reader has in memory: an entry more, a place more, a new map. -/
import Derived.Test.YtpheifdpjcppdaaGreatDoorTbGI
import Derived.Test.YtpheifdpjcppdaaGreatDoorRel
namespace Go.Proofs.YtpheifdpjcppdaaGreatDoor
open Go.RowKit
/-- A literal row of texts. -/
theorem lit_texts {w : World} {g : Nat} (l : List (List UInt8)) (h : Blk w g 9 (l.map fun s => Value.string (bs s)).toArray) (hl : l.length ≤ 1000) : Sl 1 Rtext nowhere w (.slice (some ⟨g, 0, none⟩) l.length l.length) l := by
  refine ⟨_, _, rfl, Nat.le_refl _, by unfold maxLen; omega, (fun e => by cases e), fun _ => ⟨g, 0, rfl, fun h => h, fun j hj => ⟨[.string (bs l[j])], fun i u hu => ?_, rfl⟩⟩, fun b off hA i hi => ?_⟩
  · have hi0 : i = 0 := by
      have := (List.getElem?_eq_some_iff.1 hu).1
      simp at this; omega
    subst hi0
    simp at hu
    subst hu
    have := h.cell (0 + j * 1 + 0)
    rw [this]
    simp [hj]
  · injection hA with hA
    injection hA with e1 e2
    subst e1 e2
    exact h.frozen _
theorem set10 {W : World} {g : Nat} {t : TypeId} {x0 x1 x2 x3 x4 x5 x6 x7 x8 x9 : Value} (h : Blk W g t #[x0, x1, x2, x3, x4, x5, x6, x7, x8, x9]) (a0 a1 a2 a3 a4 a5 a6 a7 a8 a9 : Value) :
    ∃ W9, W9 = (((((((((W.setCell ⟨g, 0, none⟩ a0).setCell ⟨g, 1, none⟩ a1).setCell ⟨g, 2, none⟩ a2).setCell ⟨g, 3, none⟩ a3).setCell ⟨g, 4, none⟩ a4).setCell ⟨g, 5, none⟩ a5).setCell ⟨g, 6, none⟩ a6).setCell ⟨g, 7, none⟩ a7).setCell ⟨g, 8, none⟩ a8).setCell ⟨g, 9, none⟩ a9 ∧ Blk W9 g t #[a0, a1, a2, a3, a4, a5, a6, a7, a8, a9] ∧ Kept (fun k => k = g) W W9 := by
  refine ⟨_, rfl, ?_, ?_⟩
  · have := ((((((((((h.set (u := a0) 0).set (u := a1) 1).set (u := a2) 2).set (u := a3) 3).set (u := a4) 4).set (u := a5) 5).set (u := a6) 6).set (u := a7) 7).set (u := a8) 8).set (u := a9) 9)
    simpa using this
  · exact (((((((((((Kept.refl (fun k => k = g) W).setCell (p := ⟨g, 0, none⟩) a0 fun _ => rfl).setCell (p := ⟨g, 1, none⟩) a1 fun _ => rfl).setCell (p := ⟨g, 2, none⟩) a2 fun _ => rfl).setCell (p := ⟨g, 3, none⟩) a3 fun _ => rfl).setCell (p := ⟨g, 4, none⟩) a4 fun _ => rfl).setCell (p := ⟨g, 5, none⟩) a5 fun _ => rfl).setCell (p := ⟨g, 6, none⟩) a6 fun _ => rfl).setCell (p := ⟨g, 7, none⟩) a7 fun _ => rfl).setCell (p := ⟨g, 8, none⟩) a8 fun _ => rfl).setCell (p := ⟨g, 9, none⟩) a9 fun _ => rfl)
def zE : Array Value := #[.string ⟨#[]⟩, .int .i64 0, .int .i64 0, .int .i64 0, .int .i64 0, .string ⟨#[]⟩, .string ⟨#[]⟩, .int .i64 0, .string ⟨#[]⟩, .slice none 0 0]
/-- What entry makes, each operation's value. -/
def enR (base : Nat) (t : Td) (h : HdR) (nm d : List UInt8) : Nat → Value → World → Prop
  | 2, v, w => ∃ g, v = .slice (some ⟨g, 0, none⟩) 1 1 ∧ Blk w g 5 #[.int .u8 76]
  | 3, v, _ => v = .string (bs [76])
  | 4, v, w => Sl 1 Rtext nowhere w v [kPth, [76]]
  | 5, v, _ => v = .string (bs (firstT t [kPth, [76]] nm))
  | 11, v, _ => v = .int .i64 (orN t kUid h.uid : Int)
  | 15, v, _ => v = .int .i64 (orN t kGid h.gid : Int)
  | 19, v, w => Sl 1 Rtext nowhere w v [kOwn]
  | 20, v, _ => v = .string (bs (firstT t [kOwn] h.owner))
  | 24, v, w => Sl 1 Rtext nowhere w v [kGrp]
  | 25, v, _ => v = .string (bs (firstT t [kGrp] h.group))
  | 29, v, _ => v = .int .i64 (orN t kTime h.mtime : Int)
  | 31, v, w => ∃ B, base ≤ B ∧ OwnL 1 Rbyte 5 B nowhere w v d
  | 32, v, w => ∃ dv B, v = .agg #[.string (bs (firstT t [kPth, [76]] nm)), .int .i64 1, .int .i64 (h.mode : Int), .int .i64 (orN t kUid h.uid : Int), .int .i64 (orN t kGid h.gid : Int), .string (bs (firstT t [kOwn] h.owner)), .string (bs (firstT t [kGrp] h.group)), .int .i64 (orN t kTime h.mtime : Int), .string ⟨#[]⟩, dv] ∧ base ≤ B ∧ OwnL 1 Rbyte 5 B nowhere w dv d
  | 33, v, w => ∃ g, v = .pointer (some ⟨g, 0, none⟩) ∧ Blk w g 41 zE ∧ base ≤ g
  | _, _, _ => True
theorem enR_grow (base : Nat) (t : Td) (h : HdR) (nm d : List UInt8) : ∀ k v w w', enR base t h nm d k v w → Below w.heap.size w w' → enR base t h nm d k v w' := by
  intro k v w w' hR hb
  unfold enR at hR ⊢
  split at hR
  · obtain ⟨g, h1, h2⟩ := hR
    exact ⟨g, h1, h2.below hb h2.lt⟩
  · exact hR
  · exact Below.sl good_text hb hR
  · exact hR
  · exact hR
  · exact hR
  · exact Below.sl good_text hb hR
  · exact hR
  · exact Below.sl good_text hb hR
  · exact hR
  · exact hR
  · obtain ⟨B, h1, h2⟩ := hR
    exact ⟨B, h1, h2.keep good_byte (Kept.of_below hb _)⟩
  · obtain ⟨dv, B, h1, h2, h3⟩ := hR
    exact ⟨dv, B, h1, h2, h3.keep good_byte (Kept.of_below hb _)⟩
  · obtain ⟨g, h1, h2, h3⟩ := hR
    exact ⟨g, h1, h2.below hb h2.lt, h3⟩
  · trivial
theorem three_al (w : World) (t t' t'' : TypeId) (c c' c'' : Array Value) : ∃ W g g' g'', W = ((w.alloc (.cells c t)).alloc (.cells c' t')).alloc (.cells c'' t'') ∧ g = w.heap.size ∧ g' = w.heap.size + 1 ∧ g'' = w.heap.size + 1 + 1 ∧ Blk W g t c ∧ Blk W g' t' c' ∧ Blk W g'' t'' c'' ∧ Below w.heap.size w W ∧ w.heap.size ≤ g ∧ w.heap.size ≤ g' ∧ w.heap.size ≤ g'' := by
  obtain ⟨W, g, g', hW, h1, h2, b1, b2, hb, l1, l2⟩ := two_al w t t' c c'
  have hs : W.heap.size = w.heap.size + 1 + 1 := by rw [hW]; simp
  have hq := (Below.refl W.heap.size W).alloc (Nat.le_refl _) (.cells c'' t'')
  refine ⟨_, g, g', _, rfl, h1, h2, rfl, ?_, ?_, ?_, ?_, l1, l2, by omega⟩
  · rw [← hW]; exact b1.below hq b1.lt
  · rw [← hW]; exact b2.below hq b2.lt
  · rw [← hW, ← hs]; exact Blk.new W t'' c''
  · rw [← hW]; exact hb.trans (hq.mono hb.size)
theorem trim_slash (s : List UInt8) : cutSl s = Lib.trimSuffix s [47] := by
  unfold cutSl Lib.trimSuffix
  have e : (s.getLast? = some 47) ↔ Lib.hasSuffix s [47] = true := by
    unfold Lib.hasSuffix
    rw [List.isSuffixOf_iff_suffix]
    rw [List.getLast?_eq_some_iff]
    exact ⟨fun ⟨l, h⟩ => ⟨l, h.symm⟩, fun ⟨l, h⟩ => ⟨l, h.symm⟩⟩
  by_cases h : s.getLast? = some 47
  · rw [if_pos h, if_pos (e.1 h), List.dropLast_eq_take]; rfl
  · rw [if_neg h, if_neg (fun h2 => h (e.2 h2))]
variable {w0 w w' : World} {gr mf : Nat} {bv lv pv : Value} {L : List En} {f : Nat → Value} {PL : List Nat} {t : Td} {fr : Nat}
/-- A head as a value, with whatever size. -/
def headVS (h : HdR) (z : Int) : Value := .agg #[.string (bs h.name), .string (bs h.pfx), .string (bs h.link), .int .i64 (h.mode : Int), .int .i64 (h.uid : Int), .int .i64 (h.gid : Int), .int .i64 z, .int .i64 (h.mtime : Int), .int .u8 (h.kind.toNat : Int), .string (bs h.owner), .string (bs h.group)]
def nbB (g : Bool) (p : List UInt8) : Bool := !g && !decide (p = [])
theorem name_len {h : HdR} (hn : h.name.length ≤ 100) (hp : h.pfx.length ≤ 155) : (nameR h).length ≤ 256 := by
  unfold nameR
  split
  · simp only [List.length_append, List.length_cons, List.length_nil]; omega
  · omega
set_option maxRecDepth 20000 in
set_option maxHeartbeats 32000000 in
theorem tentry_any (hrd : RT w0 gr mf bv lv pv L f PL t fr w) (h : HdR) (z : Int) (hn : h.name.length ≤ 100) (hp : h.pfx.length ≤ 155) (hk : kindR h.kind ≠ 0) (d : List UInt8) (dv : Value) (hd : Sl 1 Rbyte (fun k => w0.heap.size ≤ k) w0 dv d) (hdl : d.length ≤ 100000000) (hft : (firstT t [kPth, [76]] (nameR h)).length ≤ 1000000000) :
    Calls Tryz.prog 47 #[.pointer (some ⟨gr, 0, none⟩), headVS h z, .bool h.gnu, dv] w fun r w' => ∃ dv', r = .returned (entV (entS t h d) dv') ∧ Below w.heap.size w w' ∧ ∃ B, w.heap.size ≤ B ∧ OwnL 1 Rbyte 5 B nowhere w' dv' d := by
  obtain ⟨W1, gb, gH, gR, hW1, hgb, hgH, hgR, bB, bH, bR, hb1, lb, lH, lR⟩ := three_al w 54 43 41 #[.pointer (some ⟨gr, 0, none⟩)] #[.string (bs h.name), .string (bs h.pfx), .string (bs h.link), .int .i64 (h.mode : Int), .int .i64 (h.uid : Int), .int .i64 (h.gid : Int), .int .i64 z, .int .i64 (h.mtime : Int), .int .u8 (h.kind.toNat : Int), .string (bs h.owner), .string (bs h.group)] zE
  have HNL := name_len hn hp
  have zn := bs_size h.name
  have zp := bs_size h.pfx
  obtain ⟨Ad, capd, rfl, hd1, hd2⟩ := hd.form
  unfold maxLen at hd2
  unfold headVS
  unfold zE at hW1
  go_enter Tryz.func47, Tryz.ntmps47
  go_upto_region 1 with fail
  rw [← hW1, ← hgR, ← hgH, ← hgb]
  clear hW1 hgR hgH hgb
  have rd1 := hrd.below hb1
  have hHR : gH ≠ gR := Blk.apartT bH bR (by decide)
  obtain ⟨y0, y1, y2, y3, y4, y5, y6, y7, y8, y9, y10⟩ := cells11 bH
  have HNM : Hid (nameR h = if h.gnu = false ∧ h.pfx ≠ [] then h.pfx ++ [47] ++ h.name else h.name) := Lib.hid rfl
  obtain ⟨nm, HNN⟩ : ∃ x, Hid (nameR h = x) := ⟨_, Lib.hid rfl⟩
  rw [HNN.out] at HNM hft
  obtain ⟨gg, HGG⟩ : ∃ x, Hid (h.gnu = x) := ⟨_, Lib.hid rfl⟩
  rw [HGG.out] at HNM ⊢
  go_upto_region 4 with fail
  go_cut [23] (fun s23 wx => s23 = .bool (nbB gg h.pfx) ∧ W1 = wx)
  case first =>
    have e1 : ((bs h.pfx).toList == []) = decide (h.pfx = []) := beq_bytes h.pfx []
    rcases (show gg = true ∨ gg = false by cases gg <;> simp) with hg | hg
    · have q : (!gg) = false := by rw [hg]; rfl
      have HG := Lib.hid hg
      clear hg HNM HGG
      go_wp2_with fail
      go_meet
      exact ⟨by rw [nbB, HG.out]; rfl, rfl⟩
    · have q : (!gg) = true := by rw [hg]; rfl
      have HG := Lib.hid hg
      clear hg HNM HGG
      by_cases hpe : h.pfx = []
      · have e3 : bs h.pfx = ⟨#[]⟩ := by rw [hpe]; rfl
        rw [e3] at y1
        have HPE := Lib.hid hpe
        clear e1 hpe e3
        go_wp2_with fail
        go_meet
        exact ⟨by rw [nbB, HG.out, HPE.out]; rfl, rfl⟩
      · have e3 : (bs h.pfx).toList.isEmpty = false := by rw [toList_bs]; simpa using hpe
        have e4 : ¬ (bs h.pfx).toList = [] := by rw [toList_bs]; exact hpe
        have HPE := Lib.hid hpe
        rw [decide_eq_false hpe] at e1
        clear hpe
        go_wp2_with fail
        go_meet
        exact ⟨by rw [nbB, HG.out, decide_eq_false HPE.out]; rfl, rfl⟩
  case rest =>
  obtain ⟨rfl, rfl⟩ := hcut
  have HN2 : Hid (nm = if nbB gg h.pfx = true then h.pfx ++ [47] ++ h.name else h.name) := Lib.hid (by
    rw [HNM.out, nbB]
    by_cases h1 : gg = false
    · by_cases h2 : h.pfx = []
      · rw [if_neg (fun h => h.2 h2), if_neg (by rw [decide_eq_true h2]; simp)]
      · rw [if_pos ⟨h1, h2⟩, if_pos (by rw [h1, decide_eq_false h2]; rfl)]
    · rw [if_neg (fun h => h1 h.1), if_neg (by
        have : gg = true := by simpa using h1
        rw [this]; simp)])
  clear HNM
  go_upto_if 23 with fail
  go_cut [11, 23] (fun s11 s23 wx => s11 = .string (bs nm) ∧ W1 = wx)
  case first =>
    have HT : Hid (bs h.pfx ++ ⟨#[47]⟩ ++ bs h.name = bs (h.pfx ++ [47] ++ h.name)) := Lib.hid (by
      show bs h.pfx ++ bs [47] ++ bs h.name = _
      rw [bs_app, bs_app])
    have x1 : ¬ 9223372036854775807 < h.pfx.length + 1 := by omega
    have x2 : ¬ 9223372036854775807 < h.pfx.length + 1 + h.name.length := by omega
    rcases (show nbB gg h.pfx = true ∨ nbB gg h.pfx = false by cases nbB gg h.pfx <;> simp) with hB | hB
    · have HV : Hid (nm = h.pfx ++ [47] ++ h.name) := Lib.hid (HN2.out.trans (if_pos hB))
      clear HN2
      rw [hB]
      clear hB
      go_wp2_with fail
      go_meet
      exact ⟨by rw [HV.out, ← HT.out], rfl⟩
    · have HV : Hid (nm = h.name) := Lib.hid (HN2.out.trans (if_neg (by rw [hB]; simp)))
      clear HN2
      rw [hB]
      clear hB
      go_wp2_with fail
      go_meet
      exact ⟨by rw [HV.out], rfl⟩
  case rest =>
  obtain ⟨rfl, rfl⟩ := hcut
  clear HN2
  have HNL2 : nm.length ≤ 256 := by rw [← HNN.out]; exact HNL
  go_upto_region 6 with fail
  have HTX : Hid (∀ W, Below W1.heap.size W1 W → ∀ s ks kv, Sl 1 Rtext nowhere W kv ks → ks.length ≤ 5 → Calls Tryz.prog 70 #[.string (bs s), kv, .pointer (some ⟨gb, 0, none⟩)] W fun r w' => r = .returned (.string (bs (firstT t ks s))) ∧ Below W.heap.size W w') := Lib.hid fun W hb s ks kv h1 h2 => etext_any (rd1.below hb) gb ((Kept.of_below hb nowhere).cell (bB.cell 0) fun h => h) s ks kv h1 h2
  have HNU : Hid (∀ W, Below W1.heap.size W1 W → ∀ (n : Nat) key, Calls Tryz.prog 71 #[.int .i64 (n : Int), .string (bs key), .pointer (some ⟨gb, 0, none⟩)] W fun r w' => r = .returned (.int .i64 (orN t key n : Int)) ∧ Below W.heap.size W w') := Lib.hid fun W hb n key => enum_any (rd1.below hb) gb ((Kept.of_below hb nowhere).cell (bB.cell 0) fun h => h) n key
  have HCL : Hid (∀ W, Below W1.heap.size W1 W → Calls Tryz.prog 72 #[.slice Ad d.length capd] W fun e w' => (∃ v', e = .returned v' ∧ OwnL 1 Rbyte 5 W.heap.size nowhere w' v' d) ∧ Below W.heap.size W w') := Lib.hid fun W hb => bclone_any d _ _ W (hd.keep good_byte (Kept.low' (rd1.below hb).bel)) (by omega)
  have HYS : ∀ W, Below W1.heap.size W1 W → (fun W => Below W1.heap.size W1 W ∧ W.cell? ⟨gH, 3, none⟩ = some (.int .i64 (h.mode : Int)) ∧ W.cell? ⟨gH, 4, none⟩ = some (.int .i64 (h.uid : Int)) ∧ W.cell? ⟨gH, 5, none⟩ = some (.int .i64 (h.gid : Int)) ∧ W.cell? ⟨gH, 7, none⟩ = some (.int .i64 (h.mtime : Int)) ∧ W.cell? ⟨gH, 9, none⟩ = some (.string (bs h.owner)) ∧ W.cell? ⟨gH, 10, none⟩ = some (.string (bs h.group))) W := fun W hb => by
    have q := Kept.of_below hb nowhere
    exact ⟨hb, q.cell y3 fun h => h, q.cell y4 fun h => h, q.cell y5 fun h => h, q.cell y7 fun h => h, q.cell y9 fun h => h, q.cell y10 fun h => h⟩
  refine wp_region_rel (enR W1.heap.size t h nm d) (fun W => Below W1.heap.size W1 W ∧ W.cell? ⟨gH, 3, none⟩ = some (.int .i64 (h.mode : Int)) ∧ W.cell? ⟨gH, 4, none⟩ = some (.int .i64 (h.uid : Int)) ∧ W.cell? ⟨gH, 5, none⟩ = some (.int .i64 (h.gid : Int)) ∧ W.cell? ⟨gH, 7, none⟩ = some (.int .i64 (h.mtime : Int)) ∧ W.cell? ⟨gH, 9, none⟩ = some (.string (bs h.owner)) ∧ W.cell? ⟨gH, 10, none⟩ = some (.string (bs h.group))) [0, 1, 6, 7, 8, 9, 10, 12, 13, 14, 16, 17, 18, 21, 22, 23, 26, 27, 28, 30] [31, 32, 33, 34, 40, 44, 48, 49, 53, 54, 58, 60, 61, 12] [2, 3, 4, 5, 11, 15, 19, 20, 24, 25, 29, 31, 32, 33, 34] [] [] (some 34) (by kernel_rfl) (by kernel_rfl) (enR_grow _ _ _ _ _) (fun w w' hS hb => HYS _ (hS.1.trans (hb.mono hS.1.size))) (HYS _ (Below.refl _ _).drew) ?_
  simp only [List.map, List.getD_cons_zero, List.getD_cons_succ]
  iterate 20 (refine qs_step (v := ?_) rfl (fun w' hw' => ?_) ?_; rotate_left; (focus (go_simp <;> (first | with_reducible rfl | omega))); simp only [Act.put, List.setIfInBounds_toArray, List.set_cons_zero, List.set_cons_succ])
  refine ⟨all_cons ?_ (all_cons ?_ (all_cons ?_ (all_cons ?_ (all_cons ?_ (all_cons ?_ (all_cons ?_ (all_cons ?_ (all_cons ?_ (all_cons ?_ (all_cons ?_ (all_cons ?_ (all_cons ?_ (all_cons ?_ (all_cons ?_ (all_nil))))))))))))))), fun i hi => ?_, fun hn => ?_⟩
  · refine step_of (by kernel_rfl) ?_
    simp only [List.getD_cons_zero, List.getD_cons_succ]
    intro u w' hS hR K hK
    have hKS := fun v w2 h1 h2 => hK v w2 h1 (Or.inr h2)
    replace hK := fun v w2 h1 h2 => hK v w2 h1 (Or.inl h2)
    clear hR hKS
    simp only [mixA, List.foldl_cons, List.foldl_nil] at hK ⊢
    simp only [Act.put, List.setIfInBounds_toArray, List.set_cons_zero, List.set_cons_succ] at hK ⊢
    go_simp
    exact hK _ _ ⟨_, rfl, Blk.new w' 5 #[.int .u8 76]⟩ ((Below.refl _ _).alloc (Nat.le_refl _) _)
  · refine step_of (by kernel_rfl) ?_
    simp only [List.getD_cons_zero, List.getD_cons_succ]
    intro u w' hS hR K hK
    have hKS := fun v w2 h1 h2 => hK v w2 h1 (Or.inr h2)
    replace hK := fun v w2 h1 h2 => hK v w2 h1 (Or.inl h2)
    have r2 := hR 2 (by decide) (by kernel_rfl) 31 (by kernel_rfl)
    clear hR hKS
    simp only [mixA, List.foldl_cons, List.foldl_nil] at hK ⊢
    simp only [Act.put, List.setIfInBounds_toArray, List.set_cons_zero, List.set_cons_succ] at hK ⊢
    obtain ⟨g, hg, hb⟩ := r2
    have hst : (convert 25 9 (u 31)).run Tryz.prog w' = .ok (.string (bs [76])) w' := by rw [hg]; exact str8 (SB.blk (l := [76]) hb (by unfold maxLen; simp))
    clear hg hb
    go_simp
    exact hK _ _ rfl (Below.refl _ _)
  · refine step_of (by kernel_rfl) ?_
    simp only [List.getD_cons_zero, List.getD_cons_succ]
    intro u w' hS hR K hK
    have hKS := fun v w2 h1 h2 => hK v w2 h1 (Or.inr h2)
    replace hK := fun v w2 h1 h2 => hK v w2 h1 (Or.inl h2)
    have r3 := hR 3 (by decide) (by kernel_rfl) 32 (by kernel_rfl)
    clear hR hKS
    simp only [mixA, List.foldl_cons, List.foldl_nil] at hK ⊢
    simp only [Act.put, List.setIfInBounds_toArray, List.set_cons_zero, List.set_cons_succ] at hK ⊢
    have q : u 32 = .string (bs [76]) := r3
    rw [q] at hK ⊢
    clear q r3
    go_simp
    exact hK _ _ (lit_texts [kPth, [76]] (Blk.new w' 9 _) (by decide)) ((Below.refl _ _).alloc (Nat.le_refl _) _)
  · refine step_of (by kernel_rfl) ?_
    simp only [List.getD_cons_zero, List.getD_cons_succ]
    intro u w' hS hR K hK
    have hKS := fun v w2 h1 h2 => hK v w2 h1 (Or.inr h2)
    replace hK := fun v w2 h1 h2 => hK v w2 h1 (Or.inl h2)
    have r4 := hR 4 (by decide) (by kernel_rfl) 33 (by kernel_rfl)
    clear hR hKS
    simp only [mixA, List.foldl_cons, List.foldl_nil] at hK ⊢
    simp only [Act.put, List.setIfInBounds_toArray, List.set_cons_zero, List.set_cons_succ] at hK ⊢
    have q : Sl 1 Rtext nowhere w' (u 33) [kPth, [76]] := r4
    go_simp
    refine (HTX.out w' hS.1 nm [kPth, [76]] (u 33) q (by decide)).mono ?_
    rintro r W2 ⟨rfl, hb⟩
    exact hK _ _ rfl hb
  · refine step_of (by kernel_rfl) ?_
    simp only [List.getD_cons_zero, List.getD_cons_succ]
    intro u w' hS hR K hK
    have hKS := fun v w2 h1 h2 => hK v w2 h1 (Or.inr h2)
    replace hK := fun v w2 h1 h2 => hK v w2 h1 (Or.inl h2)
    have r5 := hR 5 (by decide) (by kernel_rfl) 34 (by kernel_rfl)
    clear hR hKS
    simp only [mixA, List.foldl_cons, List.foldl_nil] at hK ⊢
    simp only [Act.put, List.setIfInBounds_toArray, List.set_cons_zero, List.set_cons_succ] at hK ⊢
    go_simp
    refine (HNU.out w' hS.1 h.uid kUid).mono ?_
    rintro r W2 ⟨rfl, hb⟩
    exact hK _ _ rfl hb
  · refine step_of (by kernel_rfl) ?_
    simp only [List.getD_cons_zero, List.getD_cons_succ]
    intro u w' hS hR K hK
    have hKS := fun v w2 h1 h2 => hK v w2 h1 (Or.inr h2)
    replace hK := fun v w2 h1 h2 => hK v w2 h1 (Or.inl h2)
    have r11 := hR 11 (by decide) (by kernel_rfl) 40 (by kernel_rfl)
    clear hR hKS
    simp only [mixA, List.foldl_cons, List.foldl_nil] at hK ⊢
    simp only [Act.put, List.setIfInBounds_toArray, List.set_cons_zero, List.set_cons_succ] at hK ⊢
    go_simp
    refine (HNU.out w' hS.1 h.gid kGid).mono ?_
    rintro r W2 ⟨rfl, hb⟩
    exact hK _ _ rfl hb
  · refine step_of (by kernel_rfl) ?_
    simp only [List.getD_cons_zero, List.getD_cons_succ]
    intro u w' hS hR K hK
    have hKS := fun v w2 h1 h2 => hK v w2 h1 (Or.inr h2)
    replace hK := fun v w2 h1 h2 => hK v w2 h1 (Or.inl h2)
    clear hR hKS
    simp only [mixA, List.foldl_cons, List.foldl_nil] at hK ⊢
    simp only [Act.put, List.setIfInBounds_toArray, List.set_cons_zero, List.set_cons_succ] at hK ⊢
    go_simp
    exact hK _ _ (lit_texts [kOwn] (Blk.new w' 9 _) (by decide)) ((Below.refl _ _).alloc (Nat.le_refl _) _)
  · refine step_of (by kernel_rfl) ?_
    simp only [List.getD_cons_zero, List.getD_cons_succ]
    intro u w' hS hR K hK
    have hKS := fun v w2 h1 h2 => hK v w2 h1 (Or.inr h2)
    replace hK := fun v w2 h1 h2 => hK v w2 h1 (Or.inl h2)
    have r15 := hR 15 (by decide) (by kernel_rfl) 44 (by kernel_rfl)
    have r19 := hR 19 (by decide) (by kernel_rfl) 48 (by kernel_rfl)
    clear hR hKS
    simp only [mixA, List.foldl_cons, List.foldl_nil] at hK ⊢
    simp only [Act.put, List.setIfInBounds_toArray, List.set_cons_zero, List.set_cons_succ] at hK ⊢
    have q : Sl 1 Rtext nowhere w' (u 48) [kOwn] := r19
    go_simp
    refine (HTX.out w' hS.1 h.owner [kOwn] (u 48) q (by decide)).mono ?_
    rintro r W2 ⟨rfl, hb⟩
    exact hK _ _ rfl hb
  · refine step_of (by kernel_rfl) ?_
    simp only [List.getD_cons_zero, List.getD_cons_succ]
    intro u w' hS hR K hK
    have hKS := fun v w2 h1 h2 => hK v w2 h1 (Or.inr h2)
    replace hK := fun v w2 h1 h2 => hK v w2 h1 (Or.inl h2)
    clear hR hKS
    simp only [mixA, List.foldl_cons, List.foldl_nil] at hK ⊢
    simp only [Act.put, List.setIfInBounds_toArray, List.set_cons_zero, List.set_cons_succ] at hK ⊢
    go_simp
    exact hK _ _ (lit_texts [kGrp] (Blk.new w' 9 _) (by decide)) ((Below.refl _ _).alloc (Nat.le_refl _) _)
  · refine step_of (by kernel_rfl) ?_
    simp only [List.getD_cons_zero, List.getD_cons_succ]
    intro u w' hS hR K hK
    have hKS := fun v w2 h1 h2 => hK v w2 h1 (Or.inr h2)
    replace hK := fun v w2 h1 h2 => hK v w2 h1 (Or.inl h2)
    have r20 := hR 20 (by decide) (by kernel_rfl) 49 (by kernel_rfl)
    have r24 := hR 24 (by decide) (by kernel_rfl) 53 (by kernel_rfl)
    clear hR hKS
    simp only [mixA, List.foldl_cons, List.foldl_nil] at hK ⊢
    simp only [Act.put, List.setIfInBounds_toArray, List.set_cons_zero, List.set_cons_succ] at hK ⊢
    have q : Sl 1 Rtext nowhere w' (u 53) [kGrp] := r24
    go_simp
    refine (HTX.out w' hS.1 h.group [kGrp] (u 53) q (by decide)).mono ?_
    rintro r W2 ⟨rfl, hb⟩
    exact hK _ _ rfl hb
  · refine step_of (by kernel_rfl) ?_
    simp only [List.getD_cons_zero, List.getD_cons_succ]
    intro u w' hS hR K hK
    have hKS := fun v w2 h1 h2 => hK v w2 h1 (Or.inr h2)
    replace hK := fun v w2 h1 h2 => hK v w2 h1 (Or.inl h2)
    have r25 := hR 25 (by decide) (by kernel_rfl) 54 (by kernel_rfl)
    clear hR hKS
    simp only [mixA, List.foldl_cons, List.foldl_nil] at hK ⊢
    simp only [Act.put, List.setIfInBounds_toArray, List.set_cons_zero, List.set_cons_succ] at hK ⊢
    go_simp
    refine (HNU.out w' hS.1 h.mtime kTime).mono ?_
    rintro r W2 ⟨rfl, hb⟩
    exact hK _ _ rfl hb
  · refine step_of (by kernel_rfl) ?_
    simp only [List.getD_cons_zero, List.getD_cons_succ]
    intro u w' hS hR K hK
    have hKS := fun v w2 h1 h2 => hK v w2 h1 (Or.inr h2)
    replace hK := fun v w2 h1 h2 => hK v w2 h1 (Or.inl h2)
    have r29 := hR 29 (by decide) (by kernel_rfl) 58 (by kernel_rfl)
    clear hR hKS
    simp only [mixA, List.foldl_cons, List.foldl_nil] at hK ⊢
    simp only [Act.put, List.setIfInBounds_toArray, List.set_cons_zero, List.set_cons_succ] at hK ⊢
    go_simp
    refine (HCL.out w' hS.1).mono ?_
    rintro r W2 ⟨⟨v', rfl, how⟩, hb⟩
    exact hK _ _ ⟨_, hS.1.size, how⟩ hb
  · refine step_of (by kernel_rfl) ?_
    simp only [List.getD_cons_zero, List.getD_cons_succ]
    intro u w' hS hR K hK
    have hKS := fun v w2 h1 h2 => hK v w2 h1 (Or.inr h2)
    replace hK := fun v w2 h1 h2 => hK v w2 h1 (Or.inl h2)
    have r5 := hR 5 (by decide) (by kernel_rfl) 34 (by kernel_rfl)
    have r11 := hR 11 (by decide) (by kernel_rfl) 40 (by kernel_rfl)
    have r15 := hR 15 (by decide) (by kernel_rfl) 44 (by kernel_rfl)
    have r20 := hR 20 (by decide) (by kernel_rfl) 49 (by kernel_rfl)
    have r25 := hR 25 (by decide) (by kernel_rfl) 54 (by kernel_rfl)
    have r29 := hR 29 (by decide) (by kernel_rfl) 58 (by kernel_rfl)
    have r31 := hR 31 (by decide) (by kernel_rfl) 60 (by kernel_rfl)
    clear hR hKS
    simp only [mixA, List.foldl_cons, List.foldl_nil] at hK ⊢
    simp only [Act.put, List.setIfInBounds_toArray, List.set_cons_zero, List.set_cons_succ] at hK ⊢
    obtain ⟨B, hB, how⟩ := r31
    have q5 : u 34 = .string (bs (firstT t [kPth, [76]] nm)) := r5
    have q11 : u 40 = .int .i64 (orN t kUid h.uid : Int) := r11
    have q15 : u 44 = .int .i64 (orN t kGid h.gid : Int) := r15
    have q20 : u 49 = .string (bs (firstT t [kOwn] h.owner)) := r20
    have q25 : u 54 = .string (bs (firstT t [kGrp] h.group)) := r25
    have q29 : u 58 = .int .i64 (orN t kTime h.mtime : Int) := r29
    obtain ⟨A', c', hf⟩ := how.form
    rw [q5, q11, q15, q20, q25, q29, hf] at hK ⊢
    rw [hf] at how
    clear q5 q11 q15 q20 q25 q29 r5 r11 r15 r20 r25 r29 hf
    go_simp
    exact hK _ _ ⟨_, B, rfl, hB, how⟩ (Below.refl _ _)
  · refine step_of (by kernel_rfl) ?_
    simp only [List.getD_cons_zero, List.getD_cons_succ]
    intro u w' hS hR K hK
    have hKS := fun v w2 h1 h2 => hK v w2 h1 (Or.inr h2)
    replace hK := fun v w2 h1 h2 => hK v w2 h1 (Or.inl h2)
    clear hR hKS
    simp only [mixA, List.foldl_cons, List.foldl_nil] at hK ⊢
    simp only [Act.put, List.setIfInBounds_toArray, List.set_cons_zero, List.set_cons_succ] at hK ⊢
    go_simp
    exact hK _ _ ⟨_, rfl, Blk.new w' 41 zE, hS.1.size⟩ ((Below.refl _ _).alloc (Nat.le_refl _) _)
  · intro h; exact absurd rfl h
  · obtain rfl := Option.some.inj hi
    refine fin_of (by kernel_rfl) ?_
    simp only [List.getD_cons_zero, List.getD_cons_succ, List.map_cons, List.map_nil]
    intro u w' hS hR K hK
    have r2 := hR 2 (by decide) (by decide) 31 (by kernel_rfl)
    have r3 := hR 3 (by decide) (by decide) 32 (by kernel_rfl)
    have r4 := hR 4 (by decide) (by decide) 33 (by kernel_rfl)
    have r5 := hR 5 (by decide) (by decide) 34 (by kernel_rfl)
    have r11 := hR 11 (by decide) (by decide) 40 (by kernel_rfl)
    have r15 := hR 15 (by decide) (by decide) 44 (by kernel_rfl)
    have r19 := hR 19 (by decide) (by decide) 48 (by kernel_rfl)
    have r20 := hR 20 (by decide) (by decide) 49 (by kernel_rfl)
    have r24 := hR 24 (by decide) (by decide) 53 (by kernel_rfl)
    have r25 := hR 25 (by decide) (by decide) 54 (by kernel_rfl)
    have r29 := hR 29 (by decide) (by decide) 58 (by kernel_rfl)
    have r31 := hR 31 (by decide) (by decide) 60 (by kernel_rfl)
    have r32 := hR 32 (by decide) (by decide) 61 (by kernel_rfl)
    have r33 := hR 33 (by decide) (by decide) 12 (by kernel_rfl)
    clear hR
    simp only [mixA, List.foldl_cons, List.foldl_nil]
    simp only [Act.put, List.setIfInBounds_toArray, List.set_cons_zero, List.set_cons_succ]
    obtain ⟨dvv, B, q32, hB, how⟩ := r32
    obtain ⟨gE, q33, bE, hgE⟩ := r33
    obtain ⟨Av, cv, hf⟩ := how.form
    subst hf
    have hSb := hS.1
    rw [q32, q33]
    clear q32 q33 r2 r3 r4 r5 r11 r15 r19 r20 r24 r25 r29 r31 hS HTX HNU HCL HYS
    have bE' : Blk w' gE 41 #[.string ⟨#[]⟩, .int .i64 0, .int .i64 0, .int .i64 0, .int .i64 0, .string ⟨#[]⟩, .string ⟨#[]⟩, .int .i64 0, .string ⟨#[]⟩, .slice none 0 0] := bE
    obtain ⟨c0, c1, c2, c3, c4, c5, c6, c7, c8, c9⟩ := bE'.cells10
    have f0 := bE'.frozen 0
    have f1 := bE'.frozen 1
    have f2 := bE'.frozen 2
    have f3 := bE'.frozen 3
    have f4 := bE'.frozen 4
    have f5 := bE'.frozen 5
    have f6 := bE'.frozen 6
    have f7 := bE'.frozen 7
    have f8 := bE'.frozen 8
    have f9 := bE'.frozen 9
    have HFL := Lib.hid hft
    clear hft
    obtain ⟨PT, HPT⟩ : ∃ x, Hid (bs (firstT t [kPth, [76]] nm) = x) := ⟨_, Lib.hid rfl⟩
    obtain ⟨OW, HOW⟩ : ∃ x, Hid (bs (firstT t [kOwn] h.owner) = x) := ⟨_, Lib.hid rfl⟩
    obtain ⟨GP, HGP⟩ : ∃ x, Hid (bs (firstT t [kGrp] h.group) = x) := ⟨_, Lib.hid rfl⟩
    obtain ⟨nU, HNU⟩ : ∃ x, Hid (orN t kUid h.uid = x) := ⟨_, Lib.hid rfl⟩
    obtain ⟨nG, HNG⟩ : ∃ x, Hid (orN t kGid h.gid = x) := ⟨_, Lib.hid rfl⟩
    obtain ⟨nT, HNT⟩ : ∃ x, Hid (orN t kTime h.mtime = x) := ⟨_, Lib.hid rfl⟩
    rw [HPT.out, HOW.out, HGP.out, HNU.out, HNG.out, HNT.out]
    go_simp
    refine hK _ _ (nop_normal ?_)
    clear hK K
    obtain ⟨W9, hW9, bE9, k9⟩ := set10 bE' (.string PT) (.int .i64 1) (.int .i64 (h.mode : Int)) (.int .i64 (nU : Int)) (.int .i64 (nG : Int)) (.string OW) (.string GP) (.int .i64 (nT : Int)) (.string ⟨#[]⟩) (.slice Av d.length cv)
    rw [← hW9]
    have hgw : w.heap.size ≤ gE := Nat.le_trans hb1.size hgE
    have hbw : Below w.heap.size w w' := hb1.trans (hSb.mono hb1.size)
    have hb9 : Below w.heap.size w W9 := hbw.trans (k9.below hbw.size fun k _ e => by rw [e]; exact hgw)
    have nH : gH ≠ gE := fun e => by have := bH.lt; omega
    have nR : gR ≠ gE := fun e => by have := bR.lt; omega
    have nB : gb ≠ gE := fun e => by have := bB.lt; omega
    have bH9 : Blk W9 gH 43 #[.string (bs h.name), .string (bs h.pfx), .string (bs h.link), .int .i64 (h.mode : Int), .int .i64 (h.uid : Int), .int .i64 (h.gid : Int), .int .i64 z, .int .i64 (h.mtime : Int), .int .u8 (h.kind.toNat : Int), .string (bs h.owner), .string (bs h.group)] := k9.blk (bH.below hSb bH.lt) nH
    have bR9 : Blk W9 gR 41 zE := k9.blk (bR.below hSb bR.lt) nR
    have bB9 : Blk W9 gb 54 #[.pointer (some ⟨gr, 0, none⟩)] := k9.blk (bB.below hSb bB.lt) nB
    have how9 : OwnL 1 Rbyte 5 B nowhere W9 (.slice Av d.length cv) d := how.kept free_byte k9 (fun k e1 e2 => how.apartB bE' (by decide) (by rw [e1, e2]))
    have hBw : w.heap.size ≤ B := Nat.le_trans hb1.size hB
    clear hW9 k9 bE bE' how hb1 hSb hbw bH bR bB hgE hB y0 y1 y2 y3 y4 y5 y6 y7 y8 y9 y10 rd1 c0 c1 c2 c3 c4 c5 c6 c7 c8 c9 f0 f1 f2 f3 f4 f5 f6 f7 f8 f9
    obtain ⟨y0, y1, y2, y3, y4, y5, y6, y7, y8, y9, y10⟩ := cells11 bH9
    have h4 : h.kind = 49 ∨ h.kind = 50 ∨ h.kind = 53 ∨ (h.kind = 48 ∨ h.kind = 0) := by
      unfold kindR at hk
      by_cases a1 : h.kind = 0 ∨ h.kind = 48
      · exact .inr (.inr (.inr (a1.elim .inr .inl)))
      rw [if_neg a1] at hk
      by_cases a2 : h.kind = 53
      · exact .inr (.inr (.inl a2))
      rw [if_neg a2] at hk
      by_cases a3 : h.kind = 50
      · exact .inr (.inl a3)
      rw [if_neg a3] at hk
      by_cases a4 : h.kind = 49
      · exact .inl a4
      rw [if_neg a4] at hk
      exact absurd rfl hk
    obtain ⟨kc, HKC⟩ : ∃ x : Int, Hid ((h.kind.toNat : Int) = x) := ⟨_, Lib.hid rfl⟩
    rw [HKC.out] at y8
    clear bH9
    rcases h4 with h4 | h4 | h4 | h4
    · have q1 : (kc == 49) = true := by rw [← HKC.out, h4]; rfl
      obtain ⟨c0, c1, c2, c3, c4, c5, c6, c7, c8, c9⟩ := bE9.cells10
      have f1 := bE9.frozen 1
      go_upto_region 15 with fail
      clear c0 c1 c2 c3 c4 c5 c6 c7 c8 c9 f1
      have bEA : Blk (W9.setCell ⟨gE, 1, none⟩ (.int .i64 4)) gE 41 #[.string PT, .int .i64 4, .int .i64 (h.mode : Int), .int .i64 (nU : Int), .int .i64 (nG : Int), .string OW, .string GP, .int .i64 (nT : Int), .string ⟨#[]⟩, .slice Av d.length cv] := by
        have := bE9.set (u := (.int .i64 4)) 1
        simpa using this
      have kA := (Kept.refl (fun k => k = gE) W9).setCell (p := ⟨gE, 1, none⟩) (.int .i64 4) fun _ => rfl
      have hbA := hb9.trans (kA.below hb9.size fun k _ e => by rw [e]; exact hgw)
      have bRA := kA.blk bR9 nR
      have bBA := kA.blk bB9 nB
      have howA : OwnL 1 Rbyte 5 B nowhere _ (.slice Av d.length cv) d := how9.kept free_byte kA (fun k e1 e2 => how9.apartB bE9 (by decide) (by rw [e1, e2]))
      have y2' := kA.cell y2 nH
      clear y0 y1 y2 y3 y4 y5 y6 y7 y8 y9 y10 kA bR9 bB9 how9 hb9
      generalize W9.setCell ⟨gE, 1, none⟩ (.int .i64 4) = WA at bEA hbA bRA bBA howA y2' ⊢
      obtain ⟨c0, c1, c2, c3, c4, c5, c6, c7, c8, c9⟩ := bEA.cells10
      go_upto_region 16 with fail
      clear c0 c1 c2 c3 c4 c5 c6 c7 c8 c9
      have hos := one_str WA 75
      have hq1 := (Below.refl WA.heap.size WA).alloc (Nat.le_refl _) (.cells #[.int .u8 75] 5)
      have hos' : (convert 25 9 (.slice (some ⟨WA.heap.size, 0, none⟩) 1 1)).run Tryz.prog (WA.alloc (.cells #[.int .u8 75] 5)) = .ok (.string (bs [75])) (WA.alloc (.cells #[.int .u8 75] 5)) := hos
      clear hos
      generalize hWB : WA.alloc (.cells #[.int .u8 75] 5) = WB at hos' hq1
      have hq2 := (Below.refl WB.heap.size WB).alloc (Nat.le_refl _) (.cells #[.string (bs kLnk), .string (bs [75])] 9)
      have hlt : Sl 1 Rtext nowhere (WB.alloc (.cells #[.string (bs kLnk), .string (bs [75])] 9)) (.slice (some ⟨WB.heap.size, 0, none⟩) 2 2) [kLnk, [75]] := lit_texts [kLnk, [75]] (Blk.new WB 9 _) (by decide)
      have hqq : Below WA.heap.size WA (WB.alloc (.cells #[.string (bs kLnk), .string (bs [75])] 9)) := hq1.trans (hq2.mono hq1.size)
      have hbC := hbA.trans (hqq.mono hbA.size)
      have bEC := bEA.below hqq bEA.lt
      have bRC := bRA.below hqq bRA.lt
      have bBC := bBA.below hqq bBA.lt
      have howC : OwnL 1 Rbyte 5 B nowhere _ (.slice Av d.length cv) d := howA.keep good_byte (Kept.of_below hqq _)
      have gbc : (WB.alloc (.cells #[.string (bs kLnk), .string (bs [75])] 9)).cell? ⟨gb, 0, none⟩ = some (.pointer (some ⟨gr, 0, none⟩)) := bBC.cell 0
      have hcall := etext_any (hrd.below hbC) gb gbc h.link [kLnk, [75]] _ hlt (by decide)
      obtain ⟨LB, HLB⟩ : ∃ x, Hid (bs (firstT t [kLnk, [75]] h.link) = x) := ⟨_, Lib.hid rfl⟩
      rw [HLB.out] at hcall
      clear gbc hlt hq2 hqq hrd hq1 bRA bBA howA hbA bBC bEA
      have hcall' : Calls Tryz.prog 70 #[.string (bs h.link), .slice (some ⟨WB.heap.size, 0, none⟩) 2 2, .pointer (some ⟨gb, 0, none⟩)] (WB.alloc (.cells #[.string ⟨#[108, 105, 110, 107, 112, 97, 116, 104]⟩, .string (bs [75])] 9)) (fun r w' => r = .returned (.string LB) ∧ Below (WB.alloc (.cells #[.string ⟨#[108, 105, 110, 107, 112, 97, 116, 104]⟩, .string (bs [75])] 9)).heap.size (WB.alloc (.cells #[.string ⟨#[108, 105, 110, 107, 112, 97, 116, 104]⟩, .string (bs [75])] 9)) w') := hcall
      have bEC' : Blk (WB.alloc (.cells #[.string ⟨#[108, 105, 110, 107, 112, 97, 116, 104]⟩, .string (bs [75])] 9)) gE 41 #[.string PT, .int .i64 4, .int .i64 (h.mode : Int), .int .i64 (nU : Int), .int .i64 (nG : Int), .string OW, .string GP, .int .i64 (nT : Int), .string ⟨#[]⟩, .slice Av d.length cv] := bEC
      clear hcall bEC
      generalize hWC : WB.alloc (.cells #[.string ⟨#[108, 105, 110, 107, 112, 97, 116, 104]⟩, .string (bs [75])] 9) = WC at hcall' bEC'
      have bRC' : Blk WC gR 41 zE := by rw [← hWC]; exact bRC
      have hbC' : Below w.heap.size w WC := by rw [← hWC]; exact hbC
      have howC' : OwnL 1 Rbyte 5 B nowhere WC (.slice Av d.length cv) d := by rw [← hWC]; exact howC
      clear bRC hbC howC
      go_upto_region 17 with (go_at_call 70; refine hcall'.mono ?_; clear hcall'; rintro r WD ⟨rfl, hbD⟩; have bED := bEC'.below hbD bEC'.lt; have c8 := bED.cell 8; simp at c8; have f8 := bED.frozen 8)
      have hbDD := hbC'.trans (hbD.mono hbC'.size)
      have bRD := bRC'.below hbD bRC'.lt
      have howD : OwnL 1 Rbyte 5 B nowhere WD (.slice Av d.length cv) d := howC'.keep good_byte (Kept.of_below hbD _)
      clear bEC' hbC' bRC' howC' hbD hWC hWB c8 f8 hos' y2'
      have bEF : Blk (WD.setCell ⟨gE, 8, none⟩ (.string LB)) gE 41 #[.string PT, .int .i64 4, .int .i64 (h.mode : Int), .int .i64 (nU : Int), .int .i64 (nG : Int), .string OW, .string GP, .int .i64 (nT : Int), .string LB, .slice Av d.length cv] := by
        have := bED.set (u := .string LB) 8
        simpa using this
      have kF := (Kept.refl (fun k => k = gE) WD).setCell (p := ⟨gE, 8, none⟩) (.string LB) fun _ => rfl
      have hbF := hbDD.trans (kF.below hbDD.size fun k _ e => by rw [e]; exact hgw)
      have bRF := kF.blk bRD nR
      have howF : OwnL 1 Rbyte 5 B nowhere _ (.slice Av d.length cv) d := howD.kept free_byte kF (fun k e1 e2 => howD.apartB bED (by decide) (by rw [e1, e2]))
      clear kF bED hbDD bRD howD
      generalize WD.setCell ⟨gE, 8, none⟩ (.string LB) = WF at bEF hbF bRF howF ⊢
      have hkr : kindR h.kind = 4 := by rw [h4]; rfl
      clear h4
      obtain ⟨c0, c1, c2, c3, c4, c5, c6, c7, c8, c9⟩ := bEF.cells10
      have bRz : Blk _ gR 41 #[.string ⟨#[]⟩, .int .i64 0, .int .i64 0, .int .i64 0, .int .i64 0, .string ⟨#[]⟩, .string ⟨#[]⟩, .int .i64 0, .string ⟨#[]⟩, .slice none 0 0] := bRF
      obtain ⟨e0, e1, e2, e3, e4, e5, e6, e7, e8, e9⟩ := bRz.cells10
      have g0 := bRz.frozen 0
      have g1 := bRz.frozen 1
      have g2 := bRz.frozen 2
      have g3 := bRz.frozen 3
      have g4 := bRz.frozen 4
      have g5 := bRz.frozen 5
      have g6 := bRz.frozen 6
      have g7 := bRz.frozen 7
      have g8 := bRz.frozen 8
      have g9 := bRz.frozen 9
      go_wp2_with fail
      obtain ⟨WZ, hWZ, bZ, kZ⟩ := set10 bRz (.string PT) (.int .i64 4) (.int .i64 (h.mode : Int)) (.int .i64 (nU : Int)) (.int .i64 (nG : Int)) (.string OW) (.string GP) (.int .i64 (nT : Int)) (.string LB) (.slice Av d.length cv)
      rw [← hWZ]
      have hfin := hbF.trans (kZ.below hbF.size fun k _ e => by rw [e]; exact lR)
      have hoz : OwnL 1 Rbyte 5 B nowhere WZ (.slice Av d.length cv) d := howF.kept free_byte kZ (fun k e1 e2 => howF.apartB bRz (by decide) (by rw [e1, e2]))
      clear hWZ kZ howF hbF bRz e0 e1 e2 e3 e4 e5 e6 e7 e8 e9 c0 c1 c2 c3 c4 c5 c6 c7 c8 c9 g0 g1 g2 g3 g4 g5 g6 g7 g8 g9
      obtain ⟨c0, c1, c2, c3, c4, c5, c6, c7, c8, c9⟩ := bZ.cells10
      clear bZ
      refine bodyPost_ret (v := .agg #[.string PT, .int .i64 4, .int .i64 (h.mode : Int), .int .i64 (nU : Int), .int .i64 (nG : Int), .string OW, .string GP, .int .i64 (nT : Int), .string LB, .slice Av d.length cv]) ?_ ?_ ?_
      · simp [results, Tryz.results47, go_sem, c0, c1, c2, c3, c4, c5, c6, c7, c8, c9]
      · rfl
      · exact ⟨.slice Av d.length cv, by rw [← HLB.out, ← HPT.out, ← HOW.out, ← HGP.out, ← HNU.out, ← HNG.out, ← HNT.out, entV, entS, HNN.out, if_neg (show ¬ kindR h.kind = 2 by rw [hkr]; decide), if_pos (show kindR h.kind = 3 ∨ kindR h.kind = 4 by rw [hkr]; decide), hkr]; rfl, hfin, B, hBw, hoz⟩
    · have q1 : (kc == 49) = false := by rw [← HKC.out, h4]; rfl
      have q2 : (kc == 50) = true := by rw [← HKC.out, h4]; rfl
      obtain ⟨c0, c1, c2, c3, c4, c5, c6, c7, c8, c9⟩ := bE9.cells10
      have f1 := bE9.frozen 1
      go_upto_region 15 with fail
      clear c0 c1 c2 c3 c4 c5 c6 c7 c8 c9 f1
      have bEA : Blk (W9.setCell ⟨gE, 1, none⟩ (.int .i64 3)) gE 41 #[.string PT, .int .i64 3, .int .i64 (h.mode : Int), .int .i64 (nU : Int), .int .i64 (nG : Int), .string OW, .string GP, .int .i64 (nT : Int), .string ⟨#[]⟩, .slice Av d.length cv] := by
        have := bE9.set (u := (.int .i64 3)) 1
        simpa using this
      have kA := (Kept.refl (fun k => k = gE) W9).setCell (p := ⟨gE, 1, none⟩) (.int .i64 3) fun _ => rfl
      have hbA := hb9.trans (kA.below hb9.size fun k _ e => by rw [e]; exact hgw)
      have bRA := kA.blk bR9 nR
      have bBA := kA.blk bB9 nB
      have howA : OwnL 1 Rbyte 5 B nowhere _ (.slice Av d.length cv) d := how9.kept free_byte kA (fun k e1 e2 => how9.apartB bE9 (by decide) (by rw [e1, e2]))
      have y2' := kA.cell y2 nH
      clear y0 y1 y2 y3 y4 y5 y6 y7 y8 y9 y10 kA bR9 bB9 how9 hb9
      generalize W9.setCell ⟨gE, 1, none⟩ (.int .i64 3) = WA at bEA hbA bRA bBA howA y2' ⊢
      obtain ⟨c0, c1, c2, c3, c4, c5, c6, c7, c8, c9⟩ := bEA.cells10
      go_upto_region 16 with fail
      clear c0 c1 c2 c3 c4 c5 c6 c7 c8 c9
      have hos := one_str WA 75
      have hq1 := (Below.refl WA.heap.size WA).alloc (Nat.le_refl _) (.cells #[.int .u8 75] 5)
      have hos' : (convert 25 9 (.slice (some ⟨WA.heap.size, 0, none⟩) 1 1)).run Tryz.prog (WA.alloc (.cells #[.int .u8 75] 5)) = .ok (.string (bs [75])) (WA.alloc (.cells #[.int .u8 75] 5)) := hos
      clear hos
      generalize hWB : WA.alloc (.cells #[.int .u8 75] 5) = WB at hos' hq1
      have hq2 := (Below.refl WB.heap.size WB).alloc (Nat.le_refl _) (.cells #[.string (bs kLnk), .string (bs [75])] 9)
      have hlt : Sl 1 Rtext nowhere (WB.alloc (.cells #[.string (bs kLnk), .string (bs [75])] 9)) (.slice (some ⟨WB.heap.size, 0, none⟩) 2 2) [kLnk, [75]] := lit_texts [kLnk, [75]] (Blk.new WB 9 _) (by decide)
      have hqq : Below WA.heap.size WA (WB.alloc (.cells #[.string (bs kLnk), .string (bs [75])] 9)) := hq1.trans (hq2.mono hq1.size)
      have hbC := hbA.trans (hqq.mono hbA.size)
      have bEC := bEA.below hqq bEA.lt
      have bRC := bRA.below hqq bRA.lt
      have bBC := bBA.below hqq bBA.lt
      have howC : OwnL 1 Rbyte 5 B nowhere _ (.slice Av d.length cv) d := howA.keep good_byte (Kept.of_below hqq _)
      have gbc : (WB.alloc (.cells #[.string (bs kLnk), .string (bs [75])] 9)).cell? ⟨gb, 0, none⟩ = some (.pointer (some ⟨gr, 0, none⟩)) := bBC.cell 0
      have hcall := etext_any (hrd.below hbC) gb gbc h.link [kLnk, [75]] _ hlt (by decide)
      obtain ⟨LB, HLB⟩ : ∃ x, Hid (bs (firstT t [kLnk, [75]] h.link) = x) := ⟨_, Lib.hid rfl⟩
      rw [HLB.out] at hcall
      clear gbc hlt hq2 hqq hrd hq1 bRA bBA howA hbA bBC bEA
      have hcall' : Calls Tryz.prog 70 #[.string (bs h.link), .slice (some ⟨WB.heap.size, 0, none⟩) 2 2, .pointer (some ⟨gb, 0, none⟩)] (WB.alloc (.cells #[.string ⟨#[108, 105, 110, 107, 112, 97, 116, 104]⟩, .string (bs [75])] 9)) (fun r w' => r = .returned (.string LB) ∧ Below (WB.alloc (.cells #[.string ⟨#[108, 105, 110, 107, 112, 97, 116, 104]⟩, .string (bs [75])] 9)).heap.size (WB.alloc (.cells #[.string ⟨#[108, 105, 110, 107, 112, 97, 116, 104]⟩, .string (bs [75])] 9)) w') := hcall
      have bEC' : Blk (WB.alloc (.cells #[.string ⟨#[108, 105, 110, 107, 112, 97, 116, 104]⟩, .string (bs [75])] 9)) gE 41 #[.string PT, .int .i64 3, .int .i64 (h.mode : Int), .int .i64 (nU : Int), .int .i64 (nG : Int), .string OW, .string GP, .int .i64 (nT : Int), .string ⟨#[]⟩, .slice Av d.length cv] := bEC
      clear hcall bEC
      generalize hWC : WB.alloc (.cells #[.string ⟨#[108, 105, 110, 107, 112, 97, 116, 104]⟩, .string (bs [75])] 9) = WC at hcall' bEC'
      have bRC' : Blk WC gR 41 zE := by rw [← hWC]; exact bRC
      have hbC' : Below w.heap.size w WC := by rw [← hWC]; exact hbC
      have howC' : OwnL 1 Rbyte 5 B nowhere WC (.slice Av d.length cv) d := by rw [← hWC]; exact howC
      clear bRC hbC howC
      go_upto_region 17 with (go_at_call 70; refine hcall'.mono ?_; clear hcall'; rintro r WD ⟨rfl, hbD⟩; have bED := bEC'.below hbD bEC'.lt; have c8 := bED.cell 8; simp at c8; have f8 := bED.frozen 8)
      have hbDD := hbC'.trans (hbD.mono hbC'.size)
      have bRD := bRC'.below hbD bRC'.lt
      have howD : OwnL 1 Rbyte 5 B nowhere WD (.slice Av d.length cv) d := howC'.keep good_byte (Kept.of_below hbD _)
      clear bEC' hbC' bRC' howC' hbD hWC hWB c8 f8 hos' y2'
      have bEF : Blk (WD.setCell ⟨gE, 8, none⟩ (.string LB)) gE 41 #[.string PT, .int .i64 3, .int .i64 (h.mode : Int), .int .i64 (nU : Int), .int .i64 (nG : Int), .string OW, .string GP, .int .i64 (nT : Int), .string LB, .slice Av d.length cv] := by
        have := bED.set (u := .string LB) 8
        simpa using this
      have kF := (Kept.refl (fun k => k = gE) WD).setCell (p := ⟨gE, 8, none⟩) (.string LB) fun _ => rfl
      have hbF := hbDD.trans (kF.below hbDD.size fun k _ e => by rw [e]; exact hgw)
      have bRF := kF.blk bRD nR
      have howF : OwnL 1 Rbyte 5 B nowhere _ (.slice Av d.length cv) d := howD.kept free_byte kF (fun k e1 e2 => howD.apartB bED (by decide) (by rw [e1, e2]))
      clear kF bED hbDD bRD howD
      generalize WD.setCell ⟨gE, 8, none⟩ (.string LB) = WF at bEF hbF bRF howF ⊢
      have hkr : kindR h.kind = 3 := by rw [h4]; rfl
      clear h4
      obtain ⟨c0, c1, c2, c3, c4, c5, c6, c7, c8, c9⟩ := bEF.cells10
      have bRz : Blk _ gR 41 #[.string ⟨#[]⟩, .int .i64 0, .int .i64 0, .int .i64 0, .int .i64 0, .string ⟨#[]⟩, .string ⟨#[]⟩, .int .i64 0, .string ⟨#[]⟩, .slice none 0 0] := bRF
      obtain ⟨e0, e1, e2, e3, e4, e5, e6, e7, e8, e9⟩ := bRz.cells10
      have g0 := bRz.frozen 0
      have g1 := bRz.frozen 1
      have g2 := bRz.frozen 2
      have g3 := bRz.frozen 3
      have g4 := bRz.frozen 4
      have g5 := bRz.frozen 5
      have g6 := bRz.frozen 6
      have g7 := bRz.frozen 7
      have g8 := bRz.frozen 8
      have g9 := bRz.frozen 9
      go_wp2_with fail
      obtain ⟨WZ, hWZ, bZ, kZ⟩ := set10 bRz (.string PT) (.int .i64 3) (.int .i64 (h.mode : Int)) (.int .i64 (nU : Int)) (.int .i64 (nG : Int)) (.string OW) (.string GP) (.int .i64 (nT : Int)) (.string LB) (.slice Av d.length cv)
      rw [← hWZ]
      have hfin := hbF.trans (kZ.below hbF.size fun k _ e => by rw [e]; exact lR)
      have hoz : OwnL 1 Rbyte 5 B nowhere WZ (.slice Av d.length cv) d := howF.kept free_byte kZ (fun k e1 e2 => howF.apartB bRz (by decide) (by rw [e1, e2]))
      clear hWZ kZ howF hbF bRz e0 e1 e2 e3 e4 e5 e6 e7 e8 e9 c0 c1 c2 c3 c4 c5 c6 c7 c8 c9 g0 g1 g2 g3 g4 g5 g6 g7 g8 g9
      obtain ⟨c0, c1, c2, c3, c4, c5, c6, c7, c8, c9⟩ := bZ.cells10
      clear bZ
      refine bodyPost_ret (v := .agg #[.string PT, .int .i64 3, .int .i64 (h.mode : Int), .int .i64 (nU : Int), .int .i64 (nG : Int), .string OW, .string GP, .int .i64 (nT : Int), .string LB, .slice Av d.length cv]) ?_ ?_ ?_
      · simp [results, Tryz.results47, go_sem, c0, c1, c2, c3, c4, c5, c6, c7, c8, c9]
      · rfl
      · exact ⟨.slice Av d.length cv, by rw [← HLB.out, ← HPT.out, ← HOW.out, ← HGP.out, ← HNU.out, ← HNG.out, ← HNT.out, entV, entS, HNN.out, if_neg (show ¬ kindR h.kind = 2 by rw [hkr]; decide), if_pos (show kindR h.kind = 3 ∨ kindR h.kind = 4 by rw [hkr]; decide), hkr]; rfl, hfin, B, hBw, hoz⟩
    · have q1 : (kc == 49) = false := by rw [← HKC.out, h4]; rfl
      have q2 : (kc == 50) = false := by rw [← HKC.out, h4]; rfl
      have q3 : (kc == 53) = true := by rw [← HKC.out, h4]; rfl
      obtain ⟨c0, c1, c2, c3, c4, c5, c6, c7, c8, c9⟩ := bE9.cells10
      have f1 := bE9.frozen 1
      go_upto_region 14 with fail
      clear c0 c1 c2 c3 c4 c5 c6 c7 c8 c9 f1
      have bEA : Blk (W9.setCell ⟨gE, 1, none⟩ (.int .i64 2)) gE 41 #[.string PT, .int .i64 2, .int .i64 (h.mode : Int), .int .i64 (nU : Int), .int .i64 (nG : Int), .string OW, .string GP, .int .i64 (nT : Int), .string ⟨#[]⟩, .slice Av d.length cv] := by
        have := bE9.set (u := (.int .i64 2)) 1
        simpa using this
      have kA := (Kept.refl (fun k => k = gE) W9).setCell (p := ⟨gE, 1, none⟩) (.int .i64 2) fun _ => rfl
      have hbA := hb9.trans (kA.below hb9.size fun k _ e => by rw [e]; exact hgw)
      have bRA := kA.blk bR9 nR
      have bBA := kA.blk bB9 nB
      have howA : OwnL 1 Rbyte 5 B nowhere _ (.slice Av d.length cv) d := how9.kept free_byte kA (fun k e1 e2 => how9.apartB bE9 (by decide) (by rw [e1, e2]))
      have y2' := kA.cell y2 nH
      clear y0 y1 y2 y3 y4 y5 y6 y7 y8 y9 y10 kA bR9 bB9 how9 hb9
      generalize W9.setCell ⟨gE, 1, none⟩ (.int .i64 2) = WA at bEA hbA bRA bBA howA y2' ⊢
      clear y2'
      have HPL : Hid (PT.size ≤ 9223372036854775807) := Lib.hid (by rw [← HPT.out, bs_size]; have := HFL.out; omega)
      have htr := Tryz.strings_TrimSuffix PT ⟨#[47]⟩ WA HPL.out
      obtain ⟨CP, HCP⟩ : ∃ x, Hid (bs (cutSl (firstT t [kPth, [76]] nm)) = x) := ⟨_, Lib.hid rfl⟩
      have htr' : Calls Tryz.prog 73 #[.string PT, .string ⟨#[47]⟩] WA fun e w' => e = .returned (.string CP) ∧ WA = w' := htr.mono fun e w' hh => ⟨by rw [hh.1, ← HCP.out, ← HPT.out, bs_list, ← trim_slash]; rfl, hh.2.symm⟩
      clear htr
      obtain ⟨c0, c1, c2, c3, c4, c5, c6, c7, c8, c9⟩ := bEA.cells10
      have f0 := bEA.frozen 0
      go_upto_region 15 with (go_at_call 73; refine htr'.mono ?_; clear htr'; rintro r WD ⟨rfl, rfl⟩)
      clear c0 c1 c2 c3 c4 c5 c6 c7 c8 c9 f0
      have bEF : Blk (WA.setCell ⟨gE, 0, none⟩ (.string CP)) gE 41 #[.string CP, .int .i64 2, .int .i64 (h.mode : Int), .int .i64 (nU : Int), .int .i64 (nG : Int), .string OW, .string GP, .int .i64 (nT : Int), .string ⟨#[]⟩, .slice Av d.length cv] := by
        have := bEA.set (u := .string CP) 0
        simpa using this
      have kF := (Kept.refl (fun k => k = gE) WA).setCell (p := ⟨gE, 0, none⟩) (.string CP) fun _ => rfl
      have hbF := hbA.trans (kF.below hbA.size fun k _ e => by rw [e]; exact hgw)
      have bRF := kF.blk bRA nR
      have howF : OwnL 1 Rbyte 5 B nowhere _ (.slice Av d.length cv) d := howA.kept free_byte kF (fun k e1 e2 => howA.apartB bEA (by decide) (by rw [e1, e2]))
      clear kF bEA hbA bRA howA bBA
      generalize WA.setCell ⟨gE, 0, none⟩ (.string CP) = WF at bEF hbF bRF howF ⊢
      have hkr : kindR h.kind = 2 := by rw [h4]; rfl
      clear h4
      obtain ⟨c0, c1, c2, c3, c4, c5, c6, c7, c8, c9⟩ := bEF.cells10
      have bRz : Blk _ gR 41 #[.string ⟨#[]⟩, .int .i64 0, .int .i64 0, .int .i64 0, .int .i64 0, .string ⟨#[]⟩, .string ⟨#[]⟩, .int .i64 0, .string ⟨#[]⟩, .slice none 0 0] := bRF
      obtain ⟨e0, e1, e2, e3, e4, e5, e6, e7, e8, e9⟩ := bRz.cells10
      have g0 := bRz.frozen 0
      have g1 := bRz.frozen 1
      have g2 := bRz.frozen 2
      have g3 := bRz.frozen 3
      have g4 := bRz.frozen 4
      have g5 := bRz.frozen 5
      have g6 := bRz.frozen 6
      have g7 := bRz.frozen 7
      have g8 := bRz.frozen 8
      have g9 := bRz.frozen 9
      go_wp2_with fail
      obtain ⟨WZ, hWZ, bZ, kZ⟩ := set10 bRz (.string CP) (.int .i64 2) (.int .i64 (h.mode : Int)) (.int .i64 (nU : Int)) (.int .i64 (nG : Int)) (.string OW) (.string GP) (.int .i64 (nT : Int)) (.string ⟨#[]⟩) (.slice Av d.length cv)
      rw [← hWZ]
      have hfin := hbF.trans (kZ.below hbF.size fun k _ e => by rw [e]; exact lR)
      have hoz : OwnL 1 Rbyte 5 B nowhere WZ (.slice Av d.length cv) d := howF.kept free_byte kZ (fun k e1 e2 => howF.apartB bRz (by decide) (by rw [e1, e2]))
      clear hWZ kZ howF hbF bRz e0 e1 e2 e3 e4 e5 e6 e7 e8 e9 c0 c1 c2 c3 c4 c5 c6 c7 c8 c9 g0 g1 g2 g3 g4 g5 g6 g7 g8 g9
      obtain ⟨c0, c1, c2, c3, c4, c5, c6, c7, c8, c9⟩ := bZ.cells10
      clear bZ
      refine bodyPost_ret (v := .agg #[.string CP, .int .i64 2, .int .i64 (h.mode : Int), .int .i64 (nU : Int), .int .i64 (nG : Int), .string OW, .string GP, .int .i64 (nT : Int), .string ⟨#[]⟩, .slice Av d.length cv]) ?_ ?_ ?_
      · simp [results, Tryz.results47, go_sem, c0, c1, c2, c3, c4, c5, c6, c7, c8, c9]
      · rfl
      · exact ⟨.slice Av d.length cv, by rw [← HCP.out, ← HOW.out, ← HGP.out, ← HNU.out, ← HNG.out, ← HNT.out, entV, entS, HNN.out, if_pos hkr, if_neg (show ¬ (kindR h.kind = 3 ∨ kindR h.kind = 4) by rw [hkr]; decide), hkr]; rfl, hfin, B, hBw, hoz⟩
    · have q1 : (kc == 49) = false := by rcases h4 with h4 | h4 <;> rw [← HKC.out, h4] <;> rfl
      have q2 : (kc == 50) = false := by rcases h4 with h4 | h4 <;> rw [← HKC.out, h4] <;> rfl
      have q3 : (kc == 53) = false := by rcases h4 with h4 | h4 <;> rw [← HKC.out, h4] <;> rfl
      have hkr : kindR h.kind = 1 := by rw [kindR, if_pos (h4.elim .inr .inl)]
      clear h4
      obtain ⟨c0, c1, c2, c3, c4, c5, c6, c7, c8, c9⟩ := bE9.cells10
      have bRz : Blk _ gR 41 #[.string ⟨#[]⟩, .int .i64 0, .int .i64 0, .int .i64 0, .int .i64 0, .string ⟨#[]⟩, .string ⟨#[]⟩, .int .i64 0, .string ⟨#[]⟩, .slice none 0 0] := bR9
      obtain ⟨e0, e1, e2, e3, e4, e5, e6, e7, e8, e9⟩ := bRz.cells10
      have g0 := bRz.frozen 0
      have g1 := bRz.frozen 1
      have g2 := bRz.frozen 2
      have g3 := bRz.frozen 3
      have g4 := bRz.frozen 4
      have g5 := bRz.frozen 5
      have g6 := bRz.frozen 6
      have g7 := bRz.frozen 7
      have g8 := bRz.frozen 8
      have g9 := bRz.frozen 9
      go_wp2_with fail
      obtain ⟨WZ, hWZ, bZ, kZ⟩ := set10 bRz (.string PT) (.int .i64 1) (.int .i64 (h.mode : Int)) (.int .i64 (nU : Int)) (.int .i64 (nG : Int)) (.string OW) (.string GP) (.int .i64 (nT : Int)) (.string ⟨#[]⟩) (.slice Av d.length cv)
      rw [← hWZ]
      have hfin := hb9.trans (kZ.below hb9.size fun k _ e => by rw [e]; exact lR)
      have hoz : OwnL 1 Rbyte 5 B nowhere WZ (.slice Av d.length cv) d := how9.kept free_byte kZ (fun k e1 e2 => how9.apartB bRz (by decide) (by rw [e1, e2]))
      clear hWZ kZ how9 hb9 bRz e0 e1 e2 e3 e4 e5 e6 e7 e8 e9 c0 c1 c2 c3 c4 c5 c6 c7 c8 c9 g0 g1 g2 g3 g4 g5 g6 g7 g8 g9
      obtain ⟨c0, c1, c2, c3, c4, c5, c6, c7, c8, c9⟩ := bZ.cells10
      clear bZ
      refine bodyPost_ret (v := .agg #[.string PT, .int .i64 1, .int .i64 (h.mode : Int), .int .i64 (nU : Int), .int .i64 (nG : Int), .string OW, .string GP, .int .i64 (nT : Int), .string ⟨#[]⟩, .slice Av d.length cv]) ?_ ?_ ?_
      · simp [results, Tryz.results47, go_sem, c0, c1, c2, c3, c4, c5, c6, c7, c8, c9]
      · rfl
      · exact ⟨.slice Av d.length cv, by rw [← HPT.out, ← HOW.out, ← HGP.out, ← HNU.out, ← HNG.out, ← HNT.out, entV, entS, HNN.out, if_neg (show ¬ kindR h.kind = 2 by rw [hkr]; decide), if_neg (show ¬ (kindR h.kind = 3 ∨ kindR h.kind = 4) by rw [hkr]; decide), hkr]; rfl, hfin, B, hBw, hoz⟩
  · cases hn
end Go.Proofs.YtpheifdpjcppdaaGreatDoor
namespace Go.Proofs.YtpheifdpjcppdaaGreatDoor
open Go.RowKit
variable {w0 w w' : World} {gr mf : Nat} {bv lv pv : Value} {L : List En} {f : Nat → Value} {PL : List Nat} {t : Td} {fr : Nat}
/-- An entry was appended, and the slice stored. -/
theorem RT.app (h : RT w0 gr mf bv lv pv L f PL t fr w) {e : En} {dv v' : Value} (he : EO w0.heap.size w' v' (L ++ [e]) (appF f L.length fun _ => dv)) (hk : Kept (fun k => lv.ownBlock = some k) w w') (hob : v'.ownBlock = lv.ownBlock ∨ ∀ k, v'.ownBlock = some k → w.heap.size ≤ k)
    (hd : Sl 1 Rbyte (BX gr mf lv pv) w dv e.data) (hdn : ∀ bb, dv.ownBlock = some bb → w0.heap.size ≤ bb) : RT w0 gr mf bv v' pv (L ++ [e]) (appF f L.length fun _ => dv) PL t fr (w'.setCell ⟨gr, 1, none⟩ v') := by
  have hb1 : Blk w' gr 58 #[bv, lv, pv, .map (some mf), .int .i64 (fr : Int)] := hk.blk h.blk (own_notblk h.row h.blk (by decide))
  have hk2 : Kept (fun k => k = gr) w' (w'.setCell ⟨gr, 1, none⟩ v') := (Kept.refl _ w').setCell v' fun _ => rfl
  have hbel : Below w0.heap.size w0 w' := h.bel.trans (hk.below h.bel.size fun k _ e => (h.row.lt k e).1)
  have hpl := hk.own h.pl fun k e1 e2 => own_notown h.row h.pl (by decide) e2 e1
  obtain ⟨mo, hmo, hM⟩ := h.mp
  have hmp : w'.heap[mf]? = some mo := (hk.block mf (Array.getElem?_eq_some_iff.1 hmo).1 (own_notmap h.row hmo hM.isMap)).trans hmo
  have move : ∀ (d : Value) (b : List UInt8), Sl 1 Rbyte (BX gr mf lv pv) w d b → Sl 1 Rbyte (BX gr mf v' pv) (w'.setCell ⟨gr, 1, none⟩ v') d b := fun d b hb => by
    have b1 := hb.mono (Y := fun k => BX gr mf lv pv k ∨ BX gr mf v' pv k) good_byte (by omega) fun k hk hk2 => hk2.elim id fun h => by
      rcases h with h | h | h | h
      · exact .inl h
      · exact .inr (.inl h)
      · rcases hob with e | e
        · exact .inr (.inr (.inl (by rw [← e]; exact h)))
        · have := e k h; omega
      · exact .inr (.inr (.inr h))
    exact ((b1.keep good_byte (hk.mono fun k _ hk => .inl (.inr (.inr (.inl hk))))).keep good_byte (hk2.mono fun k _ e => .inl (.inl e))).mono good_byte (by omega) fun k _ hk => .inr hk
  refine ⟨hbel.trans (hk2.below hbel.size fun k _ e => by rw [e]; exact h.grH), hb1.set 1, own_other he.row v' (own_notblk he.row hb1 (by decide)), fun j hj => ?_, fun j hj bb hbb => ?_, own_other hpl v' (own_notblk hpl hb1 (by decide)), ⟨mo, ?_, hM⟩, h.grH, h.mfH⟩
  · by_cases hlt : j < L.length
    · rw [List.getElem_append_left hlt, appF, if_pos hlt]
      exact move _ _ (h.dat j hlt)
    · have hjl : j = L.length := by rw [List.length_append, List.length_singleton] at hj; omega
      subst hjl
      rw [List.getElem_append_right (by omega), appF, if_neg (by omega)]
      simp only [Nat.sub_self, List.getElem_cons_zero]
      exact move _ _ hd
  · by_cases hlt : j < L.length
    · rw [appF, if_pos hlt] at hbb; exact h.frs j hlt bb hbb
    · rw [appF, if_neg hlt] at hbb; exact hdn bb hbb
  · exact (hk2.block mf (Array.getElem?_eq_some_iff.1 hmp).1 fun e => blk_notmap hb1 hmp hM.isMap e.symm).trans hmp
theorem info_int : (Tryz.prog.info? 3).map (fun i => (i.zero, i.size, i.bytes)) = some (some (.int .i64 0), 1, 8) := by kernel_rfl
/-- append of a place. -/
theorem wpList_place {ops : Array Oper} {rest : List Oper} {o : Oper} {a : Act} {Q : Exit → Act → World → Prop} (hgd : o.guard = none) (s x : Operand)
    (ho : o.op = .call { callee := .builtin .append, args := #[s, x], argTypes := #[56, 56] }) (hs : a.eval s = pv) (hrd : RT w0 gr mf bv lv pv L f PL t fr w) (p g c : Nat) (hx : a.eval x = .slice (some ⟨g, 0, none⟩) 1 c) (hblk : Blk w g 3 #[.int .i64 (p : Int)]) (hn : PL.length ≤ 10000000)
    (h : ∀ v' w', w'.ownsRow w0.heap.size 3 1 v' (PL ++ [p]).length ((PL ++ [p]).map vP) → Kept (fun k => pv.ownBlock = some k) w w' → (v'.ownBlock = pv.ownBlock ∨ ∀ k, v'.ownBlock = some k → w.heap.size ≤ k) → wpList Tryz.prog ops Q rest (a.put o.dst v') w') : wpList Tryz.prog ops Q (o :: rest) a w := by
  obtain ⟨i0, hi, hz0, hz1, hz2⟩ := info_parts info_int
  have ht : Tryz.prog.underlying 56 = some (.slice 3) := Tryz.underlying56
  refine wpList_plain hgd fun K hK => ?_
  have hnews : ∀ j u, ([.int .i64 (p : Int)] : List Value)[j]? = some u → w.cell? ((⟨g, 0, none⟩ : Addr).add j) = some u := fun j u hu => by
    rw [Addr.add_lit, Nat.zero_add, hblk.cell]
    simpa using hu
  obtain ⟨v', w', hr, h2, h3, _⟩ := run_append_own (P := Tryz.prog) w w0.heap.size 56 o.type 3 i0 _ 1 8 ht hi hz0 hz1 hz2 rfl (by decide) pv PL.length (PL.map vP) hrd.pl ⟨g, 0, none⟩ 1 c [.int .i64 (p : Int)] rfl hnews (by simp; rfl) (by unfold maxLen; omega) (by omega) hrd.bel.size
  have hob := append_block ht hi hz0 hz1 hz2 rfl (by decide) hrd.pl ⟨g, 0, none⟩ 1 c [.int .i64 (p : Int)] rfl hnews (by simp; rfl) (by unfold maxLen; omega) (by omega) hr
  unfold Oper.wp execOp
  simp only [ho, resolve, invoke, builtin, Sem.run_bind, Sem.run_pure, Result.andThen_ok, List.map_toArray, List.map_cons, List.map_nil, hs, hx, hr]
  refine hK _ _ (h v' w' ?_ (Kept.grown h3) hob)
  rw [List.length_append, List.length_singleton, List.map_append]
  exact h2
theorem RT.place (h : RT w0 gr mf bv lv pv L f PL t fr w) {p : Nat} {v' : Value} (ho : w'.ownsRow w0.heap.size 3 1 v' (PL ++ [p]).length ((PL ++ [p]).map vP)) (hk : Kept (fun k => pv.ownBlock = some k) w w') (hob : v'.ownBlock = pv.ownBlock ∨ ∀ k, v'.ownBlock = some k → w.heap.size ≤ k) :
    RT w0 gr mf bv lv v' L f (PL ++ [p]) t fr (w'.setCell ⟨gr, 2, none⟩ v') := by
  have hb1 : Blk w' gr 58 #[bv, lv, pv, .map (some mf), .int .i64 (fr : Int)] := hk.blk h.blk (own_notblk h.pl h.blk (by decide))
  have hk2 : Kept (fun k => k = gr) w' (w'.setCell ⟨gr, 2, none⟩ v') := (Kept.refl _ w').setCell v' fun _ => rfl
  have hbel : Below w0.heap.size w0 w' := h.bel.trans (hk.below h.bel.size fun k _ e => (h.pl.lt k e).1)
  have hrow := hk.own h.row fun k e1 e2 => own_notown h.row h.pl (by decide) e1 e2
  obtain ⟨mo, hmo, hM⟩ := h.mp
  have hmp : w'.heap[mf]? = some mo := (hk.block mf (Array.getElem?_eq_some_iff.1 hmo).1 (own_notmap h.pl hmo hM.isMap)).trans hmo
  refine ⟨hbel.trans (hk2.below hbel.size fun k _ e => by rw [e]; exact h.grH), hb1.set 2, own_other hrow v' (own_notblk hrow hb1 (by decide)), fun j hj => ?_, h.frs, own_other ho v' (own_notblk ho hb1 (by decide)), ⟨mo, ?_, hM⟩, h.grH, h.mfH⟩
  · have b1 := (h.dat j hj).mono (Y := fun k => BX gr mf lv pv k ∨ BX gr mf lv v' k) good_byte (by omega) fun k hk hk2 => hk2.elim id fun h => by
      rcases h with h | h | h | h
      · exact .inl h
      · exact .inr (.inl h)
      · exact .inr (.inr (.inl h))
      · rcases hob with e | e
        · exact .inr (.inr (.inr (by rw [← e]; exact h)))
        · have := e k h; omega
    exact ((b1.keep good_byte (hk.mono fun k _ hk => .inl (.inr (.inr (.inr hk))))).keep good_byte (hk2.mono fun k _ e => .inl (.inl e))).mono good_byte (by omega) fun k _ hk => .inr hk
  · exact (hk2.block mf (Array.getElem?_eq_some_iff.1 hmp).1 fun e => blk_notmap hb1 hmp hM.isMap e.symm).trans hmp

/-- The map is a new one. -/
theorem RT.fresh (h : RT w0 gr mf bv lv pv L f PL t fr w) (hb : Below w.heap.size w w') {m2 : Nat} (hm : w'.heap[m2]? = some (.map #[] 0)) (hge : w.heap.size ≤ m2) : RT w0 gr m2 bv lv pv L f PL (fun _ => none) fr (w'.setCell ⟨gr, 3, none⟩ (.map (some m2))) := by
  have h' := h.below hb
  have hk2 : Kept (fun k => k = gr) w' (w'.setCell ⟨gr, 3, none⟩ (.map (some m2))) := (Kept.refl _ w').setCell _ fun _ => rfl
  have hgm : gr ≠ m2 := fun e => by have := h.blk.lt; omega
  refine ⟨h'.bel.trans (hk2.below h'.bel.size fun k _ e => by rw [e]; exact h.grH), h'.blk.set 3, hk2.own h'.row fun k e1 e2 => own_notblk h'.row h'.blk (by decide) (by rw [e1, e2]), fun j hj => ?_, h.frs, hk2.own h'.pl fun k e1 e2 => own_notblk h'.pl h'.blk (by decide) (by rw [e1, e2]), ⟨.map #[] 0, ?_, ?_⟩, h.grH, Nat.le_trans h.bel.size hge⟩
  · have h1 := (h.dat j hj).mono (Y := fun k => BX gr mf lv pv k ∨ k = m2) good_byte (by omega) fun k hk e => e.elim id fun e => by omega
    refine ((Below.sl good_byte hb h1).keep good_byte (hk2.mono fun k _ e => .inl (.inl e))).mono good_byte (by omega) fun k _ e => ?_
    rcases e with e | e | e | e
    · exact .inl (.inl e)
    · exact .inr e
    · exact .inl (.inr (.inr (.inl e)))
    · exact .inl (.inr (.inr (.inr e)))
  · exact (hk2.block m2 (Array.getElem?_eq_some_iff.1 hm).1 fun e => hgm e.symm).trans hm
  · have : tdM (fun _ => none) = fun _ => none := by funext k; rfl
    rw [this]
    exact MapS.nil
end Go.Proofs.YtpheifdpjcppdaaGreatDoor
