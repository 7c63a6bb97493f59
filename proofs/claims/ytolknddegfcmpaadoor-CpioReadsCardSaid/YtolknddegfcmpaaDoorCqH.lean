/- The walk of the document's Read (cpio). Printed by gen_cqh.py. -/
import Derived.Test.YtolknddegfcmpaaDoorCqG
import Derived.Test.YtolknddegfcmpaaDoorCqE
namespace Go.Proofs.YtolknddegfcmpaaDoor
open Go.RowKit
theorem DR.poke3 {w0 w : World} {lv hv : Value} {L : List En} {f : Nat → Value} {hs : List Value} {heads : List (List Nat)} (h : DR w0 lv hv L f hs heads w) {g : Nat} {s : ByteArray} {a c : Int} (hg : Blk w g 32 #[.string s, .int .i64 a, .int .i64 c]) (hH : w0.heap.size ≤ g) (x y z : Value) (hx : ∃ s', x = .string s' := by exact ⟨_, rfl⟩) (hy : ∃ n, y = .int .i64 n := by exact ⟨_, rfl⟩) :
    DR w0 lv hv L f hs heads (((w.setCell ⟨g, 0, none⟩ x).setCell ⟨g, 1, none⟩ y).setCell ⟨g, 2, none⟩ z) := by
  obtain ⟨s', rfl⟩ := hx
  obtain ⟨n, rfl⟩ := hy
  have g1 : Blk (w.setCell ⟨g, 0, none⟩ (.string s')) g 32 #[.string s', .int .i64 a, .int .i64 c] := by have := hg.set (u := .string s') 0; simpa using this
  have g2 : Blk ((w.setCell ⟨g, 0, none⟩ (.string s')).setCell ⟨g, 1, none⟩ (.int .i64 n)) g 32 #[.string s', .int .i64 n, .int .i64 c] := by have := g1.set (u := .int .i64 n) 1; simpa using this
  exact ((h.poke hg hH (.inl (by decide)) (by decide) (by decide) (no3 _ _ _) 0 _).poke g1 hH (.inl (by decide)) (by decide) (by decide) (no3 _ _ _) 1 _).poke g2 hH (.inl (by decide)) (by decide) (by decide) (no3 _ _ _) 2 _
def RReadP (w : World) (x : List En × Int × Int) (r : Ending) (w' : World) : Prop :=
  (∃ v f, r = .returned (.tuple #[v, .agg #[.string ⟨#[]⟩, .int .i64 x.2.1, .int .i64 x.2.2]]) ∧ EO w.heap.size w' v x.1 f) ∧ Below w.heap.size w w'
theorem frs_lt (k : List Nat) : ∀ (z : List (List Nat × En)) (i j : Nat), frs k z i = some j → i ≤ j ∧ ∃ h : j - i < z.length, (z[j - i]'h).2.kind = 1
  | [], _, _, h => by cases h
  | q :: z, i, j, h => by
    rw [frs] at h
    split at h
    · injection h with h; subst h
      rename_i hc
      exact ⟨Nat.le_refl _, by simp, by simpa using hc.1⟩
    · obtain ⟨h1, h2, h3⟩ := frs_lt k z (i + 1) j h
      refine ⟨by omega, by simp only [List.length_cons]; omega, ?_⟩
      have e : j - i = (j - (i + 1)) + 1 := by omega
      simp only [e, List.getElem_cons_succ]
      exact h3
theorem frs_at {k : List Nat} {heads : List (List Nat)} {L : List En} (hl : heads.length = L.length) {j : Nat} (h : frs k (heads.zip L) 0 = some j) : ∃ h : j < L.length, L[j].kind = 1 := by
  obtain ⟨_, h2, h3⟩ := frs_lt k _ 0 j h
  have h2' : j < L.length := by simp at h2; omega
  refine ⟨h2', ?_⟩
  simpa using h3
theorem ofD_facts (nm d : List UInt8) (q m x3 x4 x5 : Nat) : (ofD nm d q m x3 x4 x5).2.path = nm ∧ (ofD nm d q m x3 x4 x5).2.owner = [] ∧ (ofD nm d q m x3 x4 x5).2.group = [] ∧ ((ofD nm d q m x3 x4 x5).2.link = d ∨ (ofD nm d q m x3 x4 x5).2.link = []) ∧ ((ofD nm d q m x3 x4 x5).2.kind = 1 ↔ q = 8) ∧ (q = 8 → ofD nm d q m x3 x4 x5 = (0, entM nm 1 m x3 x4 x5 [] d)) ∧ (ofD nm d q m x3 x4 x5).2.data.length ≤ d.length := by
  unfold ofD
  split
  · rename_i h; exact ⟨rfl, rfl, rfl, .inr rfl, ⟨fun _ => h, fun _ => rfl⟩, fun _ => rfl, Nat.le_refl _⟩
  split
  · rename_i h _; exact ⟨rfl, rfl, rfl, .inr rfl, ⟨fun e => absurd e (by simp [entM]), fun e => absurd e h⟩, fun e => absurd e h, Nat.zero_le _⟩
  split
  · rename_i h _ _; exact ⟨rfl, rfl, rfl, .inl rfl, ⟨fun e => absurd e (by simp [entM]), fun e => absurd e h⟩, fun e => absurd e h, Nat.zero_le _⟩
  · rename_i h _ _; exact ⟨rfl, rfl, rfl, .inr rfl, ⟨fun e => absurd e (by simp [entM]), fun e => absurd e h⟩, fun e => absurd e h, Nat.zero_le _⟩
theorem nv_form {w : World} {B : Nat} {nv : Value} {ns : List Nat} (h : w.ownsRow B 3 1 nv ns.length (ns.map vI8)) (h13 : ns.length = 13) : ∃ gn cn, nv = .slice (some ⟨gn, 0, none⟩) 13 cn := by
  rcases h.2 with ⟨_, h0⟩ | ⟨g, cap, cur, h, _⟩
  · omega
  · exact ⟨g, cap, by rw [h, h13]⟩
set_option maxRecDepth 20000 in
set_option maxHeartbeats 32000000 in
theorem rread_any (bv : Value) (b : List UInt8) (X : Nat → Prop) (w : World) (hb0 : Sl 1 Rbyte X w bv b) (hbl : b.length ≤ 400000) :
    Calls Tryd.prog 13 #[bv] w (RReadP w (runD b (b.length + 1) [] [] 0)) := by
  obtain ⟨Ab, cb, rfl, hb1, hb2⟩ := hb0.form
  obtain ⟨R, HR⟩ : ∃ R, Hid (runD b (b.length + 1) [] [] 0 = R) := ⟨_, Lib.hid rfl⟩
  rw [HR.out]
  go_enter Tryd.func13, Tryd.ntmps13
  go_upto_region 1 with fail
  have bF := Blk.new w 32 #[.string ⟨#[]⟩, .int .i64 0, .int .i64 0]
  have hq := (Below.refl w.heap.size w).alloc (Nat.le_refl _) (.cells #[.string ⟨#[]⟩, .int .i64 0, .int .i64 0] 32)
  have hst : (convert 26 9 (.slice Ab b.length cb)).run Tryd.prog (w.alloc (.cells #[.string ⟨#[]⟩, .int .i64 0, .int .i64 0] 32)) = .ok (.string (bs b)) (w.alloc (.cells #[.string ⟨#[]⟩, .int .i64 0, .int .i64 0] 32)) := str8 (Below.sl good_byte hq hb0).sb8
  have hgF : w.heap.size ≤ w.heap.size := Nat.le_refl _
  generalize w.alloc (.cells #[.string ⟨#[]⟩, .int .i64 0, .int .i64 0] 32) = W1 at bF hq hst ⊢
  generalize hg : w.heap.size = gF at bF hgF ⊢
  have hgF : w.heap.size ≤ gF := by rw [hg]; exact Nat.le_refl _
  have dr0 := DR.nil w (fun _ => undef) hq
  go_upto_region 5 with fail
  clear hst hb0 hq
  go_loopg [5, 6, 7] (b.length + 1) (fun G s5 s6 s7 wr => ∃ (n1 p : Nat) (L : List En) (f : Nat → Value) (hs : List Value) (heads : List (List Nat)), G = n1 ∧ s7 = .int .i64 p ∧ DR w s5 s6 L f hs heads wr ∧ Blk wr gF 32 #[.string ⟨#[]⟩, .int .i64 0, .int .i64 0] ∧ p ≤ b.length ∧ b.length - p < n1 ∧ 112 * L.length ≤ p ∧ heads.length = L.length ∧ (∀ e ∈ L, EB e) ∧ Hid (runD b n1 heads L p = R))
  case atStart => exact ⟨b.length + 1, 0, [], _, [], [], rfl, rfl, dr0, bF, Nat.zero_le _, by omega, Nat.zero_le _, rfl, (fun e h => by cases h), HR⟩
  case round =>
    clear dr0 bF HR
    obtain ⟨n1, p, L, f, hs, heads, hG, rfl, dr, bF, hpb, hpG, hLp, hhl, hEB, HRR⟩ := hrel
    obtain ⟨n, rfl⟩ : ∃ n, n1 = n + 1 := ⟨n1 - 1, by omega⟩
    subst hG
    have hmem := rmem_any b p wr hbl hpb
    have HR1 : Hid (R = match memS b p with
      | .err e => ([], (p : Int), e)
      | .fin => (L, 0, 0)
      | .mem ns nm d nx =>
        if (stepD heads L ns nm d).1 ≠ 0 then ([], (p : Int), (stepD heads L ns nm d).1)
        else if (chkL (stepD heads L ns nm d).2).2 ≠ 0 then ([], (p : Int), (chkL (stepD heads L ns nm d).2).2)
        else runD b n (heads ++ [ns]) (stepD heads L ns nm d).2 nx) := Lib.hid (by rw [← HRR.out]; rfl)
    have HNX := Lib.hid (fun ns nm d nx (h : memS b p = .mem ns nm d nx) => (⟨mem_next h, mem_facts h⟩ : _ ∧ _))
    have HER := Lib.hid (fun e (h : memS b p = .err e) => mem_err h)
    generalize memS b p = M at hmem HR1 HNX HER
    obtain ⟨Al, cl, rfl⟩ := own_form dr.row
    obtain ⟨Ah, ch, rfl⟩ := own_form dr.hrow
    clear HRR
    cases M with
    | err c =>
      have hc0 := HER.out c rfl
      have hcb : (c != 0) = true := by simpa using hc0
      have HV : Hid (R = ([], (p : Int), c)) := HR1
      clear HR1 HNX HER hc0
      go_upto_region 6 with (go_at_call 30; refine hmem.mono ?_; rintro r W2 ⟨hbm, rfl⟩; clear hmem)
      have bG := Blk.new W2 69 #[.slice none 0 0, .string ⟨#[]⟩, .string ⟨#[]⟩, .int .i64 0, .bool false, .int .i64 c]
      have hbG := hbm.alloc hbm.size (.cells #[.slice none 0 0, .string ⟨#[]⟩, .string ⟨#[]⟩, .int .i64 0, .bool false, .int .i64 c] 69)
      have bF2 := bF.below hbG bF.lt
      have hb2 := dr.bel.trans (hbG.mono dr.bel.size)
      clear dr bF hbG hbm
      generalize W2.alloc (.cells #[.slice none 0 0, .string ⟨#[]⟩, .string ⟨#[]⟩, .int .i64 0, .bool false, .int .i64 c] 69) = W3 at bG bF2 hb2 ⊢
      generalize W2.heap.size = gG at bG ⊢
      have x5 := bG.cell 5
      simp at x5
      have y0 := bF2.cell 0
      have y1 := bF2.cell 1
      have y2 := bF2.cell 2
      simp at y0 y1 y2
      have z0 := bF2.frozen 0
      have z1 := bF2.frozen 1
      have z2 := bF2.frozen 2
      go_upto_region 7 with fail
      refine wp_region_plan (fun W => W.cell? ⟨gG, 5, none⟩ = some (.int .i64 c)) [(false, 0), (false, 1), (false, 2), (false, 3), (false, 4), (true, 5)] (by kernel_rfl) (by kernel_rfl) (x5) ?_
      simp only [planOps, List.map, List.getD_cons_zero, List.getD_cons_succ]
      iterate 5 ((first | refine plan_quiet (v := ?_) rfl rfl (fun w' hw' => ?_) ?_ | refine plan_calm (v := ?_) (tt_of) rfl (fun w' hw' => ?_) ?_); rotate_left; (focus (go_simp <;> (first | with_reducible rfl | (rw [if_neg (by simp [undef])]; try rfl)))); simp only [Act.put, List.setIfInBounds_toArray, List.set_cons_zero, List.set_cons_succ])
      refine plan_last rfl (by kernel_rfl) (by kernel_rfl) (fun K hK => ?_)
      go_simp
      refine hK _ _ (trivial) ?_
      clear hK K
      (try simp only [Act.put, List.setIfInBounds_toArray, List.set_cons_zero, List.set_cons_succ])
      refine plan_end ?_
      clear x5 y0 y1 y2 z0 z1 z2
      have K := blk_set3 bF2 (.string ⟨#[]⟩) (.int .i64 (p : Int)) (.int .i64 c)
      have K : Blk ((((W3.setCell ⟨gF, 0, none⟩ (.string ⟨#[]⟩)).setCell ⟨gF, 1, none⟩ (.int .i64 (p : Int))).setCell ⟨gF, 2, none⟩ (.int .i64 c)).drew) gF 32 #[.string ⟨#[]⟩, .int .i64 (p : Int), .int .i64 c] := K
      have hq := (((hb2.setCell (p := ⟨gF, 0, none⟩) hgF (.string ⟨#[]⟩)).setCell (p := ⟨gF, 1, none⟩) hgF (.int .i64 (p : Int))).setCell (p := ⟨gF, 2, none⟩) hgF (.int .i64 c)).drew
      go_wp2_with fail
      generalize (((W3.setCell ⟨gF, 0, none⟩ (.string ⟨#[]⟩)).setCell ⟨gF, 1, none⟩ (.int .i64 (p : Int))).setCell ⟨gF, 2, none⟩ (.int .i64 c)).drew = W9 at K hq ⊢
      have k0 := K.cell 0
      have k1 := K.cell 1
      have k2 := K.cell 2
      simp at k0 k1 k2
      refine bodyPost_ret (v := .tuple #[.slice none 0 0, .agg #[.string ⟨#[]⟩, .int .i64 (p : Int), .int .i64 c]]) ?_ ?_ ?_
      · simp [results, Tryd.results13, go_sem, k0, k1, k2]
      · rfl
      exact ⟨⟨.slice none 0 0, fun _ => undef, by rw [HV.out], by rw [HV.out]; exact EO.nil _ _ _⟩, hq⟩
    | fin =>
      have HV : Hid (R = (L, 0, 0)) := HR1
      clear HR1 HNX HER
      go_upto_region 6 with (go_at_call 30; refine hmem.mono ?_; rintro r W2 ⟨hbm, rfl⟩; clear hmem)
      have bG := Blk.new W2 69 #[.slice none 0 0, .string ⟨#[]⟩, .string ⟨#[]⟩, .int .i64 0, .bool true, .int .i64 0]
      have hbG := hbm.alloc hbm.size (.cells #[.slice none 0 0, .string ⟨#[]⟩, .string ⟨#[]⟩, .int .i64 0, .bool true, .int .i64 0] 69)
      have bF2 := bF.below hbG bF.lt
      have dr2 := dr.below hbG
      have hb2 := dr2.bel
      clear dr bF hbG hbm
      generalize W2.alloc (.cells #[.slice none 0 0, .string ⟨#[]⟩, .string ⟨#[]⟩, .int .i64 0, .bool true, .int .i64 0] 69) = W3 at bG bF2 dr2 hb2 ⊢
      generalize W2.heap.size = gG at bG ⊢
      have x4 := bG.cell 4
      have x5 := bG.cell 5
      simp at x4 x5
      have y0 := bF2.cell 0
      have y1 := bF2.cell 1
      have y2 := bF2.cell 2
      simp at y0 y1 y2
      have g0 := bF2.frozen 0
      have g1 := bF2.frozen 1
      have g2 := bF2.frozen 2
      go_wp2_with fail
      have K := blk_set3 bF2 (.string ⟨#[]⟩) (.int .i64 0) (.int .i64 0)
      have hq := ((hb2.setCell (p := ⟨gF, 0, none⟩) hgF (.string ⟨#[]⟩)).setCell (p := ⟨gF, 1, none⟩) hgF (.int .i64 0)).setCell (p := ⟨gF, 2, none⟩) hgF (.int .i64 0)
      have hoe := ((dr2.poke3 bF2 hgF (.string ⟨#[]⟩) (.int .i64 0) (.int .i64 0))).eo
      clear y0 y1 y2 g0 g1 g2
      generalize ((W3.setCell ⟨gF, 0, none⟩ (.string ⟨#[]⟩)).setCell ⟨gF, 1, none⟩ (.int .i64 0)).setCell ⟨gF, 2, none⟩ (.int .i64 0) = W9 at K hq hoe ⊢
      have k0 := K.cell 0
      have k1 := K.cell 1
      have k2 := K.cell 2
      simp at k0 k1 k2
      refine bodyPost_ret (v := .tuple #[.slice Al L.length cl, .agg #[.string ⟨#[]⟩, .int .i64 0, .int .i64 0]]) ?_ ?_ ?_
      · simp [results, Tryd.results13, go_sem, k0, k1, k2]
      · rfl
      exact ⟨⟨.slice Al L.length cl, f, by rw [HV.out], by rw [HV.out]; exact hoe⟩, hq⟩
    | mem ns nm d nx =>
      obtain ⟨⟨hn1, hn2⟩, hf1, hf2, hf3, hf4, _⟩ := HNX.out ns nm d nx rfl
      clear HNX HER
      obtain ⟨SD, HSD⟩ : ∃ s, Hid (stepD heads L ns nm d = s) := ⟨_, Lib.hid rfl⟩
      have HR2 : Hid (R = if SD.1 ≠ 0 then ([], (p : Int), SD.1) else if (chkL SD.2).2 ≠ 0 then ([], (p : Int), (chkL SD.2).2) else runD b n (heads ++ [ns]) SD.2 nx) := Lib.hid (by rw [HR1.out]; simp only [HSD.out])
      have HSD2 : Hid (SD = if grouped ns then grpC (frs (keyG ns) (heads.zip L) 0) L ns nm d else stepM L ns nm d) := Lib.hid (by rw [← HSD.out, stepD])
      rw [ofD_step] at HSD2
      clear HR1 HSD
      go_upto_region 6 with (go_at_call 30; refine hmem.mono ?_; rintro r W2 ⟨hbm, nv, rfl, hnv⟩; clear hmem; obtain ⟨gn, cn, rfl⟩ := nv_form hnv hf1)
      obtain ⟨csn, hBn⟩ := own_typed hnv (show (Value.slice (some ⟨gn, 0, none⟩) 13 cn).ownBlock = some gn from rfl)
      have hNn : NumAt W2 gn ns := fun i hi => by
        rw [hf1] at hnv
        have := hnv.cellAt i (by omega)
        rw [this, List.getElem?_map, List.getD_eq_getElem?_getD, List.getElem?_eq_getElem (by omega)]
        rfl
      have bG := Blk.new W2 69 #[.slice (some ⟨gn, 0, none⟩) 13 cn, .string (bs nm), .string (bs d), .int .i64 (nx : Int), .bool false, .int .i64 0]
      have hbG0 := (Below.refl W2.heap.size W2).alloc (Nat.le_refl _) (.cells #[.slice (some ⟨gn, 0, none⟩) 13 cn, .string (bs nm), .string (bs d), .int .i64 (nx : Int), .bool false, .int .i64 0] 69)
      have hbG := hbm.trans (hbG0.mono hbm.size)
      have bF2 := bF.below hbG bF.lt
      have dr2 := dr.below hbG
      have hBn2 := hBn.below hbG0 hBn.lt
      have hNn2 := hNn.keep (Kept.of_below hbG0 nowhere) (fun h => h)
      clear dr bF hbG hbG0 hBn hNn hnv
      have hgG : wr.heap.size ≤ W2.heap.size := hbm.size
      clear hbm
      generalize W2.alloc (.cells #[.slice (some ⟨gn, 0, none⟩) 13 cn, .string (bs nm), .string (bs d), .int .i64 (nx : Int), .bool false, .int .i64 0] 69) = W3 at bG bF2 dr2 hBn2 hNn2 ⊢
      generalize W2.heap.size = gG at bG hgG ⊢
      have x0 := bG.cell 0
      have x1 := bG.cell 1
      have x2 := bG.cell 2
      have x3 := bG.cell 3
      have x4 := bG.cell 4
      have x5 := bG.cell 5
      simp at x0 x1 x2 x3 x4 x5
      have n1 := hNn2 1 (by omega)
      have n2 := hNn2 2 (by omega)
      have n3 := hNn2 3 (by omega)
      have n4 := hNn2 4 (by omega)
      have n5 := hNn2 5 (by omega)
      have hx1 : ns.getD 1 0 ≤ 4294967295 := by
        rw [List.getD_eq_getElem?_getD, List.getElem?_eq_getElem (by omega)]
        exact hf2 _ (List.getElem_mem _)
      have hOf := of10_any nm d gn cn (nx : Int) W3 (ns.getD 1 0) (ns.getD 3 0) (ns.getD 4 0) (ns.getD 5 0) hx1 n1 n3 n4 n5 (by omega)
      obtain ⟨OD, HOD⟩ : ∃ o, Hid (ofD nm d (ns.getD 1 0 / 4096) (ns.getD 1 0 % 4096) (ns.getD 3 0) (ns.getD 4 0) (ns.getD 5 0) = o) := ⟨_, Lib.hid rfl⟩
      have hofF := ofD_facts nm d (ns.getD 1 0 / 4096) (ns.getD 1 0 % 4096) (ns.getD 3 0) (ns.getD 4 0) (ns.getD 5 0)
      rw [HOD.out] at hOf HSD2 hofF
      obtain ⟨oc, e⟩ := OD
      simp only at hOf HSD2 hofF
      obtain ⟨o1, o2, o3, o4, o5, o6, o7⟩ := hofF
      have hOf2 : Calls Tryd.prog 31 #[.agg #[.slice (some ⟨gn, 0, none⟩) 13 cn, .string (bs nm), .string (bs d), .int .i64 (nx : Int), .bool false, .int .i64 0]] W3 fun r w' => Below W3.heap.size W3 w' ∧ ∃ dv, r = .returned (.tuple #[.agg #[.string (bs e.path), .int .i64 e.kind, .int .i64 e.mode, .int .i64 e.uid, .int .i64 e.gid, .string (bs e.owner), .string (bs e.group), .int .i64 e.mtime, .string (bs e.link), dv], .int .i64 oc]) ∧ ∀ X : Nat → Prop, (∀ k, W3.heap.size ≤ k → ¬ X k) → Sl 1 Rbyte X w' dv e.data := hOf
      clear n1 n3 n4 n5 HOD hOf
      have HGrp : Hid ((e.kind = 1 ∧ 1 < ns.getD 2 0) ↔ grouped ns) := Lib.hid (by unfold grouped; rw [o5])
      have hEBe : EB e := by
        refine ⟨by rw [o1]; omega, by rw [o2]; simp, by rw [o3]; simp, ?_⟩
        rcases o4 with h | h
        · rw [h]; omega
        · rw [h]; simp
      have HO6 := Lib.hid o6
      clear o1 o2 o3 o4 o5 o6 o7
      have hH3 : w.heap.size ≤ W3.heap.size := dr2.bel.size
      have x5b : ((0 : Int) != 0) = false := rfl
      go_upto_region 11 with (go_at_call 31; refine hOf2.mono ?_; rintro r W4 ⟨hbo, dv, rfl, hdv⟩; clear hOf2; obtain ⟨Ad, cd, rfl, _, _⟩ := (hdv nowhere (fun _ _ h => h)).form)
      have hbE := hbo.alloc hbo.size (.cells #[.string (bs e.path), .int .i64 e.kind, .int .i64 e.mode, .int .i64 e.uid, .int .i64 e.gid, .string (bs e.owner), .string (bs e.group), .int .i64 e.mtime, .string (bs e.link), .slice Ad e.data.length cd] tE)
      have bE := Blk.new W4 tE #[.string (bs e.path), .int .i64 e.kind, .int .i64 e.mode, .int .i64 e.uid, .int .i64 e.gid, .string (bs e.owner), .string (bs e.group), .int .i64 e.mtime, .string (bs e.link), .slice Ad e.data.length cd]
      have dr5 := dr2.below hbE
      have bG5 := bG.below hbE bG.lt
      have bF5 := bF2.below hbE bF2.lt
      have hBn5 := hBn2.below hbE hBn2.lt
      have n2 := (Kept.of_below hbE nowhere).cell n2 (fun h => h)
      have hNn5 := hNn2.keep (Kept.of_below hbE nowhere) (fun h => h)
      have hlvE : (Value.slice Al L.length cl).ownBlock ≠ some W4.heap.size := fun e1 => by have := (dr2.row.lt _ e1).2; have := hbo.size; omega
      have hDXn : ∀ k, W3.heap.size ≤ k → ¬ DX (.slice Al L.length cl) (.slice Ah hs.length ch) k := fun k h1 h2 => by
        rcases h2 with h2 | h2
        · have := (dr2.row.lt _ h2).2; omega
        · have := (dr2.hrow.lt _ h2).2; omega
      have hsl0 : Sl 1 Rbyte (DX (.slice Al L.length cl) (.slice Ah hs.length ch)) (W4.alloc (.cells #[.string (bs e.path), .int .i64 e.kind, .int .i64 e.mode, .int .i64 e.uid, .int .i64 e.gid, .string (bs e.owner), .string (bs e.group), .int .i64 e.mtime, .string (bs e.link), .slice Ad e.data.length cd] tE)) (.slice Ad e.data.length cd) e.data := (hdv _ hDXn).keep good_byte (Kept.of_below ((Below.refl _ W4).alloc (Nat.le_refl _) _) _)
      have hsl5 := hsl0.off bE (no10 (bs e.path) (bs e.owner) (bs e.group) (bs e.link) e.kind e.mode e.uid e.gid e.mtime Ad e.data.length cd)
      have hgEH : w.heap.size ≤ W4.heap.size := Nat.le_trans hH3 hbo.size
      clear hdv hDXn hsl0 hbE hbo dr2 bG bF2 hBn2 hNn2 x0 x1 x2 x3 x4 x5 hH3
      generalize W4.alloc (.cells #[.string (bs e.path), .int .i64 e.kind, .int .i64 e.mode, .int .i64 e.uid, .int .i64 e.gid, .string (bs e.owner), .string (bs e.group), .int .i64 e.mtime, .string (bs e.link), .slice Ad e.data.length cd] tE) = W5 at bE dr5 bG5 bF5 hBn5 n2 hNn5 hsl5 ⊢
      generalize W4.heap.size = gE at bE hlvE hgEH hsl5 ⊢
      have x0 := bG5.cell 0
      have x3 := bG5.cell 3
      simp at x0 x3
      obtain ⟨q0, q1, q2, q3, q4, q5, q6, q7, q8, q9⟩ := bE.cells10
      by_cases hoc : oc = 0
      rotate_left
      · have hcb : (oc != 0) = true := by simpa using hoc
        have hng : ¬ grouped ns := fun h => hoc (by have := HO6.out h.1; exact congrArg Prod.fst this)
        have HS3 := Lib.hid (HSD2.out.trans (if_neg hng))
        have HS4 := Lib.hid (HS3.out.trans (if_neg hoc))
        have HV := Lib.hid (HR2.out.trans (if_pos (by rw [HS4.out]; exact hoc)))
        rw [HS4.out] at HV
        clear HS3 HS4 HSD2 HR2 hoc hng HGrp HO6
        have hbb := dr5.bel
        clear dr5
        have y0 := bF5.cell 0
        have y1 := bF5.cell 1
        have y2 := bF5.cell 2
        simp at y0 y1 y2
        have g0 := bF5.frozen 0
        have g1 := bF5.frozen 1
        have g2 := bF5.frozen 2
        go_wp2_with fail
        have K := blk_set3 bF5 (.string ⟨#[]⟩) (.int .i64 (p : Int)) (.int .i64 oc)
        have hq := ((hbb.setCell (p := ⟨gF, 0, none⟩) hgF (.string ⟨#[]⟩)).setCell (p := ⟨gF, 1, none⟩) hgF (.int .i64 (p : Int))).setCell (p := ⟨gF, 2, none⟩) hgF (.int .i64 oc)
        clear y0 y1 y2 g0 g1 g2
        generalize ((W5.setCell ⟨gF, 0, none⟩ (.string ⟨#[]⟩)).setCell ⟨gF, 1, none⟩ (.int .i64 (p : Int))).setCell ⟨gF, 2, none⟩ (.int .i64 oc) = W9 at K hq ⊢
        have k0 := K.cell 0
        have k1 := K.cell 1
        have k2 := K.cell 2
        simp at k0 k1 k2
        refine bodyPost_ret (v := .tuple #[.slice none 0 0, .agg #[.string ⟨#[]⟩, .int .i64 (p : Int), .int .i64 oc]]) ?_ ?_ ?_
        · simp [results, Tryd.results13, go_sem, k0, k1, k2]
        · rfl
        exact ⟨⟨.slice none 0 0, fun _ => undef, by rw [HV.out], by rw [HV.out]; exact EO.nil _ _ _⟩, hq⟩
      subst hoc
      have ocb : ((0 : Int) != 0) = false := rfl
      by_cases hg : grouped ns
      rotate_left
      · have HS3 := Lib.hid (HSD2.out.trans (if_neg hg))
        have HS4 : Hid (SD = (0, L ++ [e])) := Lib.hid (HS3.out.trans (if_pos rfl))
        clear HS3 HSD2 HO6
        by_cases hk1 : e.kind = 1
        · have tk1 : (e.kind == 1) = true := by simpa using hk1
          have hx2 : ¬ 1 < ns.getD 2 0 := fun h => hg (HGrp.out.1 ⟨hk1, h⟩)
          have t2 : decide ((1 : Int) < ((ns.getD 2 0 : Nat) : Int)) = false := decide_eq_false (by omega)
          generalize ns.getD 2 0 = z2 at n2 t2 hx2 HGrp
          have t2b : decide (1 < z2) = false := decide_eq_false hx2
          clear hk1 hx2 HGrp hg
          go_upto_region 24 with fail
          have hslX := hsl5.mono (Y := DX (.slice Al L.length cl) (.slice Ah hs.length ch)) good_byte (by omega) fun _ _ h => .inl h
          clear hsl5
          have hbA : Below W5.heap.size W5 (W5.alloc (.cells #[.string (bs e.path), .int .i64 e.kind, .int .i64 e.mode, .int .i64 e.uid, .int .i64 e.gid, .string (bs e.owner), .string (bs e.group), .int .i64 e.mtime, .string (bs e.link), .slice Ad e.data.length cd] tE)) := (Below.refl _ W5).alloc (Nat.le_refl _) _
          have drA := dr5.below hbA
          have bS := Blk.new W5 tE #[.string (bs e.path), .int .i64 e.kind, .int .i64 e.mode, .int .i64 e.uid, .int .i64 e.gid, .string (bs e.owner), .string (bs e.group), .int .i64 e.mtime, .string (bs e.link), .slice Ad e.data.length cd]
          have bGA := bG5.below hbA bG5.lt
          have bFA := bF5.below hbA bF5.lt
          have hBnA := hBn5.below hbA hBn5.lt
          have hNnA := hNn5.keep (Kept.of_below hbA nowhere) (fun h => h)
          have hslA := Below.sl good_byte hbA hslX
          clear hbA dr5 bG5 bF5 hBn5 hNn5 hslX
          go_upto_region 25 with (at_builtin; refine wpList_appendEO (v := .slice Al L.length cl) (L := L) (f := f) (M := [e]) (g := fun _ => .slice Ad e.data.length cd) rfl _ _ rfl rfl drA.eo rfl (fun h => by cases h) (fun _ => ⟨⟨W5.heap.size, 0, none⟩, rfl, fun j u hu => by have hu2 : (entC (e) (.slice Ad e.data.length cd))[j]? = some u := (by simpa [ofC] using hu); rw [Addr.add_lit, Nat.zero_add, bS.cell]; show (List.toArray _)[j]? = _; rw [List.getElem?_toArray]; exact hu2⟩) (fun j hj => by have hj0 : j = 0 := (by simp at hj; exact hj); subst hj0; exact hslA.mono good_byte (by omega) fun k _ e => .inl e) (by simp; omega) drA.bel.size ?_; intro v' W8 hE8 hk8 hob8; have bG8 := hk8.blk bGA (own_notblk drA.row bGA (by decide)); have x0 := bG8.cell 0; simp at x0)
          have bF8 := hk8.blk bFA (own_notblk drA.row bFA (by decide))
          have hBn8 := hk8.blk hBnA (own_notblk drA.row hBnA (by decide))
          have hNn8 := hNnA.keep hk8 (own_notblk drA.row hBnA (by decide))
          have dr8 := drA.app hE8 hk8 hob8 hslA
          clear drA bS bGA bFA hBnA hNnA hslA hE8 hk8 hob8
          have hbB : Below W8.heap.size W8 (W8.alloc (.cells #[.slice (some ⟨gn, 0, none⟩) 13 cn] 63)) := (Below.refl _ W8).alloc (Nat.le_refl _) _
          have bP := Blk.new W8 63 #[.slice (some ⟨gn, 0, none⟩) 13 cn]
          have dr9 := dr8.below hbB
          have bG9 := bG8.below hbB bG8.lt
          have bF9 := bF8.below hbB bF8.lt
          have hBn9 := hBn8.below hbB hBn8.lt
          have hNn9 := hNn8.keep (Kept.of_below hbB nowhere) (fun h => h)
          have hhsl : hs.length ≤ 100000 := by have := dr9.hlen; omega
          clear hbB dr8 bG8 bF8 hBn8 hNn8
          go_upto_region 26 with (at_builtin; refine wpList_head rfl _ _ rfl rfl dr9.hrow (.slice (some ⟨gn, 0, none⟩) 13 cn) rfl W8.heap.size 1 rfl bP (by omega) dr9.bel.size ?_; intro v2 W10 ho10 hk10 hob10)
          have bG10 := hk10.blk bG9 (own_notblk dr9.hrow bG9 (by decide))
          have bF10 := hk10.blk bF9 (own_notblk dr9.hrow bF9 (by decide))
          have dr10 := dr9.head ho10 hk10 hob10 hBn9 hNn9
          clear dr9 bP bG9 bF9 hBn9 hNn9 ho10 hk10 hob10 x0
          have hEBn : ∀ x ∈ L ++ [e], EB x := fun x hx => by
            rw [List.mem_append, List.mem_singleton] at hx
            rcases hx with hx | rfl
            · exact hEB x hx
            · exact hEBe
          have hLn : (L ++ [e]).length = L.length + 1 := by simp
          have hck := rchkall_any (L ++ [e]) v' nowhere W10 dr10.eo.sl ⟨by omega, hEBn⟩
          have HR3 := Lib.hid (HR2.out.trans (if_neg (by rw [HS4.out]; simp)))
          rw [HS4.out] at HR3
          clear HR2 HS4
          generalize hLE : L ++ [e] = LN at dr10 hEBn hck HR3 hLn
          obtain ⟨cx, HCX⟩ : ∃ c, Hid ((chkL LN).2 = c) := ⟨_, Lib.hid rfl⟩
          have HR4 : Hid (R = if (chkL LN).2 ≠ 0 then ([], (p : Int), (chkL LN).2) else runD b n (heads ++ [ns]) LN nx) := HR3
          clear HR3
          rw [HCX.out] at hck HR4
          generalize (chkL LN).1 = ci at hck
          go_upto_region 27 with (go_at_call 15; refine hck.mono ?_; rintro r W11 ⟨rfl, hb11⟩; clear hck)
          have dr11 := dr10.below hb11
          have bG11 := bG10.below hb11 bG10.lt
          have bF11 := bF10.below hb11 bF10.lt
          clear dr10 bG10 bF10 hb11
          have x3 := bG11.cell 3
          simp at x3
          by_cases hcx : cx = 0
          rotate_left
          · have hcb : (cx != 0) = true := by simpa using hcx
            have HV := Lib.hid (HR4.out.trans (if_pos hcx))
            have hbb := dr11.bel
            clear HR4 hcx dr11 x3
            have y0 := bF11.cell 0
            have y1 := bF11.cell 1
            have y2 := bF11.cell 2
            simp at y0 y1 y2
            have g0 := bF11.frozen 0
            have g1 := bF11.frozen 1
            have g2 := bF11.frozen 2
            go_wp2_with fail
            have K := blk_set3 bF11 (.string ⟨#[]⟩) (.int .i64 (p : Int)) (.int .i64 cx)
            have hq := ((hbb.setCell (p := ⟨gF, 0, none⟩) hgF (.string ⟨#[]⟩)).setCell (p := ⟨gF, 1, none⟩) hgF (.int .i64 (p : Int))).setCell (p := ⟨gF, 2, none⟩) hgF (.int .i64 cx)
            clear y0 y1 y2 g0 g1 g2
            generalize ((W11.setCell ⟨gF, 0, none⟩ (.string ⟨#[]⟩)).setCell ⟨gF, 1, none⟩ (.int .i64 (p : Int))).setCell ⟨gF, 2, none⟩ (.int .i64 cx) = W9 at K hq ⊢
            have k0 := K.cell 0
            have k1 := K.cell 1
            have k2 := K.cell 2
            simp at k0 k1 k2
            refine bodyPost_ret (v := .tuple #[.slice none 0 0, .agg #[.string ⟨#[]⟩, .int .i64 (p : Int), .int .i64 cx]]) ?_ ?_ ?_
            · simp [results, Tryd.results13, go_sem, k0, k1, k2]
            · rfl
            exact ⟨⟨.slice none 0 0, fun _ => undef, by rw [HV.out], by rw [HV.out]; exact EO.nil _ _ _⟩, hq⟩
          have hcb : (cx != 0) = false := by simpa using hcx
          have HV := Lib.hid (HR4.out.trans (if_neg (fun h => h hcx)))
          clear HR4 hcx HCX
          go_wp2_with fail
          go_roundg n
          case measure => omega
          case rel => exact ⟨n, nx, LN, _, _, heads ++ [ns], rfl, rfl, dr11, bF11, hn2, by omega, by omega, by simp only [List.length_append, List.length_singleton]; omega, hEBn, by rw [HV.out]; exact Lib.hid rfl⟩
        · have tk1 : (e.kind == 1) = false := by simpa using hk1
          clear hk1 HGrp hg
          go_upto_region 24 with fail
          have hslX := hsl5.mono (Y := DX (.slice Al L.length cl) (.slice Ah hs.length ch)) good_byte (by omega) fun _ _ h => .inl h
          clear hsl5
          have hbA : Below W5.heap.size W5 (W5.alloc (.cells #[.string (bs e.path), .int .i64 e.kind, .int .i64 e.mode, .int .i64 e.uid, .int .i64 e.gid, .string (bs e.owner), .string (bs e.group), .int .i64 e.mtime, .string (bs e.link), .slice Ad e.data.length cd] tE)) := (Below.refl _ W5).alloc (Nat.le_refl _) _
          have drA := dr5.below hbA
          have bS := Blk.new W5 tE #[.string (bs e.path), .int .i64 e.kind, .int .i64 e.mode, .int .i64 e.uid, .int .i64 e.gid, .string (bs e.owner), .string (bs e.group), .int .i64 e.mtime, .string (bs e.link), .slice Ad e.data.length cd]
          have bGA := bG5.below hbA bG5.lt
          have bFA := bF5.below hbA bF5.lt
          have hBnA := hBn5.below hbA hBn5.lt
          have hNnA := hNn5.keep (Kept.of_below hbA nowhere) (fun h => h)
          have hslA := Below.sl good_byte hbA hslX
          clear hbA dr5 bG5 bF5 hBn5 hNn5 hslX
          go_upto_region 25 with (at_builtin; refine wpList_appendEO (v := .slice Al L.length cl) (L := L) (f := f) (M := [e]) (g := fun _ => .slice Ad e.data.length cd) rfl _ _ rfl rfl drA.eo rfl (fun h => by cases h) (fun _ => ⟨⟨W5.heap.size, 0, none⟩, rfl, fun j u hu => by have hu2 : (entC (e) (.slice Ad e.data.length cd))[j]? = some u := (by simpa [ofC] using hu); rw [Addr.add_lit, Nat.zero_add, bS.cell]; show (List.toArray _)[j]? = _; rw [List.getElem?_toArray]; exact hu2⟩) (fun j hj => by have hj0 : j = 0 := (by simp at hj; exact hj); subst hj0; exact hslA.mono good_byte (by omega) fun k _ e => .inl e) (by simp; omega) drA.bel.size ?_; intro v' W8 hE8 hk8 hob8; have bG8 := hk8.blk bGA (own_notblk drA.row bGA (by decide)); have x0 := bG8.cell 0; simp at x0)
          have bF8 := hk8.blk bFA (own_notblk drA.row bFA (by decide))
          have hBn8 := hk8.blk hBnA (own_notblk drA.row hBnA (by decide))
          have hNn8 := hNnA.keep hk8 (own_notblk drA.row hBnA (by decide))
          have dr8 := drA.app hE8 hk8 hob8 hslA
          clear drA bS bGA bFA hBnA hNnA hslA hE8 hk8 hob8
          have hbB : Below W8.heap.size W8 (W8.alloc (.cells #[.slice (some ⟨gn, 0, none⟩) 13 cn] 63)) := (Below.refl _ W8).alloc (Nat.le_refl _) _
          have bP := Blk.new W8 63 #[.slice (some ⟨gn, 0, none⟩) 13 cn]
          have dr9 := dr8.below hbB
          have bG9 := bG8.below hbB bG8.lt
          have bF9 := bF8.below hbB bF8.lt
          have hBn9 := hBn8.below hbB hBn8.lt
          have hNn9 := hNn8.keep (Kept.of_below hbB nowhere) (fun h => h)
          have hhsl : hs.length ≤ 100000 := by have := dr9.hlen; omega
          clear hbB dr8 bG8 bF8 hBn8 hNn8
          go_upto_region 26 with (at_builtin; refine wpList_head rfl _ _ rfl rfl dr9.hrow (.slice (some ⟨gn, 0, none⟩) 13 cn) rfl W8.heap.size 1 rfl bP (by omega) dr9.bel.size ?_; intro v2 W10 ho10 hk10 hob10)
          have bG10 := hk10.blk bG9 (own_notblk dr9.hrow bG9 (by decide))
          have bF10 := hk10.blk bF9 (own_notblk dr9.hrow bF9 (by decide))
          have dr10 := dr9.head ho10 hk10 hob10 hBn9 hNn9
          clear dr9 bP bG9 bF9 hBn9 hNn9 ho10 hk10 hob10 x0
          have hEBn : ∀ x ∈ L ++ [e], EB x := fun x hx => by
            rw [List.mem_append, List.mem_singleton] at hx
            rcases hx with hx | rfl
            · exact hEB x hx
            · exact hEBe
          have hLn : (L ++ [e]).length = L.length + 1 := by simp
          have hck := rchkall_any (L ++ [e]) v' nowhere W10 dr10.eo.sl ⟨by omega, hEBn⟩
          have HR3 := Lib.hid (HR2.out.trans (if_neg (by rw [HS4.out]; simp)))
          rw [HS4.out] at HR3
          clear HR2 HS4
          generalize hLE : L ++ [e] = LN at dr10 hEBn hck HR3 hLn
          obtain ⟨cx, HCX⟩ : ∃ c, Hid ((chkL LN).2 = c) := ⟨_, Lib.hid rfl⟩
          have HR4 : Hid (R = if (chkL LN).2 ≠ 0 then ([], (p : Int), (chkL LN).2) else runD b n (heads ++ [ns]) LN nx) := HR3
          clear HR3
          rw [HCX.out] at hck HR4
          generalize (chkL LN).1 = ci at hck
          go_upto_region 27 with (go_at_call 15; refine hck.mono ?_; rintro r W11 ⟨rfl, hb11⟩; clear hck)
          have dr11 := dr10.below hb11
          have bG11 := bG10.below hb11 bG10.lt
          have bF11 := bF10.below hb11 bF10.lt
          clear dr10 bG10 bF10 hb11
          have x3 := bG11.cell 3
          simp at x3
          by_cases hcx : cx = 0
          rotate_left
          · have hcb : (cx != 0) = true := by simpa using hcx
            have HV := Lib.hid (HR4.out.trans (if_pos hcx))
            have hbb := dr11.bel
            clear HR4 hcx dr11 x3
            have y0 := bF11.cell 0
            have y1 := bF11.cell 1
            have y2 := bF11.cell 2
            simp at y0 y1 y2
            have g0 := bF11.frozen 0
            have g1 := bF11.frozen 1
            have g2 := bF11.frozen 2
            go_wp2_with fail
            have K := blk_set3 bF11 (.string ⟨#[]⟩) (.int .i64 (p : Int)) (.int .i64 cx)
            have hq := ((hbb.setCell (p := ⟨gF, 0, none⟩) hgF (.string ⟨#[]⟩)).setCell (p := ⟨gF, 1, none⟩) hgF (.int .i64 (p : Int))).setCell (p := ⟨gF, 2, none⟩) hgF (.int .i64 cx)
            clear y0 y1 y2 g0 g1 g2
            generalize ((W11.setCell ⟨gF, 0, none⟩ (.string ⟨#[]⟩)).setCell ⟨gF, 1, none⟩ (.int .i64 (p : Int))).setCell ⟨gF, 2, none⟩ (.int .i64 cx) = W9 at K hq ⊢
            have k0 := K.cell 0
            have k1 := K.cell 1
            have k2 := K.cell 2
            simp at k0 k1 k2
            refine bodyPost_ret (v := .tuple #[.slice none 0 0, .agg #[.string ⟨#[]⟩, .int .i64 (p : Int), .int .i64 cx]]) ?_ ?_ ?_
            · simp [results, Tryd.results13, go_sem, k0, k1, k2]
            · rfl
            exact ⟨⟨.slice none 0 0, fun _ => undef, by rw [HV.out], by rw [HV.out]; exact EO.nil _ _ _⟩, hq⟩
          have hcb : (cx != 0) = false := by simpa using hcx
          have HV := Lib.hid (HR4.out.trans (if_neg (fun h => h hcx)))
          clear HR4 hcx HCX
          go_wp2_with fail
          go_roundg n
          case measure => omega
          case rel => exact ⟨n, nx, LN, _, _, heads ++ [ns], rfl, rfl, dr11, bF11, hn2, by omega, by omega, by simp only [List.length_append, List.length_singleton]; omega, hEBn, by rw [HV.out]; exact Lib.hid rfl⟩
      · have he := congrArg Prod.snd (HO6.out hg.1)
        simp only at he
        have hk1 : e.kind = 1 := by rw [he]; rfl
        have tk1 : (e.kind == 1) = true := by simpa using hk1
        have hx2 : 1 < ns.getD 2 0 := hg.2
        have t2 : decide ((1 : Int) < ((ns.getD 2 0 : Nat) : Int)) = true := decide_eq_true (by omega)
        have HS3 := Lib.hid (HSD2.out.trans (if_pos hg))
        generalize ns.getD 2 0 = z2 at n2 t2 hx2 HGrp
        have t2b : decide (1 < z2) = true := decide_eq_true hx2
        have hfi := first_any heads L ns _ _ gn cn W5 nowhere dr5.hat dr5.eo.sl hNn5 hhl (by omega)
        have hfa := fun j (h : frs (keyG ns) (heads.zip L) 0 = some j) => frs_at hhl h
        clear HSD2 hk1 hx2 HGrp hg HO6
        cases hfr : frs (keyG ns) (heads.zip L) 0 with
        | none =>
          rw [hfr] at hfi HS3
          have hfi2 : Calls Tryd.prog 32 #[.slice Ah hs.length ch, .slice Al L.length cl, .slice (some ⟨gn, 0, none⟩) 13 cn] W5 fun r w' => r = .returned (.int .i64 (-1)) ∧ Below W5.heap.size W5 w' := hfi
          have HS4 : Hid (SD = (0, L ++ [e])) := Lib.hid (by rw [HS3.out, he]; rfl)
          clear HS3 hfi hfr hfa he
          go_upto_region 24 with (go_at_call 32; refine hfi2.mono ?_; rintro r W6 ⟨rfl, hb6⟩; clear hfi2; have q0 := (Kept.of_below hb6 nowhere).cell q0 (fun h => h))
          have dr6 := dr5.below hb6
          have bG6 := bG5.below hb6 bG5.lt
          have bF6 := bF5.below hb6 bF5.lt
          have bE6 := bE.below hb6 bE.lt
          have hBn6 := hBn5.below hb6 hBn5.lt
          have hNn6 := hNn5.keep (Kept.of_below hb6 nowhere) (fun h => h)
          have hsl6 := Below.sl good_byte hb6 hsl5
          clear dr5 bG5 bF5 bE hBn5 hNn5 hsl5 hb6 q0 q1 q2 q3 q4 q5 q6 q7 q8 q9 x0 x3 n2
          have hslX := hsl6.mono (Y := DX (.slice Al L.length cl) (.slice Ah hs.length ch)) good_byte (by omega) fun _ _ h => .inl h
          clear hsl6
          obtain ⟨q0, q1, q2, q3, q4, q5, q6, q7, q8, q9⟩ := bE6.cells10
          have hbA : Below W6.heap.size W6 (W6.alloc (.cells #[.string (bs e.path), .int .i64 e.kind, .int .i64 e.mode, .int .i64 e.uid, .int .i64 e.gid, .string (bs e.owner), .string (bs e.group), .int .i64 e.mtime, .string (bs e.link), .slice Ad e.data.length cd] tE)) := (Below.refl _ W6).alloc (Nat.le_refl _) _
          have drA := dr6.below hbA
          have bS := Blk.new W6 tE #[.string (bs e.path), .int .i64 e.kind, .int .i64 e.mode, .int .i64 e.uid, .int .i64 e.gid, .string (bs e.owner), .string (bs e.group), .int .i64 e.mtime, .string (bs e.link), .slice Ad e.data.length cd]
          have bGA := bG6.below hbA bG6.lt
          have bFA := bF6.below hbA bF6.lt
          have hBnA := hBn6.below hbA hBn6.lt
          have hNnA := hNn6.keep (Kept.of_below hbA nowhere) (fun h => h)
          have hslA := Below.sl good_byte hbA hslX
          clear hbA dr6 bG6 bF6 hBn6 hNn6 hslX
          go_upto_region 25 with (at_builtin; refine wpList_appendEO (v := .slice Al L.length cl) (L := L) (f := f) (M := [e]) (g := fun _ => .slice Ad e.data.length cd) rfl _ _ rfl rfl drA.eo rfl (fun h => by cases h) (fun _ => ⟨⟨W6.heap.size, 0, none⟩, rfl, fun j u hu => by have hu2 : (entC (e) (.slice Ad e.data.length cd))[j]? = some u := (by simpa [ofC] using hu); rw [Addr.add_lit, Nat.zero_add, bS.cell]; show (List.toArray _)[j]? = _; rw [List.getElem?_toArray]; exact hu2⟩) (fun j hj => by have hj0 : j = 0 := (by simp at hj; exact hj); subst hj0; exact hslA.mono good_byte (by omega) fun k _ e => .inl e) (by simp; omega) drA.bel.size ?_; intro v' W8 hE8 hk8 hob8; have bG8 := hk8.blk bGA (own_notblk drA.row bGA (by decide)); have x0 := bG8.cell 0; simp at x0)
          have bF8 := hk8.blk bFA (own_notblk drA.row bFA (by decide))
          have hBn8 := hk8.blk hBnA (own_notblk drA.row hBnA (by decide))
          have hNn8 := hNnA.keep hk8 (own_notblk drA.row hBnA (by decide))
          have dr8 := drA.app hE8 hk8 hob8 hslA
          clear drA bS bGA bFA hBnA hNnA hslA hE8 hk8 hob8
          have hbB : Below W8.heap.size W8 (W8.alloc (.cells #[.slice (some ⟨gn, 0, none⟩) 13 cn] 63)) := (Below.refl _ W8).alloc (Nat.le_refl _) _
          have bP := Blk.new W8 63 #[.slice (some ⟨gn, 0, none⟩) 13 cn]
          have dr9 := dr8.below hbB
          have bG9 := bG8.below hbB bG8.lt
          have bF9 := bF8.below hbB bF8.lt
          have hBn9 := hBn8.below hbB hBn8.lt
          have hNn9 := hNn8.keep (Kept.of_below hbB nowhere) (fun h => h)
          have hhsl : hs.length ≤ 100000 := by have := dr9.hlen; omega
          clear hbB dr8 bG8 bF8 hBn8 hNn8
          go_upto_region 26 with (at_builtin; refine wpList_head rfl _ _ rfl rfl dr9.hrow (.slice (some ⟨gn, 0, none⟩) 13 cn) rfl W8.heap.size 1 rfl bP (by omega) dr9.bel.size ?_; intro v2 W10 ho10 hk10 hob10)
          have bG10 := hk10.blk bG9 (own_notblk dr9.hrow bG9 (by decide))
          have bF10 := hk10.blk bF9 (own_notblk dr9.hrow bF9 (by decide))
          have dr10 := dr9.head ho10 hk10 hob10 hBn9 hNn9
          clear dr9 bP bG9 bF9 hBn9 hNn9 ho10 hk10 hob10 x0
          have hEBn : ∀ x ∈ L ++ [e], EB x := fun x hx => by
            rw [List.mem_append, List.mem_singleton] at hx
            rcases hx with hx | rfl
            · exact hEB x hx
            · exact hEBe
          have hLn : (L ++ [e]).length = L.length + 1 := by simp
          have hck := rchkall_any (L ++ [e]) v' nowhere W10 dr10.eo.sl ⟨by omega, hEBn⟩
          have HR3 := Lib.hid (HR2.out.trans (if_neg (by rw [HS4.out]; simp)))
          rw [HS4.out] at HR3
          clear HR2 HS4
          generalize hLE : L ++ [e] = LN at dr10 hEBn hck HR3 hLn
          obtain ⟨cx, HCX⟩ : ∃ c, Hid ((chkL LN).2 = c) := ⟨_, Lib.hid rfl⟩
          have HR4 : Hid (R = if (chkL LN).2 ≠ 0 then ([], (p : Int), (chkL LN).2) else runD b n (heads ++ [ns]) LN nx) := HR3
          clear HR3
          rw [HCX.out] at hck HR4
          generalize (chkL LN).1 = ci at hck
          go_upto_region 27 with (go_at_call 15; refine hck.mono ?_; rintro r W11 ⟨rfl, hb11⟩; clear hck)
          have dr11 := dr10.below hb11
          have bG11 := bG10.below hb11 bG10.lt
          have bF11 := bF10.below hb11 bF10.lt
          clear dr10 bG10 bF10 hb11
          have x3 := bG11.cell 3
          simp at x3
          by_cases hcx : cx = 0
          rotate_left
          · have hcb : (cx != 0) = true := by simpa using hcx
            have HV := Lib.hid (HR4.out.trans (if_pos hcx))
            have hbb := dr11.bel
            clear HR4 hcx dr11 x3
            have y0 := bF11.cell 0
            have y1 := bF11.cell 1
            have y2 := bF11.cell 2
            simp at y0 y1 y2
            have g0 := bF11.frozen 0
            have g1 := bF11.frozen 1
            have g2 := bF11.frozen 2
            go_wp2_with fail
            have K := blk_set3 bF11 (.string ⟨#[]⟩) (.int .i64 (p : Int)) (.int .i64 cx)
            have hq := ((hbb.setCell (p := ⟨gF, 0, none⟩) hgF (.string ⟨#[]⟩)).setCell (p := ⟨gF, 1, none⟩) hgF (.int .i64 (p : Int))).setCell (p := ⟨gF, 2, none⟩) hgF (.int .i64 cx)
            clear y0 y1 y2 g0 g1 g2
            generalize ((W11.setCell ⟨gF, 0, none⟩ (.string ⟨#[]⟩)).setCell ⟨gF, 1, none⟩ (.int .i64 (p : Int))).setCell ⟨gF, 2, none⟩ (.int .i64 cx) = W9 at K hq ⊢
            have k0 := K.cell 0
            have k1 := K.cell 1
            have k2 := K.cell 2
            simp at k0 k1 k2
            refine bodyPost_ret (v := .tuple #[.slice none 0 0, .agg #[.string ⟨#[]⟩, .int .i64 (p : Int), .int .i64 cx]]) ?_ ?_ ?_
            · simp [results, Tryd.results13, go_sem, k0, k1, k2]
            · rfl
            exact ⟨⟨.slice none 0 0, fun _ => undef, by rw [HV.out], by rw [HV.out]; exact EO.nil _ _ _⟩, hq⟩
          have hcb : (cx != 0) = false := by simpa using hcx
          have HV := Lib.hid (HR4.out.trans (if_neg (fun h => h hcx)))
          clear HR4 hcx HCX
          go_wp2_with fail
          go_roundg n
          case measure => omega
          case rel => exact ⟨n, nx, LN, _, _, heads ++ [ns], rfl, rfl, dr11, bF11, hn2, by omega, by omega, by simp only [List.length_append, List.length_singleton]; omega, hEBn, by rw [HV.out]; exact Lib.hid rfl⟩
        | some i =>
          rw [hfr] at hfi HS3
          obtain ⟨hi, hki⟩ := hfa i hfr
          have hfi2 : Calls Tryd.prog 32 #[.slice Ah hs.length ch, .slice Al L.length cl, .slice (some ⟨gn, 0, none⟩) 13 cn] W5 fun r w' => r = .returned (.int .i64 (i : Int)) ∧ Below W5.heap.size W5 w' := hfi
          have HS4 : Hid (SD = if e.mode ≠ L[i].mode ∨ e.uid ≠ L[i].uid ∨ e.gid ≠ L[i].gid ∨ e.mtime ≠ L[i].mtime then (3, L) else if e.data ≠ [] ∧ L[i].data ≠ [] then (3, L) else (0, (if e.data = [] then L else L.set i { L[i] with data := e.data }) ++ [{ e with kind := 4, link := L[i].path, data := [] }])) := Lib.hid (by
            rw [HS3.out, grpC]
            simp only [List.getElem?_eq_getElem hi]
            rw [he]
            rfl)
          clear HS3 hfi hfr hfa he hki
          have ti : decide ((0 : Int) ≤ (i : Int)) = true := decide_eq_true (by omega)
          obtain ⟨g, hAl⟩ : ∃ g, Al = some ⟨g, 0, none⟩ := by
            obtain ⟨g, cap', h, _⟩ := dr5.eo.form (by omega)
            injection h with h1
            exact ⟨g, h1⟩
          subst hAl
          have j1 : (0 : Int) ≤ (i : Int) := by omega
          have j2 : (i : Int) < (L.length : Int) := by omega
          have hgW : g ≠ gE := fun e1 => hlvE (by rw [e1]; rfl)
          have hgX : g < W5.heap.size := (dr5.row.lt g rfl).2
          obtain ⟨Ax, cx0, hfx, hx1, hx2⟩ := (dr5.dat i hi).form
          have hAt := dr5.eo.cell i hi
          rw [hfx] at hAt
          go_upto_region 16 with (go_at_call 32; refine hfi2.mono ?_; rintro r W6 ⟨rfl, hb6⟩; clear hfi2)
          have hAt := hAt.below hb6
          have hgX : g < W6.heap.size := Nat.lt_of_lt_of_le hgX hb6.size
          have dr6 := dr5.below hb6
          have bG6 := bG5.below hb6 bG5.lt
          have bF6 := bF5.below hb6 bF5.lt
          have bE6 := bE.below hb6 bE.lt
          have hBn6 := hBn5.below hb6 hBn5.lt
          have hNn6 := hNn5.keep (Kept.of_below hb6 nowhere) (fun h => h)
          have hsl6 := Below.sl good_byte hb6 hsl5
          clear dr5 bG5 bF5 bE hBn5 hNn5 hsl5 hb6 q0 q1 q2 q3 q4 q5 q6 q7 q8 q9 x0 x3 n2
          obtain ⟨q0, q1, q2, q3, q4, q5, q6, q7, q8, q9⟩ := bE6.cells10
          have a0 := hAt.c0
          have a1 := hAt.c1
          have a2 := hAt.c2
          have a3 := hAt.c3
          have a4 := hAt.c4
          have a5 := hAt.c5
          have a6 := hAt.c6
          have a7 := hAt.c7
          have a8 := hAt.c8
          have a9 := hAt.c9
          clear hAt hfx
          obtain ⟨xl, HXL⟩ : ∃ x, Hid (L[i] = x) := ⟨_, Lib.hid rfl⟩
          have hEBx : EB xl := by rw [← HXL.out]; exact hEB _ (List.getElem_mem hi)
          rw [HXL.out] at a0 a1 a2 a3 a4 a5 a6 a7 a8 a9 HS4
          go_upto_region 17 with fail
          have hbX := (Below.refl W6.heap.size W6).alloc (Nat.le_refl _) (.cells #[.string (bs xl.path), .int .i64 xl.kind, .int .i64 xl.mode, .int .i64 xl.uid, .int .i64 xl.gid, .string (bs xl.owner), .string (bs xl.group), .int .i64 xl.mtime, .string (bs xl.link), .slice Ax xl.data.length cx0] tE)
          have bX := Blk.new W6 tE #[.string (bs xl.path), .int .i64 xl.kind, .int .i64 xl.mode, .int .i64 xl.uid, .int .i64 xl.gid, .string (bs xl.owner), .string (bs xl.group), .int .i64 xl.mtime, .string (bs xl.link), .slice Ax xl.data.length cx0]
          have dr7 := dr6.below hbX
          have bG7 := bG6.below hbX bG6.lt
          have bF7 := bF6.below hbX bF6.lt
          have bE7 := bE6.below hbX bE6.lt
          have hBn7 := hBn6.below hbX hBn6.lt
          have hNn7 := hNn6.keep (Kept.of_below hbX nowhere) (fun h => h)
          have hsl7 := Below.sl good_byte hbX hsl6
          have hgXg : g ≠ W6.heap.size := fun e1 => by omega
          have hgXE : gE ≠ W6.heap.size := fun e1 => by have := bE6.lt; omega
          clear dr6 bG6 bF6 bE6 hBn6 hNn6 hsl6 hbX q0 q1 q2 q3 q4 q5 q6 q7 q8 q9 a0 a1 a2 a3 a4 a5 a6 a7 a8 a9 hgX j1 j2
          generalize W6.alloc (.cells #[.string (bs xl.path), .int .i64 xl.kind, .int .i64 xl.mode, .int .i64 xl.uid, .int .i64 xl.gid, .string (bs xl.owner), .string (bs xl.group), .int .i64 xl.mtime, .string (bs xl.link), .slice Ax xl.data.length cx0] tE) = W7 at bX dr7 bG7 bF7 bE7 hBn7 hNn7 hsl7 ⊢
          generalize W6.heap.size = gX at bX hgXE hgXg ⊢
          obtain ⟨q0, q1, q2, q3, q4, q5, q6, q7, q8, q9⟩ := bE7.cells10
          obtain ⟨a0, a1, a2, a3, a4, a5, a6, a7, a8, a9⟩ := bX.cells10
          by_cases y2 : e.mode = xl.mode
          rotate_left
          · have n2 : (xl.mode == e.mode) = false := by
              have : ¬ xl.mode = e.mode := fun h => y2 h.symm
              simpa using this
            have n2b : (xl.mode != e.mode) = true := by
              have : ¬ xl.mode = e.mode := fun h => y2 h.symm
              simpa using this
            have HS5 := Lib.hid (HS4.out.trans (if_pos (Or.inl y2)))
            have HV := Lib.hid (HR2.out.trans (if_pos (by rw [HS5.out]; show (3 : Int) ≠ 0; decide)))
            rw [HS5.out] at HV
            have hbb := dr7.bel
            clear HS4 HS5 HR2 dr7 y2
            have y0 := bF7.cell 0
            have y1 := bF7.cell 1
            have y2 := bF7.cell 2
            simp at y0 y1 y2
            have g0 := bF7.frozen 0
            have g1 := bF7.frozen 1
            have g2 := bF7.frozen 2
            go_wp2_with fail
            have K := blk_set3 bF7 (.string ⟨#[]⟩) (.int .i64 (p : Int)) (.int .i64 3)
            have hq := ((hbb.setCell (p := ⟨gF, 0, none⟩) hgF (.string ⟨#[]⟩)).setCell (p := ⟨gF, 1, none⟩) hgF (.int .i64 (p : Int))).setCell (p := ⟨gF, 2, none⟩) hgF (.int .i64 3)
            clear y0 y1 y2 g0 g1 g2
            generalize ((W7.setCell ⟨gF, 0, none⟩ (.string ⟨#[]⟩)).setCell ⟨gF, 1, none⟩ (.int .i64 (p : Int))).setCell ⟨gF, 2, none⟩ (.int .i64 3) = W9 at K hq ⊢
            have k0 := K.cell 0
            have k1 := K.cell 1
            have k2 := K.cell 2
            simp at k0 k1 k2
            refine bodyPost_ret (v := .tuple #[.slice none 0 0, .agg #[.string ⟨#[]⟩, .int .i64 (p : Int), .int .i64 3]]) ?_ ?_ ?_
            · simp [results, Tryd.results13, go_sem, k0, k1, k2]
            · rfl
            exact ⟨⟨.slice none 0 0, fun _ => undef, by rw [HV.out], by rw [HV.out]; exact EO.nil _ _ _⟩, hq⟩
          have n2 : (xl.mode == e.mode) = true := by rw [y2]; simp
          have n2b : (xl.mode != e.mode) = false := by rw [y2]; simp
          by_cases y3 : e.uid = xl.uid
          rotate_left
          · have n3 : (xl.uid == e.uid) = false := by
              have : ¬ xl.uid = e.uid := fun h => y3 h.symm
              simpa using this
            have n3b : (xl.uid != e.uid) = true := by
              have : ¬ xl.uid = e.uid := fun h => y3 h.symm
              simpa using this
            have HS5 := Lib.hid (HS4.out.trans (if_pos (Or.inr (Or.inl y3))))
            have HV := Lib.hid (HR2.out.trans (if_pos (by rw [HS5.out]; show (3 : Int) ≠ 0; decide)))
            rw [HS5.out] at HV
            have hbb := dr7.bel
            clear HS4 HS5 HR2 dr7 y2 y3
            have y0 := bF7.cell 0
            have y1 := bF7.cell 1
            have y2 := bF7.cell 2
            simp at y0 y1 y2
            have g0 := bF7.frozen 0
            have g1 := bF7.frozen 1
            have g2 := bF7.frozen 2
            go_wp2_with fail
            have K := blk_set3 bF7 (.string ⟨#[]⟩) (.int .i64 (p : Int)) (.int .i64 3)
            have hq := ((hbb.setCell (p := ⟨gF, 0, none⟩) hgF (.string ⟨#[]⟩)).setCell (p := ⟨gF, 1, none⟩) hgF (.int .i64 (p : Int))).setCell (p := ⟨gF, 2, none⟩) hgF (.int .i64 3)
            clear y0 y1 y2 g0 g1 g2
            generalize ((W7.setCell ⟨gF, 0, none⟩ (.string ⟨#[]⟩)).setCell ⟨gF, 1, none⟩ (.int .i64 (p : Int))).setCell ⟨gF, 2, none⟩ (.int .i64 3) = W9 at K hq ⊢
            have k0 := K.cell 0
            have k1 := K.cell 1
            have k2 := K.cell 2
            simp at k0 k1 k2
            refine bodyPost_ret (v := .tuple #[.slice none 0 0, .agg #[.string ⟨#[]⟩, .int .i64 (p : Int), .int .i64 3]]) ?_ ?_ ?_
            · simp [results, Tryd.results13, go_sem, k0, k1, k2]
            · rfl
            exact ⟨⟨.slice none 0 0, fun _ => undef, by rw [HV.out], by rw [HV.out]; exact EO.nil _ _ _⟩, hq⟩
          have n3 : (xl.uid == e.uid) = true := by rw [y3]; simp
          have n3b : (xl.uid != e.uid) = false := by rw [y3]; simp
          by_cases y4 : e.gid = xl.gid
          rotate_left
          · have n4 : (xl.gid == e.gid) = false := by
              have : ¬ xl.gid = e.gid := fun h => y4 h.symm
              simpa using this
            have n4b : (xl.gid != e.gid) = true := by
              have : ¬ xl.gid = e.gid := fun h => y4 h.symm
              simpa using this
            have HS5 := Lib.hid (HS4.out.trans (if_pos (Or.inr (Or.inr (Or.inl y4)))))
            have HV := Lib.hid (HR2.out.trans (if_pos (by rw [HS5.out]; show (3 : Int) ≠ 0; decide)))
            rw [HS5.out] at HV
            have hbb := dr7.bel
            clear HS4 HS5 HR2 dr7 y2 y3 y4
            have y0 := bF7.cell 0
            have y1 := bF7.cell 1
            have y2 := bF7.cell 2
            simp at y0 y1 y2
            have g0 := bF7.frozen 0
            have g1 := bF7.frozen 1
            have g2 := bF7.frozen 2
            go_wp2_with fail
            have K := blk_set3 bF7 (.string ⟨#[]⟩) (.int .i64 (p : Int)) (.int .i64 3)
            have hq := ((hbb.setCell (p := ⟨gF, 0, none⟩) hgF (.string ⟨#[]⟩)).setCell (p := ⟨gF, 1, none⟩) hgF (.int .i64 (p : Int))).setCell (p := ⟨gF, 2, none⟩) hgF (.int .i64 3)
            clear y0 y1 y2 g0 g1 g2
            generalize ((W7.setCell ⟨gF, 0, none⟩ (.string ⟨#[]⟩)).setCell ⟨gF, 1, none⟩ (.int .i64 (p : Int))).setCell ⟨gF, 2, none⟩ (.int .i64 3) = W9 at K hq ⊢
            have k0 := K.cell 0
            have k1 := K.cell 1
            have k2 := K.cell 2
            simp at k0 k1 k2
            refine bodyPost_ret (v := .tuple #[.slice none 0 0, .agg #[.string ⟨#[]⟩, .int .i64 (p : Int), .int .i64 3]]) ?_ ?_ ?_
            · simp [results, Tryd.results13, go_sem, k0, k1, k2]
            · rfl
            exact ⟨⟨.slice none 0 0, fun _ => undef, by rw [HV.out], by rw [HV.out]; exact EO.nil _ _ _⟩, hq⟩
          have n4 : (xl.gid == e.gid) = true := by rw [y4]; simp
          have n4b : (xl.gid != e.gid) = false := by rw [y4]; simp
          by_cases y7 : e.mtime = xl.mtime
          rotate_left
          · have n7 : (xl.mtime == e.mtime) = false := by
              have : ¬ xl.mtime = e.mtime := fun h => y7 h.symm
              simpa using this
            have n7b : (xl.mtime != e.mtime) = true := by
              have : ¬ xl.mtime = e.mtime := fun h => y7 h.symm
              simpa using this
            have HS5 := Lib.hid (HS4.out.trans (if_pos (Or.inr (Or.inr (Or.inr y7)))))
            have HV := Lib.hid (HR2.out.trans (if_pos (by rw [HS5.out]; show (3 : Int) ≠ 0; decide)))
            rw [HS5.out] at HV
            have hbb := dr7.bel
            clear HS4 HS5 HR2 dr7 y2 y3 y4 y7
            have y0 := bF7.cell 0
            have y1 := bF7.cell 1
            have y2 := bF7.cell 2
            simp at y0 y1 y2
            have g0 := bF7.frozen 0
            have g1 := bF7.frozen 1
            have g2 := bF7.frozen 2
            go_wp2_with fail
            have K := blk_set3 bF7 (.string ⟨#[]⟩) (.int .i64 (p : Int)) (.int .i64 3)
            have hq := ((hbb.setCell (p := ⟨gF, 0, none⟩) hgF (.string ⟨#[]⟩)).setCell (p := ⟨gF, 1, none⟩) hgF (.int .i64 (p : Int))).setCell (p := ⟨gF, 2, none⟩) hgF (.int .i64 3)
            clear y0 y1 y2 g0 g1 g2
            generalize ((W7.setCell ⟨gF, 0, none⟩ (.string ⟨#[]⟩)).setCell ⟨gF, 1, none⟩ (.int .i64 (p : Int))).setCell ⟨gF, 2, none⟩ (.int .i64 3) = W9 at K hq ⊢
            have k0 := K.cell 0
            have k1 := K.cell 1
            have k2 := K.cell 2
            simp at k0 k1 k2
            refine bodyPost_ret (v := .tuple #[.slice none 0 0, .agg #[.string ⟨#[]⟩, .int .i64 (p : Int), .int .i64 3]]) ?_ ?_ ?_
            · simp [results, Tryd.results13, go_sem, k0, k1, k2]
            · rfl
            exact ⟨⟨.slice none 0 0, fun _ => undef, by rw [HV.out], by rw [HV.out]; exact EO.nil _ _ _⟩, hq⟩
          have n7 : (xl.mtime == e.mtime) = true := by rw [y7]; simp
          have n7b : (xl.mtime != e.mtime) = false := by rw [y7]; simp
          have HS5 := Lib.hid (HS4.out.trans (if_neg (by rintro (h | h | h | h) <;> exact h (by first | exact y2 | exact y3 | exact y4 | exact y7))))
          clear HS4 y2 y3 y4 y7
          by_cases hd0 : e.data = []
          · have hdn : e.data.length = 0 := by rw [hd0]; rfl
            have hdp : decide ((0 : Int) < (e.data.length : Int)) = false := decide_eq_false (by omega)
            have hdpb : decide (0 < e.data.length) = false := decide_eq_false (by omega)
            have HS6 := Lib.hid (HS5.out.trans (if_neg (fun h => h.1 hd0)))
            rw [if_pos hd0] at HS6
            clear HS5
            by_cases hx0 : xl.data = []
            · have hxn : xl.data.length = 0 := by rw [hx0]; rfl
              have hxp : decide ((0 : Int) < (xl.data.length : Int)) = false := decide_eq_false (by omega)
              have hxpb : decide (0 < xl.data.length) = false := decide_eq_false (by omega)
              clear hx0 hd0
              go_upto_region 21 with fail
              clear hdn hdp hdpb hxn hxp hxpb
              clear q0 q1 q2 q3 q4 q5 q6 q7 q8 q9 a0 a1 a2 a3 a4 a5 a6 a7 a8 a9 hsl7
              obtain ⟨q0, q1, q2, q3, q4, q5, q6, q7, q8, q9⟩ := bE7.cells10
              obtain ⟨a0, a1, a2, a3, a4, a5, a6, a7, a8, a9⟩ := bX.cells10
              have f1 := bE7.frozen 1
              have f8 := bE7.frozen 8
              have f9 := bE7.frozen 9
              go_upto_region 24 with fail
              have p1 := dr7.poke bE7 hgEH (.inr hlvE) (by decide) (by decide) (no10 _ _ _ _ _ _ _ _ _ _ _ _) 1 (.int .i64 4)
              have b1 : Blk (W7.setCell ⟨gE, 1, none⟩ (.int .i64 4)) gE tE #[.string (bs e.path), .int .i64 4, .int .i64 e.mode, .int .i64 e.uid, .int .i64 e.gid, .string (bs e.owner), .string (bs e.group), .int .i64 e.mtime, .string (bs e.link), .slice Ad e.data.length cd] := bE7.set (u := .int .i64 4) 1
              have p2 := p1.poke b1 hgEH (.inr hlvE) (by decide) (by decide) (no10 _ _ _ _ _ _ _ _ _ _ _ _) 8 (.string (bs xl.path))
              have b2 : Blk ((W7.setCell ⟨gE, 1, none⟩ (.int .i64 4)).setCell ⟨gE, 8, none⟩ (.string (bs xl.path))) gE tE #[.string (bs e.path), .int .i64 4, .int .i64 e.mode, .int .i64 e.uid, .int .i64 e.gid, .string (bs e.owner), .string (bs e.group), .int .i64 e.mtime, .string (bs xl.path), .slice Ad e.data.length cd] := b1.set (u := .string (bs xl.path)) 8
              have p3 := p2.poke b2 hgEH (.inr hlvE) (by decide) (by decide) (no10 _ _ _ _ _ _ _ _ _ _ _ _) 9 (.slice none 0 0)
              have b3 : Blk (((W7.setCell ⟨gE, 1, none⟩ (.int .i64 4)).setCell ⟨gE, 8, none⟩ (.string (bs xl.path))).setCell ⟨gE, 9, none⟩ (.slice none 0 0)) gE tE #[.string (bs e.path), .int .i64 4, .int .i64 e.mode, .int .i64 e.uid, .int .i64 e.gid, .string (bs e.owner), .string (bs e.group), .int .i64 e.mtime, .string (bs xl.path), .slice none 0 0] := b2.set (u := .slice none 0 0) 9
              have hk3 : Kept (fun k => k = gE) W7 (((W7.setCell ⟨gE, 1, none⟩ (.int .i64 4)).setCell ⟨gE, 8, none⟩ (.string (bs xl.path))).setCell ⟨gE, 9, none⟩ (.slice none 0 0)) := (((Kept.refl (fun k => k = gE) W7).setCell (p := ⟨gE, 1, none⟩) _ fun _ => rfl).setCell (p := ⟨gE, 8, none⟩) _ fun _ => rfl).setCell (p := ⟨gE, 9, none⟩) _ fun _ => rfl
              have bG9 := hk3.blk bG7 (Blk.apartT bG7 bE7 (by decide))
              have bF9 := hk3.blk bF7 (Blk.apartT bF7 bE7 (by decide))
              have hBn9 := hk3.blk hBn7 (Blk.apartT hBn7 bE7 (by decide))
              have hNn9 := hNn7.keep hk3 (Blk.apartT hBn7 bE7 (by decide))
              clear p1 p2 b1 b2 hk3 dr7 bG7 bF7 bE7 bX hBn7 hNn7 f1 f8 f9 q0 q1 q2 q3 q4 q5 q6 q7 q8 q9 a0 a1 a2 a3 a4 a5 a6 a7 a8 a9
              generalize ((W7.setCell ⟨gE, 1, none⟩ (.int .i64 4)).setCell ⟨gE, 8, none⟩ (.string (bs xl.path))).setCell ⟨gE, 9, none⟩ (.slice none 0 0) = WL at p3 b3 bG9 bF9 hBn9 hNn9 ⊢
              have x0 := bG9.cell 0
              simp at x0
              obtain ⟨q0, q1, q2, q3, q4, q5, q6, q7, q8, q9⟩ := b3.cells10
              have hslX : Sl 1 Rbyte (DX (.slice (some ⟨g, 0, none⟩) L.length cl) (.slice Ah hs.length ch)) WL (.slice none 0 0) [] := Sl.nil _ _ _ _
              have hEB4 : EB { e with kind := 4, link := xl.path, data := [] } := ⟨hEBe.1, hEBe.2.1, hEBe.2.2.1, hEBx.1⟩
              have HS4 := Lib.hid HS6.out
              clear HS6
              have hbA : Below WL.heap.size WL (WL.alloc (.cells #[.string (bs e.path), .int .i64 4, .int .i64 e.mode, .int .i64 e.uid, .int .i64 e.gid, .string (bs e.owner), .string (bs e.group), .int .i64 e.mtime, .string (bs xl.path), .slice none 0 0] tE)) := (Below.refl _ WL).alloc (Nat.le_refl _) _
              have drA := p3.below hbA
              have bS := Blk.new WL tE #[.string (bs e.path), .int .i64 4, .int .i64 e.mode, .int .i64 e.uid, .int .i64 e.gid, .string (bs e.owner), .string (bs e.group), .int .i64 e.mtime, .string (bs xl.path), .slice none 0 0]
              have bGA := bG9.below hbA bG9.lt
              have bFA := bF9.below hbA bF9.lt
              have hBnA := hBn9.below hbA hBn9.lt
              have hNnA := hNn9.keep (Kept.of_below hbA nowhere) (fun h => h)
              have hslA := Below.sl good_byte hbA hslX
              clear hbA p3 bG9 bF9 hBn9 hNn9 hslX
              go_upto_region 25 with (at_builtin; refine wpList_appendEO (v := .slice (some ⟨g, 0, none⟩) L.length cl) (L := L) (f := f) (M := [{ e with kind := 4, link := xl.path, data := [] }]) (g := fun _ => .slice none 0 0) rfl _ _ rfl rfl drA.eo rfl (fun h => by cases h) (fun _ => ⟨⟨WL.heap.size, 0, none⟩, rfl, fun j u hu => by have hu2 : (entC ({ e with kind := 4, link := xl.path, data := [] }) (.slice none 0 0))[j]? = some u := (by simpa [ofC] using hu); rw [Addr.add_lit, Nat.zero_add, bS.cell]; show (List.toArray _)[j]? = _; rw [List.getElem?_toArray]; exact hu2⟩) (fun j hj => by have hj0 : j = 0 := (by simp at hj; exact hj); subst hj0; exact hslA.mono good_byte (by omega) fun k _ e => .inl e) (by simp; omega) drA.bel.size ?_; intro v' W8 hE8 hk8 hob8; have bG8 := hk8.blk bGA (own_notblk drA.row bGA (by decide)); have x0 := bG8.cell 0; simp at x0)
              have bF8 := hk8.blk bFA (own_notblk drA.row bFA (by decide))
              have hBn8 := hk8.blk hBnA (own_notblk drA.row hBnA (by decide))
              have hNn8 := hNnA.keep hk8 (own_notblk drA.row hBnA (by decide))
              have dr8 := drA.app hE8 hk8 hob8 hslA
              clear drA bS bGA bFA hBnA hNnA hslA hE8 hk8 hob8
              have hbB : Below W8.heap.size W8 (W8.alloc (.cells #[.slice (some ⟨gn, 0, none⟩) 13 cn] 63)) := (Below.refl _ W8).alloc (Nat.le_refl _) _
              have bP := Blk.new W8 63 #[.slice (some ⟨gn, 0, none⟩) 13 cn]
              have dr9 := dr8.below hbB
              have bG9 := bG8.below hbB bG8.lt
              have bF9 := bF8.below hbB bF8.lt
              have hBn9 := hBn8.below hbB hBn8.lt
              have hNn9 := hNn8.keep (Kept.of_below hbB nowhere) (fun h => h)
              have hhsl : hs.length ≤ 100000 := by have := dr9.hlen; omega
              clear hbB dr8 bG8 bF8 hBn8 hNn8
              go_upto_region 26 with (at_builtin; refine wpList_head rfl _ _ rfl rfl dr9.hrow (.slice (some ⟨gn, 0, none⟩) 13 cn) rfl W8.heap.size 1 rfl bP (by omega) dr9.bel.size ?_; intro v2 W10 ho10 hk10 hob10)
              have bG10 := hk10.blk bG9 (own_notblk dr9.hrow bG9 (by decide))
              have bF10 := hk10.blk bF9 (own_notblk dr9.hrow bF9 (by decide))
              have dr10 := dr9.head ho10 hk10 hob10 hBn9 hNn9
              clear dr9 bP bG9 bF9 hBn9 hNn9 ho10 hk10 hob10 x0
              have hEBn : ∀ x ∈ L ++ [{ e with kind := 4, link := xl.path, data := [] }], EB x := fun x hx => by
                rw [List.mem_append, List.mem_singleton] at hx
                rcases hx with hx | rfl
                · exact hEB x hx
                · exact hEB4
              have hLn : (L ++ [{ e with kind := 4, link := xl.path, data := [] }]).length = L.length + 1 := by simp
              have hck := rchkall_any (L ++ [{ e with kind := 4, link := xl.path, data := [] }]) v' nowhere W10 dr10.eo.sl ⟨by omega, hEBn⟩
              have HR3 := Lib.hid (HR2.out.trans (if_neg (by rw [HS4.out]; simp)))
              rw [HS4.out] at HR3
              clear HR2 HS4
              generalize hLE : L ++ [{ e with kind := 4, link := xl.path, data := [] }] = LN at dr10 hEBn hck HR3 hLn
              obtain ⟨cx, HCX⟩ : ∃ c, Hid ((chkL LN).2 = c) := ⟨_, Lib.hid rfl⟩
              have HR4 : Hid (R = if (chkL LN).2 ≠ 0 then ([], (p : Int), (chkL LN).2) else runD b n (heads ++ [ns]) LN nx) := HR3
              clear HR3
              rw [HCX.out] at hck HR4
              generalize (chkL LN).1 = ci at hck
              go_upto_region 27 with (go_at_call 15; refine hck.mono ?_; rintro r W11 ⟨rfl, hb11⟩; clear hck)
              have dr11 := dr10.below hb11
              have bG11 := bG10.below hb11 bG10.lt
              have bF11 := bF10.below hb11 bF10.lt
              clear dr10 bG10 bF10 hb11
              have x3 := bG11.cell 3
              simp at x3
              by_cases hcx : cx = 0
              rotate_left
              · have hcb : (cx != 0) = true := by simpa using hcx
                have HV := Lib.hid (HR4.out.trans (if_pos hcx))
                have hbb := dr11.bel
                clear HR4 hcx dr11 x3
                have y0 := bF11.cell 0
                have y1 := bF11.cell 1
                have y2 := bF11.cell 2
                simp at y0 y1 y2
                have g0 := bF11.frozen 0
                have g1 := bF11.frozen 1
                have g2 := bF11.frozen 2
                go_wp2_with fail
                have K := blk_set3 bF11 (.string ⟨#[]⟩) (.int .i64 (p : Int)) (.int .i64 cx)
                have hq := ((hbb.setCell (p := ⟨gF, 0, none⟩) hgF (.string ⟨#[]⟩)).setCell (p := ⟨gF, 1, none⟩) hgF (.int .i64 (p : Int))).setCell (p := ⟨gF, 2, none⟩) hgF (.int .i64 cx)
                clear y0 y1 y2 g0 g1 g2
                generalize ((W11.setCell ⟨gF, 0, none⟩ (.string ⟨#[]⟩)).setCell ⟨gF, 1, none⟩ (.int .i64 (p : Int))).setCell ⟨gF, 2, none⟩ (.int .i64 cx) = W9 at K hq ⊢
                have k0 := K.cell 0
                have k1 := K.cell 1
                have k2 := K.cell 2
                simp at k0 k1 k2
                refine bodyPost_ret (v := .tuple #[.slice none 0 0, .agg #[.string ⟨#[]⟩, .int .i64 (p : Int), .int .i64 cx]]) ?_ ?_ ?_
                · simp [results, Tryd.results13, go_sem, k0, k1, k2]
                · rfl
                exact ⟨⟨.slice none 0 0, fun _ => undef, by rw [HV.out], by rw [HV.out]; exact EO.nil _ _ _⟩, hq⟩
              have hcb : (cx != 0) = false := by simpa using hcx
              have HV := Lib.hid (HR4.out.trans (if_neg (fun h => h hcx)))
              clear HR4 hcx HCX
              go_wp2_with fail
              go_roundg n
              case measure => omega
              case rel => exact ⟨n, nx, LN, _, _, heads ++ [ns], rfl, rfl, dr11, bF11, hn2, by omega, by omega, by simp only [List.length_append, List.length_singleton]; omega, hEBn, by rw [HV.out]; exact Lib.hid rfl⟩
            · have hxn : 0 < xl.data.length := List.length_pos_iff.2 hx0
              have hxn0 : ¬ xl.data.length = 0 := by omega
              have hxp : decide ((0 : Int) < (xl.data.length : Int)) = true := decide_eq_true (by omega)
              have hxpb : decide (0 < xl.data.length) = true := decide_eq_true (by omega)
              clear hx0 hd0
              go_upto_region 21 with fail
              clear hdn hdp hdpb hxn hxn0 hxp hxpb
              clear q0 q1 q2 q3 q4 q5 q6 q7 q8 q9 a0 a1 a2 a3 a4 a5 a6 a7 a8 a9 hsl7
              obtain ⟨q0, q1, q2, q3, q4, q5, q6, q7, q8, q9⟩ := bE7.cells10
              obtain ⟨a0, a1, a2, a3, a4, a5, a6, a7, a8, a9⟩ := bX.cells10
              have f1 := bE7.frozen 1
              have f8 := bE7.frozen 8
              have f9 := bE7.frozen 9
              go_upto_region 24 with fail
              have p1 := dr7.poke bE7 hgEH (.inr hlvE) (by decide) (by decide) (no10 _ _ _ _ _ _ _ _ _ _ _ _) 1 (.int .i64 4)
              have b1 : Blk (W7.setCell ⟨gE, 1, none⟩ (.int .i64 4)) gE tE #[.string (bs e.path), .int .i64 4, .int .i64 e.mode, .int .i64 e.uid, .int .i64 e.gid, .string (bs e.owner), .string (bs e.group), .int .i64 e.mtime, .string (bs e.link), .slice Ad e.data.length cd] := bE7.set (u := .int .i64 4) 1
              have p2 := p1.poke b1 hgEH (.inr hlvE) (by decide) (by decide) (no10 _ _ _ _ _ _ _ _ _ _ _ _) 8 (.string (bs xl.path))
              have b2 : Blk ((W7.setCell ⟨gE, 1, none⟩ (.int .i64 4)).setCell ⟨gE, 8, none⟩ (.string (bs xl.path))) gE tE #[.string (bs e.path), .int .i64 4, .int .i64 e.mode, .int .i64 e.uid, .int .i64 e.gid, .string (bs e.owner), .string (bs e.group), .int .i64 e.mtime, .string (bs xl.path), .slice Ad e.data.length cd] := b1.set (u := .string (bs xl.path)) 8
              have p3 := p2.poke b2 hgEH (.inr hlvE) (by decide) (by decide) (no10 _ _ _ _ _ _ _ _ _ _ _ _) 9 (.slice none 0 0)
              have b3 : Blk (((W7.setCell ⟨gE, 1, none⟩ (.int .i64 4)).setCell ⟨gE, 8, none⟩ (.string (bs xl.path))).setCell ⟨gE, 9, none⟩ (.slice none 0 0)) gE tE #[.string (bs e.path), .int .i64 4, .int .i64 e.mode, .int .i64 e.uid, .int .i64 e.gid, .string (bs e.owner), .string (bs e.group), .int .i64 e.mtime, .string (bs xl.path), .slice none 0 0] := b2.set (u := .slice none 0 0) 9
              have hk3 : Kept (fun k => k = gE) W7 (((W7.setCell ⟨gE, 1, none⟩ (.int .i64 4)).setCell ⟨gE, 8, none⟩ (.string (bs xl.path))).setCell ⟨gE, 9, none⟩ (.slice none 0 0)) := (((Kept.refl (fun k => k = gE) W7).setCell (p := ⟨gE, 1, none⟩) _ fun _ => rfl).setCell (p := ⟨gE, 8, none⟩) _ fun _ => rfl).setCell (p := ⟨gE, 9, none⟩) _ fun _ => rfl
              have bG9 := hk3.blk bG7 (Blk.apartT bG7 bE7 (by decide))
              have bF9 := hk3.blk bF7 (Blk.apartT bF7 bE7 (by decide))
              have hBn9 := hk3.blk hBn7 (Blk.apartT hBn7 bE7 (by decide))
              have hNn9 := hNn7.keep hk3 (Blk.apartT hBn7 bE7 (by decide))
              clear p1 p2 b1 b2 hk3 dr7 bG7 bF7 bE7 bX hBn7 hNn7 f1 f8 f9 q0 q1 q2 q3 q4 q5 q6 q7 q8 q9 a0 a1 a2 a3 a4 a5 a6 a7 a8 a9
              generalize ((W7.setCell ⟨gE, 1, none⟩ (.int .i64 4)).setCell ⟨gE, 8, none⟩ (.string (bs xl.path))).setCell ⟨gE, 9, none⟩ (.slice none 0 0) = WL at p3 b3 bG9 bF9 hBn9 hNn9 ⊢
              have x0 := bG9.cell 0
              simp at x0
              obtain ⟨q0, q1, q2, q3, q4, q5, q6, q7, q8, q9⟩ := b3.cells10
              have hslX : Sl 1 Rbyte (DX (.slice (some ⟨g, 0, none⟩) L.length cl) (.slice Ah hs.length ch)) WL (.slice none 0 0) [] := Sl.nil _ _ _ _
              have hEB4 : EB { e with kind := 4, link := xl.path, data := [] } := ⟨hEBe.1, hEBe.2.1, hEBe.2.2.1, hEBx.1⟩
              have HS4 := Lib.hid HS6.out
              clear HS6
              have hbA : Below WL.heap.size WL (WL.alloc (.cells #[.string (bs e.path), .int .i64 4, .int .i64 e.mode, .int .i64 e.uid, .int .i64 e.gid, .string (bs e.owner), .string (bs e.group), .int .i64 e.mtime, .string (bs xl.path), .slice none 0 0] tE)) := (Below.refl _ WL).alloc (Nat.le_refl _) _
              have drA := p3.below hbA
              have bS := Blk.new WL tE #[.string (bs e.path), .int .i64 4, .int .i64 e.mode, .int .i64 e.uid, .int .i64 e.gid, .string (bs e.owner), .string (bs e.group), .int .i64 e.mtime, .string (bs xl.path), .slice none 0 0]
              have bGA := bG9.below hbA bG9.lt
              have bFA := bF9.below hbA bF9.lt
              have hBnA := hBn9.below hbA hBn9.lt
              have hNnA := hNn9.keep (Kept.of_below hbA nowhere) (fun h => h)
              have hslA := Below.sl good_byte hbA hslX
              clear hbA p3 bG9 bF9 hBn9 hNn9 hslX
              go_upto_region 25 with (at_builtin; refine wpList_appendEO (v := .slice (some ⟨g, 0, none⟩) L.length cl) (L := L) (f := f) (M := [{ e with kind := 4, link := xl.path, data := [] }]) (g := fun _ => .slice none 0 0) rfl _ _ rfl rfl drA.eo rfl (fun h => by cases h) (fun _ => ⟨⟨WL.heap.size, 0, none⟩, rfl, fun j u hu => by have hu2 : (entC ({ e with kind := 4, link := xl.path, data := [] }) (.slice none 0 0))[j]? = some u := (by simpa [ofC] using hu); rw [Addr.add_lit, Nat.zero_add, bS.cell]; show (List.toArray _)[j]? = _; rw [List.getElem?_toArray]; exact hu2⟩) (fun j hj => by have hj0 : j = 0 := (by simp at hj; exact hj); subst hj0; exact hslA.mono good_byte (by omega) fun k _ e => .inl e) (by simp; omega) drA.bel.size ?_; intro v' W8 hE8 hk8 hob8; have bG8 := hk8.blk bGA (own_notblk drA.row bGA (by decide)); have x0 := bG8.cell 0; simp at x0)
              have bF8 := hk8.blk bFA (own_notblk drA.row bFA (by decide))
              have hBn8 := hk8.blk hBnA (own_notblk drA.row hBnA (by decide))
              have hNn8 := hNnA.keep hk8 (own_notblk drA.row hBnA (by decide))
              have dr8 := drA.app hE8 hk8 hob8 hslA
              clear drA bS bGA bFA hBnA hNnA hslA hE8 hk8 hob8
              have hbB : Below W8.heap.size W8 (W8.alloc (.cells #[.slice (some ⟨gn, 0, none⟩) 13 cn] 63)) := (Below.refl _ W8).alloc (Nat.le_refl _) _
              have bP := Blk.new W8 63 #[.slice (some ⟨gn, 0, none⟩) 13 cn]
              have dr9 := dr8.below hbB
              have bG9 := bG8.below hbB bG8.lt
              have bF9 := bF8.below hbB bF8.lt
              have hBn9 := hBn8.below hbB hBn8.lt
              have hNn9 := hNn8.keep (Kept.of_below hbB nowhere) (fun h => h)
              have hhsl : hs.length ≤ 100000 := by have := dr9.hlen; omega
              clear hbB dr8 bG8 bF8 hBn8 hNn8
              go_upto_region 26 with (at_builtin; refine wpList_head rfl _ _ rfl rfl dr9.hrow (.slice (some ⟨gn, 0, none⟩) 13 cn) rfl W8.heap.size 1 rfl bP (by omega) dr9.bel.size ?_; intro v2 W10 ho10 hk10 hob10)
              have bG10 := hk10.blk bG9 (own_notblk dr9.hrow bG9 (by decide))
              have bF10 := hk10.blk bF9 (own_notblk dr9.hrow bF9 (by decide))
              have dr10 := dr9.head ho10 hk10 hob10 hBn9 hNn9
              clear dr9 bP bG9 bF9 hBn9 hNn9 ho10 hk10 hob10 x0
              have hEBn : ∀ x ∈ L ++ [{ e with kind := 4, link := xl.path, data := [] }], EB x := fun x hx => by
                rw [List.mem_append, List.mem_singleton] at hx
                rcases hx with hx | rfl
                · exact hEB x hx
                · exact hEB4
              have hLn : (L ++ [{ e with kind := 4, link := xl.path, data := [] }]).length = L.length + 1 := by simp
              have hck := rchkall_any (L ++ [{ e with kind := 4, link := xl.path, data := [] }]) v' nowhere W10 dr10.eo.sl ⟨by omega, hEBn⟩
              have HR3 := Lib.hid (HR2.out.trans (if_neg (by rw [HS4.out]; simp)))
              rw [HS4.out] at HR3
              clear HR2 HS4
              generalize hLE : L ++ [{ e with kind := 4, link := xl.path, data := [] }] = LN at dr10 hEBn hck HR3 hLn
              obtain ⟨cx, HCX⟩ : ∃ c, Hid ((chkL LN).2 = c) := ⟨_, Lib.hid rfl⟩
              have HR4 : Hid (R = if (chkL LN).2 ≠ 0 then ([], (p : Int), (chkL LN).2) else runD b n (heads ++ [ns]) LN nx) := HR3
              clear HR3
              rw [HCX.out] at hck HR4
              generalize (chkL LN).1 = ci at hck
              go_upto_region 27 with (go_at_call 15; refine hck.mono ?_; rintro r W11 ⟨rfl, hb11⟩; clear hck)
              have dr11 := dr10.below hb11
              have bG11 := bG10.below hb11 bG10.lt
              have bF11 := bF10.below hb11 bF10.lt
              clear dr10 bG10 bF10 hb11
              have x3 := bG11.cell 3
              simp at x3
              by_cases hcx : cx = 0
              rotate_left
              · have hcb : (cx != 0) = true := by simpa using hcx
                have HV := Lib.hid (HR4.out.trans (if_pos hcx))
                have hbb := dr11.bel
                clear HR4 hcx dr11 x3
                have y0 := bF11.cell 0
                have y1 := bF11.cell 1
                have y2 := bF11.cell 2
                simp at y0 y1 y2
                have g0 := bF11.frozen 0
                have g1 := bF11.frozen 1
                have g2 := bF11.frozen 2
                go_wp2_with fail
                have K := blk_set3 bF11 (.string ⟨#[]⟩) (.int .i64 (p : Int)) (.int .i64 cx)
                have hq := ((hbb.setCell (p := ⟨gF, 0, none⟩) hgF (.string ⟨#[]⟩)).setCell (p := ⟨gF, 1, none⟩) hgF (.int .i64 (p : Int))).setCell (p := ⟨gF, 2, none⟩) hgF (.int .i64 cx)
                clear y0 y1 y2 g0 g1 g2
                generalize ((W11.setCell ⟨gF, 0, none⟩ (.string ⟨#[]⟩)).setCell ⟨gF, 1, none⟩ (.int .i64 (p : Int))).setCell ⟨gF, 2, none⟩ (.int .i64 cx) = W9 at K hq ⊢
                have k0 := K.cell 0
                have k1 := K.cell 1
                have k2 := K.cell 2
                simp at k0 k1 k2
                refine bodyPost_ret (v := .tuple #[.slice none 0 0, .agg #[.string ⟨#[]⟩, .int .i64 (p : Int), .int .i64 cx]]) ?_ ?_ ?_
                · simp [results, Tryd.results13, go_sem, k0, k1, k2]
                · rfl
                exact ⟨⟨.slice none 0 0, fun _ => undef, by rw [HV.out], by rw [HV.out]; exact EO.nil _ _ _⟩, hq⟩
              have hcb : (cx != 0) = false := by simpa using hcx
              have HV := Lib.hid (HR4.out.trans (if_neg (fun h => h hcx)))
              clear HR4 hcx HCX
              go_wp2_with fail
              go_roundg n
              case measure => omega
              case rel => exact ⟨n, nx, LN, _, _, heads ++ [ns], rfl, rfl, dr11, bF11, hn2, by omega, by omega, by simp only [List.length_append, List.length_singleton]; omega, hEBn, by rw [HV.out]; exact Lib.hid rfl⟩
          · have hdn : 0 < e.data.length := List.length_pos_iff.2 hd0
            have hdn0 : ¬ e.data.length = 0 := by omega
            have hdp : decide ((0 : Int) < (e.data.length : Int)) = true := decide_eq_true (by omega)
            have hdpb : decide (0 < e.data.length) = true := decide_eq_true (by omega)
            by_cases hx0 : xl.data = []
            rotate_left
            · have hxn : 0 < xl.data.length := List.length_pos_iff.2 hx0
              have hxn0 : ¬ xl.data.length = 0 := by omega
              have hxp : decide ((0 : Int) < (xl.data.length : Int)) = true := decide_eq_true (by omega)
              have hxpb : decide (0 < xl.data.length) = true := decide_eq_true (by omega)
              have HS6 := Lib.hid (HS5.out.trans (if_pos ⟨hd0, hx0⟩))
              have HV := Lib.hid (HR2.out.trans (if_pos (by rw [HS6.out]; show (3 : Int) ≠ 0; decide)))
              rw [HS6.out] at HV
              have hbb := dr7.bel
              clear HS5 HS6 HR2 hx0 hd0 dr7
              have y0 := bF7.cell 0
              have y1 := bF7.cell 1
              have y2 := bF7.cell 2
              simp at y0 y1 y2
              have g0 := bF7.frozen 0
              have g1 := bF7.frozen 1
              have g2 := bF7.frozen 2
              go_wp2_with fail
              have K := blk_set3 bF7 (.string ⟨#[]⟩) (.int .i64 (p : Int)) (.int .i64 3)
              have hq := ((hbb.setCell (p := ⟨gF, 0, none⟩) hgF (.string ⟨#[]⟩)).setCell (p := ⟨gF, 1, none⟩) hgF (.int .i64 (p : Int))).setCell (p := ⟨gF, 2, none⟩) hgF (.int .i64 3)
              clear y0 y1 y2 g0 g1 g2
              generalize ((W7.setCell ⟨gF, 0, none⟩ (.string ⟨#[]⟩)).setCell ⟨gF, 1, none⟩ (.int .i64 (p : Int))).setCell ⟨gF, 2, none⟩ (.int .i64 3) = W9 at K hq ⊢
              have k0 := K.cell 0
              have k1 := K.cell 1
              have k2 := K.cell 2
              simp at k0 k1 k2
              refine bodyPost_ret (v := .tuple #[.slice none 0 0, .agg #[.string ⟨#[]⟩, .int .i64 (p : Int), .int .i64 3]]) ?_ ?_ ?_
              · simp [results, Tryd.results13, go_sem, k0, k1, k2]
              · rfl
              exact ⟨⟨.slice none 0 0, fun _ => undef, by rw [HV.out], by rw [HV.out]; exact EO.nil _ _ _⟩, hq⟩
            have hxn : xl.data.length = 0 := by rw [hx0]; rfl
            have hxp : decide ((0 : Int) < (xl.data.length : Int)) = false := decide_eq_false (by omega)
            have hxpb : decide (0 < xl.data.length) = false := decide_eq_false (by omega)
            have HS6 := Lib.hid (HS5.out.trans (if_neg (fun h => h.2 hx0)))
            rw [if_neg hd0] at HS6
            clear HS5 hx0
            have j1 : (0 : Int) ≤ (i : Int) := by omega
            have j2 : (i : Int) < (L.length : Int) := by omega
            have hro : W7.cell? ⟨g, i * 10 + 9, none⟩ = some (f i) := (dr7.eo.cell i hi).c9
            have hfz : W7.frozen? ⟨g, i * 10 + 9, none⟩ = false := by
              have := dr7.eo.sl.free (i * 10 + 9) (by omega)
              simpa using this
            have hslX0 := hsl7.mono (Y := DX (.slice (some ⟨g, 0, none⟩) L.length cl) (.slice Ah hs.length ch)) good_byte (by omega) fun _ _ h => .inl h
            have drD := dr7.data rfl i hi (.slice Ad e.data.length cd) e.data hslX0
            rw [HXL.out] at drD
            have hkD : Kept (fun k => k = g) W7 (W7.setCell ⟨g, i * 10 + 9, none⟩ (.slice Ad e.data.length cd)) := (Kept.refl _ W7).setCell (p := ⟨g, i * 10 + 9, none⟩) _ fun _ => rfl
            have hgG : g ≠ gG := fun e1 => own_notblk dr7.row bG7 (by decide) (by rw [e1]; rfl)
            have hgF2 : g ≠ gF := fun e1 => own_notblk dr7.row bF7 (by decide) (by rw [e1]; rfl)
            have hgn : g ≠ gn := fun e1 => own_notblk dr7.row hBn7 (by decide) (by rw [e1]; rfl)
            have hgx : g ≠ gX := hgXg
            go_upto_region 21 with fail
            clear hdn hdn0 hdp hdpb hxn hxp hxpb hro hfz j1 j2 hd0 hslX0
            have bG8 := hkD.blk bG7 (fun e1 => hgG e1.symm)
            have bF8 := hkD.blk bF7 (fun e1 => hgF2 e1.symm)
            have bE8 := hkD.blk bE7 (fun e1 => hgW e1.symm)
            have bX8 := hkD.blk bX (fun e1 => hgx e1.symm)
            have hBn8 := hkD.blk hBn7 (fun e1 => hgn e1.symm)
            have hNn8 := hNn7.keep hkD (fun e1 => hgn e1.symm)
            clear dr7 bG7 bF7 bE7 bX hBn7 hNn7 hsl7 hkD hgG hgF2 hgn hgx q0 q1 q2 q3 q4 q5 q6 q7 q8 q9 a0 a1 a2 a3 a4 a5 a6 a7 a8 a9
            generalize W7.setCell ⟨g, i * 10 + 9, none⟩ (.slice Ad e.data.length cd) = W8 at drD bG8 bF8 bE8 bX8 hBn8 hNn8 ⊢
            have hLT : (L.set i { xl with data := e.data }).length = L.length := List.length_set
            have hEBT : ∀ x ∈ L.set i { xl with data := e.data }, EB x := fun x hx => by
              rcases List.mem_or_eq_of_mem_set hx with hx | rfl
              · exact hEB x hx
              · exact hEBx
            generalize hTT : L.set i { xl with data := e.data } = LT at drD HS6 hLT hEBT
            generalize upd f i (.slice Ad e.data.length cd) = fT at drD
            obtain ⟨q0, q1, q2, q3, q4, q5, q6, q7, q8, q9⟩ := bE8.cells10
            obtain ⟨a0, a1, a2, a3, a4, a5, a6, a7, a8, a9⟩ := bX8.cells10
            have f1 := bE8.frozen 1
            have f8 := bE8.frozen 8
            have f9 := bE8.frozen 9
            go_upto_region 24 with fail
            have p1 := drD.poke bE8 hgEH (.inr hlvE) (by decide) (by decide) (no10 _ _ _ _ _ _ _ _ _ _ _ _) 1 (.int .i64 4)
            have b1 : Blk (W8.setCell ⟨gE, 1, none⟩ (.int .i64 4)) gE tE #[.string (bs e.path), .int .i64 4, .int .i64 e.mode, .int .i64 e.uid, .int .i64 e.gid, .string (bs e.owner), .string (bs e.group), .int .i64 e.mtime, .string (bs e.link), .slice Ad e.data.length cd] := bE8.set (u := .int .i64 4) 1
            have p2 := p1.poke b1 hgEH (.inr hlvE) (by decide) (by decide) (no10 _ _ _ _ _ _ _ _ _ _ _ _) 8 (.string (bs xl.path))
            have b2 : Blk ((W8.setCell ⟨gE, 1, none⟩ (.int .i64 4)).setCell ⟨gE, 8, none⟩ (.string (bs xl.path))) gE tE #[.string (bs e.path), .int .i64 4, .int .i64 e.mode, .int .i64 e.uid, .int .i64 e.gid, .string (bs e.owner), .string (bs e.group), .int .i64 e.mtime, .string (bs xl.path), .slice Ad e.data.length cd] := b1.set (u := .string (bs xl.path)) 8
            have p3 := p2.poke b2 hgEH (.inr hlvE) (by decide) (by decide) (no10 _ _ _ _ _ _ _ _ _ _ _ _) 9 (.slice none 0 0)
            have b3 : Blk (((W8.setCell ⟨gE, 1, none⟩ (.int .i64 4)).setCell ⟨gE, 8, none⟩ (.string (bs xl.path))).setCell ⟨gE, 9, none⟩ (.slice none 0 0)) gE tE #[.string (bs e.path), .int .i64 4, .int .i64 e.mode, .int .i64 e.uid, .int .i64 e.gid, .string (bs e.owner), .string (bs e.group), .int .i64 e.mtime, .string (bs xl.path), .slice none 0 0] := b2.set (u := .slice none 0 0) 9
            have hk3 : Kept (fun k => k = gE) W8 (((W8.setCell ⟨gE, 1, none⟩ (.int .i64 4)).setCell ⟨gE, 8, none⟩ (.string (bs xl.path))).setCell ⟨gE, 9, none⟩ (.slice none 0 0)) := (((Kept.refl (fun k => k = gE) W8).setCell (p := ⟨gE, 1, none⟩) _ fun _ => rfl).setCell (p := ⟨gE, 8, none⟩) _ fun _ => rfl).setCell (p := ⟨gE, 9, none⟩) _ fun _ => rfl
            have bG9 := hk3.blk bG8 (Blk.apartT bG8 bE8 (by decide))
            have bF9 := hk3.blk bF8 (Blk.apartT bF8 bE8 (by decide))
            have hBn9 := hk3.blk hBn8 (Blk.apartT hBn8 bE8 (by decide))
            have hNn9 := hNn8.keep hk3 (Blk.apartT hBn8 bE8 (by decide))
            clear p1 p2 b1 b2 hk3 drD bG8 bF8 bE8 bX8 hBn8 hNn8 f1 f8 f9 q0 q1 q2 q3 q4 q5 q6 q7 q8 q9 a0 a1 a2 a3 a4 a5 a6 a7 a8 a9
            generalize ((W8.setCell ⟨gE, 1, none⟩ (.int .i64 4)).setCell ⟨gE, 8, none⟩ (.string (bs xl.path))).setCell ⟨gE, 9, none⟩ (.slice none 0 0) = WL at p3 b3 bG9 bF9 hBn9 hNn9 ⊢
            have x0 := bG9.cell 0
            simp at x0
            obtain ⟨q0, q1, q2, q3, q4, q5, q6, q7, q8, q9⟩ := b3.cells10
            have hslX : Sl 1 Rbyte (DX (.slice (some ⟨g, 0, none⟩) L.length cl) (.slice Ah hs.length ch)) WL (.slice none 0 0) [] := Sl.nil _ _ _ _
            have hEB4 : EB { e with kind := 4, link := xl.path, data := [] } := ⟨hEBe.1, hEBe.2.1, hEBe.2.2.1, hEBx.1⟩
            have HS4 := Lib.hid HS6.out
            clear HS6
            have hbA : Below WL.heap.size WL (WL.alloc (.cells #[.string (bs e.path), .int .i64 4, .int .i64 e.mode, .int .i64 e.uid, .int .i64 e.gid, .string (bs e.owner), .string (bs e.group), .int .i64 e.mtime, .string (bs xl.path), .slice none 0 0] tE)) := (Below.refl _ WL).alloc (Nat.le_refl _) _
            have drA := p3.below hbA
            have bS := Blk.new WL tE #[.string (bs e.path), .int .i64 4, .int .i64 e.mode, .int .i64 e.uid, .int .i64 e.gid, .string (bs e.owner), .string (bs e.group), .int .i64 e.mtime, .string (bs xl.path), .slice none 0 0]
            have bGA := bG9.below hbA bG9.lt
            have bFA := bF9.below hbA bF9.lt
            have hBnA := hBn9.below hbA hBn9.lt
            have hNnA := hNn9.keep (Kept.of_below hbA nowhere) (fun h => h)
            have hslA := Below.sl good_byte hbA hslX
            clear hbA p3 bG9 bF9 hBn9 hNn9 hslX
            go_upto_region 25 with (at_builtin; refine wpList_appendEO (v := .slice (some ⟨g, 0, none⟩) L.length cl) (L := LT) (f := fT) (M := [{ e with kind := 4, link := xl.path, data := [] }]) (g := fun _ => .slice none 0 0) rfl _ _ rfl rfl drA.eo rfl (fun h => by cases h) (fun _ => ⟨⟨WL.heap.size, 0, none⟩, rfl, fun j u hu => by have hu2 : (entC ({ e with kind := 4, link := xl.path, data := [] }) (.slice none 0 0))[j]? = some u := (by simpa [ofC] using hu); rw [Addr.add_lit, Nat.zero_add, bS.cell]; show (List.toArray _)[j]? = _; rw [List.getElem?_toArray]; exact hu2⟩) (fun j hj => by have hj0 : j = 0 := (by simp at hj; exact hj); subst hj0; exact hslA.mono good_byte (by omega) fun k _ e => .inl e) (by simp; omega) drA.bel.size ?_; intro v' W8 hE8 hk8 hob8; have bG8 := hk8.blk bGA (own_notblk drA.row bGA (by decide)); have x0 := bG8.cell 0; simp at x0)
            have bF8 := hk8.blk bFA (own_notblk drA.row bFA (by decide))
            have hBn8 := hk8.blk hBnA (own_notblk drA.row hBnA (by decide))
            have hNn8 := hNnA.keep hk8 (own_notblk drA.row hBnA (by decide))
            have dr8 := drA.app hE8 hk8 hob8 hslA
            clear drA bS bGA bFA hBnA hNnA hslA hE8 hk8 hob8
            have hbB : Below W8.heap.size W8 (W8.alloc (.cells #[.slice (some ⟨gn, 0, none⟩) 13 cn] 63)) := (Below.refl _ W8).alloc (Nat.le_refl _) _
            have bP := Blk.new W8 63 #[.slice (some ⟨gn, 0, none⟩) 13 cn]
            have dr9 := dr8.below hbB
            have bG9 := bG8.below hbB bG8.lt
            have bF9 := bF8.below hbB bF8.lt
            have hBn9 := hBn8.below hbB hBn8.lt
            have hNn9 := hNn8.keep (Kept.of_below hbB nowhere) (fun h => h)
            have hhsl : hs.length ≤ 100000 := by have := dr9.hlen; omega
            clear hbB dr8 bG8 bF8 hBn8 hNn8
            go_upto_region 26 with (at_builtin; refine wpList_head rfl _ _ rfl rfl dr9.hrow (.slice (some ⟨gn, 0, none⟩) 13 cn) rfl W8.heap.size 1 rfl bP (by omega) dr9.bel.size ?_; intro v2 W10 ho10 hk10 hob10)
            have bG10 := hk10.blk bG9 (own_notblk dr9.hrow bG9 (by decide))
            have bF10 := hk10.blk bF9 (own_notblk dr9.hrow bF9 (by decide))
            have dr10 := dr9.head ho10 hk10 hob10 hBn9 hNn9
            clear dr9 bP bG9 bF9 hBn9 hNn9 ho10 hk10 hob10 x0
            have hEBn : ∀ x ∈ LT ++ [{ e with kind := 4, link := xl.path, data := [] }], EB x := fun x hx => by
              rw [List.mem_append, List.mem_singleton] at hx
              rcases hx with hx | rfl
              · exact hEBT x hx
              · exact hEB4
            have hLn : (LT ++ [{ e with kind := 4, link := xl.path, data := [] }]).length = L.length + 1 := by simp [hLT]
            have hck := rchkall_any (LT ++ [{ e with kind := 4, link := xl.path, data := [] }]) v' nowhere W10 dr10.eo.sl ⟨by omega, hEBn⟩
            have HR3 := Lib.hid (HR2.out.trans (if_neg (by rw [HS4.out]; simp)))
            rw [HS4.out] at HR3
            clear HR2 HS4
            generalize hLE : LT ++ [{ e with kind := 4, link := xl.path, data := [] }] = LN at dr10 hEBn hck HR3 hLn
            obtain ⟨cx, HCX⟩ : ∃ c, Hid ((chkL LN).2 = c) := ⟨_, Lib.hid rfl⟩
            have HR4 : Hid (R = if (chkL LN).2 ≠ 0 then ([], (p : Int), (chkL LN).2) else runD b n (heads ++ [ns]) LN nx) := HR3
            clear HR3
            rw [HCX.out] at hck HR4
            generalize (chkL LN).1 = ci at hck
            go_upto_region 27 with (go_at_call 15; refine hck.mono ?_; rintro r W11 ⟨rfl, hb11⟩; clear hck)
            have dr11 := dr10.below hb11
            have bG11 := bG10.below hb11 bG10.lt
            have bF11 := bF10.below hb11 bF10.lt
            clear dr10 bG10 bF10 hb11
            have x3 := bG11.cell 3
            simp at x3
            by_cases hcx : cx = 0
            rotate_left
            · have hcb : (cx != 0) = true := by simpa using hcx
              have HV := Lib.hid (HR4.out.trans (if_pos hcx))
              have hbb := dr11.bel
              clear HR4 hcx dr11 x3
              have y0 := bF11.cell 0
              have y1 := bF11.cell 1
              have y2 := bF11.cell 2
              simp at y0 y1 y2
              have g0 := bF11.frozen 0
              have g1 := bF11.frozen 1
              have g2 := bF11.frozen 2
              go_wp2_with fail
              have K := blk_set3 bF11 (.string ⟨#[]⟩) (.int .i64 (p : Int)) (.int .i64 cx)
              have hq := ((hbb.setCell (p := ⟨gF, 0, none⟩) hgF (.string ⟨#[]⟩)).setCell (p := ⟨gF, 1, none⟩) hgF (.int .i64 (p : Int))).setCell (p := ⟨gF, 2, none⟩) hgF (.int .i64 cx)
              clear y0 y1 y2 g0 g1 g2
              generalize ((W11.setCell ⟨gF, 0, none⟩ (.string ⟨#[]⟩)).setCell ⟨gF, 1, none⟩ (.int .i64 (p : Int))).setCell ⟨gF, 2, none⟩ (.int .i64 cx) = W9 at K hq ⊢
              have k0 := K.cell 0
              have k1 := K.cell 1
              have k2 := K.cell 2
              simp at k0 k1 k2
              refine bodyPost_ret (v := .tuple #[.slice none 0 0, .agg #[.string ⟨#[]⟩, .int .i64 (p : Int), .int .i64 cx]]) ?_ ?_ ?_
              · simp [results, Tryd.results13, go_sem, k0, k1, k2]
              · rfl
              exact ⟨⟨.slice none 0 0, fun _ => undef, by rw [HV.out], by rw [HV.out]; exact EO.nil _ _ _⟩, hq⟩
            have hcb : (cx != 0) = false := by simpa using hcx
            have HV := Lib.hid (HR4.out.trans (if_neg (fun h => h hcx)))
            clear HR4 hcx HCX
            go_wp2_with fail
            go_roundg n
            case measure => omega
            case rel => exact ⟨n, nx, LN, _, _, heads ++ [ns], rfl, rfl, dr11, bF11, hn2, by omega, by omega, by simp only [List.length_append, List.length_singleton]; omega, hEBn, by rw [HV.out]; exact Lib.hid rfl⟩
end Go.Proofs.YtolknddegfcmpaaDoor
