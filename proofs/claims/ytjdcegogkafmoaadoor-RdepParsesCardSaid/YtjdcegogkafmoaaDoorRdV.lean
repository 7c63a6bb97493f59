/- The walk of rdep.Depth. -/
import Derived.Test.YtjdcegogkafmoaaDoorRdU
namespace Go.Proofs.YtjdcegogkafmoaaDoor
open Go.RowKit
/-- What a slice's header in a list of lists reads as. -/
theorem lv_at {w0 W : World} {mb j n c : Nat} {X : Nat → Prop} {A : Option Addr} {L : List (List Rdp)} (h : Sl 1 (Rlv w0 mb j) X W (.slice A n c) L) (hn : 0 < n) :
    ∃ b off, A = some ⟨b, off, none⟩ ∧ ¬ X b ∧ ∀ k (hk : k < L.length), ∃ v, W.cell? ⟨b, off + k, none⟩ = some v ∧ Sk 5 (Rr j) (fun i => i = mb) w0 v L[k] := by
  obtain ⟨_, _, _, h4⟩ := h.at
  obtain ⟨b, off, e, hX, hc⟩ := h4 hn
  refine ⟨b, off, e, hX, fun k hk => ?_⟩
  obtain ⟨cs, hcs, v, rfl, hv⟩ := hc k hk
  refine ⟨v, ?_, hv⟩
  have := hcs 0 _ rfl
  simpa using this
theorem lv_none {w0 W : World} {mb : Nat} {X : Nat → Prop} {v : Value} {L : List (List Rdp)} (h : Sl 1 (Rlv w0 mb 0) X W v L) : L.flatten = [] := by
  obtain ⟨A, c, rfl, _⟩ := h.form
  rw [List.flatten_eq_nil_iff]
  intro l hl
  obtain ⟨k, hk, rfl⟩ := List.mem_iff_getElem.1 hl
  obtain ⟨_, _, _, _, hc⟩ := lv_at h (by omega)
  obtain ⟨v, _, hv⟩ := hc k hk
  exact hv.none rfl
theorem map_len {w : World} {b : Nat} {es : Array MapEntry} {c : Nat} (hb : w.heap[b]? = some (.map es c)) (ty : TypeId) : (Builtin.len_ #[58] ty #[.map (some b)]).run Tryd.prog w = .ok (.int .i64 (es.size : Int)) w := by
  have hm : Tryd.prog.underlying 58 = some (.map 62 3) := Tryd.underlying58
  simp [Builtin.len_, run_underlying hm, MapKept.run_getObj_map hb, goInt, Result.andThen]
theorem szRs_take : ∀ (k : Nat) (l : List Rdp), szRs (l.take k) ≤ szRs l
  | 0, l => by simp [szRs]
  | k + 1, [] => by simp
  | k + 1, d :: l => by
    have := szRs_take k l
    rw [List.take_succ_cons, szRs, szRs]; omega
theorem tot_take : ∀ (k : Nat) (L : List (List Rdp)), tot (L.take k) ≤ tot L
  | 0, l => by simp [tot]
  | k + 1, [] => by simp
  | k + 1, d :: l => by
    have := tot_take k l
    rw [List.take_succ_cons, tot, tot]; omega
theorem info_lst : (Tryd.prog.info? 25).map (fun i => (i.zero, i.size, i.bytes)) = some (some (.slice none 0 0), 1, 24) := by kernel_rfl
/-- The maps and lists that Depth begins with. -/
theorem depth_start (w : World) (d : Rdp) (A : Option Addr) (cap m : Nat) (X : Nat → Prop) (h : Sk 5 (Rr m) X w (.slice A d.kids.length cap) d.kids) :
    ∃ w0 mb gM, w0 = (((w.alloc (.cells #[.string (bs d.op), .string (bs d.name), .int .i64 d.aop, .string (bs d.ver), .slice A d.kids.length cap] 27)).alloc (.map #[] 0)).alloc (.cells #[.string (bs d.op), .string (bs d.name), .int .i64 d.aop, .string (bs d.ver), .slice A d.kids.length cap] 27)).alloc (.cells #[.slice (some ⟨w.heap.size + 1 + 1, 0, none⟩) 1 1] 25) ∧
      mb = w.heap.size + 1 ∧ gM = w.heap.size + 1 + 1 + 1 ∧ Below w.heap.size w w0 ∧ w.heap.size ≤ mb ∧ mb < w0.heap.size ∧ w0.heap[mb]? = some (.map #[] 0) ∧ Sl 1 (Rlv w0 mb (m + 1)) (fun k => w0.heap.size ≤ k ∨ k = mb) w0 (.slice (some ⟨gM, 0, none⟩) 1 1) [[d]] := by
  have s1 : (w.alloc (.cells #[.string (bs d.op), .string (bs d.name), .int .i64 d.aop, .string (bs d.ver), .slice A d.kids.length cap] 27)).heap.size = w.heap.size + 1 := by simp
  have b1 := (Below.refl w.heap.size w).alloc (Nat.le_refl _) (.cells #[.string (bs d.op), .string (bs d.name), .int .i64 d.aop, .string (bs d.ver), .slice A d.kids.length cap] 27)
  generalize w.alloc (.cells #[.string (bs d.op), .string (bs d.name), .int .i64 d.aop, .string (bs d.ver), .slice A d.kids.length cap] 27) = W1 at s1 b1 ⊢
  have s2 : (W1.alloc (.map #[] 0)).heap.size = w.heap.size + 1 + 1 := by simp [s1]
  have b2 := b1.alloc b1.size (.map #[] 0)
  have m2 : (W1.alloc (.map #[] 0)).heap[w.heap.size + 1]? = some (.map #[] 0) := by rw [← s1]; exact (MapKept.heap_alloc W1 _).1
  generalize W1.alloc (.map #[] 0) = W2 at s2 b2 m2 ⊢
  have bL := Blk.new W2 27 #[.string (bs d.op), .string (bs d.name), .int .i64 d.aop, .string (bs d.ver), .slice A d.kids.length cap]
  have s3 : (W2.alloc (.cells #[.string (bs d.op), .string (bs d.name), .int .i64 d.aop, .string (bs d.ver), .slice A d.kids.length cap] 27)).heap.size = w.heap.size + 1 + 1 + 1 := by simp [s2]
  have q3 := (Below.refl W2.heap.size W2).alloc (Nat.le_refl _) (.cells #[.string (bs d.op), .string (bs d.name), .int .i64 d.aop, .string (bs d.ver), .slice A d.kids.length cap] 27)
  have b3 := b2.trans (q3.mono b2.size)
  have m3 := (q3.block (w.heap.size + 1) (by omega)).trans m2
  rw [s2] at bL
  generalize W2.alloc (.cells #[.string (bs d.op), .string (bs d.name), .int .i64 d.aop, .string (bs d.ver), .slice A d.kids.length cap] 27) = W3 at bL s3 b3 m3 ⊢
  have bM := Blk.new W3 25 #[.slice (some ⟨w.heap.size + 1 + 1, 0, none⟩) 1 1]
  have q4 := (Below.refl W3.heap.size W3).alloc (Nat.le_refl _) (.cells #[.slice (some ⟨w.heap.size + 1 + 1, 0, none⟩) 1 1] 25)
  have b4 := b3.trans (q4.mono b3.size)
  have m4 := (q4.block (w.heap.size + 1) (by omega)).trans m3
  have bL4 := bL.below q4 bL.lt
  have s4 := q4.size
  have s5 : (W3.alloc (.cells #[.slice (some ⟨w.heap.size + 1 + 1, 0, none⟩) 1 1] 25)).heap.size = w.heap.size + 1 + 1 + 1 + 1 := by simp [s3]
  rw [s3] at bM
  refine ⟨_, _, _, rfl, rfl, rfl, b4, by omega, by omega, m4, ?_⟩
  generalize W3.alloc (.cells #[.slice (some ⟨w.heap.size + 1 + 1, 0, none⟩) 1 1] 25) = W4 at bM b4 m4 bL4 s4 s5 ⊢
  have hT : Sk 5 (Rr m) (fun k => k = w.heap.size + 1) W4 (.slice A d.kids.length cap) d.kids :=
    (h.mono (Y := fun k => k = w.heap.size + 1) (good_rich m) (by omega) fun k hk e => by omega).keep (good_rich m) (Kept.of_below b4 _)
  obtain ⟨c0, c1, c2, c3, c4⟩ := outs5 bL4
  have hL : Sk 5 (Rr (m + 1)) (fun k => k = w.heap.size + 1) W4 (.slice (some ⟨w.heap.size + 1 + 1, 0, none⟩) 1 1) [d] := by
    refine ⟨⟨_, 1, rfl, Nat.le_refl _, by decide, (fun e => by simp at e), fun _ => ⟨_, 0, rfl, by omega, fun j hj => ?_⟩, fun b off e i hi => ?_⟩, fun b off n c e hn => ?_⟩
    · have : j = 0 := by simpa using hj
      subst this
      refine ⟨richC d (.slice A d.kids.length cap), fun i u hu => ?_, _, rfl, hT⟩
      simp only [richC] at hu
      match i, hu with
      | 0, hu => injection hu with hu; subst hu; simpa using c0
      | 1, hu => injection hu with hu; subst hu; simpa using c1
      | 2, hu => injection hu with hu; subst hu; simpa using c2
      | 3, hu => injection hu with hu; subst hu; simpa using c3
      | 4, hu => injection hu with hu; subst hu; simpa using c4
    · injection e with e
      injection e with e1 e2
      subst e1 e2
      exact bL4.frozen _
    · injection e with e
      injection e with e
      injection e with e
      subst e
      exact ⟨_, _, bL4⟩
  refine ⟨_, 1, rfl, Nat.le_refl _, by decide, (fun e => by simp at e), fun _ => ⟨_, 0, rfl, by omega, fun j hj => ?_⟩, fun b off e i hi => ?_⟩
  · have : j = 0 := by simpa using hj
    subst this
    refine ⟨[.slice (some ⟨w.heap.size + 1 + 1, 0, none⟩) 1 1], fun i u hu => ?_, _, rfl, hL⟩
    match i, hu with
    | 0, hu => injection hu with hu; subst hu; have := bM.cell 0; simpa using this
  · injection e with e
    injection e with e1 e2
    subst e1 e2
    exact bM.frozen _
set_option maxRecDepth 20000 in
set_option maxHeartbeats 16000000 in
theorem depth_any (d : Rdp) (kv : Value) (X : Nat → Prop) (m : Nat) (w : World) (h : Sk 5 (Rr m) X w kv d.kids) (hm : m ≤ 1000) (hsz : szR d ≤ 1000000) :
    Calls Tryd.prog 12 #[richV d kv] w fun e w' => e = .returned (.int .i64 (dR d : Int)) ∧ Below w.heap.size w w' := by
  obtain ⟨A, cap, rfl, hc1, hc2⟩ := h.form
  unfold maxLen at hc2
  obtain ⟨w0, mb, gM, hw0, hmb, hgM, hB0, hmw, hmlt, hmm0, hlev⟩ := depth_start w d A cap m X h
  obtain ⟨T, HT⟩ : ∃ T, Hid (T = dR d) := ⟨_, Lib.hid rfl⟩
  rw [← HT.out]
  have hmm := @run_makeMap Tryd.prog
  simp only [richV, richC]
  go_enter Tryd.func12, Tryd.ntmps12
  go_upto_region 4 with fail
  rw [← hw0, ← hgM, ← hmb]
  have HSZ := Lib.hid hsz
  clear hw0 hgM hmb h hsz hc1 hc2
  go_wp2_with fail
  go_loopg [3, 5, 6] (m + 1) (fun G s3 s5 s6 wr => ∃ (j a D : Nat) (L : List (List Rdp)) (mk : List (Ky × Int)) (A5 : Option Addr) (c5 : Nat), j = G ∧ a + j = m + 1 ∧ s3 = .int .i64 (D : Int) ∧ s5 = .slice A5 L.length c5 ∧ s6 = .int .i64 (a : Int) ∧ Kept (fun k => k = mb) w0 wr ∧ Sl 1 (Rlv w0 mb j) (fun k => wr.heap.size ≤ k ∨ k = mb) wr (.slice A5 L.length c5) L ∧ (∃ mo, wr.heap[mb]? = some mo ∧ MapK mo mk) ∧ (∀ p ∈ mk, ∃ l, KG w0 mb p.1 l) ∧ (∀ l ∈ L, Chain w0 mb a mk l) ∧ D ≤ a ∧ tot L ≤ 1000000 ∧ Hid (T = max D (levs a L)))
  case atStart => exact ⟨m + 1, 0, 0, [[d]], [], _, _, rfl, by omega, rfl, rfl, rfl, Kept.refl _ _, hlev, ⟨_, hmm0, MapK.nil⟩, (fun p hp => by cases hp), (fun l hl => Chain.zero _ _ _ _), Nat.le_refl _, by simpa [tot, szRs] using HSZ.out, Lib.hid (by rw [HT.out]; simp [levs, lv])⟩
  case round =>
    clear HSZ hmm0 hlev
    obtain ⟨j, a, D, L, mk, A5, c5, rfl, haj, rfl, rfl, rfl, hkw, hlv, hmo, hmi, hch, hD, htot, HE⟩ := hrel
    obtain ⟨WB, rfl⟩ : ∃ WB : World, WB = wr := ⟨_, rfl⟩
    obtain ⟨_, hl5, hc5, _⟩ := hlv.at
    unfold maxLen at hc5
    go_upto_region 8 with fail
    have dp0 : DP w0 mb WB (j - 1) a D [] WB.heap.size (.slice none 0 0) D [] [] mk (WB.alloc (.map #[] 0)) := by
      have q := (Below.refl WB.heap.size WB).alloc (Nat.le_refl _) (.map #[] 0)
      obtain ⟨mo, h1, h2⟩ := hmo
      exact ⟨Kept.of_below q _, OwnL.nil _ _ _ _ _ _, ⟨_, (MapKept.heap_alloc WB _).1, MapK.nil⟩, ⟨mo, (q.block mb (Array.getElem?_eq_some_iff.1 h1).1).trans h1, h2⟩, by simp [levs, lv], (fun p hp => by cases hp), hmi, (fun l hl => by cases hl), by omega, by simp [tot, szRs]⟩
    have hbB : WB.heap.size ≤ WB.heap.size := Nat.le_refl _
    have hmB : mb < WB.heap.size := by have := hkw.size; omega
    clear hmo hmi
    generalize WB.alloc (.map #[] 0) = W1 at dp0 ⊢
    obtain ⟨hb, HHB⟩ : ∃ hb, WB.heap.size = hb := ⟨_, rfl⟩
    rw [HHB] at dp0 ⊢
    go_wp2_with fail
    go_loopg [3, 7, 25] L.length (fun G s3 s7 s25 wx => ∃ (i D' : Nat) (bl : List (List Rdp)) (hk mk' : List (Ky × Int)) (A7 : Option Addr) (c7 : Nat), i ≤ L.length ∧ G = L.length - i ∧ s3 = .int .i64 (D' : Int) ∧ s7 = .slice A7 bl.length c7 ∧ s25 = .int .i64 (i : Int) ∧ DP w0 mb WB (j - 1) a D (L.take i).flatten hb (.slice A7 bl.length c7) D' bl hk mk' wx ∧ (∀ l ∈ L, Chain w0 mb a mk' l))
    case atStart => exact ⟨0, D, [], [], mk, none, 0, Nat.zero_le _, rfl, rfl, rfl, rfl, by simpa using dp0, hch⟩
    case round =>
      clear dp0 hch
      obtain ⟨i, D1, bl, hk, mk1, A7, c7, hi, rfl, rfl, rfl, rfl, dp, hch⟩ := hrel
      by_cases hil : i < L.length
      · obtain ⟨b, off, rfl, hX, hc⟩ := lv_at (hlv.keep (good_lv _ _ _) dp.kept) (by omega)
        obtain ⟨v, cv, hv⟩ := hc i hil
        have HFL : Hid ((L.take (i + 1)).flatten = (L.take i).flatten ++ L[i]) := Lib.hid (by rw [List.take_succ_eq_append_getElem hil, List.flatten_append]; simp)
        have HML : Hid (L[i] ∈ L) := Lib.hid (List.getElem_mem hil)
        clear hc
        generalize L[i] = l at hv HFL HML
        obtain ⟨Av, cpv, rfl, hv1, hv2⟩ := hv.form
        unfold maxLen at hv2
        have i1 : (0 : Int) ≤ (i : Int) := by omega
        have i2 : (i : Int) < (L.length : Int) := by omega
        go_wp2_with fail
        clear cv i1 i2
        go_loopg [3, 7, 31] l.length (fun G s3 s7 s31 wy => ∃ (t D' : Nat) (bl : List (List Rdp)) (hk mk' : List (Ky × Int)) (A7 : Option Addr) (c7 : Nat), t ≤ l.length ∧ G = l.length - t ∧ s3 = .int .i64 (D' : Int) ∧ s7 = .slice A7 bl.length c7 ∧ s31 = .int .i64 (t : Int) ∧ DP w0 mb WB (j - 1) a D ((L.take i).flatten ++ l.take t) hb (.slice A7 bl.length c7) D' bl hk mk' wy ∧ (∀ l ∈ L, Chain w0 mb a mk' l))
        case atStart => exact ⟨0, D1, bl, hk, mk1, A7, c7, Nat.zero_le _, rfl, rfl, rfl, rfl, by simpa using dp, hch⟩
        case round =>
          clear dp hch
          obtain ⟨t, D2, bl, hk, mk2, A7, c7, ht, rfl, rfl, rfl, rfl, dp, hch⟩ := hrel
          by_cases htl : t < l.length
          · obtain ⟨b2, off2, rfl, hX2, _, hc⟩ := hv.rich (by omega)
            obtain ⟨j', kv, hj', c0, c1, c2, c3, c4, hs⟩ := hc t htl
            have hkw2 : Kept (fun k => k = mb) w0 wr := hkw.cutR dp.kept fun i e => e.elim (fun h => .inr (by have := hkw.size; omega)) .inl
            have c0 := hkw2.cell c0 hX2
            have c1 := hkw2.cell c1 hX2
            have c2 := hkw2.cell c2 hX2
            have c3 := hkw2.cell c3 hX2
            have c4 := hkw2.cell c4 hX2
            have HTK : Hid (l.take (t + 1) = l.take t ++ [l[t]]) := Lib.hid (List.take_succ_eq_append_getElem htl)
            have HMT : Hid (l[t] ∈ l) := Lib.hid (List.getElem_mem htl)
            clear hc
            generalize l[t] = kid at c0 c1 c2 c3 c4 hs HTK HMT
            obtain ⟨A2, cap2, rfl, hs1, hs2⟩ := hs.form
            unfold maxLen at hs2
            have i1 : (0 : Int) ≤ (t : Int) := by omega
            have i2 : (t : Int) < (l.length : Int) := by omega
            go_upto_region 14 with fail
            have bk := Blk.new wr 27 #[.string (bs kid.op), .string (bs kid.name), .int .i64 kid.aop, .string (bs kid.ver), .slice A2 kid.kids.length cap2]
            have hq := (Below.refl wr.heap.size wr).alloc (Nat.le_refl _) (.cells #[.string (bs kid.op), .string (bs kid.name), .int .i64 kid.aop, .string (bs kid.ver), .slice A2 kid.kids.length cap2] 27)
            have HGW := dp.kept.size
            have dp := dp.below hq
            have hgk : WB.heap.size ≤ wr.heap.size := by have := HGW; omega
            have hkw3 := hkw2.trans (Kept.of_below hq (fun k => k = mb))
            clear hq hkw2 c0 c1 c2 c3 c4 i1 i2
            generalize wr.alloc (.cells #[.string (bs kid.op), .string (bs kid.name), .int .i64 kid.aop, .string (bs kid.ver), .slice A2 kid.kids.length cap2] 27) = W2 at bk dp hkw3 ⊢
            generalize wr.heap.size = gk at bk hgk ⊢
            obtain ⟨k0, k1, k2, k3, k4⟩ := outs5 bk
            by_cases hkl : kid.kids.length = 0
            · have q1 : decide (0 < kid.kids.length) = false := decide_eq_false (by omega)
              have hkn : kid.kids = [] := List.length_eq_zero_iff.1 hkl
              have e1 := eqS kid.op []
              have e1b : (bs kid.op).toList.isEmpty = decide (kid.op = []) := by rw [toList_bs, Bool.eq_iff_iff]; simp
              have HLF := Lib.hid (dp.leaf kid hkn)
              have HDL := Lib.hid (dR_leaf kid hkn)
              have wa : IntKind.i64.wrap ((a : Int) + 1) = (a : Int) + 1 := i64_in _ (by omega) (by omega)
              have wt : IntKind.i64.wrap ((t : Int) + 1) = (t : Int) + 1 := i64_in _ (by omega) (by omega)
              clear hkl hkn dp hs
              by_cases hop : kid.op = []
              · rw [decide_eq_true hop] at e1 e1b
                rw [HDL.out, if_pos hop] at HLF
                clear hop HDL
                go_wp2_with fail
                go_roundg (l.length - (t + 1))
                case measure => omega
                case rel => exact ⟨t + 1, max D2 (a + 0), bl, hk, mk2, A7, c7, by omega, rfl, (by simp; omega), rfl, by simp, by rw [HTK.out, ← List.append_assoc]; exact HLF.out, hch⟩
              · rw [decide_eq_false hop] at e1 e1b
                rw [HDL.out, if_neg hop] at HLF
                clear hop HDL
                go_wp2_with fail
                go_roundg (l.length - (t + 1))
                case measure => omega
                case rel => exact ⟨t + 1, max D2 (a + 1), bl, hk, mk2, A7, c7, by omega, rfl, (by congr 1; omega), rfl, by simp, by rw [HTK.out, ← List.append_assoc]; exact HLF.out, hch⟩
            · have q1 : decide (0 < kid.kids.length) = true := decide_eq_true (by omega)
              have q2 : 0 < kid.kids.length := by omega
              have hkn : kid.kids ≠ [] := fun e => hkl (by rw [e]; rfl)
              obtain ⟨b3, off3, rfl, _⟩ := hs.rich q2
              have hKG : KG w0 mb (⟨b3, off3, none⟩, kid.kids.length) kid.kids := ⟨⟨cap2, j', hs⟩, hkn⟩
              clear hkl
              go_upto_region 15 with fail
              have HGW2 := dp.kept.size
              have KS : ∀ W', Below W2.heap.size W2 W' → W'.cell? ⟨gk, 4, none⟩ = some (.slice (some ⟨b3, off3, none⟩) kid.kids.length cap2) := fun W' hb => (Kept.of_below hb nowhere).cell k4 fun h => h
              refine wp_region_plan (fun W => W.cell? ⟨gk, 4, none⟩ = some (.slice (some ⟨b3, off3, none⟩) kid.kids.length cap2)) [(false, 0), (false, 1), (false, 2), (false, 3), (false, 4), (false, 5), (false, 6), (true, 7), (true, 8)] (by kernel_rfl) (by kernel_rfl) (KS _ ((Below.refl _ W2).drew)) ?_
              simp only [planOps, List.map, List.getD_cons_zero, List.getD_cons_succ]
              iterate 7 ((first | refine plan_quiet (v := ?_) rfl rfl (fun w' hw' => ?_) ?_ | refine plan_calm (v := ?_) (tt_of) rfl (fun w' hw' => ?_) ?_); rotate_left; (focus (go_simp <;> (first | with_reducible rfl | (rw [if_neg (by simp [undef])]; try rfl) | omega))); simp only [Act.put, List.setIfInBounds_toArray, List.set_cons_zero, List.set_cons_succ])
              refine plan_loud rfl (fun K hK => ?_)
              go_simp
              have qa := ((Below.refl W2.heap.size W2).drew).alloc (Nat.le_refl _) (.cells #[.pointer none, .int .i64 0] 62)
              refine hK _ _ (KS _ qa) ?_
              clear hK K
              (try simp only [Act.put, List.setIfInBounds_toArray, List.set_cons_zero, List.set_cons_succ])
              refine plan_loud rfl (fun K hK => ?_)
              go_simp
              have ql := ((Below.refl W2.heap.size W2).alloc (Nat.le_refl _) (.cells #[.pointer (some ⟨b3, off3, none⟩), .int .i64 (kid.kids.length : Int)] 62)).drew
              refine hK _ _ (KS _ ql) ?_
              clear hK K
              (try simp only [Act.put, List.setIfInBounds_toArray, List.set_cons_zero, List.set_cons_succ])
              refine plan_end ?_
              have bL := (Blk.new W2 62 #[.pointer (some ⟨b3, off3, none⟩), .int .i64 (kid.kids.length : Int)]).drew
              have bk := bk.below ql bk.lt
              have dp := dp.below ql
              have hkw4 := hkw3.trans (Kept.of_below ql (fun k => k = mb))
              have hgl : WB.heap.size ≤ W2.heap.size := HGW2
              clear qa ql KS hkw3 k0 k1 k2 k3 k4
              generalize (W2.alloc (.cells #[.pointer (some ⟨b3, off3, none⟩), .int .i64 (kid.kids.length : Int)] 62)).drew = W3 at bk bL dp hkw4 ⊢
              generalize W2.heap.size = gl at bL hgl ⊢
              obtain ⟨k0, k1, k2, k3, k4⟩ := outs5 bk
              have l0 := bL.cell 0
              have l1 := bL.cell 1
              simp at l0 l1
              obtain ⟨ho, hho, hHK⟩ := dp.hm
              have hks : ∀ p ∈ hk, KyOk W3 p.1 := fun p hp => by
                obtain ⟨_, _, hg⟩ := dp.hin p hp
                exact hg.ok hkw4
              have hget := mapK_get W3 hho hHK (⟨b3, off3, none⟩, kid.kids.length) (hKG.ok hkw4) hks
              simp only [keyK] at hget
              cases hfk : findK (⟨b3, off3, none⟩, kid.kids.length) hk with
              | some q =>
                rw [hfk] at hget
                simp only [Option.map_some, Option.getD_some, Option.isSome_some] at hget
                have HDU := Lib.hid (dp.dup kid hkn hKG (by rw [hfk]; simp))
                have wt : IntKind.i64.wrap ((t : Int) + 1) = (t : Int) + 1 := i64_in _ (by omega) (by omega)
                clear dp hks hHK hho
                go_wp2_with fail
                go_roundg (l.length - (t + 1))
                case measure => omega
                case rel => exact ⟨t + 1, D2, bl, hk, mk2, A7, c7, by omega, rfl, rfl, rfl, by simp, by rw [HTK.out, ← List.append_assoc]; exact HDU.out, hch⟩
              | none =>
                rw [hfk] at hget
                simp only [Option.map_none, Option.getD_none, Option.isSome_none] at hget
                have hHH : w0.heap.size ≤ hb := by have := hkw.size; omega
                have hkwD := hkw4.drew
                obtain ⟨ho', hk', hHK', a1, _, _, hput⟩ := mapK_put W3.drew hho hHK (⟨b3, off3, none⟩, kid.kids.length) (hKG.ok hkwD) hks (a : Int)
                obtain ⟨mo, hmo, hMK⟩ := dp.mm
                have hbm : mb ≠ hb := by omega
                have kM1 := putM_kept W3.drew hb ho'
                have hbW : hb < W3.drew.heap.size := (Array.getElem?_eq_some_iff.1 hho).1
                have hmW : mb < W3.drew.heap.size := (Array.getElem?_eq_some_iff.1 hmo).1
                have hho1 := putM_at W3.drew hb ho' hbW
                have hput : (Instr.mapUpdate 58 (.map (some hb)) (.agg #[.pointer (some ⟨b3, off3, none⟩), .int .i64 (kid.kids.length : Int)]) (.int .i64 (a : Int))).run Tryd.prog W3.drew = .ok () (putM W3.drew hb ho') := hput
                have hmo1 := (kM1.block mb hmW hbm).trans hmo
                have hkw5 : Kept (fun k => k = mb) w0 (putM W3.drew hb ho') := hkwD.cutR kM1 fun i e => .inr (by rw [e]; exact hHH)
                have hmks : ∀ p ∈ mk2, KyOk (putM W3.drew hb ho') p.1 := fun p hp => by
                  obtain ⟨_, hg⟩ := dp.min p hp
                  exact hg.ok hkw5
                obtain ⟨mo', mk', hMK', b1, b2, b3', hput2⟩ := mapK_put (putM W3.drew hb ho') hmo1 hMK (⟨b3, off3, none⟩, kid.kids.length) (hKG.ok hkw5) hmks (a : Int)
                have kM2 := putM_kept (putM W3.drew hb ho') mb mo'
                have hmo2 := putM_at (putM W3.drew hb ho') mb mo' (Nat.lt_of_lt_of_le hmW kM1.size)
                have hho2 := (kM2.block hb (Nat.lt_of_lt_of_le hbW kM1.size) (fun e => hbm e.symm)).trans hho1
                have hput2 : (Instr.mapUpdate 58 (.map (some mb)) (.agg #[.pointer (some ⟨b3, off3, none⟩), .int .i64 (kid.kids.length : Int)]) (.int .i64 (a : Int))).run Tryd.prog (putM W3.drew hb ho') = .ok () (putM (putM W3.drew hb ho') mb mo') := hput2
                have kM : Kept (fun k => k = hb ∨ k = mb) W3 (putM (putM W3.drew hb ho') mb mo') := (((Kept.refl (fun k => k = hb ∨ k = mb) W3).drew).trans (kM1.mono fun i _ e => .inl e)).trans (kM2.mono fun i _ e => .inr e)
                have own5 := dp.own.keepF (free_lv _ _ _) kM fun i hi e => e.elim (fun e => own_map dp.own hho hHK (by rw [← e]; exact hi)) (fun e => own_map dp.own hmo hMK (by rw [← e]; exact hi))
                have hglm : gl ≠ mb := by omega
                have hgkm : gk ≠ mb := by omega
                have hglb : gl ≠ hb := fun e => by
                  have := bL
                  rw [e, Blk, hho] at this
                  obtain ⟨es, c, rfl, _⟩ := hHK
                  simp at this
                have hgkb : gk ≠ hb := fun e => by
                  have := bk
                  rw [e, Blk, hho] at this
                  obtain ⟨es, c, rfl, _⟩ := hHK
                  simp at this
                have hk5 : Kept (fun k => WB.heap.size ≤ k ∨ k = mb) WB (putM (putM W3.drew hb ho') mb mo') := dp.kept.trans (kM.mono fun i _ e => e.elim (fun e => .inl (by omega)) .inr)
                have bk5 := kM.blk bk (fun e => e.elim hgkb hgkm)
                have DPN := Lib.hid dp
                clear dp hHK hho hMK hmo hks hmks hkw4 hkwD hkw5
                go_upto_region 18 with fail
                refine wp_region_plan (fun W => W.cell? ⟨gl, 0, none⟩ = some (.pointer (some ⟨b3, off3, none⟩)) ∧ W.cell? ⟨gl, 1, none⟩ = some (.int .i64 (kid.kids.length : Int))) [(false, 0), (false, 1), (false, 2), (false, 3), (false, 4), (false, 5), (true, 6), (true, 7)] (by kernel_rfl) (by kernel_rfl) (⟨l0, l1⟩) ?_
                simp only [planOps, List.map, List.getD_cons_zero, List.getD_cons_succ]
                iterate 6 ((first | refine plan_quiet (v := ?_) rfl rfl (fun w' hw' => ?_) ?_ | refine plan_calm (v := ?_) (tt_of) rfl (fun w' hw' => ?_) ?_); rotate_left; (focus (go_simp <;> (first | with_reducible rfl | (rw [if_neg (by simp [undef])]; try rfl) | omega))); simp only [Act.put, List.setIfInBounds_toArray, List.set_cons_zero, List.set_cons_succ])
                refine plan_loud rfl (fun K hK => ?_)
                go_simp
                refine hK _ _ (⟨kM1.cell l0 hglb, kM1.cell l1 hglb⟩) ?_
                clear hK K
                (try simp only [Act.put, List.setIfInBounds_toArray, List.set_cons_zero, List.set_cons_succ])
                refine plan_loud rfl (fun K hK => ?_)
                go_simp
                refine hK _ _ (⟨kM.cell l0 (fun e => e.elim hglb hglm), kM.cell l1 (fun e => e.elim hglb hglm)⟩) ?_
                clear hK K
                (try simp only [Act.put, List.setIfInBounds_toArray, List.set_cons_zero, List.set_cons_succ])
                refine plan_end ?_
                clear hput hput2 kM1 kM2 kM hho1 hmo1 l0 l1 k0 k1 k2 k3 k4 hbW hmW
                generalize putM (putM W3.drew hb ho') mb mo' = W5 at own5 hk5 hmo2 hho2 bk5 ⊢
                obtain ⟨k0, k1, k2, k3, k4⟩ := outs5 bk5
                have hbn : bl.length + 1 ≤ 1000000000000 := by
                  have h1 := DPN.out.len
                  have h2 := congrArg szRs HFL.out
                  have h3 := tot_take (i + 1) L
                  have h4 := szRs_take t l
                  rw [szRs_app, tot_flat] at h1
                  rw [tot_flat, szRs_app, tot_flat] at h2
                  omega
                have hRl : Rlv w0 mb (j - 1) (fun k => nowhere k ∨ (Value.slice A7 bl.length c7).ownBlock = some k) W5 [.slice (some ⟨b3, off3, none⟩) kid.kids.length cap2] kid.kids := ⟨_, rfl, by rw [show j - 1 = j' by omega]; exact hs⟩
                have hB5 : WB.heap.size ≤ W5.heap.size := hk5.size
                go_upto_region 23 with (at_builtin; refine wpList_appendL (l := bl) (good_lv w0 mb (j - 1)) rfl _ _ _ _ _ 24 rfl Tryd.underlying59 info_lst rfl (by omega) WB.heap.size rfl own5 [.slice (some ⟨b3, off3, none⟩) kid.kids.length cap2] kid.kids rfl hRl hbn (by omega) hB5 (fun k _ h => h) ?_; intro v7 W7 hown7 hk7; obtain ⟨A8, c8, rfl⟩ := hown7.form)
                have hk8 : Kept (fun k => WB.heap.size ≤ k ∨ k = mb) WB W7 := hk5.trans (hk7.mono fun i _ e => .inl (own_ge own5 e))
                have hho7 := (hk7.block hb (Array.getElem?_eq_some_iff.1 hho2).1 (own_map own5 hho2 hHK')).trans hho2
                have hmo7 := (hk7.block mb (Array.getElem?_eq_some_iff.1 hmo2).1 (own_map own5 hmo2 hMK')).trans hmo2
                have HNW := Lib.hid (DPN.out.new kid hkn hKG (hch l HML.out) HMT.out hk8 hown7 ⟨_, hho7, hHK'⟩ ⟨_, hmo7, hMK'⟩ a1 b1 b2 b3')
                have HCH := Lib.hid (fun l' (hl' : l' ∈ L) => (hch l' hl').mono b2)
                have wt : IntKind.i64.wrap ((t : Int) + 1) = (t : Int) + 1 := i64_in _ (by omega) (by omega)
                clear hk8 hho7 hmo7 hown7 hk7 own5 hch DPN hk5 hmo2 hho2 bk5 k0 k1 k2 k3 k4
                go_wp2_with fail
                go_roundg (l.length - (t + 1))
                case measure => omega
                case rel => exact ⟨t + 1, D2, bl ++ [kid.kids], hk', mk', A8, c8, by omega, rfl, rfl, (by simp), by simp, by rw [HTK.out, ← List.append_assoc]; exact HNW.out, HCH.out⟩
          · have htl2 : ¬ (t : Int) < (l.length : Int) := by omega
            have wi : IntKind.i64.wrap ((i : Int) + 1) = (i : Int) + 1 := i64_in _ (by omega) (by omega)
            have htt : t = l.length := by omega
            subst htt
            rw [List.take_length, ← HFL.out] at dp
            go_wp2_with fail
            go_roundg (L.length - (i + 1))
            case measure => omega
            case rel => exact ⟨i + 1, D2, bl, hk, mk2, A7, c7, by omega, rfl, rfl, rfl, by simp, dp, hch⟩
      · have hil2 : ¬ (i : Int) < (L.length : Int) := by omega
        have hii : i = L.length := by omega
        subst hii
        rw [List.take_length] at dp
        have HEQ := dp.eq
        rw [lv_flat] at HEQ
        have hkz : Kept (fun k => k = mb) w0 wr := hkw.cutR dp.kept fun i e => e.elim (fun h => .inr (by have := hkw.size; omega)) .inl
        obtain ⟨mo, hmo, hMK⟩ := dp.mm
        by_cases hbl : bl.length = 0
        · have q : ((bl.length : Int) == 0) = true := by rw [beq_iff_eq]; omega
          have hbn : bl = [] := List.length_eq_zero_iff.1 hbl
          have hTD : D1 = T := by
            rw [HE.out, ← HEQ, hbn]
            simp [levs]
          clear hbl hbn HEQ
          go_wp2_with fail
          go_ret
          subst hTD
          exact ⟨rfl, hB0.trans (hkz.below hB0.size fun k _ e => by rw [e]; exact hmw)⟩
        · have q : ((bl.length : Int) == 0) = false := by simpa using (show ¬ (bl.length : Int) = 0 by omega)
          obtain ⟨es, cE, rfl, hes⟩ := mapK_len wr hmo hMK
          have hlen : a + 1 ≤ mk1.length := (dp.chn bl[0] (List.getElem_mem (by omega))).len
          have hml := map_len hmo 3
          have q2 : ¬ (es.size ≤ a) := by omega
          have q3 : ¬ ((es.size : Int) ≤ (a : Int)) := by omega
          have wa : IntKind.i64.wrap ((a : Int) + 1) = (a : Int) + 1 := i64_in _ (by omega) (by omega)
          have hj1 : 1 ≤ j := by
            rcases Nat.eq_zero_or_pos j with h0 | h0
            · subst h0
              have := dp.len
              rw [lv_none hlv, szRs] at this
              omega
            · exact h0
          have hlv' : Sl 1 (Rlv w0 mb (j - 1)) (fun k => wr.heap.size ≤ k ∨ k = mb) wr (.slice A7 bl.length c7) bl := (dp.own.to (free_lv _ _ _) fun k hk e => by
            rcases e with e | e
            · have := (ownL_notX dp.own hk).2; omega
            · exact own_map dp.own hmo hMK (by rw [← e]; exact hk)).sl (good_lv _ _ _)
          have htb : tot bl ≤ 1000000 := by
            have := dp.len
            rw [tot_flat] at this
            omega
          have HNX := Lib.hid (And.intro hkz (And.intro hlv' (And.intro dp.min (And.intro dp.chn (And.intro dp.dl (And.intro htb HEQ))))))
          clear hbl HEQ hkz hlv' htb dp hlen hch hlv
          go_wp2_with fail
          go_roundg (j - 1)
          case measure => omega
          case rel => exact ⟨j - 1, a + 1, D1, bl, mk1, A7, c7, rfl, by omega, rfl, rfl, by simp, HNX.out.1, HNX.out.2.1, ⟨_, hmo, hMK⟩, HNX.out.2.2.1, HNX.out.2.2.2.1, HNX.out.2.2.2.2.1, HNX.out.2.2.2.2.2.1, Lib.hid (by rw [HE.out, ← HNX.out.2.2.2.2.2.2])⟩
end Go.Proofs.YtjdcegogkafmoaaDoor

