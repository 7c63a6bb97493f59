/- The walk of entry.Canon. Printed by gen_canon.py. -/
import Derived.Test.YtjhikglgaoncjaaDoorEnR
namespace Go.Proofs.YtjhikglgaoncjaaDoor
open Go.RowKit Go.WideMaps Go.Maps
theorem EO.putE {B : Nat} {w : World} {L : List En} {f : Nat → Value} {g n cap : Nat} (h : EO B w (.slice (some ⟨g, 0, none⟩) n cap) L f) (hB : B ≤ w.heap.size) (k : Nat) (hk : k < L.length) {e : En} (hL : L[k] = e) (c : Nat) (hc : c < 10) (u : Value) (e' : En) (d' : Value) (he : (entC e (f k)).set c u = entC e' d')
    (hd : Sl 1 Rbyte (fun b => (Value.slice (some ⟨g, 0, none⟩) n cap).ownBlock = some b) w d' e'.data) : EO B (w.setCell ⟨g, k * 10 + c, none⟩ u) (.slice (some ⟨g, 0, none⟩) n cap) (L.set k e') (upd f k d') ∧ Below B w (w.setCell ⟨g, k * 10 + c, none⟩ u) :=
  h.put hB k hk c hc u e' d' (by rw [hL]; exact he) hd
theorem EO.put2 {B : Nat} {w : World} {L : List En} {f : Nat → Value} {g n cap : Nat} (h : EO B w (.slice (some ⟨g, 0, none⟩) n cap) L f) (hB : B ≤ w.heap.size) (k : Nat) (hk : k < L.length) {e : En} (hL : L[k] = e) (c1 c2 : Nat) (hc1 : c1 < 10) (hc2 : c2 < 10) (u1 u2 : Value) (e1 e2 : En)
    (he1 : (entC e (f k)).set c1 u1 = entC e1 (f k)) (he2 : (entC e1 (f k)).set c2 u2 = entC e2 (f k)) (hd1 : e1.data = e.data) (hd2 : e2.data = e.data) :
    ∃ f', (∀ j, f' j = f j) ∧ EO B ((w.setCell ⟨g, k * 10 + c1, none⟩ u1).setCell ⟨g, k * 10 + c2, none⟩ u2) (.slice (some ⟨g, 0, none⟩) n cap) (L.set k e2) f' ∧ Below B w ((w.setCell ⟨g, k * 10 + c1, none⟩ u1).setCell ⟨g, k * 10 + c2, none⟩ u2) := by
  have hd := h.dat k hk
  rw [hL] at hd
  obtain ⟨h1, b1⟩ := h.putE hB k hk hL c1 hc1 u1 e1 (f k) he1 (by rw [hd1]; exact hd)
  have hk1 : k < (L.set k e1).length := by rw [List.length_set]; exact hk
  have hL1 : (L.set k e1)[k]'hk1 = e1 := by simp
  have hf1 : upd f k (f k) k = f k := by simp [upd]
  have hd' := h1.dat k hk1
  rw [hL1, hf1] at hd'
  obtain ⟨h2, b2⟩ := h1.putE (Nat.le_trans hB b1.size) k hk1 hL1 c2 hc2 u2 e2 (f k) (by rw [hf1]; exact he2) (by rw [hd2, ← hd1]; exact hd')
  rw [List.set_set] at h2
  exact ⟨_, fun j => by by_cases h : j = k <;> simp [upd, h], h2, b1.trans b2⟩
theorem outK_len (l : List En) (k : Nat) : (outK l k).length = l.length := by
  rw [outK, List.length_append, List.length_mapIdx, List.length_take, List.length_drop]; omega
theorem outK_zero (l : List En) : outK l 0 = l := by simp [outK]
theorem outK_at (l : List En) (k : Nat) (h : k < l.length) : (outK l k)[k]'(by rw [outK_len]; exact h) = l[k] := by
  have hm : ((l.take k).mapIdx (outE l)).length = k := by rw [List.length_mapIdx, List.length_take]; omega
  simp only [outK]
  rw [List.getElem_append_right (by omega)]
  simp [hm]
theorem outK_step (l : List En) (k : Nat) (h : k < l.length) : outK l (k + 1) = (outK l k).set k (outE l k l[k]) := by
  have hm : ((l.take k).mapIdx (outE l)).length = k := by rw [List.length_mapIdx, List.length_take]; omega
  rw [outK, outK, List.take_succ_eq_append_getElem h, List.mapIdx_append, List.set_append_right _ _ (by omega), hm, Nat.sub_self, List.drop_eq_getElem_cons h]
  simp [Nat.min_eq_left (Nat.le_of_lt h)]
  rw [List.drop_eq_getElem_cons h]
  rfl
theorem entAt_is (l : List En) (k : Nat) (h : k < l.length) : entAt l k = l[k] := by simp [entAt, h]
theorem fileE_len {e : En} (h : EB e) : (fileE e).length ≤ 1000000000 := by
  obtain ⟨h1, _, _, h4⟩ := h
  rw [fileE]; split <;> assumption
/-- What Canon hands out. -/
def CanonR (w : World) (l : List En) (r : Ending) (w' : World) : Prop :=
  (if (chkL l).2 = 0 then ∃ v' l' f B, w.heap.size ≤ B ∧ r = .returned (.tuple #[v', .int .i64 0]) ∧ EO B w' v' l' f ∧ l'.Perm (outK l l.length) ∧ l'.Pairwise (fun a b => Op.bytesLess b.path a.path = false) ∧ FR B l'.length f
   else r = .returned (.tuple #[.slice none 0 0, .int .i64 (chkL l).2])) ∧ Below w.heap.size w w'
set_option maxRecDepth 20000 in
set_option maxHeartbeats 16000000 in
theorem pcanon_any (l : List En) (v : Value) (X : Nat → Prop) (w : World) (hsl : Sl 10 Rent X w v l) (hL : LB l) (hD : ∀ e ∈ l, e.data.length ≤ 140737488355328) :
    Calls Tryd.prog 15 #[v] w fun r w' => CanonR w l r w' := by
  obtain ⟨A, cap, rfl, hc1, hc2⟩ := hsl.form
  unfold maxLen at hc2
  have hL1 := hL.1
  have HLL := Lib.hid hL
  have HD := Lib.hid hD
  clear hL hD
  go_enter Tryd.func15, Tryd.ntmps15
  go_wp2_with fail
  refine (pchkall_any l _ X _ hsl HLL.out).mono ?_
  rintro e w1 ⟨rfl, hb1⟩
  obtain ⟨ca, cc, HC⟩ : ∃ a c, Hid (chkL l = (a, c)) := ⟨_, _, Lib.hid rfl⟩
  rw [HC.out]
  by_cases hz : cc = 0
  rotate_left
  · have hzb : (cc != 0) = true := by simpa using hz
    go_wp2_with fail
    go_ret2
    rw [CanonR, HC.out, if_neg hz]
    exact ⟨rfl, hb1⟩
  subst hz
  have hsl1 := Below.sl good_ent hb1 hsl
  go_wp2_with fail
  refine (copy_any l _ X _ hsl1 hL1 HD.out).mono ?_
  rintro e w2 ⟨⟨vo, fo, rfl, h0, hFR⟩, hb2⟩
  have q2 := below_trans hb1 hb2
  have hB1 : w.heap.size ≤ w1.heap.size := hb1.size
  have hB2 : w1.heap.size ≤ w2.heap.size := hb2.size
  clear hsl1 hb1 hb2
  generalize w1.heap.size = B at h0 hFR hB1 hB2
  have HFR0 := Lib.hid hFR
  clear hFR
  obtain ⟨Ao, capo, rfl⟩ := own_form h0.row
  have hmm := @run_makeMap Tryd.prog
  go_upto_region 8 with fail
  have M1 := NMap.made w2
  have e1 : (w2.alloc (.map #[] 0)).heap.size = w2.heap.size + 1 := by simp
  have M2 := NMap.made (w2.alloc (.map #[] 0))
  rw [e1] at M2
  have M1 := M1.below ((Below.refl _ (w2.alloc (.map #[] 0))).alloc (Nat.le_refl _) (.map #[] 0))
  have hb4 : Below w2.heap.size w2 ((w2.alloc (.map #[] 0)).alloc (.map #[] 0)) := ((Below.refl w2.heap.size w2).alloc (Nat.le_refl _) (.map #[] 0)).alloc (by rw [e1]; omega) (.map #[] 0)
  have h4 := h0.below hb4
  have q4 := below_trans q2 hb4
  have g2 : w.heap.size ≤ w2.heap.size + 1 := by omega
  have g12 : w2.heap.size ≠ w2.heap.size + 1 := by omega
  have g1 : w.heap.size ≤ w2.heap.size := by omega
  have hB4 : B ≤ ((w2.alloc (.map #[] 0)).alloc (.map #[] 0)).heap.size := Nat.le_trans hB2 hb4.size
  clear hmm e1 hb4 h0 q2
  generalize (w2.alloc (.map #[] 0)).alloc (.map #[] 0) = w4 at M1 M2 h4 q4 hB4 ⊢
  generalize w2.heap.size + 1 = m2 at M2 g2 g12 ⊢
  generalize w2.heap.size = m1 at M1 g1 g12 hB2 ⊢
  go_wp2_with fail
  go_loopg [31] l.length (fun G s31 wr => ∃ i n1 n2 : Nat, i ≤ l.length ∧ G = l.length - i ∧ s31 = .int .i64 i ∧ n1 ≤ i ∧ n2 ≤ i ∧ Below w.heap.size w wr ∧ NMap wr m1 n1 (leastM l i) ∧ NMap wr m2 n2 (dataM l i) ∧ EO B wr (.slice Ao l.length capo) l fo ∧ B ≤ wr.heap.size)
  case atStart => exact ⟨0, 0, 0, Nat.zero_le _, rfl, rfl, Nat.le_refl _, Nat.le_refl _, q4, M1, M2, h4, hB4⟩
  case round =>
    clear M1 M2 h4 q4 hB4
    obtain ⟨i, n1, n2, hi, rfl, rfl, hn1, hn2, q4, M1, M2, h4, hB4⟩ := hrel
    by_cases hlt : i < l.length
    rotate_left
    · have hie : i = l.length := by omega
      subst hie
      go_wp2_with fail
      go_loopg [79] l.length (fun G s79 wx => ∃ (k : Nat) (f : Nat → Value), k ≤ l.length ∧ G = l.length - k ∧ s79 = .int .i64 k ∧ Below w.heap.size w wx ∧ NMap wx m1 n1 (leastM l l.length) ∧ NMap wx m2 n2 (dataM l l.length) ∧ EO B wx (.slice Ao l.length capo) (outK l k) f ∧ B ≤ wx.heap.size ∧ Hid (FR B l.length f))
      case atStart => exact ⟨0, fo, Nat.zero_le _, rfl, rfl, q4, M1, M2, by rw [outK_zero]; exact h4, hB4, HFR0⟩
      case round =>
        clear M1 M2 h4 q4 hB4
        obtain ⟨k, f, hk, rfl, rfl, q4, M1, M2, h4, hB4, HFR⟩ := hrel
        by_cases hlt : k < l.length
        rotate_left
        · have hke : k = l.length := by omega
          subst hke
          clear M1 M2 hsl
          have hs := sort_any _ f B wr Ao l.length capo h4 hB4 (by rw [outK_len]; exact hL1)
          go_wp2_with fail
          refine hs.mono ?_
          rintro e w9 ⟨⟨rfl, l', f', h5, hp, hsrt, hfi⟩, hb9⟩
          clear hs h4
          go_wp2_with fail
          go_ret2
          rw [CanonR, HC.out, if_pos rfl]
          exact ⟨⟨_, l', f', B, hB1, rfl, h5, hp, hsrt, fun j hj bb hb => by
            obtain ⟨i, hi, hfe⟩ := hfi j hj
            rw [hfe] at hb
            exact HFR.out i (by rw [outK_len] at hi; exact hi) bb hb⟩, q4.trans (hb9.mono hB1)⟩
        have hslr := hsl.keep good_ent (Kept.of_below q4 X)
        obtain ⟨b, off, rfl, _, hc⟩ := hslr.ent (by omega)
        obtain ⟨dv, hat, hdv⟩ := hc k hlt
        obtain ⟨Ad, capd, rfl, _, _⟩ := hdv.form
        have hEB := HLL.out.2 _ (List.getElem_mem hlt)
        have HOS := Lib.hid (outK_step l k hlt)
        have HOK := Lib.hid (outK_at l k hlt)
        clear hc hdv hslr
        obtain ⟨e, He⟩ : ∃ e, Hid (l[k] = e) := ⟨_, Lib.hid rfl⟩
        rw [He.out] at hat hEB HOS HOK
        have hfl := fileE_len hEB
        obtain ⟨c0, c1, c2, c3, c4, c5, c6, c7, c8, c9⟩ := hat
        have i1 : (0 : Int) ≤ (k : Int) := by omega
        have i2 : (k : Int) < (l.length : Int) := by omega
        have hol := outK_len l k
        obtain ⟨L, HL⟩ : ∃ L, Hid (outK l k = L) := ⟨_, Lib.hid rfl⟩
        have hkL : k < L.length := by rw [← HL.out, hol]; exact hlt
        have HLk : Hid (L[k] = e) := Lib.hid (by
          have := HOK.out
          simp only [HL.out] at this
          exact this)
        have HLS := Lib.hid (show outK l (k + 1) = L.set k (outE l k e) by rw [HOS.out, HL.out])
        have hLl : L.length = l.length := by rw [← HL.out]; exact hol
        rw [HL.out] at h4
        have h4_ := h4
        clear HOS HOK hol HL
        go_upto_region 21 with fail
        have bE := Blk.new wr tE #[.string (bs e.path), .int .i64 e.kind, .int .i64 e.mode, .int .i64 e.uid, .int .i64 e.gid, .string (bs e.owner), .string (bs e.group), .int .i64 e.mtime, .string (bs e.link), .slice Ad e.data.length capd]
        have hq : Below wr.heap.size wr (wr.alloc (.cells #[.string (bs e.path), .int .i64 e.kind, .int .i64 e.mode, .int .i64 e.uid, .int .i64 e.gid, .string (bs e.owner), .string (bs e.group), .int .i64 e.mtime, .string (bs e.link), .slice Ad e.data.length capd] tE)) := (Below.refl _ _).alloc (Nat.le_refl _) _
        have M1 := M1.below hq
        have M2 := M2.below hq
        have h4 := h4.below hq
        have q4 := q4.trans (hq.mono q4.size)
        have hB4 : B ≤ (wr.alloc (.cells #[.string (bs e.path), .int .i64 e.kind, .int .i64 e.mode, .int .i64 e.uid, .int .i64 e.gid, .string (bs e.owner), .string (bs e.group), .int .i64 e.mtime, .string (bs e.link), .slice Ad e.data.length capd] tE)).heap.size := Nat.le_trans hB4 hq.size
        have hgl : ∀ bb, (Value.slice Ao l.length capo).ownBlock = some bb → bb < wr.heap.size := fun bb hbb => (h4_.row.lt bb hbb).2
        clear h4_ hq c0 c1 c2 c3 c4 c5 c6 c7 c8 c9
        generalize wr.alloc (.cells #[.string (bs e.path), .int .i64 e.kind, .int .i64 e.mode, .int .i64 e.uid, .int .i64 e.gid, .string (bs e.owner), .string (bs e.group), .int .i64 e.mtime, .string (bs e.link), .slice Ad e.data.length capd] tE) = W1 at bE M1 M2 h4 q4 hB4 ⊢
        generalize wr.heap.size = g at bE hgl ⊢
        have d0 := bE.cell 0
        have d1 := bE.cell 1
        have d2 := bE.cell 2
        have d3 := bE.cell 3
        have d4 := bE.cell 4
        have d5 := bE.cell 5
        have d6 := bE.cell 6
        have d7 := bE.cell 7
        have d8 := bE.cell 8
        have d9 := bE.cell 9
        simp at d0 d1 d2 d3 d4 d5 d6 d7 d8 d9
        by_cases hF : isF e
        rotate_left
        · have k1 : ¬ e.kind = 1 := fun h => hF (.inl h)
          have k4 : ¬ e.kind = 4 := fun h => hF (.inr h)
          have e1 : (e.kind == 1) = false := by simpa using k1
          have e1' : (e.kind != 1) = true := by simpa using k1
          have e4 : (e.kind == 4) = false := by simpa using k4
          have e4' : (e.kind != 4) = true := by simpa using k4
          have h5 : EO B W1 (.slice Ao l.length capo) (outK l (k + 1)) f := by
            rw [HLS.out, outE, if_neg hF, ← HLk.out, set_same hkL]; exact h4
          clear hF k1 k4 h4 bE
          go_wp2_with fail
          go_roundg (l.length - (k + 1))
          case measure => omega
          case rel => exact ⟨k + 1, f, by omega, rfl, by simp, q4, M1, M2, h5, hB4, HFR⟩
        go_cut [91] (fun s91 wx => s91 = .bool false ∧ W1 = wx)
        case first => as_aux_lemma =>
          by_cases k1 : e.kind = 1
          · have e1 : (e.kind == 1) = true := by simpa using k1
            have e1' : (e.kind != 1) = false := by simpa using k1
            go_wp2_with fail
            go_meet
            exact ⟨rfl, rfl⟩
          · have k4 : e.kind = 4 := hF.elim (fun h => absurd h k1) id
            have e1 : (e.kind == 1) = false := by simpa using k1
            have e1' : (e.kind != 1) = true := by simpa using k1
            have e4 : (e.kind == 4) = true := by simpa using k4
            have e4' : (e.kind != 4) = false := by simpa using k4
            clear k1 k4
            go_wp2_with fail
            go_meet
            exact ⟨rfl, rfl⟩
        case rest => as_aux_lemma =>
          obtain ⟨rfl, rfl⟩ := hcut
          have hpos : 0 < l.length := by omega
          obtain ⟨hL1', hL2'⟩ := leastN l l.length (fileE e) hpos
          obtain ⟨hD1', hD2'⟩ := dataN l l.length (fileE e) hpos
          have HOE : Hid (outE l k e = if k = atN (leastM l l.length) (fileE e) then { e with kind := 1, link := [], data := l[atN (dataM l l.length) (fileE e)].data } else { e with kind := 4, link := l[atN (leastM l l.length) (fileE e)].path, data := [] }) := Lib.hid (by rw [outE, if_pos hF, entAt_is _ _ hD2', entAt_is _ _ hL2'])
          have HLS := Lib.hid (HLS.out.trans (by rw [HOE.out]))
          clear hF HOE
          generalize atN (leastM l l.length) (fileE e) = fi at hL1' hL2' HLS
          generalize atN (dataM l l.length) (fileE e) = di at hD1' hD2' HLS
          go_wp2_with fail
          refine (file_any e _ _ _ _ _ rfl).mono ?_
          rintro y w5 ⟨rfl, hb5⟩
          have bE := bE.below hb5 bE.lt
          have h4 := h4.below hb5
          have M1 := M1.below hb5
          have M2 := M2.below hb5
          have q4 := q4.trans (hb5.mono q4.size)
          have hB4 : B ≤ w5.heap.size := Nat.le_trans hB4 hb5.size
          have hlk := nget M1 (fileE e) hfl
          rw [hL1'] at hlk
          clear hb5 d0 d1 d2 d3 d4 d5 d6 d7 d8 d9
          go_upto_region 23 with fail
          clear hlk
          obtain ⟨go, cpo, hvo, hBg, hn1', hn2', _, hblk⟩ := h4.form (by omega)
          injection hvo with hv1 hv2 hv3
          subst hv1 hv3
          clear hv2
          have hato := h4.cell k hkL
          rw [HLk.out] at hato
          obtain ⟨o0, o1, _, _, _, _, _, _, o8, o9⟩ := hato
          have hdk := h4.dat k hkL
          obtain ⟨Adk, capdk, hfk, _, _⟩ := hdk.form
          have z1 := hblk.frozen (k * 10 + 1)
          have z8 := hblk.frozen (k * 10 + 8)
          have z9 := hblk.frozen (k * 10 + 9)
          by_cases hki : k = fi
          · have HLS := Lib.hid (HLS.out.trans (by rw [if_pos hki]))
            subst hki
            have ek : ((k : Int) == (k : Int)) = true := by simp
            go_upto_region 25 with fail
            have hgg : go < g := hgl go rfl
            obtain ⟨f', hf', h5, hb6⟩ := h4.put2 hB4 k hkL HLk.out 1 8 (by omega) (by omega) (.int .i64 1) (.string ⟨#[]⟩) { e with kind := 1 } { e with kind := 1, link := [] } rfl rfl rfl rfl
            have kk : Kept (fun bb => bb = go) w5 ((w5.setCell ⟨go, k * 10 + 1, none⟩ (.int .i64 1)).setCell ⟨go, k * 10 + 8, none⟩ (.string ⟨#[]⟩)) := ((Kept.refl (fun bb => bb = go) w5).setCell (p := ⟨go, k * 10 + 1, none⟩) _ fun _ => rfl).setCell (p := ⟨go, k * 10 + 8, none⟩) _ fun _ => rfl
            have bE := kk.blk bE (fun h => by omega)
            have M2 := M2.keep kk (fun h => hblk.apartM M2 h.symm)
            have M1 := M1.keep kk (fun h => hblk.apartM M1 h.symm)
            have q4 := q4.trans (hb6.mono hB1)
            have hB4 := Nat.le_trans hB4 hb6.size
            clear kk hb6 z1 z8 z9 o0 o1 o8 o9 h4 hdk hblk ek
            generalize (w5.setCell ⟨go, k * 10 + 1, none⟩ (.int .i64 1)).setCell ⟨go, k * 10 + 8, none⟩ (.string ⟨#[]⟩) = w6 at bE M1 M2 q4 hB4 h5 ⊢
            have d0 := bE.cell 0
            have d1 := bE.cell 1
            have d2 := bE.cell 2
            have d3 := bE.cell 3
            have d4 := bE.cell 4
            have d5 := bE.cell 5
            have d6 := bE.cell 6
            have d7 := bE.cell 7
            have d8 := bE.cell 8
            have d9 := bE.cell 9
            simp at d0 d1 d2 d3 d4 d5 d6 d7 d8 d9
            go_wp2_with fail
            refine (file_any e _ _ _ _ _ rfl).mono ?_
            rintro y w7 ⟨rfl, hb7⟩
            have h5 := h5.below hb7
            have M1 := M1.below hb7
            have M2 := M2.below hb7
            have q4 := q4.trans (hb7.mono q4.size)
            have hB4 : B ≤ w7.heap.size := Nat.le_trans hB4 hb7.size
            have hlk := nget M2 (fileE e) hfl
            rw [hD1'] at hlk
            clear bE hb7 d0 d1 d2 d3 d4 d5 d6 d7 d8 d9
            obtain ⟨b', off', hbo, _, hcj⟩ := (hsl.keep good_ent (Kept.of_below q4 X)).ent (by omega)
            injection hbo with hbo
            injection hbo with hbo1 hbo2
            subst hbo1 hbo2
            obtain ⟨dx, hatx, hdx⟩ := hcj di hD2'
            have c9 := hatx.c9
            obtain ⟨Ax, capx, rfl, _, _⟩ := hdx.form
            have hdl := HD.out _ (List.getElem_mem hD2')
            have h5w7 := h5
            clear hcj hatx
            generalize l[di].data = dd at hdx c9 hdl HLS
            have k1 : (0 : Int) ≤ (di : Int) := by omega
            have k2 : (di : Int) < (l.length : Int) := by omega
            go_wp2_with fail
            refine (bclone_any dd _ _ _ hdx hdl).mono ?_
            rintro y w8 ⟨⟨u, rfl, hu⟩, hb8⟩
            have h5 := h5.below hb8
            have M1 := M1.below hb8
            have M2 := M2.below hb8
            have q4 := q4.trans (hb8.mono q4.size)
            have hB8 : B ≤ w8.heap.size := Nat.le_trans hB4 hb8.size
            have hk5 : k < (L.set k { e with kind := 1, link := [] }).length := by rw [List.length_set]; exact hkL
            obtain ⟨go', cpo', hvo, _, _, _, _, hblk⟩ := h5.form (by omega)
            injection hvo with hv1 hv2 hv3
            injection hv1 with hv1
            injection hv1 with hv1 _
            subst hv1 hv3
            clear hv2
            have z9 := hblk.frozen (k * 10 + 9)
            have o9 := (h5.cell k hk5).c9
            have hlt7 : go < w7.heap.size := Nat.lt_of_lt_of_le (h5w7.row.lt go rfl).2 (Nat.le_refl _)
            have hus : Sl 1 Rbyte (fun b => (Value.slice (some ⟨go, 0, none⟩) l.length capo).ownBlock = some b) w8 u dd := (hu.to free_byte fun b hb hm => by
              have h1 := (hu.typed hb).1
              have h2 : go = b := Option.some.inj hm
              omega).sl good_byte
            have HF2 := Lib.hid (show FR B l.length (upd f' k u) from FR.upd (fun j hj bb hb => HFR.out j hj bb (by rw [← hf' j]; exact hb)) fun bb hb => Nat.le_trans hB4 (hu.typed hb).1)
            obtain ⟨Au, capu, hfu, _, _⟩ := hus.form
            subst hfu
            have hp := h5.putE hB8 k hk5 (e := { e with kind := 1, link := [] }) (by simp) 9 (by omega) _ { e with kind := 1, link := [], data := dd } _ rfl hus
            rw [List.set_set] at hp
            obtain ⟨h6, b6⟩ := hp
            have kk : Kept (fun bb => bb = go) w8 (w8.setCell ⟨go, k * 10 + 9, none⟩ (.slice Au dd.length capu)) := (Kept.refl (fun bb => bb = go) w8).setCell (p := ⟨go, k * 10 + 9, none⟩) _ fun _ => rfl
            have M2' := M2.keep kk (fun h => hblk.apartM M2 h.symm)
            have M1' := M1.keep kk (fun h => hblk.apartM M1 h.symm)
            have q5 := q4.trans (b6.mono hB1)
            have hB5 := Nat.le_trans hB8 b6.size
            have h6 : EO B (w8.setCell ⟨go, k * 10 + 9, none⟩ (.slice Au dd.length capu)) (.slice (some ⟨go, 0, none⟩) l.length capo) (outK l (k + 1)) (upd f' k (.slice Au dd.length capu)) := by rw [HLS.out]; exact h6
            clear kk b6 hu hus hb8 hlk c9 hdx h5 M1 M2 q4 hblk
            go_wp2_with fail
            go_roundg (l.length - (k + 1))
            case measure => omega
            case rel => exact ⟨k + 1, _, by omega, rfl, by simp, q5, M1', M2', h6, hB5, HF2⟩
          · have ek : ((k : Int) == (fi : Int)) = false := by rw [beq_eq_false_iff_ne]; omega
            have HLS := Lib.hid (HLS.out.trans (by rw [if_neg hki]))
            clear hki
            obtain ⟨b', off', hbo, _, hcj⟩ := (hsl.keep good_ent (Kept.of_below q4 X)).ent (by omega)
            injection hbo with hbo
            injection hbo with hbo1 hbo2
            subst hbo1 hbo2
            obtain ⟨dx, ⟨c0, _, _, _, _, _, _, _, _, _⟩, _⟩ := hcj fi hL2'
            clear hcj
            generalize l[fi].path = kp at c0 HLS
            have k1 : (0 : Int) ≤ (fi : Int) := by omega
            have k2 : (fi : Int) < (l.length : Int) := by omega
            obtain ⟨f', hf', h5, hb6⟩ := h4.put2 hB4 k hkL HLk.out 1 8 (by omega) (by omega) (.int .i64 4) (.string (bs kp)) { e with kind := 4 } { e with kind := 4, link := kp } rfl rfl rfl rfl
            have hk5 : k < (L.set k { e with kind := 4, link := kp }).length := by rw [List.length_set]; exact hkL
            have hp := h5.putE (Nat.le_trans hB4 hb6.size) k hk5 (e := { e with kind := 4, link := kp }) (by simp) 9 (by omega) (.slice none 0 0) { e with kind := 4, link := kp, data := [] } (.slice none 0 0) rfl (Sl.nil _ _ _ _)
            rw [List.set_set, ← HLS.out] at hp
            obtain ⟨h6, b6⟩ := hp
            have kk : Kept (fun bb => bb = go) w5 (((w5.setCell ⟨go, k * 10 + 1, none⟩ (.int .i64 4)).setCell ⟨go, k * 10 + 8, none⟩ (.string (bs kp))).setCell ⟨go, k * 10 + 9, none⟩ (.slice none 0 0)) := (((Kept.refl (fun bb => bb = go) w5).setCell (p := ⟨go, k * 10 + 1, none⟩) _ fun _ => rfl).setCell (p := ⟨go, k * 10 + 8, none⟩) _ fun _ => rfl).setCell (p := ⟨go, k * 10 + 9, none⟩) _ fun _ => rfl
            have M2' := M2.keep kk (fun h => hblk.apartM M2 h.symm)
            have M1' := M1.keep kk (fun h => hblk.apartM M1 h.symm)
            have q5 := q4.trans ((hb6.trans b6).mono hB1)
            have hB5 := Nat.le_trans hB4 (hb6.trans b6).size
            clear kk b6 hb6 h5 bE M1 M2 q4 h4 hblk
            go_wp2_with fail
            go_roundg (l.length - (k + 1))
            case measure => omega
            case rel => exact ⟨k + 1, _, by omega, rfl, by simp, q5, M1', M2', h6, hB5, Lib.hid (FR.upd (fun j hj bb hb => HFR.out j hj bb (by rw [← hf' j]; exact hb)) fun bb hb => by cases hb)⟩
    have hslr := hsl.keep good_ent (Kept.of_below q4 X)
    obtain ⟨b, off, rfl, _, hc⟩ := hslr.ent (by omega)
    obtain ⟨dv, hat, hdv⟩ := hc i hlt
    obtain ⟨Ad, capd, rfl, _, _⟩ := hdv.form
    have hEB := HLL.out.2 _ (List.getElem_mem hlt)
    have HLS := Lib.hid (leastM_step l i hlt)
    have HDS := Lib.hid (dataM_step l i hlt)
    clear hc hdv
    obtain ⟨e, He⟩ : ∃ e, Hid (l[i] = e) := ⟨_, Lib.hid rfl⟩
    rw [He.out] at hat hEB HLS HDS
    have hfl := fileE_len hEB
    obtain ⟨lp, _, _, _⟩ := hEB
    obtain ⟨c0, c1, c2, c3, c4, c5, c6, c7, c8, c9⟩ := hat
    have i1 : (0 : Int) ≤ (i : Int) := by omega
    have i2 : (i : Int) < (l.length : Int) := by omega
    have hwf : (Lit.int .i64 (i : Int)).wf = true := wf_nat (by omega)
    go_upto_region 11 with fail
    have bE := Blk.new wr tE #[.string (bs e.path), .int .i64 e.kind, .int .i64 e.mode, .int .i64 e.uid, .int .i64 e.gid, .string (bs e.owner), .string (bs e.group), .int .i64 e.mtime, .string (bs e.link), .slice Ad e.data.length capd]
    have hq : Below wr.heap.size wr (wr.alloc (.cells #[.string (bs e.path), .int .i64 e.kind, .int .i64 e.mode, .int .i64 e.uid, .int .i64 e.gid, .string (bs e.owner), .string (bs e.group), .int .i64 e.mtime, .string (bs e.link), .slice Ad e.data.length capd] tE)) := (Below.refl _ _).alloc (Nat.le_refl _) _
    have M1 := M1.below hq
    have M2 := M2.below hq
    have h4 := h4.below hq
    have q4 := q4.trans (hq.mono q4.size)
    have hB4 : B ≤ (wr.alloc (.cells #[.string (bs e.path), .int .i64 e.kind, .int .i64 e.mode, .int .i64 e.uid, .int .i64 e.gid, .string (bs e.owner), .string (bs e.group), .int .i64 e.mtime, .string (bs e.link), .slice Ad e.data.length capd] tE)).heap.size := Nat.le_trans hB4 hq.size
    clear hslr hq c0 c1 c2 c3 c4 c5 c6 c7 c8 c9
    generalize wr.alloc (.cells #[.string (bs e.path), .int .i64 e.kind, .int .i64 e.mode, .int .i64 e.uid, .int .i64 e.gid, .string (bs e.owner), .string (bs e.group), .int .i64 e.mtime, .string (bs e.link), .slice Ad e.data.length capd] tE) = W1 at bE M1 M2 h4 q4 hB4 ⊢
    generalize wr.heap.size = g at bE ⊢
    have d0 := bE.cell 0
    have d1 := bE.cell 1
    simp at d0 d1
    by_cases k1 : e.kind = 1
    · have e1 : (e.kind == 1) = true := by simpa using k1
      have e1' : (e.kind != 1) = false := by simpa using k1
      have HDS := Lib.hid (HDS.out.trans (if_pos k1))
      have HLS := Lib.hid (show leastM l (i + 1) = if newLeast l (leastM l i) e = true then putM (leastM l i) (fileE e) i else leastM l i by rw [HLS.out]; simp [isF, k1])
      clear k1
      go_upto_region 14 with (at_mapUpdate; refine wpList_nput _ rfl _ _ _ rfl m2 n2 _ rfl M2 (by omega) e.path rfl lp i rfl hwf ?_; intro w5 hM5 hk5)
      have bE := hk5.blk bE (fun h => bE.apartM M2 h)
      have h4 := h4.map M2 hk5
      have M1 := M1.keep hk5 g12
      have q4 := q4.trans (hk5.below q4.size (fun k _ h => by rw [h]; exact g2))
      have hB4 : B ≤ w5.heap.size := Nat.le_trans hB4 hk5.size
      have M2 : NMap w5 m2 (n2 + 1) (dataM l (i + 1)) := by rw [HDS.out]; exact hM5
      have hn2 : n2 + 1 ≤ i + 1 := by omega
      clear hk5 hM5 HDS d0 d1 e1 e1'
      generalize n2 + 1 = n2 at M2 hn2
      have d0 := bE.cell 0
      have d1 := bE.cell 1
      have d2 := bE.cell 2
      have d3 := bE.cell 3
      have d4 := bE.cell 4
      have d5 := bE.cell 5
      have d6 := bE.cell 6
      have d7 := bE.cell 7
      have d8 := bE.cell 8
      have d9 := bE.cell 9
      simp at d0 d1 d2 d3 d4 d5 d6 d7 d8 d9
      go_wp2_with fail
      refine (file_any e _ _ _ _ _ rfl).mono ?_
      rintro y w6 ⟨rfl, hb6⟩
      have bE := bE.below hb6 bE.lt
      have h4 := h4.below hb6
      have M1 := M1.below hb6
      have M2 := M2.below hb6
      have q4 := q4.trans (hb6.mono q4.size)
      have hB4 : B ≤ w6.heap.size := Nat.le_trans hB4 hb6.size
      have hlk := nlk M1 (fileE e) hfl
      clear hb6 d0 d1 d2 d3 d4 d5 d6 d7 d8 d9
      have HNL : Hid (newLeast l (leastM l i) e = match leastM l i (fileE e) with | none => true | some k => Op.bytesLess e.path (pathAt l k)) := Lib.hid rfl
      generalize newLeast l (leastM l i) e = nl at HLS HNL
      have d0 := bE.cell 0
      simp at d0
      obtain ⟨fp, HFP⟩ : ∃ p, Hid (fileE e = p) := ⟨_, Lib.hid rfl⟩
      rw [HFP.out] at hlk HNL HLS hfl ⊢
      cases hm : leastM l i fp with
      | none =>
        have HN : Hid (nl = true) := Lib.hid (by rw [HNL.out, hm])
        rw [hm] at hlk
        simp only [Option.isSome_none, Option.getD_none] at hlk
        clear HNL hm
        go_upto_region 15 with fail
        clear hlk
        refine wp_region_plan (fun W => W.cell? ⟨g, 0, none⟩ = some (.string (bs e.path))) [(false, 0), (false, 1), (false, 2), (false, 3), (false, 4), (false, 5), (false, 6), (false, 7), (false, 8), (false, 9), (false, 10), (false, 11)] (by kernel_rfl) (by kernel_rfl) (by simpa using d0) ?_
        simp only [planOps, List.map, List.getD_cons_zero, List.getD_cons_succ]
        iterate 12 ((first | refine plan_quiet_guarded (v := ?_) rfl (fun w' hw' => ?_) ?_ | refine plan_calm_guarded (v := ?_) (tt_of) (fun w' hw' => ?_) ?_); rotate_left; (focus (go_simp <;> (first | with_reducible rfl | (rw [if_neg (by simp [undef])]; try rfl)))); simp only [Act.put, List.setIfInBounds_toArray, List.set_cons_zero, List.set_cons_succ])
        refine plan_end ?_
        have hb7 : Below w6.heap.size w6 w6.drew := (Below.refl _ _).drew
        have bE := bE.below hb7 bE.lt
        have h4 := h4.below hb7
        have M1 := M1.below hb7
        have M2 := M2.below hb7
        have q4 := q4.drew
        have hB4 : B ≤ w6.drew.heap.size := hB4
        clear d0 hb7
        generalize w6.drew = w7 at bE h4 M1 M2 q4 hB4 ⊢
        have d0 := bE.cell 0
        have d1 := bE.cell 1
        have d2 := bE.cell 2
        have d3 := bE.cell 3
        have d4 := bE.cell 4
        have d5 := bE.cell 5
        have d6 := bE.cell 6
        have d7 := bE.cell 7
        have d8 := bE.cell 8
        have d9 := bE.cell 9
        simp at d0 d1 d2 d3 d4 d5 d6 d7 d8 d9
        go_wp2_with fail
        refine (file_any e _ _ _ _ _ rfl).mono ?_
        rintro y w8 ⟨rfl, hb8⟩
        rw [HFP.out]
        have h4 := h4.below hb8
        have M1 := M1.below hb8
        have M2 := M2.below hb8
        have q4 := q4.trans (hb8.mono q4.size)
        have hB4 : B ≤ w8.heap.size := Nat.le_trans hB4 hb8.size
        clear bE d0 d1 d2 d3 d4 d5 d6 d7 d8 d9 hb8
        go_wp2_with (at_mapUpdate; refine wpList_nput _ rfl _ _ _ rfl m1 n1 _ rfl M1 (by omega) fp rfl hfl i rfl hwf ?_; intro w9 hM9 hk9)
        have h4 := h4.map M1 hk9
        have M2 := M2.keep hk9 (fun h => g12 h.symm)
        have q4 := q4.trans (hk9.below q4.size (fun k _ h => by rw [h]; exact g1))
        have hB4 : B ≤ w9.heap.size := Nat.le_trans hB4 hk9.size
        have M1 : NMap w9 m1 (n1 + 1) (leastM l (i + 1)) := by rw [HLS.out, if_pos HN.out]; exact hM9
        clear hk9 hM9 HLS HN
        go_wp2_with fail
        go_roundg (l.length - (i + 1))
        case measure => omega
        case rel => exact ⟨i + 1, n1 + 1, n2, by omega, rfl, by simp, by omega, hn2, q4, M1, M2, h4, hB4⟩
      | some kv =>
        obtain ⟨k, rfl, hki, hkl⟩ := leastM_lt l i fp kv hm
        rw [hm] at hlk
        simp only [Option.isSome_some, Option.getD_some] at hlk
        have HNL := Lib.hid (show nl = Op.bytesLess e.path l[k].path by rw [HNL.out, hm]; show Op.bytesLess e.path (pathAt l (k : Int)) = _; rw [pathAt]; simp [hkl])
        clear hm
        obtain ⟨b', off', hbo, _, hcj⟩ := (hsl.keep good_ent (Kept.of_below q4 X)).ent (by omega)
        injection hbo with hbo
        injection hbo with hbo1 hbo2
        subst hbo1 hbo2
        obtain ⟨dx, ⟨c0, _, _, _, _, _, _, _, _, _⟩, _⟩ := hcj k hkl
        clear hcj
        generalize l[k].path = kp at c0 HNL
        have k1 : (0 : Int) ≤ (k : Int) := by omega
        have k2 : (k : Int) < (l.length : Int) := by omega
        have t1 : (bs e.path).toList = e.path := toList_bs _
        have t2 : (bs kp).toList = kp := toList_bs _
        cases hlss : Op.bytesLess e.path kp with
        | true =>
          have hls2 : Op.bytesLess (bs e.path).toList (bs kp).toList = true := by rw [t1, t2]; exact hlss
          have HN : Hid (nl = true) := Lib.hid (by rw [HNL.out, hlss])
          clear HNL
          go_upto_region 15 with fail
          clear hlk
          refine wp_region_plan (fun W => W.cell? ⟨g, 0, none⟩ = some (.string (bs e.path)) ∧ W.cell? ⟨b, off + k * 10, none⟩ = some (.string (bs kp))) [(false, 0), (false, 1), (false, 2), (false, 3), (false, 4), (false, 5), (false, 6), (false, 7), (false, 8), (false, 9), (false, 10), (false, 11)] (by kernel_rfl) (by kernel_rfl) (⟨by simpa using d0, by simpa using c0⟩) ?_
          simp only [planOps, List.map, List.getD_cons_zero, List.getD_cons_succ]
          iterate 12 ((first | refine plan_quiet_guarded (v := ?_) rfl (fun w' hw' => ?_) ?_ | refine plan_calm_guarded (v := ?_) (tt_of) (fun w' hw' => ?_) ?_); rotate_left; (focus (go_simp <;> (first | with_reducible rfl | (rw [if_neg (by simp [undef])]; try rfl)))); simp only [Act.put, List.setIfInBounds_toArray, List.set_cons_zero, List.set_cons_succ])
          refine plan_end ?_
          clear c0 hlss hls2 t1 t2
          have hb7 : Below w6.heap.size w6 w6.drew := (Below.refl _ _).drew
          have bE := bE.below hb7 bE.lt
          have h4 := h4.below hb7
          have M1 := M1.below hb7
          have M2 := M2.below hb7
          have q4 := q4.drew
          have hB4 : B ≤ w6.drew.heap.size := hB4
          clear d0 hb7
          generalize w6.drew = w7 at bE h4 M1 M2 q4 hB4 ⊢
          have d0 := bE.cell 0
          have d1 := bE.cell 1
          have d2 := bE.cell 2
          have d3 := bE.cell 3
          have d4 := bE.cell 4
          have d5 := bE.cell 5
          have d6 := bE.cell 6
          have d7 := bE.cell 7
          have d8 := bE.cell 8
          have d9 := bE.cell 9
          simp at d0 d1 d2 d3 d4 d5 d6 d7 d8 d9
          go_wp2_with fail
          refine (file_any e _ _ _ _ _ rfl).mono ?_
          rintro y w8 ⟨rfl, hb8⟩
          rw [HFP.out]
          have h4 := h4.below hb8
          have M1 := M1.below hb8
          have M2 := M2.below hb8
          have q4 := q4.trans (hb8.mono q4.size)
          have hB4 : B ≤ w8.heap.size := Nat.le_trans hB4 hb8.size
          clear bE d0 d1 d2 d3 d4 d5 d6 d7 d8 d9 hb8
          go_wp2_with (at_mapUpdate; refine wpList_nput _ rfl _ _ _ rfl m1 n1 _ rfl M1 (by omega) fp rfl hfl i rfl hwf ?_; intro w9 hM9 hk9)
          have h4 := h4.map M1 hk9
          have M2 := M2.keep hk9 (fun h => g12 h.symm)
          have q4 := q4.trans (hk9.below q4.size (fun k _ h => by rw [h]; exact g1))
          have hB4 : B ≤ w9.heap.size := Nat.le_trans hB4 hk9.size
          have M1 : NMap w9 m1 (n1 + 1) (leastM l (i + 1)) := by rw [HLS.out, if_pos HN.out]; exact hM9
          clear hk9 hM9 HLS HN
          go_wp2_with fail
          go_roundg (l.length - (i + 1))
          case measure => omega
          case rel => exact ⟨i + 1, n1 + 1, n2, by omega, rfl, by simp, by omega, hn2, q4, M1, M2, h4, hB4⟩
        | false =>
          have hls2 : Op.bytesLess (bs e.path).toList (bs kp).toList = false := by rw [t1, t2]; exact hlss
          have HN : Hid (nl = false) := Lib.hid (by rw [HNL.out, hlss])
          clear HNL
          go_upto_region 15 with fail
          clear hlk
          refine wp_region_plan (fun W => W.cell? ⟨g, 0, none⟩ = some (.string (bs e.path)) ∧ W.cell? ⟨b, off + k * 10, none⟩ = some (.string (bs kp))) [(false, 0), (false, 1), (false, 2), (false, 3), (false, 4), (false, 5), (false, 6), (false, 7), (false, 8), (false, 9), (false, 10), (false, 11)] (by kernel_rfl) (by kernel_rfl) (⟨by simpa using d0, by simpa using c0⟩) ?_
          simp only [planOps, List.map, List.getD_cons_zero, List.getD_cons_succ]
          iterate 12 ((first | refine plan_quiet_guarded (v := ?_) rfl (fun w' hw' => ?_) ?_ | refine plan_calm_guarded (v := ?_) (tt_of) (fun w' hw' => ?_) ?_); rotate_left; (focus (go_simp <;> (first | with_reducible rfl | (rw [if_neg (by simp [undef])]; try rfl)))); simp only [Act.put, List.setIfInBounds_toArray, List.set_cons_zero, List.set_cons_succ])
          refine plan_end ?_
          have hb7 : Below w6.heap.size w6 w6.drew := (Below.refl _ _).drew
          have M1' : NMap w6.drew m1 n1 (leastM l (i + 1)) := by rw [HLS.out, if_neg (by rw [HN.out]; simp)]; exact M1.below hb7
          have M2' := M2.below hb7
          have h4' := h4.below hb7
          have q4' := q4.drew
          clear M1 M2 h4 q4 HLS HN c0 hlss hls2 t1 t2 d0 bE
          go_wp2_with fail
          go_roundg (l.length - (i + 1))
          case measure => omega
          case rel => exact ⟨i + 1, n1, n2, by omega, rfl, by simp, by omega, hn2, q4', M1', M2', h4', hB4⟩
    · by_cases k4 : e.kind = 4
      rotate_left
      · have e1 : (e.kind == 1) = false := by simpa using k1
        have e1' : (e.kind != 1) = true := by simpa using k1
        have e4 : (e.kind == 4) = false := by simpa using k4
        have e4' : (e.kind != 4) = true := by simpa using k4
        have M1' : NMap W1 m1 n1 (leastM l (i + 1)) := by rw [HLS.out, if_neg (by simp [isF, k1, k4])]; exact M1
        have M2' : NMap W1 m2 n2 (dataM l (i + 1)) := by rw [HDS.out, if_neg k1]; exact M2
        clear k1 k4 HLS HDS M1 M2
        go_wp2_with fail
        go_roundg (l.length - (i + 1))
        case measure => omega
        case rel => exact ⟨i + 1, n1, n2, by omega, rfl, by simp, by omega, by omega, q4, M1', M2', h4, hB4⟩
      · have e1 : (e.kind == 1) = false := by simpa using k1
        have e1' : (e.kind != 1) = true := by simpa using k1
        have e4 : (e.kind == 4) = true := by simpa using k4
        have e4' : (e.kind != 4) = false := by simpa using k4
        have HLS := Lib.hid (show leastM l (i + 1) = if newLeast l (leastM l i) e = true then putM (leastM l i) (fileE e) i else leastM l i by rw [HLS.out]; simp [isF, k4])
        have M2 : NMap W1 m2 n2 (dataM l (i + 1)) := by rw [HDS.out, if_neg k1]; exact M2
        have hn2 : n2 ≤ i + 1 := by omega
        clear k1 k4 HDS
        go_upto_region 14 with fail
        clear e1 e1' e4 e4' d0 d1
        generalize W1 = w5 at bE M1 M2 h4 q4 hB4 ⊢
        have d0 := bE.cell 0
        have d1 := bE.cell 1
        have d2 := bE.cell 2
        have d3 := bE.cell 3
        have d4 := bE.cell 4
        have d5 := bE.cell 5
        have d6 := bE.cell 6
        have d7 := bE.cell 7
        have d8 := bE.cell 8
        have d9 := bE.cell 9
        simp at d0 d1 d2 d3 d4 d5 d6 d7 d8 d9
        go_wp2_with fail
        refine (file_any e _ _ _ _ _ rfl).mono ?_
        rintro y w6 ⟨rfl, hb6⟩
        have bE := bE.below hb6 bE.lt
        have h4 := h4.below hb6
        have M1 := M1.below hb6
        have M2 := M2.below hb6
        have q4 := q4.trans (hb6.mono q4.size)
        have hB4 : B ≤ w6.heap.size := Nat.le_trans hB4 hb6.size
        have hlk := nlk M1 (fileE e) hfl
        clear hb6 d0 d1 d2 d3 d4 d5 d6 d7 d8 d9
        have HNL : Hid (newLeast l (leastM l i) e = match leastM l i (fileE e) with | none => true | some k => Op.bytesLess e.path (pathAt l k)) := Lib.hid rfl
        generalize newLeast l (leastM l i) e = nl at HLS HNL
        have d0 := bE.cell 0
        simp at d0
        obtain ⟨fp, HFP⟩ : ∃ p, Hid (fileE e = p) := ⟨_, Lib.hid rfl⟩
        rw [HFP.out] at hlk HNL HLS hfl ⊢
        cases hm : leastM l i fp with
        | none =>
          have HN : Hid (nl = true) := Lib.hid (by rw [HNL.out, hm])
          rw [hm] at hlk
          simp only [Option.isSome_none, Option.getD_none] at hlk
          clear HNL hm
          go_upto_region 15 with fail
          clear hlk
          refine wp_region_plan (fun W => W.cell? ⟨g, 0, none⟩ = some (.string (bs e.path))) [(false, 0), (false, 1), (false, 2), (false, 3), (false, 4), (false, 5), (false, 6), (false, 7), (false, 8), (false, 9), (false, 10), (false, 11)] (by kernel_rfl) (by kernel_rfl) (by simpa using d0) ?_
          simp only [planOps, List.map, List.getD_cons_zero, List.getD_cons_succ]
          iterate 12 ((first | refine plan_quiet_guarded (v := ?_) rfl (fun w' hw' => ?_) ?_ | refine plan_calm_guarded (v := ?_) (tt_of) (fun w' hw' => ?_) ?_); rotate_left; (focus (go_simp <;> (first | with_reducible rfl | (rw [if_neg (by simp [undef])]; try rfl)))); simp only [Act.put, List.setIfInBounds_toArray, List.set_cons_zero, List.set_cons_succ])
          refine plan_end ?_
          have hb7 : Below w6.heap.size w6 w6.drew := (Below.refl _ _).drew
          have bE := bE.below hb7 bE.lt
          have h4 := h4.below hb7
          have M1 := M1.below hb7
          have M2 := M2.below hb7
          have q4 := q4.drew
          have hB4 : B ≤ w6.drew.heap.size := hB4
          clear d0 hb7
          generalize w6.drew = w7 at bE h4 M1 M2 q4 hB4 ⊢
          have d0 := bE.cell 0
          have d1 := bE.cell 1
          have d2 := bE.cell 2
          have d3 := bE.cell 3
          have d4 := bE.cell 4
          have d5 := bE.cell 5
          have d6 := bE.cell 6
          have d7 := bE.cell 7
          have d8 := bE.cell 8
          have d9 := bE.cell 9
          simp at d0 d1 d2 d3 d4 d5 d6 d7 d8 d9
          go_wp2_with fail
          refine (file_any e _ _ _ _ _ rfl).mono ?_
          rintro y w8 ⟨rfl, hb8⟩
          rw [HFP.out]
          have h4 := h4.below hb8
          have M1 := M1.below hb8
          have M2 := M2.below hb8
          have q4 := q4.trans (hb8.mono q4.size)
          have hB4 : B ≤ w8.heap.size := Nat.le_trans hB4 hb8.size
          clear bE d0 d1 d2 d3 d4 d5 d6 d7 d8 d9 hb8
          go_wp2_with (at_mapUpdate; refine wpList_nput _ rfl _ _ _ rfl m1 n1 _ rfl M1 (by omega) fp rfl hfl i rfl hwf ?_; intro w9 hM9 hk9)
          have h4 := h4.map M1 hk9
          have M2 := M2.keep hk9 (fun h => g12 h.symm)
          have q4 := q4.trans (hk9.below q4.size (fun k _ h => by rw [h]; exact g1))
          have hB4 : B ≤ w9.heap.size := Nat.le_trans hB4 hk9.size
          have M1 : NMap w9 m1 (n1 + 1) (leastM l (i + 1)) := by rw [HLS.out, if_pos HN.out]; exact hM9
          clear hk9 hM9 HLS HN
          go_wp2_with fail
          go_roundg (l.length - (i + 1))
          case measure => omega
          case rel => exact ⟨i + 1, n1 + 1, n2, by omega, rfl, by simp, by omega, hn2, q4, M1, M2, h4, hB4⟩
        | some kv =>
          obtain ⟨k, rfl, hki, hkl⟩ := leastM_lt l i fp kv hm
          rw [hm] at hlk
          simp only [Option.isSome_some, Option.getD_some] at hlk
          have HNL := Lib.hid (show nl = Op.bytesLess e.path l[k].path by rw [HNL.out, hm]; show Op.bytesLess e.path (pathAt l (k : Int)) = _; rw [pathAt]; simp [hkl])
          clear hm
          obtain ⟨b', off', hbo, _, hcj⟩ := (hsl.keep good_ent (Kept.of_below q4 X)).ent (by omega)
          injection hbo with hbo
          injection hbo with hbo1 hbo2
          subst hbo1 hbo2
          obtain ⟨dx, ⟨c0, _, _, _, _, _, _, _, _, _⟩, _⟩ := hcj k hkl
          clear hcj
          generalize l[k].path = kp at c0 HNL
          have k1 : (0 : Int) ≤ (k : Int) := by omega
          have k2 : (k : Int) < (l.length : Int) := by omega
          have t1 : (bs e.path).toList = e.path := toList_bs _
          have t2 : (bs kp).toList = kp := toList_bs _
          cases hlss : Op.bytesLess e.path kp with
          | true =>
            have hls2 : Op.bytesLess (bs e.path).toList (bs kp).toList = true := by rw [t1, t2]; exact hlss
            have HN : Hid (nl = true) := Lib.hid (by rw [HNL.out, hlss])
            clear HNL
            go_upto_region 15 with fail
            clear hlk
            refine wp_region_plan (fun W => W.cell? ⟨g, 0, none⟩ = some (.string (bs e.path)) ∧ W.cell? ⟨b, off + k * 10, none⟩ = some (.string (bs kp))) [(false, 0), (false, 1), (false, 2), (false, 3), (false, 4), (false, 5), (false, 6), (false, 7), (false, 8), (false, 9), (false, 10), (false, 11)] (by kernel_rfl) (by kernel_rfl) (⟨by simpa using d0, by simpa using c0⟩) ?_
            simp only [planOps, List.map, List.getD_cons_zero, List.getD_cons_succ]
            iterate 12 ((first | refine plan_quiet_guarded (v := ?_) rfl (fun w' hw' => ?_) ?_ | refine plan_calm_guarded (v := ?_) (tt_of) (fun w' hw' => ?_) ?_); rotate_left; (focus (go_simp <;> (first | with_reducible rfl | (rw [if_neg (by simp [undef])]; try rfl)))); simp only [Act.put, List.setIfInBounds_toArray, List.set_cons_zero, List.set_cons_succ])
            refine plan_end ?_
            clear c0 hlss hls2 t1 t2
            have hb7 : Below w6.heap.size w6 w6.drew := (Below.refl _ _).drew
            have bE := bE.below hb7 bE.lt
            have h4 := h4.below hb7
            have M1 := M1.below hb7
            have M2 := M2.below hb7
            have q4 := q4.drew
            have hB4 : B ≤ w6.drew.heap.size := hB4
            clear d0 hb7
            generalize w6.drew = w7 at bE h4 M1 M2 q4 hB4 ⊢
            have d0 := bE.cell 0
            have d1 := bE.cell 1
            have d2 := bE.cell 2
            have d3 := bE.cell 3
            have d4 := bE.cell 4
            have d5 := bE.cell 5
            have d6 := bE.cell 6
            have d7 := bE.cell 7
            have d8 := bE.cell 8
            have d9 := bE.cell 9
            simp at d0 d1 d2 d3 d4 d5 d6 d7 d8 d9
            go_wp2_with fail
            refine (file_any e _ _ _ _ _ rfl).mono ?_
            rintro y w8 ⟨rfl, hb8⟩
            rw [HFP.out]
            have h4 := h4.below hb8
            have M1 := M1.below hb8
            have M2 := M2.below hb8
            have q4 := q4.trans (hb8.mono q4.size)
            have hB4 : B ≤ w8.heap.size := Nat.le_trans hB4 hb8.size
            clear bE d0 d1 d2 d3 d4 d5 d6 d7 d8 d9 hb8
            go_wp2_with (at_mapUpdate; refine wpList_nput _ rfl _ _ _ rfl m1 n1 _ rfl M1 (by omega) fp rfl hfl i rfl hwf ?_; intro w9 hM9 hk9)
            have h4 := h4.map M1 hk9
            have M2 := M2.keep hk9 (fun h => g12 h.symm)
            have q4 := q4.trans (hk9.below q4.size (fun k _ h => by rw [h]; exact g1))
            have hB4 : B ≤ w9.heap.size := Nat.le_trans hB4 hk9.size
            have M1 : NMap w9 m1 (n1 + 1) (leastM l (i + 1)) := by rw [HLS.out, if_pos HN.out]; exact hM9
            clear hk9 hM9 HLS HN
            go_wp2_with fail
            go_roundg (l.length - (i + 1))
            case measure => omega
            case rel => exact ⟨i + 1, n1 + 1, n2, by omega, rfl, by simp, by omega, hn2, q4, M1, M2, h4, hB4⟩
          | false =>
            have hls2 : Op.bytesLess (bs e.path).toList (bs kp).toList = false := by rw [t1, t2]; exact hlss
            have HN : Hid (nl = false) := Lib.hid (by rw [HNL.out, hlss])
            clear HNL
            go_upto_region 15 with fail
            clear hlk
            refine wp_region_plan (fun W => W.cell? ⟨g, 0, none⟩ = some (.string (bs e.path)) ∧ W.cell? ⟨b, off + k * 10, none⟩ = some (.string (bs kp))) [(false, 0), (false, 1), (false, 2), (false, 3), (false, 4), (false, 5), (false, 6), (false, 7), (false, 8), (false, 9), (false, 10), (false, 11)] (by kernel_rfl) (by kernel_rfl) (⟨by simpa using d0, by simpa using c0⟩) ?_
            simp only [planOps, List.map, List.getD_cons_zero, List.getD_cons_succ]
            iterate 12 ((first | refine plan_quiet_guarded (v := ?_) rfl (fun w' hw' => ?_) ?_ | refine plan_calm_guarded (v := ?_) (tt_of) (fun w' hw' => ?_) ?_); rotate_left; (focus (go_simp <;> (first | with_reducible rfl | (rw [if_neg (by simp [undef])]; try rfl)))); simp only [Act.put, List.setIfInBounds_toArray, List.set_cons_zero, List.set_cons_succ])
            refine plan_end ?_
            have hb7 : Below w6.heap.size w6 w6.drew := (Below.refl _ _).drew
            have M1' : NMap w6.drew m1 n1 (leastM l (i + 1)) := by rw [HLS.out, if_neg (by rw [HN.out]; simp)]; exact M1.below hb7
            have M2' := M2.below hb7
            have h4' := h4.below hb7
            have q4' := q4.drew
            clear M1 M2 h4 q4 HLS HN c0 hlss hls2 t1 t2 d0 bE
            go_wp2_with fail
            go_roundg (l.length - (i + 1))
            case measure => omega
            case rel => exact ⟨i + 1, n1, n2, by omega, rfl, by simp, by omega, hn2, q4', M1', M2', h4', hB4⟩
end Go.Proofs.YtjhikglgaoncjaaDoor
