/- The document's reader of ddep: part. -/
import Derived.Test.YtdnncbhbajciaaaDoorDeB
namespace Go.Proofs.YtdnncbhbajciaaaDoor
open Go.RowKit
/-- What ends a part of a kind. -/
def endsK (kind : Nat) : List UInt8 := if kind = 3 then vEnds else if kind = 2 then wEnds else nEnds
theorem info_part : (Tryd.prog.info? 95).map (fun i => (i.zero, i.size, i.bytes)) = some (some (.agg #[.int .i64 0, .int .i64 0, .string ⟨#[]⟩]), 3, 32) := by kernel_rfl
theorem info_int : (Tryd.prog.info? 3).map (fun i => (i.zero, i.size, i.bytes)) = some (some (.int .i64 0), 1, 8) := by kernel_rfl
/-- What a part gives. -/
def partI (kind : Nat) (r : List UInt8) : List It := if upTo (endsK kind) r = [] then [] else [⟨kind, r, upTo (endsK kind) r⟩]
theorem drop_tw (p : UInt8 → Bool) (r : List UInt8) : r.drop (r.takeWhile p).length = r.dropWhile p := by
  induction r with
  | nil => rfl
  | cons c t ih =>
    rw [List.takeWhile_cons, List.dropWhile_cons]
    split
    · simpa using ih
    · rfl
theorem upTo_behind (e r : List UInt8) : upTo e r ++ behind e r = r := by
  unfold upTo behind past
  rw [drop_tw]
  exact List.takeWhile_append_dropWhile
/-- r' is what is left of r behind bytes that are none of e. -/
def Ate (e r r' : List UInt8) : Prop := behind e r = behind e r' ∧ r'.length ≤ r.length
/-- A row of the state's grows, in the blocks of it or in new ones. -/
theorem St.pushed {w w1 : World} {g : Nat} {s : List UInt8} {k : Nat} {bad : Bool} {vp vl vh v' : Value} {its : List It} {it : It} (hk : k ≤ s.length) (hB : Blk w g 93 #[.string (bs s), .int .i64 k, .bool bad, vp, vl, vh])
    (hp : OwnL 3 (Rpart s) 95 (g + 1) (fun i => vh.ownBlock = some i) w vp (its.filter isPt)) (hh : OwnL 1 (Rhead s) 3 (g + 1) (fun i => vp.ownBlock = some i) w vh (its.filter isHd)) (hit : isPt it = true)
    (hK : Kept (fun i => vp.ownBlock = some i) w w1)
    (h1 : OwnL 3 (Rpart s) 95 (g + 1) (fun i => vh.ownBlock = some i ∨ (i < w.heap.size ∧ vp.ownBlock ≠ some i)) w1 v' (its.filter isPt ++ [it])) :
    Blk w1 g 93 #[.string (bs s), .int .i64 k, .bool bad, vp, vl, vh] ∧ St (w1.setCell ⟨g, 3, none⟩ v') g s (s.drop k) bad vl (its ++ [it]) ∧ Mv g w (w1.setCell ⟨g, 3, none⟩ v') := by
  have hB1 := hK.blk hB (fun h => by have := hp.ge g h; omega)
  have hB2 : Blk (w1.setCell ⟨g, 3, none⟩ v') g 93 #[.string (bs s), .int .i64 k, .bool bad, v', vl, vh] := by
    have := hB1.set (u := v') 3
    simpa using this
  have hO : Only g w1 (w1.setCell ⟨g, 3, none⟩ v') := Only.set (Kept.refl _ _) 3 _
  have hne : isHd it = false := by simpa [isPt, isHd] using hit
  have f1 : (its ++ [it]).filter isPt = its.filter isPt ++ [it] := by simp [List.filter_append, hit]
  have f2 : (its ++ [it]).filter isHd = its.filter isHd := by simp [List.filter_append, hne]
  have hh1 := OwnL.keepP (R := Rhead s) (pure_head s) hh hK (fun i hi hz => hh.off i hi hz)
  refine ⟨hB1, ⟨k, v', vh, hk, rfl, hB2, ?_, ?_⟩, ⟨?_, ?_⟩⟩
  · rw [f1]
    exact (OwnL.pure (R := Rpart s) (pure_part s) h1 (fun i hi hx => h1.off i hi (.inl hx))).keepP (pure_part s) hO (fun i hi hz => by have := h1.ge i hi; omega)
  · rw [f2]
    exact (OwnL.pure (R := Rhead s) (pure_head s) hh1 (fun i hi hx => h1.off i hx (.inl hi))).keepP (pure_head s) hO (fun i hi hz => by have := hh.ge i hi; omega)
  · exact (hK.mono fun i _ hi => (Dw_blk hB i).2 (.inr (.inl hi))).trans (hO.mono fun i _ hi => .inl hi)
  · intro i hi hd
    rcases (Dw_blk hB2 i).1 hd with h | h | h
    · exact .inl h
    · by_cases hx : vp.ownBlock = some i
      · exact (Dw_blk hB i).2 (.inr (.inl hx))
      · exact absurd (.inr ⟨hi, hx⟩) (h1.off i h)
    · exact (Dw_blk hB i).2 (.inr (.inr h))
theorem St.headed {w w1 : World} {g : Nat} {s : List UInt8} {k : Nat} {bad : Bool} {vp vl vh v' : Value} {its : List It} {it : It} (hk : k ≤ s.length) (hB : Blk w g 93 #[.string (bs s), .int .i64 k, .bool bad, vp, vl, vh])
    (hp : OwnL 3 (Rpart s) 95 (g + 1) (fun i => vh.ownBlock = some i) w vp (its.filter isPt)) (hh : OwnL 1 (Rhead s) 3 (g + 1) (fun i => vp.ownBlock = some i) w vh (its.filter isHd)) (hit : isHd it = true)
    (hK : Kept (fun i => vh.ownBlock = some i) w w1)
    (h1 : OwnL 1 (Rhead s) 3 (g + 1) (fun i => vp.ownBlock = some i ∨ (i < w.heap.size ∧ vh.ownBlock ≠ some i)) w1 v' (its.filter isHd ++ [it])) :
    Blk w1 g 93 #[.string (bs s), .int .i64 k, .bool bad, vp, vl, vh] ∧ St (w1.setCell ⟨g, 5, none⟩ v') g s (s.drop k) bad vl (its ++ [it]) ∧ Mv g w (w1.setCell ⟨g, 5, none⟩ v') := by
  have hB1 := hK.blk hB (fun h => by have := hh.ge g h; omega)
  have hB2 : Blk (w1.setCell ⟨g, 5, none⟩ v') g 93 #[.string (bs s), .int .i64 k, .bool bad, vp, vl, v'] := by
    have := hB1.set (u := v') 5
    simpa using this
  have hO : Only g w1 (w1.setCell ⟨g, 5, none⟩ v') := Only.set (Kept.refl _ _) 5 _
  have hne : isPt it = false := by simpa [isPt, isHd] using hit
  have f1 : (its ++ [it]).filter isPt = its.filter isPt := by simp [List.filter_append, hne]
  have f2 : (its ++ [it]).filter isHd = its.filter isHd ++ [it] := by simp [List.filter_append, hit]
  have hp1 := OwnL.keepP (R := Rpart s) (pure_part s) hp hK (fun i hi hz => hp.off i hi hz)
  refine ⟨hB1, ⟨k, vp, v', hk, rfl, hB2, ?_, ?_⟩, ⟨?_, ?_⟩⟩
  · rw [f1]
    exact (OwnL.pure (R := Rpart s) (pure_part s) hp1 (fun i hi hx => h1.off i hx (.inl hi))).keepP (pure_part s) hO (fun i hi hz => by have := hp.ge i hi; omega)
  · rw [f2]
    exact (OwnL.pure (R := Rhead s) (pure_head s) h1 (fun i hi hx => h1.off i hi (.inl hx))).keepP (pure_head s) hO (fun i hi hz => by have := h1.ge i hi; omega)
  · exact (hK.mono fun i _ hi => (Dw_blk hB i).2 (.inr (.inr hi))).trans (hO.mono fun i _ hi => .inl hi)
  · intro i hi hd
    rcases (Dw_blk hB2 i).1 hd with h | h | h
    · exact .inl h
    · exact (Dw_blk hB i).2 (.inr (.inl h))
    · by_cases hx : vh.ownBlock = some i
      · exact (Dw_blk hB i).2 (.inr (.inr hx))
      · exact absurd (.inr ⟨hi, hx⟩) (h1.off i h)
set_option maxRecDepth 20000 in
set_option maxHeartbeats 16000000 in
theorem epart_loop1 (g : Nat) (s r : List UInt8) (vl : Value) (its : List It) (w : World) (hs : s.length ≤ 1000000) (hcount : its.length ≤ 100000000) (h : St w g s r false vl its) :
    Calls Tryd.prog 122 #[.pointer (some ⟨g, 0, none⟩), .int .i64 1] w fun e w' => e = .returned (.string (bs (upTo nEnds r))) ∧ St w' g s (behind nEnds r) (upTo nEnds r).isEmpty vl (its ++ partI 1 r) ∧ Mv g w w' := by
  obtain ⟨k0, vp0, vh0, hk0, hr0, hB0, _, _⟩ := id h
  have c1 := hB0.cell 1
  simp at c1
  have HR := Lib.hid hr0
  clear hB0 hr0
  go_enter Tryd.func122, Tryd.ntmps122
  go_upto_block 0 with fail
  clear c1
  go_cut [] (fun wx => St wx g s (behind nEnds r) false vl its ∧ Mv g w wx)
  case first =>
    go_wp2_with fail
    go_loopg [] r.length (fun G wr => ∃ r' : List UInt8, G = r'.length ∧ St wr g s r' false vl its ∧ Mv g w wr ∧ Hid (behind nEnds r = behind nEnds r'))
    case atStart => exact ⟨r, rfl, h, Mv.refl _ _, Lib.hid rfl⟩
    case round =>
      clear h
      obtain ⟨r', rfl, hS, hM, HE⟩ := hrel
      go_wp2_with fail
      refine (has_any g s r' false vl its _ hS).mono ?_
      rintro e w1 ⟨rfl, hS1, hM1⟩
      have M1 := hM.trans hM1
      clear hS hM hM1
      cases r' with
      | nil =>
        have HE2 : Hid (behind nEnds r = []) := Lib.hid (by rw [HE.out]; rfl)
        go_wp2_with fail
        go_meet
        exact ⟨by rw [HE2.out]; exact hS1, M1⟩
      | cons c t =>
        go_wp2_with fail
        refine (next_any g s (c :: t) false vl its _ hS1).mono ?_
        rintro e w2 ⟨rfl, hS2, hM2⟩
        have M2 := M1.trans hM2
        clear hS1 hM2 M1
        by_cases q32 : c = 32
        · have b32 : ((headI (c :: t)) == 32) = true := (beq_byte c 32).trans (by simpa using q32)
          have HE2 : Hid (behind nEnds r = c :: t) := Lib.hid (by rw [HE.out, (upTo_stop nEnds c t (by subst q32; decide +kernel)).2])
          clear q32
          go_wp2_with fail
          go_meet
          exact ⟨by rw [HE2.out]; exact hS2, M2⟩
        have b32 : ((headI (c :: t)) == 32) = false := (beq_byte c 32).trans (by simpa using q32)
        by_cases q44 : c = 44
        · have b44 : ((headI (c :: t)) == 44) = true := (beq_byte c 44).trans (by simpa using q44)
          have HE2 : Hid (behind nEnds r = c :: t) := Lib.hid (by rw [HE.out, (upTo_stop nEnds c t (by subst q44; decide +kernel)).2])
          clear q32 q44
          go_wp2_with fail
          go_meet
          exact ⟨by rw [HE2.out]; exact hS2, M2⟩
        have b44 : ((headI (c :: t)) == 44) = false := (beq_byte c 44).trans (by simpa using q44)
        by_cases q124 : c = 124
        · have b124 : ((headI (c :: t)) == 124) = true := (beq_byte c 124).trans (by simpa using q124)
          have HE2 : Hid (behind nEnds r = c :: t) := Lib.hid (by rw [HE.out, (upTo_stop nEnds c t (by subst q124; decide +kernel)).2])
          clear q32 q44 q124
          go_wp2_with fail
          go_meet
          exact ⟨by rw [HE2.out]; exact hS2, M2⟩
        have b124 : ((headI (c :: t)) == 124) = false := (beq_byte c 124).trans (by simpa using q124)
        by_cases q40 : c = 40
        · have b40 : ((headI (c :: t)) == 40) = true := (beq_byte c 40).trans (by simpa using q40)
          have HE2 : Hid (behind nEnds r = c :: t) := Lib.hid (by rw [HE.out, (upTo_stop nEnds c t (by subst q40; decide +kernel)).2])
          clear q32 q44 q124 q40
          go_wp2_with fail
          go_meet
          exact ⟨by rw [HE2.out]; exact hS2, M2⟩
        have b40 : ((headI (c :: t)) == 40) = false := (beq_byte c 40).trans (by simpa using q40)
        by_cases q41 : c = 41
        · have b41 : ((headI (c :: t)) == 41) = true := (beq_byte c 41).trans (by simpa using q41)
          have HE2 : Hid (behind nEnds r = c :: t) := Lib.hid (by rw [HE.out, (upTo_stop nEnds c t (by subst q41; decide +kernel)).2])
          clear q32 q44 q124 q40 q41
          go_wp2_with fail
          go_meet
          exact ⟨by rw [HE2.out]; exact hS2, M2⟩
        have b41 : ((headI (c :: t)) == 41) = false := (beq_byte c 41).trans (by simpa using q41)
        by_cases q91 : c = 91
        · have b91 : ((headI (c :: t)) == 91) = true := (beq_byte c 91).trans (by simpa using q91)
          have HE2 : Hid (behind nEnds r = c :: t) := Lib.hid (by rw [HE.out, (upTo_stop nEnds c t (by subst q91; decide +kernel)).2])
          clear q32 q44 q124 q40 q41 q91
          go_wp2_with fail
          go_meet
          exact ⟨by rw [HE2.out]; exact hS2, M2⟩
        have b91 : ((headI (c :: t)) == 91) = false := (beq_byte c 91).trans (by simpa using q91)
        by_cases q93 : c = 93
        · have b93 : ((headI (c :: t)) == 93) = true := (beq_byte c 93).trans (by simpa using q93)
          have HE2 : Hid (behind nEnds r = c :: t) := Lib.hid (by rw [HE.out, (upTo_stop nEnds c t (by subst q93; decide +kernel)).2])
          clear q32 q44 q124 q40 q41 q91 q93
          go_wp2_with fail
          go_meet
          exact ⟨by rw [HE2.out]; exact hS2, M2⟩
        have b93 : ((headI (c :: t)) == 93) = false := (beq_byte c 93).trans (by simpa using q93)
        by_cases q58 : c = 58
        · have b58 : ((headI (c :: t)) == 58) = true := (beq_byte c 58).trans (by simpa using q58)
          have HE2 : Hid (behind nEnds r = c :: t) := Lib.hid (by rw [HE.out, (upTo_stop nEnds c t (by subst q58; decide +kernel)).2])
          clear q32 q44 q124 q40 q41 q91 q93 q58
          go_wp2_with fail
          go_meet
          exact ⟨by rw [HE2.out]; exact hS2, M2⟩
        have b58 : ((headI (c :: t)) == 58) = false := (beq_byte c 58).trans (by simpa using q58)
        have HE2 : Hid (behind nEnds r = behind nEnds t) := Lib.hid (by rw [HE.out, (upTo_cons nEnds c t (by
          have := inB_mem nEnds c
          cases hb : inB nEnds c with
          | false => rfl
          | true => exact absurd (this.1 hb) (by simp [nEnds, q32, q44, q124, q40, q41, q91, q93, q58]))).2])
        clear q32 q44 q124 q40 q41 q91 q93 q58
        obtain ⟨k, c1, hlt, _, hS3, hM3⟩ := hS2.parts (by simp)
        obtain ⟨_, vp, vh, hB⟩ := hS2.free1
        have f1 := hB.free 1
        have M3 := M2.trans hM3
        clear hB hS2
        go_wp2_with fail
        go_roundg t.length
        case measure => simp
        case rel => exact ⟨t, rfl, hS3, M3, HE2⟩
  case rest =>
    obtain ⟨hS, hM⟩ := hcut
    clear h
    have hub := upTo_behind nEnds r
    obtain ⟨k, vp, vh, hk, hbr, hB, hp, hh⟩ := id hS
    have c0 := hB.cell 0
    have c1 := hB.cell 1
    have c2 := hB.cell 2
    have c3 := hB.cell 3
    have f2 := hB.free 2
    have f3 := hB.free 3
    simp at c0 c1 c2 c3
    have hlen : (upTo nEnds r).length + (s.length - k) = s.length - k0 := by
      have h1 := congrArg List.length hub
      rw [List.length_append, hbr, List.length_drop] at h1
      rw [h1, HR.out, List.length_drop]
    by_cases h0 : upTo nEnds r = []
    · rw [h0] at hlen
      have hkk : k = k0 := by simp at hlen; omega
      subst hkk
      have hd : ((k : Int) == (k : Int)) = true := by simp
      obtain ⟨hS2, hM2⟩ := hS.bad
      have HP : Hid (upTo nEnds r = [] ∧ its ++ partI 1 r = its) := Lib.hid ⟨h0, by rw [partI, show endsK 1 = nEnds from rfl, if_pos h0, List.append_nil]⟩
      have M2 := hM.trans hM2
      clear h0 hlen hub hp hh hB hbr hS hM
      go_wp2_with fail
      go_ret
      rw [HP.out.1, HP.out.2]
      exact ⟨rfl, hS2, M2⟩
    · have hpos : 0 < (upTo nEnds r).length := List.length_pos_iff.2 h0
      have hlt : k0 < k := by omega
      have hd : ((k : Int) == (k0 : Int)) = false := beq_eq_false_iff_ne.2 (by omega)
      have hz : (bs s).size = s.length := bs_size s
      have i1 : (0 : Int) ≤ (k0 : Int) := by omega
      have i2 : (k0 : Int) ≤ (k : Int) := by omega
      have i3 : (k : Int) ≤ ((bs s).size : Int) := by rw [hz]; omega
      have hX : (bs s).extract k0 k = bs (upTo nEnds r) := by
        have e1 : upTo nEnds r = (s.drop k0).take (k - k0) := by
          rw [← HR.out]
          conv => rhs; rw [← hub]
          rw [show k - k0 = (upTo nEnds r).length by omega, List.take_left' rfl]
        rw [e1]
        refine bs_of _ _ ?_
        rw [ByteArray.data_extract]
        simp [bs, List.take_drop]
      have HX := Lib.hid hX
      have hat : itAt s ⟨1, r, upTo nEnds r⟩ = (k0 : Int) := by
        unfold itAt
        have : r.length = s.length - k0 := by rw [HR.out, List.length_drop]
        show (s.length : Int) - (r.length : Int) = _
        omega
      have HAT := Lib.hid hat
      have HPI : Hid (partI 1 r = [⟨1, r, upTo nEnds r⟩]) := Lib.hid (by rw [partI, show endsK 1 = nEnds from rfl, if_neg h0])
      have HEM : Hid ((upTo nEnds r).isEmpty = false) := Lib.hid (by simpa using h0)
      have HBR := Lib.hid hbr
      have hpl : (its.filter isPt).length + 1 ≤ 1000000000000 := by have := List.length_filter_le isPt its; omega
      clear h0 hlen hub hX hat hbr hpos hcount
      go_wp2_with fail
      refine wp_region_plan2 (wkD [94]) (fun W => W.cell? ⟨g, 0, none⟩ = some (.string (bs s)) ∧ W.cell? ⟨g, 1, none⟩ = some (.int .i64 k) ∧ W.cell? ⟨g, 3, none⟩ = some vp) (fun _ => True) (fun _ _ => trivial) [(false, 0), (false, 1), (false, 2), (false, 3), (false, 4), (false, 5), (false, 6), (false, 7), (false, 8), (false, 9), (false, 10), (false, 11), (false, 12), (false, 13), (false, 14), (false, 15), (false, 16), (false, 17), (true, 18), (true, 19), (false, 20), (false, 21), (true, 22)] (by kernel_rfl) (by kernel_rfl) (⟨by simpa using c0, by simpa using c1, by simpa using c3⟩) ?_
      simp only [planOps, List.map, List.getD_cons_zero, List.getD_cons_succ]
      iterate 18 ((first | refine plan_quiet (v := ?_) rfl rfl (fun w' hw' => ?_) ?_ | refine plan_calm (v := ?_) (fun _ _ => trivial) rfl (fun w' hw' => ?_) ?_); rotate_left; (focus (go_simp <;> with_reducible rfl)); simp only [Act.put, List.setIfInBounds_toArray, List.set_cons_zero, List.set_cons_succ])
      refine plan_loud rfl (fun K hK => ?_)
      go_simp
      have m1 := (hB.alloc (.cells #[.int .i64 1, .int .i64 k0, .string ((bs s).extract k0 k)] 95)).drew
      have kA : Kept nowhere wc (wc.alloc (.cells #[.int .i64 1, .int .i64 k0, .string ((bs s).extract k0 k)] 95)).drew := ((Kept.refl nowhere wc).alloc _).drew
      refine hK _ _ (⟨by simpa using m1.cell 0, by simpa using m1.cell 1, by simpa using m1.cell 3⟩) ?_
      clear hK K
      (try simp only [Act.put, List.setIfInBounds_toArray, List.set_cons_zero, List.set_cons_succ])
      refine plan_loud rfl (fun K hK => ?_)
      have hpA := OwnL.pure (R := Rpart s) (Y := fun i => vh.ownBlock = some i ∨ (i < wc.heap.size ∧ vp.ownBlock ≠ some i)) (pure_part s) (OwnL.keepP (R := Rpart s) (pure_part s) hp kA (fun _ _ h => h)) (fun i hi hx => hx.elim (hp.off i hi) (fun h => h.2 hi))
      refine wp_appendL (X := fun i => vh.ownBlock = some i ∨ (i < wc.heap.size ∧ vp.ownBlock ≠ some i)) (good_part s) _ _ _ _ _ 32 rfl Tryd.underlying90 info_part rfl (by omega) (g + 1) rfl hpA wc.heap.size 1 [.int .i64 1, .int .i64 k0, .string ((bs s).extract k0 k)] ⟨1, r, upTo nEnds r⟩ rfl (Blk.new wc 95 #[.int .i64 1, .int .i64 k0, .string ((bs s).extract k0 k)]).drew (by show _ = _; rw [HAT.out, HX.out]; rfl) hpl (by omega) (by simp; have := hB.lt; omega) (fun i hi hx => ?_) ?_
      · simp at hi
        rcases hx with h | h
        · have := hh.ltw i h; omega
        · omega
      intro v' w1 hown1 hk1
      have kP : Kept (fun i => vp.ownBlock = some i) wc w1 := (kA.mono fun _ _ h => h.elim).trans hk1
      obtain ⟨hB1, hS3, hM3⟩ := St.pushed hk hB hp hh (it := ⟨1, r, upTo nEnds r⟩) rfl kP hown1
      have d0 := hB1.cell 0
      have d1 := hB1.cell 1
      have d3 := hB1.cell 3
      have g3 := hB1.free 3
      simp at d0 d1 d3
      obtain ⟨A1, cap1, hv1⟩ := hown1.form
      rw [List.length_append, List.length_singleton] at hv1
      subst hv1
      clear hown1 hk1 hpA kP m1 kA
      refine hK _ _ (⟨d0, d1, d3⟩) ?_
      clear hK K
      (try simp only [Act.put, List.setIfInBounds_toArray, List.set_cons_zero, List.set_cons_succ])
      iterate 2 ((first | refine plan_quiet (v := ?_) rfl rfl (fun w' hw' => ?_) ?_ | refine plan_calm (v := ?_) (fun _ _ => trivial) rfl (fun w' hw' => ?_) ?_); rotate_left; (focus (go_simp <;> with_reducible rfl)); simp only [Act.put, List.setIfInBounds_toArray, List.set_cons_zero, List.set_cons_succ])
      refine plan_last rfl (by kernel_rfl) (by kernel_rfl) (fun K hK => ?_)
      go_simp
      refine hK _ _ (trivial) ?_
      clear hK K
      (try simp only [Act.put, List.setIfInBounds_toArray, List.set_cons_zero, List.set_cons_succ])
      refine plan_end ?_
      have hB3 := hB1.set (u := .slice A1 ((its.filter isPt).length + 1) cap1) 3
      have q0 := hB3.cell 0
      have q1 := hB3.cell 1
      simp only [Array.setIfInBounds] at q0 q1
      have q0 : (w1.setCell ⟨g, 3, none⟩ (.slice A1 ((its.filter isPt).length + 1) cap1)).cell? ⟨g, 0, none⟩ = some (.string (bs s)) := q0
      have q1 : (w1.setCell ⟨g, 3, none⟩ (.slice A1 ((its.filter isPt).length + 1) cap1)).cell? ⟨g, 1, none⟩ = some (.int .i64 k) := q1
      clear hB3 hB1
      generalize (w1.setCell ⟨g, 3, none⟩ (.slice A1 ((its.filter isPt).length + 1) cap1)) = w2 at hS3 hM3 q0 q1 ⊢
      have hS4 := hS3.drew
      have M4 := (hM.trans hM3).trans (Mv.drew hS3)
      rw [← HBR.out, ← HPI.out] at hS4
      clear hS hM hS3 hM3 hB hp hh d0 d1 d3 c0 c1 c2 c3
      go_wp2_with fail
      refine wp_region_plan (fun W => W.cell? ⟨g, 0, none⟩ = some (.string (bs s)) ∧ W.cell? ⟨g, 1, none⟩ = some (.int .i64 k)) [(false, 0), (false, 1), (false, 2), (false, 3), (false, 4), (false, 5), (false, 6), (false, 7), (false, 8), (false, 9), (false, 10)] (by kernel_rfl) (by kernel_rfl) (⟨by simpa using q0, by simpa using q1⟩) ?_
      simp only [planOps, List.map, List.getD_cons_zero, List.getD_cons_succ]
      iterate 11 ((first | refine plan_quiet (v := ?_) rfl rfl (fun w' hw' => ?_) ?_ | refine plan_calm (v := ?_) (tt_of) rfl (fun w' hw' => ?_) ?_); rotate_left; (focus (go_simp <;> with_reducible rfl)); simp only [Act.put, List.setIfInBounds_toArray, List.set_cons_zero, List.set_cons_succ])
      refine plan_end ?_
      go_wp2_with fail
      go_ret
      rw [HEM.out, ← HX.out]
      exact ⟨rfl, hS4, M4⟩
set_option maxRecDepth 20000 in
set_option maxHeartbeats 16000000 in
theorem epart_loop2 (g : Nat) (s r : List UInt8) (vl : Value) (its : List It) (w : World) (hs : s.length ≤ 1000000) (hcount : its.length ≤ 100000000) (h : St w g s r false vl its) :
    Calls Tryd.prog 122 #[.pointer (some ⟨g, 0, none⟩), .int .i64 2] w fun e w' => e = .returned (.string (bs (upTo wEnds r))) ∧ St w' g s (behind wEnds r) (upTo wEnds r).isEmpty vl (its ++ partI 2 r) ∧ Mv g w w' := by
  obtain ⟨k0, vp0, vh0, hk0, hr0, hB0, _, _⟩ := id h
  have c1 := hB0.cell 1
  simp at c1
  have HR := Lib.hid hr0
  clear hB0 hr0
  go_enter Tryd.func122, Tryd.ntmps122
  go_upto_block 0 with fail
  clear c1
  go_cut [] (fun wx => St wx g s (behind wEnds r) false vl its ∧ Mv g w wx)
  case first =>
    go_wp2_with fail
    go_loopg [] r.length (fun G wr => ∃ r' : List UInt8, G = r'.length ∧ St wr g s r' false vl its ∧ Mv g w wr ∧ Hid (behind wEnds r = behind wEnds r'))
    case atStart => exact ⟨r, rfl, h, Mv.refl _ _, Lib.hid rfl⟩
    case round =>
      clear h
      obtain ⟨r', rfl, hS, hM, HE⟩ := hrel
      go_wp2_with fail
      refine (has_any g s r' false vl its _ hS).mono ?_
      rintro e w1 ⟨rfl, hS1, hM1⟩
      have M1 := hM.trans hM1
      clear hS hM hM1
      cases r' with
      | nil =>
        have HE2 : Hid (behind wEnds r = []) := Lib.hid (by rw [HE.out]; rfl)
        go_wp2_with fail
        go_meet
        exact ⟨by rw [HE2.out]; exact hS1, M1⟩
      | cons c t =>
        go_wp2_with fail
        refine (next_any g s (c :: t) false vl its _ hS1).mono ?_
        rintro e w2 ⟨rfl, hS2, hM2⟩
        have M2 := M1.trans hM2
        clear hS1 hM2 M1
        by_cases q32 : c = 32
        · have b32 : ((headI (c :: t)) == 32) = true := (beq_byte c 32).trans (by simpa using q32)
          have HE2 : Hid (behind wEnds r = c :: t) := Lib.hid (by rw [HE.out, (upTo_stop wEnds c t (by subst q32; decide +kernel)).2])
          clear q32
          go_wp2_with fail
          go_meet
          exact ⟨by rw [HE2.out]; exact hS2, M2⟩
        have b32 : ((headI (c :: t)) == 32) = false := (beq_byte c 32).trans (by simpa using q32)
        by_cases q44 : c = 44
        · have b44 : ((headI (c :: t)) == 44) = true := (beq_byte c 44).trans (by simpa using q44)
          have HE2 : Hid (behind wEnds r = c :: t) := Lib.hid (by rw [HE.out, (upTo_stop wEnds c t (by subst q44; decide +kernel)).2])
          clear q32 q44
          go_wp2_with fail
          go_meet
          exact ⟨by rw [HE2.out]; exact hS2, M2⟩
        have b44 : ((headI (c :: t)) == 44) = false := (beq_byte c 44).trans (by simpa using q44)
        by_cases q124 : c = 124
        · have b124 : ((headI (c :: t)) == 124) = true := (beq_byte c 124).trans (by simpa using q124)
          have HE2 : Hid (behind wEnds r = c :: t) := Lib.hid (by rw [HE.out, (upTo_stop wEnds c t (by subst q124; decide +kernel)).2])
          clear q32 q44 q124
          go_wp2_with fail
          go_meet
          exact ⟨by rw [HE2.out]; exact hS2, M2⟩
        have b124 : ((headI (c :: t)) == 124) = false := (beq_byte c 124).trans (by simpa using q124)
        by_cases q40 : c = 40
        · have b40 : ((headI (c :: t)) == 40) = true := (beq_byte c 40).trans (by simpa using q40)
          have HE2 : Hid (behind wEnds r = c :: t) := Lib.hid (by rw [HE.out, (upTo_stop wEnds c t (by subst q40; decide +kernel)).2])
          clear q32 q44 q124 q40
          go_wp2_with fail
          go_meet
          exact ⟨by rw [HE2.out]; exact hS2, M2⟩
        have b40 : ((headI (c :: t)) == 40) = false := (beq_byte c 40).trans (by simpa using q40)
        by_cases q41 : c = 41
        · have b41 : ((headI (c :: t)) == 41) = true := (beq_byte c 41).trans (by simpa using q41)
          have HE2 : Hid (behind wEnds r = c :: t) := Lib.hid (by rw [HE.out, (upTo_stop wEnds c t (by subst q41; decide +kernel)).2])
          clear q32 q44 q124 q40 q41
          go_wp2_with fail
          go_meet
          exact ⟨by rw [HE2.out]; exact hS2, M2⟩
        have b41 : ((headI (c :: t)) == 41) = false := (beq_byte c 41).trans (by simpa using q41)
        by_cases q91 : c = 91
        · have b91 : ((headI (c :: t)) == 91) = true := (beq_byte c 91).trans (by simpa using q91)
          have HE2 : Hid (behind wEnds r = c :: t) := Lib.hid (by rw [HE.out, (upTo_stop wEnds c t (by subst q91; decide +kernel)).2])
          clear q32 q44 q124 q40 q41 q91
          go_wp2_with fail
          go_meet
          exact ⟨by rw [HE2.out]; exact hS2, M2⟩
        have b91 : ((headI (c :: t)) == 91) = false := (beq_byte c 91).trans (by simpa using q91)
        by_cases q93 : c = 93
        · have b93 : ((headI (c :: t)) == 93) = true := (beq_byte c 93).trans (by simpa using q93)
          have HE2 : Hid (behind wEnds r = c :: t) := Lib.hid (by rw [HE.out, (upTo_stop wEnds c t (by subst q93; decide +kernel)).2])
          clear q32 q44 q124 q40 q41 q91 q93
          go_wp2_with fail
          go_meet
          exact ⟨by rw [HE2.out]; exact hS2, M2⟩
        have b93 : ((headI (c :: t)) == 93) = false := (beq_byte c 93).trans (by simpa using q93)
        by_cases q58 : c = 58
        · have b58 : ((headI (c :: t)) == 58) = true := (beq_byte c 58).trans (by simpa using q58)
          have HE2 : Hid (behind wEnds r = c :: t) := Lib.hid (by rw [HE.out, (upTo_stop wEnds c t (by subst q58; decide +kernel)).2])
          clear q32 q44 q124 q40 q41 q91 q93 q58
          go_wp2_with fail
          go_meet
          exact ⟨by rw [HE2.out]; exact hS2, M2⟩
        have b58 : ((headI (c :: t)) == 58) = false := (beq_byte c 58).trans (by simpa using q58)
        by_cases q33 : c = 33
        · have b33 : ((headI (c :: t)) == 33) = true := (beq_byte c 33).trans (by simpa using q33)
          have HE2 : Hid (behind wEnds r = c :: t) := Lib.hid (by rw [HE.out, (upTo_stop wEnds c t (by subst q33; decide +kernel)).2])
          clear q32 q44 q124 q40 q41 q91 q93 q58 q33
          go_wp2_with fail
          go_meet
          exact ⟨by rw [HE2.out]; exact hS2, M2⟩
        have b33 : ((headI (c :: t)) == 33) = false := (beq_byte c 33).trans (by simpa using q33)
        have HE2 : Hid (behind wEnds r = behind wEnds t) := Lib.hid (by rw [HE.out, (upTo_cons wEnds c t (by
          have := inB_mem wEnds c
          cases hb : inB wEnds c with
          | false => rfl
          | true => exact absurd (this.1 hb) (by simp [wEnds, q32, q44, q124, q40, q41, q91, q93, q58, q33]))).2])
        clear q32 q44 q124 q40 q41 q91 q93 q58 q33
        obtain ⟨k, c1, hlt, _, hS3, hM3⟩ := hS2.parts (by simp)
        obtain ⟨_, vp, vh, hB⟩ := hS2.free1
        have f1 := hB.free 1
        have M3 := M2.trans hM3
        clear hB hS2
        go_wp2_with fail
        go_roundg t.length
        case measure => simp
        case rel => exact ⟨t, rfl, hS3, M3, HE2⟩
  case rest =>
    obtain ⟨hS, hM⟩ := hcut
    clear h
    have hub := upTo_behind wEnds r
    obtain ⟨k, vp, vh, hk, hbr, hB, hp, hh⟩ := id hS
    have c0 := hB.cell 0
    have c1 := hB.cell 1
    have c2 := hB.cell 2
    have c3 := hB.cell 3
    have f2 := hB.free 2
    have f3 := hB.free 3
    simp at c0 c1 c2 c3
    have hlen : (upTo wEnds r).length + (s.length - k) = s.length - k0 := by
      have h1 := congrArg List.length hub
      rw [List.length_append, hbr, List.length_drop] at h1
      rw [h1, HR.out, List.length_drop]
    by_cases h0 : upTo wEnds r = []
    · rw [h0] at hlen
      have hkk : k = k0 := by simp at hlen; omega
      subst hkk
      have hd : ((k : Int) == (k : Int)) = true := by simp
      obtain ⟨hS2, hM2⟩ := hS.bad
      have HP : Hid (upTo wEnds r = [] ∧ its ++ partI 2 r = its) := Lib.hid ⟨h0, by rw [partI, show endsK 2 = wEnds from rfl, if_pos h0, List.append_nil]⟩
      have M2 := hM.trans hM2
      clear h0 hlen hub hp hh hB hbr hS hM
      go_wp2_with fail
      go_ret
      rw [HP.out.1, HP.out.2]
      exact ⟨rfl, hS2, M2⟩
    · have hpos : 0 < (upTo wEnds r).length := List.length_pos_iff.2 h0
      have hlt : k0 < k := by omega
      have hd : ((k : Int) == (k0 : Int)) = false := beq_eq_false_iff_ne.2 (by omega)
      have hz : (bs s).size = s.length := bs_size s
      have i1 : (0 : Int) ≤ (k0 : Int) := by omega
      have i2 : (k0 : Int) ≤ (k : Int) := by omega
      have i3 : (k : Int) ≤ ((bs s).size : Int) := by rw [hz]; omega
      have hX : (bs s).extract k0 k = bs (upTo wEnds r) := by
        have e1 : upTo wEnds r = (s.drop k0).take (k - k0) := by
          rw [← HR.out]
          conv => rhs; rw [← hub]
          rw [show k - k0 = (upTo wEnds r).length by omega, List.take_left' rfl]
        rw [e1]
        refine bs_of _ _ ?_
        rw [ByteArray.data_extract]
        simp [bs, List.take_drop]
      have HX := Lib.hid hX
      have hat : itAt s ⟨2, r, upTo wEnds r⟩ = (k0 : Int) := by
        unfold itAt
        have : r.length = s.length - k0 := by rw [HR.out, List.length_drop]
        show (s.length : Int) - (r.length : Int) = _
        omega
      have HAT := Lib.hid hat
      have HPI : Hid (partI 2 r = [⟨2, r, upTo wEnds r⟩]) := Lib.hid (by rw [partI, show endsK 2 = wEnds from rfl, if_neg h0])
      have HEM : Hid ((upTo wEnds r).isEmpty = false) := Lib.hid (by simpa using h0)
      have HBR := Lib.hid hbr
      have hpl : (its.filter isPt).length + 1 ≤ 1000000000000 := by have := List.length_filter_le isPt its; omega
      clear h0 hlen hub hX hat hbr hpos hcount
      go_wp2_with fail
      refine wp_region_plan2 (wkD [94]) (fun W => W.cell? ⟨g, 0, none⟩ = some (.string (bs s)) ∧ W.cell? ⟨g, 1, none⟩ = some (.int .i64 k) ∧ W.cell? ⟨g, 3, none⟩ = some vp) (fun _ => True) (fun _ _ => trivial) [(false, 0), (false, 1), (false, 2), (false, 3), (false, 4), (false, 5), (false, 6), (false, 7), (false, 8), (false, 9), (false, 10), (false, 11), (false, 12), (false, 13), (false, 14), (false, 15), (false, 16), (false, 17), (true, 18), (true, 19), (false, 20), (false, 21), (true, 22)] (by kernel_rfl) (by kernel_rfl) (⟨by simpa using c0, by simpa using c1, by simpa using c3⟩) ?_
      simp only [planOps, List.map, List.getD_cons_zero, List.getD_cons_succ]
      iterate 18 ((first | refine plan_quiet (v := ?_) rfl rfl (fun w' hw' => ?_) ?_ | refine plan_calm (v := ?_) (fun _ _ => trivial) rfl (fun w' hw' => ?_) ?_); rotate_left; (focus (go_simp <;> with_reducible rfl)); simp only [Act.put, List.setIfInBounds_toArray, List.set_cons_zero, List.set_cons_succ])
      refine plan_loud rfl (fun K hK => ?_)
      go_simp
      have m1 := (hB.alloc (.cells #[.int .i64 2, .int .i64 k0, .string ((bs s).extract k0 k)] 95)).drew
      have kA : Kept nowhere wc (wc.alloc (.cells #[.int .i64 2, .int .i64 k0, .string ((bs s).extract k0 k)] 95)).drew := ((Kept.refl nowhere wc).alloc _).drew
      refine hK _ _ (⟨by simpa using m1.cell 0, by simpa using m1.cell 1, by simpa using m1.cell 3⟩) ?_
      clear hK K
      (try simp only [Act.put, List.setIfInBounds_toArray, List.set_cons_zero, List.set_cons_succ])
      refine plan_loud rfl (fun K hK => ?_)
      have hpA := OwnL.pure (R := Rpart s) (Y := fun i => vh.ownBlock = some i ∨ (i < wc.heap.size ∧ vp.ownBlock ≠ some i)) (pure_part s) (OwnL.keepP (R := Rpart s) (pure_part s) hp kA (fun _ _ h => h)) (fun i hi hx => hx.elim (hp.off i hi) (fun h => h.2 hi))
      refine wp_appendL (X := fun i => vh.ownBlock = some i ∨ (i < wc.heap.size ∧ vp.ownBlock ≠ some i)) (good_part s) _ _ _ _ _ 32 rfl Tryd.underlying90 info_part rfl (by omega) (g + 1) rfl hpA wc.heap.size 1 [.int .i64 2, .int .i64 k0, .string ((bs s).extract k0 k)] ⟨2, r, upTo wEnds r⟩ rfl (Blk.new wc 95 #[.int .i64 2, .int .i64 k0, .string ((bs s).extract k0 k)]).drew (by show _ = _; rw [HAT.out, HX.out]; rfl) hpl (by omega) (by simp; have := hB.lt; omega) (fun i hi hx => ?_) ?_
      · simp at hi
        rcases hx with h | h
        · have := hh.ltw i h; omega
        · omega
      intro v' w1 hown1 hk1
      have kP : Kept (fun i => vp.ownBlock = some i) wc w1 := (kA.mono fun _ _ h => h.elim).trans hk1
      obtain ⟨hB1, hS3, hM3⟩ := St.pushed hk hB hp hh (it := ⟨2, r, upTo wEnds r⟩) rfl kP hown1
      have d0 := hB1.cell 0
      have d1 := hB1.cell 1
      have d3 := hB1.cell 3
      have g3 := hB1.free 3
      simp at d0 d1 d3
      obtain ⟨A1, cap1, hv1⟩ := hown1.form
      rw [List.length_append, List.length_singleton] at hv1
      subst hv1
      clear hown1 hk1 hpA kP m1 kA
      refine hK _ _ (⟨d0, d1, d3⟩) ?_
      clear hK K
      (try simp only [Act.put, List.setIfInBounds_toArray, List.set_cons_zero, List.set_cons_succ])
      iterate 2 ((first | refine plan_quiet (v := ?_) rfl rfl (fun w' hw' => ?_) ?_ | refine plan_calm (v := ?_) (fun _ _ => trivial) rfl (fun w' hw' => ?_) ?_); rotate_left; (focus (go_simp <;> with_reducible rfl)); simp only [Act.put, List.setIfInBounds_toArray, List.set_cons_zero, List.set_cons_succ])
      refine plan_last rfl (by kernel_rfl) (by kernel_rfl) (fun K hK => ?_)
      go_simp
      refine hK _ _ (trivial) ?_
      clear hK K
      (try simp only [Act.put, List.setIfInBounds_toArray, List.set_cons_zero, List.set_cons_succ])
      refine plan_end ?_
      have hB3 := hB1.set (u := .slice A1 ((its.filter isPt).length + 1) cap1) 3
      have q0 := hB3.cell 0
      have q1 := hB3.cell 1
      simp only [Array.setIfInBounds] at q0 q1
      have q0 : (w1.setCell ⟨g, 3, none⟩ (.slice A1 ((its.filter isPt).length + 1) cap1)).cell? ⟨g, 0, none⟩ = some (.string (bs s)) := q0
      have q1 : (w1.setCell ⟨g, 3, none⟩ (.slice A1 ((its.filter isPt).length + 1) cap1)).cell? ⟨g, 1, none⟩ = some (.int .i64 k) := q1
      clear hB3 hB1
      generalize (w1.setCell ⟨g, 3, none⟩ (.slice A1 ((its.filter isPt).length + 1) cap1)) = w2 at hS3 hM3 q0 q1 ⊢
      have hS4 := hS3.drew
      have M4 := (hM.trans hM3).trans (Mv.drew hS3)
      rw [← HBR.out, ← HPI.out] at hS4
      clear hS hM hS3 hM3 hB hp hh d0 d1 d3 c0 c1 c2 c3
      go_wp2_with fail
      refine wp_region_plan (fun W => W.cell? ⟨g, 0, none⟩ = some (.string (bs s)) ∧ W.cell? ⟨g, 1, none⟩ = some (.int .i64 k)) [(false, 0), (false, 1), (false, 2), (false, 3), (false, 4), (false, 5), (false, 6), (false, 7), (false, 8), (false, 9), (false, 10)] (by kernel_rfl) (by kernel_rfl) (⟨by simpa using q0, by simpa using q1⟩) ?_
      simp only [planOps, List.map, List.getD_cons_zero, List.getD_cons_succ]
      iterate 11 ((first | refine plan_quiet (v := ?_) rfl rfl (fun w' hw' => ?_) ?_ | refine plan_calm (v := ?_) (tt_of) rfl (fun w' hw' => ?_) ?_); rotate_left; (focus (go_simp <;> with_reducible rfl)); simp only [Act.put, List.setIfInBounds_toArray, List.set_cons_zero, List.set_cons_succ])
      refine plan_end ?_
      go_wp2_with fail
      go_ret
      rw [HEM.out, ← HX.out]
      exact ⟨rfl, hS4, M4⟩
set_option maxRecDepth 20000 in
set_option maxHeartbeats 16000000 in
theorem epart_loop3 (g : Nat) (s r : List UInt8) (vl : Value) (its : List It) (w : World) (hs : s.length ≤ 1000000) (hcount : its.length ≤ 100000000) (h : St w g s r false vl its) :
    Calls Tryd.prog 122 #[.pointer (some ⟨g, 0, none⟩), .int .i64 3] w fun e w' => e = .returned (.string (bs (upTo vEnds r))) ∧ St w' g s (behind vEnds r) (upTo vEnds r).isEmpty vl (its ++ partI 3 r) ∧ Mv g w w' := by
  obtain ⟨k0, vp0, vh0, hk0, hr0, hB0, _, _⟩ := id h
  have c1 := hB0.cell 1
  simp at c1
  have HR := Lib.hid hr0
  clear hB0 hr0
  go_enter Tryd.func122, Tryd.ntmps122
  go_upto_block 0 with fail
  clear c1
  go_cut [] (fun wx => St wx g s (behind vEnds r) false vl its ∧ Mv g w wx)
  case first =>
    go_wp2_with fail
    go_loopg [] r.length (fun G wr => ∃ r' : List UInt8, G = r'.length ∧ St wr g s r' false vl its ∧ Mv g w wr ∧ Hid (behind vEnds r = behind vEnds r'))
    case atStart => exact ⟨r, rfl, h, Mv.refl _ _, Lib.hid rfl⟩
    case round =>
      clear h
      obtain ⟨r', rfl, hS, hM, HE⟩ := hrel
      go_wp2_with fail
      refine (has_any g s r' false vl its _ hS).mono ?_
      rintro e w1 ⟨rfl, hS1, hM1⟩
      have M1 := hM.trans hM1
      clear hS hM hM1
      cases r' with
      | nil =>
        have HE2 : Hid (behind vEnds r = []) := Lib.hid (by rw [HE.out]; rfl)
        go_wp2_with fail
        go_meet
        exact ⟨by rw [HE2.out]; exact hS1, M1⟩
      | cons c t =>
        go_wp2_with fail
        refine (next_any g s (c :: t) false vl its _ hS1).mono ?_
        rintro e w2 ⟨rfl, hS2, hM2⟩
        have M2 := M1.trans hM2
        clear hS1 hM2 M1
        by_cases q32 : c = 32
        · have b32 : ((headI (c :: t)) == 32) = true := (beq_byte c 32).trans (by simpa using q32)
          have HE2 : Hid (behind vEnds r = c :: t) := Lib.hid (by rw [HE.out, (upTo_stop vEnds c t (by subst q32; decide +kernel)).2])
          clear q32
          go_wp2_with fail
          go_meet
          exact ⟨by rw [HE2.out]; exact hS2, M2⟩
        have b32 : ((headI (c :: t)) == 32) = false := (beq_byte c 32).trans (by simpa using q32)
        by_cases q44 : c = 44
        · have b44 : ((headI (c :: t)) == 44) = true := (beq_byte c 44).trans (by simpa using q44)
          have HE2 : Hid (behind vEnds r = c :: t) := Lib.hid (by rw [HE.out, (upTo_stop vEnds c t (by subst q44; decide +kernel)).2])
          clear q32 q44
          go_wp2_with fail
          go_meet
          exact ⟨by rw [HE2.out]; exact hS2, M2⟩
        have b44 : ((headI (c :: t)) == 44) = false := (beq_byte c 44).trans (by simpa using q44)
        by_cases q124 : c = 124
        · have b124 : ((headI (c :: t)) == 124) = true := (beq_byte c 124).trans (by simpa using q124)
          have HE2 : Hid (behind vEnds r = c :: t) := Lib.hid (by rw [HE.out, (upTo_stop vEnds c t (by subst q124; decide +kernel)).2])
          clear q32 q44 q124
          go_wp2_with fail
          go_meet
          exact ⟨by rw [HE2.out]; exact hS2, M2⟩
        have b124 : ((headI (c :: t)) == 124) = false := (beq_byte c 124).trans (by simpa using q124)
        by_cases q40 : c = 40
        · have b40 : ((headI (c :: t)) == 40) = true := (beq_byte c 40).trans (by simpa using q40)
          have HE2 : Hid (behind vEnds r = c :: t) := Lib.hid (by rw [HE.out, (upTo_stop vEnds c t (by subst q40; decide +kernel)).2])
          clear q32 q44 q124 q40
          go_wp2_with fail
          go_meet
          exact ⟨by rw [HE2.out]; exact hS2, M2⟩
        have b40 : ((headI (c :: t)) == 40) = false := (beq_byte c 40).trans (by simpa using q40)
        by_cases q41 : c = 41
        · have b41 : ((headI (c :: t)) == 41) = true := (beq_byte c 41).trans (by simpa using q41)
          have HE2 : Hid (behind vEnds r = c :: t) := Lib.hid (by rw [HE.out, (upTo_stop vEnds c t (by subst q41; decide +kernel)).2])
          clear q32 q44 q124 q40 q41
          go_wp2_with fail
          go_meet
          exact ⟨by rw [HE2.out]; exact hS2, M2⟩
        have b41 : ((headI (c :: t)) == 41) = false := (beq_byte c 41).trans (by simpa using q41)
        by_cases q91 : c = 91
        · have b91 : ((headI (c :: t)) == 91) = true := (beq_byte c 91).trans (by simpa using q91)
          have HE2 : Hid (behind vEnds r = c :: t) := Lib.hid (by rw [HE.out, (upTo_stop vEnds c t (by subst q91; decide +kernel)).2])
          clear q32 q44 q124 q40 q41 q91
          go_wp2_with fail
          go_meet
          exact ⟨by rw [HE2.out]; exact hS2, M2⟩
        have b91 : ((headI (c :: t)) == 91) = false := (beq_byte c 91).trans (by simpa using q91)
        by_cases q93 : c = 93
        · have b93 : ((headI (c :: t)) == 93) = true := (beq_byte c 93).trans (by simpa using q93)
          have HE2 : Hid (behind vEnds r = c :: t) := Lib.hid (by rw [HE.out, (upTo_stop vEnds c t (by subst q93; decide +kernel)).2])
          clear q32 q44 q124 q40 q41 q91 q93
          go_wp2_with fail
          go_meet
          exact ⟨by rw [HE2.out]; exact hS2, M2⟩
        have b93 : ((headI (c :: t)) == 93) = false := (beq_byte c 93).trans (by simpa using q93)
        have HE2 : Hid (behind vEnds r = behind vEnds t) := Lib.hid (by rw [HE.out, (upTo_cons vEnds c t (by
          have := inB_mem vEnds c
          cases hb : inB vEnds c with
          | false => rfl
          | true => exact absurd (this.1 hb) (by simp [vEnds, q32, q44, q124, q40, q41, q91, q93]))).2])
        clear q32 q44 q124 q40 q41 q91 q93
        obtain ⟨k, c1, hlt, _, hS3, hM3⟩ := hS2.parts (by simp)
        obtain ⟨_, vp, vh, hB⟩ := hS2.free1
        have f1 := hB.free 1
        have M3 := M2.trans hM3
        clear hB hS2
        go_wp2_with fail
        go_roundg t.length
        case measure => simp
        case rel => exact ⟨t, rfl, hS3, M3, HE2⟩
  case rest =>
    obtain ⟨hS, hM⟩ := hcut
    clear h
    have hub := upTo_behind vEnds r
    obtain ⟨k, vp, vh, hk, hbr, hB, hp, hh⟩ := id hS
    have c0 := hB.cell 0
    have c1 := hB.cell 1
    have c2 := hB.cell 2
    have c3 := hB.cell 3
    have f2 := hB.free 2
    have f3 := hB.free 3
    simp at c0 c1 c2 c3
    have hlen : (upTo vEnds r).length + (s.length - k) = s.length - k0 := by
      have h1 := congrArg List.length hub
      rw [List.length_append, hbr, List.length_drop] at h1
      rw [h1, HR.out, List.length_drop]
    by_cases h0 : upTo vEnds r = []
    · rw [h0] at hlen
      have hkk : k = k0 := by simp at hlen; omega
      subst hkk
      have hd : ((k : Int) == (k : Int)) = true := by simp
      obtain ⟨hS2, hM2⟩ := hS.bad
      have HP : Hid (upTo vEnds r = [] ∧ its ++ partI 3 r = its) := Lib.hid ⟨h0, by rw [partI, show endsK 3 = vEnds from rfl, if_pos h0, List.append_nil]⟩
      have M2 := hM.trans hM2
      clear h0 hlen hub hp hh hB hbr hS hM
      go_wp2_with fail
      go_ret
      rw [HP.out.1, HP.out.2]
      exact ⟨rfl, hS2, M2⟩
    · have hpos : 0 < (upTo vEnds r).length := List.length_pos_iff.2 h0
      have hlt : k0 < k := by omega
      have hd : ((k : Int) == (k0 : Int)) = false := beq_eq_false_iff_ne.2 (by omega)
      have hz : (bs s).size = s.length := bs_size s
      have i1 : (0 : Int) ≤ (k0 : Int) := by omega
      have i2 : (k0 : Int) ≤ (k : Int) := by omega
      have i3 : (k : Int) ≤ ((bs s).size : Int) := by rw [hz]; omega
      have hX : (bs s).extract k0 k = bs (upTo vEnds r) := by
        have e1 : upTo vEnds r = (s.drop k0).take (k - k0) := by
          rw [← HR.out]
          conv => rhs; rw [← hub]
          rw [show k - k0 = (upTo vEnds r).length by omega, List.take_left' rfl]
        rw [e1]
        refine bs_of _ _ ?_
        rw [ByteArray.data_extract]
        simp [bs, List.take_drop]
      have HX := Lib.hid hX
      have hat : itAt s ⟨3, r, upTo vEnds r⟩ = (k0 : Int) := by
        unfold itAt
        have : r.length = s.length - k0 := by rw [HR.out, List.length_drop]
        show (s.length : Int) - (r.length : Int) = _
        omega
      have HAT := Lib.hid hat
      have HPI : Hid (partI 3 r = [⟨3, r, upTo vEnds r⟩]) := Lib.hid (by rw [partI, show endsK 3 = vEnds from rfl, if_neg h0])
      have HEM : Hid ((upTo vEnds r).isEmpty = false) := Lib.hid (by simpa using h0)
      have HBR := Lib.hid hbr
      have hpl : (its.filter isPt).length + 1 ≤ 1000000000000 := by have := List.length_filter_le isPt its; omega
      clear h0 hlen hub hX hat hbr hpos hcount
      go_wp2_with fail
      refine wp_region_plan2 (wkD [94]) (fun W => W.cell? ⟨g, 0, none⟩ = some (.string (bs s)) ∧ W.cell? ⟨g, 1, none⟩ = some (.int .i64 k) ∧ W.cell? ⟨g, 3, none⟩ = some vp) (fun _ => True) (fun _ _ => trivial) [(false, 0), (false, 1), (false, 2), (false, 3), (false, 4), (false, 5), (false, 6), (false, 7), (false, 8), (false, 9), (false, 10), (false, 11), (false, 12), (false, 13), (false, 14), (false, 15), (false, 16), (false, 17), (true, 18), (true, 19), (false, 20), (false, 21), (true, 22)] (by kernel_rfl) (by kernel_rfl) (⟨by simpa using c0, by simpa using c1, by simpa using c3⟩) ?_
      simp only [planOps, List.map, List.getD_cons_zero, List.getD_cons_succ]
      iterate 18 ((first | refine plan_quiet (v := ?_) rfl rfl (fun w' hw' => ?_) ?_ | refine plan_calm (v := ?_) (fun _ _ => trivial) rfl (fun w' hw' => ?_) ?_); rotate_left; (focus (go_simp <;> with_reducible rfl)); simp only [Act.put, List.setIfInBounds_toArray, List.set_cons_zero, List.set_cons_succ])
      refine plan_loud rfl (fun K hK => ?_)
      go_simp
      have m1 := (hB.alloc (.cells #[.int .i64 3, .int .i64 k0, .string ((bs s).extract k0 k)] 95)).drew
      have kA : Kept nowhere wc (wc.alloc (.cells #[.int .i64 3, .int .i64 k0, .string ((bs s).extract k0 k)] 95)).drew := ((Kept.refl nowhere wc).alloc _).drew
      refine hK _ _ (⟨by simpa using m1.cell 0, by simpa using m1.cell 1, by simpa using m1.cell 3⟩) ?_
      clear hK K
      (try simp only [Act.put, List.setIfInBounds_toArray, List.set_cons_zero, List.set_cons_succ])
      refine plan_loud rfl (fun K hK => ?_)
      have hpA := OwnL.pure (R := Rpart s) (Y := fun i => vh.ownBlock = some i ∨ (i < wc.heap.size ∧ vp.ownBlock ≠ some i)) (pure_part s) (OwnL.keepP (R := Rpart s) (pure_part s) hp kA (fun _ _ h => h)) (fun i hi hx => hx.elim (hp.off i hi) (fun h => h.2 hi))
      refine wp_appendL (X := fun i => vh.ownBlock = some i ∨ (i < wc.heap.size ∧ vp.ownBlock ≠ some i)) (good_part s) _ _ _ _ _ 32 rfl Tryd.underlying90 info_part rfl (by omega) (g + 1) rfl hpA wc.heap.size 1 [.int .i64 3, .int .i64 k0, .string ((bs s).extract k0 k)] ⟨3, r, upTo vEnds r⟩ rfl (Blk.new wc 95 #[.int .i64 3, .int .i64 k0, .string ((bs s).extract k0 k)]).drew (by show _ = _; rw [HAT.out, HX.out]; rfl) hpl (by omega) (by simp; have := hB.lt; omega) (fun i hi hx => ?_) ?_
      · simp at hi
        rcases hx with h | h
        · have := hh.ltw i h; omega
        · omega
      intro v' w1 hown1 hk1
      have kP : Kept (fun i => vp.ownBlock = some i) wc w1 := (kA.mono fun _ _ h => h.elim).trans hk1
      obtain ⟨hB1, hS3, hM3⟩ := St.pushed hk hB hp hh (it := ⟨3, r, upTo vEnds r⟩) rfl kP hown1
      have d0 := hB1.cell 0
      have d1 := hB1.cell 1
      have d3 := hB1.cell 3
      have g3 := hB1.free 3
      simp at d0 d1 d3
      obtain ⟨A1, cap1, hv1⟩ := hown1.form
      rw [List.length_append, List.length_singleton] at hv1
      subst hv1
      clear hown1 hk1 hpA kP m1 kA
      refine hK _ _ (⟨d0, d1, d3⟩) ?_
      clear hK K
      (try simp only [Act.put, List.setIfInBounds_toArray, List.set_cons_zero, List.set_cons_succ])
      iterate 2 ((first | refine plan_quiet (v := ?_) rfl rfl (fun w' hw' => ?_) ?_ | refine plan_calm (v := ?_) (fun _ _ => trivial) rfl (fun w' hw' => ?_) ?_); rotate_left; (focus (go_simp <;> with_reducible rfl)); simp only [Act.put, List.setIfInBounds_toArray, List.set_cons_zero, List.set_cons_succ])
      refine plan_last rfl (by kernel_rfl) (by kernel_rfl) (fun K hK => ?_)
      go_simp
      refine hK _ _ (trivial) ?_
      clear hK K
      (try simp only [Act.put, List.setIfInBounds_toArray, List.set_cons_zero, List.set_cons_succ])
      refine plan_end ?_
      have hB3 := hB1.set (u := .slice A1 ((its.filter isPt).length + 1) cap1) 3
      have q0 := hB3.cell 0
      have q1 := hB3.cell 1
      simp only [Array.setIfInBounds] at q0 q1
      have q0 : (w1.setCell ⟨g, 3, none⟩ (.slice A1 ((its.filter isPt).length + 1) cap1)).cell? ⟨g, 0, none⟩ = some (.string (bs s)) := q0
      have q1 : (w1.setCell ⟨g, 3, none⟩ (.slice A1 ((its.filter isPt).length + 1) cap1)).cell? ⟨g, 1, none⟩ = some (.int .i64 k) := q1
      clear hB3 hB1
      generalize (w1.setCell ⟨g, 3, none⟩ (.slice A1 ((its.filter isPt).length + 1) cap1)) = w2 at hS3 hM3 q0 q1 ⊢
      have hS4 := hS3.drew
      have M4 := (hM.trans hM3).trans (Mv.drew hS3)
      rw [← HBR.out, ← HPI.out] at hS4
      clear hS hM hS3 hM3 hB hp hh d0 d1 d3 c0 c1 c2 c3
      go_wp2_with fail
      refine wp_region_plan (fun W => W.cell? ⟨g, 0, none⟩ = some (.string (bs s)) ∧ W.cell? ⟨g, 1, none⟩ = some (.int .i64 k)) [(false, 0), (false, 1), (false, 2), (false, 3), (false, 4), (false, 5), (false, 6), (false, 7), (false, 8), (false, 9), (false, 10)] (by kernel_rfl) (by kernel_rfl) (⟨by simpa using q0, by simpa using q1⟩) ?_
      simp only [planOps, List.map, List.getD_cons_zero, List.getD_cons_succ]
      iterate 11 ((first | refine plan_quiet (v := ?_) rfl rfl (fun w' hw' => ?_) ?_ | refine plan_calm (v := ?_) (tt_of) rfl (fun w' hw' => ?_) ?_); rotate_left; (focus (go_simp <;> with_reducible rfl)); simp only [Act.put, List.setIfInBounds_toArray, List.set_cons_zero, List.set_cons_succ])
      refine plan_end ?_
      go_wp2_with fail
      go_ret
      rw [HEM.out, ← HX.out]
      exact ⟨rfl, hS4, M4⟩
end Go.Proofs.YtdnncbhbajciaaaDoor
