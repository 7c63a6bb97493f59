/- A text's words, in plain words, and the walks of adep.faultOf and adep.Parse. -/
import Derived.Test.YtfpdlmddakgilaaDoorAdC
import Derived.Test.YtfpdlmddakgilaaDoorAsE
namespace Go.Proofs.YtfpdlmddakgilaaDoor
open Go.RowKit
/-- Up to the next blank. -/
def wordOf (r : List UInt8) : List UInt8 := r.takeWhile fun c => !decide (c = 32)
theorem tw_index (c : UInt8) (l : List UInt8) : cutA l c = l.takeWhile fun b => !decide (b = c) := by
  unfold cutA
  induction l with
  | nil => rfl
  | cons b l ih =>
    have hge := Lib.indexByte_ge l c
    by_cases h : b = c
    · subst h
      have h1 : Lib.indexByte (b :: l) b = 0 := by rw [Lib.indexByte, if_pos (by simp)]
      have h2 : inB (b :: l) b = true := by rw [inB, h1]; rfl
      have h3 : (b :: l).takeWhile (fun x => !decide (x = b)) = [] := by
        have : (!decide (b = b)) = false := by simp
        rw [List.takeWhile_cons, this]; rfl
      rw [if_pos h2, h1, h3]
      rfl
    · have hb : (b == c) = false := by simpa using h
      have e0 : Lib.indexByte (b :: l) c = if Lib.indexByte l c == -1 then -1 else Lib.indexByte l c + 1 := by rw [Lib.indexByte, hb]; rfl
      have h5 : (b :: l).takeWhile (fun x => !decide (x = c)) = b :: l.takeWhile (fun x => !decide (x = c)) := by
        have : (!decide (b = c)) = true := by simp [h]
        rw [List.takeWhile_cons, this]; rfl
      rw [h5, ← ih]
      by_cases hm : Lib.indexByte l c = -1
      · have h3 : inB l c = false := by rw [inB, hm]; rfl
        have h4 : inB (b :: l) c = false := by rw [inB, e0, hm]; rfl
        rw [if_neg (by rw [h4]; simp), if_neg (by rw [h3]; simp)]
      · have e1 : Lib.indexByte (b :: l) c = Lib.indexByte l c + 1 := by rw [e0, if_neg (by simpa using hm)]
        have h3 : inB l c = true := decide_eq_true (by omega)
        have h4 : inB (b :: l) c = true := decide_eq_true (by omega)
        rw [if_pos h4, if_pos h3, e1]
        obtain ⟨n, hn⟩ : ∃ n : Nat, Lib.indexByte l c = n := ⟨(Lib.indexByte l c).toNat, by omega⟩
        rw [hn, show ((n : Int) + 1).toNat = n + 1 by omega, show (n : Int).toNat = n by omega]
        rfl
theorem wordOf_pos (c : UInt8) (t : List UInt8) (h : c ≠ 32) : 0 < (wordOf (c :: t)).length := by
  unfold wordOf
  rw [List.takeWhile_cons, if_pos (by simpa using h)]
  simp
theorem wordOf_len (r : List UInt8) : (wordOf r).length ≤ r.length := tw_len _ r
/-- What is left of a text, read: the words, or the fault. -/
def goA : List UInt8 → Nat → List Wt → List Wt × Int × Int
  | [], _, acc => (acc, 0, 0)
  | c :: t, at_, acc =>
    if hc : c = 32 then goA t (at_ + 1) acc
    else if acc.length = 64 then ([], at_, 4)
    else match pWord (wordOf (c :: t)) with
      | .bad k e => ([], at_ + k, e)
      | .ok w => goA ((c :: t).drop (wordOf (c :: t)).length) (at_ + (wordOf (c :: t)).length) (acc ++ [w])
termination_by r => r.length
decreasing_by
  · simp
  · have := wordOf_pos c t hc
    have h2 := wordOf_len (c :: t)
    rw [List.length_drop]
    simp only [List.length_cons] at h2 ⊢
    omega
def parseA (s : List UInt8) : List Wt × Int × Int := goA s 0 []
theorem goA_nil (a : Nat) (acc : List Wt) : goA [] a acc = (acc, 0, 0) := by rw [goA]
theorem goA_blank (t : List UInt8) (a : Nat) (acc : List Wt) : goA (32 :: t) a acc = goA t (a + 1) acc := by rw [goA]; rfl
theorem goA_full (c : UInt8) (t : List UInt8) (a : Nat) (acc : List Wt) (hc : c ≠ 32) (h : acc.length = 64) : goA (c :: t) a acc = ([], (a : Int), 4) := by
  rw [goA, dif_neg hc, if_pos h]
theorem goA_bad (c : UInt8) (t : List UInt8) (a : Nat) (acc : List Wt) (hc : c ≠ 32) (h : acc.length ≠ 64) (k : Nat) (e : Int) (hp : pWord (wordOf (c :: t)) = .bad k e) : goA (c :: t) a acc = ([], (a : Int) + k, e) := by
  rw [goA, dif_neg hc, if_neg h, hp]
theorem goA_ok (c : UInt8) (t : List UInt8) (a : Nat) (acc : List Wt) (hc : c ≠ 32) (h : acc.length ≠ 64) (w : Wt) (hp : pWord (wordOf (c :: t)) = .ok w) :
    goA (c :: t) a acc = goA ((c :: t).drop (wordOf (c :: t)).length) (a + (wordOf (c :: t)).length) (acc ++ [w]) := by
  rw [goA, dif_neg hc, if_neg h, hp]
theorem blk_set3 {w : World} {g : Nat} {t : TypeId} {a b c : Value} (h : Blk w g t #[a, b, c]) (a' b' c' : Value) :
    Blk (((w.setCell ⟨g, 0, none⟩ a').setCell ⟨g, 1, none⟩ b').setCell ⟨g, 2, none⟩ c') g t #[a', b', c'] := by
  have := ((h.set (u := a') 0).set (u := b') 1).set (u := c') 2
  simpa using this
theorem below_set3 {B : Nat} {a w : World} {g : Nat} (h : Below B a w) (hg : B ≤ g) (x0 x1 x2 : Value) :
    Below B a (((w.setCell ⟨g, 0, none⟩ x0).setCell ⟨g, 1, none⟩ x1).setCell ⟨g, 2, none⟩ x2) :=
  ((h.setCell (p := ⟨g, 0, none⟩) hg _).setCell (p := ⟨g, 1, none⟩) hg _).setCell (p := ⟨g, 2, none⟩) hg _
set_option maxRecDepth 20000 in
set_option maxHeartbeats 8000000 in
theorem faultOf_any (k ee : Int) (a : Nat) (w : World) (hk : 0 ≤ k ∧ k ≤ 1000000) (ha : a ≤ 1000000000) (hg : ErrT w) :
    Calls Tryd.prog 13 #[.iface 55 (.agg #[.int .i64 k, .int .i64 ee]), .int .i64 (a : Int)] w fun e w' => e = .returned (.agg #[.string ⟨#[]⟩, .int .i64 ((a : Int) + k), .int .i64 ee]) ∧ Below w.heap.size w w' := by
  have a1 := Blk.new w 26 #[.string ⟨#[]⟩, .int .i64 0, .int .i64 0]
  have a2 := Blk.new (w.alloc (.cells #[.string ⟨#[]⟩, .int .i64 0, .int .i64 0] 26)) 26 #[.string ⟨#[]⟩, .int .i64 (a : Int), .int .i64 3]
  have a3 := Blk.new ((w.alloc (.cells #[.string ⟨#[]⟩, .int .i64 0, .int .i64 0] 26)).alloc (.cells #[.string ⟨#[]⟩, .int .i64 (a : Int), .int .i64 3] 26)) 55 #[.int .i64 0, .int .i64 0]
  have b1 := (a1.alloc (.cells #[.string ⟨#[]⟩, .int .i64 (a : Int), .int .i64 3] 26)).alloc (.cells #[.int .i64 0, .int .i64 0] 55)
  have b2 := a2.alloc (.cells #[.int .i64 0, .int .i64 0] 55)
  have hb := (((Below.refl w.heap.size w).alloc (Nat.le_refl _) (.cells #[.string ⟨#[]⟩, .int .i64 0, .int .i64 0] 26)).alloc (by simp) (.cells #[.string ⟨#[]⟩, .int .i64 (a : Int), .int .i64 3] 26)).alloc (by simp; omega) (.cells #[.int .i64 0, .int .i64 0] 55)
  simp only [World.size_alloc] at a2 a3 b2
  go_enter Tryd.func13, Tryd.ntmps13
  go_upto_region 3 with fail
  generalize ((w.alloc (.cells #[.string ⟨#[]⟩, .int .i64 0, .int .i64 0] 26)).alloc (.cells #[.string ⟨#[]⟩, .int .i64 (a : Int), .int .i64 3] 26)).alloc (.cells #[.int .i64 0, .int .i64 0] 55) = W1 at a3 b1 b2 hb ⊢
  clear a1 a2
  go_wp2_with fail
  refine (as_wrong k ee 0 0 _ W1 (hg.below hb) a3).mono ?_
  rintro e W2 ⟨rfl, a4, hk2⟩
  have c1 := hk2.blk b1 (by show ¬ (w.heap.size = w.heap.size + 1 + 1); omega)
  have c2 := hk2.blk b2 (by show ¬ (w.heap.size + 1 = w.heap.size + 1 + 1); omega)
  have hb2 := hb.trans (hk2.below (B := w.heap.size) hb.size (fun i _ hi => by subst hi; omega))
  clear a3 b1 b2 hb hk2
  have d0 := a4.cell 0
  have d1 := c2.cell 1
  have f1 := Blk.free c2 1
  simp at d0 d1
  have hwr : IntKind.i64.wrap ((a : Int) + k) = (a : Int) + k := i64_in _ (by omega) (by omega)
  have e2 := c2.set (u := .int .i64 ((a : Int) + k)) 1
  have e1 := Blk.other c1 (a := ⟨w.heap.size + 1, 1, none⟩) (.int .i64 ((a : Int) + k)) (by simp)
  have hb3 := hb2.setCell (p := ⟨w.heap.size + 1, 1, none⟩) (by simp) (.int .i64 ((a : Int) + k))
  simp at e2
  go_upto_region 5 with fail
  generalize W2.setCell ⟨w.heap.size + 1, 1, none⟩ (.int .i64 ((a : Int) + k)) = W3 at e1 e2 hb3 ⊢
  clear a4 c1 c2 hb2 d0 d1 f1
  have a5 := Blk.new W3 24 #[.int .i64 0]
  have b1 := e1.alloc (.cells #[.int .i64 0] 24)
  have b2 := e2.alloc (.cells #[.int .i64 0] 24)
  have l1 := e1.lt
  have l2 := e2.lt
  have hb4 := hb3.alloc hb3.size (.cells #[.int .i64 0] 24)
  generalize hg7 : W3.heap.size = g7 at a5 l1 l2
  go_upto_region 6 with fail
  generalize W3.alloc (.cells #[.int .i64 0] 24) = W4 at a5 b1 b2 hb4 ⊢
  clear e1 e2 hb3 hg7
  go_wp2_with fail
  refine (as_code k ee 0 g7 W4 (hg.below hb4) a5).mono ?_
  rintro e W5 ⟨rfl, a6, hk5⟩
  have c1 := hk5.blk b1 (by show ¬ (w.heap.size = g7); omega)
  have c2 := hk5.blk b2 (by show ¬ (w.heap.size + 1 = g7); omega)
  have hb5 := hb4.trans (hk5.below (B := w.heap.size) hb4.size (fun i _ hi => by subst hi; omega))
  clear a5 b1 b2 hb4 hk5
  have d0 := a6.cell 0
  have f2 := Blk.free c2 2
  simp at d0
  have c2c := c2.cell 2
  simp at c2c
  have e2 := c2.set (u := .int .i64 ee) 2
  have e1 := Blk.other c1 (a := ⟨w.heap.size + 1, 2, none⟩) (.int .i64 ee) (by simp)
  have hb6 := hb5.setCell (p := ⟨w.heap.size + 1, 2, none⟩) (by simp) (.int .i64 ee)
  simp at e2
  go_upto_region 8 with fail
  generalize W5.setCell ⟨w.heap.size + 1, 2, none⟩ (.int .i64 ee) = W6 at e1 e2 hb6 ⊢
  clear a6 c1 c2 hb5 d0 f2 c2c
  have d0 := e2.cell 0
  have d1 := e2.cell 1
  have d2 := e2.cell 2
  have z0 := e1.cell 0
  have z1 := e1.cell 1
  have z2 := e1.cell 2
  have f0 := Blk.free e1 0
  have f1 := Blk.free e1 1
  have f2 := Blk.free e1 2
  simp at d0 d1 d2 z0 z1 z2
  have K4 := blk_set3 e1 (.string ⟨#[]⟩) (.int .i64 ((a : Int) + k)) (.int .i64 ee)
  have hq5 := below_set3 hb6 (g := w.heap.size) (Nat.le_refl _) (.string ⟨#[]⟩) (.int .i64 ((a : Int) + k)) (.int .i64 ee)
  go_wp2_with fail
  generalize ((W6.setCell ⟨w.heap.size, 0, none⟩ (.string ⟨#[]⟩)).setCell ⟨w.heap.size, 1, none⟩ (.int .i64 ((a : Int) + k))).setCell ⟨w.heap.size, 2, none⟩ (.int .i64 ee) = W7 at K4 hq5 ⊢
  have k0 := K4.cell 0
  have k1 := K4.cell 1
  have k2 := K4.cell 2
  simp at k0 k1 k2
  refine bodyPost_ret (v := .agg #[.string ⟨#[]⟩, .int .i64 ((a : Int) + k), .int .i64 ee]) (by simp [results, Tryd.results13, go_sem, k0, k1, k2]) rfl ?_
  exact ⟨rfl, hq5⟩
def ParseRA (w : World) (x : List Wt × Int × Int) (e : Ending) (w' : World) : Prop :=
  (∃ v, e = .returned (.tuple #[v, .agg #[.string ⟨#[]⟩, .int .i64 x.2.1, .int .i64 x.2.2]]) ∧ Sl 4 Rwant (old w.heap.size) w' v x.1) ∧ Below w.heap.size w w'
theorem pWord_bad (s : List UInt8) (k : Nat) (e : Int) (h : pWord s = .bad k e) : k ≤ s.length := by
  unfold pWord at h
  split at h
  · split at h
    · cases h
    · unfold pVer at h
      split at h
      · cases h
      · injection h with h1 h2
        omega
  · injection h with h1 h2
    omega
set_option maxRecDepth 20000 in
set_option maxHeartbeats 8000000 in
theorem aparse_any (s : List UInt8) (w : World) (hs : s.length ≤ 1000000) (hw : Words w) (hg : SignsA w) (he : ErrT w) :
    Calls Tryd.prog 6 #[.string (bs s)] w (ParseRA w (parseA s)) := by
  obtain ⟨X, hX⟩ : ∃ x, parseA s = x := ⟨_, rfl⟩
  rw [hX]
  have HX : Hid (X = goA (s.drop 0) 0 []) := Lib.hid hX.symm
  clear hX
  have a1 := Blk.new w 26 #[.string ⟨#[]⟩, .int .i64 0, .int .i64 0]
  have hb := (Below.refl w.heap.size w).alloc (Nat.le_refl _) (.cells #[.string ⟨#[]⟩, .int .i64 0, .int .i64 0] 26)
  go_enter Tryd.func6, Tryd.ntmps6
  go_wp2_with fail
  have hz : ((bs s).size : Int) = (s.length : Int) := by rw [bs_size]
  go_loopg [4, 5] (s.length + 1) (fun G s4 s5 wr => ∃ (k : Nat) (acc : List Wt), k ≤ s.length ∧ acc.length ≤ 64 ∧ G = s.length + 1 - k ∧ s5 = .int .i64 k ∧ OwnL 4 Rwant 40 (w.heap.size + 1) (old (w.heap.size + 1)) wr s4 acc ∧ Blk wr w.heap.size 26 #[.string ⟨#[]⟩, .int .i64 0, .int .i64 0] ∧ Below w.heap.size w wr ∧ Hid (X = goA (s.drop k) k acc))
  case atStart => exact ⟨0, [], Nat.zero_le _, by simp, rfl, rfl, OwnL.nil _ _ _ _ _ _, a1, hb, HX⟩
  case round =>
    clear a1 hb HX
    obtain ⟨k, acc, hk, hacc, rfl, rfl, hown, hB, hbw, HE⟩ := hrel
    obtain ⟨A4, cap4, rfl⟩ := hown.form
    have hgl := hB.lt
    by_cases hlt : k < s.length
    · have hks2 : k < (bs s).size := by rw [bs_size]; exact hlt
      have hks : (k : Int) < ((bs s).size : Int) := by omega
      obtain ⟨c, hc⟩ : ∃ c, c = s[k]'hlt := ⟨_, rfl⟩
      have hbb : (bs s)[k]'hks2 = c := hc.symm
      have hdr : s.drop k = c :: s.drop (k + 1) := by rw [hc]; exact List.drop_eq_getElem_cons hlt
      have HE2 : Hid (X = goA (c :: s.drop (k + 1)) k acc) := Lib.hid (by rw [HE.out, hdr])
      have HD := Lib.hid hdr
      clear hc HE hdr
      by_cases h32 : c = 32
      · have hcb : ((c.toNat : Int) == 32) = true := by rw [h32]; rfl
        have HV : Hid (X = goA (s.drop (k + 1)) (k + 1) acc) := Lib.hid (by rw [HE2.out, h32, goA_blank])
        clear h32
        go_wp2_with fail
        go_roundg (s.length + 1 - (k + 1))
        case measure => omega
        case rel => exact ⟨k + 1, acc, by omega, hacc, rfl, by go_num, hown, hB, hbw, HV⟩
      · have hcb : ((c.toNat : Int) == 32) = false := by rw [show (32 : Int) = ((32 : UInt8).toNat : Int) from rfl, beq_byte]; simpa using h32
        have hle1 : (0 : Int) ≤ (k : Int) ∧ (k : Int) ≤ ((bs s).size : Int) := by omega
        have hxt : (bs s).extract k (bs s).size = bs (s.drop k) := by rw [ext_drop]; rfl
        go_wp2_with fail
        refine (cut_any (bs (s.drop k)) 32 _ (by rw [bs_size, List.length_drop]; omega)).mono ?_
        rw [bs_list, tw_index, HD.out]
        rintro e W1 ⟨rfl, hb1⟩
        have own1 := hown.keep good_want (Kept.of_below hb1 _)
        have B1 := hB.below hb1 hgl
        have hq1 := hbw.trans (hb1.mono hbw.size)
        have hwl := wordOf_len (c :: s.drop (k + 1))
        have hdl : (c :: s.drop (k + 1)).length = s.length - k := by rw [List.length_cons, List.length_drop]; omega
        have hdd : ∀ n, (c :: s.drop (k + 1)).drop n = s.drop (k + n) := fun n => by rw [← HD.out, List.drop_drop]
        have hwp := wordOf_pos c (s.drop (k + 1)) h32
        have HDD := Lib.hid hdd
        have HFU := Lib.hid (goA_full c (s.drop (k + 1)) k acc h32)
        have HBA := Lib.hid (goA_bad c (s.drop (k + 1)) k acc h32)
        have HOK := Lib.hid (goA_ok c (s.drop (k + 1)) k acc h32)
        rw [show (c :: s.drop (k + 1)).takeWhile (fun b => !decide (b = 32)) = wordOf (c :: s.drop (k + 1)) from rfl]
        generalize wordOf (c :: s.drop (k + 1)) = wd at hwl hwp HBA HOK ⊢
        rw [hdl] at hwl
        clear hdd h32 hown hB hbw hb1
        have z0 := B1.cell 0
        have z1 := B1.cell 1
        have z2 := B1.cell 2
        have f0 := Blk.free B1 0
        have f1 := Blk.free B1 1
        have f2 := Blk.free B1 2
        simp at z0 z1 z2
        by_cases h64 : acc.length = 64
        · have hb64 : ((acc.length : Int) == 64) = true := by simp; omega
          have HV : Hid (X = ([], (k : Int), 4)) := Lib.hid (by rw [HE2.out, HFU.out h64])
          have K3 := blk_set3 B1 (.string ⟨#[]⟩) (.int .i64 (k : Int)) (.int .i64 4)
          have hq2 := below_set3 hq1 (g := w.heap.size) (Nat.le_refl _) (.string ⟨#[]⟩) (.int .i64 (k : Int)) (.int .i64 4)
          clear h64 hwl hwp
          go_wp2_with fail
          generalize ((W1.setCell ⟨w.heap.size, 0, none⟩ (.string ⟨#[]⟩)).setCell ⟨w.heap.size, 1, none⟩ (.int .i64 (k : Int))).setCell ⟨w.heap.size, 2, none⟩ (.int .i64 4) = W2 at K3 hq2 ⊢
          have k0 := K3.cell 0
          have k1 := K3.cell 1
          have k2 := K3.cell 2
          simp at k0 k1 k2
          refine bodyPost_ret (v := .tuple #[.slice none 0 0, .agg #[.string ⟨#[]⟩, .int .i64 (k : Int), .int .i64 4]]) (by simp [results, Tryd.results6, go_sem, k0, k1, k2]) rfl ?_
          rw [HV.out]
          exact ⟨⟨_, rfl, Sl.nil _ _ _ _⟩, hq2⟩
        · have hb64 : ((acc.length : Int) == 64) = false := by simp; omega
          have hac : acc.length < 64 := by omega
          have hwW := hw.below hq1
          have hgW := hg.below hq1
          have heW := he.below hq1
          go_wp2_with fail
          refine (aword_any wd W1 (by omega) hwW hgW).mono ?_
          intro e W2 hR
          cases hp : pWord wd with
          | bad kk ee =>
            rw [hp] at hR
            obtain ⟨rfl, hb2⟩ := hR
            have HV : Hid (X = ([], (k : Int) + kk, ee)) := Lib.hid (by rw [HE2.out, HBA.out h64 kk ee hp])
            have hkk := pWord_bad wd kk ee hp
            clear h64 HBA HOK HFU hp own1 z0 z1 z2 f0 f1 f2
            have a2 := B1.below hb2 B1.lt
            have a3 := a2.alloc (.cells #[.bool false, .string ⟨#[]⟩, .int .i64 0, .string ⟨#[]⟩] 40)
            have q2 := hq1.trans (hb2.mono hq1.size)
            have q3 := q2.alloc q2.size (.cells #[.bool false, .string ⟨#[]⟩, .int .i64 0, .string ⟨#[]⟩] 40)
            go_upto_region 10 with fail
            generalize W2.alloc (.cells #[.bool false, .string ⟨#[]⟩, .int .i64 0, .string ⟨#[]⟩] 40) = W3 at a3 q3 ⊢
            clear a2 q2 hb2 B1 hq1
            go_wp2_with fail
            refine (faultOf_any kk ee k W3 (by omega) (by omega) (he.below q3)).mono ?_
            rintro e W4 ⟨rfl, hb4⟩
            have a4 := a3.below hb4 a3.lt
            have q4 := q3.trans (hb4.mono q3.size)
            clear a3 q3 hb4
            have z0 := a4.cell 0
            have z1 := a4.cell 1
            have z2 := a4.cell 2
            have f0 := Blk.free a4 0
            have f1 := Blk.free a4 1
            have f2 := Blk.free a4 2
            simp at z0 z1 z2
            have K3 := blk_set3 a4 (.string ⟨#[]⟩) (.int .i64 ((k : Int) + kk)) (.int .i64 ee)
            have hq2 := below_set3 q4 (g := w.heap.size) (Nat.le_refl _) (.string ⟨#[]⟩) (.int .i64 ((k : Int) + kk)) (.int .i64 ee)
            go_wp2_with fail
            generalize ((W4.setCell ⟨w.heap.size, 0, none⟩ (.string ⟨#[]⟩)).setCell ⟨w.heap.size, 1, none⟩ (.int .i64 ((k : Int) + kk))).setCell ⟨w.heap.size, 2, none⟩ (.int .i64 ee) = W5 at K3 hq2 ⊢
            have k0 := K3.cell 0
            have k1 := K3.cell 1
            have k2 := K3.cell 2
            simp at k0 k1 k2
            refine bodyPost_ret (v := .tuple #[.slice none 0 0, .agg #[.string ⟨#[]⟩, .int .i64 ((k : Int) + kk), .int .i64 ee]]) (by simp [results, Tryd.results6, go_sem, k0, k1, k2]) rfl ?_
            rw [HV.out]
            exact ⟨⟨_, rfl, Sl.nil _ _ _ _⟩, hq2⟩
          | ok t =>
            rw [hp] at hR
            obtain ⟨rfl, hb2⟩ := hR
            have HV : Hid (X = goA (s.drop (k + wd.length)) (k + wd.length) (acc ++ [t])) := Lib.hid (by rw [HE2.out, HOK.out h64 t hp, HDD.out])
            clear h64 HBA HOK HFU hp z0 z1 z2 f0 f1 f2
            have a2 := B1.below hb2 B1.lt
            have a3 := a2.alloc (.cells #[.bool t.bar, .string (bs t.name), .int .i64 t.op, .string (bs t.ver)] 40)
            have q2 := hq1.trans (hb2.mono hq1.size)
            have q3 := q2.alloc q2.size (.cells #[.bool t.bar, .string (bs t.name), .int .i64 t.op, .string (bs t.ver)] 40)
            have own2 := (own1.keep good_want (Kept.of_below hb2 _))
            have own3 := own2.keep good_want (Kept.of_below ((Below.refl W2.heap.size W2).alloc (Nat.le_refl _) (.cells #[.bool t.bar, .string (bs t.name), .int .i64 t.op, .string (bs t.ver)] 40)) _)
            have bT := Blk.new W2 40 #[.bool t.bar, .string (bs t.name), .int .i64 t.op, .string (bs t.ver)]
            simp only [wtV]
            go_upto_region 10 with fail
            generalize W2.alloc (.cells #[.bool t.bar, .string (bs t.name), .int .i64 t.op, .string (bs t.ver)] 40) = W3 at a3 q3 own3 bT ⊢
            clear a2 q2 hb2 B1 hq1 own1 own2
            have d0 := bT.cell 0
            have d1 := bT.cell 1
            have d2 := bT.cell 2
            have d3 := bT.cell 3
            simp at d0 d1 d2 d3
            have hnew := own3.new
            have hsz : w.heap.size + 1 ≤ W3.heap.size := by have := a3.lt; omega
            go_wp2_with (at_builtin; refine wpList_appendL (l := acc) good_want rfl _ _ _ _ _ 48 rfl Tryd.underlying23 info_want rfl (by omega) _ rfl own3 [.bool t.bar, .string (bs t.name), .int .i64 t.op, .string (bs t.ver)] t rfl rfl (by omega) (by omega) hsz (fun k hk hk2 => by unfold old at hk2; omega) ?_; intro v5 w5 hown5 hk5)
            have q5 := q3.trans (hk5.below q3.size (fun k _ h => by have := hnew k h; omega))
            have a5 := hk5.blk a3 (fun h => by have := hnew _ h; omega)
            clear hk5 hnew own3 q3 a3 bT d0 d1 d2 d3
            have zw : ((bs wd).size : Int) = (wd.length : Int) := by rw [bs_size]
            have hwr : IntKind.i64.wrap ((k : Int) + wd.length) = ((k + wd.length : Nat) : Int) := by rw [i64_in _ (by omega) (by omega)]; omega
            go_wp2_with fail
            go_roundg (s.length + 1 - (k + wd.length))
            case measure => omega
            case rel => exact ⟨k + wd.length, acc ++ [t], by omega, by simp; omega, rfl, by rw [zw]; congr 1; unfold wrap64; omega, hown5, a5, q5, HV⟩
    · obtain rfl : k = s.length := by omega
      have HV : Hid (X = (acc, 0, 0)) := Lib.hid (by rw [HE.out, List.drop_length, goA_nil])
      have z0 := hB.cell 0
      have z1 := hB.cell 1
      have z2 := hB.cell 2
      have f0 := Blk.free hB 0
      have f1 := Blk.free hB 1
      have f2 := Blk.free hB 2
      simp at z0 z1 z2
      have K3 := blk_set3 hB (.string ⟨#[]⟩) (.int .i64 0) (.int .i64 0)
      have hq2 := below_set3 hbw (g := w.heap.size) (Nat.le_refl _) (.string ⟨#[]⟩) (.int .i64 0) (.int .i64 0)
      have own2 := hown.keep good_want (X := old (w.heap.size + 1)) (w' := ((wr.setCell ⟨w.heap.size, 0, none⟩ (.string ⟨#[]⟩)).setCell ⟨w.heap.size, 1, none⟩ (.int .i64 0)).setCell ⟨w.heap.size, 2, none⟩ (.int .i64 0)) ((((Kept.refl _ _).setCell (p := ⟨w.heap.size, 0, none⟩) _ (fun _ => by unfold old; simp)).setCell (p := ⟨w.heap.size, 1, none⟩) _ (fun _ => by unfold old; simp)).setCell (p := ⟨w.heap.size, 2, none⟩) _ (fun _ => by unfold old; simp))
      go_wp2_with fail
      generalize ((wr.setCell ⟨w.heap.size, 0, none⟩ (.string ⟨#[]⟩)).setCell ⟨w.heap.size, 1, none⟩ (.int .i64 0)).setCell ⟨w.heap.size, 2, none⟩ (.int .i64 0) = W5 at K3 hq2 own2 ⊢
      have k0 := K3.cell 0
      have k1 := K3.cell 1
      have k2 := K3.cell 2
      simp at k0 k1 k2
      refine bodyPost_ret (v := .tuple #[.slice A4 acc.length cap4, .agg #[.string ⟨#[]⟩, .int .i64 0, .int .i64 0]]) (by simp [results, Tryd.results6, go_sem, k0, k1, k2]) rfl ?_
      rw [HV.out]
      exact ⟨⟨_, rfl, (own2.sl good_want).mono good_want (by omega) (fun i _ hi => by unfold old at hi ⊢; omega)⟩, hq2⟩
end Go.Proofs.YtfpdlmddakgilaaDoor
