/- The document's answer for adep (drayageref16): the walk of Parse. -/
import Derived.Test.YtfpdlmddakgilaaDoorAeA
import Derived.Test.YtfpdlmddakgilaaDoorAdD
import Derived.Test.YtfpdlmddakgilaaDoorVerW
namespace Go.Proofs.YtfpdlmddakgilaaDoor
open Go.RowKit
def noBl (c : UInt8) : Bool := !decide (c = 32)
def nmStop (c : UInt8) : Bool := noBl c && noSg c
theorem tw_tw (p q : UInt8 → Bool) (l : List UInt8) : (l.takeWhile p).takeWhile q = l.takeWhile fun c => p c && q c := by
  induction l with
  | nil => rfl
  | cons a l ih =>
    cases hp : p a with
    | false => simp [List.takeWhile_cons, hp]
    | true =>
      cases hq : q a with
      | false => simp [List.takeWhile_cons, hp, hq]
      | true => simp [List.takeWhile_cons, hp, hq, ih]
theorem aName_word (r : List UInt8) : aName (wordOf r) = r.takeWhile nmStop := tw_tw noBl noSg r
theorem wordOf_cons (c : UInt8) (t : List UInt8) (h : c ≠ 32) : wordOf (c :: t) = c :: wordOf t := by
  have : (!decide (c = 32)) = true := by simp [h]
  unfold wordOf
  rw [List.takeWhile_cons, this]; rfl
theorem wordOf_32 (t : List UInt8) : wordOf (32 :: t) = [] := rfl
theorem aBar_word (c : UInt8) (t : List UInt8) (h : c ≠ 32) : aBar (wordOf (c :: t)) = decide (c = 33) ∧ aRest (wordOf (c :: t)) = (if c = 33 then wordOf t else wordOf (c :: t)) := by
  rw [wordOf_cons c t h]
  refine ⟨rfl, ?_⟩
  by_cases h3 : c = 33
  · subst h3; rfl
  · rw [if_neg h3]
    have : aBar (c :: wordOf t) = false := by simpa [aBar] using h3
    rw [aRest, this]; rfl
/-- A word's tail is the word at its place. -/
theorem aTail_word (r : List UInt8) : aTail (wordOf r) = wordOf (r.drop (r.takeWhile nmStop).length) := by
  rw [← aName_word, aTail, past]
  show (wordOf r).drop ((wordOf r).takeWhile noSg).length = _
  have key : ∀ (l : List UInt8) (n : Nat), n ≤ (wordOf l).length → (wordOf l).drop n = wordOf (l.drop n) := by
    intro l
    induction l with
    | nil => intro n _; simp [wordOf]
    | cons c t ih =>
      intro n hn
      cases n with
      | zero => rfl
      | succ n =>
        by_cases h : c = 32
        · subst h
          rw [wordOf_32] at hn
          simp at hn
        · rw [wordOf_cons c t h] at hn ⊢
          simp only [List.length_cons] at hn
          exact ih n (by omega)
  exact key r _ (tw_len _ _)
theorem word_split (r : List UInt8) : (wordOf r).length = (aName (wordOf r)).length + (aTail (wordOf r)).length := by
  rw [aTail, past, List.length_drop, aName]
  have := tw_len noSg (wordOf r)
  omega
/-- What stands where the name ends. -/
theorem stop_at (r : List UInt8) (d : UInt8) (u : List UInt8) (h : r.drop (r.takeWhile nmStop).length = d :: u) (hd : d ≠ 32) : d = 60 ∨ d = 61 ∨ d = 62 ∨ d = 126 := by
  have hl : (r.takeWhile nmStop).length < r.length := by
    rcases Nat.lt_or_ge (r.takeWhile nmStop).length r.length with h' | h'
    · exact h'
    · rw [List.drop_eq_nil_of_le h'] at h; cases h
  have hn := tw_next nmStop r _ hl (Nat.le_refl _)
  have hdr : r[(r.takeWhile nmStop).length] = d := by
    have := List.drop_eq_getElem_cons hl
    rw [h] at this
    injection this with h1 _
    exact h1.symm
  have hf : nmStop d = false := by
    cases hx : nmStop d with
    | false => rfl
    | true =>
      have := hn.1 (by rw [hdr]; exact hx)
      omega
  have h1 : noBl d = true := by simpa [noBl] using hd
  rw [nmStop, h1, Bool.true_and, noSg, sgA] at hf
  simp at hf
  grind
theorem nmStop_yes (d : UInt8) (h : nmStop d = true) : d ≠ 32 ∧ d ≠ 60 ∧ d ≠ 61 ∧ d ≠ 62 ∧ d ≠ 126 := by
  simp [nmStop, noBl, noSg, sgA] at h
  grind
theorem nmStop_no (d : UInt8) (h : ¬ nmStop d = true) : d = 32 ∨ d = 60 ∨ d = 61 ∨ d = 62 ∨ d = 126 := by
  simp [nmStop, noBl, noSg, sgA] at h
  grind
def opD (d : UInt8) : Int := if d = 60 then 1 else if d = 61 then 3 else if d = 62 then 5 else 6
theorem aRel_60 (l : List UInt8) (h : ∀ u, l ≠ 61 :: u) : aRel (60 :: l) = (1, l) := by
  unfold aRel
  split <;> simp_all
theorem aRel_62 (l : List UInt8) (h : ∀ u, l ≠ 61 :: u) : aRel (62 :: l) = (5, l) := by
  unfold aRel
  split <;> simp_all
theorem wordOf_no61 (r : List UInt8) (h : ∀ u, r ≠ 61 :: u) : ∀ u, wordOf r ≠ 61 :: u := by
  intro u hu
  cases r with
  | nil => cases hu
  | cons c t =>
    by_cases h32 : c = 32
    · subst h32; cases hu
    · rw [wordOf_cons c t h32] at hu
      injection hu with h1 _
      exact h t (by rw [h1])
theorem wordOf_nil (c : UInt8) (t : List UInt8) (h : wordOf (c :: t) = []) : c = 32 := by
  by_cases h32 : c = 32
  · exact h32
  · rw [wordOf_cons c t h32] at h; cases h
theorem aRel_no (d : UInt8) (r : List UInt8) (hd : d = 60 ∨ d = 61 ∨ d = 62 ∨ d = 126) (h : hasB r 61 = false) : aRel (d :: wordOf r) = (opD d, wordOf r) := by
  have hn : ∀ u, wordOf r ≠ 61 :: u := wordOf_no61 r (fun u hu => by rw [hu] at h; simp [hasB] at h)
  rcases hd with rfl | rfl | rfl | rfl
  · exact aRel_60 _ hn
  · rfl
  · exact aRel_62 _ hn
  · rfl
theorem hasB_yesA (r : List UInt8) (c : UInt8) (h : hasB r c = true) : ∃ u, r = c :: u := by
  cases r with
  | nil => cases h
  | cons d u => exact ⟨u, by simp [hasB] at h; rw [h]⟩
theorem OwnL.ltA {α : Type} {sz : Nat} {R : Rel α} {e : TypeId} {base : Nat} {X : Nat → Prop} {w : World} {v : Value} {l : List α} (h : OwnL sz R e base X w v l) : ∀ i, v.ownBlock = some i → i < w.heap.size := by
  obtain ⟨_, ho, _⟩ := h
  exact fun i hi => (ho.lt i hi).2
theorem OwnL.offA {α : Type} {sz : Nat} {R : Rel α} {e : TypeId} {base : Nat} {X : Nat → Prop} {w : World} {v : Value} {l : List α} (h : OwnL sz R e base X w v l) : ∀ i, v.ownBlock = some i → ¬ X i := by
  obtain ⟨_, _, _, hX, _⟩ := h
  exact hX
theorem own_pureA {e : TypeId} {base : Nat} {X Y : Nat → Prop} {w : World} {v : Value} {l : List Wt} (h : OwnL 4 Rwant e base X w v l) (hY : ∀ k, v.ownBlock = some k → ¬ Y k) : OwnL 4 Rwant e base Y w v l := by
  obtain ⟨css, ho, hl, _, hR⟩ := h
  exact ⟨css, ho, hl, hY, fun j h h' => hR j h h'⟩
/-- The blocks ahead of B, and the block g. -/
def oldG (B g : Nat) : Nat → Prop := fun i => i < B ∨ i = g
set_option maxRecDepth 20000 in
set_option maxHeartbeats 100000000 in
theorem eparse_any (s : List UInt8) (w : World) (hs : s.length ≤ 1000000) :
    Calls Tryd.prog 7 #[.string (bs s)] w (ParseRA w (parseA s)) := by
  obtain ⟨X, hX⟩ : ∃ x, parseA s = x := ⟨_, rfl⟩
  rw [hX]
  have HX : Hid (X = goA (s.drop 0) 0 []) := Lib.hid hX.symm
  clear hX
  have a1 := Blk.new w 26 #[.string ⟨#[]⟩, .int .i64 0, .int .i64 0]
  have hb := (Below.refl w.heap.size w).alloc (Nat.le_refl _) (.cells #[.string ⟨#[]⟩, .int .i64 0, .int .i64 0] 26)
  have hz : ((bs s).size : Int) = (s.length : Int) := by rw [bs_size]
  go_enter Tryd.func7, Tryd.ntmps7
  go_wp2_with fail
  go_loopg [4, 5] (s.length + 1) (fun G s4 s5 wr => ∃ (k : Nat) (acc : List Wt), k ≤ s.length ∧ acc.length ≤ 64 ∧ G = s.length + 1 - k ∧ s5 = .int .i64 k ∧ OwnL 4 Rwant 40 (w.heap.size + 1) (old (w.heap.size + 1)) wr s4 acc ∧ Blk wr w.heap.size 26 #[.string ⟨#[]⟩, .int .i64 0, .int .i64 0] ∧ Below w.heap.size w wr ∧ Hid (X = goA (s.drop k) k acc))
  case atStart => exact ⟨0, [], Nat.zero_le _, by simp, rfl, rfl, OwnL.nil _ _ _ _ _ _, a1, hb, HX⟩
  case round =>
    clear a1 hb HX
    obtain ⟨k0, acc, hk0, hacc, rfl, rfl, hown, hB, hbw, HE0⟩ := hrel
    obtain ⟨A4, cap4, rfl⟩ := hown.form
    go_wp2_with fail
    go_loopg [5] (s.length - k0) (fun G s5 wx => ∃ k : Nat, k0 ≤ k ∧ k ≤ s.length ∧ G = s.length - k ∧ s5 = .int .i64 k ∧ wr = wx ∧ Hid (X = goA (s.drop k) k acc))
    case atStart => exact ⟨k0, Nat.le_refl _, hk0, rfl, rfl, rfl, HE0⟩
    case round =>
      clear HE0
      obtain ⟨k, hkk, hk, rfl, rfl, rfl, HE⟩ := hrel
      have hend : ∀ c u, s.drop k = c :: u → k < s.length := fun c u h => by
        rcases Nat.lt_or_ge k s.length with h' | h'
        · exact h'
        · rw [List.drop_eq_nil_of_le h'] at h; cases h
      by_cases hlt : k < s.length
      · have hks2 : k < (bs s).size := by rw [bs_size]; exact hlt
        have hks : (k : Int) < ((bs s).size : Int) := by omega
        obtain ⟨c, hc⟩ : ∃ c, c = s[k]'hlt := ⟨_, rfl⟩
        have hbb : (bs s)[k]'hks2 = c := hc.symm
        have hdr : s.drop k = c :: s.drop (k + 1) := by rw [hc]; exact List.drop_eq_getElem_cons hlt
        have HE2 : Hid (X = goA (c :: s.drop (k + 1)) k acc) := Lib.hid (by rw [HE.out, hdr])
        have HD := Lib.hid hdr
        clear hc HE hdr hend
        by_cases h32 : c = 32
        · have hcb : ((c.toNat : Int) == 32) = true := by rw [h32]; rfl
          have HV : Hid (X = goA (s.drop (k + 1)) (k + 1) acc) := Lib.hid (by rw [HE2.out, h32, goA_blank])
          clear h32
          go_wp2_with fail
          go_roundg (s.length - (k + 1))
          case measure => omega
          case rel => exact ⟨k + 1, by omega, by omega, rfl, by go_num, rfl, HV⟩
        · have hcb : ((c.toNat : Int) == 32) = false := by rw [show (32 : Int) = ((32 : UInt8).toNat : Int) from rfl, beq_byte]; simpa using h32
          have hne : ((k : Int) == ((bs s).size : Int)) = false := by simp; omega
          have HFU := Lib.hid (goA_full c (s.drop (k + 1)) k acc h32)
          have HBA := Lib.hid (goA_bad c (s.drop (k + 1)) k acc h32)
          have HOK := Lib.hid (goA_ok c (s.drop (k + 1)) k acc h32)
          have HWB := Lib.hid (aBar_word c (s.drop (k + 1)) h32)
          have HWC := Lib.hid (wordOf_cons c (s.drop (k + 1)) h32)
          clear h32
          by_cases h64 : acc.length = 64
          · have hb64 : ((acc.length : Int) == 64) = true := by simp; omega
            have HV : Hid (X = ([], (k : Int), 4)) := Lib.hid (by rw [HE2.out, HFU.out h64])
            clear h64 HFU HBA HOK HWB HWC HE2
            have y0 := hB.cell 0
            have y1 := hB.cell 1
            have y2 := hB.cell 2
            have fy0 := Blk.free hB 0
            have fy1 := Blk.free hB 1
            have fy2 := Blk.free hB 2
            simp at y0 y1 y2
            have K3 := blk_set3 hB (.string ⟨#[]⟩) (.int .i64 ((k : Int))) (.int .i64 4)
            have hq9 := below_set3 hbw (g := w.heap.size) (Nat.le_refl _) (.string ⟨#[]⟩) (.int .i64 ((k : Int))) (.int .i64 4)
            go_wp2_with fail
            generalize ((wr.setCell ⟨w.heap.size, 0, none⟩ (.string ⟨#[]⟩)).setCell ⟨w.heap.size, 1, none⟩ (.int .i64 ((k : Int)))).setCell ⟨w.heap.size, 2, none⟩ (.int .i64 4) = W9 at K3 hq9 ⊢
            have k0 := K3.cell 0
            have k1 := K3.cell 1
            have k2 := K3.cell 2
            simp at k0 k1 k2
            refine bodyPost_ret (v := .tuple #[.slice none 0 0, .agg #[.string ⟨#[]⟩, .int .i64 ((k : Int)), .int .i64 4]]) (by simp [results, Tryd.results7, go_sem, k0, k1, k2]) rfl ?_
            rw [HV.out]
            exact ⟨⟨_, rfl, Sl.nil _ _ _ _⟩, hq9⟩
          · have hb64 : ((acc.length : Int) == 64) = false := by simp; omega
            have hac : acc.length < 64 := by omega
            have HBA2 := Lib.hid (fun k e => HBA.out h64 k e)
            have HOK2 := Lib.hid (fun t => HOK.out h64 t)
            clear h64 HFU HBA HOK
            have hB2 := hB.alloc (.cells #[.bool false, .string ⟨#[]⟩, .int .i64 0, .string ⟨#[]⟩] 40)
            have hbw2 := hbw.alloc hbw.size (.cells #[.bool false, .string ⟨#[]⟩, .int .i64 0, .string ⟨#[]⟩] 40)
            have own2 := hown.keep good_want (Kept.of_below ((Below.refl wr.heap.size wr).alloc (Nat.le_refl _) (.cells #[.bool false, .string ⟨#[]⟩, .int .i64 0, .string ⟨#[]⟩] 40)) _)
            have bT := Blk.new wr 40 #[.bool false, .string ⟨#[]⟩, .int .i64 0, .string ⟨#[]⟩]
            have hgg := hB.lt
            generalize hg6 : wr.heap.size = g6 at bT hgg
            go_upto_region 10 with fail
            generalize wr.alloc (.cells #[.bool false, .string ⟨#[]⟩, .int .i64 0, .string ⟨#[]⟩] 40) = W1 at hB2 hbw2 own2 bT ⊢
            have ownY : OwnL 4 Rwant 40 (w.heap.size + 1) (oldG (w.heap.size + 1) g6) W1 (.slice A4 acc.length cap4) acc := own_pureA own2 (Y := oldG (w.heap.size + 1) g6) (fun i hi hY => by
              have h1 := hown.ltA i hi
              have h2 := hown.offA i hi
              unfold old at h2
              unfold oldG at hY
              omega)
            have hg0 : w.heap.size < g6 := hgg
            clear hB hbw hown hg6 own2 hgg
            obtain ⟨wd, Hwd⟩ : ∃ wd, Hid (wordOf (c :: s.drop (k + 1)) = wd) := ⟨_, Lib.hid rfl⟩
            rw [Hwd.out] at HBA2 HOK2 HWB HWC
            have hwl : wd.length ≤ s.length - k := by
              have := wordOf_len (c :: s.drop (k + 1))
              rw [Hwd.out, ← HD.out, List.length_drop] at this
              exact this
            have hwp : 0 < wd.length := by rw [HWC.out]; simp
            go_upto_if 36 with fail
            go_cut [5] (fun s5 wx => ∃ p : Nat, s5 = .int .i64 p ∧ k ≤ p ∧ p ≤ s.length ∧ Blk wx g6 40 #[.bool (aBar wd), .string ⟨#[]⟩, .int .i64 0, .string ⟨#[]⟩] ∧ Blk wx w.heap.size 26 #[.string ⟨#[]⟩, .int .i64 0, .int .i64 0] ∧ Below w.heap.size w wx ∧ OwnL 4 Rwant 40 (w.heap.size + 1) (oldG (w.heap.size + 1) g6) wx (.slice A4 acc.length cap4) acc ∧ Hid (aRest wd = wordOf (s.drop p)) ∧ Hid (p + (wordOf (s.drop p)).length = k + wd.length))
            case first => as_aux_lemma =>
              by_cases h33 : c = 33
              · have hcb3 : ((c.toNat : Int) == 33) = true := by rw [h33]; rfl
                have HB1 : Hid (aBar wd = true) := Lib.hid (by rw [HWB.out.1]; simpa using h33)
                have HR1 : Hid (aRest wd = wordOf (s.drop (k + 1))) := Lib.hid (by rw [HWB.out.2, if_pos h33])
                have HL1 : Hid (k + 1 + (wordOf (s.drop (k + 1))).length = k + wd.length) := Lib.hid (by rw [HWC.out, List.length_cons]; omega)
                have c0 := bT.cell 0
                have cf0 := Blk.free bT 0
                simp at c0
                have bT2 := bT.set (u := .bool true) 0
                have hB3 := Blk.other hB2 (a := ⟨g6, 0, none⟩) (.bool true) (by show w.heap.size ≠ g6; omega)
                have hbw3 := hbw2.setCell (p := ⟨g6, 0, none⟩) (by show w.heap.size ≤ g6; omega) (.bool true)
                have own3 := ownY.keep good_want ((Kept.refl (oldG (w.heap.size + 1) g6) W1).setCell (p := ⟨g6, 0, none⟩) (.bool true) (fun _ => .inr rfl))
                simp at bT2
                clear h33
                go_wp2_with fail
                go_meet
                exact ⟨k + 1, by go_num, by omega, by omega, by rw [HB1.out]; exact bT2, hB3, hbw3, own3, HR1, HL1⟩
              · have hcb3 : ((c.toNat : Int) == 33) = false := by rw [show (33 : Int) = ((33 : UInt8).toNat : Int) from rfl, beq_byte]; simpa using h33
                have HB1 : Hid (aBar wd = false) := Lib.hid (by rw [HWB.out.1]; simpa using h33)
                have HR1 : Hid (aRest wd = wordOf (s.drop k)) := Lib.hid (by rw [HWB.out.2, if_neg h33, HD.out, Hwd.out])
                have HL1 : Hid (k + (wordOf (s.drop k)).length = k + wd.length) := Lib.hid (by rw [HD.out, Hwd.out])
                clear h33
                go_wp2_with fail
                go_meet
                exact ⟨k, rfl, by omega, by omega, by rw [HB1.out]; exact bT, hB2, hbw2, ownY, HR1, HL1⟩
            case rest => as_aux_lemma =>
              clear hB2 hbw2 ownY bT HWB HWC hbb hcb hne hb64
              obtain ⟨p, rfl, hkp, hps, bT, hB, hbw, hown, HR, HL⟩ := hcut
              obtain ⟨nm, Hnm⟩ : ∃ nm, Hid ((s.drop p).takeWhile nmStop = nm) := ⟨_, Lib.hid rfl⟩
              have HNA : Hid (aName (aRest wd) = nm) := Lib.hid (by rw [HR.out, aName_word, Hnm.out])
              have hnl : p + nm.length ≤ s.length := by
                have := tw_len nmStop (s.drop p)
                rw [Hnm.out, List.length_drop] at this
                omega
              go_upto_block 4 with fail
              go_cut [5] (fun s5 wy => s5 = .int .i64 ((p + nm.length : Nat) : Int) ∧ wc = wy)
              case first => as_aux_lemma =>
                have hdl : (s.drop p).length = s.length - p := List.length_drop
                go_wp2_with fail
                go_loopg [5] (s.length - p) (fun G s5 wy => ∃ i : Nat, p ≤ i ∧ i ≤ p + nm.length ∧ G = s.length - i ∧ s5 = .int .i64 i ∧ wc = wy)
                case atStart => exact ⟨p, Nat.le_refl _, by omega, rfl, rfl, rfl⟩
                case round =>
                  obtain ⟨i, hpi, hin, rfl, rfl, rfl⟩ := hrel
                  by_cases hlt2 : i < s.length
                  · have hks2 : i < (bs s).size := by rw [bs_size]; exact hlt2
                    have hks : (i : Int) < ((bs s).size : Int) := by omega
                    obtain ⟨d, hd⟩ : ∃ d, d = s[i]'hlt2 := ⟨_, rfl⟩
                    have hbb : (bs s)[i]'hks2 = d := hd.symm
                    have hn := tw_next nmStop (s.drop p) (i - p) (by omega) (by rw [Hnm.out]; omega)
                    have hget : (s.drop p)[i - p]'(by omega) = d := by rw [List.getElem_drop, hd]; congr 1; omega
                    rw [hget, Hnm.out] at hn
                    have HN := Lib.hid hn
                    clear hn hget hd
                    by_cases hst : nmStop d = true
                    · have h1 : i + 1 ≤ p + nm.length := by have := HN.out.1 hst; omega
                      have hx := nmStop_yes d hst
                      obtain ⟨x0, x1, x2, x3, x4⟩ := hx
                      have v0 : ((d.toNat : Int) != 32) = true := by rw [bne, show (32 : Int) = ((32 : UInt8).toNat : Int) from rfl, beq_byte]; simpa using x0
                      have v1 : ((d.toNat : Int) != 60) = true := by rw [bne, show (60 : Int) = ((60 : UInt8).toNat : Int) from rfl, beq_byte]; simpa using x1
                      have v2 : ((d.toNat : Int) != 61) = true := by rw [bne, show (61 : Int) = ((61 : UInt8).toNat : Int) from rfl, beq_byte]; simpa using x2
                      have v3 : ((d.toNat : Int) != 62) = true := by rw [bne, show (62 : Int) = ((62 : UInt8).toNat : Int) from rfl, beq_byte]; simpa using x3
                      have v4 : ((d.toNat : Int) != 126) = true := by rw [bne, show (126 : Int) = ((126 : UInt8).toNat : Int) from rfl, beq_byte]; simpa using x4
                      clear x0 x1 x2 x3 x4 hst HN
                      go_wp2_with fail
                      go_roundg (s.length - (i + 1))
                      case measure => omega
                      case rel => exact ⟨i + 1, by omega, by omega, rfl, by go_num, rfl⟩
                    · have h1 : i = p + nm.length := by
                        have := HN.out.2 (by simpa using hst)
                        omega
                      have hx := nmStop_no d hst
                      subst h1
                      clear hst HN
                      rcases hx with rfl | rfl | rfl | rfl | rfl
                      all_goals
                        go_wp2_with fail
                        go_meet
                        exact ⟨rfl, rfl⟩
                  · have h1 : i = p + nm.length := by omega
                    subst h1
                    go_wp2_with fail
                    go_meet
                    exact ⟨rfl, rfl⟩
              case rest => as_aux_lemma =>
                obtain ⟨rfl, rfl⟩ := hcut
                have hx : (bs s).extract p (p + nm.length) = bs nm := by
                  rw [ext_mid, Nat.add_sub_cancel_left, ← Hnm.out, take_tw]
                have hle : (0 : Int) ≤ (p : Int) ∧ (p : Int) ≤ (p : Int) + nm.length := by omega
                have hle2 : (p : Int) + nm.length ≤ (s.length : Int) := by omega
                have hle3 : (0 : Int) ≤ (p : Int) + nm.length := by omega
                have c1 := bT.cell 1
                have cf1 := Blk.free bT 1
                simp at c1
                have bT2 := bT.set (u := .string (bs nm)) 1
                have hB2 := Blk.other hB (a := ⟨g6, 1, none⟩) (.string (bs nm)) (by show w.heap.size ≠ g6; omega)
                have hbw2 := hbw.setCell (p := ⟨g6, 1, none⟩) (by show w.heap.size ≤ g6; omega) (.string (bs nm))
                have own2 := hown.keep good_want ((Kept.refl (oldG (w.heap.size + 1) g6) wc).setCell (p := ⟨g6, 1, none⟩) (.string (bs nm)) (fun _ => .inr rfl))
                simp at bT2
                go_upto_region 17 with fail
                generalize wc.setCell ⟨g6, 1, none⟩ (.string (bs nm)) = W2 at bT2 hB2 hbw2 own2 ⊢
                clear bT hB hbw hown c1 cf1 hx hle hle2 hle3
                have c1 := bT2.cell 1
                simp at c1
                go_wp2_with fail
                refine (rname_any nm _ (by omega)).mono ?_
                rintro e wq ⟨rfl, rfl⟩
                have HSP := Lib.hid (word_split (s.drop p))
                cases hnm : anmB nm with
                | false =>
                  have HV : Hid (X = ([], (p : Int), 10)) := Lib.hid (by
                    have h1 := HBA2.out (wd.length - (aRest wd).length) 10 (by rw [pWord, HNA.out, hnm]; rfl)
                    have h2 := HL.out
                    rw [HE2.out, h1, HR.out]
                    congr 2
                    omega)
                  clear hnm HBA2 HOK2 HE2
                  have y0 := hB2.cell 0
                  have y1 := hB2.cell 1
                  have y2 := hB2.cell 2
                  have fy0 := Blk.free hB2 0
                  have fy1 := Blk.free hB2 1
                  have fy2 := Blk.free hB2 2
                  simp at y0 y1 y2
                  have K3 := blk_set3 hB2 (.string ⟨#[]⟩) (.int .i64 ((p : Int))) (.int .i64 10)
                  have hq9 := below_set3 hbw2 (g := w.heap.size) (Nat.le_refl _) (.string ⟨#[]⟩) (.int .i64 ((p : Int))) (.int .i64 10)
                  go_wp2_with fail
                  generalize ((W2.setCell ⟨w.heap.size, 0, none⟩ (.string ⟨#[]⟩)).setCell ⟨w.heap.size, 1, none⟩ (.int .i64 ((p : Int)))).setCell ⟨w.heap.size, 2, none⟩ (.int .i64 10) = W9 at K3 hq9 ⊢
                  have k0 := K3.cell 0
                  have k1 := K3.cell 1
                  have k2 := K3.cell 2
                  simp at k0 k1 k2
                  refine bodyPost_ret (v := .tuple #[.slice none 0 0, .agg #[.string ⟨#[]⟩, .int .i64 ((p : Int)), .int .i64 10]]) (by simp [results, Tryd.results7, go_sem, k0, k1, k2]) rfl ?_
                  rw [HV.out]
                  exact ⟨⟨_, rfl, Sl.nil _ _ _ _⟩, hq9⟩
                | true =>
                  obtain ⟨tl, Htl⟩ : ∃ tl, Hid (aTail (wordOf (s.drop p)) = tl) := ⟨_, Lib.hid rfl⟩
                  have HT1 : Hid (wordOf (s.drop (p + nm.length)) = tl) := Lib.hid (by
                    rw [← Htl.out, aTail_word, Hnm.out, List.drop_drop])
                  have HLn : Hid (p + nm.length + tl.length = k + wd.length) := Lib.hid (by
                    have h1 := HSP.out
                    have h2 := HL.out
                    rw [Htl.out, ← HR.out, HNA.out, HR.out] at h1
                    omega)
                  have HPW : Hid (pWord wd = if tl = [] then .ok ⟨aBar wd, nm, 0, []⟩ else pVer wd (aBar wd) nm (aRel tl)) := Lib.hid (by
                    rw [pWord, HNA.out, if_pos hnm, HR.out, Htl.out])
                  clear hnm HSP
                  have HX2 := Lib.hid (show ∀ t, pWord wd = .ok t → X = goA (s.drop (k + wd.length)) (k + wd.length) (acc ++ [t]) from fun t h => by
                    have h1 := HOK2.out t h
                    rw [HE2.out, h1, ← HD.out, List.drop_drop])
                  have HX3 := Lib.hid (show ∀ kk e, pWord wd = .bad kk e → X = ([], (k : Int) + kk, e) from fun kk e h => by rw [HE2.out, HBA2.out kk e h])
                  clear HBA2 HOK2 HE2
                  have hsl : k + wd.length ≤ s.length := by omega
                  have HNW : Hid (decide (tl ≠ []) = true ↔ (tl ≠ [])) := Lib.hid (by simp)
                  have hi0 : (0 : Int) ≤ (p : Int) + nm.length := by omega
                  go_upto_region 19 with fail
                  go_cut [99] (fun s99 wy => s99 = .bool (decide (tl ≠ [])) ∧ W2 = wy)
                  case first => as_aux_lemma =>
                    by_cases hil : p + nm.length < s.length
                    · have hks2 : p + nm.length < (bs s).size := by rw [bs_size]; exact hil
                      obtain ⟨d, hd⟩ : ∃ d, d = s[p + nm.length]'hil := ⟨_, rfl⟩
                      have hdd : (bs s)[p + nm.length]'hks2 = d := hd.symm
                      have hdr : s.drop (p + nm.length) = d :: s.drop (p + nm.length + 1) := by rw [hd]; exact List.drop_eq_getElem_cons hil
                      have hil' : (p : Int) + nm.length < (s.length : Int) := by omega
                      by_cases hd32 : d = 32
                      · have htl : tl = [] := by rw [← HT1.out, hdr, hd32]; rfl
                        have HV : Hid (decide (tl ≠ []) = false) := Lib.hid (by simp [htl])
                        rw [hd32] at hdd
                        clear hd hdr hd32 htl
                        go_wp2_with fail
                        go_meet
                        exact ⟨by rw [HV.out], rfl⟩
                      · have htl : tl ≠ [] := by rw [← HT1.out, hdr, wordOf_cons _ _ hd32]; simp
                        have HV : Hid (decide (tl ≠ []) = true) := Lib.hid (by simpa using htl)
                        have hdb : ((d.toNat : Int) != 32) = true := by rw [bne, show (32 : Int) = ((32 : UInt8).toNat : Int) from rfl, beq_byte]; simpa using hd32
                        clear hd hdr hd32 htl
                        go_wp2_with fail
                        go_meet
                        exact ⟨by rw [HV.out], rfl⟩
                    · have htl : tl = [] := by rw [← HT1.out, List.drop_eq_nil_of_le (by omega)]; rfl
                      have HV : Hid (decide (tl ≠ []) = false) := Lib.hid (by simp [htl])
                      have hil' : ¬ (p : Int) + nm.length < (s.length : Int) := by omega
                      clear htl
                      go_wp2_with fail
                      go_meet
                      exact ⟨by rw [HV.out], rfl⟩
                  case rest => as_aux_lemma =>
                  obtain ⟨rfl, rfl⟩ := hcut
                  clear HNW
                  go_upto_if 99 with fail
                  go_cut [5] (fun s5 wy => ∃ (i : Nat) (t : Wt), s5 = .int .i64 (i : Int) ∧ k0 < i ∧ i ≤ s.length ∧ Blk wy g6 40 #[.bool t.bar, .string (bs t.name), .int .i64 t.op, .string (bs t.ver)] ∧ Blk wy w.heap.size 26 #[.string ⟨#[]⟩, .int .i64 0, .int .i64 0] ∧ Below w.heap.size w wy ∧ OwnL 4 Rwant 40 (w.heap.size + 1) (oldG (w.heap.size + 1) g6) wy (.slice A4 acc.length cap4) acc ∧ Hid (X = goA (s.drop i) i (acc ++ [t])))
                  case first => as_aux_lemma =>
                    by_cases htl : tl = []
                    · have HV : Hid (X = goA (s.drop (p + nm.length)) (p + nm.length) (acc ++ [⟨aBar wd, nm, 0, []⟩])) := Lib.hid (by
                        have h1 := HX2.out _ (HPW.out.trans (if_pos htl))
                        have h2 := HLn.out
                        rw [htl] at h2
                        rw [h1, ← h2]; rfl)
                      have hk1 : k0 < p + nm.length := by
                        have h2 := HLn.out
                        rw [htl] at h2
                        simp only [List.length_nil] at h2
                        omega
                      rw [show decide (tl ≠ []) = false by simp [htl]]
                      clear htl
                      go_wp2_with fail
                      go_meet
                      exact ⟨p + nm.length, _, rfl, hk1, by omega, bT2, hB2, hbw2, own2, HV⟩
                    · have hil : p + nm.length < s.length := by
                        rcases Nat.lt_or_ge (p + nm.length) s.length with h' | h'
                        · exact h'
                        · have h1 := HT1.out
                          rw [List.drop_eq_nil_of_le h'] at h1
                          exact absurd h1.symm htl
                      have hks2 : p + nm.length < (bs s).size := by rw [bs_size]; exact hil
                      obtain ⟨d, hd⟩ : ∃ d, d = s[p + nm.length]'hil := ⟨_, rfl⟩
                      have hdd : (bs s)[p + nm.length]'hks2 = d := hd.symm
                      have hdr : s.drop (p + nm.length) = d :: s.drop (p + nm.length + 1) := by rw [hd]; exact List.drop_eq_getElem_cons hil
                      have hd32 : d ≠ 32 := fun e => by
                        have h1 := HT1.out
                        rw [hdr, e] at h1
                        exact htl h1.symm
                      have hd4 := stop_at (s.drop p) d (s.drop (p + nm.length + 1)) (by rw [Hnm.out, List.drop_drop, hdr]) hd32
                      have HTD : Hid (tl = d :: wordOf (s.drop (p + nm.length + 1))) := Lib.hid (by rw [← HT1.out, hdr, wordOf_cons _ _ hd32])
                      have hil' : (p : Int) + nm.length < (s.length : Int) := by omega
                      have HPV : Hid (pWord wd = pVer wd (aBar wd) nm (aRel tl)) := Lib.hid (by rw [HPW.out, if_neg htl])
                      rw [show decide (tl ≠ []) = true by simpa using htl]
                      clear hd hdr htl hd32
                      go_upto_block 6 with fail
                      have c2 := bT2.cell 2
                      have cf2 := Blk.free bT2 2
                      simp at c2
                      have hB3 := fun o : Int => Blk.other hB2 (a := ⟨g6, 2, none⟩) (.int .i64 o) (by show w.heap.size ≠ g6; omega)
                      have hbw3 := fun o : Int => hbw2.setCell (p := ⟨g6, 2, none⟩) (by show w.heap.size ≤ g6; omega) (.int .i64 o)
                      have own3 := fun o : Int => own2.keep good_want ((Kept.refl (oldG (w.heap.size + 1) g6) W2).setCell (p := ⟨g6, 2, none⟩) (.int .i64 o) (fun _ => .inr rfl))
                      have bT3 := bT2
                      go_cut [] (fun wy => Blk wy g6 40 #[.bool (aBar wd), .string (bs nm), .int .i64 (opD d), .string ⟨#[]⟩] ∧ Blk wy w.heap.size 26 #[.string ⟨#[]⟩, .int .i64 0, .int .i64 0] ∧ Below w.heap.size w wy ∧ OwnL 4 Rwant 40 (w.heap.size + 1) (oldG (w.heap.size + 1) g6) wy (.slice A4 acc.length cap4) acc)
                      case first => as_aux_lemma =>
                        rcases hd4 with rfl | rfl | rfl | rfl
                        · have bS := bT3.set (u := .int .i64 1) 2
                          simp at bS
                          go_wp2_with fail
                          go_meet
                          exact ⟨bS, hB3 1, hbw3 1, own3 1⟩
                        · have bS := bT3.set (u := .int .i64 3) 2
                          simp at bS
                          go_wp2_with fail
                          go_meet
                          exact ⟨bS, hB3 3, hbw3 3, own3 3⟩
                        · have bS := bT3.set (u := .int .i64 5) 2
                          simp at bS
                          go_wp2_with fail
                          go_meet
                          exact ⟨bS, hB3 5, hbw3 5, own3 5⟩
                        · have bS := bT3.set (u := .int .i64 6) 2
                          simp at bS
                          go_wp2_with fail
                          go_meet
                          exact ⟨bS, hB3 6, hbw3 6, own3 6⟩
                      case rest => as_aux_lemma =>
                        clear hB3 hbw3 own3 bT3 c1 c2 cf2 bT2 hB2 hbw2 own2 hdd
                        obtain ⟨bT4, hB0, hbw0, own0⟩ := hcut
                        have c2 := bT4.cell 2
                        have cf2 := Blk.free bT4 2
                        simp at c2
                        have hB4 := fun o : Int => Blk.other hB0 (a := ⟨g6, 2, none⟩) (.int .i64 o) (by show w.heap.size ≠ g6; omega)
                        have hbw4 := fun o : Int => hbw0.setCell (p := ⟨g6, 2, none⟩) (by show w.heap.size ≤ g6; omega) (.int .i64 o)
                        have own4 := fun o : Int => own0.keep good_want ((Kept.refl (oldG (w.heap.size + 1) g6) wc).setCell (p := ⟨g6, 2, none⟩) (.int .i64 o) (fun _ => .inr rfl))
                        obtain ⟨r, Hr⟩ : ∃ r, Hid (s.drop (p + nm.length + 1) = r) := ⟨_, Lib.hid rfl⟩
                        rw [Hr.out] at HTD
                        obtain ⟨o, Ho⟩ : ∃ o, Hid (opD d = o) := ⟨_, Lib.hid rfl⟩
                        rw [Ho.out] at bT4 c2
                        have hdl : r.length + (p + nm.length + 1) = s.length := by
                          have := congrArg List.length Hr.out
                          rw [List.length_drop] at this
                          omega
                        have hat : ∀ e u, r = e :: u → ∃ h : p + nm.length + 1 < (bs s).size, (bs s)[p + nm.length + 1]'h = e := fun e u h => by
                          have h1 : p + nm.length + 1 < s.length := by rw [h, List.length_cons] at hdl; omega
                          refine ⟨by rw [bs_size]; exact h1, ?_⟩
                          have h2 := Hr.out
                          rw [h, List.drop_eq_getElem_cons h1] at h2
                          injection h2
                        have hlb : ∀ e u, r = e :: u → (p : Int) + nm.length + 1 < (s.length : Int) := fun e u h => by
                          rw [h, List.length_cons] at hdl
                          omega
                        have hi1 : (0 : Int) ≤ (p : Int) + nm.length + 1 := by omega
                        go_upto_region 29 with fail
                        go_cut [134] (fun s134 wy => s134 = .bool (hasB r 61 && (o == 1)) ∧ wc = wy)
                        case first => as_aux_lemma =>
                          cases hr : r with
                          | nil =>
                            have hil2 : ¬ (p : Int) + nm.length + 1 < (s.length : Int) := by rw [hr] at hdl; simp only [List.length_nil] at hdl; omega
                            have HZ : Hid (hasB r 61 = false) := Lib.hid (by rw [hr]; rfl)
                            clear hr hat hlb
                            go_wp2_with fail
                            go_meet
                            exact ⟨by rw [HZ.out]; rfl, rfl⟩
                          | cons e u =>
                            obtain ⟨h1, h2⟩ := hat e u hr
                            have h3 := hlb e u hr
                            by_cases h61 : e = 61
                            · have HZ : Hid (hasB r 61 = true) := Lib.hid (by rw [hr, h61]; rfl)
                              clear hr hat hlb
                              subst h61
                              go_wp2_with fail
                              go_meet
                              exact ⟨by rw [HZ.out]; rfl, rfl⟩
                            · have HZ : Hid (hasB r 61 = false) := Lib.hid (by rw [hr]; simp [hasB, h61])
                              have h61b : ((e.toNat : Int) == 61) = false := by rw [show (61 : Int) = ((61 : UInt8).toNat : Int) from rfl, beq_byte]; simpa using h61
                              clear hr hat hlb h61
                              go_wp2_with fail
                              go_meet
                              exact ⟨by rw [HZ.out]; rfl, rfl⟩
                        case rest => as_aux_lemma =>
                        obtain ⟨rfl, rfl⟩ := hcut
                        go_upto_if 134 with fail
                        go_cut [5] (fun s5 wy => ∃ q : Nat, s5 = .int .i64 (q : Int) ∧ k < q ∧ q ≤ s.length ∧ Blk wy g6 40 #[.bool (aBar wd), .string (bs nm), .int .i64 (aRel tl).1, .string ⟨#[]⟩] ∧ Blk wy w.heap.size 26 #[.string ⟨#[]⟩, .int .i64 0, .int .i64 0] ∧ Below w.heap.size w wy ∧ OwnL 4 Rwant 40 (w.heap.size + 1) (oldG (w.heap.size + 1) g6) wy (.slice A4 acc.length cap4) acc ∧ (aRel tl).2 = wordOf (s.drop q) ∧ Hid (q + (wordOf (s.drop q)).length = k + wd.length))
                        case first => as_aux_lemma =>
                          cases hb : hasB r 61 with
                          | false =>
                            have HR2 : Hid (aRel tl = (o, wordOf r)) := Lib.hid (by rw [HTD.out, aRel_no d r hd4 hb, Ho.out])
                            have HL2 : Hid (p + nm.length + 1 + (wordOf (s.drop (p + nm.length + 1))).length = k + wd.length) := Lib.hid (by
                              have h1 := HLn.out
                              rw [HTD.out] at h1
                              simp only [List.length_cons] at h1
                              rw [Hr.out]
                              omega)
                            have HE9 : Hid ((aRel tl).2 = wordOf (s.drop (p + nm.length + 1))) := Lib.hid (by rw [HR2.out, Hr.out])
                            rw [Bool.false_and]
                            cases hr : r with
                            | nil =>
                              have hil2 : ¬ (p : Int) + nm.length + 1 < (s.length : Int) := by rw [hr] at hdl; simp only [List.length_nil] at hdl; omega
                              clear hr hat hlb hb
                              go_wp2_with fail
                              go_meet
                              exact ⟨p + nm.length + 1, by first | rfl | go_num, by omega, by omega, by rw [HR2.out]; exact bT4, hB0, hbw0, own0, HE9.out, HL2⟩
                            | cons e u =>
                              obtain ⟨h1, h2⟩ := hat e u hr
                              have h3 := hlb e u hr
                              have h61 : e ≠ 61 := fun e' => by rw [hr, e'] at hb; simp [hasB] at hb
                              have h61b : ((e.toNat : Int) == 61) = false := by rw [show (61 : Int) = ((61 : UInt8).toNat : Int) from rfl, beq_byte]; simpa using h61
                              clear hr hat hlb hb h61
                              go_wp2_with fail
                              go_meet
                              exact ⟨p + nm.length + 1, by first | rfl | go_num, by omega, by omega, by rw [HR2.out]; exact bT4, hB0, hbw0, own0, HE9.out, HL2⟩
                          | true =>
                            obtain ⟨u, hru⟩ := hasB_yesA r 61 hb
                            obtain ⟨h1, h2⟩ := hat 61 u hru
                            have h3 := hlb 61 u hru
                            have hde : s.drop (p + nm.length + 1 + 1) = u := by
                              have h4 := Hr.out
                              rw [hru, List.drop_eq_getElem_cons (by rw [bs_size] at h1; exact h1)] at h4
                              injection h4
                            have HDE := Lib.hid hde
                            have HRU := Lib.hid hru
                            rw [Bool.true_and]
                            have hwl2 := HLn.out
                            rw [HTD.out, hru, wordOf_cons 61 u (by decide)] at hwl2
                            simp only [List.length_cons] at hwl2
                            clear hat hlb hb hru hde
                            rcases hd4 with rfl | rfl | rfl | rfl
                            · obtain rfl : o = 1 := Ho.out.symm
                              have HR2 : Hid (aRel tl = (2, wordOf (s.drop (p + nm.length + 1 + 1)))) := Lib.hid (by rw [HTD.out, HRU.out, wordOf_cons 61 u (by decide), HDE.out]; rfl)
                              have bS := bT4.set (u := .int .i64 2) 2
                              simp at bS
                              go_wp2_with fail
                              go_meet
                              exact ⟨p + nm.length + 1 + 1, by first | rfl | go_num, by omega, by omega, by rw [HR2.out]; exact bS, hB4 2, hbw4 2, own4 2, by rw [HR2.out], Lib.hid (by rw [HDE.out]; omega)⟩
                            · obtain rfl : o = 3 := Ho.out.symm
                              have HR2 : Hid (aRel tl = (3, wordOf (s.drop (p + nm.length + 1)))) := Lib.hid (by rw [HTD.out, Hr.out]; rfl)
                              go_wp2_with fail
                              go_meet
                              exact ⟨p + nm.length + 1, by first | rfl | go_num, by omega, by omega, by rw [HR2.out]; exact bT4, hB0, hbw0, own0, by rw [HR2.out], Lib.hid (by rw [Hr.out, HRU.out, wordOf_cons 61 u (by decide), List.length_cons]; omega)⟩
                            · obtain rfl : o = 5 := Ho.out.symm
                              have HR2 : Hid (aRel tl = (4, wordOf (s.drop (p + nm.length + 1 + 1)))) := Lib.hid (by rw [HTD.out, HRU.out, wordOf_cons 61 u (by decide), HDE.out]; rfl)
                              have bS := bT4.set (u := .int .i64 4) 2
                              simp at bS
                              go_wp2_with fail
                              go_meet
                              exact ⟨p + nm.length + 1 + 1, by first | rfl | go_num, by omega, by omega, by rw [HR2.out]; exact bS, hB4 4, hbw4 4, own4 4, by rw [HR2.out], Lib.hid (by rw [HDE.out]; omega)⟩
                            · obtain rfl : o = 6 := Ho.out.symm
                              have HR2 : Hid (aRel tl = (6, wordOf (s.drop (p + nm.length + 1)))) := Lib.hid (by rw [HTD.out, Hr.out]; rfl)
                              go_wp2_with fail
                              go_meet
                              exact ⟨p + nm.length + 1, by first | rfl | go_num, by omega, by omega, by rw [HR2.out]; exact bT4, hB0, hbw0, own0, by rw [HR2.out], Lib.hid (by rw [Hr.out, HRU.out, wordOf_cons 61 u (by decide), List.length_cons]; omega)⟩
                        case rest => as_aux_lemma =>
                          clear hB4 hbw4 own4 bT4 hB0 hbw0 own0 hat hlb c2 cf2
                          obtain ⟨q, rfl, hkq, hqs, bT, hB, hbw, hown, hver, HLq⟩ := hcut
                          obtain ⟨ov, Hov⟩ : ∃ ov, Hid (aRel tl = ov) := ⟨_, Lib.hid rfl⟩
                          rw [Hov.out] at bT hver HPV
                          obtain ⟨op, ver⟩ := ov
                          simp only at bT hver
                          have HVR := Lib.hid hver
                          have hvl : q + ver.length ≤ s.length := by rw [hver]; have := HLq.out; omega
                          have HVL : Hid (q + ver.length = k + wd.length) := Lib.hid (by rw [hver]; exact HLq.out)
                          clear hver
                          go_upto_block 7 with fail
                          go_cut [5] (fun s5 wy => s5 = .int .i64 ((q + ver.length : Nat) : Int) ∧ wc = wy)
                          case first => as_aux_lemma =>
                            have hdl3 : (s.drop q).length = s.length - q := List.length_drop
                            go_wp2_with fail
                            go_loopg [5] (s.length - q) (fun G s5 wy => ∃ i : Nat, q ≤ i ∧ i ≤ q + ver.length ∧ G = s.length - i ∧ s5 = .int .i64 i ∧ wc = wy)
                            case atStart => exact ⟨q, Nat.le_refl _, by omega, rfl, rfl, rfl⟩
                            case round =>
                              obtain ⟨i, hpi, hin, rfl, rfl, rfl⟩ := hrel
                              by_cases hlt2 : i < s.length
                              · have hks3 : i < (bs s).size := by rw [bs_size]; exact hlt2
                                have hks4 : (i : Int) < ((bs s).size : Int) := by omega
                                obtain ⟨d2, hd2⟩ : ∃ d, d = s[i]'hlt2 := ⟨_, rfl⟩
                                have hbb2 : (bs s)[i]'hks3 = d2 := hd2.symm
                                have hn := tw_next noBl (s.drop q) (i - q) (by omega) (by show i - q ≤ (wordOf (s.drop q)).length; rw [← HVR.out]; omega)
                                have hget : (s.drop q)[i - q]'(by omega) = d2 := by rw [List.getElem_drop, hd2]; congr 1; omega
                                rw [hget, show (s.drop q).takeWhile noBl = ver from HVR.out.symm] at hn
                                have HN := Lib.hid hn
                                clear hn hget hd2
                                by_cases hst : d2 = 32
                                · have h1 : i = q + ver.length := by
                                    have := HN.out.2 (by rw [hst]; rfl)
                                    omega
                                  subst h1
                                  subst hst
                                  clear HN
                                  go_wp2_with fail
                                  go_meet
                                  exact ⟨rfl, rfl⟩
                                · have h1 : i + 1 ≤ q + ver.length := by have := HN.out.1 (by simpa [noBl] using hst); omega
                                  have v0 : ((d2.toNat : Int) != 32) = true := by rw [bne, show (32 : Int) = ((32 : UInt8).toNat : Int) from rfl, beq_byte]; simpa using hst
                                  clear hst HN
                                  go_wp2_with fail
                                  go_roundg (s.length - (i + 1))
                                  case measure => omega
                                  case rel => exact ⟨i + 1, by omega, by omega, rfl, by go_num, rfl⟩
                              · have h1 : i = q + ver.length := by omega
                                subst h1
                                go_wp2_with fail
                                go_meet
                                exact ⟨rfl, rfl⟩
                          case rest => as_aux_lemma =>
                            obtain ⟨rfl, rfl⟩ := hcut
                            have hx : (bs s).extract q (q + ver.length) = bs ver := by
                              rw [ext_mid, Nat.add_sub_cancel_left, HVR.out]
                              exact congrArg bs (take_tw noBl (s.drop q))
                            have hle : (0 : Int) ≤ (q : Int) ∧ (q : Int) ≤ (q : Int) + ver.length := by omega
                            have hle2 : (q : Int) + ver.length ≤ (s.length : Int) := by omega
                            have hle3 : (0 : Int) ≤ (q : Int) + ver.length := by omega
                            have c3 := bT.cell 3
                            have cf3 := Blk.free bT 3
                            simp at c3
                            have bT2 := bT.set (u := .string (bs ver)) 3
                            have hB2 := Blk.other hB (a := ⟨g6, 3, none⟩) (.string (bs ver)) (by show w.heap.size ≠ g6; omega)
                            have hbw2 := hbw.setCell (p := ⟨g6, 3, none⟩) (by show w.heap.size ≤ g6; omega) (.string (bs ver))
                            have own2 := hown.keep good_want ((Kept.refl (oldG (w.heap.size + 1) g6) wc).setCell (p := ⟨g6, 3, none⟩) (.string (bs ver)) (fun _ => .inr rfl))
                            simp at bT2
                            go_upto_region 39 with fail
                            generalize wc.setCell ⟨g6, 3, none⟩ (.string (bs ver)) = W3 at bT2 hB2 hbw2 own2 ⊢
                            clear bT hB hbw hown c3 cf3 hx hle hle2 hle3
                            have c3 := bT2.cell 3
                            simp at c3
                            go_wp2_with fail
                            refine (rcheck_any 3 ver W3 (by omega)).mono ?_
                            rintro e W4 ⟨rfl, hb4⟩
                            have bT5 := bT2.below hb4 bT2.lt
                            have hB5 := hB2.below hb4 hB2.lt
                            have hbw5 := hbw2.trans (hb4.mono hbw2.size)
                            have own5 := own2.keep good_want (Kept.of_below hb4 _)
                            clear bT2 hB2 hbw2 own2 hb4 c3
                            have HPW2 : Hid (pWord wd = if vErr 3 ver = 0 then .ok ⟨aBar wd, nm, op, ver⟩ else .bad (wd.length - ver.length) (vErr 3 ver)) := Lib.hid HPV.out
                            by_cases h0 : vErr 3 ver = 0
                            · have HV : Hid (X = goA (s.drop (q + ver.length)) (q + ver.length) (acc ++ [⟨aBar wd, nm, op, ver⟩])) := Lib.hid (by
                                rw [HX2.out _ (HPW2.out.trans (if_pos h0)), HVL.out])
                              rw [h0]
                              clear h0
                              go_wp2_with fail
                              go_meet
                              exact ⟨q + ver.length, _, rfl, by omega, by omega, bT5, hB5, hbw5, own5, HV⟩
                            · have HV : Hid (X = ([], (q : Int), vErr 3 ver)) := Lib.hid (by
                                have h2 := HVL.out
                                rw [HX3.out _ _ (HPW2.out.trans (if_neg h0))]
                                congr 2
                                omega)
                              generalize vErr 3 ver = ee at h0 HV
                              have hee : (ee != 0) = true := by simpa using h0
                              clear h0
                              have y0 := hB5.cell 0
                              have y1 := hB5.cell 1
                              have y2 := hB5.cell 2
                              have fy0 := Blk.free hB5 0
                              have fy1 := Blk.free hB5 1
                              have fy2 := Blk.free hB5 2
                              simp at y0 y1 y2
                              have K3 := blk_set3 hB5 (.string ⟨#[]⟩) (.int .i64 ((q : Int))) (.int .i64 ee)
                              have hq9 := below_set3 hbw5 (g := w.heap.size) (Nat.le_refl _) (.string ⟨#[]⟩) (.int .i64 ((q : Int))) (.int .i64 ee)
                              go_wp2_with fail
                              generalize ((W4.setCell ⟨w.heap.size, 0, none⟩ (.string ⟨#[]⟩)).setCell ⟨w.heap.size, 1, none⟩ (.int .i64 ((q : Int)))).setCell ⟨w.heap.size, 2, none⟩ (.int .i64 ee) = W9 at K3 hq9 ⊢
                              have k0 := K3.cell 0
                              have k1 := K3.cell 1
                              have k2 := K3.cell 2
                              simp at k0 k1 k2
                              refine bodyPost_ret (v := .tuple #[.slice none 0 0, .agg #[.string ⟨#[]⟩, .int .i64 ((q : Int)), .int .i64 ee]]) (by simp [results, Tryd.results7, go_sem, k0, k1, k2]) rfl ?_
                              rw [HV.out]
                              exact ⟨⟨_, rfl, Sl.nil _ _ _ _⟩, hq9⟩
                  case rest => as_aux_lemma =>
                    clear bT2 hB2 hbw2 own2 c1
                    obtain ⟨i, t, rfl, hki, hil, bT, hB, hbw, hown, HV⟩ := hcut
                    have d0 := bT.cell 0
                    have d1 := bT.cell 1
                    have d2 := bT.cell 2
                    have d3 := bT.cell 3
                    simp at d0 d1 d2 d3
                    have hgl := hB.lt
                    have hsz : w.heap.size + 1 ≤ wc.heap.size := by omega
                    have hgl6 := bT.lt
                    go_wp2_with (at_builtin; refine wpList_appendL (l := acc) good_want rfl _ _ _ _ _ 48 rfl Tryd.underlying23 info_want rfl (by omega) _ rfl hown [.bool t.bar, .string (bs t.name), .int .i64 t.op, .string (bs t.ver)] t rfl rfl (by omega) (by omega) hsz (fun k hk hk2 => by unfold oldG at hk2; omega) ?_; intro v5 w5 hown5 hk5)
                    have hoff := hown.offA
                    have q5 := hbw.trans (hk5.below hbw.size (fun k _ h => by have := hoff k h; unfold oldG at this; omega))
                    have a5 := hk5.blk hB (fun h => by have := hoff _ h; unfold oldG at this; omega)
                    have own6 : OwnL 4 Rwant 40 (w.heap.size + 1) (old (w.heap.size + 1)) w5 v5 (acc ++ [t]) := hown5.mono good_want (fun i _ h => .inl h) (fun i h h2 => hown5.offA i h (.inl h2))
                    clear hk5 hoff hown hB hbw bT d0 d1 d2 d3 hown5
                    go_wp2_with fail
                    go_roundg (s.length + 1 - i)
                    case measure => omega
                    case rel => exact ⟨i, acc ++ [t], by omega, by simp; omega, rfl, rfl, own6, a5, q5, HV⟩
      · obtain rfl : k = s.length := by omega
        have HV : Hid (X = (acc, 0, 0)) := Lib.hid (by rw [HE.out, List.drop_length, goA_nil])
        clear HE hend
        have y0 := hB.cell 0
        have y1 := hB.cell 1
        have y2 := hB.cell 2
        have fy0 := Blk.free hB 0
        have fy1 := Blk.free hB 1
        have fy2 := Blk.free hB 2
        simp at y0 y1 y2
        have K3 := blk_set3 hB (.string ⟨#[]⟩) (.int .i64 0) (.int .i64 0)
        have hq2 := below_set3 hbw (g := w.heap.size) (Nat.le_refl _) (.string ⟨#[]⟩) (.int .i64 0) (.int .i64 0)
        have own2 := hown.keep good_want (X := old (w.heap.size + 1)) (w' := ((wr.setCell ⟨w.heap.size, 0, none⟩ (.string ⟨#[]⟩)).setCell ⟨w.heap.size, 1, none⟩ (.int .i64 0)).setCell ⟨w.heap.size, 2, none⟩ (.int .i64 0)) ((((Kept.refl _ _).setCell (p := ⟨w.heap.size, 0, none⟩) _ (fun _ => by unfold old; simp)).setCell (p := ⟨w.heap.size, 1, none⟩) _ (fun _ => by unfold old; simp)).setCell (p := ⟨w.heap.size, 2, none⟩) _ (fun _ => by unfold old; simp))
        have hne : ((s.length : Int) == ((bs s).size : Int)) = true := by simp; omega
        go_wp2_with fail
        generalize ((wr.setCell ⟨w.heap.size, 0, none⟩ (.string ⟨#[]⟩)).setCell ⟨w.heap.size, 1, none⟩ (.int .i64 0)).setCell ⟨w.heap.size, 2, none⟩ (.int .i64 0) = W5 at K3 hq2 own2 ⊢
        have k0 := K3.cell 0
        have k1 := K3.cell 1
        have k2 := K3.cell 2
        simp at k0 k1 k2
        refine bodyPost_ret (v := .tuple #[.slice A4 acc.length cap4, .agg #[.string ⟨#[]⟩, .int .i64 0, .int .i64 0]]) (by simp [results, Tryd.results7, go_sem, k0, k1, k2]) rfl ?_
        rw [HV.out]
        exact ⟨⟨_, rfl, (own2.sl good_want).mono good_want (by omega) (fun i _ hi => by unfold old at hi ⊢; omega)⟩, hq2⟩
end Go.Proofs.YtfpdlmddakgilaaDoor
