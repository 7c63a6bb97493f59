/- Words of dependencies of Apk in memory. Walks of adep.Check and adep.Print. -/
import Derived.Test.YtfpdlmddakgilaaDoorAdA
import Derived.Test.YtfpdlmddakgilaaDoorJoi
import Derived.Test.YtfpdlmddakgilaaDoorPlan
namespace Go.Proofs.YtfpdlmddakgilaaDoor
open Go.RowKit
def Rwant : Rel Wt := fun _ _ cs t => cs = [.bool t.bar, .string (bs t.name), .int .i64 t.op, .string (bs t.ver)]
theorem good_want : Good 4 Rwant := ⟨fun h _ => h, fun h _ => h, (fun h => by subst h; rfl), (fun h u hu => by
  subst h; simp only [List.mem_cons, List.not_mem_nil, or_false] at hu; rcases hu with rfl | rfl | rfl | rfl <;> rfl)⟩
theorem info_want : (Tryd.prog.info? 40).map (fun i => (i.zero, i.size, i.bytes)) = some (some (.agg #[.bool false, .string ⟨#[]⟩, .int .i64 0, .string ⟨#[]⟩]), 4, 48) := by kernel_rfl
theorem Sl.want {X : Nat → Prop} {w : World} {A : Option Addr} {n cap : Nat} {l : List Wt} (h : Sl 4 Rwant X w (.slice A n cap) l) (hn : 0 < n) :
    ∃ b off, A = some ⟨b, off, none⟩ ∧ ¬ X b ∧ ∀ j (h : j < l.length), w.cell? ⟨b, off + j * 4, none⟩ = some (.bool l[j].bar) ∧ w.cell? ⟨b, off + j * 4 + 1, none⟩ = some (.string (bs l[j].name)) ∧ w.cell? ⟨b, off + j * 4 + 2, none⟩ = some (.int .i64 l[j].op) ∧ w.cell? ⟨b, off + j * 4 + 3, none⟩ = some (.string (bs l[j].ver)) := by
  obtain ⟨h1, h2, h3, h4⟩ := h.at
  obtain ⟨b, off, hA, hX, hc⟩ := h4 hn
  refine ⟨b, off, hA, hX, fun j hj => ?_⟩
  obtain ⟨cs, hcs, rfl⟩ := hc j hj
  exact ⟨by simpa using hcs 0 _ rfl, hcs 1 _ rfl, hcs 2 _ rfl, hcs 3 _ rfl⟩
/-- Words that are not too many or too long to be looked at. -/
def AS (l : List Wt) : Prop := l.length ≤ 1000000 ∧ ∀ t ∈ l, t.name.length ≤ 1000000 ∧ t.ver.length ≤ 1000000
def firstW : List Wt → Int
  | [] => 0
  | t :: r => if wErr t = 0 then firstW r else wErr t
theorem firstW_drop (l : List Wt) (k : Nat) (h : k < l.length) : firstW (l.drop k) = if wErr l[k] = 0 then firstW (l.drop (k + 1)) else wErr l[k] := by
  rw [List.drop_eq_getElem_cons h]; rfl
/-- What is wrong with words. -/
def chkA (l : List Wt) : Int := if 64 < l.length then 4 else firstW l
def wtV (t : Wt) : Array Value := #[.bool t.bar, .string (bs t.name), .int .i64 t.op, .string (bs t.ver)]
set_option maxRecDepth 20000 in
set_option maxHeartbeats 8000000 in
theorem awcheck_any (l : List Wt) (v : Value) (X : Nat → Prop) (w : World) (hsl : Sl 4 Rwant X w v l) (hF : AS l) (hw : Words w) :
    Calls Tryd.prog 16 #[v] w fun e w' => e = .returned (.int .i64 (chkA l)) ∧ Below w.heap.size w w' := by
  obtain ⟨A, cap, rfl, hc1, hc2⟩ := hsl.form
  obtain ⟨s1, s2⟩ := hF
  unfold maxLen at hc2
  have HT : Hid (chkA l = if 64 < l.length then 4 else firstW l) := Lib.hid rfl
  have HS2 := Lib.hid s2
  clear s2
  by_cases h64 : 64 < l.length
  · have HV : Hid (chkA l = 4) := Lib.hid (by rw [HT.out, if_pos h64])
    have hb : decide ((64 : Int) < (l.length : Int)) = true := by simp; omega
    clear h64
    go_enter Tryd.func16, Tryd.ntmps16
    go_wp2_with fail
    go_ret
    exact ⟨by rw [HV.out]; rfl, Below.refl _ _⟩
  · have HT2 : Hid (chkA l = firstW l) := Lib.hid (by rw [HT.out, if_neg h64])
    have hb : decide ((64 : Int) < (l.length : Int)) = false := by simp; omega
    clear h64 HT
    go_enter Tryd.func16, Tryd.ntmps16
    go_wp2_with fail
    clear hb
    go_loopg [11] l.length (fun G s11 wr => ∃ k : Nat, k ≤ l.length ∧ G = l.length - k ∧ s11 = .int .i64 k ∧ Below w.heap.size w wr ∧ Hid (chkA l = firstW (l.drop k)))
    case atStart => exact ⟨0, Nat.zero_le _, rfl, rfl, Below.refl _ _, HT2⟩
    case round =>
      clear HT2
      obtain ⟨k, hk, rfl, rfl, hbw, HE⟩ := hrel
      by_cases hlt : k < l.length
      · have hslr := hsl.keep good_want (Kept.of_below hbw X)
        obtain ⟨b, off, rfl, _, hc⟩ := hslr.want (by omega)
        obtain ⟨c0, c1, c2, c3⟩ := hc k hlt
        have HST := Lib.hid (firstW_drop l k hlt)
        obtain ⟨hn1, hn2⟩ := HS2.out _ (List.getElem_mem hlt)
        clear hc
        generalize l[k] = t at c0 c1 c2 c3 HST hn1 hn2
        have hb1 : Below wr.heap.size wr (wr.alloc (.cells #[.bool t.bar, .string (bs t.name), .int .i64 t.op, .string (bs t.ver)] 40)) := (Below.refl _ _).alloc (Nat.le_refl _) _
        go_wp2_with fail
        generalize wr.alloc (.cells #[.bool t.bar, .string (bs t.name), .int .i64 t.op, .string (bs t.ver)] 40) = w1 at hb1 ⊢
        refine (acheck_any t w1 hn1 hn2 ((hw.below hbw).below hb1)).mono ?_
        rintro e w2 ⟨rfl, hb2⟩
        have q2 : Below wr.heap.size wr w2 := hb1.trans (hb2.mono hb1.size)
        clear hb1 hb2
        by_cases he : wErr t = 0
        · have HV := Lib.hid (HE.out.trans (HST.out.trans (if_pos he)))
          rw [he]
          go_wp2_with fail
          go_roundg (l.length - (k + 1))
          case measure => omega
          case rel => exact ⟨k + 1, by omega, rfl, by go_num, hbw.trans (q2.mono hbw.size), HV⟩
        · have HV := Lib.hid (HE.out.trans (HST.out.trans (if_neg he)))
          generalize wErr t = ee at he HV
          have hee : (ee != 0) = true := by simpa using he
          clear he
          go_wp2_with fail
          go_ret
          exact ⟨by rw [HV.out]; rfl, hbw.trans (q2.mono hbw.size)⟩
      · obtain rfl : k = l.length := by omega
        have HV : Hid (chkA l = 0) := Lib.hid (by rw [HE.out, List.drop_length]; rfl)
        go_wp2_with fail
        go_ret
        exact ⟨by rw [HV.out]; rfl, hbw⟩
theorem firstW_zero (l : List Wt) (h : firstW l = 0) : ∀ t ∈ l, wErr t = 0 := by
  induction l with
  | nil => simp
  | cons a l ih =>
    unfold firstW at h
    split at h
    · rename_i h0
      intro t ht
      rcases List.mem_cons.1 ht with rfl | ht
      · exact h0
      · exact ih h t ht
    · rename_i h0; exact absurd h h0
theorem chkA_ok (l : List Wt) (h : chkA l = 0) : l.length ≤ 64 ∧ ∀ t ∈ l, wErr t = 0 := by
  unfold chkA at h
  split at h
  · cases h
  · exact ⟨by omega, firstW_zero l h⟩
theorem wErr_op (t : Wt) (h : wErr t = 0) : 0 ≤ t.op ∧ t.op ≤ 6 := by
  unfold wErr at h
  split at h
  · split at h
    · cases h
    · rename_i h3
      simp [aOpBad] at h3
      omega
  · cases h
def barT (b : Bool) : List UInt8 := if b = true then [33] else []
/-- A word as it is written. -/
def wordT (t : Wt) : List UInt8 := barT t.bar ++ (t.name ++ (signsA.getD t.op.toNat [] ++ t.ver))
def wordsT (l : List Wt) : List UInt8 := Lib.join (l.map wordT) [32]
/-- Words as they are written, or nothing; and the error. -/
def printA (l : List Wt) : List UInt8 × Int := if chkA l = 0 then (wordsT l, 0) else ([], chkA l)
theorem sgn_len (i : Nat) : (signsA.getD i []).length ≤ 2 := by
  by_cases h : i < 7
  · obtain rfl | rfl | rfl | rfl | rfl | rfl | rfl : i = 0 ∨ i = 1 ∨ i = 2 ∨ i = 3 ∨ i = 4 ∨ i = 5 ∨ i = 6 := by omega
    all_goals decide
  · have : signsA.length ≤ i := by show 7 ≤ i; omega
    simp [List.getD, List.getElem?_eq_none this]
theorem wordT_len (t : Wt) (h1 : t.name.length ≤ 1000000) (h2 : t.ver.length ≤ 1000000) : (wordT t).length ≤ 2000003 := by
  have := sgn_len t.op.toNat
  have hb : (barT t.bar).length ≤ 1 := by cases h : t.bar <;> simp [barT]
  simp only [wordT, List.length_append]
  omega
theorem wordsT_len (l : List Wt) (hl : l.length ≤ 64) (h : ∀ t ∈ l, t.name.length ≤ 1000000 ∧ t.ver.length ≤ 1000000) : (Lib.join (l.map wordT) [32]).length ≤ 200000000 := by
  have := join_len (l.map wordT) [32] 2000003 (fun a ha => by
    obtain ⟨t, ht, rfl⟩ := List.mem_map.1 ha
    exact wordT_len t (h t ht).1 (h t ht).2)
  rw [List.length_map] at this
  have h3 : l.length * (2000003 + [(32 : UInt8)].length) ≤ 64 * 2000004 := Nat.mul_le_mul_right _ hl
  omega
set_option maxRecDepth 20000 in
set_option maxHeartbeats 8000000 in
theorem aprint_any (l : List Wt) (v : Value) (X : Nat → Prop) (w : World) (hsl : Sl 4 Rwant X w v l) (hF : AS l) (hw : Words w) (hg : SignsA w) :
    Calls Tryd.prog 10 #[v] w fun e w' => e = .returned (.tuple #[.string (bs (printA l).1), .int .i64 (printA l).2]) ∧ Below w.heap.size w w' := by
  obtain ⟨A, cap, rfl, hc1, hc2⟩ := hsl.form
  unfold maxLen at hc2
  have HP : Hid (printA l = if chkA l = 0 then (wordsT l, 0) else ([], chkA l)) := Lib.hid rfl
  have HF := Lib.hid hF.2
  go_enter Tryd.func10, Tryd.ntmps10
  go_wp2_with fail
  refine (awcheck_any l _ X _ hsl hF hw).mono ?_
  rintro e w1 ⟨rfl, hb1⟩
  by_cases h0 : chkA l = 0
  · obtain ⟨hl64, hte⟩ := chkA_ok l h0
    have HTE := Lib.hid hte
    have HP2 : Hid (printA l = (wordsT l, 0)) := Lib.hid (by rw [HP.out, if_pos h0])
    rw [h0]
    clear h0 hte HP
    go_wp2_with fail
    go_loopg [5, 16] l.length (fun G s5 s16 wr => ∃ k : Nat, k ≤ l.length ∧ G = l.length - k ∧ s16 = .int .i64 k ∧ Below w.heap.size w wr ∧ OwnL 1 Rtext 9 w.heap.size (old w.heap.size) wr s5 ((l.take k).map wordT))
    case atStart => exact ⟨0, Nat.zero_le _, rfl, rfl, hb1, OwnL.nil _ _ _ _ _ _⟩
    case round =>
      clear hb1
      obtain ⟨k, hk, rfl, rfl, hbw, hown⟩ := hrel
      by_cases hlt : k < l.length
      · have hslr := hsl.keep good_want (Kept.of_below hbw X)
        obtain ⟨b, off, rfl, _, hc⟩ := hslr.want (by omega)
        obtain ⟨c0, c1, c2, c3⟩ := hc k hlt
        have HST := Lib.hid (map_take wordT l k hlt)
        obtain ⟨hn1, hn2⟩ := HF.out _ (List.getElem_mem hlt)
        have hop := wErr_op _ (HTE.out _ (List.getElem_mem hlt))
        clear hc
        obtain ⟨A5, cap5, rfl⟩ := hown.form
        have hmk : ((l.take k).map wordT).length = k := by rw [List.length_map, List.length_take]; omega
        rw [hmk] at hown ⊢
        generalize l[k] = t at c0 c1 c2 c3 HST hn1 hn2 hop
        obtain ⟨o, Ho⟩ : ∃ o, Hid (t.op = o) := ⟨_, Lib.hid rfl⟩
        rw [Ho.out] at c2 hop
        obtain ⟨i, rfl⟩ := Int.eq_ofNat_of_zero_le hop.1
        have hi7 : i < 7 := by omega
        have ci := (hg.below hbw) i hi7
        have hw1 := (Below.refl _ wr).alloc (Nat.le_refl _) (.cells #[.bool t.bar, .string (bs t.name), .int .i64 (i : Int), .string (bs t.ver)] 40)
        have bT := Blk.new wr 40 #[.bool t.bar, .string (bs t.name), .int .i64 (i : Int), .string (bs t.ver)]
        have HW : Hid (wordT t = barT t.bar ++ (t.name ++ (signsA.getD i [] ++ t.ver))) := Lib.hid (by rw [wordT, Ho.out]; rfl)
        have hsl2 := sgn_len i
        generalize signsA.getD i [] = sg at ci HW hsl2
        have ci1 := (hw1.cell (p := ⟨0, i, none⟩) (lt_of_cell ci)).trans ci
        have own1 := hown.keep good_text (Kept.of_below hw1 _)
        have hq1 := hbw.trans (hw1.mono hbw.size)
        go_upto_region 8 with fail
        generalize wr.alloc (.cells #[.bool t.bar, .string (bs t.name), .int .i64 (i : Int), .string (bs t.ver)] 40) = W at ci1 own1 hq1 bT ⊢
        clear c0 c1 c2 c3 ci hw1 hown
        have d0 := bT.cell 0
        have d1 := bT.cell 1
        have d2 := bT.cell 2
        have d3 := bT.cell 3
        simp at d0 d1 d2 d3
        clear bT
        have hcat := bs_app
        have hsz := bs_size
        have hi1 : (0 : Int) ≤ (i : Int) := by omega
        have hi2 : (i : Int) < 7 := by omega
        have o1 : ¬ 9223372036854775807 < t.name.length + sg.length := by omega
        have o2 : ¬ 9223372036854775807 < t.name.length + sg.length + t.ver.length := by omega
        have o3 : ¬ 9223372036854775807 < t.name.length + (sg.length + t.ver.length) := by omega
        have r1 : ∀ q, (⟨#[33]⟩ : ByteArray) ++ bs q = bs (33 :: q) := fun q => bs_app [33] q
        refine wp_region_plan (fun W' => W'.cell? ⟨wr.heap.size, 1, none⟩ = some (.string (bs t.name)) ∧ W'.cell? ⟨wr.heap.size, 2, none⟩ = some (.int .i64 (i : Int)) ∧ W'.cell? ⟨wr.heap.size, 3, none⟩ = some (.string (bs t.ver)) ∧ W'.cell? ⟨0, i, none⟩ = some (.string (bs sg))) [(false, 0), (false, 1), (false, 2), (false, 3), (false, 4), (false, 5), (false, 6), (false, 7), (false, 8), (false, 9), (false, 10), (false, 11), (false, 12), (false, 13)] (by kernel_rfl) (by kernel_rfl) (⟨by simpa using d1, by simpa using d2, by simpa using d3, by simpa using ci1⟩) ?_
        simp only [planOps, List.map, List.getD_cons_zero, List.getD_cons_succ]
        iterate 14 ((first | refine plan_quiet (v := ?_) rfl rfl (fun w' hw' => ?_) ?_ | refine plan_calm (v := ?_) (tt_of) rfl (fun w' hw' => ?_) ?_); rotate_left; (focus (go_simp <;> with_reducible rfl)); simp only [Act.put, List.setIfInBounds_toArray, List.set_cons_zero, List.set_cons_succ])
        refine plan_end ?_
        have own2 : OwnL 1 Rtext 9 w.heap.size (old w.heap.size) W.drew (.slice A5 k cap5) ((l.take k).map wordT) := own1.keep good_text (Kept.refl (old w.heap.size) W).drew
        have hq2 := hq1.drew
        have e0 : W.drew.cell? ⟨wr.heap.size, 0, none⟩ = some (.bool t.bar) := by simpa using d0
        clear d0 d1 d2 d3 ci1 own1 hq1
        generalize W.drew = W1 at own2 hq2 e0 ⊢
        have hnew := own2.new
        have HB : Hid (∀ b, barT b = if b = true then [33] else []) := Lib.hid (fun _ => rfl)
        go_upto_if 34 with fail
        go_cut [8] (fun s8 wx => s8 = .string (bs (wordT t)) ∧ W1 = wx)
        case first =>
          cases hbar : t.bar with
          | true =>
            have HR : Hid (wordT t = 33 :: (t.name ++ (sg ++ t.ver))) := Lib.hid (by rw [HW.out, HB.out, hbar]; rfl)
            go_wp2_with fail
            go_meet
            rw [HR.out]
            exact ⟨rfl, rfl⟩
          | false =>
            have HR : Hid (wordT t = t.name ++ (sg ++ t.ver)) := Lib.hid (by rw [HW.out, HB.out, hbar]; rfl)
            go_wp2_with fail
            go_meet
            rw [HR.out]
            exact ⟨rfl, rfl⟩
        case rest =>
          obtain ⟨rfl, rfl⟩ := hcut
          generalize wordT t = tt at HST
          go_wp2_with (at_builtin; refine wpList_appendL (l := (l.take k).map wordT) good_text rfl _ _ _ _ _ 16 rfl Tryd.underlying48 info_str rfl (by omega) _ rfl own2 [.string (bs tt)] tt rfl rfl (by omega) (by omega) hq2.size (fun k hk hk2 => by have := hq2.size; unfold old at hk2; omega) ?_; intro v5 w5 hown5 hk5)
          have q5 := hq2.trans (hk5.below hq2.size (fun k _ h => hnew k h))
          rw [← HST.out] at hown5
          clear hk5 hnew own2
          go_wp2_with fail
          go_roundg (l.length - (k + 1))
          case measure => omega
          case rel => exact ⟨k + 1, by omega, rfl, by go_num, q5, hown5⟩
      · obtain rfl : k = l.length := by omega
        rw [List.take_length] at hown
        obtain ⟨A5, cap5, rfl⟩ := hown.form
        have hlm : (l.map wordT).length = l.length := List.length_map _
        have hjn := join_any (old w.heap.size) _ (l.map wordT) [32] _ (hown.sl good_text) (Nat.le_trans (wordsT_len l hl64 HF.out) (by omega)) (by omega)
        rw [hlm] at hjn ⊢
        go_wp2_with fail
        refine hjn.mono ?_
        rintro e wy ⟨rfl, hby⟩
        go_wp2_with fail
        go_ret2
        exact ⟨by rw [HP2.out]; rfl, hbw.trans (hby.mono hbw.size)⟩
  · have HV : Hid (printA l = ([], chkA l)) := Lib.hid (by rw [HP.out, if_neg h0])
    generalize chkA l = ee at h0 HV
    have hee : (ee != 0) = true := by simpa using h0
    clear h0
    go_wp2_with fail
    go_ret2
    exact ⟨by rw [HV.out]; rfl, hb1⟩
end Go.Proofs.YtfpdlmddakgilaaDoor
