/- The parts of an Apk version without its pieces, as the program and as the reference goes about it. The walk of the reference's pieces. Versions of Dpkg and Rpm parted at the first sign and at the last one: the same where they are right. -/
import Derived.Test.YtjdcegogkafmoaaDoorVerH
import Derived.Test.YtjdcegogkafmoaaDoorBasM
import Derived.Lib.IndexAny
namespace Go.Proofs.YtjdcegogkafmoaaDoor
open Go
/-- What is behind the numbers. -/
def numsQ (r : List UInt8) : Option (List UInt8) := (numsP 6 r []).map (·.2)
theorem numsP_any (k : Int) (r : List UInt8) (acc : List Pc) : (numsP k r acc).map (·.2) = numsQ r := by
  suffices h : ∀ (k' : Int) (acc' : List Pc), (numsP k r acc).map (·.2) = (numsP k' r acc').map (·.2) from h 6 []
  induction hn : r.length using Nat.strongRecOn generalizing k r acc with
  | ind n ih =>
    intro k' acc'
    by_cases h0 : digs r = []
    · rw [nums_none k r acc h0, nums_none k' r acc' h0]
    · by_cases hd : ∃ t, past isDig r = 46 :: t
      · obtain ⟨t, ht⟩ := hd
        rw [nums_dot k r t acc h0 ht, nums_dot k' r t acc' h0 ht]
        have h1 := past_len isDig r
        rw [ht, List.length_cons] at h1
        exact ih t.length (by omega) 6 t _ rfl 6 _
      · rw [nums_end k r acc h0 (fun t e => hd ⟨t, e⟩), nums_end k' r acc' h0 (fun t e => hd ⟨t, e⟩)]
        rfl
theorem numsQ_none (r : List UInt8) (h : digs r = []) : numsQ r = none := by rw [numsQ, nums_none _ _ _ h]; rfl
theorem numsQ_dot (r t : List UInt8) (h : digs r ≠ []) (hr : past isDig r = 46 :: t) : numsQ r = numsQ t := by
  rw [numsQ, nums_dot 6 r t [] h hr, numsP_any]
theorem numsQ_end (r : List UInt8) (h : digs r ≠ []) (hr : ∀ t, past isDig r ≠ 46 :: t) : numsQ r = some (past isDig r) := by
  rw [numsQ, nums_end 6 r [] h hr]; rfl
def signQ (r : List UInt8) : List UInt8 := match r with
  | c :: t => if isSmall c = true then t else c :: t
  | [] => []
theorem signP_any (r : List UInt8) (acc : List Pc) : (signP r acc).2 = signQ r := by
  cases r with
  | nil => rfl
  | cons c t => cases hs : isSmall c <;> simp [signP, signQ, hs]
def wordsQ (r : List UInt8) : Option (List UInt8) := (wordsP r []).map (·.2)
theorem wordsP_any (r : List UInt8) (acc : List Pc) : (wordsP r acc).map (·.2) = wordsQ r := by
  suffices h : ∀ acc' : List Pc, (wordsP r acc).map (·.2) = (wordsP r acc').map (·.2) from h []
  induction hn : r.length using Nat.strongRecOn generalizing r acc with
  | ind n ih =>
    intro acc'
    by_cases hd : ∃ t, r = 95 :: t
    · obtain ⟨t, rfl⟩ := hd
      by_cases hw : wordI (smalls t) < 0
      · rw [words_none t acc hw, words_none t acc' hw]
      · rw [words_next t acc hw, words_next t acc' hw]
        have h1 := past_len isSmall t
        have h2 := past_len isDig (past isSmall t)
        rw [List.length_cons] at hn
        exact ih _ (by omega) _ _ rfl _
    · rw [words_end r acc (fun t e => hd ⟨t, e⟩), words_end r acc' (fun t e => hd ⟨t, e⟩)]
      rfl
theorem wordsQ_none (t : List UInt8) (h : wordI (smalls t) < 0) : wordsQ (95 :: t) = none := by rw [wordsQ, words_none t _ h]; rfl
theorem wordsQ_next (t : List UInt8) (h : ¬ wordI (smalls t) < 0) : wordsQ (95 :: t) = wordsQ (past isDig (past isSmall t)) := by rw [wordsQ, words_next t _ h, wordsP_any]
theorem wordsQ_end (r : List UInt8) (h : ∀ t, r ≠ 95 :: t) : wordsQ r = some r := by rw [wordsQ, words_end r _ h]; rfl
def endQ (l q : List UInt8) : Option (List UInt8 × List UInt8) := if q = [] then some (l, []) else match revT q with
  | some t => some (l.take (l.length - q.length), t)
  | none => none
def apkQ (l : List UInt8) : Option (List UInt8 × List UInt8) := (numsQ l).bind fun r => (wordsQ (signQ r)).bind (endQ l)
theorem apkP_Q (l : List UInt8) : (apkP l).map (fun x => x.2) = apkQ l := by
  have h1 := numsP_any 7 l []
  rw [apkQ, ← h1, apkP]
  cases hn : numsP 7 l [] with
  | none => rfl
  | some x =>
    obtain ⟨a, r⟩ := x
    have h2 := wordsP_any (signP r a).2 (signP r a).1
    rw [signP_any] at h2
    simp only [Option.map_some, Option.bind_some]
    rw [signP_any, ← h2]
    cases hw : wordsP (signQ r) (signP r a).1 with
    | none => rfl
    | some y =>
      obtain ⟨b, q⟩ := y
      simp only [apkEnd, endQ, Option.map_some, Option.bind_some]
      split
      · rfl
      · cases revT q <;> rfl
/-- As the reference takes the words: all letters are one's. -/
def wordsX (r : List UInt8) : Option (List UInt8) :=
  match r with
  | 95 :: t => if wordI (lets t) < 0 then none else wordsX (past isDig (past isLet t))
  | q => some q
termination_by r.length
decreasing_by
  have h1 := past_len isLet t
  have h2 := past_len isDig (past isLet t)
  simp only [List.length_cons]
  omega
theorem wordsX_none (t : List UInt8) (h : wordI (lets t) < 0) : wordsX (95 :: t) = none := by rw [wordsX, if_pos h]
theorem wordsX_next (t : List UInt8) (h : ¬ wordI (lets t) < 0) : wordsX (95 :: t) = wordsX (past isDig (past isLet t)) := by rw [wordsX, if_neg h]
theorem wordsX_end (r : List UInt8) (h : ∀ t, r ≠ 95 :: t) : wordsX r = some r := by
  rw [wordsX]
  exact h
theorem small_let (c : UInt8) (h : isSmall c = true) : isLet c = true := by simp [isLet, h]
/-- Small letters, then no letter, or a large one. -/
theorem lets_smalls (t : List UInt8) : lets t = smalls t ∨ ∃ c r, past isSmall t = c :: r ∧ isBig c = true ∧ ∃ x ∈ lets t, isBig x = true := by
  induction t with
  | nil => exact .inl rfl
  | cons c t ih =>
    cases hs : isSmall c with
    | true =>
      have hl := small_let c hs
      have e1 : lets (c :: t) = c :: lets t := by simp [lets, List.takeWhile_cons, hl]
      have e2 : smalls (c :: t) = c :: smalls t := by simp [smalls, List.takeWhile_cons, hs]
      have e3 : past isSmall (c :: t) = past isSmall t := by simp [past, List.takeWhile_cons, hs]
      rcases ih with h | ⟨d, r, h1, h2, x, hx, hx2⟩
      · exact .inl (by rw [e1, e2, h])
      · exact .inr ⟨d, r, by rw [e3]; exact h1, h2, x, by rw [e1]; exact List.mem_cons_of_mem _ hx, hx2⟩
    | false =>
      cases hb : isBig c with
      | false =>
        have hl : isLet c = false := by simp [isLet, hs, hb]
        exact .inl (by simp [lets, smalls, List.takeWhile_cons, hs, hl])
      | true =>
        have hl : isLet c = true := by simp [isLet, hb]
        exact .inr ⟨c, t, by simp [past, List.takeWhile_cons, hs], hb, c, by simp [lets, List.takeWhile_cons, hl], hb⟩
theorem wordFrom_in (l : List UInt8) : ∀ (ws : List (List UInt8)) (k : Nat), 0 ≤ wordFrom l ws k → l ∈ ws
  | [], _, h => by simp [wordFrom] at h
  | x :: r, k, h => by
    rw [wordFrom] at h
    split at h
    · rename_i e; simp [e]
    · exact List.mem_cons_of_mem _ (wordFrom_in l r (k + 1) h)
theorem words_noBig : (wordsL.all fun l => l.all fun x => !isBig x) = true := by decide +kernel
theorem word_small (l : List UInt8) (h : 0 ≤ wordI l) : ∀ x ∈ l, isBig x = false := by
  have h1 := wordFrom_in l wordsL 0 h
  intro x hx
  have h2 := List.all_eq_true.1 words_noBig l h1
  have h3 := List.all_eq_true.1 h2 x hx
  simpa using h3
theorem words_same (l r : List UInt8) : (wordsQ r).bind (endQ l) = (wordsX r).bind (endQ l) := by
  induction hn : r.length using Nat.strongRecOn generalizing r with
  | ind n ih =>
    by_cases hd : ∃ t, r = 95 :: t
    · obtain ⟨t, rfl⟩ := hd
      rw [List.length_cons] at hn
      rcases lets_smalls t with h | ⟨c, q, h1, h2, x, hx, hx2⟩
      · by_cases hw : wordI (smalls t) < 0
        · rw [wordsQ_none t hw, wordsX_none t (by rw [h]; exact hw)]
        · rw [wordsQ_next t hw, wordsX_next t (by rw [h]; exact hw)]
          have e : past isLet t = past isSmall t := by
            have h' : t.takeWhile isLet = t.takeWhile isSmall := h
            simp only [past, h']
          rw [e]
          have h1 := past_len isSmall t
          have h2 := past_len isDig (past isSmall t)
          exact ih _ (by omega) _ rfl
      · have hwl : wordI (lets t) < 0 := by
          apply Classical.byContradiction
          intro hge
          have := word_small (lets t) (by omega) x hx
          rw [hx2] at this
          cases this
        rw [wordsX_none t hwl]
        by_cases hw : wordI (smalls t) < 0
        · rw [wordsQ_none t hw]
        · rw [wordsQ_next t hw, h1]
          have hc : isDig c = false := by
            simp [isBig] at h2
            simp [isDig]; omega
          have hp : past isDig (c :: q) = c :: q := by simp [past, List.takeWhile_cons, hc]
          have h95 : ∀ u, c :: q ≠ 95 :: u := fun u e => by
            injection e with e1
            subst e1
            exact absurd h2 (by decide)
          rw [hp, wordsQ_end _ h95]
          have hr : revT (c :: q) = none := by
            rw [revT_dash]
            have : dashR (c :: q) = false := by
              have h45 : ¬ c = 45 := fun e => by subst e; exact absurd h2 (by decide)
              unfold dashR
              split
              · rename_i e; injection e with e1; exact absurd e1 h45
              · rfl
            rw [this]
            rfl
          simp [endQ, hr]
    · rw [wordsQ_end r (fun t e => hd ⟨t, e⟩), wordsX_end r (fun t e => hd ⟨t, e⟩)]
theorem apkQ_X (l : List UInt8) : apkQ l = (numsQ l).bind fun r => (wordsX (signQ r)).bind (endQ l) := by
  rw [apkQ]
  congr 1
  funext r
  exact words_same l (signQ r)
end Go.Proofs.YtjdcegogkafmoaaDoor
namespace Go.Proofs.YtjdcegogkafmoaaDoor
open Go.RowKit
/-- A piece of the reference's: kind, rank, text. -/
abbrev Rc := Int × Int × List UInt8
def rcs (l : List Rc) : List Value := l.flatMap fun p => [.int .i64 p.1, .int .i64 p.2.1, .string (bs p.2.2)]
theorem rcs_app (a b : List Rc) : rcs (a ++ b) = rcs a ++ rcs b := by simp [rcs]
theorem rcs_len (l : List Rc) : (rcs l).length = l.length * 3 := by
  induction l with
  | nil => rfl
  | cons a l ih => show (rcs l).length + 3 = _; rw [ih, List.length_cons]; omega
theorem info_rc : (Tryd.prog.info? 89).map (fun i => (i.zero, i.size, i.bytes)) = some (some (.agg #[.int .i64 0, .int .i64 0, .string ⟨#[]⟩]), 3, 32) := by kernel_rfl
/-- The row so far: no piece in it is a revision. -/
def ROut (w : World) (n : Nat) (v : Value) (w' : World) : Prop := ∃ rps : List Rc, w'.ownsRow w.heap.size 89 3 v rps.length (rcs rps) ∧ (∀ x ∈ rps, x.1 ≠ 2) ∧ rps.length ≤ n ∧ (0 < n → 0 < rps.length) ∧ Below w.heap.size w w'
theorem ROut.snoc {w w1 w2 : World} {n : Nat} {v' : Value} {rps : List Rc} (hb : Below w.heap.size w w1) (hk : ∀ x ∈ rps, x.1 ≠ 2) (hn : rps.length ≤ n) (k r : Int) (t : ByteArray) (l : List UInt8) (ht : t = bs l) (h2 : k ≠ 2)
    (ho : w2.ownsRow w.heap.size 89 3 v' (rps.length + 1) (rcs rps ++ [.int .i64 k, .int .i64 r, .string t])) (hb2 : Below w.heap.size w1 w2) : ROut w (n + 1) v' w2 := by
  subst ht
  refine ⟨rps ++ [(k, r, l)], by rw [rcs_app, List.length_append]; exact ho, fun x hx => ?_, by simp; omega, fun _ => by simp, hb.trans hb2⟩
  rcases List.mem_append.1 hx with h | h
  · exact hk x h
  · rw [List.mem_singleton.1 h]; exact h2
/-- What the reference's pieces gives. -/
def RPieces (w : World) (l : List UInt8) (e : Ending) (w' : World) : Prop :=
  ∃ (v : Value) (rps : List Rc), e = .returned v ∧ w'.ownsRow w.heap.size 89 3 v rps.length (rcs rps) ∧ rps.length ≤ 10000000 ∧ Below w.heap.size w w' ∧ (apkQ l = none → rps = []) ∧
    (∀ p rv, apkQ l = some (p, rv) → ∃ (i : List Rc) (x : Rc), rps = i ++ [x] ∧ ((x.1 ≠ 2 ∧ p = l ∧ rv = []) ∨ (x.1 = 2 ∧ x.2.2 = rv ∧ rv.length + 2 ≤ l.length ∧ p = l.take (l.length - rv.length - 2))))
theorem rdigs (q : List UInt8) (w : World) (hq : q.length ≤ 1000000000) : Calls Tryd.prog 51 #[.string (bs q)] w fun e w' => e = .returned (.int .i64 ((digs q).length : Int)) ∧ w = w' :=
  rdigits_any (bs q) w (by rw [bs_size]; omega)
theorem rlets (q : List UInt8) (w : World) (hq : q.length ≤ 1000000000) : Calls Tryd.prog 68 #[.string (bs q)] w fun e w' => e = .returned (.int .i64 ((lets q).length : Int)) ∧ w = w' :=
  rletters_any (bs q) w (by rw [bs_size]; omega)
theorem rhasq (q : List UInt8) (c : UInt8) (w : World) : Calls Tryd.prog 67 #[.string (bs q), .int .u8 (c.toNat : Int)] w fun e w' => e = .returned (.bool (hasB q c)) ∧ w = w' := rhas_any (bs q) c w
theorem hasB_no (q : List UInt8) (c : UInt8) (h : ∀ t, q ≠ c :: t) : hasB q c = false := by
  cases q with
  | nil => rfl
  | cons d t => simp only [hasB, decide_eq_false_iff_not]; exact fun e => h t (by rw [e])
theorem hasB_yes (t : List UInt8) (c : UInt8) : hasB (c :: t) c = true := by simp [hasB]
theorem ext_mid (l : List UInt8) (i j : Nat) : (bs l).extract i j = bs ((l.drop i).take (j - i)) := bs_of _ _ (by simp [ByteArray.data_extract, bs_list, bs])
def rankU (l : List UInt8) : Nat → Int
  | 0 => -1
  | k + 1 => if wordsL.getD k [] = l then k else rankU l k
theorem rankU_9 (l : List UInt8) : rankU l 9 = wordI l := by
  by_cases h : l ∈ wordsL
  · have hall : (wordsL.all fun l => decide (rankU l 9 = wordI l)) = true := by decide +kernel
    have := List.all_eq_true.1 hall l h
    simpa using this
  · have h1 : ¬ 0 ≤ wordI l := fun h0 => h (wordFrom_in l wordsL 0 h0)
    have h2 : wordI l = -1 := by
      have : ∀ (ws : List (List UInt8)) (k : Nat), l ∉ ws → wordFrom l ws k = -1 := by
        intro ws
        induction ws with
        | nil => intro k _; rfl
        | cons x r ih =>
          intro k hk
          rw [wordFrom, if_neg (fun e => hk (by simp [e]))]
          exact ih (k + 1) (fun hm => hk (by simp [hm]))
      exact this wordsL 0 h
    have h3 : ∀ k, k ≤ 9 → rankU l k = -1 := by
      intro k
      induction k with
      | zero => intro _; rfl
      | succ k ih =>
        intro hk
        rw [rankU, if_neg (fun e => h (by
          rw [← e]
          have hlt : k < wordsL.length := by show k < 9; omega
          rw [List.getD_eq_getElem?_getD, List.getElem?_eq_getElem hlt]
          exact List.getElem_mem hlt)), ih (by omega)]
    rw [h3 9 (by omega), h2]
/-- The words, in new memory. -/
def RWords (w : World) (e : Ending) (w' : World) : Prop := e = .returned (.slice (some ⟨w.heap.size, 0, none⟩) 9 9) ∧ (∀ i, i < 9 → w'.cell? ⟨w.heap.size, i, none⟩ = some (.string (bs (wordsL.getD i [])))) ∧ w.heap.size < w'.heap.size ∧ Below w.heap.size w w'
set_option maxHeartbeats 1000000 in
theorem rwords_any (w : World) : Calls Tryd.prog 69 #[] w (RWords w) := by
  go_enter Tryd.func69, Tryd.ntmps69
  go_wp2_with fail
  go_ret
  refine ⟨rfl, fun i hi => ?_, by simp, (Below.refl _ _).alloc (Nat.le_refl _) _⟩
  rw [World.cell?_alloc_at _ _ _ _ rfl]
  obtain rfl | rfl | rfl | rfl | rfl | rfl | rfl | rfl | rfl : i = 0 ∨ i = 1 ∨ i = 2 ∨ i = 3 ∨ i = 4 ∨ i = 5 ∨ i = 6 ∨ i = 7 ∨ i = 8 := by omega
  all_goals rfl
/-- The reference's test for a revision. -/
def dashD (r : List UInt8) : Bool := decide (2 < r.length) && ((r.take 2 == [45, 114]) && decide (0 < (digs (r.drop 2)).length))
theorem past_nil (p : UInt8 → Bool) (l : List UInt8) : past p l = [] ↔ l.all p = true := by
  unfold past
  rw [List.drop_eq_nil_iff]
  have h1 := tw_all p l
  have h2 := tw_len p l
  constructor
  · intro h; exact h1.1 (by omega)
  · intro h; have := h1.2 h; omega
theorem numB_past (t : List UInt8) (h : 0 < (digs t).length) : (numB t = true) ↔ past isDig t = [] := by
  rw [past_nil, numB, Bool.and_eq_true]
  have : t ≠ [] := fun e => by subst e; exact absurd h (by decide)
  constructor
  · exact fun h => h.2
  · exact fun h => ⟨by simp [this], h⟩
theorem take2 (r : List UInt8) (h : (r.take 2 == [45, 114]) = true) : ∃ t, r = 45 :: 114 :: t := by
  match r, h with
  | [], h => cases h
  | [a], h => simp at h
  | a :: b :: t, h =>
    have h' : [a, b] = [45, 114] := by simpa using h
    injection h' with h1 h2
    injection h2 with h3 _
    exact ⟨t, by rw [h1, h3]⟩
theorem dashR_form (r : List UInt8) (h : dashR r = true) : ∃ t, r = 45 :: 114 :: t := by
  unfold dashR at h
  split at h
  · exact ⟨_, rfl⟩
  · cases h
theorem end_ref (l r : List UInt8) : endQ l r = if dashD r = true then (if past isDig (r.drop 2) = [] then some (l.take (l.length - r.length), r.drop 2) else none) else (if r = [] then some (l, []) else none) := by
  cases hD : dashD r with
  | true =>
    have h := hD
    simp only [dashD, Bool.and_eq_true, decide_eq_true_eq] at h
    obtain ⟨h1, h2, h3⟩ := h
    obtain ⟨t, rfl⟩ := take2 r h2
    rw [if_pos rfl, endQ, if_neg (by simp)]
    have h3' : 0 < (digs t).length := h3
    have e : (45 :: 114 :: t : List UInt8).drop 2 = t := rfl
    rw [e]
    have hr : revT (45 :: 114 :: t) = if numB t = true then some t else none := rfl
    rw [hr]
    by_cases hp : past isDig t = []
    · rw [if_pos hp, if_pos ((numB_past t h3').2 hp)]
    · rw [if_neg hp, if_neg (fun h => hp ((numB_past t h3').1 h))]
  | false =>
    rw [if_neg (by simp), endQ]
    by_cases h0 : r = []
    · rw [if_pos h0, if_pos h0]
    · rw [if_neg h0, if_neg h0]
      have hr : revT r = none := by
        rw [revT_dash, if_neg]
        intro h
        rw [Bool.and_eq_true] at h
        have : dashD r = true := by
          obtain ⟨t, rfl⟩ := dashR_form r h.1
          have hn := h.2
          have e : (45 :: 114 :: t : List UInt8).drop 2 = t := rfl
          rw [e] at hn
          have hn2 := hn
          simp only [numB, Bool.and_eq_true] at hn2
          cases t with
          | nil => simp at hn2
          | cons c t =>
            have hc : isDig c = true := by have := hn2.2; simp at this; exact this.1
            simp [dashD, digs, List.takeWhile_cons, hc]
        rw [hD] at this
        cases this
      rw [hr]
set_option maxRecDepth 20000 in
set_option maxHeartbeats 8000000 in
theorem rpieces_any (l : List UInt8) (w : World) (hl : l.length ≤ 1000000) : Calls Tryd.prog 50 #[.string (bs l)] w (RPieces w l) := by
  go_enter Tryd.func50, Tryd.ntmps50
  go_wp2_with fail
  go_loopg [0, 3] l.length (fun g s0 s3 wr => ∃ r, s0 = .string (bs r) ∧ g = r.length ∧ r.length ≤ l.length ∧ ROut w (l.length - r.length) s3 wr ∧ Hid (numsQ l = numsQ r))
  case atStart => exact ⟨l, rfl, rfl, Nat.le_refl _, ⟨[], World.ownsRow_nil _ _ _ _, by simp, by simp, fun h => by omega, Below.refl _ _⟩, Lib.hid rfl⟩
  case round =>
    obtain ⟨r, rfl, rfl, hrl, hR, HE⟩ := hrel
    obtain ⟨rps, hown, hk2, hrn, hne, hbw⟩ := hR
    obtain ⟨A3, cap3, rfl⟩ := own_form hown
    go_wp2_with fail
    refine (rdigs r _ (by omega)).mono ?_
    rintro e wq ⟨rfl, rfl⟩
    by_cases h0 : digs r = []
    · rw [h0]
      have HV : Hid (apkQ l = none) := Lib.hid (by rw [apkQ, HE.out, numsQ_none r h0]; rfl)
      go_wp2_with fail
      go_ret
      exact ⟨_, [], rfl, World.ownsRow_nil _ _ _ _, by simp, hbw, fun _ => rfl, fun p rv h => by (rw [HV.out] at h; cases h)⟩
    · have hdp : 0 < (digs r).length := List.length_pos_iff.2 h0
      have HN := Lib.hid h0
      obtain ⟨d, Hd⟩ : ∃ d, Hid (digs r = d) := ⟨_, Lib.hid rfl⟩
      rw [Hd.out] at hdp
      rw [Hd.out]
      have hdl : d.length ≤ r.length := by rw [← Hd.out]; exact tw_len isDig r
      have hd0 : ((d.length : Int) == 0) = false := beq_eq_false_iff_ne.2 (by omega)
      have H1 : Hid ((bs r).extract 0 d.length = bs d) := Lib.hid (by rw [← Hd.out]; exact tw_ext isDig r)
      have H2 : Hid ((bs r).extract d.length (bs r).size = bs (past isDig r)) := Lib.hid (by rw [← Hd.out]; exact past_drop isDig r)
      have hql : (past isDig r).length + d.length ≤ r.length := by rw [← Hd.out]; unfold past digs; rw [List.length_drop]; have := tw_len isDig r; omega
      obtain ⟨q, Hq⟩ : ∃ q, Hid (past isDig r = q) := ⟨_, Lib.hid rfl⟩
      rw [Hq.out] at H2 hql
      have hz1 : ((bs r).size : Int) = (r.length : Int) := by rw [bs_size]
      have hi1 : (0 : Int) ≤ (d.length : Int) := by omega
      have hi2 : (d.length : Int) ≤ ((bs r).size : Int) := by omega
      clear hz1 h0
      go_wp2_with (at_builtin; refine wpList_append_one rfl _ _ _ _ _ 3 32 rfl Tryd.underlying86 info_rc rfl (by omega) w.heap.size _ rps.length (rcs rps) rfl hown [.int .i64 6, .int .i64 0, .string ((bs r).extract 0 d.length)] rfl rfl (by simp [Value.oneCell']) (by omega) (by omega) (by have := hbw.size; omega) ?_; intro v' w1 hown1 hb1)
      rw [H2.out]
      have hR1 := ROut.snoc hbw hk2 hrn 6 0 _ d H1.out (by decide) hown1 hb1
      clear hown1 hb1 hown hk2 hrn hi1 hi2 hne
      by_cases hdot : ∃ t, q = 46 :: t
      · obtain ⟨t, rfl⟩ := hdot
        rw [List.length_cons] at hql
        refine (rhasq (46 :: t) 46 _).mono ?_
        rintro e wq ⟨rfl, rfl⟩
        rw [hasB_yes]
        have hi1 : (1 : Int) ≤ ((bs (46 :: t)).size : Int) := by rw [bs_size]; simp; omega
        have H3 : Hid ((bs (46 :: t)).extract 1 (bs (46 :: t)).size = bs t) := Lib.hid (by rw [ext_drop]; rfl)
        go_wp2_with fail
        rw [H3.out]
        go_roundg t.length
        case measure => omega
        case rel =>
          obtain ⟨rps1, a1, a2, a3, a0, a4⟩ := hR1
          exact ⟨t, rfl, rfl, by omega, ⟨rps1, a1, a2, by omega, fun _ => a0 (by omega), a4⟩, Lib.hid (HE.out.trans (numsQ_dot r t HN.out Hq.out))⟩
      · have hnd : ∀ t, q ≠ 46 :: t := fun t e => hdot ⟨t, e⟩
        have HE2 : Hid (numsQ l = some q) := Lib.hid (by rw [HE.out, numsQ_end r HN.out (by rw [Hq.out]; exact hnd), Hq.out])
        have hR2 : ROut w (l.length - q.length) v' w1 := by
          obtain ⟨rps1, a1, a2, a3, a0, a4⟩ := hR1
          exact ⟨rps1, a1, a2, by omega, fun _ => a0 (by omega), a4⟩
        have hql2 : q.length < l.length := by omega
        refine (rhasq q 46 _).mono ?_
        rintro e wq ⟨rfl, rfl⟩
        rw [hasB_no q 46 hnd]
        clear hdot hnd HE HN hdl hd0 hdp hql hR1 H1 H2 Hd Hq hbw
        go_upto_region 9 with fail
        go_cut [43] (fun s43 wx => s43 = .bool (signB q) ∧ w1 = wx)
        case first =>
          cases q with
          | nil =>
            have hn1 : decide ((0 : Int) < ((bs []).size : Int)) = false := by rw [bs_size]; rfl
            go_wp2_with fail
            go_meet
            exact ⟨rfl, rfl⟩
          | cons c t =>
            have hi2 : (0 : Int) < ((bs (c :: t)).size : Int) := by rw [bs_size]; simp
            have hn1 : decide ((0 : Int) < ((bs (c :: t)).size : Int)) = true := by simpa using hi2
            have HG : Hid (signB (c :: t) = (decide ((97 : Int) ≤ ((bs (c :: t))[0]'(by rw [bs_size]; simp)).toNat) && decide ((((bs (c :: t))[0]'(by rw [bs_size]; simp)).toNat : Int) ≤ 122))) := Lib.hid (by
              show isSmall c = (decide ((97 : Int) ≤ c.toNat) && decide ((c.toNat : Int) ≤ 122))
              rw [isSmall]
              rw [Bool.eq_iff_iff]; simp; omega)
            cases h1 : decide ((97 : Int) ≤ ((bs (c :: t))[0]'(by rw [bs_size]; simp)).toNat) with
            | false =>
              go_wp2_with fail
              go_meet
              exact ⟨by rw [HG.out, h1]; rfl, rfl⟩
            | true =>
              cases h2 : decide ((((bs (c :: t))[0]'(by rw [bs_size]; simp)).toNat : Int) ≤ 122) with
              | false =>
                go_wp2_with fail
                go_meet
                exact ⟨by rw [HG.out, h1, h2]; rfl, rfl⟩
              | true =>
                go_wp2_with fail
                go_meet
                exact ⟨by rw [HG.out, h1, h2]; rfl, rfl⟩
        case rest =>
          obtain ⟨rfl, rfl⟩ := hcut
          go_upto_if 43 with fail
          go_cut [0, 3] (fun s0 s3 wx => ∃ q2, s0 = .string (bs q2) ∧ Hid (q2 = signQ q) ∧ q2.length < l.length ∧ ROut w (l.length - q2.length) s3 wx)
          case first =>
            cases hs : signB q with
            | false =>
              have Hs : Hid (q = signQ q) := Lib.hid (by
                cases q with
                | nil => rfl
                | cons c t => rw [signQ, if_neg (by rw [show isSmall c = signB (c :: t) from rfl, hs]; simp)])
              go_wp2_with fail
              go_meet
              exact ⟨q, rfl, Hs, hql2, hR2⟩
            | true =>
              cases q with
              | nil => cases hs
              | cons c t =>
                have Hs : Hid (t = signQ (c :: t)) := Lib.hid (by rw [signQ, if_pos (by rw [show isSmall c = signB (c :: t) from rfl, hs])])
                obtain ⟨rps, hown, hk2, hrn, hne, hbw⟩ := hR2
                obtain ⟨A3, cap3, rfl⟩ := own_form hown
                rw [List.length_cons] at hql2 hrn
                have hi1 : (1 : Int) ≤ ((bs (c :: t)).size : Int) := by rw [bs_size]; simp; omega
                have H1 : Hid ((bs (c :: t)).extract 0 1 = bs [c]) := Lib.hid (by rw [ext_take _ _ (by rw [bs_size]; simp)]; rfl)
                have H2 : Hid ((bs (c :: t)).extract 1 (bs (c :: t)).size = bs t) := Lib.hid (by rw [ext_drop]; rfl)
                go_wp2_with (at_builtin; refine wpList_append_one rfl _ _ _ _ _ 3 32 rfl Tryd.underlying86 info_rc rfl (by omega) w.heap.size _ rps.length (rcs rps) rfl hown [.int .i64 5, .int .i64 0, .string ((bs (c :: t)).extract 0 1)] rfl rfl (by simp [Value.oneCell']) (by omega) (by omega) (by have := hbw.size; omega) ?_; intro v2 w2 hown1 hb1)
                rw [H2.out]
                have hR1 := ROut.snoc hbw hk2 hrn 5 0 _ [c] H1.out (by decide) hown1 hb1
                go_meet
                obtain ⟨rps1, a1, a2, a3, a0, a4⟩ := hR1
                exact ⟨t, rfl, Hs, by omega, ⟨rps1, a1, a2, by omega, fun _ => a0 (by omega), a4⟩⟩
          case rest =>
            obtain ⟨q2, rfl, Hq2, hq2l, hR⟩ := hcut
            have HE3 : Hid (apkQ l = (wordsX q2).bind (endQ l)) := Lib.hid (by rw [apkQ_X, HE2.out, Hq2.out]; rfl)
            clear HE2 Hq2 hR2 hql2
            go_wp2_with fail
            go_loopg [0, 3] q2.length (fun g s0 s3 wx => ∃ r, s0 = .string (bs r) ∧ g = r.length ∧ r.length < l.length ∧ ROut w (2 * (l.length - r.length)) s3 wx ∧ Hid (apkQ l = (wordsX r).bind (endQ l)))
            case atStart =>
              obtain ⟨rps1, a1, a2, a3, a0, a4⟩ := hR
              exact ⟨q2, rfl, rfl, hq2l, ⟨rps1, a1, a2, by omega, fun _ => a0 (by omega), a4⟩, HE3⟩
            case round =>
              clear hR HE3 hq2l
              obtain ⟨r, rfl, rfl, hrl, hR, HE⟩ := hrel
              obtain ⟨rps, hown, hk2, hrn, hne, hbw⟩ := hR
              obtain ⟨A3, cap3, rfl⟩ := own_form hown
              by_cases hd : ∃ t, r = 95 :: t
              · obtain ⟨t, rfl⟩ := hd
                rw [List.length_cons] at hrl hrn
                go_wp2_with fail
                refine (rhasq (95 :: t) 95 _).mono ?_
                rintro e wq ⟨rfl, rfl⟩
                rw [hasB_yes]
                have hi1 : (1 : Int) ≤ ((bs (95 :: t)).size : Int) := by rw [bs_size]; simp; omega
                have H2 : Hid ((bs (95 :: t)).extract 1 (bs (95 :: t)).size = bs t) := Lib.hid (by rw [ext_drop]; rfl)
                obtain ⟨d, Hd⟩ : ∃ d, Hid (lets t = d) := ⟨_, Lib.hid rfl⟩
                have hdl : d.length ≤ t.length := by rw [← Hd.out]; exact tw_len isLet t
                go_wp2_with fail
                rw [H2.out]
                refine (rlets t _ (by omega)).mono ?_
                rintro e wq ⟨rfl, rfl⟩
                rw [Hd.out]
                go_wp2_with fail
                refine (rwords_any _).mono ?_
                rintro e w2 ⟨rfl, hcw, hsz, hb2⟩
                have HC := Lib.hid hcw
                have hown2 := own_below hown hb2
                have hbw2 := below_trans hbw hb2
                have hws := hbw.size
                generalize wr.heap.size = gw at HC hsz hws
                clear hcw hown hbw hb2
                have hz1 : ((bs (95 :: t)).size : Int) = (t.length : Int) + 1 := by rw [bs_size]; simp
                have hj1 : (0 : Int) ≤ (1 : Int) := by omega
                have hj2 : (1 : Int) ≤ 1 + (d.length : Int) := by omega
                have hj3 : 1 + (d.length : Int) ≤ ((bs (95 :: t)).size : Int) := by omega
                have hj4 : (1 + (d.length : Int)).toNat = 1 + d.length := by omega
                have H3 : Hid ((bs (95 :: t)).extract 1 (1 + d.length) = bs d) := Lib.hid (by
                  rw [ext_mid, show (95 :: t).drop 1 = t from rfl, show 1 + d.length - 1 = d.length by omega, ← Hd.out, show t.take (lets t).length = lets t from take_tw isLet t])
                clear hz1
                go_wp2_with fail
                go_loopg [6, 8] 9 (fun g s6 s8 wx => ∃ k : Nat, k ≤ 9 ∧ g = 9 - k ∧ s8 = .int .i64 k ∧ s6 = .int .i64 (rankU d k) ∧ Below w2.heap.size w2 wx)
                case atStart => exact ⟨0, by omega, rfl, rfl, rfl, Below.refl _ _⟩
                case round =>
                  obtain ⟨k, hk, rfl, rfl, rfl, hbk⟩ := hrel
                  by_cases hk9 : k < 9
                  · have hcell := HC.out k hk9
                    rw [← hbk.cell (p := ⟨gw, k, none⟩) hsz] at hcell
                    have hst : rankU d (k + 1) = if wordsL.getD k [] = d then (k : Int) else rankU d k := rfl
                    have HST := Lib.hid hst
                    clear hst
                    generalize wordsL.getD k [] = wd at hcell HST
                    obtain ⟨ru, Hru⟩ : ∃ x, Hid (rankU d k = x) := ⟨_, Lib.hid rfl⟩
                    rw [Hru.out]
                    have hkz : (k : Int) < 9 := by omega
                    have hk0 : (0 : Int) ≤ (k : Int) := by omega
                    go_wp2_with fail
                    refine wp_region_plan (fun W => W.cell? ⟨gw, k, none⟩ = some (.string (bs wd))) [(false, 0), (false, 1), (false, 2), (false, 3), (false, 4), (false, 5), (false, 6), (false, 7)] (by kernel_rfl) (by kernel_rfl) (by simpa using hcell) ?_
                    simp only [planOps, List.map, List.getD_cons_zero, List.getD_cons_succ]
                    iterate 8 ((first | refine plan_quiet (v := ?_) rfl rfl (fun w' hw' => ?_) ?_ | refine plan_calm (v := ?_) (tt_of) rfl (fun w' hw' => ?_) ?_); rotate_left; (focus (go_simp <;> (first | with_reducible rfl | (rw [if_neg (by simp [undef])]; try rfl) | omega))); simp only [Act.put, List.setIfInBounds_toArray, List.set_cons_zero, List.set_cons_succ])
                    refine plan_end ?_
                    rw [H3.out, toList_bs, toList_bs]
                    by_cases he : wd = d
                    · have heb : (wd == d) = true := by simpa using he
                      rw [heb]
                      go_wp2_with fail
                      go_roundg (9 - (k + 1))
                      case measure => omega
                      case rel => exact ⟨k + 1, by omega, rfl, by go_num, by rw [HST.out, if_pos he], hbk.drew⟩
                    · have heb : (wd == d) = false := by simpa using he
                      rw [heb]
                      go_wp2_with fail
                      go_roundg (9 - (k + 1))
                      case measure => omega
                      case rel => exact ⟨k + 1, by omega, rfl, by go_num, by rw [HST.out, if_neg he, Hru.out], hbk.drew⟩
                  · obtain rfl : k = 9 := by omega
                    rw [rankU_9]
                    have hbk2 := below_trans hbw2 hbk
                    have hown3 := own_below hown2 hbk
                    obtain ⟨rk, Hrk⟩ : ∃ x, Hid (wordI d = x) := ⟨_, Lib.hid rfl⟩
                    rw [Hrk.out]
                    clear hk hk9 hj1 hj2 hbk hbw2 hown2 HC hsz H3 H2 hi1
                    by_cases hneg : rk < 0
                    · have HV : Hid (apkQ l = none) := Lib.hid (by rw [HE.out, wordsX_none t (by rw [Hd.out, Hrk.out]; exact hneg)]; rfl)
                      go_wp2_with fail
                      go_ret
                      exact ⟨_, [], rfl, World.ownsRow_nil _ _ _ _, by simp, hbk2, fun _ => rfl, fun p rv h => by (rw [HV.out] at h; cases h)⟩
                    · have HE2 : Hid (apkQ l = (wordsX (past isDig (past isLet t))).bind (endQ l)) := Lib.hid (by rw [HE.out, wordsX_next t (by rw [Hd.out, Hrk.out]; exact hneg)])
                      have hge : 0 ≤ rk := by omega
                      clear HE Hrk hneg
                      go_upto_if 77 with fail
                      go_cut [9] (fun s9 wx => ∃ kd : Int, s9 = .int .i64 kd ∧ kd ≠ 2 ∧ wr = wx)
                      case first =>
                        by_cases h4 : rk < 4
                        · go_wp2_with fail
                          go_meet
                          exact ⟨_, rfl, by decide, rfl⟩
                        · go_wp2_with fail
                          go_meet
                          exact ⟨_, rfl, by decide, rfl⟩
                      case rest =>
                        obtain ⟨kd, rfl, hkd, rfl⟩ := hcut
                        have Hkd := Lib.hid hkd
                        clear hkd
                        have H4 : Hid ((bs (95 :: t)).extract (1 + d.length) (bs (95 :: t)).size = bs (past isLet t)) := Lib.hid (by
                          rw [ext_drop, bs_list, Nat.add_comm, List.drop_succ_cons, ← Hd.out]; rfl)
                        have hj0 : (0 : Int) ≤ 1 + (d.length : Int) := by omega
                        have hpl := past_len isLet t
                        go_wp2_with (at_builtin; refine wpList_append_one rfl _ _ _ _ _ 3 32 rfl Tryd.underlying86 info_rc rfl (by omega) w.heap.size _ rps.length (rcs rps) rfl hown3 [.int .i64 kd, .int .i64 rk, .string ⟨#[]⟩] rfl rfl (by simp [Value.oneCell']) (by omega) (by omega) (by have := hbk2.size; omega) ?_; intro v4 w4 hown4 hb4)
                        rw [H4.out]
                        have hR4 := ROut.snoc hbk2 hk2 hrn kd rk _ [] rfl Hkd.out hown4 hb4
                        clear hown4 hb4 hown3 hk2 hbk2 hj0 hj3 hj4 H4
                        obtain ⟨u, Hu⟩ : ∃ u, Hid (past isLet t = u) := ⟨_, Lib.hid rfl⟩
                        rw [Hu.out] at HE2 hpl
                        rw [Hu.out]
                        refine (rdigs u _ (by omega)).mono ?_
                        rintro e wq ⟨rfl, rfl⟩
                        have hpl2 : (past isDig u).length ≤ u.length := past_len isDig u
                        obtain ⟨rps4, hown4, hk4, hrn4, hne4, hbw4⟩ := hR4
                        obtain ⟨A4, cap4, rfl⟩ := own_form hown4
                        by_cases h0 : digs u = []
                        · rw [h0]
                          have HP : Hid (past isDig u = u) := Lib.hid (by rw [past, show u.takeWhile isDig = [] from h0]; rfl)
                          clear h0
                          go_wp2_with fail
                          go_roundg u.length
                          case measure => simp; omega
                          case rel => exact ⟨u, rfl, rfl, by omega, ⟨rps4, hown4, hk4, by omega, fun _ => hne4 (by omega), hbw4⟩, Lib.hid (by rw [HE2.out, HP.out])⟩
                        · have hdp : 0 < (digs u).length := List.length_pos_iff.2 h0
                          obtain ⟨m, Hm⟩ : ∃ m, Hid (digs u = m) := ⟨_, Lib.hid rfl⟩
                          have hml : m.length ≤ u.length := by rw [← Hm.out]; exact tw_len isDig u
                          have H5 : Hid ((bs u).extract 0 m.length = bs m) := Lib.hid (by rw [← Hm.out]; exact tw_ext isDig u)
                          have H6 : Hid ((bs u).extract m.length (bs u).size = bs (past isDig u)) := Lib.hid (by rw [← Hm.out]; exact past_drop isDig u)
                          rw [Hm.out] at hdp
                          rw [Hm.out]
                          have hd0 : decide (0 < (m.length : Int)) = true := by simp; omega
                          have hz1 : ((bs u).size : Int) = (u.length : Int) := by rw [bs_size]
                          have hi1 : (0 : Int) ≤ (m.length : Int) := by omega
                          have hi2 : (m.length : Int) ≤ ((bs u).size : Int) := by omega
                          clear h0 hz1
                          go_wp2_with (at_builtin; refine wpList_append_one rfl _ _ _ _ _ 3 32 rfl Tryd.underlying86 info_rc rfl (by omega) w.heap.size _ rps4.length (rcs rps4) rfl hown4 [.int .i64 3, .int .i64 0, .string ((bs u).extract 0 m.length)] rfl rfl (by simp [Value.oneCell']) (by omega) (by omega) (by have := hbw4.size; omega) ?_; intro v5 w5 hown5 hb5)
                          rw [H6.out]
                          have hR5 := ROut.snoc hbw4 hk4 hrn4 3 0 _ m H5.out (by decide) hown5 hb5
                          go_roundg (past isDig u).length
                          case measure => simp; omega
                          case rel =>
                            obtain ⟨rps5, a1, a2, a3, a0, a4⟩ := hR5
                            exact ⟨past isDig u, rfl, rfl, by omega, ⟨rps5, a1, a2, by omega, fun _ => a0 (by omega), a4⟩, HE2⟩
              · have hnd : ∀ t, r ≠ 95 :: t := fun t e => hd ⟨t, e⟩
                have HE2 : Hid (apkQ l = endQ l r) := Lib.hid (by rw [HE.out, wordsX_end r hnd]; rfl)
                clear HE hd
                go_wp2_with fail
                refine (rhasq r 95 _).mono ?_
                rintro e wq ⟨rfl, rfl⟩
                rw [hasB_no r 95 hnd]
                clear hnd
                have hne2 := hne (by omega)
                have hend := end_ref l r
                have HEND := Lib.hid hend
                clear hend hne
                have hz1 : ((bs r).size : Int) = (r.length : Int) := by rw [bs_size]
                go_upto_region 32 with fail
                go_cut [114] (fun s114 wx => s114 = .bool (dashD r) ∧ wr = wx)
                case first =>
                  by_cases h2 : 2 < r.length
                  · have hd2 : decide ((2 : Int) < ((bs r).size : Int)) = true := by rw [hz1]; simp; omega
                    have hi2 : (2 : Int) ≤ ((bs r).size : Int) := by omega
                    have H5 : Hid ((bs r).extract 0 2 = bs (r.take 2)) := Lib.hid (by rw [ext_take _ _ (by rw [bs_size]; omega)]; rfl)
                    have H6 : Hid ((bs r).extract 2 (bs r).size = bs (r.drop 2)) := Lib.hid (by rw [ext_drop]; rfl)
                    have hq5 : ((bs r).extract 0 2).toList = r.take 2 := by rw [H5.out, toList_bs]
                    clear hz1
                    cases h3 : (r.take 2 == [45, 114]) with
                    | false =>
                      have HV : Hid (dashD r = false) := Lib.hid (by rw [dashD, h3]; simp)
                      go_wp2_with fail
                      go_meet
                      exact ⟨by rw [HV.out], rfl⟩
                    | true =>
                      have HV : Hid (dashD r = decide (0 < (digs (r.drop 2)).length)) := Lib.hid (by rw [dashD, h3]; simp [h2])
                      go_wp2_with fail
                      rw [H6.out]
                      refine (rdigs (r.drop 2) _ (by rw [List.length_drop]; omega)).mono ?_
                      rintro e wq ⟨rfl, rfl⟩
                      by_cases h4 : 0 < (digs (r.drop 2)).length
                      · have h4b : decide ((0 : Int) < ((digs (r.drop 2)).length : Int)) = true := by simp; omega
                        go_wp2_with fail
                        go_meet
                        exact ⟨by rw [HV.out]; simp; omega, rfl⟩
                      · have h4c : (digs (r.drop 2)).length = 0 := by omega
                        rw [h4c]
                        go_wp2_with fail
                        go_meet
                        exact ⟨by rw [HV.out, h4c]; rfl, rfl⟩
                  · have hd2 : decide ((2 : Int) < ((bs r).size : Int)) = false := by rw [hz1]; simp; omega
                    have HV : Hid (dashD r = false) := Lib.hid (by rw [dashD]; simp [h2])
                    clear hz1
                    go_wp2_with fail
                    go_meet
                    exact ⟨by rw [HV.out], rfl⟩
                case rest =>
                  obtain ⟨rfl, rfl⟩ := hcut
                  go_upto_if 114 with fail
                  go_cut [0, 3, 11] (fun s0 s3 s11 wx => ∃ (q3 : List UInt8) (rps3 : List Rc), s0 = .string (bs q3) ∧ wx.ownsRow w.heap.size 89 3 s3 rps3.length (rcs rps3) ∧ rps3.length ≤ 10000000 ∧ Below w.heap.size w wx ∧
                    Hid ((q3 ≠ [] → apkQ l = none) ∧ (q3 = [] → ∃ p rv, apkQ l = some (p, rv) ∧ ∃ (i : List Rc) (x : Rc), rps3 = i ++ [x] ∧ ((x.1 ≠ 2 ∧ p = l ∧ rv = []) ∨ (x.1 = 2 ∧ x.2.2 = rv ∧ rv.length + 2 ≤ l.length ∧ p = l.take (l.length - rv.length - 2))))))
                  case first =>
                    cases hD : dashD r with
                    | false =>
                      have HF : Hid (apkQ l = if r = [] then some (l, []) else none) := Lib.hid (by rw [HE2.out, HEND.out, hD]; rfl)
                      go_wp2_with fail
                      go_meet
                      refine ⟨r, rps, rfl, hown, by omega, hbw, Lib.hid ⟨fun h => by rw [HF.out, if_neg h], fun h => ⟨l, [], by rw [HF.out, if_pos h], ?_⟩⟩⟩
                      have hx := List.dropLast_concat_getLast (List.length_pos_iff.1 hne2)
                      refine ⟨rps.dropLast, rps.getLast (List.length_pos_iff.1 hne2), hx.symm, .inl ⟨hk2 _ (List.getLast_mem _), rfl, rfl⟩⟩
                    | true =>
                      have hD2 := hD
                      simp only [dashD, Bool.and_eq_true, decide_eq_true_eq] at hD2
                      obtain ⟨h1, h2, h3⟩ := hD2
                      obtain ⟨t, rfl⟩ := take2 r h2
                      have HF : Hid (apkQ l = if past isDig t = [] then some (l.take (l.length - (t.length + 2)), t) else none) := Lib.hid (by rw [HE2.out, HEND.out, hD]; rfl)
                      have h3 : 0 < (digs t).length := h3
                      rw [List.length_cons, List.length_cons] at hrl hrn
                      clear hD h1 h2 HE2 HEND hz1
                      obtain ⟨m, Hm⟩ : ∃ m, Hid (digs t = m) := ⟨_, Lib.hid rfl⟩
                      have hml : m.length ≤ t.length := by rw [← Hm.out]; exact tw_len isDig t
                      have H5 : Hid ((bs (45 :: 114 :: t)).extract 2 (2 + m.length) = bs m) := Lib.hid (by
                        rw [ext_mid, show (45 :: 114 :: t).drop 2 = t from rfl, show 2 + m.length - 2 = m.length by omega, ← Hm.out, show t.take (digs t).length = digs t from take_tw isDig t])
                      have H6 : Hid ((bs (45 :: 114 :: t)).extract (2 + m.length) (bs (45 :: 114 :: t)).size = bs (past isDig t)) := Lib.hid (by
                        rw [ext_drop, bs_list, show 2 + m.length = m.length + 1 + 1 by omega, List.drop_succ_cons, List.drop_succ_cons, ← Hm.out]; rfl)
                      have H7 : Hid ((bs (45 :: 114 :: t)).extract 2 (bs (45 :: 114 :: t)).size = bs t) := Lib.hid (by rw [ext_drop]; rfl)
                      have hz1 : ((bs (45 :: 114 :: t)).size : Int) = (t.length : Int) + 2 := by rw [bs_size]; simp; omega
                      have hi1 : (2 : Int) ≤ ((bs (45 :: 114 :: t)).size : Int) := by omega
                      have hj1 : (0 : Int) ≤ 2 + (m.length : Int) := by omega
                      have hj2 : (2 : Int) ≤ 2 + (m.length : Int) := by omega
                      have hj3 : 2 + (m.length : Int) ≤ ((bs (45 :: 114 :: t)).size : Int) := by omega
                      have hj4 : (2 + (m.length : Int)).toNat = 2 + m.length := by omega
                      clear hz1
                      go_wp2_with fail
                      rw [H7.out]
                      refine (rdigs t _ (by omega)).mono ?_
                      rintro e wq ⟨rfl, rfl⟩
                      rw [Hm.out]
                      rw [Hm.out] at h3
                      go_wp2_with (at_builtin; refine wpList_append_one rfl _ _ _ _ _ 3 32 rfl Tryd.underlying86 info_rc rfl (by omega) w.heap.size _ rps.length (rcs rps) rfl hown [.int .i64 2, .int .i64 0, .string ((bs (45 :: 114 :: t)).extract 2 (2 + m.length))] rfl rfl (by simp [Value.oneCell']) (by omega) (by omega) (by have := hbw.size; omega) ?_; intro v5 w5 hown5 hb5)
                      rw [H6.out]
                      rw [H5.out] at hown5
                      go_meet
                      refine ⟨past isDig t, rps ++ [(2, 0, m)], rfl, by rw [rcs_app, List.length_append]; exact hown5, by simp; omega, hbw.trans hb5, Lib.hid ⟨fun h => by rw [HF.out, if_neg h], fun h => ⟨_, _, by rw [HF.out, if_pos h], rps, (2, 0, m), rfl, .inr ⟨rfl, ?_, by omega, by rw [show l.length - t.length - 2 = l.length - (t.length + 2) by omega]⟩⟩⟩⟩
                      show m = t
                      rw [← Hm.out]
                      have h4 := (past_nil isDig t).1 h
                      have h5 := (tw_all isDig t).2 h4
                      have h6 : t.take (digs t).length = digs t := take_tw isDig t
                      rw [← h6, show (digs t).length = t.length from h5, List.take_length]
                  case rest =>
                    obtain ⟨q3, rps3, rfl, hown3, hl3, hb3, HF⟩ := hcut
                    obtain ⟨A5, cap5, rfl⟩ := own_form hown3
                    by_cases hq3 : q3 = []
                    · have hn1 : (bs q3).toList = [] := by rw [toList_bs]; exact hq3
                      have hn2 : (bs q3).toList.isEmpty = true := by rw [hn1]; rfl
                      have HQ := Lib.hid hq3
                      clear hq3
                      go_wp2_with fail
                      go_ret
                      obtain ⟨p, rv, h1, h2⟩ := HF.out.2 HQ.out
                      refine ⟨_, rps3, rfl, hown3, hl3, hb3, fun h => by (rw [h1] at h; cases h), fun p' rv' h => ?_⟩
                      rw [h1] at h
                      injection h with h
                      injection h with ha hb
                      subst ha hb
                      exact h2
                    · have hn1 : ¬ (bs q3).toList = [] := by rw [toList_bs]; exact hq3
                      have hn2 : (bs q3).toList.isEmpty = false := by simpa using hn1
                      have HV := Lib.hid (HF.out.1 hq3)
                      clear hq3
                      go_wp2_with fail
                      go_ret
                      exact ⟨_, [], rfl, World.ownsRow_nil _ _ _ _, by simp, hb3, fun _ => rfl, fun p rv h => by (rw [HV.out] at h; cases h)⟩
end Go.Proofs.YtjdcegogkafmoaaDoor
namespace Go.Proofs.YtjdcegogkafmoaaDoor
open Go
theorem inB_mem (l : List UInt8) (c : UInt8) : inB l c = true ↔ c ∈ l := by
  rw [inB, ← Lib.contains_iff_indexByte]
  exact List.contains_iff_mem
theorem cut_split (l : List UInt8) (c : UInt8) (h : inB l c = true) : l = cutA l c ++ c :: cutB l c ∧ c ∉ cutA l c := by
  rw [cutA, if_pos h, cutB, if_pos h]
  rw [inB, decide_eq_true_eq] at h
  induction l with
  | nil => simp [Lib.indexByte] at h
  | cons x l ih =>
    simp only [Lib.indexByte] at h ⊢
    by_cases hx : x = c
    · subst hx
      simp
    · have hx' : (x == c) = false := by simpa using hx
      rw [if_neg (by rw [hx']; simp)] at h ⊢
      by_cases h1 : Lib.indexByte l c = -1
      · rw [if_pos (by rw [h1]; rfl)] at h; omega
      · have hge := Lib.indexByte_ge l c
        rw [if_neg (by simpa using h1)] at h ⊢
        have hge' : 0 ≤ Lib.indexByte l c := by omega
        obtain ⟨k, hk⟩ := Int.eq_ofNat_of_zero_le hge'
        have hi := ih hge'
        rw [hk] at hi ⊢
        rw [show ((k : Int) + 1).toNat = k + 1 by omega]
        simp only [Int.toNat_natCast] at hi
        refine ⟨?_, ?_⟩
        · rw [List.take_succ_cons, List.drop_succ_cons, List.cons_append]
          exact congrArg _ hi.1
        · rw [List.take_succ_cons]
          intro hm
          rcases List.mem_cons.1 hm with e | e
          · exact hx e.symm
          · exact hi.2 e
theorem last_split (r : List UInt8) : (lastI r < 0 ∧ 45 ∉ r) ∨ (0 ≤ lastI r ∧ r = dPr r ++ 45 :: dRev r ∧ 45 ∉ dRev r) := by
  rcases Lib.lastIndexByte_spec (bs r) 45 with ⟨h, hn⟩ | ⟨i, h1, h2, h3, h4⟩
  · refine .inl ⟨by show Lib.lastIndexByte (bs r) 45 < 0; rw [h]; omega, fun hm => ?_⟩
    obtain ⟨j, hj, he⟩ := List.getElem_of_mem hm
    have := hn j (by rw [bs_size]; exact hj)
    rw [get_bang _ j (by rw [bs_size]; exact hj)] at this
    exact this (by show (r[j].toNat : Int) = 45; rw [he]; rfl)
  · have hl : lastI r = i := h2
    rw [bs_size] at h1
    have hi : r[i] = 45 := by
      rw [get_bang _ i (by rw [bs_size]; exact h1)] at h3
      have h3' : (r[i].toNat : Int) = 45 := h3
      exact UInt8.toNat_inj.1 (by show r[i].toNat = 45; omega)
    refine .inr ⟨by omega, ?_, ?_⟩
    · rw [dPr, if_pos (by omega), dRev, if_pos (by omega), hl, Int.toNat_natCast]
      have := List.take_append_drop i r
      rw [List.drop_eq_getElem_cons h1, hi] at this
      exact this.symm
    · rw [dRev, if_pos (by omega), hl, Int.toNat_natCast]
      intro hm
      obtain ⟨j, hj, he⟩ := List.getElem_of_mem hm
      rw [List.length_drop] at hj
      have := h4 (i + 1 + j) (by omega) (by rw [bs_size]; omega)
      rw [get_bang _ _ (by rw [bs_size]; omega)] at this
      have e2 : (bs r)[i + 1 + j]'(by rw [bs_size]; omega) = 45 := by
        rw [List.getElem_drop] at he
        exact he
      exact this (by rw [e2]; rfl)
theorem uniq_first {c : UInt8} : ∀ {A C B D : List UInt8}, c ∉ A → c ∉ C → A ++ c :: B = C ++ c :: D → A = C ∧ B = D
  | [], [], _, _, _, _, h => by simpa using h
  | [], y :: C, _, _, _, hC, h => by
    injection h with h1 _
    exact absurd (by rw [← h1]; simp) hC
  | x :: A, [], _, _, hA, _, h => by
    injection h with h1 _
    exact absurd (by rw [h1]; simp) hA
  | x :: A, y :: C, B, D, hA, hC, h => by
    injection h with h1 h2
    obtain ⟨e1, e2⟩ := uniq_first (fun hm => hA (by simp [hm])) (fun hm => hC (by simp [hm])) h2
    exact ⟨by rw [h1, e1], e2⟩
theorem made_no (l o : List UInt8) (c : UInt8) (h : madeB l o = true) (hd : isDig c = false) (hl : isLet c = false) (ho : inB o c = false) : c ∉ l := by
  rw [madeB, Bool.and_eq_true] at h
  intro hm
  have := List.all_eq_true.1 h.2 c hm
  simp [madeP, hd, hl, ho] at this
/-- What the reference asks of a version of Rpm behind its epoch. -/
def refR (r : List UInt8) : Bool := decide (0 ≤ lastI r) && (madeB (dPr r) rOthers && madeB (dRev r) rOthers)
theorem refR_made (r : List UInt8) (h : refR r = true) : madeB (dPr r) rOthers = true ∧ madeB (dRev r) rOthers = true ∧ 0 ≤ lastI r := by
  simp only [refR, Bool.and_eq_true, decide_eq_true_eq] at h
  exact ⟨h.2.1, h.2.2, h.1⟩
theorem n45 : isDig 45 = false ∧ isLet 45 = false ∧ inB rOthers 45 = false := by decide +kernel
theorem refR_same (r : List UInt8) : (refR r = (madeB (cutA r 45) rOthers && madeB (cutB r 45) rOthers)) ∧ (refR r = true → dPr r = cutA r 45 ∧ dRev r = cutB r 45) := by
  have key1 : refR r = true → dPr r = cutA r 45 ∧ dRev r = cutB r 45 := fun h => by
    obtain ⟨h1, h2, h3⟩ := refR_made r h
    rcases last_split r with ⟨hn, _⟩ | ⟨_, hr, _⟩
    · omega
    · have hin : inB r 45 = true := (inB_mem r 45).2 (by rw [hr]; simp)
      obtain ⟨hs, hA⟩ := cut_split r 45 hin
      have hC := made_no _ _ 45 h1 n45.1 n45.2.1 n45.2.2
      have := uniq_first hA hC (hs.symm.trans hr)
      exact ⟨this.1.symm, this.2.symm⟩
  have key2 : (madeB (cutA r 45) rOthers && madeB (cutB r 45) rOthers) = true → refR r = true := fun h => by
    rw [Bool.and_eq_true] at h
    have hin : inB r 45 = true := by
      cases hi : inB r 45 with
      | true => rfl
      | false =>
        have : cutB r 45 = [] := by rw [cutB, if_neg (by rw [hi]; simp)]
        rw [this] at h
        simp [madeB] at h
    obtain ⟨hs, hA⟩ := cut_split r 45 hin
    have hB := made_no _ _ 45 h.2 n45.1 n45.2.1 n45.2.2
    have hmem : 45 ∈ r := (inB_mem r 45).1 hin
    rcases last_split r with ⟨_, hno⟩ | ⟨hge, hr, hD⟩
    · exact absurd hmem hno
    · have hC : 45 ∉ dPr r := by
        have c1 : r.count 45 = 1 := by
          rw [hs, List.count_append, List.count_cons, List.count_eq_zero.2 hA, List.count_eq_zero.2 hB]
          simp
        have c2 := c1
        rw [hr, List.count_append, List.count_cons, List.count_eq_zero.2 hD] at c2
        simp at c2
        exact List.count_eq_zero.1 c2
      obtain ⟨e1, e2⟩ := uniq_first hA hC (hs.symm.trans hr)
      rw [refR, ← e1, ← e2, h.1, h.2]
      simp [hge]
  refine ⟨?_, key1⟩
  cases h : refR r with
  | true =>
    obtain ⟨h1, h2, _⟩ := refR_made r h
    obtain ⟨e1, e2⟩ := key1 h
    rw [← e1, ← e2, h1, h2]
    rfl
  | false =>
    cases h2 : (madeB (cutA r 45) rOthers && madeB (cutB r 45) rOthers) with
    | false => rfl
    | true => rw [key2 h2] at h; cases h
/-- What the reference asks of a version of Dpkg behind its epoch. -/
def refD (r : List UInt8) : Bool := if lastI r < 0 then madeB r [46, 43, 126] && headDig r else (madeB (dPr r) [46, 43, 126, 45] && headDig (dPr r)) && madeB (dRev r) [46, 43, 126]
theorem inB_app (o : List UInt8) (c d : UInt8) (h : d ≠ c) : inB (o ++ [c]) d = inB o d := by
  have h1 := inB_mem (o ++ [c]) d
  have h2 := inB_mem o d
  have h3 : d ∈ o ++ [c] ↔ d ∈ o := by simp [h]
  cases hA : inB (o ++ [c]) d <;> cases hB : inB o d <;> simp_all
theorem refD_same (r : List UInt8) : refD r = restOk r := by
  rw [refD, restOk]
  rcases last_split r with ⟨hn, hno⟩ | ⟨hge, hr, hD⟩
  · have e : dPr r = r := by rw [dPr, if_neg (by omega)]
    rw [if_pos hn, e]
    have hm : madeB r [46, 43, 126] = madeB r [46, 43, 126, 45] := by
      rw [madeB, madeB]
      congr 1
      rw [Bool.eq_iff_iff, List.all_eq_true, List.all_eq_true]
      constructor
      · intro h x hx
        have hx45 : x ≠ 45 := fun e => hno (e ▸ hx)
        have := h x hx
        rw [madeP] at this ⊢
        rw [show ([46, 43, 126, 45] : List UInt8) = [46, 43, 126] ++ [45] from rfl, inB_app _ _ _ hx45]
        exact this
      · intro h x hx
        have hx45 : x ≠ 45 := fun e => hno (e ▸ hx)
        have := h x hx
        rw [madeP] at this ⊢
        rw [show ([46, 43, 126, 45] : List UInt8) = [46, 43, 126] ++ [45] from rfl, inB_app _ _ _ hx45] at this
        exact this
    rw [hm]
    simp [hn]
  · rw [if_neg (by omega), show decide (lastI r < 0) = false by simp; omega]
    simp only [Bool.false_or]
    cases madeB (dRev r) [46, 43, 126] <;> cases madeB (dPr r) [46, 43, 126, 45] <;> cases headDig (dPr r) <;> rfl
/-- The digits ahead of the first sign are all that is ahead of it. -/
theorem digs_at (l : List UInt8) (h : inB l 58 = true) : ((digs l).length = (cutA l 58).length) ↔ (cutA l 58).all isDig = true := by
  obtain ⟨hs, _⟩ := cut_split l 58 h
  have key : ∀ A B : List UInt8, (digs (A ++ 58 :: B)).length = A.length ↔ A.all isDig = true := by
    intro A B
    induction A with
    | nil => simp [digs, List.takeWhile_cons, show isDig 58 = false by decide]
    | cons x A ih =>
      cases hx : isDig x with
      | true => simp [digs, List.takeWhile_cons, hx] at ih ⊢; exact ih
      | false => simp [digs, List.takeWhile_cons, hx]
  have := key (cutA l 58) (cutB l 58)
  rw [← hs] at this
  exact this
theorem epOk_ref (l : List UInt8) (h : inB l 58 = true) : epOk l = (decide (1 ≤ (cutA l 58).length) && decide ((cutA l 58).length ≤ 9) && decide ((digs l).length = (cutA l 58).length)) := by
  rw [epOk, h, numB]
  have h1 := digs_at l h
  have h2 : decide ((digs l).length = (cutA l 58).length) = (cutA l 58).all isDig := by
    cases h3 : (cutA l 58).all isDig with
    | true => simpa using h1.2 h3
    | false => simpa using fun e => by rw [h1.1 e] at h3; cases h3
  rw [h2]
  cases cutA l 58 with
  | nil => rfl
  | cons x t => simp; cases isDig x <;> cases t.all isDig <;> simp
theorem rEpOk_ref (l : List UInt8) : rEpOk l = (epOk l && !noughtB (dEp l)) := by
  rw [rEpOk, epOk, dEp]
  cases inB l 58 with
  | false => rfl
  | true => rfl
theorem dOk_ref (l : List UInt8) : dOk l = (epOk l && refD (dRest l)) := by rw [dOk, refD_same]
theorem rOk_ref (l : List UInt8) : rOk l = (epOk l && (refR (dRest l) && !noughtB (dEp l))) := by
  rw [rOk, rEpOk_ref, ← (refR_same (dRest l)).1]
  cases epOk l <;> cases noughtB (dEp l) <;> simp
end Go.Proofs.YtjdcegogkafmoaaDoor
