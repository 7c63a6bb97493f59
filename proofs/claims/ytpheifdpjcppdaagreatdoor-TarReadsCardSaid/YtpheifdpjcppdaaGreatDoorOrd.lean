/- Orders told by -1, 0 and 1, and sequences held against each other from their beginning. Versions of Dpkg and of Rpm held against each other, in plain words: one order. Pieces of versions of Apk held against each other, in plain words: one order. -/
import Derived.WalkKit
namespace Go.Proofs.YtpheifdpjcppdaaGreatDoor
def isDig (c : UInt8) : Bool := decide (48 ≤ c.toNat) && decide (c.toNat ≤ 57)
def isSmall (c : UInt8) : Bool := decide (97 ≤ c.toNat) && decide (c.toNat ≤ 122)
def isBig (c : UInt8) : Bool := decide (65 ≤ c.toNat) && decide (c.toNat ≤ 90)
def isLet (c : UInt8) : Bool := isSmall c || isBig c
/-- f holds the things of a kind P against each other: one order. -/
structure Ord3 {α : Type} (P : α → Prop) (f : α → α → Int) : Prop where
  val : ∀ a b, P a → P b → f a b = -1 ∨ f a b = 0 ∨ f a b = 1
  sym : ∀ a b, P a → P b → f b a = - f a b
  trans : ∀ a b c, P a → P b → P c → f a b ≤ 0 → f b c ≤ 0 → f a c ≤ 0 ∧ (f a b < 0 ∨ f b c < 0 → f a c < 0)
namespace Ord3
variable {α β : Type} {P : α → Prop} {f g : α → α → Int}
theorem same (h : Ord3 P f) (a : α) (ha : P a) : f a a = 0 := by have := h.sym a a ha ha; omega
theorem pull {Q : β → Prop} {k : β → α} (h : Ord3 P f) (hk : ∀ b, Q b → P (k b)) : Ord3 Q (fun a b => f (k a) (k b)) :=
  ⟨fun a b ha hb => h.val _ _ (hk a ha) (hk b hb), fun a b ha hb => h.sym _ _ (hk a ha) (hk b hb), fun a b c ha hb hc => h.trans _ _ _ (hk a ha) (hk b hb) (hk c hc)⟩
theorem or (hf : Ord3 P f) (hg : Ord3 P g) : Ord3 P (fun a b => if f a b = 0 then g a b else f a b) := by
  refine ⟨fun a b ha hb => ?_, fun a b ha hb => ?_, fun a b c ha hb hc => ?_⟩
  · have := hf.val a b ha hb
    have := hg.val a b ha hb
    show (if f a b = 0 then g a b else f a b) = -1 ∨ (if f a b = 0 then g a b else f a b) = 0 ∨ (if f a b = 0 then g a b else f a b) = 1
    split <;> assumption
  · have h1 := hf.sym a b ha hb
    have h2 := hg.sym a b ha hb
    show (if f b a = 0 then g b a else f b a) = -(if f a b = 0 then g a b else f a b)
    by_cases h0 : f a b = 0
    · rw [if_pos h0, if_pos (by omega)]; exact h2
    · rw [if_neg h0, if_neg (by omega)]; exact h1
  · show (if f a b = 0 then g a b else f a b) ≤ 0 → (if f b c = 0 then g b c else f b c) ≤ 0 → (if f a c = 0 then g a c else f a c) ≤ 0 ∧ ((if f a b = 0 then g a b else f a b) < 0 ∨ (if f b c = 0 then g b c else f b c) < 0 → (if f a c = 0 then g a c else f a c) < 0)
    have h1 := hf.trans a b c ha hb hc
    have h2 := hg.trans a b c ha hb hc
    have h3 := hf.trans c b a hc hb ha
    have s1 := hf.sym a b ha hb
    have s2 := hf.sym b c hb hc
    have s3 := hf.sym a c ha hc
    by_cases e1 : f a b = 0 <;> by_cases e2 : f b c = 0 <;> by_cases e3 : f a c = 0 <;> simp only [e1, e2, e3, if_true, if_false] <;> intro p q
    all_goals first | exact h2 p q | (constructor <;> (try intro r) <;> omega)
/-- The other way round: what is not older than something not older is not older. -/
theorem up (h : Ord3 P f) (a b c : α) (ha : P a) (hb : P b) (hc : P c) (h1 : 0 ≤ f a b) (h2 : 0 ≤ f b c) : 0 ≤ f a c := by
  have := (h.trans c b a hc hb ha (by rw [h.sym b c hb hc]; omega) (by rw [h.sym a b ha hb]; omega)).1
  rw [h.sym a c ha hc] at this
  omega
end Ord3
/-- Two sequences held against each other: c tells how they stand at the first place at which they differ. -/
def LexF (u v : Nat → Int) (c : Int) : Prop :=
  (c = 0 ∧ ∀ n, u n = v n) ∨ (c = -1 ∧ ∃ n, (∀ m, m < n → u m = v m) ∧ u n < v n) ∨ (c = 1 ∧ ∃ n, (∀ m, m < n → u m = v m) ∧ v n < u n)
theorem LexF.turn {u v : Nat → Int} {c d : Int} (h : LexF u v c) (k : LexF v u d) : d = -c := by
  rcases h with ⟨rfl, h⟩ | ⟨rfl, n, h, hn⟩ | ⟨rfl, n, h, hn⟩ <;> rcases k with ⟨rfl, k⟩ | ⟨rfl, m, k, hm⟩ | ⟨rfl, m, k, hm⟩
  · rfl
  · have := h m; omega
  · have := h m; omega
  · have := k n; omega
  · rcases Nat.lt_trichotomy n m with e | e | e
    · have := k n e; omega
    · subst e; omega
    · have := h m e; omega
  · rfl
  · have := k n; omega
  · rfl
  · rcases Nat.lt_trichotomy n m with e | e | e
    · have := k n e; omega
    · subst e; omega
    · have := h m e; omega
theorem LexF.trans {u v x : Nat → Int} {c d e : Int} (h : LexF u v c) (k : LexF v x d) (l : LexF u x e) (hc : c ≤ 0) (hd : d ≤ 0) : e ≤ 0 ∧ (c < 0 ∨ d < 0 → e < 0) := by
  have key : ∀ n, (∀ m, m < n → u m = x m) → u n < x n → e = -1 := fun n hn hlt => by
    rcases l with ⟨rfl, l⟩ | ⟨rfl, m, l, hm⟩ | ⟨rfl, m, l, hm⟩
    · have := l n; omega
    · rfl
    · rcases Nat.lt_trichotomy n m with e | e | e
      · have := l n e; omega
      · subst e; omega
      · have := hn m e; omega
  rcases h with ⟨rfl, h⟩ | ⟨rfl, n, h, hn⟩ | ⟨rfl, n, h, hn⟩ <;> rcases k with ⟨rfl, k⟩ | ⟨rfl, m, k, hm⟩ | ⟨rfl, m, k, hm⟩ <;> (try omega)
  · have : e = 0 := by
      rcases l with ⟨rfl, l⟩ | ⟨rfl, m, l, hm⟩ | ⟨rfl, m, l, hm⟩
      · rfl
      · have := h m; have := k m; omega
      · have := h m; have := k m; omega
    omega
  · have := key m (fun i hi => by rw [h i, k i hi]) (by rw [h m]; exact hm)
    omega
  · have := key n (fun i hi => by rw [h i hi, k i]) (by rw [← k n]; exact hn)
    omega
  · rcases Nat.lt_trichotomy n m with e1 | e1 | e1
    · have := key n (fun i hi => by rw [h i hi, k i (by omega)]) (by rw [← k n e1]; exact hn); omega
    · subst e1; have := key n (fun i hi => by rw [h i hi, k i hi]) (by omega); omega
    · have := key m (fun i hi => by rw [h i (by omega), k i hi]) (by rw [h m e1]; exact hm); omega
theorem Ord3.of_lex {α : Type} {P : α → Prop} {f : α → α → Int} (key : α → Nat → Int) (h : ∀ a b, P a → P b → LexF (key a) (key b) (f a b)) : Ord3 P f :=
  ⟨fun a b ha hb => by rcases h a b ha hb with ⟨h, _⟩ | ⟨h, _⟩ | ⟨h, _⟩ <;> omega, fun a b ha hb => (h a b ha hb).turn (h b a hb ha), fun a b c ha hb hc => (h a b ha hb).trans (h b c hb hc) (h a c ha hc)⟩
/-- A list with noughts behind it. -/
def padF (l : List Int) : Nat → Int := fun n => l.getD n 0
theorem LexF.cons {u v : List Int} {c x : Int} (h : LexF (padF u) (padF v) c) : LexF (padF (x :: u)) (padF (x :: v)) c := by
  have sh : ∀ n, (∀ m, m < n → padF u m = padF v m) → ∀ m, m < n + 1 → padF (x :: u) m = padF (x :: v) m := fun n hn m hm => by
    cases m with
    | zero => rfl
    | succ m => exact hn m (by omega)
  rcases h with ⟨rfl, h⟩ | ⟨rfl, n, h, hn⟩ | ⟨rfl, n, h, hn⟩
  · exact .inl ⟨rfl, fun n => by cases n with | zero => rfl | succ n => exact h n⟩
  · exact .inr (.inl ⟨rfl, n + 1, sh n h, hn⟩)
  · exact .inr (.inr ⟨rfl, n + 1, sh n h, hn⟩)
theorem LexF.lt {u v : List Int} {x y : Int} (h : x < y) : LexF (padF (x :: u)) (padF (y :: v)) (-1) := .inr (.inl ⟨rfl, 0, (fun m hm => by omega), h⟩)
theorem LexF.gt {u v : List Int} {x y : Int} (h : y < x) : LexF (padF (x :: u)) (padF (y :: v)) 1 := .inr (.inr ⟨rfl, 0, (fun m hm => by omega), h⟩)
theorem LexF.same (u : Nat → Int) : LexF u u 0 := .inl ⟨rfl, fun _ => rfl⟩
theorem padF_nil : padF [] = padF [0] := by
  funext n
  cases n <;> simp [padF]
theorem padF_nil2 : padF [] = padF [0, 0] := by
  funext n
  match n with
  | 0 => rfl
  | 1 => rfl
  | n + 2 => simp [padF]
theorem LexF.app {u v : List Int} {c : Int} (x : List Int) (h : LexF (padF u) (padF v) c) : LexF (padF (x ++ u)) (padF (x ++ v)) c := by
  induction x with
  | nil => exact h
  | cons a x ih => exact ih.cons
/-- Two lists held against each other, thing by thing, then by how long they are. -/
def listC {α : Type} (f : α → α → Int) : List α → List α → Int
  | [], [] => 0
  | [], _ :: _ => -1
  | _ :: _, [] => 1
  | a :: u, b :: v => if f a b = 0 then listC f u v else f a b
theorem Ord3.list {α : Type} {P : α → Prop} {f : α → α → Int} (h : Ord3 P f) : Ord3 (fun l : List α => ∀ x ∈ l, P x) (listC f) := by
  refine ⟨?_, ?_, ?_⟩
  · intro a
    induction a with
    | nil => intro b _ _; cases b <;> simp [listC]
    | cons x a ih =>
      intro b ha hb
      cases b with
      | nil => simp [listC]
      | cons y b =>
        have := h.val x y (ha x (by simp)) (hb y (by simp))
        simp only [listC]
        split
        · exact ih b (fun z hz => ha z (by simp [hz])) (fun z hz => hb z (by simp [hz]))
        · exact this
  · intro a
    induction a with
    | nil => intro b _ _; cases b <;> simp [listC]
    | cons x a ih =>
      intro b ha hb
      cases b with
      | nil => simp [listC]
      | cons y b =>
        have := h.sym x y (ha x (by simp)) (hb y (by simp))
        simp only [listC]
        by_cases h0 : f x y = 0
        · rw [if_pos h0, if_pos (by omega)]
          exact ih b (fun z hz => ha z (by simp [hz])) (fun z hz => hb z (by simp [hz]))
        · rw [if_neg h0, if_neg (by omega)]
          exact this
  · intro a
    induction a with
    | nil => intro b c _ _ _; cases b <;> cases c <;> simp [listC]
    | cons x a ih =>
      intro b c ha hb hc
      cases b with
      | nil => simp [listC]
      | cons y b =>
        cases c with
        | nil => simp [listC]
        | cons z c =>
          have px := ha x (by simp)
          have py := hb y (by simp)
          have pz := hc z (by simp)
          have h1 := h.trans x y z px py pz
          have h2 := h.trans z y x pz py px
          have s1 := h.sym x y px py
          have s2 := h.sym y z py pz
          have s3 := h.sym x z px pz
          have i := ih b c (fun z hz => ha z (by simp [hz])) (fun z hz => hb z (by simp [hz])) (fun z hz => hc z (by simp [hz]))
          simp only [listC]
          by_cases e1 : f x y = 0 <;> by_cases e2 : f y z = 0 <;> by_cases e3 : f x z = 0 <;> simp only [e1, e2, e3, if_true, if_false] <;> intro p q
          all_goals first | exact i p q | (constructor <;> (try intro r) <;> omega)
end Go.Proofs.YtpheifdpjcppdaaGreatDoor
namespace Go.Proofs.YtpheifdpjcppdaaGreatDoor
def cmpI (a b : Int) : Int := if a < b then -1 else if b < a then 1 else 0
theorem cmpI_same (a : Int) : cmpI a a = 0 := by simp [cmpI]
theorem cmpI_zero {a b : Int} (h : cmpI a b = 0) : a = b := by
  unfold cmpI at h
  split at h <;> (try split at h) <;> omega
/-- Two texts, byte by byte. -/
def cmpB : List UInt8 → List UInt8 → Int
  | [], [] => 0
  | [], _ :: _ => -1
  | _ :: _, [] => 1
  | a :: u, b :: v => if a = b then cmpB u v else if a.toNat < b.toNat then -1 else 1
def cut0 (l : List UInt8) : List UInt8 := l.dropWhile (fun c => decide (c = 48))
/-- Two numbers. -/
def cmpN (a b : List UInt8) : Int := if cmpI (cut0 a).length (cut0 b).length = 0 then cmpB (cut0 a) (cut0 b) else cmpI (cut0 a).length (cut0 b).length
def codes (l : List UInt8) : List Int := l.map (fun c => (c.toNat : Int))
theorem LexF.cmpI {u v : List Int} {c x y : Int} (h : x = y → LexF (padF u) (padF v) c) : LexF (padF (x :: u)) (padF (y :: v)) (if cmpI x y = 0 then c else cmpI x y) := by
  unfold YtpheifdpjcppdaaGreatDoor.cmpI
  by_cases h1 : x < y
  · simp only [h1, if_true]
    exact LexF.lt h1
  · by_cases h2 : y < x
    · simp only [h1, h2, if_true, if_false]
      exact LexF.gt h2
    · obtain rfl : x = y := by omega
      simp only [h1, if_false, if_true]
      exact (h rfl).cons
/-- Texts of one length, and what is behind them. -/
theorem LexF.bytes (a b : List UInt8) (hl : a.length = b.length) {u v : List Int} {c : Int} (h : LexF (padF u) (padF v) c) :
    LexF (padF (codes a ++ u)) (padF (codes b ++ v)) (if cmpB a b = 0 then c else cmpB a b) := by
  induction a generalizing b with
  | nil =>
    cases b with
    | nil => simpa [cmpB, codes] using h
    | cons => simp at hl
  | cons x a ih =>
    cases b with
    | nil => simp at hl
    | cons y b =>
      by_cases e : x = y
      · subst e
        have := ih b (by simpa using hl)
        simp only [cmpB, if_true]
        exact this.cons
      · have hne : x.toNat ≠ y.toNat := fun h => e (UInt8.toNat_inj.1 h)
        simp only [cmpB, if_neg e]
        by_cases h1 : x.toNat < y.toNat
        · simp only [h1, if_true]
          exact LexF.lt (Int.ofNat_lt.2 h1)
        · simp only [h1, if_false]
          exact LexF.gt (Int.ofNat_lt.2 (by omega))
/-- Texts of any length with a nought behind them, of bytes that are none. -/
theorem LexF.text (a b : List UInt8) (ha : ∀ x ∈ a, 0 < x.toNat) (hb : ∀ x ∈ b, 0 < x.toNat) {u v : List Int} {c : Int} (h : a = b → LexF (padF u) (padF v) c) :
    LexF (padF (codes a ++ (0 :: u))) (padF (codes b ++ (0 :: v))) (if cmpB a b = 0 then c else cmpB a b) := by
  induction a generalizing b with
  | nil =>
    cases b with
    | nil => simpa [cmpB, codes] using (h rfl).cons
    | cons y b => exact LexF.lt (Int.ofNat_lt.2 (hb y (by simp)))
  | cons x a ih =>
    cases b with
    | nil => exact LexF.gt (Int.ofNat_lt.2 (ha x (by simp)))
    | cons y b =>
      by_cases e : x = y
      · subst e
        have := ih b (fun z hz => ha z (by simp [hz])) (fun z hz => hb z (by simp [hz])) (fun e => h (by rw [e]))
        simp only [cmpB, if_true]
        exact this.cons
      · have hne : x.toNat ≠ y.toNat := fun h => e (UInt8.toNat_inj.1 h)
        simp only [cmpB, if_neg e]
        by_cases h1 : x.toNat < y.toNat
        · simp only [h1, if_true]
          exact LexF.lt (Int.ofNat_lt.2 h1)
        · simp only [h1, if_false]
          exact LexF.gt (Int.ofNat_lt.2 (by omega))
/-- A number as a key. -/
def keyN (l : List UInt8) : List Int := ((cut0 l).length : Int) :: codes (cut0 l)
theorem LexF.num (a b : List UInt8) {u v : List Int} {c : Int} (h : LexF (padF u) (padF v) c) :
    LexF (padF (keyN a ++ u)) (padF (keyN b ++ v)) (if cmpN a b = 0 then c else cmpN a b) := by
  have key := LexF.cmpI (u := codes (cut0 a) ++ u) (v := codes (cut0 b) ++ v) (x := ((cut0 a).length : Int)) (y := ((cut0 b).length : Int)) (c := if cmpB (cut0 a) (cut0 b) = 0 then c else cmpB (cut0 a) (cut0 b))
    (fun e => LexF.bytes _ _ (by omega) h)
  unfold cmpN
  by_cases h0 : YtpheifdpjcppdaaGreatDoor.cmpI ((cut0 a).length : Int) ((cut0 b).length : Int) = 0
  · simp only [h0, if_true] at key ⊢
    exact key
  · simp only [h0, if_false] at key ⊢
    exact key
theorem ord_num : Ord3 (fun _ => True) cmpN := Ord3.of_lex (fun a => padF (keyN a)) fun a b _ _ => by
  have := LexF.num a b (u := []) (v := []) (c := 0) (LexF.same _)
  simp only [List.append_nil] at this
  by_cases h : cmpN a b = 0
  · rw [if_pos h] at this; rw [h]; exact this
  · rw [if_neg h] at this; exact this
/-- Where a byte stands among others. -/
def ordC (c : UInt8) : Int := if isDig c = true then 0 else if c = 126 then -1 else if isLet c = true then c.toNat else 256 + c.toNat
def ordD (l : List UInt8) : Int := match l with
  | [] => 0
  | c :: _ => ordC c
theorem ordC_zero (c : UInt8) (h : ordC c = 0) : isDig c = true := by
  unfold ordC at h
  split at h
  · assumption
  · split at h
    · omega
    · split at h
      · rename_i h1 _ h2
        simp [isLet, isSmall, isBig] at h2
        omega
      · omega
def digs (l : List UInt8) : List UInt8 := l.takeWhile isDig
def past (p : UInt8 → Bool) (l : List UInt8) : List UInt8 := l.drop (l.takeWhile p).length
theorem past_len (p : UInt8 → Bool) (l : List UInt8) : (past p l).length ≤ l.length := by
  unfold past; rw [List.length_drop]; omega
theorem past_lt (p : UInt8 → Bool) (c : UInt8) (l : List UInt8) (h : p c = true) : (past p (c :: l)).length < (c :: l).length := by
  unfold past; rw [List.length_drop]; simp [List.takeWhile_cons, h]; omega
/-- Two versions proper of Dpkg. -/
def cmpD (a b : List UInt8) : Int :=
  if a = [] ∧ b = [] then 0
  else if h : ordD a ≠ 0 ∨ ordD b ≠ 0 then (if he : cmpI (ordD a) (ordD b) = 0 then cmpD a.tail b.tail else cmpI (ordD a) (ordD b))
  else if cmpN (digs a) (digs b) = 0 then cmpD (past isDig a) (past isDig b) else cmpN (digs a) (digs b)
termination_by a.length + b.length
decreasing_by
  · have e := cmpI_zero he
    cases a with
    | nil => cases b with
      | nil => simp [ordD] at h
      | cons => simp only [List.tail_cons, List.tail_nil, List.length_cons]; omega
    | cons => simp only [List.tail_cons, List.length_cons, List.length_tail]; omega
  · rename_i hn _
    have hz : ordD a = 0 ∧ ordD b = 0 := by constructor <;> (apply Classical.byContradiction; intro h'; exact h (by simp [h']))
    cases a with
    | nil =>
      cases b with
      | nil => simp at hn
      | cons c b =>
        have := past_lt isDig c b (ordC_zero c hz.2)
        have := past_len isDig ([] : List UInt8)
        omega
    | cons c a =>
      have := past_lt isDig c a (ordC_zero c hz.1)
      have := past_len isDig b
      omega
def keyD (l : List UInt8) : List Int :=
  match l with
  | [] => []
  | c :: t => if h : isDig c = true then 0 :: (keyN (digs (c :: t)) ++ keyD (past isDig (c :: t))) else ordC c :: keyD t
termination_by l.length
decreasing_by
  · exact past_lt isDig c t h
  · simp
theorem keyD_zero (l : List UInt8) (h : ordD l = 0) : padF (keyD l) = padF (0 :: (keyN (digs l) ++ keyD (past isDig l))) := by
  cases l with
  | nil =>
    have e : past isDig [] = [] := rfl
    rw [e, keyD]
    exact padF_nil2
  | cons c t =>
    rw [keyD, dif_pos (ordC_zero c h)]
theorem lexD : ∀ (n : Nat) (a b : List UInt8), a.length + b.length ≤ n → LexF (padF (keyD a)) (padF (keyD b)) (cmpD a b) := by
  intro n
  induction n with
  | zero =>
    intro a b h
    have ha : a = [] := List.eq_nil_of_length_eq_zero (by omega)
    have hb : b = [] := List.eq_nil_of_length_eq_zero (by omega)
    subst ha hb
    rw [cmpD]
    exact LexF.same _
  | succ n ih =>
    intro a b hl
    rw [cmpD]
    by_cases h0 : a = [] ∧ b = []
    · rw [if_pos h0, h0.1, h0.2]
      exact LexF.same _
    · rw [if_neg h0]
      by_cases h : ordD a ≠ 0 ∨ ordD b ≠ 0
      · rw [dif_pos h]
        have key : ∀ l : List UInt8, ∃ r, padF (keyD l) = padF (ordD l :: r) ∧ (ordD l ≠ 0 → r = keyD l.tail) := by
          intro l
          cases l with
          | nil => exact ⟨[], by rw [keyD]; exact padF_nil, fun h => absurd rfl h⟩
          | cons c t =>
            by_cases hc : isDig c = true
            · refine ⟨_, by rw [keyD, dif_pos hc, show ordD (c :: t) = 0 by simp [ordD, ordC, hc]], fun h => absurd (by simp [ordD, ordC, hc]) h⟩
            · exact ⟨_, by rw [keyD, dif_neg hc]; rfl, fun _ => rfl⟩
        obtain ⟨u, hu, hu2⟩ := key a
        obtain ⟨v, hv, hv2⟩ := key b
        rw [hu, hv]
        by_cases he : YtpheifdpjcppdaaGreatDoor.cmpI (ordD a) (ordD b) = 0
        · have e := cmpI_zero he
          have ha0 : ordD a ≠ 0 := by omega
          have hb0 : ordD b ≠ 0 := by omega
          rw [dif_pos he, hu2 ha0, hv2 hb0, e]
          refine LexF.cons (ih _ _ ?_)
          cases a with
          | nil => exact absurd rfl ha0
          | cons => simp only [List.length_cons, List.tail_cons, List.length_tail] at hl ⊢; omega
        · rw [dif_neg he]
          have := LexF.cmpI (u := u) (v := v) (c := 0) (x := ordD a) (y := ordD b) (fun e => absurd (by rw [e]; exact cmpI_same _) he)
          rw [if_neg he] at this
          exact this
      · rw [dif_neg h]
        have hz : ordD a = 0 ∧ ordD b = 0 := by constructor <;> (apply Classical.byContradiction; intro h'; exact h (by simp [h']))
        rw [keyD_zero a hz.1, keyD_zero b hz.2]
        refine LexF.cons (LexF.num _ _ (ih _ _ ?_))
        cases a with
        | nil =>
          cases b with
          | nil => simp at h0
          | cons c b =>
            have := past_lt isDig c b (ordC_zero c hz.2)
            have := past_len isDig ([] : List UInt8)
            omega
        | cons c a =>
          have := past_lt isDig c a (ordC_zero c hz.1)
          have := past_len isDig b
          omega
theorem ord_dpkg : Ord3 (fun _ => True) cmpD := Ord3.of_lex (fun a => padF (keyD a)) fun a b _ _ => lexD _ a b (Nat.le_refl _)
/-- What says something in a version of Rpm. -/
def idleC (c : UInt8) : Bool := !isLet c && !isDig c && !decide (c = 126) && !decide (c = 94)
def skipR (l : List UInt8) : List UInt8 := past idleC l
theorem skipR_len (l : List UInt8) : (skipR l).length ≤ l.length := past_len _ l
theorem past_head (p : UInt8 → Bool) (l : List UInt8) (c : UInt8) (t : List UInt8) (h : past p l = c :: t) : p c = false := by
  induction l with
  | nil => simp [past] at h
  | cons x l ih =>
    unfold past at h
    cases hx : p x with
    | true =>
      rw [List.takeWhile_cons, if_pos hx] at h
      exact ih h
    | false =>
      rw [List.takeWhile_cons, if_neg (by rw [hx]; simp)] at h
      simp at h
      rw [← h.1]; exact hx
def clsC (c : UInt8) : Int := if c = 126 then -1 else if c = 94 then 1 else if isLet c = true then 2 else 3
def cls (l : List UInt8) : Int := match l with
  | [] => 0
  | c :: _ => clsC c
theorem cls_dig (l : List UInt8) (c : UInt8) (t : List UInt8) (h : skipR l = c :: t) (h3 : clsC c = 3) : isDig c = true := by
  have := past_head _ l c t h
  unfold clsC at h3
  simp only [idleC, Bool.and_eq_false_iff, Bool.not_eq_false', decide_eq_true_eq] at this
  split at h3
  · omega
  · split at h3
    · omega
    · split at h3
      · omega
      · rename_i h1 h2 h4
        rcases this with ((h | h) | h) | h
        · exact absurd h h4
        · exact h
        · exact absurd h h1
        · exact absurd h h2
def lets (l : List UInt8) : List UInt8 := l.takeWhile isLet
theorem cls_cases (l : List UInt8) : cls l = -1 ∨ cls l = 0 ∨ cls l = 1 ∨ cls l = 2 ∨ cls l = 3 := by
  cases l with
  | nil => simp [cls]
  | cons c t =>
    simp only [cls, clsC]
    split
    · simp
    · split
      · simp
      · split <;> simp
theorem clsC_let (c : UInt8) (h : clsC c = 2) : isLet c = true := by
  unfold clsC at h
  split at h
  · omega
  · split at h
    · omega
    · split at h
      · assumption
      · omega
theorem pastR_lt (l : List UInt8) (h : cls (skipR l) = 3) : (past isDig (skipR l)).length < l.length := by
  have h1 := skipR_len l
  cases hs : skipR l with
  | nil => rw [hs] at h; simp [cls] at h
  | cons c t =>
    rw [hs] at h h1
    have := past_lt isDig c t (cls_dig l c t hs h)
    omega
theorem pastL_lt (l : List UInt8) (h : cls (skipR l) = 2) : (past isLet (skipR l)).length < l.length := by
  have h1 := skipR_len l
  cases hs : skipR l with
  | nil => rw [hs] at h; simp [cls] at h
  | cons c t =>
    rw [hs] at h h1
    have := past_lt isLet c t (clsC_let c h)
    omega
theorem pastT_lt (l : List UInt8) (h : cls (skipR l) ≠ 0) : (skipR l).tail.length < l.length := by
  have h1 := skipR_len l
  cases hs : skipR l with
  | nil => rw [hs] at h; simp [cls] at h
  | cons c t =>
    rw [hs] at h1
    simp at h1 ⊢
    omega
/-- Two versions proper of Rpm. -/
def cmpR (x y : List UInt8) : Int :=
  if he : cmpI (cls (skipR x)) (cls (skipR y)) = 0 then
    (if h0 : cls (skipR x) = 0 then 0
    else if h2 : cls (skipR x) = 2 then (if cmpB (lets (skipR x)) (lets (skipR y)) = 0 then cmpR (past isLet (skipR x)) (past isLet (skipR y)) else cmpB (lets (skipR x)) (lets (skipR y)))
    else if h3 : cls (skipR x) = 3 then (if cmpN (digs (skipR x)) (digs (skipR y)) = 0 then cmpR (past isDig (skipR x)) (past isDig (skipR y)) else cmpN (digs (skipR x)) (digs (skipR y)))
    else cmpR (skipR x).tail (skipR y).tail)
  else cmpI (cls (skipR x)) (cls (skipR y))
termination_by x.length + y.length
decreasing_by
  · have e := cmpI_zero he
    have := pastL_lt x h2
    have := pastL_lt y (by omega)
    omega
  · have e := cmpI_zero he
    have := pastR_lt x h3
    have := pastR_lt y (by omega)
    omega
  · have e := cmpI_zero he
    have := pastT_lt x h0
    have := pastT_lt y (by omega)
    omega
def keyR (l : List UInt8) : List Int :=
  if h0 : cls (skipR l) = 0 then []
  else if h2 : cls (skipR l) = 2 then 2 :: (codes (lets (skipR l)) ++ (0 :: keyR (past isLet (skipR l))))
  else if h3 : cls (skipR l) = 3 then 3 :: (keyN (digs (skipR l)) ++ keyR (past isDig (skipR l)))
  else cls (skipR l) :: keyR (skipR l).tail
termination_by l.length
decreasing_by
  · exact pastL_lt l h2
  · exact pastR_lt l h3
  · exact pastT_lt l h0
theorem lets_pos (l : List UInt8) : ∀ x ∈ lets l, 0 < x.toNat := by
  intro x hx
  have := List.all_eq_true.1 (List.all_takeWhile (p := isLet) (l := l)) x hx
  simp [isLet, isSmall, isBig] at this
  omega
theorem keyR0 (l : List UInt8) (h : cls (skipR l) = 0) : keyR l = [] := by rw [keyR, dif_pos h]
theorem keyR2 (l : List UInt8) (h : cls (skipR l) = 2) : keyR l = 2 :: (codes (lets (skipR l)) ++ (0 :: keyR (past isLet (skipR l)))) := by rw [keyR, dif_neg (by omega), dif_pos h]
theorem keyR3 (l : List UInt8) (h : cls (skipR l) = 3) : keyR l = 3 :: (keyN (digs (skipR l)) ++ keyR (past isDig (skipR l))) := by rw [keyR, dif_neg (by omega), dif_neg (by omega), dif_pos h]
theorem keyR1 (l : List UInt8) (h0 : cls (skipR l) ≠ 0) (h2 : cls (skipR l) ≠ 2) (h3 : cls (skipR l) ≠ 3) : keyR l = cls (skipR l) :: keyR (skipR l).tail := by rw [keyR, dif_neg h0, dif_neg h2, dif_neg h3]
theorem keyR_head (l : List UInt8) : ∃ r, padF (keyR l) = padF (cls (skipR l) :: r) := by
  rw [keyR]
  by_cases h0 : cls (skipR l) = 0
  · exact ⟨[], by rw [dif_pos h0, h0]; exact padF_nil⟩
  · rw [dif_neg h0]
    by_cases h2 : cls (skipR l) = 2
    · exact ⟨_, by rw [dif_pos h2, h2]⟩
    · rw [dif_neg h2]
      by_cases h3 : cls (skipR l) = 3
      · exact ⟨_, by rw [dif_pos h3, h3]⟩
      · exact ⟨_, by rw [dif_neg h3]⟩
theorem lexR : ∀ (n : Nat) (a b : List UInt8), a.length + b.length ≤ n → LexF (padF (keyR a)) (padF (keyR b)) (cmpR a b) := by
  intro n
  induction n using Nat.strongRecOn with
  | ind n ih =>
    intro a b hl
    rw [cmpR]
    by_cases he : YtpheifdpjcppdaaGreatDoor.cmpI (cls (skipR a)) (cls (skipR b)) = 0
    · rw [dif_pos he]
      have e := cmpI_zero he
      by_cases h0 : cls (skipR a) = 0
      · rw [dif_pos h0, keyR0 a h0, keyR0 b (by omega)]
        exact LexF.same _
      · rw [dif_neg h0]
        by_cases h2 : cls (skipR a) = 2
        · rw [dif_pos h2, keyR2 a h2, keyR2 b (by omega)]
          have p1 := pastL_lt a h2
          have p2 := pastL_lt b (by omega)
          exact LexF.cons (LexF.text _ _ (lets_pos _) (lets_pos _) (fun _ => ih ((past isLet (skipR a)).length + (past isLet (skipR b)).length) (by omega) _ _ (Nat.le_refl _)))
        · rw [dif_neg h2]
          by_cases h3 : cls (skipR a) = 3
          · rw [dif_pos h3, keyR3 a h3, keyR3 b (by omega)]
            have p1 := pastR_lt a h3
            have p2 := pastR_lt b (by omega)
            exact LexF.cons (LexF.num _ _ (ih ((past isDig (skipR a)).length + (past isDig (skipR b)).length) (by omega) _ _ (Nat.le_refl _)))
          · rw [dif_neg h3, keyR1 a h0 h2 h3, keyR1 b (by omega) (by omega) (by omega), e]
            have p1 := pastT_lt a h0
            have p2 := pastT_lt b (by omega)
            exact LexF.cons (ih ((skipR a).tail.length + (skipR b).tail.length) (by omega) _ _ (Nat.le_refl _))
    · rw [dif_neg he]
      obtain ⟨u, hu⟩ := keyR_head a
      obtain ⟨v, hv⟩ := keyR_head b
      rw [hu, hv]
      have := LexF.cmpI (u := u) (v := v) (c := 0) (x := cls (skipR a)) (y := cls (skipR b)) (fun e => absurd (by rw [e]; exact cmpI_same _) he)
      rw [if_neg he] at this
      exact this
theorem ord_rpm : Ord3 (fun _ => True) cmpR := Ord3.of_lex (fun a => padF (keyR a)) fun a b _ _ => lexR _ a b (Nat.le_refl _)
end Go.Proofs.YtpheifdpjcppdaaGreatDoor
namespace Go.Proofs.YtpheifdpjcppdaaGreatDoor
/-- A piece: kind, text, word. -/
abbrev Pc := Int × List UInt8 × Int
/-- A nought ahead of another digit. -/
def noughtB : List UInt8 → Bool
  | c :: _ :: _ => decide (c.toNat = 48)
  | _ => false
/-- Two pieces. -/
def cmpP (p q : Pc) : Int :=
  if p.1 = q.1 then
    (if p.1 = 0 ∨ p.1 = 4 then cmpI p.2.2 q.2.2
    else if p.1 = 5 ∨ (p.1 = 6 ∧ (noughtB p.2.1 = true ∨ noughtB q.2.1 = true)) then cmpB p.2.1 q.2.1
    else cmpN p.2.1 q.2.1)
  else cmpI p.1 q.1
/-- A piece as versions have it. -/
def PcOk (p : Pc) : Prop := (p.1 = 5 → ∀ x ∈ p.2.1, 0 < x.toNat) ∧ (p.1 = 6 → p.2.1 ≠ [] ∧ ∀ x ∈ p.2.1, isDig x = true)
def key6 (t : List UInt8) : List Int := if t = [48] then [0] else if noughtB t = true then 1 :: (codes t ++ [0]) else 2 :: keyN t
def keyP (p : Pc) : List Int :=
  p.1 :: (if p.1 = 0 ∨ p.1 = 4 then [p.2.2] else if p.1 = 5 then codes p.2.1 ++ [0] else if p.1 = 6 then key6 p.2.1 else keyN p.2.1)
theorem dig_pos {t : List UInt8} (h : ∀ x ∈ t, isDig x = true) : ∀ x ∈ t, 0 < x.toNat := fun x hx => by
  have := h x hx
  simp [isDig] at this
  omega
theorem nought_form {t : List UInt8} (h : noughtB t = true) : ∃ d r, t = 48 :: d :: r := by
  match t, h with
  | c :: d :: r, h =>
    have hc : c = 48 := UInt8.toNat_inj.1 (by simpa [noughtB] using h)
    subst hc
    exact ⟨d, r, rfl⟩
theorem other_form {t : List UInt8} (h0 : t ≠ []) (hd : ∀ x ∈ t, isDig x = true) (h1 : t ≠ [48]) (h : ¬ noughtB t = true) : ∃ c r, t = c :: r ∧ 48 < c.toNat := by
  cases t with
  | nil => exact absurd rfl h0
  | cons c r =>
    refine ⟨c, r, rfl, ?_⟩
    have hc := hd c (by simp)
    simp [isDig] at hc
    have hne : c.toNat ≠ 48 := fun e => by
      have e2 : c = 48 := UInt8.toNat_inj.1 (by simpa using e)
      subst e2
      cases r with
      | nil => exact h1 rfl
      | cons d r => exact h (by simp [noughtB])
    omega
theorem cut0_other (c : UInt8) (r : List UInt8) (h : 48 < c.toNat) : cut0 (c :: r) = c :: r := by
  have : ¬ c = 48 := fun e => by subst e; exact absurd h (by decide)
  simp [cut0, List.dropWhile_cons, this]
theorem lex6 (s t : List UInt8) (hs : s ≠ []) (ht : t ≠ []) (ds : ∀ x ∈ s, isDig x = true) (dt : ∀ x ∈ t, isDig x = true) :
    LexF (padF (key6 s)) (padF (key6 t)) (if noughtB s = true ∨ noughtB t = true then cmpB s t else cmpN s t) := by
  have text := LexF.text s t (dig_pos ds) (dig_pos dt) (u := []) (v := []) (c := 0) (fun _ => LexF.same _)
  have text' : LexF (padF (codes s ++ [0])) (padF (codes t ++ [0])) (cmpB s t) := by
    by_cases h : cmpB s t = 0
    · rw [if_pos h] at text; rw [h]; exact text
    · rw [if_neg h] at text; exact text
  have num := LexF.num s t (u := []) (v := []) (c := 0) (LexF.same _)
  simp only [List.append_nil] at num
  have num' : LexF (padF (keyN s)) (padF (keyN t)) (cmpN s t) := by
    by_cases h : cmpN s t = 0
    · rw [if_pos h] at num; rw [h]; exact num
    · rw [if_neg h] at num; exact num
  have n48 : ¬ noughtB [48] = true := by decide
  unfold key6
  by_cases hs0 : s = [48]
  · subst hs0
    rw [if_pos rfl]
    by_cases ht0 : t = [48]
    · subst ht0
      rw [if_pos rfl]
      exact LexF.same _
    · rw [if_neg ht0]
      by_cases hn : noughtB t = true
      · obtain ⟨d, r, rfl⟩ := nought_form hn
        rw [if_pos hn, if_pos (show _ ∨ noughtB _ = true from .inr hn)]
        exact LexF.lt (by decide)
      · obtain ⟨c, r, rfl, hc⟩ := other_form ht dt ht0 hn
        rw [if_neg hn, if_neg (fun h => h.elim n48 hn)]
        have e : cmpN [48] (c :: r) = -1 := by
          simp only [cmpN, cut0_other c r hc]
          (try simp [cut0, cmpI]) <;> (try omega)
        rw [e]
        exact LexF.lt (by decide)
  · rw [if_neg hs0]
    by_cases hm : noughtB s = true
    · obtain ⟨d, r, rfl⟩ := nought_form hm
      rw [if_pos hm, if_pos (show noughtB (48 :: d :: r) = true ∨ noughtB t = true from .inl hm)]
      by_cases ht0 : t = [48]
      · subst ht0
        rw [if_pos rfl]
        exact LexF.gt (by decide)
      · rw [if_neg ht0]
        by_cases hn : noughtB t = true
        · rw [if_pos hn]
          exact text'.cons
        · obtain ⟨c, q, rfl, hc⟩ := other_form ht dt ht0 hn
          rw [if_neg hn]
          have e : cmpB (48 :: d :: r) (c :: q) = -1 := by
            have : ¬ (48 : UInt8) = c := fun e => by subst e; exact absurd hc (by decide)
            simp [cmpB, this, hc]
          rw [e]
          exact LexF.lt (by decide)
    · obtain ⟨c, q, rfl, hc⟩ := other_form hs ds hs0 hm
      rw [if_neg hm]
      by_cases ht0 : t = [48]
      · subst ht0
        rw [if_pos rfl, if_neg (fun h => h.elim hm n48)]
        have e : cmpN (c :: q) [48] = 1 := by
          simp only [cmpN, cut0_other c q hc]
          (try simp [cut0, cmpI]) <;> (try omega)
        rw [e]
        exact LexF.gt (by decide)
      · rw [if_neg ht0]
        by_cases hn : noughtB t = true
        · obtain ⟨d, r, rfl⟩ := nought_form hn
          rw [if_pos hn, if_pos (show _ ∨ noughtB _ = true from .inr hn)]
          have e : cmpB (c :: q) (48 :: d :: r) = 1 := by
            have h1 : ¬ c = (48 : UInt8) := fun e => by subst e; exact absurd hc (by decide)
            have h2 : ¬ c.toNat < 48 := by omega
            simp [cmpB, h1, h2]
          rw [e]
          exact LexF.gt (by decide)
        · rw [if_neg hn, if_neg (by simp [hm, hn])]
          exact num'.cons
theorem ord_piece : Ord3 PcOk cmpP := Ord3.of_lex (fun a => padF (keyP a)) fun p q hp hq => by
  obtain ⟨k, s, a⟩ := p
  obtain ⟨m, t, b⟩ := q
  show LexF (padF (keyP (k, s, a))) (padF (keyP (m, t, b))) (cmpP (k, s, a) (m, t, b))
  simp only [cmpP, keyP]
  by_cases hk : k = m
  · subst hk
    rw [if_pos rfl]
    refine LexF.cons ?_
    by_cases h04 : k = 0 ∨ k = 4
    · rw [if_pos h04, if_pos h04, if_pos h04]
      have := LexF.cmpI (u := []) (v := []) (c := 0) (x := a) (y := b) (fun _ => LexF.same _)
      by_cases h : YtpheifdpjcppdaaGreatDoor.cmpI a b = 0
      · rw [if_pos h] at this; rw [h]; exact this
      · rw [if_neg h] at this; exact this
    · rw [if_neg h04, if_neg h04, if_neg h04]
      by_cases h5 : k = 5
      · rw [if_pos h5, if_pos h5, if_pos (.inl h5)]
        have text := LexF.text s t (hp.1 h5) (hq.1 h5) (u := []) (v := []) (c := 0) (fun _ => LexF.same _)
        by_cases h : cmpB s t = 0
        · rw [if_pos h] at text; rw [h]; exact text
        · rw [if_neg h] at text; exact text
      · rw [if_neg h5, if_neg h5]
        by_cases h6 : k = 6
        · rw [if_pos h6, if_pos h6]
          have := lex6 s t (hp.2 h6).1 (hq.2 h6).1 (hp.2 h6).2 (hq.2 h6).2
          have e : (k = 5 ∨ (k = 6 ∧ (noughtB s = true ∨ noughtB t = true))) = (noughtB s = true ∨ noughtB t = true) := by simp [h6]
          simp only [e]
          exact this
        · rw [if_neg h6, if_neg h6, if_neg (by simp [h5, h6])]
          have num := LexF.num s t (u := []) (v := []) (c := 0) (LexF.same _)
          simp only [List.append_nil] at num
          by_cases h : cmpN s t = 0
          · rw [if_pos h] at num; rw [h]; exact num
          · rw [if_neg h] at num; exact num
  · rw [if_neg hk]
    have := LexF.cmpI (u := (if k = 0 ∨ k = 4 then [a] else if k = 5 then codes s ++ [0] else if k = 6 then key6 s else keyN s)) (v := (if m = 0 ∨ m = 4 then [b] else if m = 5 then codes t ++ [0] else if m = 6 then key6 t else keyN t)) (c := 0) (x := k) (y := m) (fun e => absurd e hk)
    rw [if_neg (fun e => hk (cmpI_zero e))] at this
    exact this
theorem ord_pieces : Ord3 (fun l : List Pc => ∀ x ∈ l, PcOk x) (listC cmpP) := ord_piece.list
end Go.Proofs.YtpheifdpjcppdaaGreatDoor
