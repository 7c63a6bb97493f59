/- Orders told by -1, 0 and 1, and sequences held against each other from their beginning. -/
import Derived.WalkKit
namespace Go.Proofs.YtdnncbhbajciaaaDoor
def isDig (c : UInt8) : Bool := decide (48 ≤ c.toNat) && decide (c.toNat ≤ 57)
def isSmall (c : UInt8) : Bool := decide (97 ≤ c.toNat) && decide (c.toNat ≤ 122)
def isBig (c : UInt8) : Bool := decide (65 ≤ c.toNat) && decide (c.toNat ≤ 90)
def isLet (c : UInt8) : Bool := isSmall c || isBig c
/-- f holds the things of a kind P against each other: one order. -/
structure Ord3 {α : Type} (P : α → Prop) (f : α → α → Int) : Prop where
  val : ∀ a b, P a → P b → f a b = -1 ∨ f a b = 0 ∨ f a b = 1
  sym : ∀ a b, P a → P b → f b a = - f a b
  trans : ∀ a b c, P a → P b → P c → f a b ≤ 0 → f b c ≤ 0 → f a c ≤ 0 ∧ (f a b < 0 ∨ f b c < 0 → f a c < 0)
namespace Ord3
variable {α β : Type} {P : α → Prop} {f g : α → α → Int}
theorem same (h : Ord3 P f) (a : α) (ha : P a) : f a a = 0 := by have := h.sym a a ha ha; omega
theorem pull {Q : β → Prop} {k : β → α} (h : Ord3 P f) (hk : ∀ b, Q b → P (k b)) : Ord3 Q (fun a b => f (k a) (k b)) :=
  ⟨fun a b ha hb => h.val _ _ (hk a ha) (hk b hb), fun a b ha hb => h.sym _ _ (hk a ha) (hk b hb), fun a b c ha hb hc => h.trans _ _ _ (hk a ha) (hk b hb) (hk c hc)⟩
theorem or (hf : Ord3 P f) (hg : Ord3 P g) : Ord3 P (fun a b => if f a b = 0 then g a b else f a b) := by
  refine ⟨fun a b ha hb => ?_, fun a b ha hb => ?_, fun a b c ha hb hc => ?_⟩
  · have := hf.val a b ha hb
    have := hg.val a b ha hb
    show (if f a b = 0 then g a b else f a b) = -1 ∨ (if f a b = 0 then g a b else f a b) = 0 ∨ (if f a b = 0 then g a b else f a b) = 1
    split <;> assumption
  · have h1 := hf.sym a b ha hb
    have h2 := hg.sym a b ha hb
    show (if f b a = 0 then g b a else f b a) = -(if f a b = 0 then g a b else f a b)
    by_cases h0 : f a b = 0
    · rw [if_pos h0, if_pos (by omega)]; exact h2
    · rw [if_neg h0, if_neg (by omega)]; exact h1
  · show (if f a b = 0 then g a b else f a b) ≤ 0 → (if f b c = 0 then g b c else f b c) ≤ 0 → (if f a c = 0 then g a c else f a c) ≤ 0 ∧ ((if f a b = 0 then g a b else f a b) < 0 ∨ (if f b c = 0 then g b c else f b c) < 0 → (if f a c = 0 then g a c else f a c) < 0)
    have h1 := hf.trans a b c ha hb hc
    have h2 := hg.trans a b c ha hb hc
    have h3 := hf.trans c b a hc hb ha
    have s1 := hf.sym a b ha hb
    have s2 := hf.sym b c hb hc
    have s3 := hf.sym a c ha hc
    by_cases e1 : f a b = 0 <;> by_cases e2 : f b c = 0 <;> by_cases e3 : f a c = 0 <;> simp only [e1, e2, e3, if_true, if_false] <;> intro p q
    all_goals first | exact h2 p q | (constructor <;> (try intro r) <;> omega)
/-- The other way round: what is not older than something not older is not older. -/
theorem up (h : Ord3 P f) (a b c : α) (ha : P a) (hb : P b) (hc : P c) (h1 : 0 ≤ f a b) (h2 : 0 ≤ f b c) : 0 ≤ f a c := by
  have := (h.trans c b a hc hb ha (by rw [h.sym b c hb hc]; omega) (by rw [h.sym a b ha hb]; omega)).1
  rw [h.sym a c ha hc] at this
  omega
end Ord3
/-- Two sequences held against each other: c tells how they stand at the first place at which they differ. -/
def LexF (u v : Nat → Int) (c : Int) : Prop :=
  (c = 0 ∧ ∀ n, u n = v n) ∨ (c = -1 ∧ ∃ n, (∀ m, m < n → u m = v m) ∧ u n < v n) ∨ (c = 1 ∧ ∃ n, (∀ m, m < n → u m = v m) ∧ v n < u n)
theorem LexF.turn {u v : Nat → Int} {c d : Int} (h : LexF u v c) (k : LexF v u d) : d = -c := by
  rcases h with ⟨rfl, h⟩ | ⟨rfl, n, h, hn⟩ | ⟨rfl, n, h, hn⟩ <;> rcases k with ⟨rfl, k⟩ | ⟨rfl, m, k, hm⟩ | ⟨rfl, m, k, hm⟩
  · rfl
  · have := h m; omega
  · have := h m; omega
  · have := k n; omega
  · rcases Nat.lt_trichotomy n m with e | e | e
    · have := k n e; omega
    · subst e; omega
    · have := h m e; omega
  · rfl
  · have := k n; omega
  · rfl
  · rcases Nat.lt_trichotomy n m with e | e | e
    · have := k n e; omega
    · subst e; omega
    · have := h m e; omega
theorem LexF.trans {u v x : Nat → Int} {c d e : Int} (h : LexF u v c) (k : LexF v x d) (l : LexF u x e) (hc : c ≤ 0) (hd : d ≤ 0) : e ≤ 0 ∧ (c < 0 ∨ d < 0 → e < 0) := by
  have key : ∀ n, (∀ m, m < n → u m = x m) → u n < x n → e = -1 := fun n hn hlt => by
    rcases l with ⟨rfl, l⟩ | ⟨rfl, m, l, hm⟩ | ⟨rfl, m, l, hm⟩
    · have := l n; omega
    · rfl
    · rcases Nat.lt_trichotomy n m with e | e | e
      · have := l n e; omega
      · subst e; omega
      · have := hn m e; omega
  rcases h with ⟨rfl, h⟩ | ⟨rfl, n, h, hn⟩ | ⟨rfl, n, h, hn⟩ <;> rcases k with ⟨rfl, k⟩ | ⟨rfl, m, k, hm⟩ | ⟨rfl, m, k, hm⟩ <;> (try omega)
  · have : e = 0 := by
      rcases l with ⟨rfl, l⟩ | ⟨rfl, m, l, hm⟩ | ⟨rfl, m, l, hm⟩
      · rfl
      · have := h m; have := k m; omega
      · have := h m; have := k m; omega
    omega
  · have := key m (fun i hi => by rw [h i, k i hi]) (by rw [h m]; exact hm)
    omega
  · have := key n (fun i hi => by rw [h i hi, k i]) (by rw [← k n]; exact hn)
    omega
  · rcases Nat.lt_trichotomy n m with e1 | e1 | e1
    · have := key n (fun i hi => by rw [h i hi, k i (by omega)]) (by rw [← k n e1]; exact hn); omega
    · subst e1; have := key n (fun i hi => by rw [h i hi, k i hi]) (by omega); omega
    · have := key m (fun i hi => by rw [h i (by omega), k i hi]) (by rw [h m e1]; exact hm); omega
theorem Ord3.of_lex {α : Type} {P : α → Prop} {f : α → α → Int} (key : α → Nat → Int) (h : ∀ a b, P a → P b → LexF (key a) (key b) (f a b)) : Ord3 P f :=
  ⟨fun a b ha hb => by rcases h a b ha hb with ⟨h, _⟩ | ⟨h, _⟩ | ⟨h, _⟩ <;> omega, fun a b ha hb => (h a b ha hb).turn (h b a hb ha), fun a b c ha hb hc => (h a b ha hb).trans (h b c hb hc) (h a c ha hc)⟩
/-- A list with noughts behind it. -/
def padF (l : List Int) : Nat → Int := fun n => l.getD n 0
theorem LexF.cons {u v : List Int} {c x : Int} (h : LexF (padF u) (padF v) c) : LexF (padF (x :: u)) (padF (x :: v)) c := by
  have sh : ∀ n, (∀ m, m < n → padF u m = padF v m) → ∀ m, m < n + 1 → padF (x :: u) m = padF (x :: v) m := fun n hn m hm => by
    cases m with
    | zero => rfl
    | succ m => exact hn m (by omega)
  rcases h with ⟨rfl, h⟩ | ⟨rfl, n, h, hn⟩ | ⟨rfl, n, h, hn⟩
  · exact .inl ⟨rfl, fun n => by cases n with | zero => rfl | succ n => exact h n⟩
  · exact .inr (.inl ⟨rfl, n + 1, sh n h, hn⟩)
  · exact .inr (.inr ⟨rfl, n + 1, sh n h, hn⟩)
theorem LexF.lt {u v : List Int} {x y : Int} (h : x < y) : LexF (padF (x :: u)) (padF (y :: v)) (-1) := .inr (.inl ⟨rfl, 0, (fun m hm => by omega), h⟩)
theorem LexF.gt {u v : List Int} {x y : Int} (h : y < x) : LexF (padF (x :: u)) (padF (y :: v)) 1 := .inr (.inr ⟨rfl, 0, (fun m hm => by omega), h⟩)
theorem LexF.same (u : Nat → Int) : LexF u u 0 := .inl ⟨rfl, fun _ => rfl⟩
theorem padF_nil : padF [] = padF [0] := by
  funext n
  cases n <;> simp [padF]
theorem padF_nil2 : padF [] = padF [0, 0] := by
  funext n
  match n with
  | 0 => rfl
  | 1 => rfl
  | n + 2 => simp [padF]
theorem LexF.app {u v : List Int} {c : Int} (x : List Int) (h : LexF (padF u) (padF v) c) : LexF (padF (x ++ u)) (padF (x ++ v)) c := by
  induction x with
  | nil => exact h
  | cons a x ih => exact ih.cons
/-- Two lists held against each other, thing by thing, then by how long they are. -/
def listC {α : Type} (f : α → α → Int) : List α → List α → Int
  | [], [] => 0
  | [], _ :: _ => -1
  | _ :: _, [] => 1
  | a :: u, b :: v => if f a b = 0 then listC f u v else f a b
theorem Ord3.list {α : Type} {P : α → Prop} {f : α → α → Int} (h : Ord3 P f) : Ord3 (fun l : List α => ∀ x ∈ l, P x) (listC f) := by
  refine ⟨?_, ?_, ?_⟩
  · intro a
    induction a with
    | nil => intro b _ _; cases b <;> simp [listC]
    | cons x a ih =>
      intro b ha hb
      cases b with
      | nil => simp [listC]
      | cons y b =>
        have := h.val x y (ha x (by simp)) (hb y (by simp))
        simp only [listC]
        split
        · exact ih b (fun z hz => ha z (by simp [hz])) (fun z hz => hb z (by simp [hz]))
        · exact this
  · intro a
    induction a with
    | nil => intro b _ _; cases b <;> simp [listC]
    | cons x a ih =>
      intro b ha hb
      cases b with
      | nil => simp [listC]
      | cons y b =>
        have := h.sym x y (ha x (by simp)) (hb y (by simp))
        simp only [listC]
        by_cases h0 : f x y = 0
        · rw [if_pos h0, if_pos (by omega)]
          exact ih b (fun z hz => ha z (by simp [hz])) (fun z hz => hb z (by simp [hz]))
        · rw [if_neg h0, if_neg (by omega)]
          exact this
  · intro a
    induction a with
    | nil => intro b c _ _ _; cases b <;> cases c <;> simp [listC]
    | cons x a ih =>
      intro b c ha hb hc
      cases b with
      | nil => simp [listC]
      | cons y b =>
        cases c with
        | nil => simp [listC]
        | cons z c =>
          have px := ha x (by simp)
          have py := hb y (by simp)
          have pz := hc z (by simp)
          have h1 := h.trans x y z px py pz
          have h2 := h.trans z y x pz py px
          have s1 := h.sym x y px py
          have s2 := h.sym y z py pz
          have s3 := h.sym x z px pz
          have i := ih b c (fun z hz => ha z (by simp [hz])) (fun z hz => hb z (by simp [hz])) (fun z hz => hc z (by simp [hz]))
          simp only [listC]
          by_cases e1 : f x y = 0 <;> by_cases e2 : f y z = 0 <;> by_cases e3 : f x z = 0 <;> simp only [e1, e2, e3, if_true, if_false] <;> intro p q
          all_goals first | exact i p q | (constructor <;> (try intro r) <;> omega)
end Go.Proofs.YtdnncbhbajciaaaDoor
