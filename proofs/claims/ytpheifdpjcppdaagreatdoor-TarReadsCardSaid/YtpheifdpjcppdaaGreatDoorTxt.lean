/- Small words and facts on texts as values, over any program. -/
import Derived.Test.YtpheifdpjcppdaaGreatDoorBasM
import Derived.Test.YtpheifdpjcppdaaGreatDoorOrd
namespace Go.Proofs.YtpheifdpjcppdaaGreatDoor
open Go.RowKit
/-- The text of these bytes. -/
def bs (l : List UInt8) : ByteArray := ⟨l.toArray⟩
theorem bs_of (t : ByteArray) (l : List UInt8) (h : t.data.toList = l) : t = bs l := by
  subst h
  rfl
theorem bs_self (t : ByteArray) : t = bs t.data.toList := rfl
theorem bs_list (l : List UInt8) : (bs l).data.toList = l := rfl
theorem bs_size (l : List UInt8) : (bs l).size = l.length := by show l.toArray.size = _; simp
theorem ext_take (s : ByteArray) (k : Nat) (h : k ≤ s.size) : s.extract 0 k = bs (s.data.toList.take k) := bs_of _ _ (by simp [ByteArray.data_extract])
theorem ext_drop (s : ByteArray) (k : Nat) : s.extract k s.size = bs (s.data.toList.drop k) := bs_of _ _ (by simp [ByteArray.data_extract, List.take_of_length_le])
theorem toList_bs (l : List UInt8) : (bs l).toList = l := by simp [bs]
theorem Sl.text {X : Nat → Prop} {w : World} {A : Option Addr} {n cap : Nat} {l : List (List UInt8)} (h : Sl 1 Rtext X w (.slice A n cap) l) (hn : 0 < n) :
    n = l.length ∧ n ≤ cap ∧ cap ≤ maxLen ∧ ∃ b off, A = some ⟨b, off, none⟩ ∧ ∀ j (h : j < l.length), w.cell? ⟨b, off + j, none⟩ = some (.string (bs l[j])) := by
  obtain ⟨h1, h2, h3, h4⟩ := h.at
  obtain ⟨b, off, hA, _, hc⟩ := h4 hn
  refine ⟨h1, h2, h3, b, off, hA, fun j hj => ?_⟩
  obtain ⟨cs, hcs, hR⟩ := hc j hj
  have hR : cs = [.string (bs l[j])] := hR
  subst hR
  have := hcs 0 _ rfl
  simpa using this
theorem bs_app (a b : List UInt8) : bs a ++ bs b = bs (a ++ b) := bs_of _ _ (by simp [bs])
theorem beq_bs (a : List UInt8) : ((bs a).toList == (bs a).toList) = true := by simp
theorem toList_ne (s : ByteArray) (h : 0 < s.size) : ¬ s.toList = [] := by
  obtain ⟨⟨l⟩⟩ := s
  intro e
  have : l = [] := by simpa using e
  subst this
  exact absurd h (by decide)
theorem le_dec (c : UInt8) (n : Nat) : decide ((n : Int) ≤ (c.toNat : Int)) = decide (n ≤ c.toNat) := by simp
theorem ge_dec (c : UInt8) (n : Nat) : decide ((c.toNat : Int) ≤ (n : Int)) = decide (c.toNat ≤ n) := by simp
theorem between (c : UInt8) (a b : Nat) : (decide ((a : Int) ≤ (c.toNat : Int)) && decide ((c.toNat : Int) ≤ (b : Int))) = (decide (a ≤ c.toNat) && decide (c.toNat ≤ b)) := by rw [le_dec, ge_dec]
theorem enters {P : Program} {F : Nat} {fn : Func} (hf : P.funcs[F]? = some fn) (hn : (fn.name == "runtime.NumGoroutine") = false) (hb : fn.body.isNone = false) : ∀ (args : Array Value) (w : World), (callFunc F args).run P w = .ok (.enter F args) w := by
  intro args w
  have hn' : ¬ fn.name = "runtime.NumGoroutine" := by simpa using hn
  have hb' : ¬ fn.body = none := fun e => by rw [e] at hb; cases hb
  simp [callFunc, hf, hn', hb']
theorem tw_next (p : UInt8 → Bool) (l : List UInt8) (k : Nat) (hk : k < l.length) (h : k ≤ (l.takeWhile p).length) :
    (p l[k] = true → k + 1 ≤ (l.takeWhile p).length) ∧ (p l[k] = false → (l.takeWhile p).length = k) := by
  induction l generalizing k with
  | nil => simp at hk
  | cons c r ih =>
    cases k with
    | zero =>
      refine ⟨fun hp => ?_, fun hp => ?_⟩
      · have hp : p c = true := hp
        simp [List.takeWhile_cons, hp]
      · have hp : p c = false := hp
        simp [List.takeWhile_cons, hp]
    | succ k =>
      have hc : p c = true := by
        cases hc : p c with
        | true => rfl
        | false => simp [List.takeWhile_cons, hc] at h
      rw [List.takeWhile_cons, if_pos hc, List.length_cons] at h ⊢
      have := ih k (by simpa using hk) (by omega)
      refine ⟨fun hp => by have := this.1 hp; omega, fun hp => by have := this.2 hp; omega⟩
theorem tw_all (p : UInt8 → Bool) (l : List UInt8) : ((l.takeWhile p).length = l.length) ↔ l.all p = true := by
  induction l with
  | nil => simp
  | cons c r ih =>
    rw [List.takeWhile_cons]
    cases hc : p c with
    | true => simp [hc, ih]
    | false => simp [hc]
theorem empty_or (s : ByteArray) : s = ⟨#[]⟩ ∨ 0 < s.size := by
  rcases Nat.eq_zero_or_pos s.size with h0 | h0
  · left
    obtain ⟨a⟩ := s
    congr 1
    exact Array.eq_empty_of_size_eq_zero h0
  · exact .inr h0
theorem data_ne (s : ByteArray) (h : 0 < s.size) : s.data.toList.isEmpty = false := by
  obtain ⟨⟨l⟩⟩ := s
  cases l with
  | nil => exact absurd h (by decide)
  | cons => rfl
theorem tw_len (p : UInt8 → Bool) (l : List UInt8) : (l.takeWhile p).length ≤ l.length := (List.takeWhile_sublist p).length_le
/-- The blocks that were there. -/
def old (B : Nat) : Nat → Prop := fun k => k < B
theorem Below.sl {α : Type} {sz : Nat} {R : Rel α} {X : Nat → Prop} {w w' : World} {v : Value} {l : List α} (G : Good sz R) (hb : Below w.heap.size w w') (h : Sl sz R X w v l) : Sl sz R X w' v l := h.keep G (Kept.of_below hb X)
theorem past_drop (p : UInt8 → Bool) (l : List UInt8) : (bs l).extract (l.takeWhile p).length (bs l).size = bs (past p l) := by rw [ext_drop]; rfl
theorem take_tw (p : UInt8 → Bool) (l : List UInt8) : l.take (l.takeWhile p).length = l.takeWhile p := by
  induction l with
  | nil => rfl
  | cons c t ih =>
    rw [List.takeWhile_cons]
    split
    · simp [ih]
    · simp
theorem tw_ext (p : UInt8 → Bool) (l : List UInt8) : (bs l).extract 0 (l.takeWhile p).length = bs (l.takeWhile p) := by
  rw [ext_take _ _ (by rw [bs_size]; exact (List.takeWhile_sublist p).length_le), bs_list, take_tw]
end Go.Proofs.YtpheifdpjcppdaaGreatDoor
