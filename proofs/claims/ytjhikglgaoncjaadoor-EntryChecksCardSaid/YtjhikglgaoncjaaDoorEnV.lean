/- The program's and the document's Parent. -/
import Derived.Test.YtjhikglgaoncjaaDoorEnL
namespace Go.Proofs.YtjhikglgaoncjaaDoor
open Go.RowKit
theorem get_bang (s : ByteArray) (k : Nat) (h : k < s.size) : s.data[k]! = s[k] := by
  show s.data[k]! = s.data[k]
  exact getElem!_pos s.data k h
theorem split_app (b : UInt8) (t : List UInt8) : ∀ (a acc : List UInt8), splitP b (a ++ b :: t) acc = splitP b a acc ++ splitP b t []
  | [], acc => by rw [List.nil_append, splitP_cons, if_pos rfl]; rfl
  | c :: a, acc => by
    rw [List.cons_append, splitP_cons, splitP_cons]
    by_cases h : c = b
    · rw [if_pos h, if_pos h, split_app b t a []]; rfl
    · rw [if_neg h, if_neg h, split_app b t a (acc ++ [c])]
theorem split_no (b : UInt8) : ∀ (l acc : List UInt8), b ∉ l → splitP b l acc = [acc ++ l]
  | [], acc, _ => by simp [splitP]
  | c :: t, acc, h => by
    rw [splitP_cons, if_neg (fun e => h (by simp [e])), split_no b t _ (fun hm => h (by simp [hm]))]; simp
theorem split_ne (b : UInt8) : ∀ (l acc : List UInt8), 1 ≤ (splitP b l acc).length
  | [], acc => by simp [splitP]
  | c :: t, acc => by
    rw [splitP_cons]
    split
    · simp
    · exact split_ne b t _
def lastS (s : List UInt8) : Int := Lib.lastIndexByte (bs s) 47
theorem last_slash (s : List UInt8) : (lastS s = -1 ∧ partsB 47 s = [s]) ∨ ∃ a t P, s = a ++ 47 :: t ∧ lastS s = (a.length : Int) ∧ partsB 47 s = P ++ [t] ∧ 1 ≤ P.length := by
  rcases Lib.lastIndexByte_spec (bs s) 47 with ⟨h, hn⟩ | ⟨i, h1, h2, h3, h4⟩
  · refine .inl ⟨h, ?_⟩
    rw [partsB, split_no 47 s [] ?_]; · rfl
    intro hm
    obtain ⟨j, hj, he⟩ := List.getElem_of_mem hm
    have := hn j (by rw [bs_size]; exact hj)
    rw [get_bang _ j (by rw [bs_size]; exact hj)] at this
    exact this (by show (s[j].toNat : Int) = 47; rw [he]; rfl)
  · rw [bs_size] at h1
    have hi : s[i] = 47 := by
      rw [get_bang _ i (by rw [bs_size]; exact h1)] at h3
      have h3' : (s[i].toNat : Int) = 47 := h3
      exact UInt8.toNat_inj.1 (by show s[i].toNat = 47; omega)
    have hs : s = s.take i ++ 47 :: s.drop (i + 1) := by
      have := List.take_append_drop i s
      rw [List.drop_eq_getElem_cons h1, hi] at this
      exact this.symm
    have hno : (47 : UInt8) ∉ s.drop (i + 1) := by
      intro hm
      obtain ⟨j, hj, he⟩ := List.getElem_of_mem hm
      rw [List.length_drop] at hj
      have := h4 (i + 1 + j) (by omega) (by rw [bs_size]; omega)
      rw [get_bang _ _ (by rw [bs_size]; omega)] at this
      have e2 : (bs s)[i + 1 + j]'(by rw [bs_size]; omega) = 47 := by
        rw [List.getElem_drop] at he
        exact he
      exact this (by rw [e2]; rfl)
    refine .inr ⟨s.take i, s.drop (i + 1), splitP 47 (s.take i) [], hs, ?_, ?_, split_ne _ _ _⟩
    · show Lib.lastIndexByte (bs s) 47 = _
      rw [h2, List.length_take, Nat.min_eq_left (by omega)]
    · have := split_app 47 (s.drop (i + 1)) (s.take i) []
      rw [← hs, split_no 47 _ [] hno] at this
      exact this
/-- What holds a path. -/
def parL (s : List UInt8) : List UInt8 × Bool := if 0 ≤ lastS s ∧ pathOk s = true then (s.take (lastS s).toNat, true) else ([], false)
set_option maxRecDepth 20000 in
set_option maxHeartbeats 4000000 in
theorem pparent_any (s : List UInt8) (w : World) (hs : s.length ≤ 1000000000) :
    Calls Tryd.prog 19 #[.string (bs s)] w fun e w' => e = .returned (.tuple #[.string (bs (parL s).1), .bool (parL s).2]) ∧ Below w.heap.size w w' := by
  have hlb := Tryd.strings_LastIndexByte (bs s) 47 (by rw [bs_size]; omega) w
  have hz : ((bs s).size : Int) = (s.length : Int) := by rw [bs_size]
  have HP : Hid (parL s = if 0 ≤ lastS s ∧ pathOk s = true then (s.take (lastS s).toNat, true) else ([], false)) := Lib.hid rfl
  have hcase : lastS s = -1 ∨ ∃ k : Nat, lastS s = k ∧ k ≤ s.length := by
    rcases last_slash s with ⟨h, _⟩ | ⟨a, t, P, h, h2, _⟩
    · exact .inl h
    · exact .inr ⟨a.length, h2, by rw [h]; simp⟩
  rw [show Lib.lastIndexByte (bs s) 47 = lastS s from rfl] at hlb
  generalize lastS s = z at hlb HP hcase
  generalize parL s = res at HP
  rcases hcase with rfl | ⟨k, rfl, hk⟩
  · have HV : Hid (res = ([], false)) := Lib.hid (by rw [HP.out, if_neg (by simp)])
    clear HP
    go_enter Tryd.func19, Tryd.ntmps19
    go_wp2_with fail
    refine hlb.mono ?_
    rintro e w1 ⟨rfl, rfl⟩
    go_wp2_with fail
    go_ret2
    rw [HV.out]
    exact ⟨rfl, Below.refl _ _⟩
  · have hd : decide ((k : Int) < 0) = false := decide_eq_false (by omega)
    have HP := Lib.hid (show res = if pathOk s = true then (s.take k, true) else ([], false) by rw [HP.out]; by_cases hh : pathOk s = true <;> simp [hh])
    go_enter Tryd.func19, Tryd.ntmps19
    go_wp2_with fail
    refine hlb.mono ?_
    rintro e w1 ⟨rfl, rfl⟩
    go_wp2_with fail
    refine (ppath_any s _ hs).mono ?_
    rintro e w2 ⟨rfl, hb⟩
    cases hp : pathOk s with
    | false =>
      have HV : Hid (res = ([], false)) := Lib.hid (by rw [HP.out, hp]; rfl)
      clear HP hp
      go_wp2_with fail
      go_ret2
      rw [HV.out]
      exact ⟨rfl, hb⟩
    | true =>
      have HV : Hid (res = (s.take k, true)) := Lib.hid (by rw [HP.out, hp]; rfl)
      have i3 : (k : Int) ≤ ((bs s).size : Int) := by omega
      have i1 : (0 : Int) ≤ (k : Int) := by omega
      have hext : (bs s).extract 0 k = bs (s.take k) := by rw [ext_take _ _ (by rw [bs_size]; omega), bs_list]
      clear HP hp
      go_wp2_with fail
      go_ret2
      rw [HV.out]
      exact ⟨rfl, hb⟩
set_option maxRecDepth 20000 in
set_option maxHeartbeats 4000000 in
theorem rparent_any (s : List UInt8) (w : World) (hs : s.length ≤ 1000000000) :
    Calls Tryd.prog 20 #[.string (bs s)] w fun e w' => e = .returned (.tuple #[.string (bs (parL s).1), .bool (parL s).2]) ∧ Below w.heap.size w w' := by
  have hz : ((bs s).size : Int) = (s.length : Int) := by rw [bs_size]
  have HP : Hid (parL s = if 0 ≤ lastS s ∧ pathOk s = true then (s.take (lastS s).toNat, true) else ([], false)) := Lib.hid rfl
  have hcase := Lib.hid (last_slash s)
  have hll := (partsB_len 47 s [] s.length (by simp)).1
  rw [show splitP 47 s [] = partsB 47 s from rfl] at hll
  generalize lastS s = z at HP hcase
  generalize parL s = res at HP
  go_enter Tryd.func20, Tryd.ntmps20
  go_wp2_with fail
  refine (rpath_any s _ hs).mono ?_
  rintro e w2 ⟨rfl, hb⟩
  cases hp : pathOk s with
  | false =>
    have HV : Hid (res = ([], false)) := Lib.hid (by rw [HP.out, hp]; exact if_neg (fun h => by cases h.2))
    clear HP hp hcase
    go_wp2_with fail
    go_ret2
    rw [HV.out]
    exact ⟨rfl, hb⟩
  | true =>
    have HP := Lib.hid (show res = if 0 ≤ z then (s.take z.toNat, true) else ([], false) by rw [HP.out, hp]; simp)
    go_wp2_with fail
    refine (parts_any s _ hs).mono ?_
    rintro e w3 ⟨⟨v, rfl, hsl⟩, hb3⟩
    obtain ⟨A, cap, rfl, _, _⟩ := hsl.form
    have q3 := below_trans hb hb3
    rcases hcase.out with ⟨rfl, h1⟩ | ⟨a, t, P, h1, rfl, h3, h4⟩
    · have HV : Hid (res = ([], false)) := Lib.hid (by rw [HP.out]; rfl)
      have hl1 : (partsB 47 s).length = 1 := by rw [h1]; rfl
      rw [hl1]
      clear HP hp hcase h1 hsl
      go_wp2_with fail
      go_ret2
      rw [HV.out]
      exact ⟨rfl, q3⟩
    · have HV : Hid (res = (a, true)) := Lib.hid (by rw [HP.out, if_pos (by omega), Int.toNat_natCast, h1]; simp)
      have hl2 : (partsB 47 s).length = P.length + 1 := by rw [h3]; simp
      obtain ⟨n, hn⟩ : ∃ n, P.length = n + 1 := ⟨P.length - 1, by omega⟩
      obtain ⟨_, _, _, b, off, rfl, hc⟩ := hsl.text (by omega)
      have c0 := hc (n + 1) (by omega)
      have e0 : (partsB 47 s)[n + 1]'(by omega) = t := by simp [h3, ← hn]
      rw [e0] at c0
      have hlen : s.length = a.length + 1 + t.length := by rw [h1]; simp; omega
      have hext : (bs s).extract 0 a.length = bs a := by rw [ext_take _ _ (by rw [bs_size]; omega), bs_list, h1]; simp
      have z2 : ((bs t).size : Int) = (t.length : Int) := by rw [bs_size]
      rw [hl2, hn] at *
      have d2 : decide (((n + 1 + 1 : Nat) : Int) < 2) = false := by simp; omega
      clear HP hp hcase h1 hsl hc h3 h4 e0 hl2
      have w1 : IntKind.i64.wrap (((n + 1 + 1 : Nat) : Int) - 1) = ((n + 1 : Nat) : Int) := by rw [i64_in _ (by omega) (by omega)]; omega
      have w2 : IntKind.i64.wrap ((s.length : Int) - t.length) = (s.length : Int) - t.length := i64_in _ (by omega) (by omega)
      have w3 : IntKind.i64.wrap ((s.length : Int) - t.length - 1) = (a.length : Int) := by rw [i64_in _ (by omega) (by omega)]; omega
      have i1 : (0 : Int) ≤ ((n + 1 : Nat) : Int) := by omega
      have i2 : ((n + 1 : Nat) : Int) < ((n + 1 + 1 : Nat) : Int) := by omega
      have i3 : (a.length : Int) ≤ ((bs s).size : Int) := by omega
      have i4 : (0 : Int) ≤ (a.length : Int) := by omega
      go_wp2_with fail
      go_ret2
      rw [HV.out]
      exact ⟨rfl, q3⟩
end Go.Proofs.YtjhikglgaoncjaaDoor
