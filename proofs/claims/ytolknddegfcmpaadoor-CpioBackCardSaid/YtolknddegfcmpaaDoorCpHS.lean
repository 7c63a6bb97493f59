/- What codec's functions compute, in plain words. Eight hexadecimal digits: the walks of codec.Hex, Be, Hex8, Unhex8 and of the document's Find, Hex8, Unhex8. Printed by mk_cph.py. -/
import Derived.Lib.Bytealg
import Derived.Lib.IndexLaws
import Derived.Test.YtolknddegfcmpaaDoorMapU
import Derived.Test.YtolknddegfcmpaaDoorPlaF
import Derived.Test.YtolknddegfcmpaaDoorShelfV
namespace Go.Proofs.YtolknddegfcmpaaDoor
open Go
def hexs : List UInt8 := [48, 49, 50, 51, 52, 53, 54, 55, 56, 57, 97, 98, 99, 100, 101, 102]
def hexD (n : Nat) : UInt8 := hexs.getD n 0
def hexL : List UInt8 → List UInt8
  | [] => []
  | b :: r => hexD (b.toNat / 16) :: hexD (b.toNat % 16) :: hexL r
theorem hexD_get (n : Nat) (h : n < (⟨#[48, 49, 50, 51, 52, 53, 54, 55, 56, 57, 97, 98, 99, 100, 101, 102]⟩ : ByteArray).size) : (⟨#[48, 49, 50, 51, 52, 53, 54, 55, 56, 57, 97, 98, 99, 100, 101, 102]⟩ : ByteArray)[n] = hexD n := by
  have h' : n < 16 := h
  unfold hexD hexs
  obtain rfl | rfl | rfl | rfl | rfl | rfl | rfl | rfl | rfl | rfl | rfl | rfl | rfl | rfl | rfl | rfl : n = 0 ∨ n = 1 ∨ n = 2 ∨ n = 3 ∨ n = 4 ∨ n = 5 ∨ n = 6 ∨ n = 7 ∨ n = 8 ∨ n = 9 ∨ n = 10 ∨ n = 11 ∨ n = 12 ∨ n = 13 ∨ n = 14 ∨ n = 15 := by omega
  all_goals rfl
theorem hexL_append (a b : List UInt8) : hexL (a ++ b) = hexL a ++ hexL b := by
  induction a with
  | nil => rfl
  | cons x a ih => simp [hexL, ih]
theorem hexL_length (a : List UInt8) : (hexL a).length = 2 * a.length := by
  induction a with
  | nil => rfl
  | cons x a ih => simp [hexL, ih]; omega
theorem indexByte_lt (l : List UInt8) (c : UInt8) : Lib.indexByte l c < l.length := by
  induction l with
  | nil => simp [Lib.indexByte]
  | cons b r ih =>
    simp only [Lib.indexByte, List.length_cons]
    split
    · omega
    · split <;> omega
/-- The place of a byte among the sixteen digits; -1: none. -/
def hv (c : UInt8) : Int := Lib.indexByte hexs c
theorem hv_range (c : UInt8) : -1 ≤ hv c ∧ hv c ≤ 15 := by
  unfold hv
  refine ⟨Lib.indexByte_ge _ _, ?_⟩
  have := indexByte_lt hexs c
  have e : hexs.length = 16 := rfl
  omega
theorem hv_hexD (n : Nat) (h : n < 16) : hv (hexD n) = n := by
  have : ∀ n : Fin 16, hv (hexD n.val) = (n.val : Int) := by decide +kernel
  exact this ⟨n, h⟩
def unhexOut : List UInt8 → List UInt8
  | a :: b :: r => UInt8.ofNat ((hv a).toNat * 16 + (hv b).toNat) :: unhexOut r
  | _ => []
def allHex (l : List UInt8) : Bool := l.all fun c => decide (0 ≤ hv c)
def unhexCode (l : List UInt8) : Int := if allHex l = true then (if l.length % 2 = 0 then 0 else 2) else 3
def unhexR (l : List UInt8) : List UInt8 := if unhexCode l = 0 then unhexOut l else []
theorem unhexOut_snoc (l : List UInt8) (a b : UInt8) (h : l.length % 2 = 0) : unhexOut (l ++ [a, b]) = unhexOut l ++ [UInt8.ofNat ((hv a).toNat * 16 + (hv b).toNat)] := by
  induction l using unhexOut.induct with
  | case1 x y r ih => simp only [List.length_cons] at h; simp [unhexOut, ih (by omega)]
  | case2 l hl =>
    cases l with
    | nil => rfl
    | cons x r => cases r with
      | nil => simp at h
      | cons y r => exact absurd rfl (hl x y r)
theorem unhexOut_length (l : List UInt8) (h : l.length % 2 = 0) : (unhexOut l).length = l.length / 2 := by
  induction l using unhexOut.induct with
  | case1 x y r ih => simp only [List.length_cons] at h ⊢; simp [unhexOut, ih (by omega)]; omega
  | case2 l hl =>
    cases l with
    | nil => rfl
    | cons x r => cases r with
      | nil => simp at h
      | cons y r => exact absurd rfl (hl x y r)
theorem unhex_hex (l : List UInt8) : unhexOut (hexL l) = l := by
  induction l with
  | nil => rfl
  | cons b r ih =>
    have := b.toNat_lt
    simp only [hexL, unhexOut, ih]
    rw [hv_hexD _ (by omega), hv_hexD _ (by omega)]
    congr 1
    apply UInt8.toNat_inj.1
    simp
    omega
theorem allHex_hex (l : List UInt8) : allHex (hexL l) = true := by
  induction l with
  | nil => rfl
  | cons b r ih =>
    have := b.toNat_lt
    unfold allHex at *
    simp only [hexL, List.all_cons, ih, hv_hexD (b.toNat / 16) (by omega), hv_hexD (b.toNat % 16) (by omega)]
    simp
    omega
theorem unhexCode_hex (l : List UInt8) : unhexCode (hexL l) = 0 := by
  unfold unhexCode
  rw [if_pos (allHex_hex l), hexL_length, if_pos (by omega)]
theorem unhexR_hex (l : List UInt8) : unhexR (hexL l) = l := by
  unfold unhexR
  rw [if_pos (unhexCode_hex l), unhex_hex]
theorem allHex_snoc (l : List UInt8) (k : Nat) (h : k < l.length) (ha : allHex (l.take k) = true) (hc : 0 ≤ hv l[k]) : allHex (l.take (k + 1)) = true := by
  unfold allHex at *
  rw [List.take_succ_eq_append_getElem h, List.all_append, ha]
  simp [hc]
theorem allHex_not (l : List UInt8) (k : Nat) (h : k < l.length) (hc : hv l[k] < 0) : allHex l = false := by
  unfold allHex
  rw [List.all_eq_false]
  exact ⟨l[k], List.getElem_mem h, by simp; omega⟩
theorem allHex_at (l : List UInt8) (k : Nat) (h : k < l.length) (ha : allHex l = true) : 0 ≤ hv l[k] := by
  unfold allHex at ha
  have := List.all_eq_true.1 ha l[k] (List.getElem_mem h)
  simpa using this
theorem unhex_form (l : List UInt8) (h : allHex l = false) : unhexCode l = 3 ∧ unhexR l = [] := by
  unfold unhexR unhexCode
  simp [h]
theorem unhex_short (l : List UInt8) (h : allHex l = true) (h2 : l.length % 2 = 1) : unhexCode l = 2 ∧ unhexR l = [] := by
  unfold unhexR unhexCode
  simp [h, h2]
theorem unhex_ok (l : List UInt8) (h : allHex l = true) (h2 : l.length % 2 = 0) : unhexCode l = 0 ∧ unhexR l = unhexOut l := by
  unfold unhexR unhexCode
  simp [h, h2]
theorem unhexOut_take (l : List UInt8) (k : Nat) (h : 2 * k + 1 < l.length) :
    unhexOut (l.take (2 * (k + 1))) = unhexOut (l.take (2 * k)) ++ [UInt8.ofNat ((hv l[2 * k]).toNat * 16 + (hv l[2 * k + 1]).toNat)] := by
  rw [← unhexOut_snoc _ _ _ (by rw [List.length_take]; omega)]
  congr 1
  rw [show 2 * (k + 1) = 2 * k + 1 + 1 by omega, List.take_succ_eq_append_getElem h, List.take_succ_eq_append_getElem (by omega), List.append_assoc]
  rfl
/-- A byte looked for from place k on. -/
def findFrom (c : UInt8) : List UInt8 → Nat → Int
  | [], _ => -1
  | x :: r, k => if x = c then k else findFrom c r (k + 1)
theorem findFrom_eq (c : UInt8) : ∀ (l : List UInt8) (k : Nat), findFrom c l k = if Lib.indexByte l c = -1 then -1 else k + Lib.indexByte l c
  | [], k => by simp [findFrom, Lib.indexByte]
  | x :: r, k => by
    have ih := findFrom_eq c r (k + 1)
    have hge := Lib.indexByte_ge r c
    simp only [findFrom, Lib.indexByte]
    by_cases h : x = c
    · subst h; simp
    · rw [if_neg h, ih]
      simp only [beq_iff_eq, h, if_false]
      by_cases h2 : Lib.indexByte r c = -1
      · simp [h2]
      · rw [if_neg h2]
        simp only [h2, if_false]
        rw [if_neg (by omega)]
        omega
theorem findFrom_zero (c : UInt8) (l : List UInt8) : findFrom c l 0 = Lib.indexByte l c := by
  rw [findFrom_eq]
  split
  · rename_i h; exact h.symm
  · simp
theorem findFrom_hit (c : UInt8) (l : List UInt8) (k : Nat) (h : k < l.length) (e : l[k] = c) : findFrom c (l.drop k) k = k := by
  rw [List.drop_eq_getElem_cons h]
  exact if_pos e
theorem findFrom_miss (c : UInt8) (l : List UInt8) (k : Nat) (h : k < l.length) (e : ¬ l[k] = c) : findFrom c (l.drop k) k = findFrom c (l.drop (k + 1)) (k + 1) := by
  conv => lhs; rw [List.drop_eq_getElem_cons h]
  exact if_neg e
theorem findFrom_end (c : UInt8) (l : List UInt8) (k : Nat) (h : l.length ≤ k) : findFrom c (l.drop k) k = -1 := by
  rw [List.drop_of_length_le h]
  rfl
/- Signs of six bits. -/
def signs : List UInt8 := [65, 66, 67, 68, 69, 70, 71, 72, 73, 74, 75, 76, 77, 78, 79, 80, 81, 82, 83, 84, 85, 86, 87, 88, 89, 90, 97, 98, 99, 100, 101, 102, 103, 104, 105, 106, 107, 108, 109, 110, 111, 112, 113, 114, 115, 116, 117, 118, 119, 120, 121, 122, 48, 49, 50, 51, 52, 53, 54, 55, 56, 57, 43, 47]
def signD (n : Nat) : UInt8 := signs.getD n 0
theorem signD_get (n : Nat) (h : n < (⟨#[65, 66, 67, 68, 69, 70, 71, 72, 73, 74, 75, 76, 77, 78, 79, 80, 81, 82, 83, 84, 85, 86, 87, 88, 89, 90, 97, 98, 99, 100, 101, 102, 103, 104, 105, 106, 107, 108, 109, 110, 111, 112, 113, 114, 115, 116, 117, 118, 119, 120, 121, 122, 48, 49, 50, 51, 52, 53, 54, 55, 56, 57, 43, 47]⟩ : ByteArray).size) :
    (⟨#[65, 66, 67, 68, 69, 70, 71, 72, 73, 74, 75, 76, 77, 78, 79, 80, 81, 82, 83, 84, 85, 86, 87, 88, 89, 90, 97, 98, 99, 100, 101, 102, 103, 104, 105, 106, 107, 108, 109, 110, 111, 112, 113, 114, 115, 116, 117, 118, 119, 120, 121, 122, 48, 49, 50, 51, 52, 53, 54, 55, 56, 57, 43, 47]⟩ : ByteArray)[n] = signD n := by
  have h' : n < signs.length := h
  unfold signD
  rw [List.getD_eq_getElem?_getD, List.getElem?_eq_getElem h']
  rfl
def bits3 (a b c : UInt8) : Nat := a.toNat * 65536 + b.toNat * 256 + c.toNat
theorem bits3_lt (a b c : UInt8) : bits3 a b c < 16777216 := by
  have := a.toNat_lt; have := b.toNat_lt; have := c.toNat_lt
  unfold bits3; omega
/-- The k-th of four signs of n bytes. -/
def sign4 (a b c : UInt8) (n k : Nat) : UInt8 := if n < k then 61 else signD (bits3 a b c / 2 ^ (18 - 6 * k) % 64)
def four (a b c : UInt8) (n : Nat) : List UInt8 := [sign4 a b c n 0, sign4 a b c n 1, sign4 a b c n 2, sign4 a b c n 3]
def base64L : List UInt8 → List UInt8
  | a :: b :: c :: r => four a b c 3 ++ base64L r
  | [a, b] => four a b 0 2
  | [a] => four a 0 0 1
  | [] => []
theorem base64L_append (x y : List UInt8) (h : x.length % 3 = 0) : base64L (x ++ y) = base64L x ++ base64L y := by
  induction x using base64L.induct with
  | case1 a b c r ih => simp only [List.length_cons] at h; simp [base64L, ih (by omega)]
  | case2 a b => simp at h
  | case3 a => simp at h
  | case4 => rfl
theorem base64L_length (x : List UInt8) : (base64L x).length = (x.length + 2) / 3 * 4 := by
  induction x using base64L.induct with
  | case1 a b c r ih => simp [base64L, four, ih]; omega
  | case2 a b => simp [base64L, four]
  | case3 a => simp [base64L, four]
  | case4 => simp [base64L]
/-- The first three of bytes, noughts behind them. -/
def pad3 (l : List UInt8) : UInt8 × UInt8 × UInt8 := (l.getD 0 0, l.getD 1 0, l.getD 2 0)
theorem base64L_head (l : List UInt8) (h : l ≠ []) :
    base64L l = four (l.getD 0 0) (l.getD 1 0) (l.getD 2 0) (min l.length 3) ++ base64L (l.drop 3) := by
  match l, h with
  | a :: b :: c :: r, _ => simp [base64L, show min (r.length + 1 + 1 + 1) 3 = 3 by omega]
  | [a, b], _ => simp [base64L]
  | [a], _ => simp [base64L]
theorem base64L_take (l : List UInt8) (h : l ≠ []) : base64L (l.take (min l.length 3)) = four (l.getD 0 0) (l.getD 1 0) (l.getD 2 0) (min l.length 3) := by
  match l, h with
  | a :: b :: c :: r, _ => simp [base64L, show min (r.length + 1 + 1 + 1) 3 = 3 by omega]
  | [a, b], _ => simp [base64L]
  | [a], _ => simp [base64L]
end Go.Proofs.YtolknddegfcmpaaDoor
namespace Go.Proofs.YtolknddegfcmpaaDoor
open Go.RowKit
theorem ib (s : ByteArray) (b : UInt8) (w : World) : Calls Tryd.prog 110 #[.string s, .int .u8 (b.toNat : Int)] w fun e w' => e = .returned (.int .i64 (Lib.indexByte s.data.toList b)) ∧ w = w' :=
  (Tryd.strings_IndexByte s _ w).mono fun e w' ⟨h1, h2⟩ => ⟨by simpa using h1, h2.symm⟩
theorem ib_hex (b : UInt8) (w : World) : Calls Tryd.prog 110 #[.string ⟨#[48, 49, 50, 51, 52, 53, 54, 55, 56, 57, 97, 98, 99, 100, 101, 102]⟩, .int .u8 (b.toNat : Int)] w fun e w' => e = .returned (.int .i64 (hv b)) ∧ w = w' := ib _ b w
set_option maxHeartbeats 400000 in
theorem hex_any (v : Value) (l : List UInt8) (w : World) (h : SB w v l) (hl : l.length ≤ 1000000000000) :
    Calls Tryd.prog 75 #[v] w fun e w' => e = .returned (.string ⟨(hexL l).toArray⟩) ∧ Below w.heap.size w w' := by
  obtain ⟨A, cap, rfl, h1, h2, h3, h4⟩ := h
  obtain ⟨i0, hi, hz0, hz1, hz2⟩ := info_parts u8info
  unfold maxLen at h2
  go_enter Tryd.func75, Tryd.ntmps75
  go_wp2_with (first | (at_make; refine wpList_make_own _ rfl _ _ _ rfl w.heap.size _ i0 _ 1 Tryd.underlying26 hi hz0 hz1 _ _ _ (2 * l.length) rfl rfl (by omega) ?b1 ?b2 (Nat.le_refl _) ?_) | fail)
  case b1 => rw [hz2]; omega
  case b2 => unfold maxLen; omega
  intro w1 hown1 hg1
  have hb1 : Below w.heap.size w w1 := (Below.refl _ _).grown hg1 (Nat.le_refl _) (by simp)
  go_wp2
  go_loopw [3, 12] (fun v i wr => ∃ k : Nat, k ≤ l.length ∧ i = .int .i64 k ∧ wr.ownsRow w.heap.size 5 1 v (2 * k) (bvs (hexL (l.take k))) ∧ Below w.heap.size w wr) (fun _ i _ => l.length - (intOf i).toNat)
  case atStart => exact ⟨0, Nat.zero_le _, rfl, by simpa [hexL, bvs] using hown1, hb1⟩
  case round =>
    obtain ⟨k, hk, rfl, hown, hbw⟩ := hrel
    by_cases hlt : k < l.length
    · obtain ⟨b, off, rfl, hc⟩ := h4 (by intro e; subst e; simp at hlt)
      have hcell : wr.cell? ⟨b, off + k, none⟩ = some (.int .u8 (l[k].toNat : Int)) := by
        have := hc k hlt
        rw [hbw.cell (p := ⟨b, off + k, none⟩) (lt_of_cell this)]; exact this
      have hx := l[k].toNat_lt
      have hx1 : (0 : Int) ≤ (l[k].toNat : Int) / 16 := by omega
      have hx2 : (l[k].toNat : Int) / 16 < 16 := by omega
      have hx3 : (0 : Int) ≤ (l[k].toNat : Int) % 16 := by omega
      have hx4 : (l[k].toNat : Int) % 16 < 16 := by omega
      have hx5 := u8_and15 l[k]
      have hx6 : ((l[k].toNat : Int) / 16).toNat = l[k].toNat / 16 := by omega
      have hx7 : ((l[k].toNat : Int) % 16).toNat = l[k].toNat % 16 := by omega
      have hx8 := hexD_get
      go_wp2
      refine wp_region_plan (fun _ => True) [(false, 0), (false, 1), (false, 2), (false, 3), (false, 4), (false, 5), (false, 6), (true, 7), (true, 8), (false, 9)] (by kernel_rfl) (by kernel_rfl) (trivial) ?_
      simp only [planOps, List.map, List.getD_cons_zero, List.getD_cons_succ]
      iterate 7 ((first | refine plan_quiet (v := ?_) rfl rfl (fun w' hw' => ?_) ?_ | refine plan_calm (v := ?_) (tt_of) rfl (fun w' hw' => ?_) ?_); rotate_left; (focus (go_simp <;> (first | with_reducible rfl | (rw [if_neg (by simp [undef])]; try rfl)))); simp only [Act.put, List.setIfInBounds_toArray, List.set_cons_zero, List.set_cons_succ])
      refine plan_loud rfl (fun K hK => ?_)
      go_simp
      refine hK _ _ (trivial) ?_
      clear hK K
      (try simp only [Act.put, List.setIfInBounds_toArray, List.set_cons_zero, List.set_cons_succ])
      refine plan_loud rfl (fun K hK => ?_)
      refine wp_append8 _ _ _ _ rfl Tryd.underlying26 u8info w.heap.size u3 (2 * k) _ rfl (hown.drew.alloc _) _ 2 2 [hexD (l[k].toNat / 16), hexD (l[k].toNat % 16)] rfl (SB.made wr.drew [hexD (l[k].toNat / 16), hexD (l[k].toNat % 16)] _ _ rfl (by unfold maxLen; simp)) (by omega) (by have := hbw.size; simp; omega) ?_
      intro v2 w2 hown2 hb2 _
      have hb3 : Below w.heap.size w w2 := ((hbw.drew).alloc hbw.size _).trans hb2
      refine hK _ _ (trivial) ?_
      clear hK K
      (try simp only [Act.put, List.setIfInBounds_toArray, List.set_cons_zero, List.set_cons_succ])
      iterate 1 ((first | refine plan_quiet (v := ?_) rfl rfl (fun w' hw' => ?_) ?_ | refine plan_calm (v := ?_) (tt_of) rfl (fun w' hw' => ?_) ?_); rotate_left; (focus (go_simp <;> (first | with_reducible rfl | (rw [if_neg (by simp [undef])]; try rfl)))); simp only [Act.put, List.setIfInBounds_toArray, List.set_cons_zero, List.set_cons_succ])
      refine plan_end ?_
      clear hx1 hx2 hx3 hx4 hx5 hx6 hx7 hx8
      go_wp2
      go_roundw
      case rel => exact ⟨k + 1, by omega, by go_num, by rw [take_snoc l k hlt, hexL_append]; exact hown2, hb3⟩
      case measure => simp [intOf]; omega
    · have hstr := (SB.of_own hown).str 26 5 9 Tryd.underlying26 Tryd.underlying5 Tryd.underlying9
      go_wp2
      go_ret
      obtain rfl : k = l.length := by omega
      exact ⟨by rw [List.take_length]; rfl, hbw⟩
/-- A slice of the call's own that reads as l, in a result made by mk. -/
def GivesB (E : TypeId) (w : World) (mk : Value → Value) (l : List UInt8) (e : Ending) (w' : World) : Prop :=
  ∃ v, e = .returned (mk v) ∧ w'.ownsRow w.heap.size E 1 v l.length (bvs l) ∧ Below w.heap.size w w'
theorem beq_byte (a b : UInt8) : ((a.toNat : Int) == (b.toNat : Int)) = decide (a = b) := by
  by_cases h : a = b
  · subst h; simp
  · have : ¬ a.toNat = b.toNat := fun e => h (UInt8.toNat_inj.1 e)
    simp [h]; omega
set_option maxHeartbeats 400000 in
theorem find_any (s : ByteArray) (c : UInt8) (w : World) (hs : s.size ≤ 1000000000000) :
    Calls Tryd.prog 84 #[.string s, .int .u8 (c.toNat : Int)] w fun e w' => e = .returned (.int .i64 (Lib.indexByte s.data.toList c)) ∧ w = w' := by
  go_enter Tryd.func84, Tryd.ntmps84
  go_wp2
  go_loop [5] (fun i => ∃ k : Nat, k ≤ s.size ∧ i = .int .i64 k ∧ Hid (Lib.indexByte s.data.toList c = findFrom c (s.data.toList.drop k) k)) (fun i => s.size - (intOf i).toNat)
  case atStart => exact ⟨0, Nat.zero_le _, rfl, (findFrom_zero c _).symm⟩
  case round =>
    obtain ⟨k, hk, rfl, HE⟩ := hrel
    by_cases hlt : k < s.size
    · have hlt' : k < s.data.toList.length := by simpa using hlt
      by_cases hc : s[k] = c
      · have hb : ((s[k].toNat : Int) == (c.toNat : Int)) = true := by rw [beq_byte]; simp [hc]
        have HF := Lib.hid (findFrom_hit c s.data.toList k hlt' hc)
        clear hc
        go_wp2
        go_ret
        exact ⟨by rw [HE.out, HF.out]; rfl, rfl⟩
      · have hb : ((s[k].toNat : Int) == (c.toNat : Int)) = false := by rw [beq_byte]; simp [hc]
        have HF := Lib.hid (findFrom_miss c s.data.toList k hlt' hc)
        clear hc
        go_wp2
        go_round
        case rel => exact ⟨k + 1, by omega, by go_num, HE.out.trans HF.out⟩
        case measure => simp [intOf]; omega
    · go_wp2
      go_ret
      exact ⟨by rw [HE.out, findFrom_end c _ k (by simp; omega)]; rfl, rfl⟩
theorem find_hex (b : UInt8) (w : World) : Calls Tryd.prog 84 #[.string ⟨#[48, 49, 50, 51, 52, 53, 54, 55, 56, 57, 97, 98, 99, 100, 101, 102]⟩, .int .u8 (b.toNat : Int)] w fun e w' => e = .returned (.int .i64 (hv b)) ∧ w = w' :=
  find_any _ b w (by decide)
def beL (n : Nat) : Nat → List UInt8
  | 0 => []
  | i + 1 => UInt8.ofNat (n / 256 ^ i) :: beL n i
theorem beL_length (n i : Nat) : (beL n i).length = i := by
  induction i with
  | zero => rfl
  | succ i ih => simp [beL, ih]
set_option maxHeartbeats 400000 in
theorem be_any (n size : Nat) (w : World) (hn : n < 18446744073709551616) (h1 : 1 ≤ size) (h8 : size ≤ 8) :
    Calls Tryd.prog 76 #[.int .u64 (n : Int), .int .i64 (size : Int)] w (GivesB 5 w (fun v => v) (beL n size)) := by
  obtain ⟨i0, hi, hz0, hz1, hz2⟩ := info_parts u8info
  have hd1 : decide ((size : Int) < 1) = false := by simp; omega
  have hd2 : decide ((8 : Int) < (size : Int)) = false := by simp; omega
  go_enter Tryd.func76, Tryd.ntmps76
  go_wp2_with (at_make; refine wpList_make_full _ rfl _ _ _ rfl w.heap.size _ i0 _ 1 Tryd.underlying26 hi hz0 hz1 _ _ _ _ size rfl rfl rfl rfl (by rw [hz2]; omega) (by unfold maxLen; omega) (Nat.le_refl _) ?_)
  intro w1 hown1 hg1
  have hb1 : Below w.heap.size w w1 := (Below.refl _ _).grown hg1 (Nat.le_refl _) (by simp)
  go_wp2
  go_loopw [16] (fun i wr => ∃ k : Nat, k ≤ size ∧ i = .int .i64 k ∧ wr.ownsRow w.heap.size 5 1 (.slice (some ⟨w.heap.size, 0, none⟩) size size) size (bvs (List.replicate (size - k) 0 ++ beL n k)) ∧ Below w.heap.size w wr) (fun i _ => size - (intOf i).toNat)
  case atStart => exact ⟨0, Nat.zero_le _, rfl, by simp only [beL, List.append_nil, Nat.sub_zero]; rw [← bvs_replicate']; simpa using hown1, hb1⟩
  case round =>
    obtain ⟨k, hk, rfl, hown, hbw⟩ := hrel
    by_cases hlt : k < size
    · obtain ⟨b8, Hb8⟩ : ∃ b8 : UInt8, Hid (b8 = UInt8.ofNat (n / 256 ^ k)) := ⟨_, rfl⟩
      have hval : (n : Int) / 2 ^ (8 * k) % 256 = (b8.toNat : Int) := by
        rw [Hb8.out, Int.pow_mul]
        simp
      obtain ⟨⟨u0, hcell⟩, hfro, hst⟩ := own_store hown (size - 1 - k) (by omega)
      have Hst := Lib.hid hst
      clear hst
      go_wp2
      go_roundw
      case rel =>
        refine ⟨k + 1, by omega, by go_num, ?_, hbw.setCell (Nat.le_refl _) _⟩
        have h2 := Hst.out b8
        have e : (List.replicate (size - k) 0 ++ beL n k).set (size - 1 - k) b8 = List.replicate (size - (k + 1)) 0 ++ beL n (k + 1) := by
          obtain ⟨m, hm⟩ : ∃ m, size - k = m + 1 := ⟨size - k - 1, by omega⟩
          rw [hm, show size - 1 - k = m by omega, show size - (k + 1) = m by omega, List.replicate_succ', List.append_assoc]
          show (List.replicate m 0 ++ 0 :: beL n k).set m b8 = _
          rw [set_next _ _ _ _ _ (by simp), Hb8.out]
          rfl
        rw [e] at h2
        exact h2
      case measure => simp [intOf]; omega
    · go_wp2
      go_ret
      obtain rfl : k = size := by omega
      exact ⟨_, rfl, by rw [beL_length]; simpa using hown, hbw⟩
def hxd (n : Nat) : Nat → List UInt8
  | 0 => []
  | i + 1 => hexD (n / 16 ^ i % 16) :: hxd n i
theorem hxd_length (n i : Nat) : (hxd n i).length = i := by
  induction i with
  | zero => rfl
  | succ i ih => simp [hxd, ih]
theorem hxd_be (n : Nat) : hexL (beL n 4) = hxd n 8 := by
  simp only [beL, hexL, hxd, Nat.reducePow, UInt8.toNat_ofNat', Nat.reduceMod, Nat.div_one]
  refine List.cons_eq_cons.2 ⟨by congr 1; omega, ?_⟩
  refine List.cons_eq_cons.2 ⟨by congr 1; omega, ?_⟩
  refine List.cons_eq_cons.2 ⟨by congr 1; omega, ?_⟩
  refine List.cons_eq_cons.2 ⟨by congr 1; omega, ?_⟩
  refine List.cons_eq_cons.2 ⟨by congr 1; omega, ?_⟩
  refine List.cons_eq_cons.2 ⟨by congr 1; omega, ?_⟩
  refine List.cons_eq_cons.2 ⟨by congr 1; omega, ?_⟩
  refine List.cons_eq_cons.2 ⟨by congr 1; try omega, rfl⟩
/-- A digit in either case. -/
def lowc (c : UInt8) : UInt8 := if 65 ≤ c ∧ c ≤ 70 then c + 32 else c
def hexs2 : List UInt8 := [48, 49, 50, 51, 52, 53, 54, 55, 56, 57, 65, 66, 67, 68, 69, 70]
def hv2 (c : UInt8) : Int := Lib.indexByte hexs2 c
def dv (c : UInt8) : Int := hv (lowc c)
theorem dv_two (c : UInt8) : dv c = if hv c < 0 then hv2 c else hv c := by
  have h : ∀ n : Fin 256, dv (UInt8.ofNat n.val) = if hv (UInt8.ofNat n.val) < 0 then hv2 (UInt8.ofNat n.val) else hv (UInt8.ofNat n.val) := by decide +kernel
  have := h ⟨c.toNat, c.toNat_lt⟩
  simpa using this
theorem dv_range (c : UInt8) : -1 ≤ dv c ∧ dv c ≤ 15 := hv_range _
theorem hv2_range (c : UInt8) : -1 ≤ hv2 c ∧ hv2 c ≤ 15 := by
  unfold hv2
  refine ⟨Lib.indexByte_ge _ _, ?_⟩
  have := indexByte_lt hexs2 c
  have e : hexs2.length = 16 := rfl
  omega
theorem dv_hexD (n : Nat) (h : n < 16) : dv (hexD n) = n := by
  have : ∀ n : Fin 16, dv (hexD n.val) = (n.val : Int) := by decide +kernel
  exact this ⟨n, h⟩
def hexNum (l : List UInt8) : Int := l.foldl (fun n c => 16 * n + dv c) 0
def allDv (l : List UInt8) : Bool := l.all fun c => decide (0 ≤ dv c)
def un8Code (l : List UInt8) : Int := if l.length = 8 then (if allDv l = true then 0 else 3) else 2
def un8N (l : List UInt8) : Int := if un8Code l = 0 then hexNum l else 0
theorem hexNum_snoc (l : List UInt8) (c : UInt8) : hexNum (l ++ [c]) = 16 * hexNum l + dv c := by simp [hexNum]
theorem allDv_snoc (l : List UInt8) (k : Nat) (hk : k < l.length) (h : allDv (l.take k) = true) (hc : 0 ≤ dv l[k]) : allDv (l.take (k + 1)) = true := by
  rw [List.take_succ_eq_append_getElem hk]
  simp only [allDv, List.all_append] at h ⊢
  simp [h, hc]
theorem allDv_not (l : List UInt8) (k : Nat) (hk : k < l.length) (hc : dv l[k] < 0) : allDv l = false := by
  cases h : allDv l with
  | false => rfl
  | true =>
    have := List.all_eq_true.1 h l[k] (List.getElem_mem hk)
    simp at this
    omega
theorem un8_form (l : List UInt8) (h8 : l.length = 8) (h : allDv l = false) : un8Code l = 3 ∧ un8N l = 0 := by
  have : un8Code l = 3 := by simp [un8Code, h8, h]
  exact ⟨this, by simp [un8N, this]⟩
theorem un8_short (l : List UInt8) (h8 : ¬ l.length = 8) : un8Code l = 2 ∧ un8N l = 0 := by
  have : un8Code l = 2 := by simp [un8Code, h8]
  exact ⟨this, by simp [un8N, this]⟩
theorem un8_ok (l : List UInt8) (h8 : l.length = 8) (h : allDv l = true) : un8Code l = 0 ∧ un8N l = hexNum l := by
  have : un8Code l = 0 := by simp [un8Code, h8, h]
  exact ⟨this, by simp [un8N, this]⟩
theorem un8_back (n : Nat) (hn : n < 4294967296) : un8Code (hxd n 8) = 0 ∧ un8N (hxd n 8) = n := by
  have h : allDv (hxd n 8) = true := by
    simp only [hxd, allDv, List.all_cons, List.all_nil, Bool.and_true, Bool.and_eq_true, decide_eq_true_eq]
    refine ⟨?_, ?_, ?_, ?_, ?_, ?_, ?_, ?_⟩ <;> (rw [dv_hexD _ (by omega)]; omega)
  have h2 := un8_ok _ (hxd_length n 8) h
  refine ⟨h2.1, h2.2.trans ?_⟩
  simp only [hexNum, hxd, List.foldl_cons, List.foldl_nil]
  rw [dv_hexD _ (by omega), dv_hexD _ (by omega), dv_hexD _ (by omega), dv_hexD _ (by omega), dv_hexD _ (by omega), dv_hexD _ (by omega), dv_hexD _ (by omega), dv_hexD _ (by omega)]
  simp only [Nat.reducePow]
  omega
theorem find_hex2 (b : UInt8) (w : World) : Calls Tryd.prog 84 #[.string ⟨#[48, 49, 50, 51, 52, 53, 54, 55, 56, 57, 65, 66, 67, 68, 69, 70]⟩, .int .u8 (b.toNat : Int)] w fun e w' => e = .returned (.int .i64 (hv2 b)) ∧ w = w' :=
  find_any _ b w (by decide)
set_option maxHeartbeats 400000 in
theorem hex8_bad (n : Int) (w : World) (h : n < 0 ∨ 4294967295 < n) :
    Calls Tryd.prog 47 #[.int .i64 n] w fun e w' => e = .returned (.tuple #[.string ⟨#[]⟩, .int .i64 1]) ∧ Below w.heap.size w w' := by
  by_cases h0 : n < 0
  · have hd : decide (n < 0) = true := by simpa using h0
    go_enter Tryd.func47, Tryd.ntmps47
    go_wp2_with fail
    go_ret2
    exact ⟨rfl, Below.refl _ _⟩
  · have hd : decide (n < 0) = false := by simpa using h0
    have hd2 : decide (4294967295 < n) = true := by simp; omega
    go_enter Tryd.func47, Tryd.ntmps47
    go_wp2_with fail
    go_ret2
    exact ⟨rfl, Below.refl _ _⟩
set_option maxHeartbeats 400000 in
theorem hex8_any (n : Nat) (w : World) (h : n ≤ 4294967295) :
    Calls Tryd.prog 47 #[.int .i64 (n : Int)] w fun e w' => e = .returned (.tuple #[.string ⟨(hxd n 8).toArray⟩, .int .i64 0]) ∧ Below w.heap.size w w' := by
  have hd : decide ((n : Int) < 0) = false := by simp
  have hd2 : decide (4294967295 < (n : Int)) = false := by simp; omega
  have hw := u64_in (n : Int) (by omega) (by omega)
  go_enter Tryd.func47, Tryd.ntmps47
  go_wp2_with (first
    | (go_at_call 76; refine (be_any n 4 _ (by omega) (by omega) (by omega)).mono ?_; rintro e w1 ⟨v1, rfl, hown1, hb1⟩)
    | (go_at_call 75; refine (hex_any _ _ _ (SB.of_own hown1) (by rw [beL_length]; omega)).mono ?_; rintro e w2 ⟨rfl, hb2⟩))
  go_ret2
  exact ⟨by rw [hxd_be]; rfl, below_trans hb1 hb2⟩
set_option maxHeartbeats 400000 in
theorem rhex8_bad (n : Int) (w : World) (h : n < 0 ∨ 4294967295 < n) :
    Calls Tryd.prog 49 #[.int .i64 n] w fun e w' => e = .returned (.tuple #[.string ⟨#[]⟩, .int .i64 1]) ∧ Below w.heap.size w w' := by
  by_cases h0 : n < 0
  · have hd : decide (n < 0) = true := by simpa using h0
    go_enter Tryd.func49, Tryd.ntmps49
    go_wp2_with fail
    go_ret2
    exact ⟨rfl, Below.refl _ _⟩
  · have hd : decide (n < 0) = false := by simpa using h0
    have hd2 : decide (4294967295 < n) = true := by simp; omega
    go_enter Tryd.func49, Tryd.ntmps49
    go_wp2_with fail
    go_ret2
    exact ⟨rfl, Below.refl _ _⟩
set_option maxHeartbeats 400000 in
theorem rhex8_any (n : Nat) (w : World) (h : n ≤ 4294967295) :
    Calls Tryd.prog 49 #[.int .i64 (n : Int)] w fun e w' => e = .returned (.tuple #[.string ⟨(hxd n 8).toArray⟩, .int .i64 0]) ∧ Below w.heap.size w w' := by
  have hd : decide ((n : Int) < 0) = false := by simp
  have hd2 : decide (4294967295 < (n : Int)) = false := by simp; omega
  go_enter Tryd.func49, Tryd.ntmps49
  go_wp2
  go_loopw [0, 4, 5] (fun m v i wr => ∃ (k m' : Nat), k ≤ 8 ∧ i = .int .i64 k ∧ m = .int .i64 (m' : Int) ∧ m' ≤ 4294967295 ∧ Hid (m' = n / 16 ^ k) ∧ wr.ownsRow w.heap.size 5 1 v k (bvs (hxd n k)) ∧ Below w.heap.size w wr) (fun _ _ i _ => 8 - (intOf i).toNat)
  case atStart => exact ⟨0, n, Nat.zero_le _, rfl, rfl, h, Lib.hid (by simp), World.ownsRow_nil _ _ _ _, Below.refl _ _⟩
  case round =>
    obtain ⟨k, m, hk, rfl, rfl, hm, Hm, hown, hbw⟩ := hrel
    by_cases hlt : k < 8
    · have hx1 : (m : Int).tmod 16 = (m : Int) % 16 := Int.tmod_eq_emod_of_nonneg (by omega)
      have hx3 : (0 : Int) ≤ (m : Int) % 16 := by omega
      have hx4 : (m : Int) % 16 < 16 := by omega
      have hx7 : ((m : Int) % 16).toNat = m % 16 := by omega
      have hx8 := hexD_get
      obtain ⟨A4, cap4, rfl⟩ := own_form hown
      go_wp2_with (at_builtin; refine wpList_append8 rfl (.tmp 19) (.tmp 20) _ _ rfl Tryd.underlying26 u8info wr.heap.size (.slice (some ⟨wr.heap.size, 0, none⟩) 1 1) 1 [hexD (m % 16)] rfl (own_lit wr [hexD (m % 16)] _ _ (Nat.le_refl _) rfl (by unfold maxLen; simp)) A4 k cap4 (hxd n k) rfl ((SB.of_own hown).alloc _) (by omega) (by simp) ?_; intro v2 w2 hown2 hb2 hg2)
      have hb3 : Below w.heap.size w w2 := hbw.trans ((((Below.refl _ _).alloc (Nat.le_refl _) _).trans hb2).mono hbw.size)
      have ho3 : w2.ownsRow w.heap.size 5 1 v2 (k + 1) (bvs (hxd n (k + 1))) := by
        have := own_base hown2 hbw.size
        rw [Nat.add_comm] at this
        rw [Hm.out] at this
        exact this
      clear hown2 hb2 hg2 hown hbw
      go_wp2
      go_roundw
      case rel => exact ⟨k + 1, m / 16, by omega, by go_num, by go_num, by omega, Lib.hid (by rw [Hm.out, Nat.div_div_eq_div_mul, Nat.pow_succ]), ho3, hb3⟩
      case measure => simp [intOf]; omega
    · obtain rfl : k = 8 := by omega
      have hstr := str8 (SB.of_own hown)
      go_wp2
      go_ret2
      exact ⟨rfl, hbw⟩
theorem ib_low (c : UInt8) (w : World) (x : Int) (hx : x = ((lowc c).toNat : Int)) : Calls Tryd.prog 110 #[.string ⟨#[48, 49, 50, 51, 52, 53, 54, 55, 56, 57, 97, 98, 99, 100, 101, 102]⟩, .int .u8 x] w fun e w' => e = .returned (.int .i64 (dv c)) ∧ w = w' := by
  subst hx
  exact ib _ (lowc c) w
set_option maxHeartbeats 1000000 in
theorem unhex8_any (s : ByteArray) (w : World) :
    Calls Tryd.prog 78 #[.string s] w fun e w' => e = .returned (.tuple #[.int .i64 (un8N s.data.toList), .int .i64 (un8Code s.data.toList)]) ∧ w = w' := by
  by_cases h8 : s.size = 8
  · have hd : ((s.size : Int) != 8) = false := by simp; omega
    have h8' : s.data.toList.length = 8 := by simpa using h8
    go_enter Tryd.func78, Tryd.ntmps78
    go_wp2
    go_loop [4, 13] (fun m i => ∃ (k : Nat) (N : Int), k ≤ 8 ∧ i = .int .i64 k ∧ m = .int .i64 N ∧ 0 ≤ N ∧ Hid (N < 16 ^ k) ∧ Hid (N = hexNum (s.data.toList.take k)) ∧ Hid (allDv (s.data.toList.take k) = true)) (fun _ i => 8 - (intOf i).toNat)
    case atStart => exact ⟨0, 0, Nat.zero_le _, rfl, rfl, by omega, Lib.hid (by simp), rfl, rfl⟩
    case round =>
      obtain ⟨k, N, hk, rfl, rfl, hN0, HN1, HN, HA⟩ := hrel
      by_cases hlt : k < 8
      · have hlt' : k < s.size := by omega
        have hr := dv_range s[k]
        have hN1 : N < 268435456 := by
          have h1 := HN1.out
          have h2 : (16 : Int) ^ k ≤ 16 ^ 7 := by exact_mod_cast Nat.pow_le_pow_right (by omega) (show k ≤ 7 by omega)
          omega
        have hb := s[k].toNat_lt
        have h3 : (decide ((65 : Int) ≤ (s[k].toNat : Int)) = false ∧ Hid ((s[k].toNat : Int) = ((lowc s[k]).toNat : Int))) ∨
            ((decide ((65 : Int) ≤ (s[k].toNat : Int)) = true ∧ decide ((s[k].toNat : Int) ≤ 70) = false) ∧ Hid ((s[k].toNat : Int) = ((lowc s[k]).toNat : Int))) ∨
            ((decide ((65 : Int) ≤ (s[k].toNat : Int)) = true ∧ decide ((s[k].toNat : Int) ≤ 70) = true) ∧ Hid (((s[k].toNat : Int) + 32) % 256 = ((lowc s[k]).toNat : Int))) := by
          unfold lowc
          by_cases h1 : (65 : UInt8) ≤ s[k]
          · have h1' := UInt8.le_iff_toNat_le.1 h1
            simp at h1'
            by_cases h2 : s[k] ≤ (70 : UInt8)
            · have h2' := UInt8.le_iff_toNat_le.1 h2
              simp at h2'
              refine .inr (.inr ⟨⟨by simp; omega, by simp; omega⟩, Lib.hid ?_⟩)
              rw [if_pos ⟨h1, h2⟩, UInt8.toNat_add]
              simp
            · have h2' := fun h => h2 (UInt8.le_iff_toNat_le.2 h)
              simp at h2'
              exact .inr (.inl ⟨⟨by simp; omega, by simp; omega⟩, Lib.hid (by rw [if_neg (fun h => h2 h.2)])⟩)
          · have h1' := fun h => h1 (UInt8.le_iff_toNat_le.2 h)
            simp at h1'
            exact .inl ⟨by simp; omega, Lib.hid (by rw [if_neg (fun h => h1 h.1)])⟩
        by_cases hc : dv s[k] < 0
        · have hd2 : decide (dv s[k] < 0) = true := by simpa using hc
          rcases h3 with ⟨q1, HQ⟩ | ⟨⟨q1, q2⟩, HQ⟩ | ⟨⟨q1, q2⟩, HQ⟩
          all_goals
            go_wp2_with (go_at_call 110; refine (ib_low s[k] _ _ HQ.out).mono ?_; rintro e w' ⟨rfl, rfl⟩)
            go_ret2
            have hf := un8_form s.data.toList h8' (allDv_not s.data.toList k (by simpa using hlt') hc)
            exact ⟨by rw [hf.1, hf.2]; rfl, rfl⟩
        · have hd2 : decide (dv s[k] < 0) = false := by simpa using hc
          have hor : bits .or .i64 (N * 16) (dv s[k]) = 16 * N + dv s[k] := by
            have := bits_or_low 4 N (dv s[k]) hN0 (by omega) (by omega) (by omega) (by omega)
            simp only [show (2 : Int) ^ 4 = 16 from rfl] at this
            rw [this]
            omega
          rcases h3 with ⟨q1, HQ⟩ | ⟨⟨q1, q2⟩, HQ⟩ | ⟨⟨q1, q2⟩, HQ⟩
          all_goals
            go_wp2_with (go_at_call 110; refine (ib_low s[k] _ _ HQ.out).mono ?_; rintro e w' ⟨rfl, rfl⟩)
            go_round
            case rel =>
              refine ⟨k + 1, 16 * N + dv s[k], by omega, by go_num, rfl, by omega, Lib.hid ?_, Lib.hid ?_, Lib.hid (allDv_snoc s.data.toList k (by simpa using hlt') HA.out (by show 0 ≤ dv s[k]; omega))⟩
              · have := HN1.out
                rw [Int.pow_succ]
                omega
              · rw [take_snoc _ _ (by simpa using hlt'), hexNum_snoc, ← HN.out]
                rfl
            case measure => simp [intOf]; omega
      · obtain rfl : k = 8 := by omega
        have hd3 : decide ((8 : Int) < (s.size : Int)) = false := by simp; omega
        have hE := HN.out
        have hA := HA.out
        rw [List.take_of_length_le (by omega)] at hE hA
        have hf := Lib.hid (un8_ok s.data.toList h8' hA)
        clear hA
        have HE := Lib.hid hE
        clear hE
        go_wp2
        go_ret2
        exact ⟨by rw [hf.out.1, hf.out.2, ← HE.out]; rfl, rfl⟩
  · have hd : ((s.size : Int) != 8) = true := by simp; omega
    have hf := un8_short s.data.toList (by simpa using h8)
    go_enter Tryd.func78, Tryd.ntmps78
    go_wp2
    go_ret2
    exact ⟨by rw [hf.1, hf.2]; rfl, rfl⟩
set_option maxHeartbeats 1000000 in
theorem runhex8_any (s : ByteArray) (w : World) :
    Calls Tryd.prog 56 #[.string s] w fun e w' => e = .returned (.agg #[.slice none 0 0, .int .i64 (un8N s.data.toList), .int .i64 (un8Code s.data.toList)]) ∧ Below w.heap.size w w' := by
  by_cases h8 : s.size = 8
  · have hd : ((s.size : Int) != 8) = false := by simp; omega
    have h8' : s.data.toList.length = 8 := by simpa using h8
    go_enter Tryd.func56, Tryd.ntmps56
    go_wp2
    go_loop [3, 4] (fun m i => ∃ (k : Nat) (N : Int), k ≤ 8 ∧ i = .int .i64 k ∧ m = .int .i64 N ∧ 0 ≤ N ∧ Hid (N < 16 ^ k) ∧ Hid (N = hexNum (s.data.toList.take k)) ∧ Hid (allDv (s.data.toList.take k) = true)) (fun _ i => 8 - (intOf i).toNat)
    case atStart => exact ⟨0, 0, Nat.zero_le _, rfl, rfl, by omega, Lib.hid (by simp), rfl, rfl⟩
    case round =>
      obtain ⟨k, N, hk, rfl, rfl, hN0, HN1, HN, HA⟩ := hrel
      by_cases hlt : k < 8
      · have hlt' : k < s.size := by omega
        have hr := dv_range s[k]
        have hr2 := hv_range s[k]
        have hr3 := hv2_range s[k]
        have hN1 : N < 268435456 := by
          have h1 := HN1.out
          have h2 : (16 : Int) ^ k ≤ 16 ^ 7 := by exact_mod_cast Nat.pow_le_pow_right (by omega) (show k ≤ 7 by omega)
          omega
        have h2 := dv_two s[k]
        by_cases hc : dv s[k] < 0
        · have hc1 : decide (hv s[k] < 0) = true := by
            simp only [decide_eq_true_eq]
            split at h2 <;> omega
          have hc2 : decide (hv2 s[k] < 0) = true := by
            simp only [decide_eq_true_eq] at hc1 ⊢
            rw [if_pos hc1] at h2; omega
          clear h2
          go_wp2_with fail
          refine (find_hex s[k] _).mono ?_
          rintro e w' ⟨rfl, rfl⟩
          go_wp2_with fail
          refine (find_hex2 s[k] _).mono ?_
          rintro e w' ⟨rfl, rfl⟩
          go_wp2_with fail
          have hf := un8_form s.data.toList h8' (allDv_not s.data.toList k (by simpa using hlt') hc)
          exact bodyPost_ret (v := .agg #[.slice none 0 0, .int .i64 0, .int .i64 3]) (by simp [results, Tryd.results56, go_sem]) rfl ⟨by rw [hf.1, hf.2], (((Below.refl _ _).alloc (Nat.le_refl _) _))⟩
        · have hall := Lib.hid (allDv_snoc s.data.toList k (by simpa using hlt') HA.out (by show 0 ≤ dv s[k]; omega))
          have hsn : Hid (16 * N + dv s[k] = hexNum (s.data.toList.take (k + 1))) := Lib.hid (by rw [take_snoc _ _ (by simpa using hlt'), hexNum_snoc, ← HN.out]; rfl)
          have hp : Hid (16 * N + dv s[k] < 16 ^ (k + 1)) := Lib.hid (by have := HN1.out; rw [Int.pow_succ]; omega)
          by_cases hc1 : hv s[k] < 0
          · have hd1 : decide (hv s[k] < 0) = true := by simpa using hc1
            rw [if_pos hc1] at h2
            rw [h2] at hc hsn hp
            have hd2 : decide (hv2 s[k] < 0) = false := by simpa using hc
            clear h2 hr hr2
            go_wp2_with fail
            refine (find_hex s[k] _).mono ?_
            rintro e w' ⟨rfl, rfl⟩
            go_wp2_with fail
            refine (find_hex2 s[k] _).mono ?_
            rintro e w' ⟨rfl, rfl⟩
            go_wp2_with fail
            go_round
            case rel => exact ⟨k + 1, 16 * N + hv2 s[k], by omega, by go_num, by go_num, by omega, hp, hsn, hall⟩
            case measure => simp [intOf]; omega
          · have hd1 : decide (hv s[k] < 0) = false := by simpa using hc1
            rw [if_neg hc1] at h2
            rw [h2] at hc hsn hp
            clear h2 hr hr3
            go_wp2_with fail
            refine (find_hex s[k] _).mono ?_
            rintro e w' ⟨rfl, rfl⟩
            go_wp2_with fail
            go_round
            case rel => exact ⟨k + 1, 16 * N + hv s[k], by omega, by go_num, by go_num, by omega, hp, hsn, hall⟩
            case measure => simp [intOf]; omega
      · obtain rfl : k = 8 := by omega
        have hE := HN.out
        have hA := HA.out
        rw [List.take_of_length_le (by omega)] at hE hA
        have hf := un8_ok s.data.toList h8' hA
        rw [← hE] at hf
        have Hf := Lib.hid hf
        clear hA hE hf
        go_wp2
        have hf := Hf.out
        exact bodyPost_ret (v := .agg #[.slice none 0 0, .int .i64 N, .int .i64 0]) (by simp [results, Tryd.results56, go_sem]) rfl ⟨by rw [hf.1, hf.2], (((Below.refl _ _).alloc (Nat.le_refl _) _))⟩
  · have hd : ((s.size : Int) != 8) = true := by simp; omega
    have Hf := Lib.hid (un8_short s.data.toList (by simpa using h8))
    go_enter Tryd.func56, Tryd.ntmps56
    go_wp2
    have hf := Hf.out
    exact bodyPost_ret (v := .agg #[.slice none 0 0, .int .i64 0, .int .i64 2]) (by simp [results, Tryd.results56, go_sem]) rfl ⟨by rw [hf.1, hf.2], (((Below.refl _ _).alloc (Nat.le_refl _) _))⟩
end Go.Proofs.YtolknddegfcmpaaDoor
