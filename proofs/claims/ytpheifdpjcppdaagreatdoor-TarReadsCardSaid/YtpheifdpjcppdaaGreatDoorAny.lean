/- strings.IndexAny of some ASCII bytes in whatever text (valid UTF-8 or not). -/
import Derived.Test.YtpheifdpjcppdaaGreatDoorTxt
import Derived.Test.YtpheifdpjcppdaaGreatDoorPlaF
import Derived.Test.YtpheifdpjcppdaaGreatDoorShelfK
import Derived.Test.YtpheifdpjcppdaaGreatDoorShelfV
import Derived.Lib.IndexAny
import Derived.Lib.IndexLaws
import Derived.Laws.RangeAny
import Derived.Laws.Runes
import Derived.Deep.CutBlock
import Derived.WalkMore
import Derived.Deep.WholeRow
import Derived.Deep.DeepCutAuto
namespace Go.Proofs.YtpheifdpjcppdaaGreatDoor
open Go.RowKit
theorem ibA (s : ByteArray) (b : UInt8) (w : World) : Calls Tryz.prog 34 #[.string s, .int .u8 (b.toNat : Int)] w fun e w' => e = .returned (.int .i64 (Lib.indexByte s.data.toList b)) ∧ w = w' :=
  (Tryz.strings_IndexByte s _ w).mono fun e w' ⟨h1, h2⟩ => ⟨by simpa using h1, h2.symm⟩
theorem ib_none (l : List UInt8) (c : UInt8) (h : ∀ b ∈ l, b ≠ c) : Lib.indexByte l c = -1 := by
  induction l with
  | nil => rfl
  | cons a t ih =>
    have h1 : (a == c) = false := by simpa using h a (by simp)
    rw [Lib.indexByte, h1, ih (fun b hb => h b (by simp [hb]))]
    rfl
/-- The bytes that a rune of more than one byte takes are no ASCII bytes. -/
theorem decode_cont (s : ByteArray) (pos : Nat) (h : pos < s.size) (ha : 128 ≤ (s[pos]'h).toNat) (j : Nat) (h1 : pos ≤ j) (h2 : j < pos + (Utf8.decode s pos).2) : j < s.size ∧ 128 ≤ (s.get! j).toNat := by
  have e0 : s.get! (pos + 0) = s[pos]'h := get_at s pos h
  have ha0 : 128 ≤ (s.get! pos).toNat := by rw [← e0] at ha; exact ha
  obtain ⟨k, rfl⟩ : ∃ k, j = pos + k := ⟨j - pos, by omega⟩
  have hn : ¬ (s.get! (pos + 0)).toNat < 128 := by show ¬ (s.get! pos).toNat < 128; omega
  have hk0 : k = 0 → pos + k < s.size ∧ 128 ≤ (s.get! (pos + k)).toNat := fun e => by subst e; exact ⟨by omega, ha0⟩
  have hkk : k < (Utf8.decode s pos).2 := by omega
  clear h1 h2 e0
  simp only [Utf8.decode, hn, if_false] at hkk
  split at hkk
  · rename_i hc
    simp only [Bool.and_eq_true, decide_eq_true_eq, beq_iff_eq] at hc
    split at hkk
    · have : k = 0 ∨ k = 1 := by simp only at hkk; omega
      rcases this with rfl | rfl
      · exact hk0 rfl
      · exact ⟨hc.2.1, by omega⟩
    · exact hk0 (by simp only at hkk; omega)
  · split at hkk
    · rename_i hc
      simp only [Bool.and_eq_true, decide_eq_true_eq, beq_iff_eq] at hc
      split at hkk
      · have : k = 0 ∨ k = 1 ∨ k = 2 := by simp only at hkk; omega
        rcases this with rfl | rfl | rfl
        · exact hk0 rfl
        · exact ⟨hc.1.2.1, by omega⟩
        · exact ⟨hc.2.1, by omega⟩
      · exact hk0 (by simp only at hkk; omega)
    · split at hkk
      · rename_i hc
        simp only [Bool.and_eq_true, decide_eq_true_eq, beq_iff_eq] at hc
        split at hkk
        · have : k = 0 ∨ k = 1 ∨ k = 2 ∨ k = 3 := by simp only at hkk; omega
          rcases this with rfl | rfl | rfl | rfl
          · exact hk0 rfl
          · exact ⟨hc.1.1.2.1, by omega⟩
          · exact ⟨hc.1.2.1, by omega⟩
          · exact ⟨hc.2.1, by omega⟩
        · exact hk0 (by simp only at hkk; omega)
      · exact hk0 (by simp only at hkk; omega)
/-- The iterator in block k stands at a place. -/
def itAtW (W : World) (k : Nat) (s : ByteArray) (pos : Nat) : Prop := W.heap[k]? = some (.stringIter s pos)
def setIt (W : World) (k : Nat) (s : ByteArray) (pos : Nat) : World := { W with heap := W.heap.setIfInBounds k (.stringIter s pos) }
theorem next_at {P : Program} (W : World) (k : Nat) (s : ByteArray) (pos : Nat) (ty : TypeId) (hk : itAtW W k s pos) (h : pos < s.size) :
    (Instr.next (.pointer (some ⟨k, 0, none⟩)) true ty).run P W = .ok (.tuple #[.bool true, .int .i64 pos, .int .i32 (Utf8.decode s pos).1]) (setIt W k s (pos + (Utf8.decode s pos).2)) := by
  unfold itAtW at hk
  simp only [Instr.next, getObj, setObj, Sem.run_bind, Sem.run, hk, Result.andThen, h, if_true, setIt]
  simp [goInt, hk, Sem.run]
theorem next_end {P : Program} (W : World) (k : Nat) (s : ByteArray) (pos : Nat) (ty : TypeId) (hk : itAtW W k s pos) (h : ¬ pos < s.size) :
    (Instr.next (.pointer (some ⟨k, 0, none⟩)) true ty).run P W = .ok (.tuple #[.bool false]) W := by
  unfold itAtW at hk
  simp [Instr.next, getObj, Sem.run, hk, h]
theorem setIt_at (W : World) (k : Nat) (s : ByteArray) (p q : Nat) (h : itAtW W k s p) : itAtW (setIt W k s q) k s q := by
  have hlt : k < W.heap.size := (Array.getElem?_eq_some_iff.1 h).1
  show (W.heap.setIfInBounds k (.stringIter s q))[k]? = _
  simp [hlt]
theorem setIt_below {B : Nat} {w W : World} (h : Below B w W) (k : Nat) (hk : B ≤ k) (s : ByteArray) (q : Nat) : Below B w (setIt W k s q) :=
  ⟨h.os, h.tape, h.output, by show w.heap.size ≤ (W.heap.setIfInBounds k (.stringIter s q)).size; rw [Array.size_setIfInBounds]; exact h.size, fun i hi => by
    show (W.heap.setIfInBounds k (.stringIter s q))[i]? = _
    rw [Array.getElem?_setIfInBounds_ne (by omega)]
    exact h.block i hi⟩
theorem itAtW.below {w w' : World} {k : Nat} {s : ByteArray} {p : Nat} (h : itAtW w k s p) (hb : Below w.heap.size w w') : itAtW w' k s p := (hb.block k (Array.getElem?_eq_some_iff.1 h).1).trans h
set_option maxRecDepth 20000 in
set_option maxHeartbeats 8000000 in
/-- A rune that is no ASCII byte is not among ASCII bytes. -/
theorem irune_none (ch : ByteArray) (r : Int) (w : World) (h2 : 2 ≤ ch.size) (h8 : ch.size ≤ 1000) (hch : ∀ b ∈ ch.data.toList, b.toNat < 128) (hr : 128 ≤ r) (hr2 : r ≤ 2147483647) :
    Calls Tryz.prog 144 #[.string ch, .int .i32 r] w fun e w' => e = .returned (.int .i64 (-1)) ∧ Below w.heap.size w w' := by
  have HC : Hid (∀ (j : Nat) (h : j < ch.size), (ch[j]'h).toNat < 128) := Lib.hid (fun j h => hch _ (by
    have := Lib.data_getElem? ch j h
    exact List.mem_of_getElem? this))
  have HC2 := Lib.hid hch
  clear hch
  have b1 : decide (0 ≤ r) = true := by simp; omega
  have b2 : decide (r < 128) = false := by simp; omega
  by_cases hE : r = 65533
  · subst hE
    go_enter Tryz.func144, Tryz.ntmps144
    go_wp2_with fail
    go_loopg [5, 6] ch.size (fun g _ _ wx => ∃ i : Nat, i ≤ ch.size ∧ g = ch.size - i ∧ itAtW wx w.heap.size ch i ∧ Below w.heap.size w wx)
    case atStart => exact ⟨0, Nat.zero_le _, rfl, World.iter_heap _ _ _, (Below.refl _ _).alloc (Nat.le_refl _) _⟩
    case round =>
      obtain ⟨i, hi, rfl, hit, hbw⟩ := hrel
      by_cases hlt : i < ch.size
      · have hx := HC.out i hlt
        have hnx := fun ty => next_at (P := Tryz.prog) _ _ ch i ty hit hlt
        rw [decode_ascii ch i hlt hx] at hnx
        have hit2 := setIt_at _ _ ch i (i + 1) hit
        have hbw2 := setIt_below hbw w.heap.size (Nat.le_refl _) ch (i + 1)
        generalize setIt wr w.heap.size ch (i + 1) = wy at hnx hit2 hbw2
        generalize ch[i] = x at hx hnx
        have b3 : ((x.toNat : Int) == 65533) = false := by simp; omega
        go_wp2_with fail
        go_roundg (ch.size - (i + 1))
        case measure => omega
        case rel => exact ⟨i + 1, by omega, rfl, hit2, hbw2⟩
      · have hnx := fun ty => next_end (P := Tryz.prog) _ _ ch i ty hit hlt
        go_wp2_with fail
        go_ret
        exact ⟨rfl, hbw⟩
  · have b3 : (r == 65533) = false := by simpa using hE
    go_enter Tryz.func144, Tryz.ntmps144
    go_wp2_with fail
    refine (Tryz.utf8_ValidRune r _).mono ?_
    rintro e w1 ⟨rfl, rfl⟩
    cases hv : Lib.validRune r with
    | false =>
      go_wp2_with fail
      go_ret
      exact ⟨rfl, Below.refl _ _⟩
    | true =>
      have hvv : Utf8.valid r = true := by rw [← hv, Bool.eq_iff_iff]; simp [Lib.validRune, Utf8.valid]; omega
      obtain ⟨f1, f2, f3⟩ := encode_facts r hvv hr
      obtain ⟨en, He⟩ : ∃ en, Hid (Utf8.encode r = en) := ⟨_, Lib.hid rfl⟩
      have hcv : ∀ W : World, (convert 21 9 (.int .i32 r)).run Tryz.prog W = .ok (.string en) W := fun W => by rw [← He.out]; exact run_convert_int_string W _ _ _ _ (by kernel_rfl) Tryz.underlying9
      rw [He.out] at f1 f2 f3
      obtain ⟨n, hn⟩ : ∃ n : Nat, en.size = n + 1 := ⟨en.size - 1, by omega⟩
      have hnl : n < en.size := by omega
      have f3 : 128 ≤ (en[n]'hnl).toNat := by
        have := f3 (by omega)
        simpa [hn] using this
      obtain ⟨y, hy⟩ : ∃ y, y = en[n]'hnl := ⟨_, rfl⟩
      rw [← hy] at f3
      go_wp2_with fail
      go_step3
      go_wp2_with fail
      refine wp_loop_rounds 1 ?_
      rw [rounds_succ]
      by_cases hlt : n < ch.size
      · obtain ⟨x, hx⟩ : ∃ x, x = ch[n]'hlt := ⟨_, rfl⟩
        have hx128 : x.toNat < 128 := by rw [hx]; exact HC.out n hlt
        have hxx : ch[n]'hlt = x := hx.symm
        have hyy : en[n]'hnl = y := hy.symm
        have hne : ((x.toNat : Int) == (y.toNat : Int)) = false := by simp; omega
        have hio : ∀ l : List UInt8, (∀ b ∈ l, b ∈ ch.data.toList) → Lib.indexByte l y = -1 := fun l hl => ib_none l y (fun b hb e => by
          have := HC2.out b (hl b hb)
          rw [e] at this
          omega)
        have hio2 : ∀ k, Lib.indexByte (ch.extract k ch.size).data.toList y = -1 := fun k => hio _ (fun b hb => by
          rw [ext_drop] at hb
          exact List.mem_of_mem_drop hb)
        have hio3 : Lib.indexByte (List.take (ch.size - (n + 1)) (List.drop (n + 1) ch.data.toList)) y = -1 := hio _ (fun b hb => List.mem_of_mem_drop (List.mem_of_mem_take hb))
        have hl3 : (n : Int) < (n : Int) + 1 := by omega
        have hl4 : IntKind.i64.wrap ((n : Int) + 1) = (n : Int) + 1 := i64_in _ (by omega) (by omega)
        have hl5 : (0 : Int) ≤ (n : Int) + 1 ∧ (n : Int) + 1 ≤ (ch.size : Int) := by omega
        clear hx hy
        go_wp2_with fail
        go_step3
        go_wp2_with fail
        refine wp_region_plan (fun _ => True) [(false, 0), (false, 1), (false, 2), (false, 3), (false, 4), (false, 5), (false, 6)] (by kernel_rfl) (by kernel_rfl) (trivial) ?_
        simp only [planOps, List.map, List.getD_cons_zero, List.getD_cons_succ]
        iterate 7 ((first | refine plan_quiet (v := ?_) rfl rfl (fun w' hw' => ?_) ?_ | refine plan_calm (v := ?_) (tt_of) rfl (fun w' hw' => ?_) ?_); rotate_left; (focus (go_simp <;> (first | with_reducible rfl | (rw [if_neg (by simp [undef])]; try rfl) | omega))); simp only [Act.put, List.setIfInBounds_toArray, List.set_cons_zero, List.set_cons_succ])
        refine plan_end ?_
        go_wp2_with fail
        refine wp_region_plan (fun _ => True) [(false, 0), (false, 1), (false, 2), (false, 3), (false, 4), (false, 5), (false, 6), (false, 7), (false, 8)] (by kernel_rfl) (by kernel_rfl) (trivial) ?_
        simp only [planOps, List.map, List.getD_cons_zero, List.getD_cons_succ]
        iterate 9 ((first | refine plan_quiet (v := ?_) rfl rfl (fun w' hw' => ?_) ?_ | refine plan_calm (v := ?_) (tt_of) rfl (fun w' hw' => ?_) ?_); rotate_left; (focus (go_simp <;> (first | with_reducible rfl | (rw [if_neg (by simp [undef])]; try rfl) | (refine (ibA _ _ _).mono ?_; rintro e w2 ⟨rfl, rfl⟩; constructor <;> with_reducible rfl)))); simp only [Act.put, List.setIfInBounds_toArray, List.set_cons_zero, List.set_cons_succ])
        refine plan_end ?_
        go_wp2_with fail
        simp only [Exit.noGoto, Exit.inBlock, Exit.then]
        go_ret
        exact ⟨rfl, ((Below.refl _ _).drew).drew⟩
      · go_wp2_with fail
        simp only [Exit.noGoto, Exit.inBlock, Exit.then]
        go_ret
        exact ⟨rfl, Below.refl _ _⟩
set_option maxRecDepth 20000 in
set_option maxHeartbeats 8000000 in
/-- strings.IndexAny in a short text. -/
theorem iany_short (s ch : ByteArray) (w : World) (h2 : 2 ≤ ch.size) (hc8 : ch.size ≤ 1000) (h8 : s.size ≤ 8) (hch : ∀ b ∈ ch.data.toList, b.toNat < 128) :
    Calls Tryz.prog 127 #[.string s, .string ch] w fun e w' => e = .returned (.int .i64 (Lib.indexAny s.data.toList ch.data.toList)) ∧ Below w.heap.size w w' := by
  have HC := Lib.hid hch
  clear hch
  have n1 : ¬ ch.toList = [] := toList_ne ch (by omega)
  have n2 : ch.toList.isEmpty = false := by simpa using n1
  have hn1 : ((ch.size : Int) == 1) = false := by simp; omega
  have h8z : decide ((8 : Int) < (s.size : Int)) = false := by simp; omega
  go_enter Tryz.func127, Tryz.ntmps127
  go_wp2_with fail
  refine (Tryz.strings_shouldUseASCIISet (s.size : Int) _).mono ?_
  rintro e wq ⟨rfl, hwq⟩
  rw [hwq, h8z]
  go_wp2_with fail
  go_loopg [9, 10] s.size (fun g _ _ wx => ∃ i : Nat, i ≤ s.size ∧ g = s.size - i ∧ itAtW wx w.heap.size s i ∧ Below w.heap.size w wx ∧ Hid (Lib.NoAny s.data.toList ch.data.toList i))
  case atStart => exact ⟨0, Nat.zero_le _, rfl, World.iter_heap _ _ _, (Below.refl _ _).alloc (Nat.le_refl _) _, Lib.hid (Lib.NoAny.zero _ _)⟩
  case round =>
    obtain ⟨i, hi, rfl, hit, hbw, HN⟩ := hrel
    by_cases hlt : i < s.size
    · have hnx := fun ty => next_at (P := Tryz.prog) _ _ s i ty hit hlt
      have hxl : s.data.toList[i]? = some (s[i]'hlt) := Lib.data_getElem? s i hlt
      by_cases hx : (s[i]'hlt).toNat < 128
      · rw [decode_ascii s i hlt hx] at hnx
        have hit2 := setIt_at _ _ s i (i + 1) hit
        have hbw2 := setIt_below hbw w.heap.size (Nat.le_refl _) s (i + 1)
        generalize setIt wr w.heap.size s (i + 1) = wy at hnx hit2 hbw2
        generalize s[i] = x at hx hnx hxl
        have HX := Lib.hid hxl
        clear hxl hit hbw
        have hback : ((x.toNat : Int)).toNat.toUInt8 = x := by simp
        have hcon := Lib.contains_iff_indexByte ch.data.toList x
        go_wp2_with fail
        refine (Tryz.strings_IndexRune_ascii ch x.toNat _ (by omega) (by omega)).mono ?_
        rintro e wz ⟨rfl, rfl⟩
        rw [hback]
        cases hcc : ch.data.toList.contains x with
        | true =>
          rw [hcc] at hcon
          have hd : decide ((0 : Int) ≤ Lib.indexByte ch.data.toList x) = true := hcon.symm
          have HR : Hid (Lib.indexAny s.data.toList ch.data.toList = i) := Lib.hid (Lib.indexAny_hit HN.out HX.out hcc)
          clear hcon
          go_wp2_with fail
          go_ret
          exact ⟨by rw [HR.out]; rfl, hbw2⟩
        | false =>
          rw [hcc] at hcon
          have hd : decide ((0 : Int) ≤ Lib.indexByte ch.data.toList x) = false := hcon.symm
          have HR : Hid (Lib.NoAny s.data.toList ch.data.toList (i + 1)) := Lib.hid (HN.out.succ HX.out hcc)
          clear hcon
          go_wp2_with fail
          go_roundg (s.size - (i + 1))
          case measure => omega
          case rel => exact ⟨i + 1, by omega, rfl, hit2, hbw2, HR⟩
      · have hhi := decode_high s i hlt (by omega)
        have hle := decode_le s i
        have HD := Lib.hid (decode_cont s i hlt (by omega))
        have hw1 : i + (Utf8.decode s i).2 ≤ s.size := by
          have := (HD.out (i + (Utf8.decode s i).2 - 1) (by omega) (by omega)).1
          omega
        have HR : Hid (Lib.NoAny s.data.toList ch.data.toList (i + (Utf8.decode s i).2)) := Lib.hid (fun j b hj hb => by
          by_cases hji : j < i
          · exact HN.out j b hji hb
          · obtain ⟨hjs, hjb⟩ := HD.out j (by omega) hj
            have hjl := Lib.data_getElem? s j hjs
            rw [hjl] at hb
            injection hb with hb
            have e0 : s.get! (j + 0) = s[j]'hjs := get_at s j hjs
            have e1 : s.get! j = s[j]'hjs := e0
            rw [e1, hb] at hjb
            cases hcc : ch.data.toList.contains b with
            | false => rfl
            | true =>
              have := HC.out b (by simpa using hcc)
              omega)
        have hit2 := setIt_at _ _ s i (i + (Utf8.decode s i).2) hit
        have hbw2 := setIt_below hbw w.heap.size (Nat.le_refl _) s (i + (Utf8.decode s i).2)
        clear HD hx hxl
        generalize (Utf8.decode s i).1 = r at hnx hhi hle
        generalize (Utf8.decode s i).2 = d at hnx hhi hw1 HR hit2 hbw2
        generalize setIt wr w.heap.size s (i + d) = wy at hnx hit2 hbw2
        clear hit hbw
        go_wp2_with fail
        refine (irune_none ch r _ h2 hc8 HC.out (by omega) (by omega)).mono ?_
        rintro e wz ⟨rfl, hbz⟩
        have hit3 := hit2.below hbz
        have hbw3 := hbw2.trans (hbz.mono hbw2.size)
        go_wp2_with fail
        go_roundg (s.size - (i + d))
        case measure => omega
        case rel => exact ⟨i + d, by omega, rfl, hit3, hbw3, HR⟩
    · have hnx := fun ty => next_end (P := Tryz.prog) _ _ s i ty hit hlt
      have HR : Hid (Lib.indexAny s.data.toList ch.data.toList = -1) := Lib.hid (Lib.indexAny_none (by
        have : i = s.data.toList.length := by rw [← Lib.size_eq]; omega
        rw [← this]; exact HN.out))
      go_wp2_with fail
      go_ret
      exact ⟨by rw [HR.out]; rfl, hbw⟩
/-- strings.IndexAny at some ASCII bytes. -/
theorem iany (s ch : ByteArray) (w : World) (hs : s.size < 4294967281) (h2 : 2 ≤ ch.size) (hc8 : ch.size ≤ 1000) (hch : ∀ b ∈ ch.data.toList, b.toNat < 128) :
    Calls Tryz.prog 127 #[.string s, .string ch] w fun e w' => e = .returned (.int .i64 (Lib.indexAny s.data.toList ch.data.toList)) ∧ Below w.heap.size w w' := by
  by_cases h8 : s.size ≤ 8
  · exact iany_short s ch w h2 hc8 h8 hch
  · refine (Tryz.strings_IndexAny_long (zero_of_info (n := 256) (by kernel_rfl)).1 s ch w h2 (by omega) hs (by omega) (fun j b hb => hch b (List.mem_of_getElem? hb))).mono fun e w' ⟨h1, h2⟩ => ⟨h1, ?_⟩
    rw [h2]
    exact ((Below.refl _ _).alloc (Nat.le_refl _) _).alloc (by simp) _
end Go.Proofs.YtpheifdpjcppdaaGreatDoor
