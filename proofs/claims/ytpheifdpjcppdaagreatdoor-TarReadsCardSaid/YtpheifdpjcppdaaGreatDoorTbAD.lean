/- Maps from texts to whatever values, in memory: the look-up, what is put in, how many. Over any program. Walks of strings.Cut at one byte; of the document's Find (out of XCut, XCpHS). Walks of codec's Undec and Unoctal, at this seat (out of XArR). Tar, in plain words: what is read. What tar.readHead has in memory; the walks of its closures. Tar, in plain words: the first record of some bytes, as the program reads it. -/
import Derived.Test.YtpheifdpjcppdaaGreatDoorTxt
import Derived.MapKept
import Derived.Test.YtpheifdpjcppdaaGreatDoorShelfV
import Derived.Test.YtpheifdpjcppdaaGreatDoorPlaF
import Derived.Test.YtpheifdpjcppdaaGreatDoorShelfW
import Derived.Test.YtpheifdpjcppdaaGreatDoorBasM
import Derived.Test.YtpheifdpjcppdaaGreatDoorCodT
import Derived.Test.YtpheifdpjcppdaaGreatDoorShelfT
import Derived.Shelf.Strings.SlTrimAscii
import Derived.Test.YtpheifdpjcppdaaGreatDoorTaAC
import Derived.Test.YtpheifdpjcppdaaGreatDoorEnA
import Derived.Test.YtpheifdpjcppdaaGreatDoorTaDG
namespace Go.Proofs.YtpheifdpjcppdaaGreatDoor
open Go.RowKit
/-- What stands at a text: the first one counts. -/
def lookS (k : List UInt8) : List MapEntry → Option Value
  | [] => none
  | e :: es => match e.key with
    | .string s => if s.data.toList = k then some e.val else lookS k es
    | _ => lookS k es
theorem look_cons {e : MapEntry} {k0 : List UInt8} (h : e.key = .string (bs k0)) (k : List UInt8) (es : List MapEntry) : lookS k (e :: es) = if k0 = k then some e.val else lookS k es := by
  rw [lookS, h]
  rfl
def StrKeys (l : List MapEntry) : Prop := ∀ x ∈ l, ∃ k, x.key = .string (bs k)
theorem bs_inj {a b : List UInt8} (h : bs a = bs b) : a = b := by
  have := congrArg (fun x => x.data.toList) h
  simpa [bs_list] using this
/-- A map's object: what stands at each text. -/
def MapS (mo : Obj) (m : List UInt8 → Option Value) : Prop :=
  ∃ es c, mo = .map es c ∧ StrKeys es.toList ∧ ∀ k, lookS k es.toList = m k
def updS {α : Type} (m : List UInt8 → Option α) (k : List UInt8) (v : α) : List UInt8 → Option α := fun y => if y = k then some v else m y
theorem MapS.nil : MapS (.map #[] 0) (fun _ => none) := ⟨#[], 0, rfl, (fun x h => by cases h), fun _ => rfl⟩
theorem MapS.isMap {mo : Obj} {m : List UInt8 → Option Value} (h : MapS mo m) : ∃ es c, mo = .map es c := by
  obtain ⟨es, c, h, _⟩ := h
  exact ⟨es, c, h⟩
theorem find_now (k : List UInt8) : ∀ (l : List MapEntry) (i : Nat), StrKeys l →
    (Instr.findNow .string (.string (bs k)) l i = some none ∧ lookS k l = none) ∨
      ∃ j e, Instr.findNow .string (.string (bs k)) l i = some (some (i + j, e.val)) ∧ lookS k l = some e.val ∧ l[j]? = some e ∧ e.key = .string (bs k) ∧
        ∀ k' val, lookS k' (l.modify j fun e => { e with key := .string (bs k), val := val }) = if k' = k then some val else lookS k' l
  | [], _, _ => .inl ⟨rfl, rfl⟩
  | e :: es, i, h => by
    obtain ⟨k0, h0⟩ := h e (.head _)
    by_cases hk : k0 = k
    · subst hk
      refine .inr ⟨0, e, ?_, ?_, rfl, h0, fun k' val => ?_⟩
      · have hs : Instr.sameNow .string (.string (bs k0)) e.key = some true := by
          rw [h0]
          show some (bs k0 == bs k0) = some true
          rw [(MapKept.bytes_beq _ _).2 rfl]
        simp [Instr.findNow, hs]
      · rw [look_cons h0, if_pos rfl]
      · rw [List.modify_zero_cons, look_cons (e := { e with key := .string (bs k0), val := val }) rfl, look_cons h0]
        by_cases hk' : k' = k0
        · subst hk'; rw [if_pos rfl, if_pos rfl]
        · rw [if_neg (fun q => hk' q.symm), if_neg hk', if_neg (fun q => hk' q.symm)]
    · have hs : Instr.sameNow .string (.string (bs k)) e.key = some false := by
        rw [h0]
        show some (bs k == bs k0) = some false
        congr 1
        cases hq : (bs k == bs k0) with
        | false => rfl
        | true => exact absurd (bs_inj ((MapKept.bytes_beq _ _).1 hq)).symm hk
      rcases find_now k es (i + 1) (fun x hx => h x (.tail _ hx)) with ⟨h1, h2⟩ | ⟨j, e', h1, h2, h3, h4, h5⟩
      · exact .inl ⟨by simp [Instr.findNow, hs, h1], by rw [look_cons h0, if_neg hk, h2]⟩
      · refine .inr ⟨j + 1, e', by simp [Instr.findNow, hs, h1]; omega, by rw [look_cons h0, if_neg hk, h2], by simpa using h3, h4, fun k' val => ?_⟩
        rw [List.modify_succ_cons, look_cons h0, look_cons h0, h5 k' val]
        by_cases hk' : k' = k
        · subst hk'; rw [if_neg hk, if_pos rfl, if_pos rfl]
        · rw [if_neg hk', if_neg hk']
theorem look_snoc (k k0 : List UInt8) (e : MapEntry) (h0 : e.key = .string (bs k0)) : ∀ l : List MapEntry, StrKeys l → lookS k (l ++ [e]) = (lookS k l).or (if k0 = k then some e.val else none)
  | [], _ => by rw [List.nil_append, look_cons h0]; simp [lookS]
  | x :: l, h => by
    obtain ⟨k1, h1⟩ := h x (.head _)
    rw [List.cons_append, look_cons h1, look_cons h1, look_snoc k k0 e h0 l fun y hy => h y (.tail _ hy)]
    split <;> simp
section
variable {P : Program} (w : World) {t vt kt : TypeId}
/-- 'm[k]' with ok. -/
theorem mapS_get (hm : P.underlying t = some (.map kt vt)) (hk : P.underlying kt = some .string) {z : Value} (hz : ∀ w, (zeroValue vt).run P w = .ok z w)
    {b : Nat} {mo : Obj} {m : List UInt8 → Option Value} (hb : w.heap[b]? = some mo) (h : MapS mo m) (k : List UInt8) :
    (Instr.lookup t (.map (some b)) (.string (bs k)) true).run P w = .ok (.tuple #[(m k).getD z, .bool (m k).isSome]) w := by
  obtain ⟨es, c, rfl, h1, h2⟩ := h
  have hc : (Instr.checkKey es.isEmpty 10000 kt (.string (bs k))).run P w = .ok () w := MapKept.run_checkKey hk (by simp [MapKept.IsKey]) es.isEmpty 9999
  rw [← h2 k]
  rcases find_now k es.toList 0 h1 with ⟨h3, h4⟩ | ⟨j, e, h3, h4, _⟩
  · have hf := MapKept.run_findKey (w := w) hk h3
    simp only [Instr.lookup, Sem.run_bind, run_underlying hm, Result.andThen_ok, MapKept.run_getObj_map hb, Sem.run_pure, hc, hf, h4]
    simp [hz]
  · have hf := MapKept.run_findKey (w := w) hk h3
    simp only [Instr.lookup, Sem.run_bind, run_underlying hm, Result.andThen_ok, MapKept.run_getObj_map hb, Sem.run_pure, hc, hf, h4]
    simp
/-- 'm[k] = v'. -/
theorem mapS_put (hm : P.underlying t = some (.map kt vt)) (hk : P.underlying kt = some .string)
    {b : Nat} {mo : Obj} {m : List UInt8 → Option Value} (hb : w.heap[b]? = some mo) (h : MapS mo m) (k : List UInt8) (v : Value) :
    ∃ mo', MapS mo' (updS m k v) ∧ (Instr.mapUpdate t (.map (some b)) (.string (bs k)) v).run P w = .ok () { w with heap := w.heap.setIfInBounds b mo' } := by
  obtain ⟨es, c, rfl, h1, h2⟩ := h
  have hc : (Instr.checkKey false 10000 kt (.string (bs k))).run P w = .ok () w := MapKept.run_checkKey hk (by simp [MapKept.IsKey]) false 9999
  rcases find_now k es.toList 0 h1 with ⟨h3, h4⟩ | ⟨j, e, h3, h4, h5, h6, h7⟩
  · have hf := MapKept.run_findKey (w := w) hk h3
    refine ⟨.map (es.push { key := .string (bs k), val := v, born := c }) (c + 1), ⟨_, _, rfl, fun x hx => ?_, fun y => ?_⟩, ?_⟩
    · rw [Array.toList_push, List.mem_append, List.mem_singleton] at hx
      rcases hx with hx | rfl
      · exact h1 x hx
      · exact ⟨k, rfl⟩
    · rw [Array.toList_push, look_snoc y k _ rfl _ h1, updS]
      by_cases hy : y = k
      · subst hy; rw [h4, if_pos rfl]; simp
      · rw [if_neg hy, if_neg (fun q => hy q.symm), h2]
        simp
    · simp only [Instr.mapUpdate, Sem.run_bind, run_underlying hm, Result.andThen_ok, MapKept.run_getObj_map hb, hc, hf, MapKept.run_setObj_map _ hb]
  · have hf := MapKept.run_findKey (w := w) hk h3
    have hj : es[j]? = some e := by simpa using h5
    have hkt : (Instr.keyThatStays (.string (bs k)) (.string (bs k))).run P w = .ok (.string (bs k)) w := MapKept.run_keyThatStays (d := .string) (by simp [MapKept.IsKey])
    refine ⟨.map (es.modify j fun e => { e with key := .string (bs k), val := v }) c, ⟨_, _, rfl, fun x hx => ?_, fun y => ?_⟩, ?_⟩
    · rw [Array.toList_modify] at hx
      obtain ⟨i, hi⟩ := List.mem_iff_getElem?.1 hx
      rw [List.getElem?_modify] at hi
      by_cases hij : j = i
      · subst hij
        rw [h5] at hi
        simp at hi
        exact ⟨k, by rw [← hi]⟩
      · simp [hij] at hi
        exact h1 x (List.mem_iff_getElem?.2 ⟨i, by simpa using hi⟩)
    · rw [Array.toList_modify, h7, updS, h2]
    · simp only [Instr.mapUpdate, Sem.run_bind, run_underlying hm, Result.andThen_ok, MapKept.run_getObj_map hb, hc, hf, Nat.zero_add, hj, Option.map_some, Option.getD_some, h6, hkt, MapKept.run_setObj_map _ hb]
/-- 'len(m)'. -/
theorem mapS_len (hm : P.underlying t = some (.map kt vt)) {b : Nat} {mo : Obj} {m : List UInt8 → Option Value} (hb : w.heap[b]? = some mo) (h : MapS mo m) :
    ∃ n : Nat, (n = 0 ↔ ∀ k, m k = none) ∧ ∀ ty, (Builtin.len_ #[t] ty #[.map (some b)]).run P w = .ok (.int .i64 (n : Int)) w := by
  obtain ⟨es, c, rfl, h1, h2⟩ := h
  refine ⟨es.size, ⟨fun h0 k => ?_, fun h0 => ?_⟩, fun ty => by simp [Builtin.len_, run_underlying hm, MapKept.run_getObj_map hb, goInt, Result.andThen]⟩
  · have : es = #[] := Array.eq_empty_of_size_eq_zero h0
    rw [← h2 k, this]; rfl
  · rw [← Array.length_toList]
    cases hl : es.toList with
    | nil => rfl
    | cons e l =>
      obtain ⟨k, hk⟩ := h1 e (by rw [hl]; exact .head _)
      have h3 := h2 k
      rw [h0 k, hl, look_cons hk, if_pos rfl] at h3
      cases h3
theorem wpList_lenS {ops : Array Oper} {rest : List Oper} {o : Oper} {a : Act} {Q : Exit → Act → World → Prop} (hg : o.guard = none) (mo : Operand) (hop : o.op = Op.call { callee := Callee.builtin Builtin.len, args := #[mo], argTypes := #[t] }) {x : Value} (hx : a.eval mo = x) (n : Nat)
    (hr : ∀ ty, (Builtin.len_ #[t] ty #[x]).run P w = .ok (.int .i64 (n : Int)) w) (hK : wpList P ops Q rest (a.put o.dst (.int .i64 (n : Int))) w) : wpList P ops Q (o :: rest) a w := by
  refine wpList_plain hg fun K' hK' => ?_
  unfold Oper.wp
  simp [execOp, hop, resolve, invoke, builtin, hx, hr, Result.andThen]
  exact hK' _ _ hK
end
end Go.Proofs.YtpheifdpjcppdaaGreatDoor
namespace Go.Proofs.YtpheifdpjcppdaaGreatDoor
open Go.RowKit
theorem beq_byteT (a b : UInt8) : ((a.toNat : Int) == (b.toNat : Int)) = decide (a = b) := by
  by_cases h : a = b
  · subst h; simp
  · have : ¬ a.toNat = b.toNat := fun e => h (UInt8.toNat_inj.1 e)
    simp [h]; omega
theorem indexByte_lt (l : List UInt8) (c : UInt8) : Lib.indexByte l c < l.length := by
  induction l with
  | nil => simp [Lib.indexByte]
  | cons b r ih =>
    simp only [Lib.indexByte, List.length_cons]
    split
    · omega
    · split <;> omega
/-- A byte looked for from place k on. -/
def findFrom (c : UInt8) : List UInt8 → Nat → Int
  | [], _ => -1
  | x :: r, k => if x = c then k else findFrom c r (k + 1)
theorem findFrom_eq (c : UInt8) : ∀ (l : List UInt8) (k : Nat), findFrom c l k = if Lib.indexByte l c = -1 then -1 else k + Lib.indexByte l c
  | [], k => by simp [findFrom, Lib.indexByte]
  | x :: r, k => by
    have ih := findFrom_eq c r (k + 1)
    have hge := Lib.indexByte_ge r c
    simp only [findFrom, Lib.indexByte]
    by_cases h : x = c
    · subst h; simp
    · rw [if_neg h, ih]
      simp only [beq_iff_eq, h, if_false]
      by_cases h2 : Lib.indexByte r c = -1
      · simp [h2]
      · rw [if_neg h2]
        simp only [h2, if_false]
        rw [if_neg (by omega)]
        omega
theorem findFrom_zero (c : UInt8) (l : List UInt8) : findFrom c l 0 = Lib.indexByte l c := by
  rw [findFrom_eq]
  split
  · rename_i h; exact h.symm
  · simp
theorem findFrom_hit (c : UInt8) (l : List UInt8) (k : Nat) (h : k < l.length) (e : l[k] = c) : findFrom c (l.drop k) k = k := by
  rw [List.drop_eq_getElem_cons h]
  exact if_pos e
theorem findFrom_miss (c : UInt8) (l : List UInt8) (k : Nat) (h : k < l.length) (e : ¬ l[k] = c) : findFrom c (l.drop k) k = findFrom c (l.drop (k + 1)) (k + 1) := by
  conv => lhs; rw [List.drop_eq_getElem_cons h]
  exact if_neg e
theorem findFrom_end (c : UInt8) (l : List UInt8) (k : Nat) (h : l.length ≤ k) : findFrom c (l.drop k) k = -1 := by
  rw [List.drop_of_length_le h]
  rfl
set_option maxHeartbeats 400000 in
theorem find_any (s : ByteArray) (c : UInt8) (w : World) (hs : s.size ≤ 1000000000000) :
    Calls Tryz.prog 80 #[.string s, .int .u8 (c.toNat : Int)] w fun e w' => e = .returned (.int .i64 (Lib.indexByte s.data.toList c)) ∧ w = w' := by
  go_enter Tryz.func80, Tryz.ntmps80
  go_wp2
  go_loop [5] (fun i => ∃ k : Nat, k ≤ s.size ∧ i = .int .i64 k ∧ Hid (Lib.indexByte s.data.toList c = findFrom c (s.data.toList.drop k) k)) (fun i => s.size - (intOf i).toNat)
  case atStart => exact ⟨0, Nat.zero_le _, rfl, (findFrom_zero c _).symm⟩
  case round =>
    obtain ⟨k, hk, rfl, HE⟩ := hrel
    by_cases hlt : k < s.size
    · have hlt' : k < s.data.toList.length := by simpa using hlt
      by_cases hc : s[k] = c
      · have hb : ((s[k].toNat : Int) == (c.toNat : Int)) = true := by rw [beq_byteT]; simp [hc]
        have HF := Lib.hid (findFrom_hit c s.data.toList k hlt' hc)
        clear hc
        go_wp2
        go_ret
        exact ⟨by rw [HE.out, HF.out]; rfl, rfl⟩
      · have hb : ((s[k].toNat : Int) == (c.toNat : Int)) = false := by rw [beq_byteT]; simp [hc]
        have HF := Lib.hid (findFrom_miss c s.data.toList k hlt' hc)
        clear hc
        go_wp2
        go_round
        case rel => exact ⟨k + 1, by omega, by go_num, HE.out.trans HF.out⟩
        case measure => simp [intOf]; omega
    · go_wp2
      go_ret
      exact ⟨by rw [HE.out, findFrom_end c _ k (by simp; omega)]; rfl, rfl⟩

/-- Is the byte among these? -/
def inB (o : List UInt8) (c : UInt8) : Bool := decide (0 ≤ Lib.indexByte o c)
theorem ib (s : ByteArray) (b : UInt8) (w : World) : Calls Tryz.prog 34 #[.string s, .int .u8 (b.toNat : Int)] w fun e w' => e = .returned (.int .i64 (Lib.indexByte s.data.toList b)) ∧ w = w' :=
  (Tryz.strings_IndexByte s _ w).mono fun e w' ⟨h1, h2⟩ => ⟨by simpa using h1, h2.symm⟩
/-- A text ahead of a byte's first place, behind it, and whether it is there. -/
def cutA (l : List UInt8) (c : UInt8) : List UInt8 := if inB l c = true then l.take (Lib.indexByte l c).toNat else l
def cutB (l : List UInt8) (c : UInt8) : List UInt8 := if inB l c = true then l.drop ((Lib.indexByte l c).toNat + 1) else []
theorem idx1 (s : ByteArray) (c : UInt8) (w : World) : Calls Tryz.prog 116 #[.string s, .string ⟨#[c]⟩] w fun e w' => e = .returned (.int .i64 (Lib.indexByte s.data.toList c)) ∧ w = w' :=
  (Tryz.stringslite_Index_one s c w).mono fun e w' ⟨h1, h2⟩ => ⟨h1, h2.symm⟩
set_option maxRecDepth 20000 in
set_option maxHeartbeats 1000000 in
theorem lcut_any (s : ByteArray) (c : UInt8) (w : World) (hs : s.size ≤ 1000000000000) :
    Calls Tryz.prog 97 #[.string s, .string ⟨#[c]⟩] w fun e w' => e = .returned (.tuple #[.string (bs (cutA s.data.toList c)), .string (bs (cutB s.data.toList c)), .bool (inB s.data.toList c)]) ∧ Below w.heap.size w w' := by
  have hge := Lib.indexByte_ge s.data.toList c
  have hlt := indexByte_lt s.data.toList c
  by_cases h0 : 0 ≤ Lib.indexByte s.data.toList c
  · obtain ⟨k, hk⟩ := Int.eq_ofNat_of_zero_le h0
    have hkl : k < s.size := by simp at hlt; omega
    go_enter Tryz.func97, Tryz.ntmps97
    go_wp2_with fail
    refine (idx1 s c _).mono ?_
    rintro e w1 ⟨rfl, rfl⟩
    have hin : inB s.data.toList c = true := by simp [inB, h0]
    have HA : Hid (s.extract 0 k = bs (cutA s.data.toList c)) := Lib.hid (by rw [cutA, if_pos hin, hk, ext_take s k (by omega)]; simp)
    have HB : Hid (s.extract (k + 1) s.size = bs (cutB s.data.toList c)) := Lib.hid (by rw [cutB, if_pos hin, hk, ext_drop]; simp)
    have HI := Lib.hid hin
    rw [hk]
    clear hk h0 hlt hge hin
    have hi1 : (0 : Int) ≤ (k : Int) := by omega
    have hi2 : (k : Int) ≤ (s.size : Int) := by omega
    have hi3 : (0 : Int) ≤ (k : Int) + 1 := by omega
    have hi4 : (k : Int) + 1 ≤ (s.size : Int) := by omega
    have hi5 : ((k : Int) + 1).toNat = k + 1 := by omega
    have hi6 : IntKind.i64.wrap ((k : Int) + 1) = (k : Int) + 1 := i64_in _ (by omega) (by omega)
    go_wp2_with fail
    refine wp_region_plan (fun _ => True) [(false, 0), (false, 1), (false, 2), (false, 3), (false, 4), (false, 5), (false, 6), (false, 7), (false, 8), (false, 9), (false, 10), (false, 11)] (by kernel_rfl) (by kernel_rfl) (trivial) ?_
    simp only [planOps, List.map, List.getD_cons_zero, List.getD_cons_succ]
    iterate 12 ((first | refine plan_quiet (v := ?_) rfl rfl (fun w' hw' => ?_) ?_ | refine plan_calm (v := ?_) (tt_of) rfl (fun w' hw' => ?_) ?_); rotate_left; (focus (go_simp <;> (first | with_reducible rfl | (rw [if_neg (by simp [undef])]; try rfl) | omega))); simp only [Act.put, List.setIfInBounds_toArray, List.set_cons_zero, List.set_cons_succ])
    refine plan_end ?_
    go_wp2_with fail
    go_ret3
    exact ⟨by rw [← HA.out, ← HB.out, HI.out]; rfl, (Below.refl _ _).drew⟩
  · have hin : inB s.data.toList c = false := by simp [inB]; omega
    have h1 : Lib.indexByte s.data.toList c = -1 := by omega
    have HA : Hid (s = bs (cutA s.data.toList c)) := Lib.hid (by rw [cutA, if_neg (by rw [hin]; simp)]; rfl)
    have HB : Hid (⟨#[]⟩ = bs (cutB s.data.toList c)) := Lib.hid (by rw [cutB, if_neg (by rw [hin]; simp)]; rfl)
    have HI := Lib.hid hin
    go_enter Tryz.func97, Tryz.ntmps97
    go_wp2_with fail
    refine (idx1 s c _).mono ?_
    rintro e w1 ⟨rfl, rfl⟩
    rw [h1]
    clear hlt hge hin h0 h1
    go_wp2_with fail
    go_ret3
    exact ⟨by rw [← HA.out, ← HB.out, HI.out]; rfl, Below.refl _ _⟩
set_option maxHeartbeats 400000 in
theorem cut_any (s : ByteArray) (c : UInt8) (w : World) (hs : s.size ≤ 1000000000000) :
    Calls Tryz.prog 68 #[.string s, .string ⟨#[c]⟩] w fun e w' => e = .returned (.tuple #[.string (bs (cutA s.data.toList c)), .string (bs (cutB s.data.toList c)), .bool (inB s.data.toList c)]) ∧ Below w.heap.size w w' := by
  go_enter Tryz.func68, Tryz.ntmps68
  go_wp2_with fail
  refine (lcut_any s c _ hs).mono ?_
  rintro e w1 ⟨rfl, hb1⟩
  go_wp2_with fail
  go_ret3
  exact ⟨rfl, hb1⟩
end Go.Proofs.YtpheifdpjcppdaaGreatDoor
namespace Go.Proofs.YtpheifdpjcppdaaGreatDoor
open Go.RowKit
theorem dig_cases (c : UInt8) (h : isDig c = false) : decide ((c.toNat : Int) < 48) = true ∨ (decide ((c.toNat : Int) < 48) = false ∧ decide (57 < (c.toNat : Int)) = true) := by
  simp only [isDig, Bool.and_eq_false_iff, decide_eq_false_iff_not] at h
  by_cases h1 : c.toNat < 48
  · exact .inl (by simp; omega)
  · exact .inr ⟨by simp; omega, by simp; omega⟩
theorem dig_yes (c : UInt8) (h : isDig c = true) : decide ((c.toNat : Int) < 48) = false ∧ decide (57 < (c.toNat : Int)) = false ∧ ∃ d : Nat, d ≤ 9 ∧ Hid (d = c.toNat - 48) ∧ (c.toNat : Int) - 48 = (d : Int) := by
  simp only [isDig, Bool.and_eq_true, decide_eq_true_eq] at h
  exact ⟨by simp; omega, by simp; omega, c.toNat - 48, by omega, Lib.hid rfl, by omega⟩
theorem headBad_long (s : ByteArray) (h : 1 < s.size) (h0 : s[0].toNat = 48) : headBad s.data.toList = true := by
  obtain ⟨⟨l⟩⟩ := s
  match l, h with
  | c :: d :: r, _ =>
    have : c.toNat = 48 := h0
    simp [headBad, this]
theorem headBad_no (s : ByteArray) (h : 0 < s.size) (h0 : 1 < s.size → ¬ s[0].toNat = 48) : headBad s.data.toList = false := by
  obtain ⟨⟨l⟩⟩ := s
  match l, h, h0 with
  | [c], _, _ => simp [headBad]
  | c :: d :: r, _, h0 =>
    have : ¬ c.toNat = 48 := h0 (by show 1 < (c :: d :: r).length; simp)
    simp [headBad, this]
set_option maxHeartbeats 2000000 in
theorem undec_any (s : ByteArray) (w : World) (hs : s.size ≤ 1000000000000) :
    Calls Tryz.prog 101 #[.string s] w fun e w' => e = .returned (.tuple #[.int .i64 (udN s.data.toList), .int .i64 (udCode s.data.toList)]) ∧ w = w' := by
  rcases Nat.eq_zero_or_pos s.size with h0 | h0
  · obtain rfl : s = ⟨#[]⟩ := by obtain ⟨a⟩ := s; congr 1; exact Array.eq_empty_of_size_eq_zero h0
    go_enter Tryz.func101, Tryz.ntmps101
    go_wp2
    go_ret2
    exact ⟨rfl, rfl⟩
  · have hne2 : ¬ s.toList = [] := toList_ne s h0
    have hne : s.toList.isEmpty = false := by simpa using hne2
    by_cases h1 : 1 < s.size
    · have hd1 : decide ((1 : Int) < (s.size : Int)) = true := by simp; omega
      by_cases h2 : s[0].toNat = 48
      · have hb : ((s[0].toNat : Int) == 48) = true := by rw [h2]; rfl
        have Hf := Lib.hid (ud_head _ (headBad_long s h1 h2))
        clear h2
        go_enter Tryz.func101, Tryz.ntmps101
        go_wp2
        go_ret2
        exact ⟨by rw [Hf.out.1, Hf.out.2]; rfl, rfl⟩
      · have hb : ((s[0].toNat : Int) == 48) = false := by simp; omega
        have Hhb := Lib.hid (headBad_no s h0 (fun _ => h2))
        clear h2
        go_enter Tryz.func101, Tryz.ntmps101
        go_wp2
        go_loop [4, 5, 22] (fun m lg i => ∃ (k N : Nat) (L : Bool), k ≤ s.size ∧ i = .int .i64 k ∧ m = .int .i64 (N : Int) ∧ lg = .bool L ∧ N ≤ 4611686018427387903 ∧ Hid (allDig (s.data.toList.take k) = true) ∧ Hid ((L = true ∧ 4611686018427387903 < decNum (s.data.toList.take k)) ∨ (L = false ∧ N = decNum (s.data.toList.take k)))) (fun _ _ i => s.size - (intOf i).toNat)
        case atStart => exact ⟨0, 0, false, Nat.zero_le _, rfl, rfl, rfl, by omega, Lib.hid rfl, Lib.hid (.inr ⟨rfl, rfl⟩)⟩
        case round =>
          obtain ⟨k, N, L, hk, rfl, rfl, rfl, hN, HA, HL⟩ := hrel
          by_cases hlt : k < s.size
          · have hlt' : k < s.data.toList.length := by simpa using hlt
            cases hdig : isDig s[k] with
            | false =>
              have Hf := Lib.hid (ud_form s.data.toList (allDig_not s.data.toList k hlt' hdig))
              rcases dig_cases s[k] hdig with q1 | ⟨q1, q2⟩
              all_goals
                go_wp2
                go_ret2
                exact ⟨by rw [Hf.out.1, Hf.out.2]; rfl, rfl⟩
            | true =>
              obtain ⟨q1, q2, d, hd9, Hd, hdv⟩ := dig_yes s[k] hdig
              have HA2 : Hid (allDig (s.data.toList.take (k + 1)) = true) := Lib.hid (allDig_snoc _ k hlt' HA.out hdig)
              have HS : Hid (decNum (s.data.toList.take (k + 1)) = 10 * decNum (s.data.toList.take k) + d) := Lib.hid (by rw [take_snoc _ _ hlt', decNum_snoc, Hd.out]; rfl)
              have hq0 : IntKind.u8.wrap (d : Int) = (d : Int) := u8_in _ (by omega) (by omega)
              have hq1 : IntKind.i64.wrap (d : Int) = (d : Int) := i64_in _ (by omega) (by omega)
              have hq2 : IntKind.i64.wrap (4611686018427387903 - (d : Int)) = 4611686018427387903 - (d : Int) := i64_in _ (by omega) (by omega)
              have hq3 : (4611686018427387903 - (d : Int)).tdiv 10 = (4611686018427387903 - (d : Int)) / 10 := Int.tdiv_eq_ediv_of_nonneg (by omega)
              cases L with
              | true =>
                go_wp2
                go_round
                case rel =>
                  refine ⟨k + 1, N, true, by omega, by go_num, rfl, rfl, hN, HA2, Lib.hid (.inl ⟨rfl, ?_⟩)⟩
                  rcases HL.out with ⟨_, h⟩ | ⟨h, _⟩
                  · rw [HS.out]; omega
                  · cases h
                case measure => simp [intOf]; omega
              | false =>
                have HN : Hid (N = decNum (s.data.toList.take k)) := Lib.hid (by
                  rcases HL.out with ⟨h, _⟩ | ⟨_, h⟩
                  · cases h
                  · exact h)
                by_cases hG : 4611686018427387903 < 10 * N + d
                · have hg : decide ((4611686018427387903 - (d : Int)) / 10 < (N : Int)) = true := by simp; omega
                  go_wp2
                  go_round
                  case rel =>
                    refine ⟨k + 1, N, true, by omega, by go_num, rfl, rfl, hN, HA2, Lib.hid (.inl ⟨rfl, ?_⟩)⟩
                    rw [HS.out, ← HN.out]; omega
                  case measure => simp [intOf]; omega
                · have hg : decide ((4611686018427387903 - (d : Int)) / 10 < (N : Int)) = false := by simp; omega
                  go_wp2
                  go_round
                  case rel =>
                    refine ⟨k + 1, 10 * N + d, false, by omega, by go_num, by go_num, rfl, by omega, HA2, Lib.hid (.inr ⟨rfl, ?_⟩)⟩
                    rw [HS.out, ← HN.out]
                  case measure => simp [intOf]; omega
          · have hA := HA.out
            have hL := HL.out
            rw [List.take_of_length_le (by simp; omega)] at hA hL
            cases L with
            | true =>
              have Hf := Lib.hid (ud_large s.data.toList Hhb.out hA (by rcases hL with ⟨_, h⟩ | ⟨h, _⟩; exact h; cases h))
              clear hA hL
              go_wp2
              go_ret2
              exact ⟨by rw [Hf.out.1, Hf.out.2]; rfl, rfl⟩
            | false =>
              have hN2 : N = decNum s.data.toList := by rcases hL with ⟨h, _⟩ | ⟨_, h⟩; cases h; exact h
              have Hf := Lib.hid (ud_ok s.data.toList Hhb.out hA (by rw [← hN2]; exact hN))
              have HN2 := Lib.hid hN2
              clear hA hL hN2
              go_wp2
              go_ret2
              exact ⟨by rw [Hf.out.1, Hf.out.2, ← HN2.out]; rfl, rfl⟩
    · have hd1 : decide ((1 : Int) < (s.size : Int)) = false := by simp; omega
      have Hhb := Lib.hid (headBad_no s h0 (fun h => absurd h h1))
      go_enter Tryz.func101, Tryz.ntmps101
      go_wp2
      go_loop [4, 5, 22] (fun m lg i => ∃ (k N : Nat) (L : Bool), k ≤ s.size ∧ i = .int .i64 k ∧ m = .int .i64 (N : Int) ∧ lg = .bool L ∧ N ≤ 4611686018427387903 ∧ Hid (allDig (s.data.toList.take k) = true) ∧ Hid ((L = true ∧ 4611686018427387903 < decNum (s.data.toList.take k)) ∨ (L = false ∧ N = decNum (s.data.toList.take k)))) (fun _ _ i => s.size - (intOf i).toNat)
      case atStart => exact ⟨0, 0, false, Nat.zero_le _, rfl, rfl, rfl, by omega, Lib.hid rfl, Lib.hid (.inr ⟨rfl, rfl⟩)⟩
      case round =>
        obtain ⟨k, N, L, hk, rfl, rfl, rfl, hN, HA, HL⟩ := hrel
        by_cases hlt : k < s.size
        · have hlt' : k < s.data.toList.length := by simpa using hlt
          cases hdig : isDig s[k] with
          | false =>
            have Hf := Lib.hid (ud_form s.data.toList (allDig_not s.data.toList k hlt' hdig))
            rcases dig_cases s[k] hdig with q1 | ⟨q1, q2⟩
            all_goals
              go_wp2
              go_ret2
              exact ⟨by rw [Hf.out.1, Hf.out.2]; rfl, rfl⟩
          | true =>
            obtain ⟨q1, q2, d, hd9, Hd, hdv⟩ := dig_yes s[k] hdig
            have HA2 : Hid (allDig (s.data.toList.take (k + 1)) = true) := Lib.hid (allDig_snoc _ k hlt' HA.out hdig)
            have HS : Hid (decNum (s.data.toList.take (k + 1)) = 10 * decNum (s.data.toList.take k) + d) := Lib.hid (by rw [take_snoc _ _ hlt', decNum_snoc, Hd.out]; rfl)
            have hq0 : IntKind.u8.wrap (d : Int) = (d : Int) := u8_in _ (by omega) (by omega)
            have hq1 : IntKind.i64.wrap (d : Int) = (d : Int) := i64_in _ (by omega) (by omega)
            have hq2 : IntKind.i64.wrap (4611686018427387903 - (d : Int)) = 4611686018427387903 - (d : Int) := i64_in _ (by omega) (by omega)
            have hq3 : (4611686018427387903 - (d : Int)).tdiv 10 = (4611686018427387903 - (d : Int)) / 10 := Int.tdiv_eq_ediv_of_nonneg (by omega)
            cases L with
            | true =>
              go_wp2
              go_round
              case rel =>
                refine ⟨k + 1, N, true, by omega, by go_num, rfl, rfl, hN, HA2, Lib.hid (.inl ⟨rfl, ?_⟩)⟩
                rcases HL.out with ⟨_, h⟩ | ⟨h, _⟩
                · rw [HS.out]; omega
                · cases h
              case measure => simp [intOf]; omega
            | false =>
              have HN : Hid (N = decNum (s.data.toList.take k)) := Lib.hid (by
                rcases HL.out with ⟨h, _⟩ | ⟨_, h⟩
                · cases h
                · exact h)
              by_cases hG : 4611686018427387903 < 10 * N + d
              · have hg : decide ((4611686018427387903 - (d : Int)) / 10 < (N : Int)) = true := by simp; omega
                go_wp2
                go_round
                case rel =>
                  refine ⟨k + 1, N, true, by omega, by go_num, rfl, rfl, hN, HA2, Lib.hid (.inl ⟨rfl, ?_⟩)⟩
                  rw [HS.out, ← HN.out]; omega
                case measure => simp [intOf]; omega
              · have hg : decide ((4611686018427387903 - (d : Int)) / 10 < (N : Int)) = false := by simp; omega
                go_wp2
                go_round
                case rel =>
                  refine ⟨k + 1, 10 * N + d, false, by omega, by go_num, by go_num, rfl, by omega, HA2, Lib.hid (.inr ⟨rfl, ?_⟩)⟩
                  rw [HS.out, ← HN.out]
                case measure => simp [intOf]; omega
        · have hA := HA.out
          have hL := HL.out
          rw [List.take_of_length_le (by simp; omega)] at hA hL
          cases L with
          | true =>
            have Hf := Lib.hid (ud_large s.data.toList Hhb.out hA (by rcases hL with ⟨_, h⟩ | ⟨h, _⟩; exact h; cases h))
            clear hA hL
            go_wp2
            go_ret2
            exact ⟨by rw [Hf.out.1, Hf.out.2]; rfl, rfl⟩
          | false =>
            have hN2 : N = decNum s.data.toList := by rcases hL with ⟨h, _⟩ | ⟨_, h⟩; cases h; exact h
            have Hf := Lib.hid (ud_ok s.data.toList Hhb.out hA (by rw [← hN2]; exact hN))
            have HN2 := Lib.hid hN2
            clear hA hL hN2
            go_wp2
            go_ret2
            exact ⟨by rw [Hf.out.1, Hf.out.2, ← HN2.out]; rfl, rfl⟩
def isOct (c : UInt8) : Bool := decide (48 ≤ c.toNat) && decide (c.toNat ≤ 55)
/-- One digit more; what is above 2^62 - 1 is marked. -/
def octStep (x : Nat × Bool) (c : UInt8) : Nat × Bool := if 576460752303423487 < x.1 then (x.1, true) else (x.1 * 8 + (c.toNat - 48), x.2)
def uoF (l : List UInt8) : Nat × Bool := l.foldl octStep (0, false)
theorem uoF_snoc (l : List UInt8) (c : UInt8) : uoF (l ++ [c]) = octStep (uoF l) c := by simp [uoF]
theorem uoF_lt (l : List UInt8) (h : ∀ c ∈ l, isOct c = true) : (uoF l).1 < 4611686018427387904 := by
  suffices H : ∀ (l : List UInt8) (x : Nat × Bool), (∀ c ∈ l, isOct c = true) → x.1 < 4611686018427387904 → (l.foldl octStep x).1 < 4611686018427387904 from H l (0, false) h (by decide)
  intro l
  induction l with
  | nil => intro x _ hx; exact hx
  | cons c r ih =>
    intro x hc hx
    refine ih _ (fun d hd => hc d (List.mem_cons_of_mem _ hd)) ?_
    have h1 := hc c (List.mem_cons_self ..)
    simp only [isOct, Bool.and_eq_true, decide_eq_true_eq] at h1
    unfold octStep
    split
    · exact hx
    · show x.1 * 8 + (c.toNat - 48) < _
      omega
def octDigits (l : List UInt8) : List UInt8 := (Lib.trimLeftB l 32).takeWhile isOct
def octRest (l : List UInt8) : List UInt8 := (Lib.trimLeftB l 32).dropWhile isOct
def octCode (l : List UInt8) : Int := if Lib.trimS (octRest l) [32, 0] = [] then (if (uoF (octDigits l)).2 = true then 4 else 0) else 3
def octNum (l : List UInt8) : Int := if octCode l = 0 then ((uoF (octDigits l)).1 : Int) else 0
theorem trimL (s : ByteArray) (w : World) (hs : s.size ≤ 1000000000000) : Calls Tryz.prog 98 #[.string s, .string ⟨#[32]⟩] w fun e w' =>
    ∃ t : ByteArray, Hid (t.data.toList = Lib.trimLeftB s.data.toList 32) ∧ t.size ≤ s.size ∧ e = .returned (.string t) ∧ w = w' :=
  (Tryz.strings_TrimLeft_one s 32 (by decide) w).mono fun e w' ⟨h1, h2⟩ => ⟨_, by simp [Hid], by
    have : (Lib.trimLeftB s.data.toList 32).length ≤ s.data.toList.length := by unfold Lib.trimLeftB; exact (List.dropWhile_sublist _).length_le
    show (Lib.trimLeftB s.data.toList 32).toArray.size ≤ s.data.size
    rw [List.size_toArray]
    rw [Array.length_toList] at this
    exact this, h1, h2.symm⟩
theorem trimB (s : ByteArray) (w : World) (hs : s.size ≤ 1000000000000) : Calls Tryz.prog 99 #[.string s, .string ⟨#[32, 0]⟩] w fun e w' =>
    ∃ t : ByteArray, Hid (t.data.toList = Lib.trimS s.data.toList [32, 0]) ∧ e = .returned (.string t) ∧ Below w.heap.size w w' := by
  have hcon := Any.strings_Trim_laid Tryz.lays160 (by kernel_rfl) s ⟨#[32, 0]⟩ w (by omega) (by decide) (ascii_of_all (by decide))
  exact Calls.mono (f := 99) hcon fun e w' ⟨h1, h2⟩ => ⟨_, by simp [Hid], h1, h2⟩
theorem tw_oct (p : UInt8 → Bool) (l : List UInt8) (k : Nat) (h : ∀ c ∈ l.take k, p c = true) (he : l.length ≤ k ∨ ∃ hk : k < l.length, p l[k] = false) : l.takeWhile p = l.take k ∧ l.dropWhile p = l.drop k := by
  induction l generalizing k with
  | nil => simp
  | cons c r ih =>
    cases k with
    | zero =>
      rcases he with he | ⟨_, he⟩
      · simp at he
      · have he : p c = false := he
        simp [List.takeWhile_cons, List.dropWhile_cons, he]
    | succ k =>
      have hc : p c = true := h c (by simp)
      have := ih k (fun d hd => h d (by simp [hd])) (by
        rcases he with he | ⟨hk, he⟩
        · left; simpa using he
        · right; exact ⟨by simpa using hk, by simpa using he⟩)
      simp [List.takeWhile_cons, List.dropWhile_cons, hc, this]
set_option maxHeartbeats 1000000 in
theorem unoctal_any (s : ByteArray) (w : World) (hs : s.size ≤ 1000000000000) :
    Calls Tryz.prog 69 #[.string s] w fun e w' => e = .returned (.tuple #[.int .i64 (octNum s.data.toList), .int .i64 (octCode s.data.toList)]) ∧ Below w.heap.size w w' := by
  go_enter Tryz.func69, Tryz.ntmps69
  go_wp2_with (go_at_call 98; refine (trimL _ _ hs).mono ?_; rintro e w' ⟨t, Ht, hts, rfl, rfl⟩)
  go_loop [4, 5, 6] (fun n lg i => ∃ k : Nat, k ≤ t.size ∧ i = .int .i64 k ∧ n = .int .i64 ((uoF (t.data.toList.take k)).1 : Int) ∧ lg = .bool (uoF (t.data.toList.take k)).2 ∧ Hid (∀ c ∈ t.data.toList.take k, isOct c = true)) (fun _ _ i => t.size - (intOf i).toNat)
  case atStart => exact ⟨0, Nat.zero_le _, rfl, rfl, rfl, by intro c hc; simp at hc⟩
  case round =>
    obtain ⟨k, hk, rfl, rfl, rfl, Hall⟩ := hrel
    have hlt4 := uoF_lt (t.data.toList.take k) Hall.out
    obtain ⟨n, Hn⟩ : ∃ n, Hid (n = (uoF (t.data.toList.take k)).1) := ⟨_, rfl⟩
    obtain ⟨lg, Hlg⟩ : ∃ lg, Hid (lg = (uoF (t.data.toList.take k)).2) := ⟨_, rfl⟩
    rw [← Hn.out] at hlt4 ⊢
    rw [← Hlg.out]
    by_cases hd : k < t.size ∧ ∃ h : k < t.size, isOct t[k] = true
    · obtain ⟨hlt, _, hoct⟩ := hd
      have Htk : Hid (uoF (t.data.toList.take (k + 1)) = octStep (n, lg) t[k]) := by
        show uoF (t.data.toList.take (k + 1)) = octStep (n, lg) t[k]
        rw [take_snoc _ _ (by simpa using hlt), uoF_snoc, Hn.out, Hlg.out]; rfl
      have Hall2 : Hid (∀ c ∈ t.data.toList.take (k + 1), isOct c = true) := by
        show ∀ c ∈ t.data.toList.take (k + 1), isOct c = true
        rw [take_snoc _ _ (by simpa using hlt)]
        intro c hc
        rcases List.mem_append.1 hc with h | h
        · exact Hall.out c h
        · rw [List.mem_singleton.1 h]; exact hoct
      simp only [isOct, Bool.and_eq_true, decide_eq_true_eq] at hoct
      obtain ⟨h48, h55⟩ := hoct
      have hlo : decide ((48 : Int) ≤ (t[k].toNat : Int)) = true := by simp; omega
      have hhi : decide ((t[k].toNat : Int) ≤ 55) = true := by simp; omega
      by_cases hbig : 576460752303423487 < n
      · go_wp2
        go_round
        case rel => exact ⟨k + 1, by omega, by go_num, by rw [Htk.out]; unfold octStep; rw [if_pos hbig], by rw [Htk.out]; unfold octStep; rw [if_pos hbig], Hall2⟩
        case measure => simp [intOf]; omega
      · have hor := bits_or_low 3 (n : Int) ((t[k].toNat : Int) - 48) (by omega) (by omega) (by omega) (by omega) (by omega)
        simp only [show (2 : Int) ^ 3 = 8 from rfl] at hor
        go_wp2
        go_round
        case rel => exact ⟨k + 1, by omega, by go_num, by rw [Htk.out]; unfold octStep; rw [if_neg hbig]; go_num, by rw [Htk.out]; unfold octStep; rw [if_neg hbig], Hall2⟩
        case measure => simp [intOf]; omega
    · have Htw : Hid (octDigits s.data.toList = t.data.toList.take k ∧ octRest s.data.toList = t.data.toList.drop k) := by
        show octDigits s.data.toList = t.data.toList.take k ∧ octRest s.data.toList = t.data.toList.drop k
        unfold octDigits octRest
        rw [← Ht.out]
        refine tw_oct isOct _ k Hall.out ?_
        rcases Nat.lt_or_ge k t.size with h | h
        · right
          refine ⟨by simpa using h, ?_⟩
          rcases Bool.eq_false_or_eq_true (isOct t.data.toList[k]) with h2 | h2
          · exact absurd ⟨h, h, h2⟩ hd
          · exact h2
        · left; simpa using h
      have fin : ∀ (a : Int) (c : Int) (w2 : World), Below w.heap.size w w2 → octNum s.data.toList = a → octCode s.data.toList = c →
          (Ending.returned (.tuple #[.int .i64 a, .int .i64 c]) = .returned (.tuple #[.int .i64 (octNum s.data.toList), .int .i64 (octCode s.data.toList)]) ∧ Below w.heap.size w w2) := fun a c w2 h1 h2 h3 => ⟨by rw [h2, h3], h1⟩
      have Hfin := Lib.hid fin
      clear fin
      have HnD : Hid (uoF (octDigits s.data.toList) = (n, lg)) := by
        show uoF (octDigits s.data.toList) = (n, lg)
        rw [Htw.out.1, Hn.out, Hlg.out]
      have hcases : t.size ≤ k ∨ (∃ h : k < t.size, t[k].toNat < 48) ∨ (∃ h : k < t.size, 55 < t[k].toNat) := by
        rcases Nat.lt_or_ge k t.size with h | h
        · right
          by_cases h48 : t[k].toNat < 48
          · exact .inl ⟨h, h48⟩
          · refine .inr ⟨h, ?_⟩
            rcases Nat.lt_or_ge 55 t[k].toNat with h55 | h55
            · exact h55
            · exact absurd ⟨h, h, by simp [isOct]; omega⟩ hd
        · exact .inl h
      have Hex : Hid ((t.extract k t.size).data.toList = t.data.toList.drop k) := by
        show (t.extract k t.size).data.toList = t.data.toList.drop k
        simp [ByteArray.data_extract, List.take_of_length_le]
      rcases hcases with hc | ⟨hlt, hc⟩ | ⟨hlt, hc⟩
      all_goals
        clear hd
        go_wp2_with fail
        refine (trimB _ _ (by rw [ByteArray.size_extract]; omega)).mono ?_
        rintro e w2 ⟨t2, Ht2, rfl, hb2⟩
        by_cases he : t2.data.toList = []
        · have he1 : t2.toList = [] := by rw [ByteArray.toList_eq]; exact he
          have Hz : Hid (Lib.trimS (octRest s.data.toList) [32, 0] = []) := by
            show Lib.trimS (octRest s.data.toList) [32, 0] = []
            rw [Htw.out.2, ← Hex.out, ← Ht2.out]; exact he
          clear he
          cases lg with
          | true =>
            go_wp2
            go_ret2
            exact Hfin.out _ _ _ hb2 (by unfold octNum octCode; rw [if_pos Hz.out, HnD.out]; simp) (by unfold octCode; rw [if_pos Hz.out, HnD.out]; simp)
          | false =>
            go_wp2
            go_ret2
            exact Hfin.out _ _ _ hb2 (by unfold octNum octCode; rw [if_pos Hz.out, HnD.out]; simp) (by unfold octCode; rw [if_pos Hz.out, HnD.out]; simp)
        · have he1 : t2.toList.isEmpty = false := by rw [ByteArray.toList_eq]; simpa using he
          have Hz : Hid (¬ Lib.trimS (octRest s.data.toList) [32, 0] = []) := by
            show ¬ Lib.trimS (octRest s.data.toList) [32, 0] = []
            rw [Htw.out.2, ← Hex.out, ← Ht2.out]; exact he
          clear he
          go_wp2
          go_ret2
          exact Hfin.out _ _ _ hb2 (by unfold octNum octCode; rw [if_neg Hz.out]; simp) (by unfold octCode; rw [if_neg Hz.out])
end Go.Proofs.YtpheifdpjcppdaaGreatDoor
namespace Go.Proofs.YtpheifdpjcppdaaGreatDoor
open Go.RowKit
/-- A piece of bytes. -/
def fldB (b : List UInt8) (k n : Nat) : List UInt8 := (b.drop k).take n
/-- A text up to its first byte 00. -/
def upZ (s : List UInt8) : List UInt8 := s.takeWhile fun c => !decide (c = 0)
/-- The number of an octal field. -/
def ocN (s : List UInt8) : Nat := (uoF (octDigits s)).1
/-- What a head says. -/
structure HdR where
  name : List UInt8
  pfx : List UInt8
  link : List UInt8
  mode : Nat
  uid : Nat
  gid : Nat
  size : Nat
  mtime : Nat
  kind : UInt8
  owner : List UInt8
  group : List UInt8
  gnu : Bool
inductive HR where
  | bad (c : Int)
  | ok (h : HdR)
def fstBad : List (List UInt8) → Int
  | [] => 0
  | s :: l => if octCode s = 0 then fstBad l else octCode s
def hdR (h : List UInt8) : HdR :=
  ⟨upZ (fldB h 0 100), upZ (fldB h 345 155), upZ (fldB h 157 100), ocN (fldB h 100 8), ocN (fldB h 108 8), ocN (fldB h 116 8), ocN (fldB h 124 12), ocN (fldB h 136 12), h.getD 156 0, upZ (fldB h 265 32), upZ (fldB h 297 32), decide (fldB h 257 8 = magicB true)⟩
def numsL (h : List UInt8) : List (List UInt8) := [fldB h 100 8, fldB h 108 8, fldB h 116 8, fldB h 124 12, fldB h 136 12]
/-- A head that is read. -/
def headS (h : List UInt8) : HR :=
  if octCode (fldB h 148 8) ≠ 0 ∨ ocN (fldB h 148 8) ≠ sumT h then .bad 5
  else if fldB h 257 8 ≠ magicB false ∧ fldB h 257 8 ≠ magicB true then .bad 3
  else if fstBad (numsL h) ≠ 0 then .bad (fstBad (numsL h))
  else .ok (hdR h)
/-- What was told: texts and numbers by keys. -/
abbrev Td := List UInt8 → Option (List UInt8 × Nat)
def kOwn : List UInt8 := [117, 110, 97, 109, 101]
def kGrp : List UInt8 := [103, 110, 97, 109, 101]
def kCom : List UInt8 := [99, 111, 109, 109, 101, 110, 116]
def kSize : List UInt8 := [115, 105, 122, 101]
def kUid : List UInt8 := [117, 105, 100]
def kGid : List UInt8 := [103, 105, 100]
def kTime : List UInt8 := [109, 116, 105, 109, 101]
def kPth : List UInt8 := [112, 97, 116, 104]
def kLnk : List UInt8 := [108, 105, 110, 107, 112, 97, 116, 104]
def isText (k : List UInt8) : Bool := decide (k = kPth ∨ k = kLnk ∨ k = kOwn ∨ k = kGrp ∨ k = kCom)
def isNum (k : List UInt8) : Bool := decide (k = kSize ∨ k = kUid ∨ k = kGid ∨ k = kTime)
def noneB (t : Td) : Bool := (t [76]).isNone && (t [75]).isNone && (t [120]).isNone
/-- One record's key and value, taken in. -/
def keyT (t : Td) (k v : List UInt8) : Int × Td :=
  if isText k = true then (0, updS t k (v, 0))
  else if isNum k = true then (if udCode v = 0 then (0, updS t k (v, decNum v)) else (udCode v, t))
  else (9, t)
/-- Where the first record ends (none: it is no record), its key and its value. -/
def recP (s : List UInt8) : Option (Nat × List UInt8 × List UInt8) :=
  if Lib.indexByte s 32 < 0 then none
  else if udCode (s.take (Lib.indexByte s 32).toNat) ≠ 0 ∨ decNum (s.take (Lib.indexByte s 32).toNat) ≤ (Lib.indexByte s 32).toNat + 1 ∨ s.length < decNum (s.take (Lib.indexByte s 32).toNat) ∨ s.getD (decNum (s.take (Lib.indexByte s 32).toNat) - 1) 0 ≠ 10 then none
  else if Lib.indexByte (fldB s ((Lib.indexByte s 32).toNat + 1) (decNum (s.take (Lib.indexByte s 32).toNat) - 1 - ((Lib.indexByte s 32).toNat + 1))) 61 < 0 then none
  else some (decNum (s.take (Lib.indexByte s 32).toNat),
    (fldB s ((Lib.indexByte s 32).toNat + 1) (decNum (s.take (Lib.indexByte s 32).toNat) - 1 - ((Lib.indexByte s 32).toNat + 1))).take (Lib.indexByte (fldB s ((Lib.indexByte s 32).toNat + 1) (decNum (s.take (Lib.indexByte s 32).toNat) - 1 - ((Lib.indexByte s 32).toNat + 1))) 61).toNat,
    (fldB s ((Lib.indexByte s 32).toNat + 1) (decNum (s.take (Lib.indexByte s 32).toNat) - 1 - ((Lib.indexByte s 32).toNat + 1))).drop ((Lib.indexByte (fldB s ((Lib.indexByte s 32).toNat + 1) (decNum (s.take (Lib.indexByte s 32).toNat) - 1 - ((Lib.indexByte s 32).toNat + 1))) 61).toNat + 1))
/-- All records. -/
def recS : Nat → Td → List UInt8 → Int × Td
  | 0, t, _ => (0, t)
  | f + 1, t, s => if s = [] then (0, t) else match recP s with
    | none => (3, t)
    | some (n, k, v) => if (keyT t k v).1 = 0 then recS f (keyT t k v).2 (s.drop n) else ((keyT t k v).1, t)
def tellS (t : Td) (kind : UInt8) (d : List UInt8) : Int × Td :=
  if kind = 120 then recS (d.length + 1) (updS t [120] ([], 0)) d
  else if Lib.indexByte d 0 < 0 then (3, t) else (0, updS t [kind] (upZ d, 0))
def kindR (u : UInt8) : Int := if u = 0 ∨ u = 48 then 1 else if u = 53 then 2 else if u = 50 then 3 else if u = 49 then 4 else 0
def isTell (u : UInt8) : Bool := decide (u = 76 ∨ u = 75 ∨ u = 120)
def orT (t : Td) (k : List UInt8) (s : List UInt8) : List UInt8 := match t k with
  | some p => p.1
  | none => s
def orN (t : Td) (k : List UInt8) (n : Nat) : Nat := match t k with
  | some p => p.2
  | none => n
def nameR (h : HdR) : List UInt8 := if h.gnu = false ∧ h.pfx ≠ [] then h.pfx ++ [47] ++ h.name else h.name
def cutSl (s : List UInt8) : List UInt8 := if s.getLast? = some 47 then s.dropLast else s
/-- The entry of a head, with what was told ahead of it. -/
def entS (t : Td) (h : HdR) (d : List UInt8) : En :=
  ⟨if kindR h.kind = 2 then cutSl (orT t kPth (orT t [76] (nameR h))) else orT t kPth (orT t [76] (nameR h)),
   kindR h.kind, h.mode, orN t kUid h.uid, orN t kGid h.gid, orT t kOwn h.owner, orT t kGrp h.group, orN t kTime h.mtime,
   if kindR h.kind = 3 ∨ kindR h.kind = 4 then orT t kLnk (orT t [75] h.link) else [], d⟩
inductive Stp where
  | bad (c : Int)
  | order
  | fin
  | ent (e : En) (nx : Nat)
  | tell (t : Td) (nx : Nat)
def upB (n : Nat) : Nat := (n + 511) / 512 * 512
/-- What stands at a place behind a head. -/
def bodyS (b : List UInt8) (t : Td) (p : Nat) (h : HdR) : Stp :=
  if isTell h.kind = true then
    (if (t [h.kind]).isSome = true then .bad 3
    else if b.length < p + 512 + h.size ∨ b.length < p + 512 + upB h.size then .bad 2
    else if (tellS t h.kind (fldB b (p + 512) h.size)).1 = 0 then .tell (tellS t h.kind (fldB b (p + 512) h.size)).2 (p + 512 + upB h.size)
    else .bad (tellS t h.kind (fldB b (p + 512) h.size)).1)
  else if kindR h.kind = 0 then .bad 9
  else if kindR h.kind ≠ 1 ∧ 0 < orN t kSize h.size then .bad 3
  else if b.length < p + 512 + orN t kSize h.size ∨ b.length < p + 512 + upB (orN t kSize h.size) then .bad 2
  else .ent (entS t h (fldB b (p + 512) (orN t kSize h.size))) (p + 512 + upB (orN t kSize h.size))
/-- What stands at a place. -/
def stepT (b : List UInt8) (t : Td) (p : Nat) : Stp :=
  if b.length < p + 512 then .bad 2
  else if nulB (fldB b p 512) = true then
    (if b.length < p + 1024 then .bad 2
    else if nulB (fldB b (p + 512) 512) = false then .bad 3
    else if noneB t = false then .order
    else .fin)
  else match headS (fldB b p 512) with
    | .bad c => .bad c
    | .ok h => bodyS b t p h
/-- All that stands from a place on: the entries, their places, and a fault. -/
def runT (b : List UInt8) : Nat → Td → Nat → List En → List Nat → Nat → List En × List Nat × Nat × Int
  | 0, _, _, L, PL, p => (L, PL, p, 0)
  | n + 1, t, fr, L, PL, p => match stepT b t p with
    | .bad c => (L, PL, p, c)
    | .order => (L, PL, fr, 15)
    | .fin => (L, PL, 0, 0)
    | .tell t' nx => runT b n t' (if noneB t = true then p else fr) L PL nx
    | .ent e nx => runT b n (fun _ => none) fr (L ++ [e]) (PL ++ [p]) nx
/-- What Read answers to what the heads came to. -/
def readA (x : List En × List Nat × Nat × Int) : List En × Int × Int :=
  if (chkL x.1).2 ≠ 0 then ([], (x.2.1.getD (chkL x.1).1.toNat 0 : Nat), (chkL x.1).2)
  else if x.2.2.2 ≠ 0 then ([], (x.2.2.1 : Nat), x.2.2.2)
  else (x.1, 0, 0)
/-- As the document has it: what is wrong with an entry is told at once. -/
def runU (b : List UInt8) : Nat → Td → Nat → List En → Nat → List En × Int × Int
  | 0, _, _, L, _ => (L, 0, 0)
  | n + 1, t, fr, L, p => match stepT b t p with
    | .bad c => ([], (p : Nat), c)
    | .order => ([], (fr : Nat), 15)
    | .fin => (L, 0, 0)
    | .tell t' nx => runU b n t' (if noneB t = true then p else fr) L nx
    | .ent e nx => if (chkL (L ++ [e])).2 ≠ 0 then ([], (p : Nat), (chkL (L ++ [e])).2) else runU b n (fun _ => none) fr (L ++ [e]) nx
end Go.Proofs.YtpheifdpjcppdaaGreatDoor
namespace Go.Proofs.YtpheifdpjcppdaaGreatDoor
open Go.RowKit
theorem tw_take (p : UInt8 → Bool) : ∀ (l : List UInt8) (n : Nat), (∀ j, j < n → ∀ c, l[j]? = some c → p c = true) → (∀ c, l[n]? = some c → p c = false) → l.takeWhile p = l.take n
  | [], n, _, _ => by simp
  | c :: t, 0, _, h => by
    have := h c rfl
    simp [List.takeWhile_cons, this]
  | c :: t, n + 1, h1, h2 => by
    have h0 := h1 0 (by omega) c rfl
    rw [List.takeWhile_cons, if_pos h0, List.take_succ_cons, tw_take p t n (fun j hj c hc => h1 (j + 1) (by omega) c (by simpa using hc)) (fun c hc => h2 c (by simpa using hc))]
theorem upZ_cut (l : List UInt8) : cutA l 0 = upZ l := by
  unfold cutA upZ inB
  have hge := Lib.indexByte_ge l 0
  by_cases h : 0 ≤ Lib.indexByte l 0
  · rw [if_pos (decide_eq_true h)]
    obtain ⟨o, ho⟩ : ∃ o : Nat, Lib.indexByte l 0 = o := ⟨(Lib.indexByte l 0).toNat, by omega⟩
    obtain ⟨h3, h4⟩ := Lib.indexByte_some ho
    rw [ho, Int.toNat_natCast]
    refine (tw_take _ l o (fun j hj c hc => ?_) (fun c hc => ?_)).symm
    · have := h4 j hj
      simp only [Bool.not_eq_true', decide_eq_false_iff_not]
      intro e
      rw [hc, e] at this
      exact this rfl
    · rw [h3] at hc
      injection hc with hc
      simp [← hc]
  · rw [if_neg (by simpa using h)]
    have hm : Lib.indexByte l 0 = -1 := by omega
    have hn := Lib.indexByte_none hm
    refine ((tw_take _ l l.length (fun j hj c hc => ?_) (fun c hc => ?_)).trans (List.take_of_length_le (Nat.le_refl _))).symm
    · simp only [Bool.not_eq_true', decide_eq_false_iff_not]
      intro e
      rw [e] at hc
      exact hn j hc
    · rw [List.getElem?_eq_none (Nat.le_refl _)] at hc
      cases hc
theorem fldB_len {b : List UInt8} {k n : Nat} (h : k + n ≤ b.length) : (fldB b k n).length = n := by
  rw [fldB, List.length_take, List.length_drop]; omega
theorem upZ_le (s : List UInt8) : (upZ s).length ≤ s.length := (List.takeWhile_sublist _).length_le
structure RH (w : World) (gr gh gf : Nat) (full : List UInt8) (k : Nat) (H : Array Value) (W : World) : Prop where
  below : Below w.heap.size w W
  rest : Blk W gr 9 #[.string (bs (full.drop k))]
  bh : Blk W gh 43 H
  bf : Blk W gf 53 #[.func (.func 66) #[] #[.pointer (some ⟨gr, 0, none⟩)]]
  lr : w.heap.size ≤ gr
  lh : w.heap.size ≤ gh
section
variable {w W W' : World} {gr gh gf : Nat} {full : List UInt8} {k : Nat} {H : Array Value}
theorem RH.next (p : RH w gr gh gf full k H W) (hb : Below W.heap.size W W') : RH w gr gh gf full k H W' :=
  ⟨p.below.trans (hb.mono p.below.size), p.rest.below hb p.rest.lt, p.bh.below hb p.bh.lt, p.bf.below hb p.bf.lt, p.lr, p.lh⟩
/-- A field of the head is stored. -/
theorem RH.poke (p : RH w gr gh gf full k H W) (i : Nat) (u : Value) : RH w gr gh gf full k (H.setIfInBounds i u) (W.setCell ⟨gh, i, none⟩ u) := by
  have hk : Kept (fun k => k = gh) W (W.setCell ⟨gh, i, none⟩ u) := (Kept.refl _ W).setCell (p := ⟨gh, i, none⟩) u fun _ => rfl
  exact ⟨p.below.trans (hk.below p.below.size fun k _ e => by rw [e]; exact p.lh), p.rest.other (a := ⟨gh, i, none⟩) u (Blk.apartT p.rest p.bh (by decide)), p.bh.set i, p.bf.other (a := ⟨gh, i, none⟩) u (Blk.apartT p.bf p.bh (by decide)), p.lr, p.lh⟩
set_option maxRecDepth 20000 in
set_option maxHeartbeats 8000000 in
theorem RH.field (p : RH w gr gh gf full k H W) (n : Nat) (hn : k + n ≤ full.length) (hf : full.length ≤ 100000) :
    Calls Tryz.prog 66 #[.int .i64 (n : Int), .pointer (some ⟨gr, 0, none⟩)] W fun r W' => r = .returned (.string (bs (fldB full k n))) ∧ RH w gr gh gf full (k + n) H W' ∧ Kept (fun j => j = gr) W W' := by
  have y0 := p.rest.cell 0
  have f0 := p.rest.frozen 0
  simp at y0
  have hlen : (full.drop k).length = full.length - k := List.length_drop
  have hT : Hid (fldB full k n = (full.drop k).take n ∧ full.drop (k + n) = (full.drop k).drop n) := Lib.hid ⟨rfl, by rw [List.drop_drop]⟩
  have P := Lib.hid p
  obtain ⟨T, HT⟩ : ∃ T, Hid (full.drop k = T) := ⟨_, Lib.hid rfl⟩
  rw [HT.out] at y0 hlen hT
  have zt := bs_size T
  have hx1 : (bs T).extract 0 n = bs (fldB full k n) := by rw [ext_take (bs T) n (by rw [zt]; omega), bs_list, ← hT.out.1]
  have hx2 : (bs T).extract n T.length = bs (full.drop (k + n)) := by
    have := ext_drop (bs T) n
    rw [zt, bs_list, ← hT.out.2] at this
    exact this
  have i1 : (0 : Int) ≤ (n : Int) := by omega
  have i2 : (n : Int) ≤ (T.length : Int) := by omega
  obtain ⟨F, HF⟩ : ∃ F, Hid (bs (fldB full k n) = F) := ⟨_, Lib.hid rfl⟩
  obtain ⟨D, HD⟩ : ∃ D, Hid (bs (full.drop (k + n)) = D) := ⟨_, Lib.hid rfl⟩
  rw [HF.out] at hx1 ⊢
  rw [HD.out] at hx2
  clear p hT hn hf hlen
  go_enter Tryz.func66, Tryz.ntmps66
  go_wp2_with fail
  have hp := P.out
  have hk : Kept (fun j => j = gr) W (W.setCell ⟨gr, 0, none⟩ (.string D)) := (Kept.refl _ W).setCell (p := ⟨gr, 0, none⟩) _ fun _ => rfl
  have hfin : RH w gr gh gf full (k + n) H (W.setCell ⟨gr, 0, none⟩ (.string D)) := by
    refine ⟨hp.below.trans (hk.below hp.below.size fun k _ e => by rw [e]; exact hp.lr), ?_, hp.bh.other (a := ⟨gr, 0, none⟩) _ (Blk.apartT hp.bh hp.rest (by decide)), hp.bf.other (a := ⟨gr, 0, none⟩) _ (Blk.apartT hp.bf hp.rest (by decide)), hp.lr, hp.lh⟩
    rw [HD.out]
    exact hp.rest.set0 _
  go_ret
  exact ⟨rfl, hfin, hk⟩
set_option maxRecDepth 20000 in
set_option maxHeartbeats 8000000 in
theorem RH.text (p : RH w gr gh gf full k H W) (n : Nat) (hn : k + n ≤ full.length) (hf : full.length ≤ 100000) :
    Calls Tryz.prog 67 #[.int .i64 (n : Int), .pointer (some ⟨gf, 0, none⟩)] W fun r W' => r = .returned (.string (bs (upZ (fldB full k n)))) ∧ RH w gr gh gf full (k + n) H W' ∧ Kept (fun j => j = gr) W W' := by
  have y0 : W.cell? ⟨gf, 0, none⟩ = some (.func (.func 66) #[] #[.pointer (some ⟨gr, 0, none⟩)]) := by have := p.bf.cell 0; simpa using this
  have h1 := p.field n hn hf
  have hl := fldB_len hn
  have h2 := fun W => cut_any (bs (fldB full k n)) 0 W (by rw [bs_size]; omega)
  rw [bs_list, upZ_cut] at h2
  generalize cutB (fldB full k n) 0 = CB at h2
  generalize inB (fldB full k n) 0 = IB at h2
  clear hl
  generalize bs (fldB full k n) = F at h1 h2
  generalize bs (upZ (fldB full k n)) = U at h2 ⊢
  clear p
  go_enter Tryz.func67, Tryz.ntmps67
  go_wp2_with first
    | (go_at_call 66; refine h1.mono ?_; clear h1; rintro r W1 ⟨rfl, p1, k1⟩)
    | (go_at_call 68; refine (h2 _).mono ?_; clear h2; rintro r W2 ⟨rfl, hb2⟩)
  go_ret
  exact ⟨rfl, p1.next hb2, k1.trans (Kept.of_below hb2 _)⟩
end
end Go.Proofs.YtpheifdpjcppdaaGreatDoor
namespace Go.Proofs.YtpheifdpjcppdaaGreatDoor
open Go.RowKit
theorem ud_short {l : List UInt8} (h : udCode l = 0) : l.length ≤ 19 := by
  have h0 : headBad l = false := by
    cases hb : headBad l with
    | false => rfl
    | true => rw [(ud_head l hb).1] at h; exact absurd h (by decide)
  have h1 : allDig l = true := by
    cases hb : allDig l with
    | true => rfl
    | false => rw [(ud_form l hb).1] at h; exact absurd h (by decide)
  have h2 : decNum l ≤ 4611686018427387903 := by
    rcases Nat.lt_or_ge 4611686018427387903 (decNum l) with h2 | h2
    · rw [(ud_large l h0 h1 h2).1] at h; exact absurd h (by decide)
    · exact h2
  have := dec_len (decNum l) (by omega)
  rw [dec_back l h0 h1] at this
  exact this
theorem idx_same {s : List UInt8} {c : UInt8} {n : Nat} (h : inB (s.take n) c = true) : Lib.indexByte s c = Lib.indexByte (s.take n) c := by
  have hge := of_decide_eq_true h
  obtain ⟨o, ho⟩ : ∃ o : Nat, Lib.indexByte (s.take n) c = o := ⟨(Lib.indexByte (s.take n) c).toNat, by omega⟩
  obtain ⟨h3, h4⟩ := Lib.indexByte_some ho
  have hl := (List.getElem?_eq_some_iff.1 h3).1
  rw [List.length_take] at hl
  have e : ∀ j, j < n → (s.take n)[j]? = s[j]? := fun j hj => by rw [List.getElem?_take, if_pos hj]
  rw [ho]
  have h5 : s[o]? = some c := by rw [← e o (by omega)]; exact h3
  have hge2 := Lib.indexByte_ge s c
  by_cases hm : Lib.indexByte s c = -1
  · exact absurd h5 (Lib.indexByte_none hm o)
  · obtain ⟨o', ho'⟩ : ∃ o' : Nat, Lib.indexByte s c = o' := ⟨(Lib.indexByte s c).toNat, by omega⟩
    obtain ⟨h6, h7⟩ := Lib.indexByte_some ho'
    rw [ho']
    rcases Nat.lt_trichotomy o o' with h | h | h
    · exact absurd h5 (h7 o h)
    · rw [h]
    · have := h4 o' h
      rw [e o' (by omega)] at this
      exact absurd h6 this
theorem idx_late {s : List UInt8} {c : UInt8} {n : Nat} (h : inB (s.take n) c = false) : Lib.indexByte s c < 0 ∨ (n : Int) ≤ Lib.indexByte s c := by
  have hge := of_decide_eq_false h
  have hge2 := Lib.indexByte_ge s c
  by_cases hm : Lib.indexByte s c = -1
  · left; omega
  · obtain ⟨o', ho'⟩ : ∃ o' : Nat, Lib.indexByte s c = o' := ⟨(Lib.indexByte s c).toNat, by omega⟩
    obtain ⟨h6, _⟩ := Lib.indexByte_some ho'
    right
    rw [ho']
    rcases Nat.lt_or_ge o' n with h | h
    · exfalso
      have hm2 : Lib.indexByte (s.take n) c = -1 := by have := Lib.indexByte_ge (s.take n) c; omega
      exact Lib.indexByte_none hm2 o' (by rw [List.getElem?_take, if_pos h]; exact h6)
    · omega
/-- What the program asks of a record's start. -/
def recBad (s : List UInt8) : Prop := inB (s.take 24) 32 = false ∨ udCode (cutA (s.take 24) 32) ≠ 0 ∨ s.length < decNum (cutA (s.take 24) 32) ∨ decNum (cutA (s.take 24) 32) < (cutA (s.take 24) 32).length + 1 ∨ s.getD (decNum (cutA (s.take 24) 32) - 1) 0 ≠ 10
/-- What stands in a record behind its length. -/
def recMid (s : List UInt8) : List UInt8 := fldB s ((cutA (s.take 24) 32).length + 1) (decNum (cutA (s.take 24) 32) - 1 - ((cutA (s.take 24) 32).length + 1))
theorem rec_dig {s : List UInt8} (h : inB (s.take 24) 32 = true) : ∃ o : Nat, Lib.indexByte s 32 = o ∧ cutA (s.take 24) 32 = s.take o ∧ (s.take o).length = o ∧ s[o]? = some 32 ∧ o < 24 := by
  have h1 := idx_same h
  have hge := of_decide_eq_true h
  obtain ⟨o, ho⟩ : ∃ o : Nat, Lib.indexByte (s.take 24) 32 = o := ⟨(Lib.indexByte (s.take 24) 32).toNat, by omega⟩
  obtain ⟨h3, _⟩ := Lib.indexByte_some ho
  have hl := (List.getElem?_eq_some_iff.1 h3).1
  rw [List.length_take] at hl
  refine ⟨o, by rw [h1, ho], ?_, by rw [List.length_take]; omega, ?_, by omega⟩
  · rw [cutA, if_pos h, ho, Int.toNat_natCast, List.take_take, Nat.min_eq_left (by omega)]
  · rw [List.getElem?_take, if_pos (by omega)] at h3
    exact h3
theorem rec_none {s : List UInt8} (h : recBad s) : recP s = none := by
  cases hin : inB (s.take 24) 32 with
  | false =>
    rcases idx_late hin with h1 | h1
    · rw [recP, if_pos h1]
    · rw [recP, if_neg (by omega), if_pos]
      left
      intro h2
      have := ud_short h2
      obtain ⟨o, ho⟩ : ∃ o : Nat, Lib.indexByte s 32 = o := ⟨(Lib.indexByte s 32).toNat, by omega⟩
      obtain ⟨h3, _⟩ := Lib.indexByte_some ho
      have hl := (List.getElem?_eq_some_iff.1 h3).1
      rw [ho, Int.toNat_natCast, List.length_take] at this
      omega
  | true =>
    obtain ⟨o, ho, hc, hl, ha, _⟩ := rec_dig hin
    unfold recBad at h
    rw [hin, hc, hl] at h
    rw [recP, ho, if_neg (by omega), Int.toNat_natCast, if_pos]
    rcases h with h | h | h | h | h
    · cases h
    · exact .inl h
    · exact .inr (.inr (.inl h))
    · exact .inr (.inl (by omega))
    · exact .inr (.inr (.inr h))
theorem rec_gap {s : List UInt8} (h : ¬ recBad s) : inB (s.take 24) 32 = true ∧ udCode (cutA (s.take 24) 32) = 0 ∧ decNum (cutA (s.take 24) 32) ≤ s.length ∧ (cutA (s.take 24) 32).length + 2 ≤ decNum (cutA (s.take 24) 32) ∧ s.getD (decNum (cutA (s.take 24) 32) - 1) 0 = 10 := by
  unfold recBad at h
  simp only [not_or] at h
  obtain ⟨h1, h2, h3, h4, h5⟩ := h
  have hin : inB (s.take 24) 32 = true := by simpa using h1
  refine ⟨hin, by simpa using h2, by omega, ?_, by simpa using h5⟩
  obtain ⟨o, ho, hc, hl, ha, _⟩ := rec_dig hin
  rw [hc, hl] at h4 ⊢
  rw [hc] at h5
  rcases Nat.lt_or_ge (o + 1) (decNum (s.take o)) with h | h
  · omega
  · exfalso
    have h6 : s.getD (decNum (s.take o) - 1) 0 = 10 := Classical.not_not.1 h5
    have e : decNum (s.take o) = o + 1 := by omega
    rw [e] at h6
    simp only [Nat.add_sub_cancel, List.getD, ha, Option.getD_some] at h6
    exact absurd h6 (by decide)
theorem rec_some {s : List UInt8} (h : ¬ recBad s) : recP s = if inB (recMid s) 61 = true then some (decNum (cutA (s.take 24) 32), cutA (recMid s) 61, cutB (recMid s) 61) else none := by
  obtain ⟨hin, h2, h3, h4, h5⟩ := rec_gap h
  obtain ⟨o, ho, hc, hl, ha, _⟩ := rec_dig hin
  unfold recMid
  rw [hc] at h2 h3 h5
  rw [hc, hl] at h4
  simp only [hc, hl]
  have e : recP s = if Lib.indexByte (fldB s (o + 1) (decNum (s.take o) - 1 - (o + 1))) 61 < 0 then none else some (decNum (s.take o), (fldB s (o + 1) (decNum (s.take o) - 1 - (o + 1))).take (Lib.indexByte (fldB s (o + 1) (decNum (s.take o) - 1 - (o + 1))) 61).toNat, (fldB s (o + 1) (decNum (s.take o) - 1 - (o + 1))).drop ((Lib.indexByte (fldB s (o + 1) (decNum (s.take o) - 1 - (o + 1))) 61).toNat + 1)) := by
    rw [recP, ho, if_neg (by omega), Int.toNat_natCast, if_neg]
    rintro (h | h | h | h)
    · exact h h2
    · omega
    · omega
    · exact h h5
  rw [e]
  generalize fldB s (o + 1) (decNum (s.take o) - 1 - (o + 1)) = r
  by_cases hr : inB r 61 = true
  · have := of_decide_eq_true hr
    rw [if_neg (by omega), if_pos hr, cutA, if_pos hr, cutB, if_pos hr]
  · have : ¬ 0 ≤ Lib.indexByte r 61 := by simpa [inB] using hr
    rw [if_pos (by omega), if_neg hr]
end Go.Proofs.YtpheifdpjcppdaaGreatDoor
