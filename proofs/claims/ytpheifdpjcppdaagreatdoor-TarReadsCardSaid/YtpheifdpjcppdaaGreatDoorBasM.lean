/- Small words and facts of my own about memory and bytes, over any program. More words of my own about memory. append of one thing just built, in a region of one order. Slices of whatever things that lie in memory, read as lists; what is kept but for some blocks; rows that are being made. Over any program. -/
import Derived.WalkKit
import Derived.Lib.Hide
import Derived.WalkSpells
import Derived.WalkLawsBesides
import Derived.StillTailTactics
namespace Go.Proofs.YtpheifdpjcppdaaGreatDoor
open Go.RowKit

/-- A byte as a value; bytes as values. -/
def bv (b : UInt8) : Value := .int .u8 (b.toNat : Int)
def bvs (l : List UInt8) : List Value := l.map bv
theorem bvs_length (l : List UInt8) : (bvs l).length = l.length := by simp [bvs]
theorem bvs_append (a b : List UInt8) : bvs (a ++ b) = bvs a ++ bvs b := by simp [bvs]
theorem bvs_get (l : List UInt8) (j : Nat) (h : j < l.length) : (bvs l)[j]? = some (.int .u8 (l[j].toNat : Int)) := by simp [bvs, bv, h]
theorem bvs_one (l : List UInt8) : ∀ u ∈ bvs l, u.oneCell' = true := by
  intro u hu
  obtain ⟨b, _, rfl⟩ := List.mem_map.1 hu
  rfl

/-- The slice value v of bytes reads as the list l (nil let in). -/
def SB (w : World) (v : Value) (l : List UInt8) : Prop :=
  ∃ (A : Option Addr) (cap : Nat), v = .slice A l.length cap ∧ l.length ≤ cap ∧ cap ≤ maxLen ∧ (A = none → cap = 0) ∧
    (l ≠ [] → ∃ b off, A = some ⟨b, off, none⟩ ∧ ∀ j (h : j < l.length), w.cell? ⟨b, off + j, none⟩ = some (.int .u8 (l[j].toNat : Int)))

theorem SB.nil (w : World) : SB w (.slice none 0 0) [] := ⟨none, 0, rfl, Nat.le_refl _, Nat.zero_le _, fun _ => rfl, fun h => absurd rfl h⟩
theorem lt_of_cell {w : World} {a : Addr} {v : Value} (h : w.cell? a = some v) : a.block < w.heap.size := World.block_lt_of_cell? w a h

/-- What is kept below the heap's size keeps every reading. -/
theorem SB.below {w w' : World} {v : Value} {l : List UInt8} (h : SB w v l) (hb : Below w.heap.size w w') : SB w' v l := by
  obtain ⟨A, cap, hv, h1, h2, h3, h4⟩ := h
  refine ⟨A, cap, hv, h1, h2, h3, fun hl => ?_⟩
  obtain ⟨b, off, hA, hc⟩ := h4 hl
  refine ⟨b, off, hA, fun j hj => ?_⟩
  have := hc j hj
  rw [hb.cell (p := ⟨b, off + j, none⟩) (lt_of_cell this)]
  exact this
theorem SB.cells {w : World} {A : Option Addr} {n cap : Nat} {l : List UInt8} (h : SB w (.slice A n cap) l) : n = l.length ∧ n ≤ cap ∧ cap ≤ maxLen ∧ (A = none → cap = 0) ∧
    (0 < n → ∃ b off, A = some ⟨b, off, none⟩ ∧ ∀ j (h : j < l.length), w.cell? ⟨b, off + j, none⟩ = some (.int .u8 (l[j].toNat : Int))) := by
  obtain ⟨A', cap', hv, h1, h2, h3, h4⟩ := h
  injection hv with e1 e2 e3
  subst e1 e2 e3
  exact ⟨rfl, h1, h2, h3, fun hn => h4 (fun e => by subst e; simp at hn)⟩
/-- A row of the call's own, read as bytes. -/
theorem SB.of_own {w : World} {base : Nat} {e : TypeId} {v : Value} {n : Nat} {l : List UInt8} (h : w.ownsRow base e 1 v n (bvs l)) : SB w v l := by
  have hn : n = l.length := by have := h.1; rw [bvs_length] at this; omega
  subst hn
  rcases h.2 with ⟨rfl, h0⟩ | ⟨g, cap, cur, rfl, hb, hg, hnc, hcm, hcs, htake⟩
  · have : l = [] := List.eq_nil_of_length_eq_zero h0
    subst this
    exact SB.nil w
  · refine ⟨_, cap, rfl, hnc, hcm, (fun h => by cases h), fun _ => ⟨g, 0, rfl, fun j hj => ?_⟩⟩
    have := h.cellAt j (by omega)
    rw [Nat.zero_add, this, bvs_get l j hj]

/-- A contract's part on memory: a new string or number, nothing old is turned. -/
theorem below_refl (w : World) : Below w.heap.size w w := Below.refl _ _
theorem below_trans {a b c : World} (h : Below a.heap.size a b) (k : Below b.heap.size b c) : Below a.heap.size a c := h.trans (k.mono h.size)

theorem take_snoc {α : Type} (l : List α) (k : Nat) (h : k < l.length) : l.take (k + 1) = l.take k ++ [l[k]] := by
  rw [List.take_succ_eq_append_getElem h]
theorem drop_cons {α : Type} (l : List α) (k : Nat) (h : k < l.length) : l.drop k = l[k] :: l.drop (k + 1) := List.drop_eq_getElem_cons h
theorem byte_lt (b : UInt8) : (b.toNat : Int) < 256 := by have := b.toNat_lt; omega
theorem byte_nonneg (b : UInt8) : (0 : Int) ≤ b.toNat := by omega
/-- append of bytes onto a row of the call's own, at the operation; what is below the base stays. -/
theorem wp_append8 {P : Program} {w : World} {o : Oper} {a : Act} {K : Act → World → Prop} {Q : Exit → Act → World → Prop} (s x : Operand) (t e : TypeId)
    (ho : o.op = .call { callee := .builtin .append, args := #[s, x], argTypes := #[t, t] }) (ht : P.underlying t = some (.slice e))
    (hinfo : (P.info? e).map (fun i => (i.zero, i.size, i.bytes)) = some (some (.int .u8 0), 1, 1))
    (base : Nat) (v : Value) (n : Nat) (l : List UInt8) (hs : a.eval s = v) (hown : w.ownsRow base e 1 v n (bvs l))
    (A : Option Addr) (m c : Nat) (news : List UInt8) (hx : a.eval x = .slice A m c) (hsb : SB w (.slice A m c) news)
    (hn : n + m ≤ 70368744177664) (hbase : base ≤ w.heap.size)
    (h : ∀ v' w', w'.ownsRow base e 1 v' (n + m) (bvs (l ++ news)) → Below base w w' → w.grownBy w' v.ownBlock → K (a.put o.dst v') w') : o.wp P a w K Q := by
  obtain ⟨i0, hi, hz0, hz1, hz2⟩ := info_parts hinfo
  obtain ⟨hm, _, _, hnil, hc⟩ := hsb.cells
  have fin : ∀ v' w', w'.ownsRow base e 1 v' (n + m) (bvs l ++ bvs news) → w.grownBy w' v.ownBlock → K (a.put o.dst v') w' := fun v' w' h1 h2 =>
    h v' w' (by rw [bvs_append]; exact h1) ((Below.refl _ _).grown h2 hbase (fun k hk => (hown.lt k hk).1)) h2
  rcases Nat.eq_zero_or_pos m with h0 | h0
  · subst h0
    have hnews : news = [] := List.eq_nil_of_length_eq_zero hm.symm
    subst hnews
    cases A with
    | none =>
      have hc0 := hnil rfl
      subst hc0
      have hrun := run_append_owned_none (P := P) w base t o.type e i0 1 ht hi v n (bvs l) hown
      unfold Oper.wp execOp
      simp only [ho, resolve, invoke, builtin, Sem.run_bind, Sem.run_pure, Result.andThen_ok, List.map_toArray, List.map_cons, List.map_nil, hs, hx, hrun]
      exact fin v w (by simpa [bvs] using hown) (World.grownBy.refl w _)
    | some ad =>
      refine wp_append_own w s x t ho base e i0 _ 1 1 ht hi hz0 hz1 hz2 rfl (by decide) v n (bvs l) hs hown ad 0 c [] hx rfl (fun j u hu => by simp at hu) (fun u hu => by simp at hu) (by unfold maxLen; omega) (by omega) hbase ?_
      intro v' w' h1 h2 _
      exact fin v' w' (by simpa [bvs] using h1) h2
  · obtain ⟨b, off, rfl, hcell⟩ := hc h0
    refine wp_append_own w s x t ho base e i0 _ 1 1 ht hi hz0 hz1 hz2 rfl (by decide) v n (bvs l) hs hown ⟨b, off, none⟩ m c (bvs news) hx (by rw [bvs_length]; omega) ?_ (bvs_one _) (by unfold maxLen; omega) (by omega) hbase ?_
    · intro j u hu
      have hj : j < news.length := by have := (List.getElem?_eq_some_iff.1 hu).1; rwa [bvs_length] at this
      rw [bvs_get news j hj] at hu
      rw [Addr.add_lit, hcell j hj]
      exact hu
    · intro v' w' h1 h2 _
      exact fin v' w' h1 h2
theorem wpList_append8 {P : Program} {w : World} {ops : Array Oper} {rest : List Oper} {o : Oper} {a : Act} {Q : Exit → Act → World → Prop} (hgd : o.guard = none) (s x : Operand) (t e : TypeId)
    (ho : o.op = .call { callee := .builtin .append, args := #[s, x], argTypes := #[t, t] }) (ht : P.underlying t = some (.slice e))
    (hinfo : (P.info? e).map (fun i => (i.zero, i.size, i.bytes)) = some (some (.int .u8 0), 1, 1))
    (base : Nat) (v : Value) (n : Nat) (l : List UInt8) (hs : a.eval s = v) (hown : w.ownsRow base e 1 v n (bvs l))
    (A : Option Addr) (m c : Nat) (news : List UInt8) (hx : a.eval x = .slice A m c) (hsb : SB w (.slice A m c) news)
    (hn : n + m ≤ 70368744177664) (hbase : base ≤ w.heap.size)
    (h : ∀ v' w', w'.ownsRow base e 1 v' (n + m) (bvs (l ++ news)) → Below base w w' → w.grownBy w' v.ownBlock → wpList P ops Q rest (a.put o.dst v') w') : wpList P ops Q (o :: rest) a w :=
  wpList_plain hgd fun _ hK => wp_append8 s x t e ho ht hinfo base v n l hs hown A m c news hx hsb hn hbase fun v' w' h1 h2 h3 => hK _ _ (h v' w' h1 h2 h3)
/-- A literal row of bytes that was just made. -/
theorem SB.made (w : World) (l : List UInt8) (cs : Array Value) (e : TypeId) (hcs : cs.toList = bvs l) (hl : l.length ≤ maxLen) :
    SB (w.alloc (.cells cs e)) (.slice (some ⟨w.heap.size, 0, none⟩) l.length l.length) l := by
  refine ⟨_, _, rfl, Nat.le_refl _, hl, (fun h => by cases h), fun _ => ⟨w.heap.size, 0, rfl, fun j hj => ?_⟩⟩
  rw [Nat.zero_add, World.cell?_alloc_at _ _ _ _ rfl]
  have := bvs_get l j hj
  rw [← hcs] at this
  simpa using this
/-- The text of a slice of bytes. -/
theorem SB.str {P : Program} {w : World} {v : Value} {l : List UInt8} (h : SB w v l) (src e dst : TypeId) (hs : P.underlying src = some (.slice e)) (he : P.underlying e = some (.int .u8)) (hd : P.underlying dst = some .string) :
    (convert src dst v).run P w = .ok (.string ⟨l.toArray⟩) w := by
  obtain ⟨A, cap, rfl, h1, h2, h3, h4⟩ := h
  cases A with
  | none =>
    have h0 := h3 rfl
    have : l = [] := List.eq_nil_of_length_eq_zero (by omega)
    subst this
    rw [run_convert_bytes_nil w src e hs he _ _ dst hd]
    rfl
  | some a =>
    by_cases hl : l = []
    · subst hl
      rw [run_convert_bytes_string w src dst e _ _ cap hs he hd, run_bytesToString w _ _ cap [] (by
        have := run_loadCells_list (P := P) w a [] (fun j v hj => by simp at hj)
        simpa using this)]
      rfl
    · obtain ⟨b, off, hA, hc⟩ := h4 hl
      cases hA
      have hx : strOfNums (l.map fun b : UInt8 => (b.toNat : Int)) = ⟨l.toArray⟩ := by
        simp [strOfNums, Function.comp_def]
      rw [run_convert_bytes_arg w src e hs he b off l.length cap (l.map fun b : UInt8 => (b.toNat : Int)) (by simp) (fun i hi => by
        rw [hc i hi]; simp [List.getD, hi]) dst hd, hx]
theorem bvs_replicate (n : Nat) : (madeCells (Value.int .u8 0).cells (n * 1)).toList = bvs (List.replicate n 0) := by
  show (madeCells #[Value.int .u8 0] (n * 1)).toList = _
  rw [toList_madeCells_one, Nat.mul_one]
  simp [bvs, bv]
theorem bvs_replicate' (n : Nat) : (madeCells #[Value.int .u8 0] n).toList = bvs (List.replicate n 0) := by
  rw [toList_madeCells_one]
  simp [bvs, bv]
theorem set_next {α : Type} (A : List α) (x y : α) (R : List α) (k : Nat) (h : k = A.length) : (A ++ x :: R).set k y = A ++ y :: R := by
  subst h
  simp
theorem bvs_set_next (A : List UInt8) (m k : Nat) (b : UInt8) (h : k = A.length) (hm : 0 < m) : (bvs (A ++ List.replicate m 0)).set k (.int .u8 (b.toNat : Int)) = bvs ((A ++ [b]) ++ List.replicate (m - 1) 0) := by
  obtain ⟨n, rfl⟩ : ∃ n, m = n + 1 := ⟨m - 1, by omega⟩
  rw [List.replicate_succ, bvs_append]
  show (bvs A ++ bv 0 :: bvs (List.replicate n 0)).set k (bv b) = _
  rw [set_next _ _ _ _ _ (by rw [bvs_length]; exact h)]
  simp [bvs]
/-- A row of bytes that is filled from its head on: the next store. -/
theorem own_store_next {w : World} {base : Nat} {e : TypeId} {g n cap : Nat} {A : List UInt8} {m : Nat} (hown : w.ownsRow base e 1 (.slice (some ⟨g, 0, none⟩) n cap) n (bvs (A ++ List.replicate m 0)))
    (k : Nat) (hk : k = A.length) (hm : 0 < m) :
    (∃ u0, w.cell? ⟨g, k, none⟩ = some u0) ∧ w.frozen? ⟨g, k, none⟩ = false ∧
      ∀ b : UInt8, (w.setCell ⟨g, k, none⟩ (.int .u8 (b.toNat : Int))).ownsRow base e 1 (.slice (some ⟨g, 0, none⟩) n cap) n (bvs ((A ++ [b]) ++ List.replicate (m - 1) 0)) := by
  have hl := hown.1
  rw [bvs_length, List.length_append, List.length_replicate] at hl
  refine ⟨?_, hown.frozenAt k, fun b => ?_⟩
  · rw [hown.cellAt k (by omega)]
    exact ⟨_, List.getElem?_eq_getElem (by rw [bvs_length, List.length_append, List.length_replicate]; omega)⟩
  · have := (hown.stored k (.int .u8 (b.toNat : Int))).1
    rw [bvs_set_next A m k b hk hm] at this
    exact this
theorem own_store {w : World} {base : Nat} {e : TypeId} {g n cap : Nat} {l : List UInt8} (hown : w.ownsRow base e 1 (.slice (some ⟨g, 0, none⟩) n cap) n (bvs l)) (k : Nat) (hk : k < n) :
    (∃ u0, w.cell? ⟨g, k, none⟩ = some u0) ∧ w.frozen? ⟨g, k, none⟩ = false ∧
      ∀ b : UInt8, (w.setCell ⟨g, k, none⟩ (.int .u8 (b.toNat : Int))).ownsRow base e 1 (.slice (some ⟨g, 0, none⟩) n cap) n (bvs (l.set k b)) := by
  have hl := hown.1
  rw [bvs_length] at hl
  refine ⟨?_, hown.frozenAt k, fun b => ?_⟩
  · rw [hown.cellAt k (by omega)]
    exact ⟨_, List.getElem?_eq_getElem (by rw [bvs_length]; omega)⟩
  · have := (hown.stored k (.int .u8 (b.toNat : Int))).1
    have e : (bvs l).set k (.int .u8 (b.toNat : Int)) = bvs (l.set k b) := by simp [bvs, List.map_set, bv]
    rw [e] at this
    exact this
theorem toNat_ofInt_i64 (a : Nat) (ha : a < 9223372036854775808) : (BitVec.ofInt 64 (a : Int)).toNat = a := by
  rw [BitVec.ofInt_natCast, BitVec.toNat_ofNat]
  exact Nat.mod_eq_of_lt (by omega)
theorem bits_or_i64 (a b : Nat) (ha : a < 9223372036854775808) (hb : b < 9223372036854775808) : bits .or .i64 (a : Int) (b : Int) = ((a ||| b : Nat) : Int) := by
  have hx : a ||| b < 2 ^ 63 := Nat.or_lt_two_pow (by omega) (by omega)
  show IntKind.i64.wrap ((BitVec.ofInt 64 (a : Int) ||| BitVec.ofInt 64 (b : Int)).toNat : Int) = _
  rw [BitVec.toNat_or, toNat_ofInt_i64 a ha, toNat_ofInt_i64 b hb, IntKind.wrap_i64]
  omega
theorem bits_and_i64 (a b : Nat) (ha : a < 9223372036854775808) (hb : b < 9223372036854775808) : bits .and .i64 (a : Int) (b : Int) = ((a &&& b : Nat) : Int) := by
  have hx : a &&& b < 2 ^ 63 := Nat.and_lt_two_pow _ (by omega)
  show IntKind.i64.wrap ((BitVec.ofInt 64 (a : Int) &&& BitVec.ofInt 64 (b : Int)).toNat : Int) = _
  rw [BitVec.toNat_and, toNat_ofInt_i64 a ha, toNat_ofInt_i64 b hb, IntKind.wrap_i64]
  omega
/-- a shifted up, and b below it. -/
theorem bits_or_low (k : Nat) (a b : Int) (ha : 0 ≤ a) (hb : 0 ≤ b) (hk : b < 2 ^ k) (h : a * 2 ^ k < 9223372036854775808) (hk2 : k < 63) : bits .or .i64 (a * 2 ^ k) b = a * 2 ^ k + b := by
  obtain ⟨x, rfl⟩ := Int.eq_ofNat_of_zero_le ha
  obtain ⟨y, rfl⟩ := Int.eq_ofNat_of_zero_le hb
  have e : ((x : Int) * 2 ^ k) = ((2 ^ k * x : Nat) : Int) := by push_cast; rw [Int.mul_comm]
  have hy : y < 2 ^ k := by exact_mod_cast hk
  have hp : 2 ^ k < 2 ^ 63 := Nat.pow_lt_pow_right (by omega) hk2
  rw [e] at h ⊢
  rw [bits_or_i64 _ _ (by omega) (by omega), ← Nat.two_pow_add_eq_or_of_lt hy x]
  push_cast
  rfl
theorem u8_in (n : Int) (h0 : 0 ≤ n) (h1 : n < 256) : IntKind.u8.wrap n = n := by
  rw [IntKind.wrap_u8']; omega
theorem u64_in (n : Int) (h0 : 0 ≤ n) (h1 : n < 18446744073709551616) : IntKind.u64.wrap n = n := by
  rw [IntKind.wrap_u64]; omega
theorem i64_in (n : Int) (h0 : -9223372036854775808 ≤ n) (h1 : n < 9223372036854775808) : IntKind.i64.wrap n = n := by
  rw [IntKind.wrap_i64]; omega
theorem own_base {w : World} {base base' : Nat} {e : TypeId} {size : Nat} {v : Value} {n : Nat} {xs : List Value} (h : w.ownsRow base e size v n xs) (hb : base' ≤ base) : w.ownsRow base' e size v n xs := by
  refine ⟨h.1, ?_⟩
  rcases h.2 with h | ⟨g, cap, cur, hv, hg, rest⟩
  · exact .inl h
  · exact .inr ⟨g, cap, cur, hv, Nat.le_trans hb hg, rest⟩
theorem own_below {w w' : World} {base : Nat} {e : TypeId} {size : Nat} {v : Value} {n : Nat} {xs : List Value} (h : w.ownsRow base e size v n xs) (hb : Below w.heap.size w w') : w'.ownsRow base e size v n xs :=
  h.kept (row := none) ⟨hb.os, hb.tape, hb.output, hb.size, fun k hk _ => hb.block k hk⟩ (by cases hv : v.ownBlock <;> simp)
theorem own_take {w : World} {base : Nat} {e : TypeId} {g n cap n' : Nat} {l : List UInt8} (h : w.ownsRow base e 1 (.slice (some ⟨g, 0, none⟩) n cap) n (bvs l)) (hn : n' ≤ n) :
    w.ownsRow base e 1 (.slice (some ⟨g, 0, none⟩) n' cap) n' (bvs (l.take n')) := by
  have hl := h.1
  rw [bvs_length] at hl
  refine ⟨by rw [bvs_length, List.length_take]; omega, ?_⟩
  rcases h.2 with ⟨h', _⟩ | ⟨g', cap', cur, h', hb, hg, hnc, hcm, hcs, htake⟩
  · simp at h'
  · simp only [Value.slice.injEq, Option.some.injEq, Addr.mk.injEq, and_true, true_and] at h'
    obtain ⟨rfl, rfl⟩ := h'
    refine .inr ⟨g, cap, cur, rfl, hb, hg, by omega, hcm, hcs, ?_⟩
    have : (bvs l).take n' = bvs (l.take n') := by simp [bvs]
    rw [← this, ← htake, List.take_take]
    congr 1
    omega
theorem own_at {w : World} {base : Nat} {e : TypeId} {size : Nat} {v : Value} {n : Nat} {xs : List Value} (h : w.ownsRow base e size v n xs) (hn : 0 < n) :
    ∃ g cap, v = .slice (some ⟨g, 0, none⟩) n cap ∧ base ≤ g ∧ g < w.heap.size ∧ n ≤ cap ∧ cap ≤ maxLen := by
  rcases h.2 with ⟨_, h0⟩ | ⟨g, cap, cur, hv, hb, hg, hnc, hcm, _⟩
  · omega
  · exact ⟨g, cap, hv, hb, (Array.getElem?_eq_some_iff.1 hg).1, hnc, hcm⟩
theorem own_form {w : World} {base : Nat} {e : TypeId} {size : Nat} {v : Value} {n : Nat} {xs : List Value} (h : w.ownsRow base e size v n xs) : ∃ A cap, v = .slice A n cap := by
  rcases h.2 with ⟨rfl, rfl⟩ | ⟨g, cap, cur, hv, _⟩
  · exact ⟨_, _, rfl⟩
  · exact ⟨_, _, hv⟩
/-- A quiet call's contract, the other way round. -/
theorem flip {P : Program} {f : FuncId} {args : Array Value} {w : World} {v : Value} (h : Calls P f args w fun e w' => e = .returned v ∧ w = w') : Calls P f args w fun e w' => e = .returned v ∧ w' = w :=
  h.mono fun _ _ h => ⟨h.1, h.2.symm⟩
/-- A block that is known whole. -/
def Blk (w : World) (g : Nat) (t : TypeId) (cs : Array Value) : Prop := w.heap[g]? = some (.cells cs t (0, 0))
section
variable {w w' : World} {g : Nat} {t : TypeId} {cs : Array Value}
theorem Blk.lt (h : Blk w g t cs) : g < w.heap.size := (Array.getElem?_eq_some_iff.1 h).1
theorem Blk.cell (h : Blk w g t cs) (i : Nat) : w.cell? ⟨g, i, none⟩ = cs[i]? := cell_of_row w g i cs t (0, 0) h
theorem Blk.frozen (h : Blk w g t cs) (i : Nat) : w.frozen? ⟨g, i, none⟩ = false := frozen_of_row w g i cs t h
theorem Blk.new (w : World) (t : TypeId) (cs : Array Value) : Blk (w.alloc (.cells cs t)) w.heap.size t cs := heap_alloc_new w _
theorem Blk.below {B : Nat} (h : Blk w g t cs) (hb : Below B w w') (hg : g < B) : Blk w' g t cs := (hb.block g hg).trans h
theorem Blk.set {u : Value} (h : Blk w g t cs) (i : Nat) : Blk (w.setCell ⟨g, i, none⟩ u) g t (cs.setIfInBounds i u) := heap_setCell_same w g i cs t u h
end
/-- A piece of a slice of bytes, as the model cuts it. -/
theorem SB.cut {w : World} {A : Option Addr} {n cap : Nat} {l : List UInt8} (h : SB w (.slice A n cap) l) (k j : Nat) (hk : k ≤ j) (hj : j ≤ n) :
    SB w (.slice (if cap = k then A else A.map (·.add k)) (j - k) (cap - k)) ((l.take j).drop k) := by
  obtain ⟨hn, h1, h2, h3, h4⟩ := h.cells
  have hlen : ((l.take j).drop k).length = j - k := by rw [List.length_drop, List.length_take]; omega
  refine ⟨_, cap - k, by rw [hlen], by rw [hlen]; omega, by omega, ?_, fun hne => ?_⟩
  · intro hA
    split at hA
    · omega
    · have : A = none := by simpa using hA
      have := h3 this
      omega
  · have hpos : 0 < j - k := by
      rcases Nat.eq_zero_or_pos (j - k) with h0 | h0
      · exact absurd (List.eq_nil_of_length_eq_zero (by rw [hlen]; exact h0)) hne
      · exact h0
    obtain ⟨b, off, rfl, hc⟩ := h4 (by omega)
    rw [if_neg (by omega)]
    refine ⟨b, off + k, by simp [Addr.add_lit], fun i hi => ?_⟩
    rw [hlen] at hi
    have := hc (k + i) (by omega)
    rw [← Nat.add_assoc] at this
    rw [this]
    simp
/-- b[k:] of a slice of bytes: one value, whatever the capacity. -/
theorem SB.from_ {P : Program} {w : World} {A : Option Addr} {n cap : Nat} {l : List UInt8} (h : SB w (.slice A n cap) l) (t e : TypeId) (ht : P.underlying t = some (.slice e)) (he : (P.info? e).map (·.size) = some 1) (k : Nat) (hk : k ≤ n) :
    ∃ A' cap', (∀ W : World, (Instr.slice t (.slice A n cap) (some (.int .i64 (k : Int))) none none).run P W = .ok (.slice A' (n - k) cap') W) ∧ SB w (.slice A' (n - k) cap') (l.drop k) := by
  have hc := h.cut k n hk (Nat.le_refl _)
  obtain ⟨hn, _⟩ := h.cells
  rw [List.take_of_length_le (by omega)] at hc
  refine ⟨_, _, fun W => ?_, hc⟩
  cases hi : P.info? e with
  | none => simp [hi] at he
  | some i =>
    have h1 : i.size = 1 := by simpa [hi] using he
    have hb : (0 : Int) ≤ (k : Int) ∧ (k : Int) ≤ (n : Int) := by omega
    simp [Instr.slice, Instr.sliceBounds, Instr.sliceBound, run_underlying ht, sizeOf, typeInfo, hi, h1, asIntOf, hk]
theorem and_15 (n : Nat) : n &&& 15 = n % 16 := Nat.and_two_pow_sub_one_eq_mod n 4
theorem and_63 (n : Nat) : n &&& 63 = n % 64 := Nat.and_two_pow_sub_one_eq_mod n 6
theorem and63 (n : Nat) (h : n < 9223372036854775808) : bits .and .i64 (n : Int) 63 = ((n % 64 : Nat) : Int) := by
  have := bits_and_i64 n 63 h (by omega)
  rw [and_63] at this
  exact this
theorem u8_and15 (b : UInt8) : bits .and .u8 (b.toNat : Int) 15 = (b.toNat : Int) % 16 := by
  have := b.toNat_lt
  have h := u8_and_nat b.toNat 15 (by omega) (by omega)
  rw [and_15] at h
  simpa using h
theorem results4 {fn : Func} {t u v x : Tmp} (h : fn.results = #[.tmp t, .tmp u, .tmp v, .tmp x]) (tmps : Array Value) (P : Program) (w : World) :
    (results fn tmps).run P w = .ok (.tuple #[tmps.getD t undef, tmps.getD u undef, tmps.getD v undef, tmps.getD x undef]) w := by
  simp [results, h]
end Go.Proofs.YtpheifdpjcppdaaGreatDoor
namespace Go.Proofs.YtpheifdpjcppdaaGreatDoor
open Go.RowKit
theorem Blk.grown {w w' : World} {g : Nat} {t : TypeId} {cs : Array Value} {row : Option Nat} (h : Blk w g t cs) (hg : w.grownBy w' row) (hne : row ≠ some g) : Blk w' g t cs :=
  (hg.block g h.lt (Ne.symm hne)).trans h
theorem Blk.drew {w : World} {g : Nat} {t : TypeId} {cs : Array Value} (h : Blk w g t cs) : Blk w.drew g t cs := h
theorem Blk.alloc {w : World} {g : Nat} {t : TypeId} {cs : Array Value} (h : Blk w g t cs) (o : Obj) : Blk (w.alloc o) g t cs := (Below.heap_alloc w o g h.lt).trans h
theorem Blk.other {w : World} {g : Nat} {t : TypeId} {cs : Array Value} (h : Blk w g t cs) {a : Addr} (u : Value) (hne : g ≠ a.block) : Blk (w.setCell a u) g t cs := (Below.heap_setCell w a u g hne).trans h
theorem Blk.set0 {w : World} {g : Nat} {t : TypeId} {x : Value} (h : Blk w g t #[x]) (u : Value) : Blk (w.setCell ⟨g, 0, none⟩ u) g t #[u] := by
  have := h.set (u := u) 0
  simpa using this
theorem Blk.free {w : World} {g : Nat} {t : TypeId} {cs : Array Value} (h : Blk w g t cs) (i : Nat) : w.frozen? ⟨g, i, none⟩ = false := h.frozen i
theorem size_setCell (w : World) (a : Addr) (u : Value) : (w.setCell a u).heap.size = w.heap.size := by simp
/-- A store elsewhere leaves a row of the call's own. -/
theorem own_other {w : World} {base : Nat} {e : TypeId} {size : Nat} {v : Value} {n : Nat} {xs : List Value} (h : w.ownsRow base e size v n xs) {a : Addr} (u : Value) (hne : v.ownBlock ≠ some a.block) : (w.setCell a u).ownsRow base e size v n xs := by
  refine ⟨h.1, ?_⟩
  rcases h.2 with h | ⟨g, cap, cur, rfl, hb, hg, rest⟩
  · exact .inl h
  · refine .inr ⟨g, cap, cur, rfl, hb, ?_, rest⟩
    rw [Below.heap_setCell w a u g (fun e => hne (by simp [Value.ownBlock, e]))]
    exact hg
theorem own_block {w : World} {base : Nat} {e : TypeId} {size : Nat} {v : Value} {n : Nat} {xs : List Value} (h : w.ownsRow base e size v n xs) (g : Nat) (hg : g < base) : v.ownBlock ≠ some g := by
  rcases h.2 with ⟨rfl, _⟩ | ⟨k, cap, cur, rfl, hb, _⟩
  · simp [Value.ownBlock]
  · simp [Value.ownBlock]; omega
/-- append of one thing of some cells, just built, onto a row of the call's own. -/
theorem wp_append_blk {P : Program} {w : World} {o : Oper} {a : Act} {K : Act → World → Prop} {Q : Exit → Act → World → Prop} (s x : Operand) (t e : TypeId) (z : Value) (size bytes : Nat)
    (ho : o.op = .call { callee := .builtin .append, args := #[s, x], argTypes := #[t, t] }) (ht : P.underlying t = some (.slice e))
    (hinfo : (P.info? e).map (fun i => (i.zero, i.size, i.bytes)) = some (some z, size, bytes)) (hzs : z.cells.size = size) (hsz : 0 < size)
    (base : Nat) (v : Value) (n : Nat) (xs : List Value) (hs : a.eval s = v) (hown : w.ownsRow base e size v n xs)
    (g c : Nat) (news : List Value) (hx : a.eval x = .slice (some ⟨g, 0, none⟩) 1 c) (hblk : Blk w g e news.toArray) (hl : news.length = size) (h1 : ∀ u ∈ news, u.oneCell' = true)
    (hn : n + 1 ≤ 1000000000000) (hby : bytes ≤ 100) (hbase : base ≤ w.heap.size)
    (h : ∀ v' w', w'.ownsRow base e size v' (n + 1) (xs ++ news) → Below base w w' → w.grownBy w' v.ownBlock → K (a.put o.dst v') w') : o.wp P a w K Q := by
  obtain ⟨i0, hi, hz0, hz1, hz2⟩ := info_parts hinfo
  refine wp_append_own w s x t ho base e i0 z size bytes ht hi hz0 hz1 hz2 hzs hsz v n xs hs hown ⟨g, 0, none⟩ 1 c news hx (by omega) ?_ h1 (by unfold maxLen; omega) ?_ hbase ?_
  · intro j u hu
    rw [Addr.add_lit, hblk.cell]
    simpa using hu
  · have : (n + 1) * bytes ≤ 1000000000000 * 100 := Nat.mul_le_mul hn hby
    omega
  · intro v' w' h1 h2 _
    exact h v' w' h1 ((Below.refl _ _).grown h2 hbase (fun k hk => (hown.lt k hk).1)) h2
end Go.Proofs.YtpheifdpjcppdaaGreatDoor
namespace Go.Proofs.YtpheifdpjcppdaaGreatDoor
open Go.RowKit
theorem wpList_append_one {P : Program} {w : World} {ops : Array Oper} {rest : List Oper} {o : Oper} {a : Act} {Q : Exit → Act → World → Prop} (hgd : o.guard = none) (s x : Operand) (t e : TypeId) (z : Value) (size bytes : Nat)
    (ho : o.op = .call { callee := .builtin .append, args := #[s, x], argTypes := #[t, t] }) (ht : P.underlying t = some (.slice e))
    (hinfo : (P.info? e).map (fun i => (i.zero, i.size, i.bytes)) = some (some z, size, bytes)) (hzs : z.cells.size = size) (hsz : 0 < size)
    (base : Nat) (v : Value) (n : Nat) (xs : List Value) (hs : a.eval s = v) (hown : w.ownsRow base e size v n xs)
    (news : List Value) (hx : a.eval x = .slice (some ⟨w.heap.size, 0, none⟩) 1 1) (hl : news.length = size) (h1 : ∀ u ∈ news, u.oneCell' = true)
    (hn : n + 1 ≤ 1000000000000) (hby : bytes ≤ 100) (hbase : base ≤ w.heap.size)
    (h : ∀ v' w', w'.ownsRow base e size v' (n + 1) (xs ++ news) → Below base w w' → wpList P ops Q rest (a.put o.dst v') w') : wpList P ops Q (o :: rest) a (w.alloc (.cells news.toArray e)) :=
  wpList_plain hgd fun _ hK => wp_append_blk s x t e z size bytes ho ht hinfo hzs hsz base v n xs hs (hown.alloc _) w.heap.size 1 news hx (Blk.new w e news.toArray) hl h1 hn hby (by simp; omega)
    fun v' w' h1 h2 _ => hK _ _ (h v' w' h1 (((Below.refl _ _).alloc hbase _).trans h2))
end Go.Proofs.YtpheifdpjcppdaaGreatDoor
namespace Go.Proofs.YtpheifdpjcppdaaGreatDoor
open Go.RowKit
/-- But for the blocks of X, what was there is there. -/
structure Kept (X : Nat → Prop) (w w' : World) : Prop where
  os : w'.os = w.os
  tape : w'.tape = w.tape
  output : w'.output = w.output
  size : w.heap.size ≤ w'.heap.size
  block : ∀ k, k < w.heap.size → ¬ X k → w'.heap[k]? = w.heap[k]?
def nowhere : Nat → Prop := fun _ => False
namespace Kept
variable {X Y : Nat → Prop} {a b c w w' : World}
theorem refl (X : Nat → Prop) (w : World) : Kept X w w := ⟨rfl, rfl, rfl, Nat.le_refl _, fun _ _ _ => rfl⟩
theorem trans (h : Kept X a b) (k : Kept X b c) : Kept X a c :=
  ⟨k.os.trans h.os, k.tape.trans h.tape, k.output.trans h.output, Nat.le_trans h.size k.size, fun i hi hx => (k.block i (Nat.lt_of_lt_of_le hi h.size) hx).trans (h.block i hi hx)⟩
theorem mono (h : Kept X w w') (hX : ∀ k, k < w.heap.size → X k → Y k) : Kept Y w w' := ⟨h.os, h.tape, h.output, h.size, fun k hk hy => h.block k hk fun hx => hy (hX k hk hx)⟩
theorem of_below (h : Below w.heap.size w w') (X : Nat → Prop) : Kept X w w' := ⟨h.os, h.tape, h.output, h.size, fun k hk _ => h.block k hk⟩
theorem below {B : Nat} (h : Kept X w w') (hB : B ≤ w.heap.size) (hX : ∀ k, k < w.heap.size → X k → B ≤ k) : Below B w w' :=
  ⟨h.os, h.tape, h.output, h.size, fun k hk => h.block k (by omega) fun hx => by have := hX k (by omega) hx; omega⟩
theorem grown {row : Option Nat} (h : w.grownBy w' row) : Kept (fun k => row = some k) w w' := ⟨h.os, h.tape, h.output, h.size, fun k hk hx => h.block k hk fun e => hx e.symm⟩
theorem setCell (h : Kept X a w) {p : Addr} (u : Value) (hp : p.block < a.heap.size → X p.block) : Kept X a (w.setCell p u) :=
  ⟨h.os, h.tape, h.output, by rw [size_setCell]; exact h.size, fun k hk hx => (Below.heap_setCell w p u k (fun e => hx (e ▸ hp (e ▸ hk)))).trans (h.block k hk hx)⟩
theorem alloc (h : Kept X a w) (o : Obj) : Kept X a (w.alloc o) := h.trans (of_below ((Below.refl _ _).alloc (Nat.le_refl _) _) X)
theorem drew (h : Kept X a w) : Kept X a w.drew := ⟨h.os, h.tape, h.output, h.size, h.block⟩
theorem cell (h : Kept X w w') {p : Addr} {v : Value} (hc : w.cell? p = some v) (hp : ¬ X p.block) : w'.cell? p = some v :=
  (World.cell?_of_block (h.block p.block (World.block_lt_of_cell? w p hc) hp)).trans hc
theorem blk (h : Kept X w w') {g : Nat} {t : TypeId} {cs : Array Value} (hb : Blk w g t cs) (hg : ¬ X g) : Blk w' g t cs := (h.block g hb.lt hg).trans hb
theorem own {base : Nat} {e : TypeId} {size : Nat} {v : Value} {n : Nat} {xs : List Value} (h : Kept X w w') (ho : w.ownsRow base e size v n xs) (hx : ∀ k, v.ownBlock = some k → ¬ X k) : w'.ownsRow base e size v n xs := by
  refine ⟨ho.1, ?_⟩
  rcases ho.2 with h0 | ⟨g, cap, cur, rfl, hb, hg, rest⟩
  · exact .inl h0
  · exact .inr ⟨g, cap, cur, rfl, hb, (h.block g (Array.getElem?_eq_some_iff.1 hg).1 (hx g rfl)).trans hg, rest⟩
end Kept
/-- How the cells of a thing read, off the blocks of X. -/
abbrev Rel (α : Type) := (Nat → Prop) → World → List Value → α → Prop
/-- Such a reading lasts while its blocks are kept. -/
structure Good {α : Type} (sz : Nat) (R : Rel α) : Prop where
  keep : ∀ {X : Nat → Prop} {w w' : World} {cs : List Value} {a : α}, R X w cs a → Kept X w w' → R X w' cs a
  mono : ∀ {X Y : Nat → Prop} {w : World} {cs : List Value} {a : α}, R X w cs a → (∀ k, k < w.heap.size → Y k → X k) → R Y w cs a
  len : ∀ {X : Nat → Prop} {w : World} {cs : List Value} {a : α}, R X w cs a → cs.length = sz
  one : ∀ {X : Nat → Prop} {w : World} {cs : List Value} {a : α}, R X w cs a → ∀ u ∈ cs, u.oneCell' = true
/-- A slice that reads as a list (nil let in). -/
def Sl {α : Type} (sz : Nat) (R : Rel α) (X : Nat → Prop) (w : World) (v : Value) (l : List α) : Prop :=
  ∃ (A : Option Addr) (cap : Nat), v = .slice A l.length cap ∧ l.length ≤ cap ∧ cap ≤ maxLen ∧ (A = none → cap = 0) ∧
    (l ≠ [] → ∃ b off, A = some ⟨b, off, none⟩ ∧ ¬ X b ∧ ∀ j (h : j < l.length), ∃ cs : List Value, (∀ i u, cs[i]? = some u → w.cell? ⟨b, off + j * sz + i, none⟩ = some u) ∧ R X w cs l[j]) ∧
    (∀ b off, A = some ⟨b, off, none⟩ → ∀ i, i < l.length * sz → w.frozen? ⟨b, off + i, none⟩ = false)
section
variable {α : Type} {sz : Nat} {R : Rel α} {X Y : Nat → Prop} {w w' : World} {v : Value} {l : List α}
theorem Sl.nil (sz : Nat) (R : Rel α) (X : Nat → Prop) (w : World) : Sl sz R X w (.slice none 0 0) [] := ⟨none, 0, rfl, Nat.le_refl _, Nat.zero_le _, fun _ => rfl, fun h => absurd rfl h, fun _ _ h => by cases h⟩
theorem Kept.frozen {X : Nat → Prop} {w w' : World} (h : Kept X w w') {p : Addr} (hl : p.block < w.heap.size) (hp : ¬ X p.block) : w'.frozen? p = w.frozen? p := World.frozen?_of_block (h.block p.block hl hp)
theorem Sl.keep (G : Good sz R) (h : Sl sz R X w v l) (k : Kept X w w') : Sl sz R X w' v l := by
  obtain ⟨A, cap, hv, h1, h2, h3, h4, h5⟩ := h
  refine ⟨A, cap, hv, h1, h2, h3, fun hl => ?_, fun b off hA i hi => ?_⟩
  · obtain ⟨b, off, hA, hX, hc⟩ := h4 hl
    refine ⟨b, off, hA, hX, fun j hj => ?_⟩
    obtain ⟨cs, hcs, hR⟩ := hc j hj
    exact ⟨cs, fun i u hu => k.cell (hcs i u hu) hX, G.keep hR k⟩
  · have hl : l ≠ [] := fun e => by subst e; simp at hi
    obtain ⟨b', off', hA', hX, hc⟩ := h4 hl
    rw [hA] at hA'
    injection hA' with hA'
    injection hA' with e1 e2
    subst e1 e2
    have hpos : 0 < l.length := List.length_pos_iff.2 hl
    obtain ⟨cs, hcs, hR⟩ := hc 0 hpos
    have hlen := G.len hR
    have hsz : 0 < sz := by
      rcases Nat.eq_zero_or_pos sz with h0 | h0
      · subst h0; simp at hi
      · exact h0
    have hlt : b < w.heap.size := lt_of_cell (hcs 0 cs[0] (List.getElem?_eq_getElem (by omega)))
    rw [k.frozen (p := ⟨b, off + i, none⟩) hlt hX]
    exact h5 b off hA i hi
theorem Sl.mono (G : Good sz R) (hsz : 0 < sz) (h : Sl sz R X w v l) (hXY : ∀ k, k < w.heap.size → Y k → X k) : Sl sz R Y w v l := by
  obtain ⟨A, cap, hv, h1, h2, h3, h4, h5⟩ := h
  refine ⟨A, cap, hv, h1, h2, h3, fun hl => ?_, h5⟩
  obtain ⟨b, off, hA, hX, hc⟩ := h4 hl
  refine ⟨b, off, hA, fun hY => ?_, fun j hj => ?_⟩
  · have hpos : 0 < l.length := List.length_pos_iff.2 hl
    obtain ⟨cs, hcs, hR⟩ := hc 0 hpos
    have hlen := G.len hR
    have hlt : b < w.heap.size := lt_of_cell (hcs 0 cs[0] (List.getElem?_eq_getElem (by omega)))
    exact hX (hXY b hlt hY)
  · obtain ⟨cs, hcs, hR⟩ := hc j hj
    exact ⟨cs, hcs, G.mono hR hXY⟩
theorem Sl.form (h : Sl sz R X w v l) : ∃ A cap, v = .slice A l.length cap ∧ l.length ≤ cap ∧ cap ≤ maxLen := by
  obtain ⟨A, cap, hv, h1, h2, _⟩ := h
  exact ⟨A, cap, hv, h1, h2⟩
/-- The j-th thing. -/
theorem Sl.at {A : Option Addr} {n cap : Nat} (h : Sl sz R X w (.slice A n cap) l) : n = l.length ∧ n ≤ cap ∧ cap ≤ maxLen ∧ (0 < n → ∃ b off, A = some ⟨b, off, none⟩ ∧ ¬ X b ∧ ∀ j (h : j < l.length), ∃ cs : List Value, (∀ i u, cs[i]? = some u → w.cell? ⟨b, off + j * sz + i, none⟩ = some u) ∧ R X w cs l[j]) := by
  obtain ⟨A', cap', hv, h1, h2, h3, h4, _⟩ := h
  injection hv with e1 e2 e3
  subst e1 e2 e3
  exact ⟨rfl, h1, h2, fun hn => h4 (fun e => by subst e; simp at hn)⟩
/-- Its cells can be written. -/
theorem Sl.free {b off n cap : Nat} (h : Sl sz R X w (.slice (some ⟨b, off, none⟩) n cap) l) (i : Nat) (hi : i < l.length * sz) : w.frozen? ⟨b, off + i, none⟩ = false := by
  obtain ⟨A', cap', hv, _, _, _, _, h5⟩ := h
  injection hv with e1 e2 e3
  exact h5 b off e1.symm i hi
/-- A row that is being made: its things lie off X and off the row. -/
def OwnL (sz : Nat) (R : Rel α) (e : TypeId) (base : Nat) (X : Nat → Prop) (w : World) (v : Value) (l : List α) : Prop :=
  ∃ css : List (List Value), w.ownsRow base e sz v l.length css.flatten ∧ css.length = l.length ∧ (∀ k, v.ownBlock = some k → ¬ X k) ∧
    ∀ j (h : j < l.length) (h' : j < css.length), R (fun k => X k ∨ v.ownBlock = some k) w css[j] l[j]
theorem OwnL.nil (sz : Nat) (R : Rel α) (e : TypeId) (base : Nat) (X : Nat → Prop) (w : World) : OwnL sz R e base X w (.slice none 0 0) [] :=
  ⟨[], World.ownsRow_nil _ _ _ _, rfl, (fun k h => by simp [Value.ownBlock] at h), fun j h => by simp at h⟩
theorem OwnL.form {e : TypeId} {base : Nat} (h : OwnL sz R e base X w v l) : ∃ A cap, v = .slice A l.length cap := by
  obtain ⟨css, ho, _⟩ := h
  exact own_form ho
theorem flatten_at (css : List (List Value)) (sz : Nat) (hs : ∀ cs ∈ css, cs.length = sz) (j : Nat) (hj : j < css.length) (i : Nat) (hi : i < sz) : css.flatten[j * sz + i]? = css[j][i]? := by
  induction css generalizing j with
  | nil => simp at hj
  | cons c css ih =>
    have hc := hs c (by simp)
    cases j with
    | zero =>
      simp only [List.flatten_cons, Nat.zero_mul, Nat.zero_add, List.getElem_cons_zero]
      rw [List.getElem?_append_left (by omega)]
    | succ j =>
      simp only [List.flatten_cons, List.getElem_cons_succ]
      rw [List.getElem?_append_right (by rw [hc, Nat.succ_mul]; omega), hc, show (j + 1) * sz + i - sz = j * sz + i by rw [Nat.succ_mul]; omega]
      exact ih (fun cs h => hs cs (by simp [h])) j (by simpa using hj)
/-- A row that was made, read. -/
theorem OwnL.sl {e : TypeId} {base : Nat} (G : Good sz R) (h : OwnL sz R e base X w v l) : Sl sz R X w v l := by
  obtain ⟨css, ho, hl, hX, hR⟩ := h
  have hall : ∀ cs ∈ css, cs.length = sz := fun cs hcs => by
    obtain ⟨j, hj, rfl⟩ := List.getElem_of_mem hcs
    exact G.len (hR j (by omega) hj)
  rcases ho.2 with ⟨rfl, h0⟩ | ⟨g, cap, cur, rfl, hb, hg, hnc, hcm, hcs, htake⟩
  · have : l = [] := List.eq_nil_of_length_eq_zero h0
    subst this
    exact Sl.nil _ _ _ _
  · refine ⟨_, cap, rfl, hnc, hcm, (fun h => by cases h), fun _ => ⟨g, 0, rfl, hX g rfl, fun j hj => ⟨css[j]'(by omega), fun i u hu => ?_, G.mono (hR j hj (by omega)) fun k _ h => .inl h⟩⟩, fun b off hA i _ => by
      injection hA with hA
      injection hA with e1 e2
      subst e1 e2
      exact frozen_of_row w _ _ cur e hg⟩
    have hi : i < sz := by
      have := (List.getElem?_eq_some_iff.1 hu).1
      rw [hall _ (List.getElem_mem (by omega))] at this
      exact this
    have := ho.cellAt (j * sz + i) (by
      have : j * sz + sz ≤ l.length * sz := by rw [← Nat.succ_mul]; exact Nat.mul_le_mul_right _ hj
      omega)
    rw [Nat.zero_add, this, flatten_at css sz hall j (by omega) i hi]
    exact hu
theorem OwnL.keep {e : TypeId} {base : Nat} (G : Good sz R) (h : OwnL sz R e base X w v l) (k : Kept X w w') : OwnL sz R e base X w' v l := by
  obtain ⟨css, ho, hl, hX, hR⟩ := h
  exact ⟨css, k.own ho hX, hl, hX, fun j h h' => G.keep (hR j h h') (k.mono fun i _ hi => .inl hi)⟩
theorem OwnL.mono {e : TypeId} {base : Nat} (G : Good sz R) (h : OwnL sz R e base X w v l) (hXY : ∀ k, k < w.heap.size → Y k → X k) (hY : ∀ k, v.ownBlock = some k → ¬ Y k) : OwnL sz R e base Y w v l := by
  obtain ⟨css, ho, hl, hX, hR⟩ := h
  exact ⟨css, ho, hl, hY, fun j h h' => G.mono (hR j h h') fun k hk hk2 => hk2.imp (hXY k hk) id⟩
/-- The row's own block is new, or was there. -/
theorem append_block {P : Program} {e t ty : TypeId} {i : TypeInfo} {z : Value} {size bytes base : Nat} (ht : P.underlying t = some (.slice e)) (hi : P.info? e = some i) (hz : i.zero = some z)
    (hsize : i.size = size) (hby : i.bytes = bytes) (hzs : z.cells.size = size) (hsz : 0 < size) {n : Nat} {xs : List Value} (hown : w.ownsRow base e size v n xs)
    (a : Addr) (m c : Nat) (news : List Value) (hl : news.length = m * size) (hnews : ∀ j u, news[j]? = some u → w.cell? (a.add j) = some u) (h1 : ∀ u ∈ news, u.oneCell' = true)
    (h63 : n + m ≤ maxLen) (hbytes : (n + m) * bytes ≤ 140737488355328) {v' : Value}
    (hr : (Builtin.append_ #[t, t] ty #[v, .slice (some a) m c]).run P w = .ok v' w') : v'.ownBlock = v.ownBlock ∨ ∀ k, v'.ownBlock = some k → w.heap.size ≤ k := by
  rcases hown.2 with ⟨rfl, rfl⟩ | ⟨g, cap, cur, rfl, hbg, hg, hnc, hcm, hcs, htake⟩
  · have hx : xs = [] := List.eq_nil_of_length_eq_zero (by simpa using hown.1)
    subst hx
    obtain ⟨v2, w2, hr2, ho2, _⟩ := run_append_own (P := P) w w.heap.size t ty e i z size bytes ht hi hz hsize hby hzs hsz (.slice none 0 0) 0 [] (World.ownsRow_nil _ _ _ _) a m c news hl hnews h1 h63 hbytes (Nat.le_refl _)
    rw [hr] at hr2
    injection hr2 with e1 e2
    subst e1
    exact .inr fun k hk => (ho2.lt k hk).1
  · by_cases hroom : n + m ≤ cap
    · obtain ⟨w2, hr2, _⟩ := run_append_fits (P := P) w base t ty e i size ht hi hsize g n cap xs hown a m c news hl hnews h1 hroom
      rw [hr] at hr2
      injection hr2 with e1 e2
      subst e1
      exact .inl rfl
    · subst hsize hby
      have hr2 := run_append_grow (P := P) w t ty e i z ht hi hz ⟨g, 0, none⟩ n cap xs hown.1 (hown.cells (g := g) rfl) a m c news hl hnews (by omega) (by simp only [maxLen] at h63; omega) (growslice_fits (by omega) hbytes)
      rw [hr] at hr2
      injection hr2 with e1 e2
      subst e1
      exact .inr fun k hk => by simp [Value.ownBlock] at hk; omega
/-- append of one thing, just built (in a region that draws its order, or not). -/
theorem wp_appendL {P : Program} {o : Oper} {a : Act} {K : Act → World → Prop} {Q : Exit → Act → World → Prop} (G : Good sz R) (s x : Operand) (t e : TypeId) (z : Value) (bytes : Nat)
    (ho : o.op = .call { callee := .builtin .append, args := #[s, x], argTypes := #[t, t] }) (ht : P.underlying t = some (.slice e))
    (hinfo : (P.info? e).map (fun i => (i.zero, i.size, i.bytes)) = some (some z, sz, bytes)) (hzs : z.cells.size = sz) (hsz : 0 < sz)
    (base : Nat) (hs : a.eval s = v) (hown : OwnL sz R e base X w v l)
    (g c : Nat) (cs : List Value) (y : α) (hx : a.eval x = .slice (some ⟨g, 0, none⟩) 1 c) (hblk : Blk w g e cs.toArray) (hR : R (fun k => X k ∨ v.ownBlock = some k) w cs y)
    (hn : l.length + 1 ≤ 1000000000000) (hby : bytes ≤ 100) (hbase : base ≤ w.heap.size) (hX : ∀ k, w.heap.size ≤ k → ¬ X k)
    (h : ∀ v' w', OwnL sz R e base X w' v' (l ++ [y]) → Kept (fun k => v.ownBlock = some k) w w' → K (a.put o.dst v') w') : o.wp P a w K Q := by
  obtain ⟨i0, hi, hz0, hz1, hz2⟩ := info_parts hinfo
  obtain ⟨css, hrow, hcl, hX1, hall⟩ := hown
  have hlen : cs.length = sz := G.len hR
  have hnews : ∀ j u, cs[j]? = some u → w.cell? ((⟨g, 0, none⟩ : Addr).add j) = some u := fun j u hu => by
    rw [Addr.add_lit, hblk.cell]
    simpa using hu
  have hby2 : (l.length + 1) * bytes ≤ 140737488355328 := by
    have : (l.length + 1) * bytes ≤ 1000000000000 * 100 := Nat.mul_le_mul hn hby
    omega
  obtain ⟨v', w', hr, h2, h3, _⟩ := run_append_own (P := P) w base t o.type e i0 z sz bytes ht hi hz0 hz1 hz2 hzs hsz v l.length css.flatten hrow ⟨g, 0, none⟩ 1 c cs (by omega) hnews (G.one hR) (by unfold maxLen; omega) hby2 hbase
  have hob := append_block ht hi hz0 hz1 hz2 hzs hsz hrow ⟨g, 0, none⟩ 1 c cs (by omega) hnews (G.one hR) (by unfold maxLen; omega) hby2 hr
  have hkept := Kept.grown h3
  have hkept2 : Kept (fun k => X k ∨ v.ownBlock = some k) w w' := hkept.mono fun k _ hk => .inr hk
  have hsub : ∀ k, k < w'.heap.size → (X k ∨ v'.ownBlock = some k) → k < w.heap.size → (X k ∨ v.ownBlock = some k) := fun k _ hk hlt => hk.imp id fun h => by
    rcases hob with e | e
    · rw [← e]; exact h
    · have := e k h; omega
  have move : ∀ (ds : List Value) (b : α), R (fun k => X k ∨ v.ownBlock = some k) w ds b → R (fun k => X k ∨ v'.ownBlock = some k) w' ds b := fun ds b hb => by
    have b1 := G.mono (Y := fun k => (X k ∨ v.ownBlock = some k) ∨ (X k ∨ v'.ownBlock = some k)) hb fun k hk hk2 => hk2.elim id fun h => hsub k (by have := h3.size; omega) h hk
    exact G.mono (G.keep b1 (hkept2.mono fun k _ hk => .inl hk)) fun k _ hk => .inr hk
  unfold Oper.wp execOp
  simp only [ho, resolve, invoke, builtin, Sem.run_bind, Sem.run_pure, Result.andThen_ok, List.map_toArray, List.map_cons, List.map_nil, hs, hx, hr]
  refine h v' w' ⟨css ++ [cs], ?_, ?_, ?_, ?_⟩ hkept
  · rw [List.length_append, List.length_singleton, List.flatten_append]
    simpa using h2
  · simp [hcl]
  · intro k hk
    rcases hob with e | e
    · exact hX1 k (by rw [← e]; exact hk)
    · exact hX k (e k hk)
  · intro j hj hj'
    by_cases hlt : j < l.length
    · rw [List.getElem_append_left (by omega), List.getElem_append_left hlt]
      exact move _ _ (hall j hlt (by omega))
    · have hjl : j = l.length := by rw [List.length_append, List.length_singleton] at hj; omega
      subst hjl
      rw [List.getElem_append_right (by omega), List.getElem_append_right (by omega)]
      simp only [hcl, Nat.sub_self, List.getElem_cons_zero]
      exact move _ _ hR
theorem wpList_appendL {P : Program} {ops : Array Oper} {rest : List Oper} {o : Oper} {a : Act} {Q : Exit → Act → World → Prop} (G : Good sz R) (hgd : o.guard = none) (s x : Operand) (t e : TypeId) (z : Value) (bytes : Nat)
    (ho : o.op = .call { callee := .builtin .append, args := #[s, x], argTypes := #[t, t] }) (ht : P.underlying t = some (.slice e))
    (hinfo : (P.info? e).map (fun i => (i.zero, i.size, i.bytes)) = some (some z, sz, bytes)) (hzs : z.cells.size = sz) (hsz : 0 < sz)
    (base : Nat) (hs : a.eval s = v) (hown : OwnL sz R e base X w v l)
    (cs : List Value) (y : α) (hx : a.eval x = .slice (some ⟨w.heap.size, 0, none⟩) 1 1) (hR : R (fun k => X k ∨ v.ownBlock = some k) w cs y)
    (hn : l.length + 1 ≤ 1000000000000) (hby : bytes ≤ 100) (hbase : base ≤ w.heap.size) (hX : ∀ k, w.heap.size ≤ k → ¬ X k)
    (h : ∀ v' w', OwnL sz R e base X w' v' (l ++ [y]) → Kept (fun k => v.ownBlock = some k) w w' → wpList P ops Q rest (a.put o.dst v') w') : wpList P ops Q (o :: rest) a (w.alloc (.cells cs.toArray e)) :=
  wpList_plain hgd fun _ hK => wp_appendL (X := X) G s x t e z bytes ho ht hinfo hzs hsz base hs (hown.keep G (Kept.of_below ((Below.refl _ _).alloc (Nat.le_refl _) _) X)) w.heap.size 1 cs y hx (Blk.new w e cs.toArray)
    (G.keep hR (Kept.of_below ((Below.refl _ _).alloc (Nat.le_refl _) _) _)) hn hby (by simp; omega) (fun k hk => hX k (by simp at hk; omega))
    fun v' w' h1 h2 => hK _ _ (h v' w' h1 ((Kept.of_below ((Below.refl _ _).alloc (Nat.le_refl _) _) _).trans h2))
end
/-- A text. -/
def Rtext : Rel (List UInt8) := fun _ _ cs s => cs = [.string ⟨s.toArray⟩]
theorem good_text : Good 1 Rtext := ⟨fun h _ => h, fun h _ => h, (fun h => by subst h; rfl), (fun h u hu => by subst h; simp at hu; subst hu; rfl)⟩
/-- A slice in a cell. -/
def Rslice {α : Type} (sz : Nat) (R : Rel α) : Rel (List α) := fun X w cs l => ∃ v, cs = [v] ∧ Sl sz R X w v l
theorem good_slice {α : Type} {sz : Nat} {R : Rel α} (G : Good sz R) (hsz : 0 < sz) : Good 1 (Rslice sz R) :=
  ⟨fun ⟨v, h1, h2⟩ k => ⟨v, h1, h2.keep G k⟩, fun ⟨v, h1, h2⟩ k => ⟨v, h1, h2.mono G hsz k⟩, (fun ⟨v, h1, _⟩ => by subst h1; rfl), (fun ⟨v, h1, h2⟩ u hu => by
    subst h1
    obtain ⟨A, cap, rfl, _⟩ := h2
    simp at hu; subst hu; rfl)⟩
end Go.Proofs.YtpheifdpjcppdaaGreatDoor
