/- Small words and facts of my own about memory and bytes, over any program. -/
import Derived.WalkKit
import Derived.Lib.Hide
import Derived.WalkSpells
import Derived.WalkLawsBesides
import Derived.StillTailTactics
namespace Go.Proofs.YtjhikglgaoncjaaDoor
open Go.RowKit

/-- A byte as a value; bytes as values. -/
def bv (b : UInt8) : Value := .int .u8 (b.toNat : Int)
def bvs (l : List UInt8) : List Value := l.map bv
theorem bvs_length (l : List UInt8) : (bvs l).length = l.length := by simp [bvs]
theorem bvs_append (a b : List UInt8) : bvs (a ++ b) = bvs a ++ bvs b := by simp [bvs]
theorem bvs_get (l : List UInt8) (j : Nat) (h : j < l.length) : (bvs l)[j]? = some (.int .u8 (l[j].toNat : Int)) := by simp [bvs, bv, h]
theorem bvs_one (l : List UInt8) : ∀ u ∈ bvs l, u.oneCell' = true := by
  intro u hu
  obtain ⟨b, _, rfl⟩ := List.mem_map.1 hu
  rfl

/-- The slice value v of bytes reads as the list l (nil let in). -/
def SB (w : World) (v : Value) (l : List UInt8) : Prop :=
  ∃ (A : Option Addr) (cap : Nat), v = .slice A l.length cap ∧ l.length ≤ cap ∧ cap ≤ maxLen ∧ (A = none → cap = 0) ∧
    (l ≠ [] → ∃ b off, A = some ⟨b, off, none⟩ ∧ ∀ j (h : j < l.length), w.cell? ⟨b, off + j, none⟩ = some (.int .u8 (l[j].toNat : Int)))

theorem SB.nil (w : World) : SB w (.slice none 0 0) [] := ⟨none, 0, rfl, Nat.le_refl _, Nat.zero_le _, fun _ => rfl, fun h => absurd rfl h⟩
theorem lt_of_cell {w : World} {a : Addr} {v : Value} (h : w.cell? a = some v) : a.block < w.heap.size := World.block_lt_of_cell? w a h

/-- What is kept below the heap's size keeps every reading. -/
theorem SB.below {w w' : World} {v : Value} {l : List UInt8} (h : SB w v l) (hb : Below w.heap.size w w') : SB w' v l := by
  obtain ⟨A, cap, hv, h1, h2, h3, h4⟩ := h
  refine ⟨A, cap, hv, h1, h2, h3, fun hl => ?_⟩
  obtain ⟨b, off, hA, hc⟩ := h4 hl
  refine ⟨b, off, hA, fun j hj => ?_⟩
  have := hc j hj
  rw [hb.cell (p := ⟨b, off + j, none⟩) (lt_of_cell this)]
  exact this
theorem SB.cells {w : World} {A : Option Addr} {n cap : Nat} {l : List UInt8} (h : SB w (.slice A n cap) l) : n = l.length ∧ n ≤ cap ∧ cap ≤ maxLen ∧ (A = none → cap = 0) ∧
    (0 < n → ∃ b off, A = some ⟨b, off, none⟩ ∧ ∀ j (h : j < l.length), w.cell? ⟨b, off + j, none⟩ = some (.int .u8 (l[j].toNat : Int))) := by
  obtain ⟨A', cap', hv, h1, h2, h3, h4⟩ := h
  injection hv with e1 e2 e3
  subst e1 e2 e3
  exact ⟨rfl, h1, h2, h3, fun hn => h4 (fun e => by subst e; simp at hn)⟩
/-- A row of the call's own, read as bytes. -/
theorem SB.of_own {w : World} {base : Nat} {e : TypeId} {v : Value} {n : Nat} {l : List UInt8} (h : w.ownsRow base e 1 v n (bvs l)) : SB w v l := by
  have hn : n = l.length := by have := h.1; rw [bvs_length] at this; omega
  subst hn
  rcases h.2 with ⟨rfl, h0⟩ | ⟨g, cap, cur, rfl, hb, hg, hnc, hcm, hcs, htake⟩
  · have : l = [] := List.eq_nil_of_length_eq_zero h0
    subst this
    exact SB.nil w
  · refine ⟨_, cap, rfl, hnc, hcm, (fun h => by cases h), fun _ => ⟨g, 0, rfl, fun j hj => ?_⟩⟩
    have := h.cellAt j (by omega)
    rw [Nat.zero_add, this, bvs_get l j hj]

/-- A contract's part on memory: a new string or number, nothing old is turned. -/
theorem below_refl (w : World) : Below w.heap.size w w := Below.refl _ _
theorem below_trans {a b c : World} (h : Below a.heap.size a b) (k : Below b.heap.size b c) : Below a.heap.size a c := h.trans (k.mono h.size)

theorem take_snoc {α : Type} (l : List α) (k : Nat) (h : k < l.length) : l.take (k + 1) = l.take k ++ [l[k]] := by
  rw [List.take_succ_eq_append_getElem h]
theorem drop_cons {α : Type} (l : List α) (k : Nat) (h : k < l.length) : l.drop k = l[k] :: l.drop (k + 1) := List.drop_eq_getElem_cons h
theorem byte_lt (b : UInt8) : (b.toNat : Int) < 256 := by have := b.toNat_lt; omega
theorem byte_nonneg (b : UInt8) : (0 : Int) ≤ b.toNat := by omega
/-- append of bytes onto a row of the call's own, at the operation; what is below the base stays. -/
theorem wp_append8 {P : Program} {w : World} {o : Oper} {a : Act} {K : Act → World → Prop} {Q : Exit → Act → World → Prop} (s x : Operand) (t e : TypeId)
    (ho : o.op = .call { callee := .builtin .append, args := #[s, x], argTypes := #[t, t] }) (ht : P.underlying t = some (.slice e))
    (hinfo : (P.info? e).map (fun i => (i.zero, i.size, i.bytes)) = some (some (.int .u8 0), 1, 1))
    (base : Nat) (v : Value) (n : Nat) (l : List UInt8) (hs : a.eval s = v) (hown : w.ownsRow base e 1 v n (bvs l))
    (A : Option Addr) (m c : Nat) (news : List UInt8) (hx : a.eval x = .slice A m c) (hsb : SB w (.slice A m c) news)
    (hn : n + m ≤ 70368744177664) (hbase : base ≤ w.heap.size)
    (h : ∀ v' w', w'.ownsRow base e 1 v' (n + m) (bvs (l ++ news)) → Below base w w' → w.grownBy w' v.ownBlock → K (a.put o.dst v') w') : o.wp P a w K Q := by
  obtain ⟨i0, hi, hz0, hz1, hz2⟩ := info_parts hinfo
  obtain ⟨hm, _, _, hnil, hc⟩ := hsb.cells
  have fin : ∀ v' w', w'.ownsRow base e 1 v' (n + m) (bvs l ++ bvs news) → w.grownBy w' v.ownBlock → K (a.put o.dst v') w' := fun v' w' h1 h2 =>
    h v' w' (by rw [bvs_append]; exact h1) ((Below.refl _ _).grown h2 hbase (fun k hk => (hown.lt k hk).1)) h2
  rcases Nat.eq_zero_or_pos m with h0 | h0
  · subst h0
    have hnews : news = [] := List.eq_nil_of_length_eq_zero hm.symm
    subst hnews
    cases A with
    | none =>
      have hc0 := hnil rfl
      subst hc0
      have hrun := run_append_owned_none (P := P) w base t o.type e i0 1 ht hi v n (bvs l) hown
      unfold Oper.wp execOp
      simp only [ho, resolve, invoke, builtin, Sem.run_bind, Sem.run_pure, Result.andThen_ok, List.map_toArray, List.map_cons, List.map_nil, hs, hx, hrun]
      exact fin v w (by simpa [bvs] using hown) (World.grownBy.refl w _)
    | some ad =>
      refine wp_append_own w s x t ho base e i0 _ 1 1 ht hi hz0 hz1 hz2 rfl (by decide) v n (bvs l) hs hown ad 0 c [] hx rfl (fun j u hu => by simp at hu) (fun u hu => by simp at hu) (by unfold maxLen; omega) (by omega) hbase ?_
      intro v' w' h1 h2 _
      exact fin v' w' (by simpa [bvs] using h1) h2
  · obtain ⟨b, off, rfl, hcell⟩ := hc h0
    refine wp_append_own w s x t ho base e i0 _ 1 1 ht hi hz0 hz1 hz2 rfl (by decide) v n (bvs l) hs hown ⟨b, off, none⟩ m c (bvs news) hx (by rw [bvs_length]; omega) ?_ (bvs_one _) (by unfold maxLen; omega) (by omega) hbase ?_
    · intro j u hu
      have hj : j < news.length := by have := (List.getElem?_eq_some_iff.1 hu).1; rwa [bvs_length] at this
      rw [bvs_get news j hj] at hu
      rw [Addr.add_lit, hcell j hj]
      exact hu
    · intro v' w' h1 h2 _
      exact fin v' w' h1 h2
theorem wpList_append8 {P : Program} {w : World} {ops : Array Oper} {rest : List Oper} {o : Oper} {a : Act} {Q : Exit → Act → World → Prop} (hgd : o.guard = none) (s x : Operand) (t e : TypeId)
    (ho : o.op = .call { callee := .builtin .append, args := #[s, x], argTypes := #[t, t] }) (ht : P.underlying t = some (.slice e))
    (hinfo : (P.info? e).map (fun i => (i.zero, i.size, i.bytes)) = some (some (.int .u8 0), 1, 1))
    (base : Nat) (v : Value) (n : Nat) (l : List UInt8) (hs : a.eval s = v) (hown : w.ownsRow base e 1 v n (bvs l))
    (A : Option Addr) (m c : Nat) (news : List UInt8) (hx : a.eval x = .slice A m c) (hsb : SB w (.slice A m c) news)
    (hn : n + m ≤ 70368744177664) (hbase : base ≤ w.heap.size)
    (h : ∀ v' w', w'.ownsRow base e 1 v' (n + m) (bvs (l ++ news)) → Below base w w' → w.grownBy w' v.ownBlock → wpList P ops Q rest (a.put o.dst v') w') : wpList P ops Q (o :: rest) a w :=
  wpList_plain hgd fun _ hK => wp_append8 s x t e ho ht hinfo base v n l hs hown A m c news hx hsb hn hbase fun v' w' h1 h2 h3 => hK _ _ (h v' w' h1 h2 h3)
/-- A literal row of bytes that was just made. -/
theorem SB.made (w : World) (l : List UInt8) (cs : Array Value) (e : TypeId) (hcs : cs.toList = bvs l) (hl : l.length ≤ maxLen) :
    SB (w.alloc (.cells cs e)) (.slice (some ⟨w.heap.size, 0, none⟩) l.length l.length) l := by
  refine ⟨_, _, rfl, Nat.le_refl _, hl, (fun h => by cases h), fun _ => ⟨w.heap.size, 0, rfl, fun j hj => ?_⟩⟩
  rw [Nat.zero_add, World.cell?_alloc_at _ _ _ _ rfl]
  have := bvs_get l j hj
  rw [← hcs] at this
  simpa using this
/-- The text of a slice of bytes. -/
theorem SB.str {P : Program} {w : World} {v : Value} {l : List UInt8} (h : SB w v l) (src e dst : TypeId) (hs : P.underlying src = some (.slice e)) (he : P.underlying e = some (.int .u8)) (hd : P.underlying dst = some .string) :
    (convert src dst v).run P w = .ok (.string ⟨l.toArray⟩) w := by
  obtain ⟨A, cap, rfl, h1, h2, h3, h4⟩ := h
  cases A with
  | none =>
    have h0 := h3 rfl
    have : l = [] := List.eq_nil_of_length_eq_zero (by omega)
    subst this
    rw [run_convert_bytes_nil w src e hs he _ _ dst hd]
    rfl
  | some a =>
    by_cases hl : l = []
    · subst hl
      rw [run_convert_bytes_string w src dst e _ _ cap hs he hd, run_bytesToString w _ _ cap [] (by
        have := run_loadCells_list (P := P) w a [] (fun j v hj => by simp at hj)
        simpa using this)]
      rfl
    · obtain ⟨b, off, hA, hc⟩ := h4 hl
      cases hA
      have hx : strOfNums (l.map fun b : UInt8 => (b.toNat : Int)) = ⟨l.toArray⟩ := by
        simp [strOfNums, Function.comp_def]
      rw [run_convert_bytes_arg w src e hs he b off l.length cap (l.map fun b : UInt8 => (b.toNat : Int)) (by simp) (fun i hi => by
        rw [hc i hi]; simp [List.getD, hi]) dst hd, hx]
theorem bvs_replicate (n : Nat) : (madeCells (Value.int .u8 0).cells (n * 1)).toList = bvs (List.replicate n 0) := by
  show (madeCells #[Value.int .u8 0] (n * 1)).toList = _
  rw [toList_madeCells_one, Nat.mul_one]
  simp [bvs, bv]
theorem bvs_replicate' (n : Nat) : (madeCells #[Value.int .u8 0] n).toList = bvs (List.replicate n 0) := by
  rw [toList_madeCells_one]
  simp [bvs, bv]
theorem set_next {α : Type} (A : List α) (x y : α) (R : List α) (k : Nat) (h : k = A.length) : (A ++ x :: R).set k y = A ++ y :: R := by
  subst h
  simp
theorem bvs_set_next (A : List UInt8) (m k : Nat) (b : UInt8) (h : k = A.length) (hm : 0 < m) : (bvs (A ++ List.replicate m 0)).set k (.int .u8 (b.toNat : Int)) = bvs ((A ++ [b]) ++ List.replicate (m - 1) 0) := by
  obtain ⟨n, rfl⟩ : ∃ n, m = n + 1 := ⟨m - 1, by omega⟩
  rw [List.replicate_succ, bvs_append]
  show (bvs A ++ bv 0 :: bvs (List.replicate n 0)).set k (bv b) = _
  rw [set_next _ _ _ _ _ (by rw [bvs_length]; exact h)]
  simp [bvs]
/-- A row of bytes that is filled from its head on: the next store. -/
theorem own_store_next {w : World} {base : Nat} {e : TypeId} {g n cap : Nat} {A : List UInt8} {m : Nat} (hown : w.ownsRow base e 1 (.slice (some ⟨g, 0, none⟩) n cap) n (bvs (A ++ List.replicate m 0)))
    (k : Nat) (hk : k = A.length) (hm : 0 < m) :
    (∃ u0, w.cell? ⟨g, k, none⟩ = some u0) ∧ w.frozen? ⟨g, k, none⟩ = false ∧
      ∀ b : UInt8, (w.setCell ⟨g, k, none⟩ (.int .u8 (b.toNat : Int))).ownsRow base e 1 (.slice (some ⟨g, 0, none⟩) n cap) n (bvs ((A ++ [b]) ++ List.replicate (m - 1) 0)) := by
  have hl := hown.1
  rw [bvs_length, List.length_append, List.length_replicate] at hl
  refine ⟨?_, hown.frozenAt k, fun b => ?_⟩
  · rw [hown.cellAt k (by omega)]
    exact ⟨_, List.getElem?_eq_getElem (by rw [bvs_length, List.length_append, List.length_replicate]; omega)⟩
  · have := (hown.stored k (.int .u8 (b.toNat : Int))).1
    rw [bvs_set_next A m k b hk hm] at this
    exact this
theorem own_store {w : World} {base : Nat} {e : TypeId} {g n cap : Nat} {l : List UInt8} (hown : w.ownsRow base e 1 (.slice (some ⟨g, 0, none⟩) n cap) n (bvs l)) (k : Nat) (hk : k < n) :
    (∃ u0, w.cell? ⟨g, k, none⟩ = some u0) ∧ w.frozen? ⟨g, k, none⟩ = false ∧
      ∀ b : UInt8, (w.setCell ⟨g, k, none⟩ (.int .u8 (b.toNat : Int))).ownsRow base e 1 (.slice (some ⟨g, 0, none⟩) n cap) n (bvs (l.set k b)) := by
  have hl := hown.1
  rw [bvs_length] at hl
  refine ⟨?_, hown.frozenAt k, fun b => ?_⟩
  · rw [hown.cellAt k (by omega)]
    exact ⟨_, List.getElem?_eq_getElem (by rw [bvs_length]; omega)⟩
  · have := (hown.stored k (.int .u8 (b.toNat : Int))).1
    have e : (bvs l).set k (.int .u8 (b.toNat : Int)) = bvs (l.set k b) := by simp [bvs, List.map_set, bv]
    rw [e] at this
    exact this
theorem toNat_ofInt_i64 (a : Nat) (ha : a < 9223372036854775808) : (BitVec.ofInt 64 (a : Int)).toNat = a := by
  rw [BitVec.ofInt_natCast, BitVec.toNat_ofNat]
  exact Nat.mod_eq_of_lt (by omega)
theorem bits_or_i64 (a b : Nat) (ha : a < 9223372036854775808) (hb : b < 9223372036854775808) : bits .or .i64 (a : Int) (b : Int) = ((a ||| b : Nat) : Int) := by
  have hx : a ||| b < 2 ^ 63 := Nat.or_lt_two_pow (by omega) (by omega)
  show IntKind.i64.wrap ((BitVec.ofInt 64 (a : Int) ||| BitVec.ofInt 64 (b : Int)).toNat : Int) = _
  rw [BitVec.toNat_or, toNat_ofInt_i64 a ha, toNat_ofInt_i64 b hb, IntKind.wrap_i64]
  omega
theorem bits_and_i64 (a b : Nat) (ha : a < 9223372036854775808) (hb : b < 9223372036854775808) : bits .and .i64 (a : Int) (b : Int) = ((a &&& b : Nat) : Int) := by
  have hx : a &&& b < 2 ^ 63 := Nat.and_lt_two_pow _ (by omega)
  show IntKind.i64.wrap ((BitVec.ofInt 64 (a : Int) &&& BitVec.ofInt 64 (b : Int)).toNat : Int) = _
  rw [BitVec.toNat_and, toNat_ofInt_i64 a ha, toNat_ofInt_i64 b hb, IntKind.wrap_i64]
  omega
/-- a shifted up, and b below it. -/
theorem bits_or_low (k : Nat) (a b : Int) (ha : 0 ≤ a) (hb : 0 ≤ b) (hk : b < 2 ^ k) (h : a * 2 ^ k < 9223372036854775808) (hk2 : k < 63) : bits .or .i64 (a * 2 ^ k) b = a * 2 ^ k + b := by
  obtain ⟨x, rfl⟩ := Int.eq_ofNat_of_zero_le ha
  obtain ⟨y, rfl⟩ := Int.eq_ofNat_of_zero_le hb
  have e : ((x : Int) * 2 ^ k) = ((2 ^ k * x : Nat) : Int) := by push_cast; rw [Int.mul_comm]
  have hy : y < 2 ^ k := by exact_mod_cast hk
  have hp : 2 ^ k < 2 ^ 63 := Nat.pow_lt_pow_right (by omega) hk2
  rw [e] at h ⊢
  rw [bits_or_i64 _ _ (by omega) (by omega), ← Nat.two_pow_add_eq_or_of_lt hy x]
  push_cast
  rfl
theorem u8_in (n : Int) (h0 : 0 ≤ n) (h1 : n < 256) : IntKind.u8.wrap n = n := by
  rw [IntKind.wrap_u8']; omega
theorem u64_in (n : Int) (h0 : 0 ≤ n) (h1 : n < 18446744073709551616) : IntKind.u64.wrap n = n := by
  rw [IntKind.wrap_u64]; omega
theorem i64_in (n : Int) (h0 : -9223372036854775808 ≤ n) (h1 : n < 9223372036854775808) : IntKind.i64.wrap n = n := by
  rw [IntKind.wrap_i64]; omega
theorem own_base {w : World} {base base' : Nat} {e : TypeId} {size : Nat} {v : Value} {n : Nat} {xs : List Value} (h : w.ownsRow base e size v n xs) (hb : base' ≤ base) : w.ownsRow base' e size v n xs := by
  refine ⟨h.1, ?_⟩
  rcases h.2 with h | ⟨g, cap, cur, hv, hg, rest⟩
  · exact .inl h
  · exact .inr ⟨g, cap, cur, hv, Nat.le_trans hb hg, rest⟩
theorem own_below {w w' : World} {base : Nat} {e : TypeId} {size : Nat} {v : Value} {n : Nat} {xs : List Value} (h : w.ownsRow base e size v n xs) (hb : Below w.heap.size w w') : w'.ownsRow base e size v n xs :=
  h.kept (row := none) ⟨hb.os, hb.tape, hb.output, hb.size, fun k hk _ => hb.block k hk⟩ (by cases hv : v.ownBlock <;> simp)
theorem own_take {w : World} {base : Nat} {e : TypeId} {g n cap n' : Nat} {l : List UInt8} (h : w.ownsRow base e 1 (.slice (some ⟨g, 0, none⟩) n cap) n (bvs l)) (hn : n' ≤ n) :
    w.ownsRow base e 1 (.slice (some ⟨g, 0, none⟩) n' cap) n' (bvs (l.take n')) := by
  have hl := h.1
  rw [bvs_length] at hl
  refine ⟨by rw [bvs_length, List.length_take]; omega, ?_⟩
  rcases h.2 with ⟨h', _⟩ | ⟨g', cap', cur, h', hb, hg, hnc, hcm, hcs, htake⟩
  · simp at h'
  · simp only [Value.slice.injEq, Option.some.injEq, Addr.mk.injEq, and_true, true_and] at h'
    obtain ⟨rfl, rfl⟩ := h'
    refine .inr ⟨g, cap, cur, rfl, hb, hg, by omega, hcm, hcs, ?_⟩
    have : (bvs l).take n' = bvs (l.take n') := by simp [bvs]
    rw [← this, ← htake, List.take_take]
    congr 1
    omega
theorem own_at {w : World} {base : Nat} {e : TypeId} {size : Nat} {v : Value} {n : Nat} {xs : List Value} (h : w.ownsRow base e size v n xs) (hn : 0 < n) :
    ∃ g cap, v = .slice (some ⟨g, 0, none⟩) n cap ∧ base ≤ g ∧ g < w.heap.size ∧ n ≤ cap ∧ cap ≤ maxLen := by
  rcases h.2 with ⟨_, h0⟩ | ⟨g, cap, cur, hv, hb, hg, hnc, hcm, _⟩
  · omega
  · exact ⟨g, cap, hv, hb, (Array.getElem?_eq_some_iff.1 hg).1, hnc, hcm⟩
theorem own_form {w : World} {base : Nat} {e : TypeId} {size : Nat} {v : Value} {n : Nat} {xs : List Value} (h : w.ownsRow base e size v n xs) : ∃ A cap, v = .slice A n cap := by
  rcases h.2 with ⟨rfl, rfl⟩ | ⟨g, cap, cur, hv, _⟩
  · exact ⟨_, _, rfl⟩
  · exact ⟨_, _, hv⟩
/-- A quiet call's contract, the other way round. -/
theorem flip {P : Program} {f : FuncId} {args : Array Value} {w : World} {v : Value} (h : Calls P f args w fun e w' => e = .returned v ∧ w = w') : Calls P f args w fun e w' => e = .returned v ∧ w' = w :=
  h.mono fun _ _ h => ⟨h.1, h.2.symm⟩
/-- A block that is known whole. -/
def Blk (w : World) (g : Nat) (t : TypeId) (cs : Array Value) : Prop := w.heap[g]? = some (.cells cs t (0, 0))
section
variable {w w' : World} {g : Nat} {t : TypeId} {cs : Array Value}
theorem Blk.lt (h : Blk w g t cs) : g < w.heap.size := (Array.getElem?_eq_some_iff.1 h).1
theorem Blk.cell (h : Blk w g t cs) (i : Nat) : w.cell? ⟨g, i, none⟩ = cs[i]? := cell_of_row w g i cs t (0, 0) h
theorem Blk.frozen (h : Blk w g t cs) (i : Nat) : w.frozen? ⟨g, i, none⟩ = false := frozen_of_row w g i cs t h
theorem Blk.new (w : World) (t : TypeId) (cs : Array Value) : Blk (w.alloc (.cells cs t)) w.heap.size t cs := heap_alloc_new w _
theorem Blk.below {B : Nat} (h : Blk w g t cs) (hb : Below B w w') (hg : g < B) : Blk w' g t cs := (hb.block g hg).trans h
theorem Blk.set {u : Value} (h : Blk w g t cs) (i : Nat) : Blk (w.setCell ⟨g, i, none⟩ u) g t (cs.setIfInBounds i u) := heap_setCell_same w g i cs t u h
end
/-- A piece of a slice of bytes, as the model cuts it. -/
theorem SB.cut {w : World} {A : Option Addr} {n cap : Nat} {l : List UInt8} (h : SB w (.slice A n cap) l) (k j : Nat) (hk : k ≤ j) (hj : j ≤ n) :
    SB w (.slice (if cap = k then A else A.map (·.add k)) (j - k) (cap - k)) ((l.take j).drop k) := by
  obtain ⟨hn, h1, h2, h3, h4⟩ := h.cells
  have hlen : ((l.take j).drop k).length = j - k := by rw [List.length_drop, List.length_take]; omega
  refine ⟨_, cap - k, by rw [hlen], by rw [hlen]; omega, by omega, ?_, fun hne => ?_⟩
  · intro hA
    split at hA
    · omega
    · have : A = none := by simpa using hA
      have := h3 this
      omega
  · have hpos : 0 < j - k := by
      rcases Nat.eq_zero_or_pos (j - k) with h0 | h0
      · exact absurd (List.eq_nil_of_length_eq_zero (by rw [hlen]; exact h0)) hne
      · exact h0
    obtain ⟨b, off, rfl, hc⟩ := h4 (by omega)
    rw [if_neg (by omega)]
    refine ⟨b, off + k, by simp [Addr.add_lit], fun i hi => ?_⟩
    rw [hlen] at hi
    have := hc (k + i) (by omega)
    rw [← Nat.add_assoc] at this
    rw [this]
    simp
/-- b[k:] of a slice of bytes: one value, whatever the capacity. -/
theorem SB.from_ {P : Program} {w : World} {A : Option Addr} {n cap : Nat} {l : List UInt8} (h : SB w (.slice A n cap) l) (t e : TypeId) (ht : P.underlying t = some (.slice e)) (he : (P.info? e).map (·.size) = some 1) (k : Nat) (hk : k ≤ n) :
    ∃ A' cap', (∀ W : World, (Instr.slice t (.slice A n cap) (some (.int .i64 (k : Int))) none none).run P W = .ok (.slice A' (n - k) cap') W) ∧ SB w (.slice A' (n - k) cap') (l.drop k) := by
  have hc := h.cut k n hk (Nat.le_refl _)
  obtain ⟨hn, _⟩ := h.cells
  rw [List.take_of_length_le (by omega)] at hc
  refine ⟨_, _, fun W => ?_, hc⟩
  cases hi : P.info? e with
  | none => simp [hi] at he
  | some i =>
    have h1 : i.size = 1 := by simpa [hi] using he
    have hb : (0 : Int) ≤ (k : Int) ∧ (k : Int) ≤ (n : Int) := by omega
    simp [Instr.slice, Instr.sliceBounds, Instr.sliceBound, run_underlying ht, sizeOf, typeInfo, hi, h1, asIntOf, hk]
theorem and_15 (n : Nat) : n &&& 15 = n % 16 := Nat.and_two_pow_sub_one_eq_mod n 4
theorem and_63 (n : Nat) : n &&& 63 = n % 64 := Nat.and_two_pow_sub_one_eq_mod n 6
theorem and63 (n : Nat) (h : n < 9223372036854775808) : bits .and .i64 (n : Int) 63 = ((n % 64 : Nat) : Int) := by
  have := bits_and_i64 n 63 h (by omega)
  rw [and_63] at this
  exact this
theorem u8_and15 (b : UInt8) : bits .and .u8 (b.toNat : Int) 15 = (b.toNat : Int) % 16 := by
  have := b.toNat_lt
  have h := u8_and_nat b.toNat 15 (by omega) (by omega)
  rw [and_15] at h
  simpa using h
theorem results4 {fn : Func} {t u v x : Tmp} (h : fn.results = #[.tmp t, .tmp u, .tmp v, .tmp x]) (tmps : Array Value) (P : Program) (w : World) :
    (results fn tmps).run P w = .ok (.tuple #[tmps.getD t undef, tmps.getD u undef, tmps.getD v undef, tmps.getD x undef]) w := by
  simp [results, h]
end Go.Proofs.YtjhikglgaoncjaaDoor
