/- append of noughts ('append(out, make([]byte, n)...)') onto a row of bytes of one's own. Over any program. Rows of bytes of one's own that grow, and where their block came from. Over any program. '[]byte(s)' reads as s, in new memory. Over any program. -/
import Derived.Test.YtpheifdpjcppdaaGreatDoorBasM
import Derived.Test.YtpheifdpjcppdaaGreatDoorEnBD
namespace Go.Proofs.YtpheifdpjcppdaaGreatDoor
open Go.RowKit
theorem zc_toList (z : Value) (n : Nat) (hz : z.cells = #[z]) : (Builtin.zeroCells z.cells n).toList = List.replicate n z := by
  apply List.ext_getElem
  · simp [Builtin.zeroCells, hz]
  · intro i h1 h2
    simp [Builtin.zeroCells, hz, Nat.mod_one]
theorem run_append_zeros {P : Program} (w : World) (base : Nat) (t tI ty e : TypeId) (i : TypeInfo) (ht : P.underlying t = some (.slice e)) (hI : P.underlying tI = some (.int .i64)) (hi : P.info? e = some i) (hz : i.zero = some (.int .u8 0)) (hs : i.size = 1) (hb : i.bytes = 1)
    (v : Value) (n : Nat) (xs : List Value) (hown : w.ownsRow base e 1 v n xs) (m : Nat) (hn : n + m ≤ 70368744177664) (hbase : base ≤ w.heap.size) :
    ∃ v' w', (Builtin.append_ #[t, tI] ty #[v, .int .i64 (m : Int)]).run P w = .ok v' w' ∧ w'.ownsRow base e 1 v' (n + m) (xs ++ List.replicate m (.int .u8 0)) ∧ w.grownBy w' v.ownBlock ∧ (v'.ownBlock = v.ownBlock ∨ ∀ k, v'.ownBlock = some k → w.heap.size ≤ k) := by
  have hw : IntKind.i64.wrap (m : Int) = m := i64_in _ (by omega) (by omega)
  have h0 : ¬ ((m : Int) < 0) := by omega
  have h48 : ¬ (281474976710656 < (m : Int)) := by omega
  have hzc : (Value.int .u8 0).cells = #[.int .u8 0] := rfl
  have hzl := zc_toList (.int .u8 0) m rfl
  have hzs : (Builtin.zeroCells (Value.int .u8 0).cells m).size = m := by rw [← Array.length_toList, hzl, List.length_replicate]
  have hlen : (xs ++ List.replicate m (Value.int .u8 0)).length = (n + m) * 1 := by rw [List.length_append, hown.1, List.length_replicate, Nat.mul_one, Nat.mul_one]
  rcases hown.2 with ⟨rfl, rfl⟩ | ⟨g, cap, cur, rfl, hbg, hg, hnc, hcm, hcs, htake⟩
  · have hx : xs = [] := List.eq_nil_of_length_eq_zero (by simpa using hown.1)
    subst hx
    by_cases hm : m = 0
    · subst hm
      refine ⟨.slice none 0 0, w, ?_, World.ownsRow_nil w base e 1, ⟨rfl, rfl, rfl, Nat.le_refl _, fun _ _ _ => rfl⟩, .inl rfl⟩
      have hw0 : IntKind.i64.wrap 0 = 0 := by decide
      simp [Builtin.append_, run_underlying ht, run_underlying hI, sizeOf, typeInfo, hi, hs, hb, asInt, asIntOf, hw0]
    · have hge := grownCap_ge w m 0 e
      have hcm : grownCap w m 0 e ≤ maxLen := grownCap_le_maxLen w m 0 e (by unfold maxLen; omega)
      refine ⟨.slice (some ⟨w.heap.size, 0, none⟩) m (grownCap w m 0 e), w.drew.alloc (.cells (Builtin.zeroCells (Value.int .u8 0).cells m ++ Builtin.zeroCells (Value.int .u8 0).cells (grownCap w m 0 e - m)) e), ?_, ?_, ?_⟩
      · have h63 : ¬ (9223372036854775807 < (m : Int)) := by omega
        have hfit : ¬ (281474976710656 < Builtin.nextslicecap m 0) := by rw [nextslicecap_zero (by omega)]; omega
        have hmle : ¬ m ≤ 0 := by omega
        simp [Builtin.append_, run_underlying ht, run_underlying hI, sizeOf, typeInfo, zeroValue, hi, hz, hs, hb, asInt, asIntOf, hw, hm, h0, h48, h63, hfit, hmle, Question.forced, newRow, grownCap, Builtin.firstCells]
      · refine ⟨by simp, .inr ⟨w.heap.size, _, _, by simp, hbase, heap_alloc_new w.drew _, by simpa using hge, hcm, ?_, ?_⟩⟩
        · simp only [Array.size_append, hzs, size_zeroCells]
          simp only [hzc]
          simp
          omega
        · simp only [Array.toList_append, hzl, List.nil_append, Nat.mul_one, Nat.zero_add]
          exact List.take_left' (by simp)
      · exact ⟨⟨rfl, rfl, rfl, by simp, fun k hk _ => (World.grownBy_alloc w.drew _ none).block k hk (by simp)⟩, .inr fun k hk => by simp [Value.ownBlock] at hk; omega⟩
  · by_cases hroom : n + m ≤ cap
    · have hst := run_storeCells_at P g n e (Builtin.zeroCells (Value.int .u8 0).cells m).toList 0 cur w hg (by rw [hzl, List.length_replicate]; omega) (by rw [hzl]; intro u hu; rw [List.eq_of_mem_replicate hu]; rfl)
      refine ⟨.slice (some ⟨g, 0, none⟩) (n + m) cap, w.setRow g (cur.toList.take n ++ List.replicate m (Value.int .u8 0) ++ cur.toList.drop (n + m)).toArray, ?_, ?_, ?_⟩
      · by_cases hm : m = 0
        · subst hm
          have hw0 : IntKind.i64.wrap 0 = 0 := by decide
          have hst0 := run_storeCells_at P g n e [] 0 cur w hg (by simp; omega) (fun u hu => by cases hu)
          simp only [Nat.add_zero, List.append_nil, List.length_nil] at hst0
          simp [Builtin.append_, run_underlying ht, run_underlying hI, sizeOf, typeInfo, hi, hs, hb, asInt, asIntOf, hw0, hnc, Addr.add_lit, hst0]
        · rw [hzl, List.length_replicate] at hst
          simp only [Nat.add_zero] at hst
          simp [Builtin.append_, run_underlying ht, run_underlying hI, sizeOf, typeInfo, zeroValue, hi, hz, hs, hb, asInt, asIntOf, hw, hm, h0, h48, hroom, Addr.add_lit, hzl, hst]
      · refine ⟨hlen, .inr ⟨g, cap, _, rfl, hbg, setRow_heap w g cur _ e _ hg, hroom, hcm, ?_, ?_⟩⟩
        · simp only [List.size_toArray, List.length_append, List.length_take, List.length_drop, Array.length_toList, List.length_replicate]
          omega
        · simp only [Nat.mul_one] at htake ⊢
          rw [htake]
          exact List.take_left' (by rw [List.length_append, hown.1, List.length_replicate, Nat.mul_one])
      · exact ⟨⟨rfl, rfl, rfl, by simp, fun k _ hk => setRow_other w g k _ (fun e => hk (by simp [Value.ownBlock, e]))⟩, .inl rfl⟩
    · have holds : ∀ j u, xs[j]? = some u → w.cell? ((⟨g, 0, none⟩ : Addr).add j) = some u := hown.cells (g := g) rfl
      have hlo : xs.length = n * 1 := hown.1
      have hge := grownCap_ge w (n + m) cap e
      have hcm2 : grownCap w (n + m) cap e ≤ maxLen := grownCap_le_maxLen w (n + m) cap e (by unfold maxLen; omega)
      have hm : m ≠ 0 := by omega
      have hn2 : ¬ (n + m ≤ cap) := hroom
      have h63' : ¬ (9223372036854775807 < ((n : Int) + (m : Int))) := by omega
      have h48' : ¬ (281474976710656 < Builtin.nextslicecap (n + m) cap) := by
        have := growslice_fits (need := n + m) (old := cap) (bytes := 1) (by omega) (by omega)
        omega
      have hfo := run_firstCells_some (P := P) w.drew 1 n ⟨g, 0, none⟩ n cap xs hlo (by simpa using holds)
      refine ⟨.slice (some ⟨w.heap.size, 0, none⟩) (n + m) (grownCap w (n + m) cap e), w.drew.alloc (.cells (xs.toArray ++ Builtin.zeroCells (Value.int .u8 0).cells m ++ Builtin.zeroCells (Value.int .u8 0).cells (grownCap w (n + m) cap e - (n + m))) e), ?_, ?_, ?_⟩
      · simp [Builtin.append_, run_underlying ht, run_underlying hI, sizeOf, typeInfo, zeroValue, hi, hz, hs, hb, asInt, asIntOf, hw, hm, h0, h48, hn2, h63', h48', Question.forced, newRow, grownCap, hfo]
      · refine ⟨hlen, .inr ⟨w.heap.size, _, _, rfl, hbase, heap_alloc_new w.drew _, hge, hcm2, ?_, ?_⟩⟩
        · simp only [Array.size_append, hzs, size_zeroCells, List.size_toArray, hlo]
          simp only [hzc]
          simp
          omega
        · simp only [Array.toList_append, hzl]
          exact List.take_left' (by rw [List.length_append, hlo, List.length_replicate, Nat.mul_one, Nat.mul_one])
      · exact ⟨⟨rfl, rfl, rfl, by simp, fun k hk _ => (World.grownBy_alloc w.drew _ none).block k hk (by simp)⟩, .inr fun k hk => by simp [Value.ownBlock] at hk; omega⟩
theorem wpList_append_zeros {P : Program} {w : World} {ops : Array Oper} {rest : List Oper} {o : Oper} {a : Act} {Q : Exit → Act → World → Prop} (hgd : o.guard = none) (s x : Operand) (t tI e : TypeId)
    (ho : o.op = .call { callee := .builtin .append, args := #[s, x], argTypes := #[t, tI] }) (ht : P.underlying t = some (.slice e)) (hI : P.underlying tI = some (.int .i64))
    (hinfo : (P.info? e).map (fun i => (i.zero, i.size, i.bytes)) = some (some (.int .u8 0), 1, 1)) (base : Nat) (v : Value) (n : Nat) (l : List UInt8) (hs : a.eval s = v) (hown : w.ownsRow base e 1 v n (bvs l))
    (m : Nat) (hx : a.eval x = .int .i64 (m : Int)) (hn : n + m ≤ 70368744177664) (hbase : base ≤ w.heap.size)
    (h : ∀ v' w', w'.ownsRow base e 1 v' (n + m) (bvs (l ++ List.replicate m 0)) → Below base w w' → w.grownBy w' v.ownBlock → wpList P ops Q rest (a.put o.dst v') w') : wpList P ops Q (o :: rest) a w := by
  refine wpList_plain hgd fun K hK => ?_
  obtain ⟨i0, hi, hz0, hz1, hz2⟩ := info_parts hinfo
  obtain ⟨v', w', hr, h2, h3, _⟩ := run_append_zeros w base t tI o.type e i0 ht hI hi hz0 hz1 hz2 v n (bvs l) hown m hn hbase
  have e1 : bvs (l ++ List.replicate m 0) = bvs l ++ List.replicate m (.int .u8 0) := by
    rw [bvs_append]
    congr 1
    apply List.ext_getElem
    · simp [bvs]
    · intro i h1 h2; simp [bvs, bv]
  unfold Oper.wp execOp
  simp only [ho, resolve, invoke, builtin, Sem.run_bind, Sem.run_pure, Result.andThen_ok, List.map_toArray, List.map_cons, List.map_nil, hs, hx, hr]
  exact hK _ _ (h v' w' (by rw [e1]; exact h2) ((Below.refl _ _).grown h3 hbase (fun k hk => (hown.lt k hk).1)) h3)
end Go.Proofs.YtpheifdpjcppdaaGreatDoor
namespace Go.Proofs.YtpheifdpjcppdaaGreatDoor
open Go.RowKit
/-- A row that began in the world w0 in the block R0 (or in none). -/
structure Row8 (w0 : World) (R0 : Option Nat) (base : Nat) (e : TypeId) (w : World) (v : Value) (l : List UInt8) : Prop where
  own : w.ownsRow base e 1 v l.length (bvs l)
  new : ∀ k, v.ownBlock = some k → R0 = some k ∨ w0.heap.size ≤ k
  kept : Kept (fun k => R0 = some k) w0 w
  low : base ≤ w0.heap.size
variable {w0 w w' : World} {R0 : Option Nat} {base : Nat} {e : TypeId} {v v' : Value} {l l' : List UInt8}
theorem Row8.first (h : w.ownsRow base e 1 v l.length (bvs l)) (hb : base ≤ w.heap.size) : Row8 w v.ownBlock base e w v l := ⟨h, fun _ hk => .inl hk, Kept.refl _ _, hb⟩
theorem Row8.lowW (h : Row8 w0 R0 base e w v l) : base ≤ w.heap.size := Nat.le_trans h.low h.kept.size
theorem Row8.step {n' : Nat} (h : Row8 w0 R0 base e w v l) (ho : w'.ownsRow base e 1 v' n' (bvs l')) (hn : n' = l'.length) (hg : w.grownBy w' v.ownBlock) (hb : v'.ownBlock = v.ownBlock ∨ ∀ k, v'.ownBlock = some k → w.heap.size ≤ k) : Row8 w0 R0 base e w' v' l' := by
  subst hn
  refine ⟨ho, fun k hk => ?_, ⟨?_, ?_, ?_, Nat.le_trans h.kept.size hg.size, fun k hk hx => ?_⟩, h.low⟩
  · rcases hb with e1 | e1
    · exact h.new k (by rw [← e1]; exact hk)
    · exact .inr (Nat.le_trans h.kept.size (e1 k hk))
  · exact hg.os.trans h.kept.os
  · exact hg.tape.trans h.kept.tape
  · exact hg.output.trans h.kept.output
  · rw [hg.block k (Nat.lt_of_lt_of_le hk h.kept.size) (fun c => ?_), h.kept.block k hk hx]
    rcases h.new k c.symm with h1 | h1
    · exact hx h1
    · omega
/-- What is new, or off the row, does no harm. -/
theorem Row8.below (h : Row8 w0 R0 base e w v l) (hb : Below w.heap.size w w') : Row8 w0 R0 base e w' v l :=
  ⟨own_below h.own hb, h.new, h.kept.trans (Kept.of_below hb _), h.low⟩
theorem Row8.alloc (h : Row8 w0 R0 base e w v l) (o : Obj) : Row8 w0 R0 base e (w.alloc o) v l := h.below ((Below.refl _ _).alloc (Nat.le_refl _) _)
theorem Row8.trans (h : Row8 w0 R0 base e w v l) (k : Row8 w v.ownBlock base e w' v' l') : Row8 w0 R0 base e w' v' l' := by
  refine ⟨k.own, fun i hi => ?_, ⟨k.kept.os.trans h.kept.os, k.kept.tape.trans h.kept.tape, k.kept.output.trans h.kept.output, Nat.le_trans h.kept.size k.kept.size, fun i hi hx => ?_⟩, h.low⟩
  · rcases k.new i hi with h1 | h1
    · exact h.new i h1
    · exact .inr (Nat.le_trans h.kept.size h1)
  · rw [k.kept.block i (Nat.lt_of_lt_of_le hi h.kept.size) (fun c => ?_), h.kept.block i hi hx]
    rcases h.new i c with h1 | h1
    · exact hx h1
    · omega
theorem Row8.again (h : Row8 w0 R0 base e w v l) : Row8 w v.ownBlock base e w v l := Row8.first h.own h.lowW
theorem Row8.bel (h : Row8 w0 R0 base e w v l) (hR : ∀ k, R0 = some k → base ≤ k) : Below base w0 w := h.kept.below h.low fun k _ hk => hR k hk
theorem Row8.sl (h : Row8 w0 R0 base e w v l) {dv : Value} {d : List UInt8} (hd : Sl 1 Rbyte (fun k => R0 = some k) w0 dv d) : Sl 1 Rbyte (fun k => R0 = some k) w dv d := hd.keep good_byte h.kept
theorem Blk.cells13 {g : Nat} {x0 x1 x2 x3 x4 x5 x6 x7 x8 x9 x10 x11 x12 : Value} {t : TypeId} (h : Blk w g t #[x0, x1, x2, x3, x4, x5, x6, x7, x8, x9, x10, x11, x12]) : w.cell? ⟨g, 0, none⟩ = some x0 ∧ w.cell? ⟨g, 1, none⟩ = some x1 ∧ w.cell? ⟨g, 2, none⟩ = some x2 ∧ w.cell? ⟨g, 3, none⟩ = some x3 ∧ w.cell? ⟨g, 4, none⟩ = some x4 ∧ w.cell? ⟨g, 5, none⟩ = some x5 ∧ w.cell? ⟨g, 6, none⟩ = some x6 ∧ w.cell? ⟨g, 7, none⟩ = some x7 ∧ w.cell? ⟨g, 8, none⟩ = some x8 ∧ w.cell? ⟨g, 9, none⟩ = some x9 ∧ w.cell? ⟨g, 10, none⟩ = some x10 ∧ w.cell? ⟨g, 11, none⟩ = some x11 ∧ w.cell? ⟨g, 12, none⟩ = some x12 :=
  ⟨h.cell 0, h.cell 1, h.cell 2, h.cell 3, h.cell 4, h.cell 5, h.cell 6, h.cell 7, h.cell 8, h.cell 9, h.cell 10, h.cell 11, h.cell 12⟩
theorem Blk.cells10 {g : Nat} {x0 x1 x2 x3 x4 x5 x6 x7 x8 x9 : Value} {t : TypeId} (h : Blk w g t #[x0, x1, x2, x3, x4, x5, x6, x7, x8, x9]) : w.cell? ⟨g, 0, none⟩ = some x0 ∧ w.cell? ⟨g, 1, none⟩ = some x1 ∧ w.cell? ⟨g, 2, none⟩ = some x2 ∧ w.cell? ⟨g, 3, none⟩ = some x3 ∧ w.cell? ⟨g, 4, none⟩ = some x4 ∧ w.cell? ⟨g, 5, none⟩ = some x5 ∧ w.cell? ⟨g, 6, none⟩ = some x6 ∧ w.cell? ⟨g, 7, none⟩ = some x7 ∧ w.cell? ⟨g, 8, none⟩ = some x8 ∧ w.cell? ⟨g, 9, none⟩ = some x9 :=
  ⟨h.cell 0, h.cell 1, h.cell 2, h.cell 3, h.cell 4, h.cell 5, h.cell 6, h.cell 7, h.cell 8, h.cell 9⟩
variable {P : Program}
theorem bvs_str (s : List UInt8) : Lib.strCells (bs s) = bvs s := by
  simp [Lib.strCells, bs, bvs]
  intro a _
  rfl
theorem str_block {t u ty : TypeId} {i : TypeInfo} (ht : P.underlying t = some (.slice e)) (hu : P.underlying u = some .string) (hi : P.info? e = some i) (hz : i.zero = some (.int .u8 0)) (hs : i.size = 1) (hby : i.bytes = 1)
    {n : Nat} {xs : List Value} (hown : w.ownsRow base e 1 v n xs) (s : ByteArray) (h63 : n + s.size ≤ 70368744177664) (hr : (Builtin.append_ #[t, u] ty #[v, .string s]).run P w = .ok v' w') :
    v'.ownBlock = v.ownBlock ∨ ∀ k, v'.ownBlock = some k → w.heap.size ≤ k := by
  rcases hown.2 with ⟨rfl, rfl⟩ | ⟨g, cap, cur, rfl, hbg, hg, hnc, hcm, hcs, htake⟩
  · have hx : xs = [] := List.eq_nil_of_length_eq_zero (by simpa using hown.1)
    subst hx
    obtain ⟨v2, w2, hr2, ho2, _⟩ := Lib.run_append_own_string (P := P) w w.heap.size t u ty e i ht hu hi hz hs hby (.slice none 0 0) 0 [] (World.ownsRow_nil _ _ _ _) s (by unfold maxLen; omega) (by omega) (Nat.le_refl _)
    rw [hr] at hr2
    injection hr2 with e1 e2
    subst e1
    exact .inr fun k hk => (ho2.lt k hk).1
  · by_cases hroom : n + s.size ≤ cap
    · have hcs' : cur.size = cap := by simpa using hcs
      have hr2 := Lib.run_append_room_string (P := P) w t u ty e i ht hu hi hs g n cap cur hg s hroom (by omega)
      rw [hr] at hr2
      injection hr2 with e1 e2
      subst e1
      exact .inl rfl
    · have hr2 := Lib.run_append_grow_string (P := P) w t u ty e i (.int .u8 0) ht hu hi hz ⟨g, 0, none⟩ n cap xs (by rw [hs]; simpa using hown.1) (hown.cells (g := g) rfl) s (by omega) (by omega) (by rw [hby]; exact growslice_fits (by omega) (by omega))
      rw [hr] at hr2
      injection hr2 with e1 e2
      subst e1
      exact .inr fun k hk => by simp [Value.ownBlock] at hk; omega
/-- append(row, text...). -/
theorem wpList_row_text {ops : Array Oper} {rest : List Oper} {o : Oper} {a : Act} {Q : Exit → Act → World → Prop} (hgd : o.guard = none) (sl x : Operand) (t u : TypeId)
    (ho : o.op = .call { callee := .builtin .append, args := #[sl, x], argTypes := #[t, u] }) (ht : P.underlying t = some (.slice e)) (hu : P.underlying u = some .string)
    (hinfo : (P.info? e).map (fun i => (i.zero, i.size, i.bytes)) = some (some (.int .u8 0), 1, 1)) (hs : a.eval sl = v) (hrow : Row8 w0 R0 base e w v l) (s : List UInt8) (hx : a.eval x = .string (bs s)) (hn : l.length + s.length ≤ 70368744177664)
    (h : ∀ v' w', Row8 w0 R0 base e w' v' (l ++ s) → wpList P ops Q rest (a.put o.dst v') w') : wpList P ops Q (o :: rest) a w := by
  obtain ⟨i0, hi, hz0, hz1, hz2⟩ := info_parts hinfo
  refine wpList_plain hgd fun K hK => ?_
  obtain ⟨v', w', hr, h2, h3, h4⟩ := Lib.run_append_own_string (P := P) w base t u o.type e i0 ht hu hi hz0 hz1 hz2 v l.length (bvs l) hrow.own (bs s) (by rw [bs_size]; unfold maxLen; omega) (by rw [bs_size]; omega) hrow.lowW
  have hb := str_block ht hu hi hz0 hz1 hz2 hrow.own (bs s) (by rw [bs_size]; omega) hr
  rw [bvs_str, ← bvs_append] at h2
  unfold Oper.wp execOp
  simp only [ho, resolve, invoke, builtin, Sem.run_bind, Sem.run_pure, Result.andThen_ok, List.map_toArray, List.map_cons, List.map_nil, hs, hx, hr]
  exact hK _ _ (h v' w' (hrow.step h2 (by rw [bs_size, List.length_append]) h3 hb))
/-- append(row, bytes...). -/
theorem wpList_row_bytes {ops : Array Oper} {rest : List Oper} {o : Oper} {a : Act} {Q : Exit → Act → World → Prop} (hgd : o.guard = none) (s x : Operand) (t : TypeId)
    (ho : o.op = .call { callee := .builtin .append, args := #[s, x], argTypes := #[t, t] }) (ht : P.underlying t = some (.slice e))
    (hinfo : (P.info? e).map (fun i => (i.zero, i.size, i.bytes)) = some (some (.int .u8 0), 1, 1)) (hs : a.eval s = v) (hrow : Row8 w0 R0 base e w v l) (A : Option Addr) (m c : Nat) (news : List UInt8) (hx : a.eval x = .slice A m c) (hsb : SB w (.slice A m c) news)
    (hn : l.length + news.length ≤ 70368744177664)
    (h : ∀ v' w', Row8 w0 R0 base e w' v' (l ++ news) → wpList P ops Q rest (a.put o.dst v') w') : wpList P ops Q (o :: rest) a w := by
  obtain ⟨i0, hi, hz0, hz1, hz2⟩ := info_parts hinfo
  obtain ⟨hm, _, _, hnil, hc⟩ := hsb.cells
  refine wpList_plain hgd fun K hK => ?_
  have fin : ∀ ad : Addr, A = some ad → (∀ j u, (bvs news)[j]? = some u → w.cell? (ad.add j) = some u) → o.wp P a w K Q := by
    intro ad hA hnews
    subst hA
    obtain ⟨v', w', hr, h2, h3, _⟩ := run_append_own (P := P) w base t o.type e i0 _ 1 1 ht hi hz0 hz1 hz2 rfl (by decide) v l.length (bvs l) hrow.own ad m c (bvs news) (by rw [bvs_length]; omega) hnews (bvs_one _) (by unfold maxLen; omega) (by omega) hrow.lowW
    have hb := append_block ht hi hz0 hz1 hz2 rfl (by decide) hrow.own ad m c (bvs news) (by rw [bvs_length]; omega) hnews (bvs_one _) (by unfold maxLen; omega) (by omega) hr
    rw [← bvs_append] at h2
    unfold Oper.wp execOp
    simp only [ho, resolve, invoke, builtin, Sem.run_bind, Sem.run_pure, Result.andThen_ok, List.map_toArray, List.map_cons, List.map_nil, hs, hx, hr]
    exact hK _ _ (h v' w' (hrow.step h2 (by rw [hm, List.length_append]) h3 hb))
  rcases Nat.eq_zero_or_pos m with h0 | h0
  · subst h0
    have hnews : news = [] := List.eq_nil_of_length_eq_zero hm.symm
    subst hnews
    cases A with
    | none =>
      have hc0 := hnil rfl
      subst hc0
      have hrun := run_append_owned_none (P := P) w base t o.type e i0 1 ht hi v l.length (bvs l) hrow.own
      unfold Oper.wp execOp
      simp only [ho, resolve, invoke, builtin, Sem.run_bind, Sem.run_pure, Result.andThen_ok, List.map_toArray, List.map_cons, List.map_nil, hs, hx, hrun]
      exact hK _ _ (h v w (by rw [List.append_nil]; exact hrow))
    | some ad => exact fin ad rfl fun j u hu => by simp [bvs] at hu
  · obtain ⟨b, off, rfl, hcell⟩ := hc h0
    refine fin _ rfl fun j u hu => ?_
    have hj : j < news.length := by have := (List.getElem?_eq_some_iff.1 hu).1; rwa [bvs_length] at this
    rw [bvs_get news j hj] at hu
    rw [Addr.add_lit, hcell j hj]
    exact hu
/-- append(row, make([]byte, m)...). -/
theorem wpList_row_zeros {ops : Array Oper} {rest : List Oper} {o : Oper} {a : Act} {Q : Exit → Act → World → Prop} (hgd : o.guard = none) (s x : Operand) (t tI : TypeId)
    (ho : o.op = .call { callee := .builtin .append, args := #[s, x], argTypes := #[t, tI] }) (ht : P.underlying t = some (.slice e)) (hI : P.underlying tI = some (.int .i64))
    (hinfo : (P.info? e).map (fun i => (i.zero, i.size, i.bytes)) = some (some (.int .u8 0), 1, 1)) (hs : a.eval s = v) (hrow : Row8 w0 R0 base e w v l)
    (m : Nat) (hx : a.eval x = .int .i64 (m : Int)) (hn : l.length + m ≤ 70368744177664)
    (h : ∀ v' w', Row8 w0 R0 base e w' v' (l ++ List.replicate m 0) → wpList P ops Q rest (a.put o.dst v') w') : wpList P ops Q (o :: rest) a w := by
  refine wpList_plain hgd fun K hK => ?_
  obtain ⟨i0, hi, hz0, hz1, hz2⟩ := info_parts hinfo
  obtain ⟨v', w', hr, h2, h3, hb⟩ := run_append_zeros w base t tI o.type e i0 ht hI hi hz0 hz1 hz2 v l.length (bvs l) hrow.own m hn hrow.lowW
  have e1 : bvs (l ++ List.replicate m 0) = bvs l ++ List.replicate m (.int .u8 0) := by
    rw [bvs_append]
    congr 1
    apply List.ext_getElem
    · simp [bvs]
    · intro i h1 h2; simp [bvs, bv]
  rw [← e1] at h2
  unfold Oper.wp execOp
  simp only [ho, resolve, invoke, builtin, Sem.run_bind, Sem.run_pure, Result.andThen_ok, List.map_toArray, List.map_cons, List.map_nil, hs, hx, hr]
  exact hK _ _ (h v' w' (hrow.step h2 (by simp) h3 hb))
end Go.Proofs.YtpheifdpjcppdaaGreatDoor
namespace Go.Proofs.YtpheifdpjcppdaaGreatDoor
open Go.RowKit
theorem conv_sl {P : Program} (w : World) (src dst e : TypeId) (s : List UInt8) (hs : P.underlying src = some .string) (hd : P.underlying dst = some (.slice e)) (he : P.underlying e = some (.int .u8)) (hl : s.length ≤ 1000000000) :
    ∃ cap w', (convert src dst (.string (bs s))).run P w = .ok (.slice (some ⟨w.heap.size, 0, none⟩) s.length cap) w' ∧ Below w.heap.size w w' ∧ (∀ X : Nat → Prop, ¬ X w.heap.size → Sl 1 Rbyte X w' (.slice (some ⟨w.heap.size, 0, none⟩) s.length cap) s) := by
  have hr := run_bytes_of_string (P := P) w src dst e (bs s) hs hd he
  have hge := grownCap_ge w s.length 0 e
  have hcm : grownCap w s.length 0 e ≤ maxLen := grownCap_le_maxLen w s.length 0 e (by unfold maxLen; omega)
  rw [bs_size] at hr
  refine ⟨_, _, hr, ((Below.refl _ w).drew).alloc (Nat.le_refl _) _, fun X hX => ?_⟩
  have hblk := heap_alloc_new w.drew (.cells (bytesRow (bs s) (grownCap w s.length 0 e)) e ((bytesRow (bs s) (grownCap w s.length 0 e)).size, (bytesRow (bs s) (grownCap w s.length 0 e)).size + 1))
  have hbs : (bs s).data.size = s.length := by simp [bs]
  refine ⟨_, _, rfl, hge, hcm, (fun h => by cases h), fun _ => ⟨_, _, rfl, hX, fun j hj => ⟨[.int .u8 (s[j].toNat : Int)], fun i u hu => ?_, rfl⟩⟩, fun b off hA i hi => ?_⟩
  · have hi0 : i = 0 := by
      have := (List.getElem?_eq_some_iff.1 hu).1
      simp at this; omega
    subst hi0
    simp at hu
    subst hu
    have hb := bytesRow_at (bs s) (grownCap w s.length 0 e) j (by rw [hbs]; exact hj)
    have hg := cell_of_row _ w.heap.size (0 + j * 1 + 0) _ e _ hblk
    rw [hg]
    simp only [Nat.zero_add, Nat.mul_one, Nat.add_zero]
    rw [hb]
    simp [bs]
  · injection hA with hA
    injection hA with e1 e2
    subst e1 e2
    have hsz : s.length ≤ (bytesRow (bs s) (grownCap w s.length 0 e)).size := by
      simp [bytesRow, bs]
    have hh : (w.drew.alloc (.cells (bytesRow (bs s) (grownCap w s.length 0 e)) e ((bytesRow (bs s) (grownCap w s.length 0 e)).size, (bytesRow (bs s) (grownCap w s.length 0 e)).size + 1))).heap[w.heap.size]? = _ := hblk
    simp only [World.frozen?]
    rw [hh]
    simp only [Nat.mul_one] at hi
    simp
    omega
theorem conv_sl2 {P : Program} (w : World) (src dst e : TypeId) (s : List UInt8) (hs : P.underlying src = some .string) (hd : P.underlying dst = some (.slice e)) (he : P.underlying e = some (.int .u8)) (hl : s.length ≤ 1000000000) :
    ∃ gc cap w', (convert src dst (.string (bs s))).run P w = .ok (.slice (some ⟨gc, 0, none⟩) s.length cap) w' ∧ Below w.heap.size w w' ∧ w.heap.size ≤ gc ∧ (∀ X : Nat → Prop, ¬ X gc → Sl 1 Rbyte X w' (.slice (some ⟨gc, 0, none⟩) s.length cap) s) := by
  obtain ⟨cap, w', h1, h2, h3⟩ := conv_sl w src dst e s hs hd he hl
  exact ⟨_, cap, w', h1, h2, Nat.le_refl _, h3⟩
end Go.Proofs.YtpheifdpjcppdaaGreatDoor
