/- The walk of the document's Read (tar). Printed by gen_tcj.py. -/
import Derived.Test.YtpheifdpjcppdaaGreatDoorTcH
import Derived.Test.YtpheifdpjcppdaaGreatDoorTbMO
namespace Go.Proofs.YtpheifdpjcppdaaGreatDoor
open Go.RowKit
section
variable {o : Oper} {a : Act} {w : World} {g : Nat} {s0 s5 s6 s8 : ByteArray} {k1 k2 k3 k4 k7 : Int} {A : Option Addr} {n c : Nat} {y0 y1 y2 y3 y4 y5 y6 y7 y8 y9 : Value}
set_option maxHeartbeats 1000000 in
/-- A store of an entry into a block of its own. -/
theorem wp_store10 {K : Act → World → Prop} {Q : Exit → Act → World → Prop} (i j : Nat) (ho : o.op = .store tE (.tmp i) (.tmp j)) (hd : o.dst = none) (hp : a.tmps[i]?.getD undef = .pointer (some ⟨g, 0, none⟩)) (hv : a.tmps[j]?.getD undef = .agg #[.string s0, .int .i64 k1, .int .i64 k2, .int .i64 k3, .int .i64 k4, .string s5, .string s6, .int .i64 k7, .string s8, .slice A n c])
    (hb : Blk w g tE #[y0, y1, y2, y3, y4, y5, y6, y7, y8, y9]) (hK : ∀ W, Blk W g tE #[.string s0, .int .i64 k1, .int .i64 k2, .int .i64 k3, .int .i64 k4, .string s5, .string s6, .int .i64 k7, .string s8, .slice A n c] → Kept (fun k => k = g) w W → K a W) : o.wp Tryz.prog a w K Q := by
  obtain ⟨c0, c1, c2, c3, c4, c5, c6, c7, c8, c9⟩ := hb.cells10
  have f0 := hb.frozen 0
  have f1 := hb.frozen 1
  have f2 := hb.frozen 2
  have f3 := hb.frozen 3
  have f4 := hb.frozen 4
  have f5 := hb.frozen 5
  have f6 := hb.frozen 6
  have f7 := hb.frozen 7
  have f8 := hb.frozen 8
  have f9 := hb.frozen 9
  have H := hK _ (entT_set hb (.string s0) (.int .i64 k1) (.int .i64 k2) (.int .i64 k3) (.int .i64 k4) (.string s5) (.string s6) (.int .i64 k7) (.string s8) (.slice A n c)) (((((((((((Kept.refl (fun k => k = g) w).setCell (p := ⟨g, 0, none⟩) (.string s0) fun _ => rfl).setCell (p := ⟨g, 1, none⟩) (.int .i64 k1) fun _ => rfl).setCell (p := ⟨g, 2, none⟩) (.int .i64 k2) fun _ => rfl).setCell (p := ⟨g, 3, none⟩) (.int .i64 k3) fun _ => rfl).setCell (p := ⟨g, 4, none⟩) (.int .i64 k4) fun _ => rfl).setCell (p := ⟨g, 5, none⟩) (.string s5) fun _ => rfl).setCell (p := ⟨g, 6, none⟩) (.string s6) fun _ => rfl).setCell (p := ⟨g, 7, none⟩) (.int .i64 k7) fun _ => rfl).setCell (p := ⟨g, 8, none⟩) (.string s8) fun _ => rfl).setCell (p := ⟨g, 9, none⟩) (.slice A n c) fun _ => rfl)
  unfold Oper.wp execOp
  simp only [ho]
  clear hK hb
  have HH := Lib.hid H
  clear H
  go_simp
  exact HH.out
theorem wpList_store10 {ops : Array Oper} {rest : List Oper} {Q : Exit → Act → World → Prop} (hb : Blk w g tE #[y0, y1, y2, y3, y4, y5, y6, y7, y8, y9]) {i j : Nat} {ty : TypeId} {ps : String} {af : Array Edge} (hp : a.tmps[i]?.getD undef = .pointer (some ⟨g, 0, none⟩)) (hv : a.tmps[j]?.getD undef = .agg #[.string s0, .int .i64 k1, .int .i64 k2, .int .i64 k3, .int .i64 k4, .string s5, .string s6, .int .i64 k7, .string s8, .slice A n c])
    (h : ∀ W, Blk W g tE #[.string s0, .int .i64 k1, .int .i64 k2, .int .i64 k3, .int .i64 k4, .string s5, .string s6, .int .i64 k7, .string s8, .slice A n c] → Kept (fun k => k = g) w W → wpList Tryz.prog ops Q rest a W) : wpList Tryz.prog ops Q ({ dst := none, op := .store tE (.tmp i) (.tmp j), type := ty, pos := ps, after := af, guard := none } :: rest) a w :=
  wpList_plain rfl fun _ hK => wp_store10 i j rfl rfl hp hv hb fun W h1 h2 => hK _ _ (h W h1 h2)
set_option maxRecDepth 20000 in
set_option maxHeartbeats 1000000 in
/-- A load of an entry. -/
theorem wp_load10 {K : Act → World → Prop} {Q : Exit → Act → World → Prop} (i : Nat) (ho : o.op = .load tE (.tmp i)) (hp : a.tmps[i]?.getD undef = .pointer (some ⟨g, 0, none⟩))
    (hb : Blk w g tE #[.string s0, .int .i64 k1, .int .i64 k2, .int .i64 k3, .int .i64 k4, .string s5, .string s6, .int .i64 k7, .string s8, .slice A n c]) (hK : K (a.put o.dst (.agg #[.string s0, .int .i64 k1, .int .i64 k2, .int .i64 k3, .int .i64 k4, .string s5, .string s6, .int .i64 k7, .string s8, .slice A n c])) w) : o.wp Tryz.prog a w K Q := by
  obtain ⟨c0, c1, c2, c3, c4, c5, c6, c7, c8, c9⟩ := hb.cells10
  have HK := Lib.hid hK
  clear hK hb
  unfold Oper.wp execOp
  simp only [ho]
  go_simp
  exact HK.out
theorem wpList_load10 {ops : Array Oper} {rest : List Oper} {Q : Exit → Act → World → Prop} (hb : Blk w g tE #[.string s0, .int .i64 k1, .int .i64 k2, .int .i64 k3, .int .i64 k4, .string s5, .string s6, .int .i64 k7, .string s8, .slice A n c]) {i : Nat} {d : Option Tmp} {ty : TypeId} {ps : String} {af : Array Edge} (hp : a.tmps[i]?.getD undef = .pointer (some ⟨g, 0, none⟩))
    (h : wpList Tryz.prog ops Q rest (a.put d (.agg #[.string s0, .int .i64 k1, .int .i64 k2, .int .i64 k3, .int .i64 k4, .string s5, .string s6, .int .i64 k7, .string s8, .slice A n c])) w) : wpList Tryz.prog ops Q ({ dst := d, op := .load tE (.tmp i), type := ty, pos := ps, after := af, guard := none } :: rest) a w :=
  wpList_plain rfl fun _ hK => wp_load10 i rfl hp hb (hK _ _ h)
set_option maxRecDepth 20000 in
set_option maxHeartbeats 1000000 in
/-- A row of one entry. -/
theorem wp_build1 {K : Act → World → Prop} {Q : Exit → Act → World → Prop} (i : Nat) (ho : o.op = .buildSlice 22 1 #[(0, .tmp i)]) (hv : a.tmps[i]?.getD undef = .agg #[.string s0, .int .i64 k1, .int .i64 k2, .int .i64 k3, .int .i64 k4, .string s5, .string s6, .int .i64 k7, .string s8, .slice A n c])
    (hK : K (a.put o.dst (.slice (some ⟨w.heap.size, 0, none⟩) 1 1)) (w.alloc (.cells #[.string s0, .int .i64 k1, .int .i64 k2, .int .i64 k3, .int .i64 k4, .string s5, .string s6, .int .i64 k7, .string s8, .slice A n c] tE))) : o.wp Tryz.prog a w K Q := by
  have HK := Lib.hid hK
  clear hK
  unfold Oper.wp execOp
  simp only [ho]
  go_simp
  exact HK.out
set_option maxRecDepth 20000 in
theorem wpList_build1 {ops : Array Oper} {rest : List Oper} {Q : Exit → Act → World → Prop} {i : Nat} {d : Option Tmp} {ty : TypeId} {ps : String} {af : Array Edge} (hv : a.tmps[i]?.getD undef = .agg #[.string s0, .int .i64 k1, .int .i64 k2, .int .i64 k3, .int .i64 k4, .string s5, .string s6, .int .i64 k7, .string s8, .slice A n c])
    (h : wpList Tryz.prog ops Q rest (a.put d (.slice (some ⟨w.heap.size, 0, none⟩) 1 1)) (w.alloc (.cells #[.string s0, .int .i64 k1, .int .i64 k2, .int .i64 k3, .int .i64 k4, .string s5, .string s6, .int .i64 k7, .string s8, .slice A n c] tE))) : wpList Tryz.prog ops Q ({ dst := d, op := .buildSlice 22 1 #[(0, .tmp i)], type := ty, pos := ps, after := af, guard := none } :: rest) a w :=
  wpList_plain rfl fun K hK => wp_build1 (K := K) (w := w) i rfl hv (hK _ _ h)
end
theorem EO.keptG {B : Nat} {w w' : World} {v : Value} {L : List En} {f : Nat → Value} (h : EO B w v L f) {g : Nat} {ty : TypeId} {cs : Array Value} (hg : Blk w g ty cs) (hlv : v.ownBlock ≠ some g) (hno : ∀ (i : Nat) (b : Int), cs[i]? ≠ some (Value.int .u8 b)) (hk : Kept (fun k => k = g) w w') : EO B w' v L f :=
  ⟨hk.own h.row fun k e1 e2 => hlv (by rw [← e2]; exact e1), fun j hj => (((h.dat j hj).off hg hno).keep good_byte (hk.mono fun k _ e => .inr e)).mono good_byte (by omega) fun k _ e => .inl e⟩
theorem EO.poke3 {B : Nat} {w : World} {v : Value} {L : List En} {f : Nat → Value} (h : EO B w v L f) {g : Nat} {s : ByteArray} {a c : Int} (hg : Blk w g 31 #[.string s, .int .i64 a, .int .i64 c]) {x y z : Value} : EO B (((w.setCell ⟨g, 0, none⟩ x).setCell ⟨g, 1, none⟩ y).setCell ⟨g, 2, none⟩ z) v L f :=
  h.keptG hg (own_notblk h.row hg (by decide)) (no3 s a c) ((((Kept.refl (fun k => k = g) w).setCell (p := ⟨g, 0, none⟩) x fun _ => rfl).setCell (p := ⟨g, 1, none⟩) y fun _ => rfl).setCell (p := ⟨g, 2, none⟩) z fun _ => rfl)
theorem no10T (s0 s5 s6 s8 : ByteArray) (k1 k2 k3 k4 k7 : Int) (A : Option Addr) (n c : Nat) : ∀ (i : Nat) (b : Int), (#[.string s0, .int .i64 k1, .int .i64 k2, .int .i64 k3, .int .i64 k4, .string s5, .string s6, .int .i64 k7, .string s8, .slice A n c] : Array Value)[i]? ≠ some (Value.int .u8 b) := by
  intro i b e
  have hm := Array.mem_of_getElem? e
  simp at hm
theorem EO.keptE {B : Nat} {w w' : World} {v : Value} {L : List En} {f : Nat → Value} (h : EO B w v L f) {g : Nat} {s0 s5 s6 s8 : ByteArray} {k1 k2 k3 k4 k7 : Int} {A : Option Addr} {n c : Nat} (hg : Blk w g tE #[.string s0, .int .i64 k1, .int .i64 k2, .int .i64 k3, .int .i64 k4, .string s5, .string s6, .int .i64 k7, .string s8, .slice A n c]) (hlv : v.ownBlock ≠ some g) (hk : Kept (fun k => k = g) w w') : EO B w' v L f :=
  h.keptG hg hlv (no10T s0 s5 s6 s8 k1 k2 k3 k4 k7 A n c) hk
theorem told_no (t : Td) (fr : Nat) : ∀ (i : Nat) (b : Int), (toldV t fr)[i]? ≠ some (Value.int .u8 b) := by
  intro i b e
  have hm : Value.int .u8 b ∈ (toldV t fr).toList := by
    have := Array.mem_of_getElem? e
    simpa using this
  simp [toldV] at hm
theorem EO.told {B : Nat} {w w' : World} {v : Value} {L : List En} {f : Nat → Value} (h : EO B w v L f) {g fr : Nat} {t : Td} (hg : Blk w g 62 (toldV t fr)) (hk : Kept (fun k => k = g) w w') : EO B w' v L f :=
  h.keptG hg (own_notblk h.row hg (by decide)) (told_no t fr) hk
theorem runU_fr (b : List UInt8) : ∀ (n f1 f2 : Nat) (L : List En) (p : Nat), runU b n (fun _ => none) f1 L p = runU b n (fun _ => none) f2 L p
  | 0, _, _, _, _ => rfl
  | n + 1, f1, f2, L, p => by
    rw [runU, runU]
    cases h : stepT b (fun _ => none) p with
    | bad c => rfl
    | order =>
      exfalso
      have h1 := run_fr b 1 0 1 [] [] p
      rw [runT, runT, h] at h1
      simp at h1
    | fin => rfl
    | tell t' nx => rfl
    | ent e nx =>
      simp only
      rw [runU_fr b n f1 f2 (L ++ [e]) nx]
/-- What follows a step. -/
def uStep (b : List UInt8) (n : Nat) (t : Td) (fr : Nat) (L : List En) (p : Nat) : Stp → List En × Int × Int
  | .bad c => ([], (p : Nat), c)
  | .order => ([], (fr : Nat), 15)
  | .fin => (L, 0, 0)
  | .tell t' nx => runU b n t' (if noneB t = true then p else fr) L nx
  | .ent e nx => if (chkL (L ++ [e])).2 ≠ 0 then ([], (p : Nat), (chkL (L ++ [e])).2) else runU b n (fun _ => none) fr (L ++ [e]) nx
theorem runU_step (b : List UInt8) (n : Nat) (t : Td) (fr : Nat) (L : List En) (p : Nat) : runU b (n + 1) t fr L p = uStep b n t fr L p (stepT b t p) := by
  rw [runU]
  cases stepT b t p <;> rfl
theorem nul_zero : ∀ (l : List UInt8) (n : Nat), l.length = n → (nulB l = true ↔ l = List.replicate n 0)
  | [], 0, _ => by simp [nulB]
  | [], n + 1, h => by simp at h
  | c :: l, 0, h => by simp at h
  | c :: l, n + 1, h => by
    have ih := nul_zero l n (by simpa using h)
    rw [nulB, List.all_cons, Bool.and_eq_true, List.replicate_succ, List.cons.injEq]
    rw [nulB] at ih
    rw [ih]
    simp
def RReadP (w : World) (x : List En × Int × Int) (r : Ending) (w' : World) : Prop :=
  (∃ v f, r = .returned (.tuple #[v, .agg #[.string ⟨#[]⟩, .int .i64 x.2.1, .int .i64 x.2.2]]) ∧ EO w.heap.size w' v x.1 f) ∧ Below w.heap.size w w'
theorem arith_end {bl p nx n k : Nat} (h1 : p + 512 ≤ nx) (h2 : nx ≤ bl) (h3 : bl - p < n + 1) (h4 : 512 * k ≤ p) : bl - nx < n ∧ 512 * (k + 1) ≤ nx := by omega
theorem one_src {w : World} {g : Nat} {e : En} {dv : Value} (h : Blk w g tE #[.string (bs e.path), .int .i64 e.kind, .int .i64 e.mode, .int .i64 e.uid, .int .i64 e.gid, .string (bs e.owner), .string (bs e.group), .int .i64 e.mtime, .string (bs e.link), dv]) (j : Nat) (u : Value) (hu : (ofC [e] (fun _ => dv))[j]? = some u) : w.cell? ((⟨g, 0, none⟩ : Addr).add j) = some u := by
  have hu2 : (entC e dv)[j]? = some u := by simpa [ofC] using hu
  rw [Addr.add_lit, Nat.zero_add, h.cell]
  show (List.toArray _)[j]? = _
  rw [List.getElem?_toArray]
  exact hu2
theorem one_dat {w : World} {X : Nat → Prop} {e : En} {dv : Value} (h : Sl 1 Rbyte X w dv e.data) (j : Nat) (hj : j < [e].length) : Sl 1 Rbyte X w ((fun _ => dv) j) [e][j].data := by
  have hj0 : j = 0 := by simpa using hj
  subst hj0
  exact h
theorem wpList_append1 {w : World} {B : Nat} {v : Value} {L : List En} {f : Nat → Value} {ops : Array Oper} {rest : List Oper} {o : Oper} {a : Act} {Q : Exit → Act → World → Prop} {e : En} {dv : Value} {g c : Nat} (hgd : o.guard = none) (s x : Operand)
    (ho : o.op = .call { callee := .builtin .append, args := #[s, x], argTypes := #[22, 22] }) (hs : a.eval s = v) (h : EO B w v L f) (hx : a.eval x = .slice (some ⟨g, 0, none⟩) 1 c)
    (bS : Blk w g tE #[.string (bs e.path), .int .i64 e.kind, .int .i64 e.mode, .int .i64 e.uid, .int .i64 e.gid, .string (bs e.owner), .string (bs e.group), .int .i64 e.mtime, .string (bs e.link), dv]) (hd : Sl 1 Rbyte (fun k => v.ownBlock = some k) w dv e.data) (hn : L.length + 1 ≤ 1000000) (hB : B ≤ w.heap.size)
    (hK : ∀ v' w', EO B w' v' (L ++ [e]) (appF f L.length fun _ => dv) → Kept (fun k => v.ownBlock = some k) w w' → (v'.ownBlock = v.ownBlock ∨ ∀ k, v'.ownBlock = some k → w.heap.size ≤ k) → wpList Tryz.prog ops Q rest (a.put o.dst v') w') : wpList Tryz.prog ops Q (o :: rest) a w :=
  wpList_appendEO (M := [e]) (g := fun _ => dv) hgd s x ho hs h hx (fun h => by cases h) (fun _ => ⟨⟨g, 0, none⟩, rfl, one_src bS⟩) (one_dat hd) hn hB hK
theorem bel3 {w W : World} {H gF : Nat} (h : Below H w W) (hg : H ≤ gF) (x y z : Value) : Below H w (((W.setCell ⟨gF, 0, none⟩ x).setCell ⟨gF, 1, none⟩ y).setCell ⟨gF, 2, none⟩ z) := ((h.setCell (p := ⟨gF, 0, none⟩) hg x).setCell (p := ⟨gF, 1, none⟩) hg y).setCell (p := ⟨gF, 2, none⟩) hg z
theorem rd_ret {w W9 : World} {R : List En × Int × Int} {a : Act} {L : List En} {x c : Int} {v : Value} {f : Nat → Value} {gF : Nat} (h2 : a.tmps[2]?.getD undef = v) (h3 : a.tmps[3]?.getD undef = .pointer (some ⟨gF, 0, none⟩)) (hd : a.defers = []) (K : Blk W9 gF 31 #[.string ⟨#[]⟩, .int .i64 x, .int .i64 c])
    (hq : Below w.heap.size w W9) (HV : Hid (R = (L, x, c))) (he : EO w.heap.size W9 v L f) : bodyPost Tryz.prog Tryz.f12 (RReadP w R) Exit.ret a W9 := by
  have k0 := K.cell 0
  have k1 := K.cell 1
  have k2 := K.cell 2
  simp at k0 k1 k2
  refine bodyPost_ret (v := .tuple #[v, .agg #[.string ⟨#[]⟩, .int .i64 x, .int .i64 c]]) ?_ hd ?_
  · simp [results, Tryz.results12, go_sem, h2, h3, k0, k1, k2]
  · exact ⟨⟨v, f, by rw [HV.out], by rw [HV.out]; exact he⟩, hq⟩
theorem kind_typ (u : UInt8) : kindR (typR u) = kindR u ∧ isTell (typR u) = isTell u ∧ typR u ≠ 0 := by
  unfold typR
  by_cases h : u = 0
  · rw [if_pos h, h]; decide
  · rw [if_neg h]; exact ⟨rfl, rfl, h⟩
theorem ocN_lt (s : List UInt8) : ocN s < 4611686018427387904 := uoF_lt _ fun c hc => by
  unfold octDigits at hc
  exact List.all_eq_true.1 List.all_takeWhile c hc
theorem head_is {h : List UInt8} {d : HdR} (e : headS h = .ok d) : d = hdR h := by
  unfold headS at e
  split at e
  · cases e
  split at e
  · cases e
  split at e
  · cases e
  · injection e with e; exact e.symm
theorem pad_up (n : Nat) : n + (512 - n % 512) % 512 = upB n := by unfold upB; omega
set_option maxRecDepth 20000 in
set_option maxHeartbeats 64000000 in
theorem rtread_any (bv : Value) (b : List UInt8) (X : Nat → Prop) (w : World) (hb0 : Sl 1 Rbyte X w bv b) (hbl : b.length ≤ 100000) :
    Calls Tryz.prog 12 #[bv] w (RReadP w (runU b (b.length + 1) (fun _ => none) 0 [] 0)) := by
  obtain ⟨Ab, cb, rfl, hb1, hb2⟩ := hb0.form
  obtain ⟨R, HR⟩ : ∃ R, Hid (runU b (b.length + 1) (fun _ => none) 0 [] 0 = R) := ⟨_, Lib.hid rfl⟩
  rw [HR.out]
  have hsz := bs_size b
  go_enter Tryz.func12, Tryz.ntmps12
  go_upto_region 1 with fail
  have bF := Blk.new w 31 #[.string ⟨#[]⟩, .int .i64 0, .int .i64 0]
  have hq := (Below.refl w.heap.size w).alloc (Nat.le_refl _) (.cells #[.string ⟨#[]⟩, .int .i64 0, .int .i64 0] 31)
  have hst : (convert 25 9 (.slice Ab b.length cb)).run Tryz.prog (w.alloc (.cells #[.string ⟨#[]⟩, .int .i64 0, .int .i64 0] 31)) = .ok (.string (bs b)) (w.alloc (.cells #[.string ⟨#[]⟩, .int .i64 0, .int .i64 0] 31)) := str8 (Below.sl good_byte hq hb0).sb8
  have hgF : w.heap.size ≤ w.heap.size := Nat.le_refl _
  generalize w.alloc (.cells #[.string ⟨#[]⟩, .int .i64 0, .int .i64 0] 31) = W1 at bF hq hst ⊢
  generalize hg : w.heap.size = gF at bF hgF ⊢
  have hgF : w.heap.size ≤ gF := by rw [hg]; exact Nat.le_refl _
  clear hg
  go_upto_region 4 with fail
  have hT0 : (toldV (fun _ => none) 0) = #[.bool false, .bool false, .bool false, .string ⟨#[]⟩, .string ⟨#[]⟩, .string ⟨#[]⟩, .string ⟨#[]⟩, .string ⟨#[]⟩, .string ⟨#[]⟩, .bool false, .bool false, .bool false, .bool false, .int .i64 0, .int .i64 0, .int .i64 0, .int .i64 0, .bool false, .bool false, .bool false, .bool false, .int .i64 0] := rfl
  have bT : Blk (W1.alloc (.cells #[.bool false, .bool false, .bool false, .string ⟨#[]⟩, .string ⟨#[]⟩, .string ⟨#[]⟩, .string ⟨#[]⟩, .string ⟨#[]⟩, .string ⟨#[]⟩, .bool false, .bool false, .bool false, .bool false, .int .i64 0, .int .i64 0, .int .i64 0, .int .i64 0, .bool false, .bool false, .bool false, .bool false, .int .i64 0] 62)) W1.heap.size 62 (toldV (fun _ => none) 0) := by rw [hT0]; exact Blk.new W1 62 _
  have hbT : Below W1.heap.size W1 (W1.alloc (.cells #[.bool false, .bool false, .bool false, .string ⟨#[]⟩, .string ⟨#[]⟩, .string ⟨#[]⟩, .string ⟨#[]⟩, .string ⟨#[]⟩, .string ⟨#[]⟩, .bool false, .bool false, .bool false, .bool false, .int .i64 0, .int .i64 0, .int .i64 0, .int .i64 0, .bool false, .bool false, .bool false, .bool false, .int .i64 0] 62)) := (Below.refl _ W1).alloc (Nat.le_refl _) _
  have bF := bF.below hbT bF.lt
  have hq2 := hq.trans (hbT.mono hq.size)
  have hgt : w.heap.size ≤ W1.heap.size := hq.size
  clear hst hb0 hq hbT hT0
  generalize W1.alloc (.cells #[.bool false, .bool false, .bool false, .string ⟨#[]⟩, .string ⟨#[]⟩, .string ⟨#[]⟩, .string ⟨#[]⟩, .string ⟨#[]⟩, .string ⟨#[]⟩, .bool false, .bool false, .bool false, .bool false, .int .i64 0, .int .i64 0, .int .i64 0, .int .i64 0, .bool false, .bool false, .bool false, .bool false, .int .i64 0] 62) = W2 at bF bT hq2 ⊢
  generalize W1.heap.size = gt at bT hgt ⊢
  have hEO := EO.nil w.heap.size W2 (fun _ => undef)
  go_wp2_with fail
  go_loopg [5, 6, 7] (b.length + 1) (fun G s5 s6 s7 wr => ∃ (n1 p : Nat) (L : List En) (f : Nat → Value) (t : Td) (gt fr : Nat), G = n1 ∧ s6 = .pointer (some ⟨gt, 0, none⟩) ∧ s7 = .int .i64 (p : Int) ∧ EO w.heap.size wr s5 L f ∧ Blk wr gt 62 (toldV t fr) ∧ Blk wr gF 31 #[.string ⟨#[]⟩, .int .i64 0, .int .i64 0] ∧ Below w.heap.size w wr ∧ w.heap.size ≤ gt ∧ p ≤ b.length ∧ b.length - p < n1 ∧ 512 * L.length ≤ p ∧ (∀ e ∈ L, EB e) ∧ TL t ∧ Hid (runU b n1 t fr L p = R))
  case atStart => exact ⟨b.length + 1, 0, [], _, (fun _ => none), gt, 0, rfl, rfl, rfl, hEO, bT, bF, hq2, hgt, Nat.zero_le _, by omega, Nat.zero_le _, (fun e h => by cases h), TL.none, HR⟩
  case round =>
   clear hEO bT bF hq2 hgt HR
   obtain ⟨n1, p, L, f, t, gt, fr, hG, rfl, rfl, eo, bT, bF, hb, hgt, hpb, hpG, hLp, hEB, hTL, HRR⟩ := hrel
   obtain ⟨n, rfl⟩ : ∃ n, n1 = n + 1 := ⟨n1 - 1, by omega⟩
   subst hG
   have hlen : L.length + 1 ≤ 1000000 := by omega
   obtain ⟨Al, cl, rfl⟩ := own_form eo.row
   obtain ⟨S, HS⟩ : ∃ S, Hid (stepT b t p = S) := ⟨_, Lib.hid rfl⟩
   have HR1 : Hid (R = uStep b n t fr L p S) := Lib.hid (by rw [← HRR.out, runU_step, HS.out])
   have HS1 : Hid (S = if b.length < p + 512 then .bad 2
  else if nulB (fldB b p 512) = true then
    (if b.length < p + 1024 then .bad 2
    else if nulB (fldB b (p + 512) 512) = false then .bad 3
    else if noneB t = false then .order
    else .fin)
  else match headS (fldB b p 512) with
    | .bad c => .bad c
    | .ok h => bodyS b t p h) := Lib.hid (by rw [← HS.out]; rfl)
   have HSB := Lib.hid (fun c (h : S = .bad c) => (step_bad (b := b) (t := t) (p := p) (by rw [HS.out, h])).1)
   have HST := Lib.hid (fun t' nx (h : S = .tell t' nx) => step_tell (b := b) (t := t) (p := p) (by omega) hTL (by rw [HS.out, h]))
   have HSE := Lib.hid (fun e nx (h : S = .ent e nx) => step_ent (b := b) (t := t) (p := p) hTL (by rw [HS.out, h]))
   clear HRR HS
   have wp0 : IntKind.i64.wrap ((b.length : Int) - (p : Int)) = (b.length : Int) - (p : Int) := i64_in _ (by omega) (by omega)
   by_cases hs : b.length < p + 512
   · have t1 : decide ((b.length : Int) - (p : Int) < 512) = true := decide_eq_true (by omega)
     have HV : Hid (R = ([], (p : Int), 2)) := Lib.hid (by rw [HR1.out, HS1.out, if_pos hs]; rfl)
     clear HR1 HS1 HSB HST HSE hs eo bT
     have y0 := bF.cell 0
     have y1 := bF.cell 1
     have y2 := bF.cell 2
     simp at y0 y1 y2
     have g0 := bF.frozen 0
     have g1 := bF.frozen 1
     have g2 := bF.frozen 2
     have K : Blk (((wr.setCell ⟨gF, 0, none⟩ (.string ⟨#[]⟩)).setCell ⟨gF, 1, none⟩ (.int .i64 (p : Int))).setCell ⟨gF, 2, none⟩ (.int .i64 2)) gF 31 #[.string ⟨#[]⟩, .int .i64 (p : Int), .int .i64 2] := blk_set3 bF _ _ _
     have hq := (bel3 hb hgF (.string ⟨#[]⟩) (.int .i64 (p : Int)) (.int .i64 2))
     go_wp2_with fail
     exact rd_ret rfl rfl rfl K hq HV (EO.nil _ _ (fun _ => undef))
   have t1 : decide ((b.length : Int) - (p : Int) < 512) = false := decide_eq_false (by omega)
   obtain ⟨p1, HP1⟩ : ∃ p1, Hid (p1 = p + 512) := ⟨_, Lib.hid rfl⟩
   have wp1 : IntKind.i64.wrap ((p : Int) + 512) = (p1 : Int) := by rw [i64_in _ (by omega) (by omega), HP1.out]; omega
   have hx1 : (bs b).extract p p1 = bs (fldB b p 512) := by
     have := ext_fld b p p1
     rw [HP1.out, Nat.add_sub_cancel_left] at this
     rw [HP1.out]; exact this
   have i1 : (p : Int) ≤ (p1 : Int) := by rw [HP1.out]; omega
   have i2 : (p1 : Int) ≤ (b.length : Int) := by rw [HP1.out]; omega
   have i3 : (0 : Int) ≤ (p : Int) := by omega
   have HS2 : Hid (S = if nulB (fldB b p 512) = true then
    (if b.length < p + 1024 then .bad 2
    else if nulB (fldB b (p + 512) 512) = false then .bad 3
    else if noneB t = false then .order
    else .fin)
  else match headS (fldB b p 512) with
    | .bad c => .bad c
    | .ok h => bodyS b t p h) := Lib.hid (by rw [HS1.out, if_neg hs])
   have hfl : (fldB b p 512).length = 512 := fldB_len (by omega)
   clear HS1
   obtain ⟨zz, HZZ⟩ : ∃ z, Hid (z = List.replicate 512 (0 : UInt8)) := ⟨_, Lib.hid rfl⟩
   have HNZ := nul_zero (fldB b p 512) 512 hfl
   rw [← HZZ.out] at HNZ
   have hz : ∀ W, Calls Tryz.prog 24 #[.int .i64 512] W fun e w' => e = .returned (.string (bs zz)) ∧ W = w' := fun W => by rw [HZZ.out]; exact tzeros_any 512 W (by omega)
   have HHD : Hid (fldB b p 512 = fldB b p 512) := Lib.hid rfl
   generalize hhe : fldB b p 512 = hb9 at hx1 HS2 hfl HNZ
   have Hhe := Lib.hid hhe
   clear hhe HHD
   by_cases hnul : nulB hb9 = true
   · as_aux_lemma =>
     have hez : hb9 = zz := HNZ.1 hnul
     have q1 : ((bs hb9).toList == (bs zz).toList) = true := by rw [hez]; simp
     have HS3 : Hid (S = if b.length < p + 1024 then .bad 2 else if nulB (fldB b (p + 512) 512) = false then .bad 3 else if noneB t = false then .order else .fin) := Lib.hid (by rw [HS2.out, if_pos hnul])
     have HNL := Lib.hid (show List.replicate 512 (0 : UInt8) = hb9 by rw [hez, HZZ.out])
     clear HS2 hnul HNZ hez
     go_upto_region 9 with (go_at_call 24; refine (hz _).mono ?_; rintro r W1 ⟨rfl, rfl⟩)
     clear q1 hz HZZ
     by_cases hs2 : b.length < p + 1024
     · have t2 : decide ((b.length : Int) - (p : Int) < 1024) = true := decide_eq_true (by omega)
       have HV : Hid (R = ([], (p : Int), 2)) := Lib.hid (by rw [HR1.out, HS3.out, if_pos hs2]; rfl)
       clear HR1 HS3 HSB HST HSE hs2 eo bT
       have y0 := bF.cell 0
       have y1 := bF.cell 1
       have y2 := bF.cell 2
       simp at y0 y1 y2
       have g0 := bF.frozen 0
       have g1 := bF.frozen 1
       have g2 := bF.frozen 2
       have K : Blk (((wr.setCell ⟨gF, 0, none⟩ (.string ⟨#[]⟩)).setCell ⟨gF, 1, none⟩ (.int .i64 (p : Int))).setCell ⟨gF, 2, none⟩ (.int .i64 2)) gF 31 #[.string ⟨#[]⟩, .int .i64 (p : Int), .int .i64 2] := blk_set3 bF _ _ _
       have hq := (bel3 hb hgF (.string ⟨#[]⟩) (.int .i64 (p : Int)) (.int .i64 2))
       go_wp2_with fail
       exact rd_ret rfl rfl rfl K hq HV (EO.nil _ _ (fun _ => undef))
     have t2 : decide ((b.length : Int) - (p : Int) < 1024) = false := decide_eq_false (by omega)
     obtain ⟨p2, HP2⟩ : ∃ p2, Hid (p2 = p + 1024) := ⟨_, Lib.hid rfl⟩
     have wp2 : IntKind.i64.wrap ((p : Int) + 1024) = (p2 : Int) := by rw [i64_in _ (by omega) (by omega), HP2.out]; omega
     have hx2 : (bs b).extract p1 p2 = bs (fldB b (p + 512) 512) := by
       have := ext_fld b p1 p2
       rw [HP1.out, HP2.out, show p + 1024 - (p + 512) = 512 by omega] at this
       rw [HP1.out, HP2.out]; exact this
     have i4 : (p1 : Int) ≤ (p2 : Int) := by rw [HP1.out, HP2.out]; omega
     have i5 : (p2 : Int) ≤ (b.length : Int) := by rw [HP2.out]; omega
     have i6 : (0 : Int) ≤ (p1 : Int) := by omega
     have HS4 : Hid (S = if nulB (fldB b (p + 512) 512) = false then .bad 3 else if noneB t = false then .order else .fin) := Lib.hid (by rw [HS3.out, if_neg hs2])
     have HN2 := Lib.hid (nul_zero (fldB b (p + 512) 512) 512 (fldB_len (by omega)))
     rw [HNL.out] at HN2
     clear HS3 hs2
     generalize fldB b (p + 512) 512 = f2 at hx2 HS4 HN2
     by_cases hn2 : nulB f2 = true
     rotate_left
     · have hne : ¬ f2 = hb9 := fun e => hn2 (HN2.out.2 e)
       have q2 : ((bs f2).toList == (bs hb9).toList) = false := by rw [beq_bytes, toList_bs]; exact decide_eq_false hne
       have q2b : ((bs f2).toList != (bs hb9).toList) = true := by simp only [bne, q2]; rfl
       have HV : Hid (R = ([], (p : Int), 3)) := Lib.hid (by rw [HR1.out, HS4.out, if_pos (by simpa using hn2)]; rfl)
       clear HR1 HS4 HSB HST HSE HN2 HNL hn2 hne eo bT
       have y0 := bF.cell 0
       have y1 := bF.cell 1
       have y2 := bF.cell 2
       simp at y0 y1 y2
       have g0 := bF.frozen 0
       have g1 := bF.frozen 1
       have g2 := bF.frozen 2
       have K : Blk (((wr.setCell ⟨gF, 0, none⟩ (.string ⟨#[]⟩)).setCell ⟨gF, 1, none⟩ (.int .i64 (p : Int))).setCell ⟨gF, 2, none⟩ (.int .i64 3)) gF 31 #[.string ⟨#[]⟩, .int .i64 (p : Int), .int .i64 3] := blk_set3 bF _ _ _
       have hq := (bel3 hb hgF (.string ⟨#[]⟩) (.int .i64 (p : Int)) (.int .i64 3))
       go_wp2_with fail
       exact rd_ret rfl rfl rfl K hq HV (EO.nil _ _ (fun _ => undef))
     have he2 : f2 = hb9 := HN2.out.1 hn2
     have q2 : ((bs f2).toList == (bs hb9).toList) = true := by rw [he2]; simp
     have q2b : ((bs f2).toList != (bs hb9).toList) = false := by rw [he2]; simp
     have HS5 : Hid (S = if noneB t = false then .order else .fin) := Lib.hid (by rw [HS4.out, if_neg (by rw [hn2]; simp)])
     clear HS4 HN2 HNL hn2 he2
     have x0 := bT.cell 0
     have x1 := bT.cell 1
     have x2 := bT.cell 2
     have x21 := bT.cell 21
     simp [toldV] at x0 x1 x2 x21
     have HNB : Hid (noneB t = (!(t [76]).isSome && !(t [75]).isSome && !(t [120]).isSome)) := Lib.hid (by
       unfold noneB
       cases t [76] <;> cases t [75] <;> cases t [120] <;> rfl)
     obtain ⟨bL, HbL⟩ : ∃ b, Hid ((t [76]).isSome = b) := ⟨_, Lib.hid rfl⟩
     obtain ⟨bK, HbK⟩ : ∃ b, Hid ((t [75]).isSome = b) := ⟨_, Lib.hid rfl⟩
     obtain ⟨bX, HbX⟩ : ∃ b, Hid ((t [120]).isSome = b) := ⟨_, Lib.hid rfl⟩
     rw [HbL.out] at x0 HNB
     rw [HbK.out] at x1 HNB
     rw [HbX.out] at x2 HNB
     clear HbL HbK HbX bT
     obtain ⟨NB, HNV⟩ : ∃ b, Hid (noneB t = b) := ⟨_, Lib.hid rfl⟩
     rw [HNV.out] at HS5 HNB
     clear HNV
     go_upto_region 13 with fail
     go_cut [69] (fun s69 wx => s69 = .bool (!NB) ∧ wr = wx)
     case first => as_aux_lemma =>
       clear HR1 HS5 HSB HST HSE
       cases bL <;> cases bK <;> cases bX
       all_goals
         have HV := Lib.hid HNB.out
         clear HNB
         go_wp2_with fail
         go_meet
         exact ⟨by rw [HV.out]; rfl, rfl⟩
     case rest =>
     obtain ⟨rfl, rfl⟩ := hcut
     clear HNB x0 x1 x2
     cases NB with
     | false =>
       have HV : Hid (R = ([], (fr : Int), 15)) := Lib.hid (by rw [HR1.out, HS5.out]; rfl)
       clear HR1 HS5 HSB HST HSE eo
       have y0 := bF.cell 0
       have y1 := bF.cell 1
       have y2 := bF.cell 2
       simp at y0 y1 y2
       have g0 := bF.frozen 0
       have g1 := bF.frozen 1
       have g2 := bF.frozen 2
       go_upto_region 14 with fail
       refine wp_region_plan (fun W => W.cell? ⟨gt, 21, none⟩ = some (.int .i64 (fr : Int))) [(false, 0), (false, 1), (false, 2), (false, 3), (false, 4), (false, 5), (true, 6)] (by kernel_rfl) (by kernel_rfl) (x21) ?_
       simp only [planOps, List.map, List.getD_cons_zero, List.getD_cons_succ]
       iterate 6 ((first | refine plan_quiet (v := ?_) rfl rfl (fun w' hw' => ?_) ?_ | refine plan_calm (v := ?_) (tt_of) rfl (fun w' hw' => ?_) ?_); rotate_left; (focus (go_simp <;> (first | with_reducible rfl | (rw [if_neg (by simp [undef])]; try rfl) | omega))); simp only [Act.put, List.setIfInBounds_toArray, List.set_cons_zero, List.set_cons_succ])
       refine plan_last rfl (by kernel_rfl) (by kernel_rfl) (fun K hK => ?_)
       go_simp
       refine hK _ _ (trivial) ?_
       clear hK K
       (try simp only [Act.put, List.setIfInBounds_toArray, List.set_cons_zero, List.set_cons_succ])
       refine plan_end ?_
       have K : Blk ((((wr.setCell ⟨gF, 0, none⟩ (.string ⟨#[]⟩)).setCell ⟨gF, 1, none⟩ (.int .i64 (fr : Int))).setCell ⟨gF, 2, none⟩ (.int .i64 15)).drew) gF 31 #[.string ⟨#[]⟩, .int .i64 (fr : Int), .int .i64 15] := blk_set3 bF _ _ _
       have hq := (bel3 hb hgF (.string ⟨#[]⟩) (.int .i64 (fr : Int)) (.int .i64 15)).drew
       go_wp2_with fail
       exact rd_ret rfl rfl rfl K hq HV (EO.nil _ _ (fun _ => undef))
     | true =>
       have HV : Hid (R = (L, 0, 0)) := Lib.hid (by rw [HR1.out, HS5.out]; rfl)
       clear HR1 HS5 HSB HST HSE
       have y0 := bF.cell 0
       have y1 := bF.cell 1
       have y2 := bF.cell 2
       simp at y0 y1 y2
       have g0 := bF.frozen 0
       have g1 := bF.frozen 1
       have g2 := bF.frozen 2
       have K : Blk (((wr.setCell ⟨gF, 0, none⟩ (.string ⟨#[]⟩)).setCell ⟨gF, 1, none⟩ (.int .i64 0)).setCell ⟨gF, 2, none⟩ (.int .i64 0)) gF 31 #[.string ⟨#[]⟩, .int .i64 0, .int .i64 0] := blk_set3 bF _ _ _
       have hq := (bel3 hb hgF (.string ⟨#[]⟩) (.int .i64 0) (.int .i64 0))
       have hoe := eo.poke3 bF (x := .string ⟨#[]⟩) (y := .int .i64 0) (z := .int .i64 0)
       go_wp2_with fail
       exact rd_ret rfl rfl rfl K hq HV (hoe)
   have q1 : ((bs hb9).toList == (bs zz).toList) = false := by rw [beq_bytes, toList_bs]; exact decide_eq_false (fun e => hnul (HNZ.2 e))
   have HS3 : Hid (S = match headS hb9 with
    | .bad c => .bad c
    | .ok h => bodyS b t p h) := Lib.hid (by rw [HS2.out, if_neg hnul])
   clear HS2 HNZ
   have hhd := fun W => rhead_any hb9 hfl W
   obtain ⟨HH, HHH⟩ : ∃ H, Hid (headS hb9 = H) := ⟨_, Lib.hid rfl⟩
   rw [HHH.out] at hhd HS3
   cases HH with
   | bad c =>
    as_aux_lemma =>
     have hhd2 : ∀ W, Calls Tryz.prog 26 #[.string (bs hb9)] W fun r w' => r = .returned (.agg #[.string ⟨#[]⟩, .int .i64 0, .int .i64 0, .int .i64 0, .int .i64 0, .string ⟨#[]⟩, .string ⟨#[]⟩, .int .i64 0, .string ⟨#[]⟩, .slice none 0 0, .int .u8 0, .int .i64 0, .int .i64 c]) ∧ Below W.heap.size W w' := hhd
     have HV : Hid (R = ([], (p : Int), c)) := Lib.hid (by rw [HR1.out, HS3.out]; rfl)
     have hc0 := HSB.out c HS3.out
     have hcb : (c != 0) = true := by simpa using hc0
     clear HR1 HS3 HSB HST HSE hnul HHH hhd hc0 eo bT
     go_upto_region 17 with first
       | (go_at_call 24; refine (hz _).mono ?_; rintro r W1 ⟨rfl, rfl⟩)
       | (go_at_call 26; refine (hhd2 _).mono ?_; clear hhd2; rintro r W2 ⟨rfl, hbm⟩)
     have bG := Blk.new W2 64 #[.string ⟨#[]⟩, .int .i64 0, .int .i64 0, .int .i64 0, .int .i64 0, .string ⟨#[]⟩, .string ⟨#[]⟩, .int .i64 0, .string ⟨#[]⟩, .slice none 0 0, .int .u8 0, .int .i64 0, .int .i64 c]
     have hbG := hbm.alloc hbm.size (.cells #[.string ⟨#[]⟩, .int .i64 0, .int .i64 0, .int .i64 0, .int .i64 0, .string ⟨#[]⟩, .string ⟨#[]⟩, .int .i64 0, .string ⟨#[]⟩, .slice none 0 0, .int .u8 0, .int .i64 0, .int .i64 c] 64)
     have bF2 := bF.below hbG bF.lt
     have hb2 := hb.trans (hbG.mono hb.size)
     clear bF hb hbm hbG q1 hz
     generalize W2.alloc (.cells #[.string ⟨#[]⟩, .int .i64 0, .int .i64 0, .int .i64 0, .int .i64 0, .string ⟨#[]⟩, .string ⟨#[]⟩, .int .i64 0, .string ⟨#[]⟩, .slice none 0 0, .int .u8 0, .int .i64 0, .int .i64 c] 64) = W3 at bG bF2 hb2 ⊢
     generalize W2.heap.size = gG at bG ⊢
     have x12 := bG.cell 12
     simp at x12
     have y0 := bF2.cell 0
     have y1 := bF2.cell 1
     have y2 := bF2.cell 2
     simp at y0 y1 y2
     have g0 := bF2.frozen 0
     have g1 := bF2.frozen 1
     have g2 := bF2.frozen 2
     go_upto_region 18 with fail
     refine wp_region_plan (fun W => W.cell? ⟨gG, 12, none⟩ = some (.int .i64 c)) [(false, 0), (false, 1), (false, 2), (false, 3), (false, 4), (true, 5)] (by kernel_rfl) (by kernel_rfl) (x12) ?_
     simp only [planOps, List.map, List.getD_cons_zero, List.getD_cons_succ]
     iterate 5 ((first | refine plan_quiet (v := ?_) rfl rfl (fun w' hw' => ?_) ?_ | refine plan_calm (v := ?_) (tt_of) rfl (fun w' hw' => ?_) ?_); rotate_left; (focus (go_simp <;> (first | with_reducible rfl | (rw [if_neg (by simp [undef])]; try rfl) | omega))); simp only [Act.put, List.setIfInBounds_toArray, List.set_cons_zero, List.set_cons_succ])
     refine plan_last rfl (by kernel_rfl) (by kernel_rfl) (fun K hK => ?_)
     go_simp
     refine hK _ _ (trivial) ?_
     clear hK K
     (try simp only [Act.put, List.setIfInBounds_toArray, List.set_cons_zero, List.set_cons_succ])
     refine plan_end ?_
     have K : Blk ((((W3.setCell ⟨gF, 0, none⟩ (.string ⟨#[]⟩)).setCell ⟨gF, 1, none⟩ (.int .i64 (p : Int))).setCell ⟨gF, 2, none⟩ (.int .i64 c)).drew) gF 31 #[.string ⟨#[]⟩, .int .i64 (p : Int), .int .i64 c] := blk_set3 bF2 _ _ _
     have hq := (bel3 hb2 hgF (.string ⟨#[]⟩) (.int .i64 (p : Int)) (.int .i64 c)).drew
     go_wp2_with fail
     exact rd_ret rfl rfl rfl K hq HV (EO.nil _ _ (fun _ => undef))
   | ok d =>
   have hhd2 : ∀ W, Calls Tryz.prog 26 #[.string (bs hb9)] W fun r w' => r = .returned (.agg #[.string (bs (nameR d)), .int .i64 0, .int .i64 (d.mode : Int), .int .i64 (d.uid : Int), .int .i64 (d.gid : Int), .string (bs d.owner), .string (bs d.group), .int .i64 (d.mtime : Int), .string (bs d.link), .slice none 0 0, .int .u8 ((typR d.kind).toNat : Int), .int .i64 (d.size : Int), .int .i64 0]) ∧ Below W.heap.size W w' := fun W => by
     have h := hhd W
     exact h
   have hdl := hdR_lens hb9
   have hdm : d.mode < 4611686018427387904 ∧ d.uid < 4611686018427387904 ∧ d.gid < 4611686018427387904 ∧ d.size < 4611686018427387904 ∧ d.mtime < 4611686018427387904 := by
     rw [head_is HHH.out]
     exact ⟨ocN_lt _, ocN_lt _, ocN_lt _, ocN_lt _, ocN_lt _⟩
   rw [← head_is HHH.out] at hdl
   have HS4 : Hid (S = bodyS b t p d) := Lib.hid HS3.out
   clear hhd HS3 HHH hnul
   obtain ⟨hkt1, hkt2, hkt3⟩ := kind_typ d.kind
   obtain ⟨u, HU⟩ : ∃ u, Hid (typR d.kind = u) := ⟨_, Lib.hid rfl⟩
   rw [HU.out] at hhd2 hkt1 hkt2 hkt3
   go_upto_region 17 with first
     | (go_at_call 24; refine (hz _).mono ?_; rintro r W1 ⟨rfl, rfl⟩)
     | (go_at_call 26; refine (hhd2 _).mono ?_; clear hhd2; rintro r W2 ⟨rfl, hbm⟩)
   have bG := Blk.new W2 64 #[.string (bs (nameR d)), .int .i64 0, .int .i64 (d.mode : Int), .int .i64 (d.uid : Int), .int .i64 (d.gid : Int), .string (bs d.owner), .string (bs d.group), .int .i64 (d.mtime : Int), .string (bs d.link), .slice none 0 0, .int .u8 (u.toNat : Int), .int .i64 (d.size : Int), .int .i64 0]
   have hbG := hbm.alloc hbm.size (.cells #[.string (bs (nameR d)), .int .i64 0, .int .i64 (d.mode : Int), .int .i64 (d.uid : Int), .int .i64 (d.gid : Int), .string (bs d.owner), .string (bs d.group), .int .i64 (d.mtime : Int), .string (bs d.link), .slice none 0 0, .int .u8 (u.toNat : Int), .int .i64 (d.size : Int), .int .i64 0] 64)
   have bF2 := bF.below hbG bF.lt
   have bT2 := bT.below hbG bT.lt
   have eo2 := eo.below hbG
   have hb2 := hb.trans (hbG.mono hb.size)
   clear bF bT eo hb hbm hbG q1 hz
   generalize W2.alloc (.cells #[.string (bs (nameR d)), .int .i64 0, .int .i64 (d.mode : Int), .int .i64 (d.uid : Int), .int .i64 (d.gid : Int), .string (bs d.owner), .string (bs d.group), .int .i64 (d.mtime : Int), .string (bs d.link), .slice none 0 0, .int .u8 (u.toNat : Int), .int .i64 (d.size : Int), .int .i64 0] 64) = W3 at bG bF2 bT2 eo2 hb2 ⊢
   generalize W2.heap.size = gG at bG ⊢
   have hkd := fun W => rkind_any u W hkt3
   rw [hkt1] at hkd
   obtain ⟨z0, z1, z2, z3, z4, z5, z6, z7, z8, z9, z10, z11, z12⟩ := (cellsG bG)
   obtain ⟨kk, HKK⟩ : ∃ k, Hid (kindR d.kind = k) := ⟨_, Lib.hid rfl⟩
   rw [HKK.out] at hkd
   obtain ⟨TB, HTB⟩ : ∃ b, Hid (isTell d.kind = b) := ⟨_, Lib.hid rfl⟩
   rw [HTB.out] at hkt2
   have HT3 := Lib.hid hkt2
   clear hkt1 hkt2 hkt3
   go_upto_region 20 with (go_at_call 27; refine (hkd _).mono ?_; clear hkd; rintro r W4 ⟨rfl, rfl⟩)
   go_cut [11] (fun s11 wx => s11 = .bool TB ∧ W3 = wx)
   case first => as_aux_lemma =>
     clear HR1 HS4 HSB HST HSE HU HKK HTB hdl hdm
     have qq : ∀ c : UInt8, ((u.toNat : Int) == (c.toNat : Int)) = decide (u = c) := fun c => beq_byteT u c
     have h76 : ((u.toNat : Int) == 76) = decide (u = 76) := qq 76
     have h75 : ((u.toNat : Int) == 75) = decide (u = 75) := qq 75
     have h120 : ((u.toNat : Int) == 120) = decide (u = 120) := qq 120
     clear qq
     by_cases c76 : u = 76
     · have HV : Hid (TB = true) := Lib.hid (by rw [← HT3.out, c76]; rfl)
       rw [decide_eq_true c76] at h76
       clear h75 h120 c76 HT3
       go_wp2_with fail
       go_meet
       exact ⟨by rw [HV.out], rfl⟩
     rw [decide_eq_false c76] at h76
     by_cases c75 : u = 75
     · have HV : Hid (TB = true) := Lib.hid (by rw [← HT3.out, c75]; rfl)
       rw [decide_eq_true c75] at h75
       clear h120 c76 c75 HT3
       go_wp2_with fail
       go_meet
       exact ⟨by rw [HV.out], rfl⟩
     rw [decide_eq_false c75] at h75
     by_cases c120 : u = 120
     · have HV : Hid (TB = true) := Lib.hid (by rw [← HT3.out, c120]; rfl)
       rw [decide_eq_true c120] at h120
       clear c76 c75 c120 HT3
       go_wp2_with fail
       go_meet
       exact ⟨by rw [HV.out], rfl⟩
     rw [decide_eq_false c120] at h120
     have HV : Hid (TB = false) := Lib.hid (by rw [← HT3.out]; simp [isTell, c76, c75, c120])
     clear c76 c75 c120 HT3
     go_wp2_with fail
     go_meet
     exact ⟨by rw [HV.out], rfl⟩
   case rest =>
   obtain ⟨rfl, rfl⟩ := hcut
   cases TB with
   | true =>
    as_aux_lemma =>
     have hk3 : d.kind = 76 ∨ d.kind = 75 ∨ d.kind = 120 := by simpa [isTell] using HTB.out
     have hku : u = d.kind := by
       rw [← HU.out, typR, if_neg]
       intro e
       rw [e] at hk3
       revert hk3
       decide
     have hkk : kk = 0 := by rw [← HKK.out]; rcases hk3 with e | e | e <;> rw [e] <;> rfl
     subst hku
     subst hkk
     have HTL : Hid (isTell d.kind = true) := HTB
     have HS5 : Hid (S = if (t [d.kind]).isSome = true then .bad 3 else if b.length < p + 512 + d.size ∨ b.length < p + 512 + upB d.size then .bad 2 else if (tellS t d.kind (fldB b (p + 512) d.size)).1 = 0 then .tell (tellS t d.kind (fldB b (p + 512) d.size)).2 (p + 512 + upB d.size) else .bad (tellS t d.kind (fldB b (p + 512) d.size)).1) := Lib.hid (by rw [HS4.out, bodyS, if_pos HTB.out])
     clear HS4 HU HKK HTB HT3 hdl
     obtain ⟨TT, HTT⟩ : ∃ b, Hid ((t [d.kind]).isSome = b) := ⟨_, Lib.hid rfl⟩
     rw [HTT.out] at HS5
     have x0 := bT2.cell 0
     have x1 := bT2.cell 1
     have x2 := bT2.cell 2
     simp [toldV] at x0 x1 x2
     go_upto_region 23 with fail
     go_cut [140] (fun s140 wx => s140 = .bool TT ∧ W3 = wx)
     case first => as_aux_lemma =>
       clear HR1 HS5 HSB HST HSE hdm
       obtain ⟨bL, HbL⟩ : ∃ b, Hid ((t [76]).isSome = b) := ⟨_, Lib.hid rfl⟩
       obtain ⟨bK, HbK⟩ : ∃ b, Hid ((t [75]).isSome = b) := ⟨_, Lib.hid rfl⟩
       obtain ⟨bX, HbX⟩ : ∃ b, Hid ((t [120]).isSome = b) := ⟨_, Lib.hid rfl⟩
       rw [HbL.out] at x0
       rw [HbK.out] at x1
       rw [HbX.out] at x2
       rcases hk3 with e | e | e
       · have HV : Hid (TT = bL) := Lib.hid (by rw [← HTT.out, e, HbL.out])
         replace z10 : W3.cell? ⟨gG, 10, none⟩ = some (.int .u8 76) := by rw [z10, e]; rfl
         clear HTT HbL HbK HbX e
         cases bL
         all_goals
           go_wp2_with fail
           go_meet
           exact ⟨by rw [HV.out], rfl⟩
       · have HV : Hid (TT = bK) := Lib.hid (by rw [← HTT.out, e, HbK.out])
         replace z10 : W3.cell? ⟨gG, 10, none⟩ = some (.int .u8 75) := by rw [z10, e]; rfl
         clear HTT HbL HbK HbX e
         cases bK
         all_goals
           go_wp2_with fail
           go_meet
           exact ⟨by rw [HV.out], rfl⟩
       · have HV : Hid (TT = bX) := Lib.hid (by rw [← HTT.out, e, HbX.out])
         replace z10 : W3.cell? ⟨gG, 10, none⟩ = some (.int .u8 120) := by rw [z10, e]; rfl
         clear HTT HbL HbK HbX e
         cases bX
         all_goals
           go_wp2_with fail
           go_meet
           exact ⟨by rw [HV.out], rfl⟩
     case rest =>
     obtain ⟨rfl, rfl⟩ := hcut
     clear HTT x0 x1 x2
     cases TT with
     | true =>
       have HV : Hid (R = ([], (p : Int), 3)) := Lib.hid (by rw [HR1.out, HS5.out]; rfl)
       clear HR1 HS5 HSB HST HSE eo2 bT2 bG z0 z1 z2 z3 z4 z5 z6 z7 z8 z9 z10 z11 z12 hdm hk3
       have y0 := bF2.cell 0
       have y1 := bF2.cell 1
       have y2 := bF2.cell 2
       simp at y0 y1 y2
       have g0 := bF2.frozen 0
       have g1 := bF2.frozen 1
       have g2 := bF2.frozen 2
       have K : Blk (((W3.setCell ⟨gF, 0, none⟩ (.string ⟨#[]⟩)).setCell ⟨gF, 1, none⟩ (.int .i64 (p : Int))).setCell ⟨gF, 2, none⟩ (.int .i64 3)) gF 31 #[.string ⟨#[]⟩, .int .i64 (p : Int), .int .i64 3] := blk_set3 bF2 _ _ _
       have hq := (bel3 hb2 hgF (.string ⟨#[]⟩) (.int .i64 (p : Int)) (.int .i64 3))
       go_wp2_with fail
       exact rd_ret rfl rfl rfl K hq HV (EO.nil _ _ (fun _ => undef))
     | false =>
     have HS6 : Hid (S = if b.length < p + 512 + d.size ∨ b.length < p + 512 + upB d.size then .bad 2 else if (tellS t d.kind (fldB b (p + 512) d.size)).1 = 0 then .tell (tellS t d.kind (fldB b (p + 512) d.size)).2 (p + 512 + upB d.size) else .bad (tellS t d.kind (fldB b (p + 512) d.size)).1) := Lib.hid HS5.out
     clear HS5 hk3
     go_upto_region 25 with fail
     refine wp_region_plan (fun W => W.cell? ⟨gG, 0, none⟩ = some (.string (bs (nameR d))) ∧ W.cell? ⟨gG, 1, none⟩ = some (.int .i64 0) ∧ W.cell? ⟨gG, 2, none⟩ = some (.int .i64 (d.mode : Int)) ∧ W.cell? ⟨gG, 3, none⟩ = some (.int .i64 (d.uid : Int)) ∧ W.cell? ⟨gG, 4, none⟩ = some (.int .i64 (d.gid : Int)) ∧ W.cell? ⟨gG, 5, none⟩ = some (.string (bs d.owner)) ∧ W.cell? ⟨gG, 6, none⟩ = some (.string (bs d.group)) ∧ W.cell? ⟨gG, 7, none⟩ = some (.int .i64 (d.mtime : Int)) ∧ W.cell? ⟨gG, 8, none⟩ = some (.string (bs d.link)) ∧ W.cell? ⟨gG, 9, none⟩ = some (.slice none 0 0) ∧ W.cell? ⟨gG, 11, none⟩ = some (.int .i64 (d.size : Int))) [(false, 0), (false, 1), (false, 2), (false, 3), (true, 4), (true, 5), (false, 6)] (by kernel_rfl) (by kernel_rfl) (⟨z0, z1, z2, z3, z4, z5, z6, z7, z8, z9, z11⟩) ?_
     simp only [planOps, List.map, List.getD_cons_zero, List.getD_cons_succ]
     iterate 4 ((first | refine plan_quiet (v := ?_) rfl rfl (fun w' hw' => ?_) ?_ | refine plan_calm (v := ?_) (tt_of) rfl (fun w' hw' => ?_) ?_); rotate_left; (focus (go_simp <;> (first | with_reducible rfl | (rw [if_neg (by simp [undef])]; try rfl) | omega))); simp only [Act.put, List.setIfInBounds_toArray, List.set_cons_zero, List.set_cons_succ])
     refine plan_loud rfl (fun K hK => ?_)
     go_simp
     have bE : Blk (W3.alloc (.cells #[.string ⟨#[]⟩, .int .i64 0, .int .i64 0, .int .i64 0, .int .i64 0, .string ⟨#[]⟩, .string ⟨#[]⟩, .int .i64 0, .string ⟨#[]⟩, .slice none 0 0] tE)).drew W3.heap.size tE #[.string ⟨#[]⟩, .int .i64 0, .int .i64 0, .int .i64 0, .int .i64 0, .string ⟨#[]⟩, .string ⟨#[]⟩, .int .i64 0, .string ⟨#[]⟩, .slice none 0 0] := Blk.new W3 tE #[.string ⟨#[]⟩, .int .i64 0, .int .i64 0, .int .i64 0, .int .i64 0, .string ⟨#[]⟩, .string ⟨#[]⟩, .int .i64 0, .string ⟨#[]⟩, .slice none 0 0]
     have hbx := ((Below.refl W3.heap.size W3).alloc (Nat.le_refl _) (.cells #[.string ⟨#[]⟩, .int .i64 0, .int .i64 0, .int .i64 0, .int .i64 0, .string ⟨#[]⟩, .string ⟨#[]⟩, .int .i64 0, .string ⟨#[]⟩, .slice none 0 0] tE)).drew
     have hkx := Kept.of_below hbx nowhere
     have y0 := hkx.cell z0 (fun h => h)
     have y1 := hkx.cell z1 (fun h => h)
     have y2 := hkx.cell z2 (fun h => h)
     have y3 := hkx.cell z3 (fun h => h)
     have y4 := hkx.cell z4 (fun h => h)
     have y5 := hkx.cell z5 (fun h => h)
     have y6 := hkx.cell z6 (fun h => h)
     have y7 := hkx.cell z7 (fun h => h)
     have y8 := hkx.cell z8 (fun h => h)
     have y9 := hkx.cell z9 (fun h => h)
     have y11 := hkx.cell z11 (fun h => h)
     have hGlt := bG.lt
     have hlv0 : ∀ g, (Value.slice Al L.length cl).ownBlock = some g → ¬ W3.heap.size ≤ g := fun g e h => by have := (eo2.row.lt g e).2; omega
     have hszW := hb2.size
     have hFlt0 := bF2.lt
     clear hkx
     refine hK _ _ (⟨y0, y1, y2, y3, y4, y5, y6, y7, y8, y9, y11⟩) ?_
     clear hK K
     (try simp only [Act.put, List.setIfInBounds_toArray, List.set_cons_zero, List.set_cons_succ])
     refine plan_loud rfl (fun K hK => ?_)
     generalize (W3.alloc (.cells #[.string ⟨#[]⟩, .int .i64 0, .int .i64 0, .int .i64 0, .int .i64 0, .string ⟨#[]⟩, .string ⟨#[]⟩, .int .i64 0, .string ⟨#[]⟩, .slice none 0 0] tE)).drew = W6 at bE hbx y0 y1 y2 y3 y4 y5 y6 y7 y8 y9 y11 ⊢
     obtain ⟨gE, hge⟩ : ∃ g, g = W3.heap.size := ⟨_, rfl⟩
     rw [← hge] at bE ⊢
     have hgE : W3.heap.size ≤ gE := by omega
     clear hge
     refine wp_store10 12 144 rfl rfl rfl rfl bE (fun W7 KE hk7 => ?_)
     have hbx7 := hbx.trans (hk7.below hbx.size fun k _ e => by rw [e]; exact hgE)
     have hgn : gG ≠ gE := by omega
     have y0 := hk7.cell y0 hgn
     have y1 := hk7.cell y1 hgn
     have y2 := hk7.cell y2 hgn
     have y3 := hk7.cell y3 hgn
     have y4 := hk7.cell y4 hgn
     have y5 := hk7.cell y5 hgn
     have y6 := hk7.cell y6 hgn
     have y7 := hk7.cell y7 hgn
     have y8 := hk7.cell y8 hgn
     have y9 := hk7.cell y9 hgn
     have y11 := hk7.cell y11 hgn
     refine hK _ _ (⟨y0, y1, y2, y3, y4, y5, y6, y7, y8, y9, y11⟩) ?_
     clear hK K
     (try simp only [Act.put, List.setIfInBounds_toArray, List.set_cons_zero, List.set_cons_succ])
     iterate 1 ((first | refine plan_quiet (v := ?_) rfl rfl (fun w' hw' => ?_) ?_ | refine plan_calm (v := ?_) (tt_of) rfl (fun w' hw' => ?_) ?_); rotate_left; (focus (go_simp <;> (first | with_reducible rfl | (rw [if_neg (by simp [undef])]; try rfl) | omega))); simp only [Act.put, List.setIfInBounds_toArray, List.set_cons_zero, List.set_cons_succ])
     refine plan_end ?_
     clear y0 y1 y2 y3 y4 y5 y6 y7 y8 y9 y11 bE hbx hk7
     have bF7 := bF2.below hbx7 bF2.lt
     have bT7 := bT2.below hbx7 bT2.lt
     have bG7 := bG.below hbx7 bG.lt
     have eo7 := eo2.below hbx7
     have hb7 := hb2.trans (hbx7.mono hb2.size)
     have z10 := (Kept.of_below hbx7 nowhere).cell z10 (fun h => h)
     clear z0 z1 z2 z3 z4 z5 z6 z7 z8 z9 z11 z12 hbx7 bF2 bT2 bG eo2
     have hszb : d.size < 4611686018427387904 := hdm.2.2.2.1
     have hlvE : (Value.slice Al L.length cl).ownBlock ≠ some gE := fun e => hlv0 gE e hgE
     have hgEH : w.heap.size ≤ gE := by have := hgE; omega
     have hFlt : gF < gE := by have := hgE; omega
     obtain ⟨sz, HSZ⟩ : ∃ s, Hid (d.size = s) := ⟨_, Lib.hid rfl⟩
     rw [HSZ.out] at HS6 hszb ⊢
     clear HSZ
     have wp3 : IntKind.i64.wrap ((b.length : Int) - (p : Int) - 512) = (b.length : Int) - (p : Int) - 512 := i64_in _ (by omega) (by omega)
     by_cases hz1 : b.length < p + 512 + sz
     · have t3 : decide ((b.length : Int) - (p : Int) - 512 < (sz : Int)) = true := decide_eq_true (by omega)
       have HV : Hid (R = ([], (p : Int), 2)) := Lib.hid (by rw [HR1.out, HS6.out, if_pos (.inl hz1)]; rfl)
       clear HR1 HS6 HSB HST HSE eo7 bT7 bG7 z10 hdm hszb HTL KE
       have y0 := bF7.cell 0
       have y1 := bF7.cell 1
       have y2 := bF7.cell 2
       simp at y0 y1 y2
       have g0 := bF7.frozen 0
       have g1 := bF7.frozen 1
       have g2 := bF7.frozen 2
       have K : Blk (((W7.setCell ⟨gF, 0, none⟩ (.string ⟨#[]⟩)).setCell ⟨gF, 1, none⟩ (.int .i64 (p : Int))).setCell ⟨gF, 2, none⟩ (.int .i64 2)) gF 31 #[.string ⟨#[]⟩, .int .i64 (p : Int), .int .i64 2] := blk_set3 bF7 _ _ _
       have hq := (bel3 hb7 hgF (.string ⟨#[]⟩) (.int .i64 (p : Int)) (.int .i64 2))
       go_wp2_with fail
       exact rd_ret rfl rfl rfl K hq HV (EO.nil _ _ (fun _ => undef))
     have t3 : decide ((b.length : Int) - (p : Int) - 512 < (sz : Int)) = false := decide_eq_false (by omega)
     obtain ⟨m5, HM5⟩ : ∃ m, Hid (m = sz % 512) := ⟨_, Lib.hid rfl⟩
     obtain ⟨r5, HR5⟩ : ∃ r, Hid (r = 512 - m5) := ⟨_, Lib.hid rfl⟩
     obtain ⟨q6, HQ6⟩ : ∃ q, Hid (q = r5 % 512) := ⟨_, Lib.hid rfl⟩
     have hm5 : m5 < 512 := by rw [HM5.out]; exact Nat.mod_lt _ (by omega)
     have hq6 : q6 < 512 := by rw [HQ6.out]; exact Nat.mod_lt _ (by omega)
     have HPU : Hid (sz + q6 = upB sz) := Lib.hid (by rw [HQ6.out, HR5.out, HM5.out]; exact pad_up sz)
     have v1 : (sz : Int).tmod 512 = (m5 : Int) := by rw [Int.tmod_eq_emod_of_nonneg (by omega), HM5.out]; omega
     have v1b : (sz : Int) % 512 = (m5 : Int) := by rw [HM5.out]; omega
     have v2 : IntKind.i64.wrap (512 - (m5 : Int)) = (r5 : Int) := by rw [i64_in _ (by omega) (by omega), HR5.out]; omega
     have v3 : (r5 : Int).tmod 512 = (q6 : Int) := by rw [Int.tmod_eq_emod_of_nonneg (by omega), HQ6.out]; omega
     have v3b : (r5 : Int) % 512 = (q6 : Int) := by rw [HQ6.out]; omega
     obtain ⟨s6, HS6b⟩ : ∃ s, Hid (s = upB sz) := ⟨_, Lib.hid rfl⟩
     have hs6 : s6 = sz + q6 := by rw [HS6b.out, HPU.out]
     have v4 : IntKind.i64.wrap ((sz : Int) + (q6 : Int)) = (s6 : Int) := by rw [i64_in _ (by omega) (by omega)]; omega
     by_cases hz2 : b.length < p + 512 + s6
     · have t4 : decide ((b.length : Int) - (p : Int) - 512 < (s6 : Int)) = true := decide_eq_true (by omega)
       have HV : Hid (R = ([], (p : Int), 2)) := Lib.hid (by rw [HR1.out, HS6.out, if_pos (.inr (by rw [← HS6b.out]; exact hz2))]; rfl)
       clear hs6
       clear HR1 HS6 HSB HST HSE eo7 bT7 bG7 z10 hdm hszb HTL KE
       have y0 := bF7.cell 0
       have y1 := bF7.cell 1
       have y2 := bF7.cell 2
       simp at y0 y1 y2
       have g0 := bF7.frozen 0
       have g1 := bF7.frozen 1
       have g2 := bF7.frozen 2
       have K : Blk (((W7.setCell ⟨gF, 0, none⟩ (.string ⟨#[]⟩)).setCell ⟨gF, 1, none⟩ (.int .i64 (p : Int))).setCell ⟨gF, 2, none⟩ (.int .i64 2)) gF 31 #[.string ⟨#[]⟩, .int .i64 (p : Int), .int .i64 2] := blk_set3 bF7 _ _ _
       have hq := (bel3 hb7 hgF (.string ⟨#[]⟩) (.int .i64 (p : Int)) (.int .i64 2))
       go_wp2_with fail
       exact rd_ret rfl rfl rfl K hq HV (EO.nil _ _ (fun _ => undef))
     have t4 : decide ((b.length : Int) - (p : Int) - 512 < (s6 : Int)) = false := decide_eq_false (by omega)
     have HS7 : Hid (S = if (tellS t d.kind (fldB b (p + 512) sz)).1 = 0 then .tell (tellS t d.kind (fldB b (p + 512) sz)).2 (p + 512 + upB sz) else .bad (tellS t d.kind (fldB b (p + 512) sz)).1) := Lib.hid (by rw [HS6.out, if_neg (by rintro (h | h); exact hz1 h; rw [← HS6b.out] at h; exact hz2 h)])
     obtain ⟨p3, HP3⟩ : ∃ q, Hid (q = p1 + sz) := ⟨_, Lib.hid rfl⟩
     have w3 : IntKind.i64.wrap ((p1 : Int) + (sz : Int)) = (p3 : Int) := by have := HP1.out; rw [i64_in _ (by omega) (by omega), HP3.out]; omega
     obtain ⟨p4, HP4⟩ : ∃ q, Hid (q = p + 512 + upB sz) := ⟨_, Lib.hid rfl⟩
     have w4 : IntKind.i64.wrap ((p3 : Int) + (q6 : Int)) = (p4 : Int) := by
       have e1 := HP1.out
       have e3 := HP3.out
       have e4 := HP4.out
       rw [← HS6b.out] at e4
       rw [i64_in _ (by omega) (by omega)]; omega
     have hx3 : (bs b).extract p1 p3 = bs (fldB b (p + 512) sz) := by
       have := ext_fld b p1 p3
       rw [HP3.out, Nat.add_sub_cancel_left] at this
       rw [HP3.out, this, HP1.out]
     have j1 : (p1 : Int) ≤ (p3 : Int) := by rw [HP3.out]; omega
     have j2 : (p3 : Int) ≤ (b.length : Int) := by have := HP1.out; rw [HP3.out]; omega
     have j3 : (0 : Int) ≤ (p1 : Int) := by omega
     clear HS6 hz1 hz2 hs6 HM5 HR5 HQ6 HPU HS6b
     have hfd : (fldB b (p + 512) sz).length ≤ 100000000 := by have := fld_le b (p + 512) sz; omega
     have htl := rtell_any t fr gt W7 bT7 d.kind HTL.out (fldB b (p + 512) sz) hfd p
     obtain ⟨tc, Htc⟩ : ∃ c, Hid ((tellS t d.kind (fldB b (p + 512) sz)).1 = c) := ⟨_, Lib.hid rfl⟩
     obtain ⟨tn, Htn⟩ : ∃ c, Hid ((tellS t d.kind (fldB b (p + 512) sz)).2 = c) := ⟨_, Lib.hid rfl⟩
     rw [Htc.out, Htn.out] at htl HS7
     clear Htc Htn HTL hfd
     generalize fldB b (p + 512) sz = dd at hx3 htl
     go_upto_region 35 with (go_at_call 29; refine htl.mono ?_; clear htl; rintro r W8 ⟨rfl, hB8, hk8⟩)
     have hneF : gF ≠ gt := Blk.apartT bF7 bT7 (by decide)
     have bF8 := hk8.blk bF7 hneF
     have eo8 := eo7.told bT7 hk8
     have hb8 := hb7.trans (hk8.below hb7.size fun k _ e => by rw [e]; exact hgt)
     clear bF7 bT7 eo7 hb7 hk8 bG7 z10
     by_cases htc : tc = 0
     rotate_left
     · have q5 : (tc != 0) = true := by simpa using htc
       have HV : Hid (R = ([], (p : Int), tc)) := Lib.hid (by rw [HR1.out, HS7.out, if_neg htc]; rfl)
       clear HR1 HS7 HSB HST HSE eo8 hB8
       have y0 := bF8.cell 0
       have y1 := bF8.cell 1
       have y2 := bF8.cell 2
       simp at y0 y1 y2
       have g0 := bF8.frozen 0
       have g1 := bF8.frozen 1
       have g2 := bF8.frozen 2
       have K : Blk (((W8.setCell ⟨gF, 0, none⟩ (.string ⟨#[]⟩)).setCell ⟨gF, 1, none⟩ (.int .i64 (p : Int))).setCell ⟨gF, 2, none⟩ (.int .i64 tc)) gF 31 #[.string ⟨#[]⟩, .int .i64 (p : Int), .int .i64 tc] := blk_set3 bF8 _ _ _
       have hq := (bel3 hb8 hgF (.string ⟨#[]⟩) (.int .i64 (p : Int)) (.int .i64 tc))
       go_wp2_with fail
       exact rd_ret rfl rfl rfl K hq HV (EO.nil _ _ (fun _ => undef))
     have q5 : (tc != 0) = false := by simpa using htc
     have HS8 : Hid (S = .tell tn (p + 512 + upB sz)) := Lib.hid (by rw [HS7.out, if_pos htc])
     have hB9 := hB8 htc
     obtain ⟨hn1, hn2, hTL2, _⟩ := HST.out _ _ HS8.out
     have HRN : Hid (runU b n tn (if noneB t = true then p else fr) L (p + 512 + upB sz) = R) := Lib.hid (by rw [HR1.out, HS8.out]; rfl)
     clear HR1 HS7 HS8 HSB HST HSE htc hB8
     generalize hfe : (if noneB t = true then p else fr) = fr2 at hB9 HRN
     clear hfe
     go_wp2_with fail
     go_roundg n
     case measure => omega
     case rel => exact ⟨n, p + 512 + upB sz, L, f, tn, gt, fr2, rfl, rfl, by rw [HP4.out], eo8, hB9, bF8, hb8, hgt, hn2, by omega, by omega, hEB, hTL2, HRN⟩
   | false =>
     as_aux_lemma =>
      have HSb : Hid (S = if kindR d.kind = 0 then .bad 9 else if kindR d.kind ≠ 1 ∧ 0 < orN t kSize d.size then .bad 3 else if b.length < p + 512 + orN t kSize d.size ∨ b.length < p + 512 + upB (orN t kSize d.size) then .bad 2 else .ent ⟨if kindR d.kind = 2 then cutSl (orT t kPth (orT t [76] (nameR d))) else orT t kPth (orT t [76] (nameR d)), kindR d.kind, d.mode, orN t kUid d.uid, orN t kGid d.gid, orT t kOwn d.owner, orT t kGrp d.group, orN t kTime d.mtime, if kindR d.kind = 3 ∨ kindR d.kind = 4 then orT t kLnk (orT t [75] d.link) else [], fldB b (p + 512) (orN t kSize d.size)⟩ (p + 512 + upB (orN t kSize d.size))) := Lib.hid (by rw [HS4.out, bodyS, if_neg (by rw [HTB.out]; simp)]; rfl)
      have hkr : kindR d.kind = 0 ∨ kindR d.kind = 1 ∨ kindR d.kind = 2 ∨ kindR d.kind = 3 ∨ kindR d.kind = 4 := by
        unfold kindR
        split
        · exact .inr (.inl rfl)
        split
        · exact .inr (.inr (.inl rfl))
        split
        · exact .inr (.inr (.inr (.inl rfl)))
        split
        · exact .inr (.inr (.inr (.inr rfl)))
        · exact .inl rfl
      rw [HKK.out] at HSb hkr
      have qq : ∀ c : UInt8, ((u.toNat : Int) == (c.toNat : Int)) = decide (u = c) := fun c => beq_byteT u c
      have hnt : ¬ u = 76 ∧ ¬ u = 75 ∧ ¬ u = 120 := by
        have h := HT3.out
        simp [isTell] at h
        exact h
      have h76 : ((u.toNat : Int) == 76) = false := (qq 76).trans (decide_eq_false hnt.1)
      have h75 : ((u.toNat : Int) == 75) = false := (qq 75).trans (decide_eq_false hnt.2.1)
      have h120 : ((u.toNat : Int) == 120) = false := (qq 120).trans (decide_eq_false hnt.2.2)
      clear qq hnt HS4 HU HKK HTB HT3
      by_cases hkk0 : kk = 0
      · have q0 : (kk == 0) = true := by rw [hkk0]; rfl
        have HV : Hid (R = ([], (p : Int), 9)) := Lib.hid (by rw [HR1.out, HSb.out, if_pos hkk0]; rfl)
        clear HR1 HSb HSB HST HSE hdl hdm hkr hkk0 eo2 bT2 bG z0 z1 z2 z3 z4 z5 z6 z7 z8 z9 z10 z11 z12 h76 h75 h120
        have y0 := bF2.cell 0
        have y1 := bF2.cell 1
        have y2 := bF2.cell 2
        simp at y0 y1 y2
        have g0 := bF2.frozen 0
        have g1 := bF2.frozen 1
        have g2 := bF2.frozen 2
        have K : Blk (((W3.setCell ⟨gF, 0, none⟩ (.string ⟨#[]⟩)).setCell ⟨gF, 1, none⟩ (.int .i64 (p : Int))).setCell ⟨gF, 2, none⟩ (.int .i64 9)) gF 31 #[.string ⟨#[]⟩, .int .i64 (p : Int), .int .i64 9] := blk_set3 bF2 _ _ _
        have hq := (bel3 hb2 hgF (.string ⟨#[]⟩) (.int .i64 (p : Int)) (.int .i64 9))
        go_wp2_with fail
        exact rd_ret rfl rfl rfl K hq HV (EO.nil _ _ (fun _ => undef))
      have q0 : (kk == 0) = false := by simpa using hkk0
      have HS5 : Hid (S = if kk ≠ 1 ∧ 0 < orN t kSize d.size then .bad 3 else if b.length < p + 512 + orN t kSize d.size ∨ b.length < p + 512 + upB (orN t kSize d.size) then .bad 2 else .ent ⟨if kk = 2 then cutSl (orT t kPth (orT t [76] (nameR d))) else orT t kPth (orT t [76] (nameR d)), kk, d.mode, orN t kUid d.uid, orN t kGid d.gid, orT t kOwn d.owner, orT t kGrp d.group, orN t kTime d.mtime, if kk = 3 ∨ kk = 4 then orT t kLnk (orT t [75] d.link) else [], fldB b (p + 512) (orN t kSize d.size)⟩ (p + 512 + upB (orN t kSize d.size))) := Lib.hid (by rw [HSb.out, if_neg hkk0])
      clear HSb
      go_upto_region 25 with fail
      refine wp_region_plan (fun W => W.cell? ⟨gG, 0, none⟩ = some (.string (bs (nameR d))) ∧ W.cell? ⟨gG, 1, none⟩ = some (.int .i64 0) ∧ W.cell? ⟨gG, 2, none⟩ = some (.int .i64 (d.mode : Int)) ∧ W.cell? ⟨gG, 3, none⟩ = some (.int .i64 (d.uid : Int)) ∧ W.cell? ⟨gG, 4, none⟩ = some (.int .i64 (d.gid : Int)) ∧ W.cell? ⟨gG, 5, none⟩ = some (.string (bs d.owner)) ∧ W.cell? ⟨gG, 6, none⟩ = some (.string (bs d.group)) ∧ W.cell? ⟨gG, 7, none⟩ = some (.int .i64 (d.mtime : Int)) ∧ W.cell? ⟨gG, 8, none⟩ = some (.string (bs d.link)) ∧ W.cell? ⟨gG, 9, none⟩ = some (.slice none 0 0) ∧ W.cell? ⟨gG, 11, none⟩ = some (.int .i64 (d.size : Int))) [(false, 0), (false, 1), (false, 2), (false, 3), (true, 4), (true, 5), (false, 6)] (by kernel_rfl) (by kernel_rfl) (⟨z0, z1, z2, z3, z4, z5, z6, z7, z8, z9, z11⟩) ?_
      simp only [planOps, List.map, List.getD_cons_zero, List.getD_cons_succ]
      iterate 4 ((first | refine plan_quiet (v := ?_) rfl rfl (fun w' hw' => ?_) ?_ | refine plan_calm (v := ?_) (tt_of) rfl (fun w' hw' => ?_) ?_); rotate_left; (focus (go_simp <;> (first | with_reducible rfl | (rw [if_neg (by simp [undef])]; try rfl) | omega))); simp only [Act.put, List.setIfInBounds_toArray, List.set_cons_zero, List.set_cons_succ])
      refine plan_loud rfl (fun K hK => ?_)
      go_simp
      have bE : Blk (W3.alloc (.cells #[.string ⟨#[]⟩, .int .i64 0, .int .i64 0, .int .i64 0, .int .i64 0, .string ⟨#[]⟩, .string ⟨#[]⟩, .int .i64 0, .string ⟨#[]⟩, .slice none 0 0] tE)).drew W3.heap.size tE #[.string ⟨#[]⟩, .int .i64 0, .int .i64 0, .int .i64 0, .int .i64 0, .string ⟨#[]⟩, .string ⟨#[]⟩, .int .i64 0, .string ⟨#[]⟩, .slice none 0 0] := Blk.new W3 tE #[.string ⟨#[]⟩, .int .i64 0, .int .i64 0, .int .i64 0, .int .i64 0, .string ⟨#[]⟩, .string ⟨#[]⟩, .int .i64 0, .string ⟨#[]⟩, .slice none 0 0]
      have hbx := ((Below.refl W3.heap.size W3).alloc (Nat.le_refl _) (.cells #[.string ⟨#[]⟩, .int .i64 0, .int .i64 0, .int .i64 0, .int .i64 0, .string ⟨#[]⟩, .string ⟨#[]⟩, .int .i64 0, .string ⟨#[]⟩, .slice none 0 0] tE)).drew
      have hkx := Kept.of_below hbx nowhere
      have y0 := hkx.cell z0 (fun h => h)
      have y1 := hkx.cell z1 (fun h => h)
      have y2 := hkx.cell z2 (fun h => h)
      have y3 := hkx.cell z3 (fun h => h)
      have y4 := hkx.cell z4 (fun h => h)
      have y5 := hkx.cell z5 (fun h => h)
      have y6 := hkx.cell z6 (fun h => h)
      have y7 := hkx.cell z7 (fun h => h)
      have y8 := hkx.cell z8 (fun h => h)
      have y9 := hkx.cell z9 (fun h => h)
      have y11 := hkx.cell z11 (fun h => h)
      have hGlt := bG.lt
      have hlv0 : ∀ g, (Value.slice Al L.length cl).ownBlock = some g → ¬ W3.heap.size ≤ g := fun g e h => by have := (eo2.row.lt g e).2; omega
      have hszW := hb2.size
      have hFlt0 := bF2.lt
      clear hkx
      refine hK _ _ (⟨y0, y1, y2, y3, y4, y5, y6, y7, y8, y9, y11⟩) ?_
      clear hK K
      (try simp only [Act.put, List.setIfInBounds_toArray, List.set_cons_zero, List.set_cons_succ])
      refine plan_loud rfl (fun K hK => ?_)
      generalize (W3.alloc (.cells #[.string ⟨#[]⟩, .int .i64 0, .int .i64 0, .int .i64 0, .int .i64 0, .string ⟨#[]⟩, .string ⟨#[]⟩, .int .i64 0, .string ⟨#[]⟩, .slice none 0 0] tE)).drew = W6 at bE hbx y0 y1 y2 y3 y4 y5 y6 y7 y8 y9 y11 ⊢
      obtain ⟨gE, hge⟩ : ∃ g, g = W3.heap.size := ⟨_, rfl⟩
      rw [← hge] at bE ⊢
      have hgE : W3.heap.size ≤ gE := by omega
      clear hge
      refine wp_store10 12 144 rfl rfl rfl rfl bE (fun W7 KE hk7 => ?_)
      have hbx7 := hbx.trans (hk7.below hbx.size fun k _ e => by rw [e]; exact hgE)
      have hgn : gG ≠ gE := by omega
      have y0 := hk7.cell y0 hgn
      have y1 := hk7.cell y1 hgn
      have y2 := hk7.cell y2 hgn
      have y3 := hk7.cell y3 hgn
      have y4 := hk7.cell y4 hgn
      have y5 := hk7.cell y5 hgn
      have y6 := hk7.cell y6 hgn
      have y7 := hk7.cell y7 hgn
      have y8 := hk7.cell y8 hgn
      have y9 := hk7.cell y9 hgn
      have y11 := hk7.cell y11 hgn
      refine hK _ _ (⟨y0, y1, y2, y3, y4, y5, y6, y7, y8, y9, y11⟩) ?_
      clear hK K
      (try simp only [Act.put, List.setIfInBounds_toArray, List.set_cons_zero, List.set_cons_succ])
      iterate 1 ((first | refine plan_quiet (v := ?_) rfl rfl (fun w' hw' => ?_) ?_ | refine plan_calm (v := ?_) (tt_of) rfl (fun w' hw' => ?_) ?_); rotate_left; (focus (go_simp <;> (first | with_reducible rfl | (rw [if_neg (by simp [undef])]; try rfl) | omega))); simp only [Act.put, List.setIfInBounds_toArray, List.set_cons_zero, List.set_cons_succ])
      refine plan_end ?_
      clear y0 y1 y2 y3 y4 y5 y6 y7 y8 y9 y11 bE hbx hk7
      have bF7 := bF2.below hbx7 bF2.lt
      have bT7 := bT2.below hbx7 bT2.lt
      have bG7 := bG.below hbx7 bG.lt
      have eo7 := eo2.below hbx7
      have hb7 := hb2.trans (hbx7.mono hb2.size)
      have z10 := (Kept.of_below hbx7 nowhere).cell z10 (fun h => h)
      clear z0 z1 z2 z3 z4 z5 z6 z7 z8 z9 z11 z12 hbx7 bF2 bT2 bG eo2
      have hszb : d.size < 4611686018427387904 := hdm.2.2.2.1
      have hlvE : (Value.slice Al L.length cl).ownBlock ≠ some gE := fun e => hlv0 gE e hgE
      have hgEH : w.heap.size ≤ gE := by have := hgE; omega
      have hFlt : gF < gE := by have := hgE; omega
      as_aux_lemma =>
       clear q0 h76 h75 h120
       have hov := rover_any t fr gt W7 bT7 (nameR d) d.owner d.group d.link 0 (d.mode : Int) d.uid d.gid d.mtime d.size
       have hsz0 : orN t kSize d.size ≤ 4611686018427387904 := by
         unfold orN
         cases h : t kSize with
         | none => exact Nat.le_of_lt hszb
         | some q => exact (hTL kSize q h).2
       have hnl1 : (orT t kPth (orT t [76] (nameR d))).length ≤ 10000000 := orT_le hTL _ _ (orT_le hTL _ _ (by
         unfold nameR
         split
         · simp only [List.length_append, List.length_singleton]; omega
         · omega))
       have hll1 : (orT t kLnk (orT t [75] d.link)).length ≤ 10000000 := orT_le hTL _ _ (orT_le hTL _ _ (by omega))
       have hol1 : (orT t kOwn d.owner).length ≤ 10000000 := orT_le hTL _ _ (by omega)
       have hgl1 : (orT t kGrp d.group).length ≤ 10000000 := orT_le hTL _ _ (by omega)
       generalize orT t kPth (orT t [76] (nameR d)) = pa at hov HS5 hnl1
       generalize orT t kLnk (orT t [75] d.link) = li at hov HS5 hll1
       generalize orT t kOwn d.owner = ow at hov HS5 hol1
       generalize orT t kGrp d.group = gw at hov HS5 hgl1
       generalize orN t kUid d.uid = nu at hov HS5
       generalize orN t kGid d.gid = ni at hov HS5
       generalize orN t kTime d.mtime = nt at hov HS5
       generalize orN t kSize d.size = sz at hov HS5 hsz0
       obtain ⟨c0, c1, c2, c3, c4, c5, c6, c7, c8, c9⟩ := KE.cells10
       go_upto_region 28 with first
         | (go_at_call 28; refine hov.mono ?_; clear hov; rintro r W8 ⟨rfl, hb8⟩; have KE8 := KE.below hb8 KE.lt; have bF8 := bF7.below hb8 bF7.lt; have eo8 := eo7.below hb8; have hb8' := hb7.trans (hb8.mono hb7.size); clear KE hb8 bF7 eo7 hb7 bT7 bG7 z10 c0 c1 c2 c3 c4 c5 c6 c7 c8 c9)
         | (refine wpList_store10 KE8 rfl rfl (fun W9 KE9 hk9 => ?_); have bF9 := hk9.blk bF8 (Blk.apartT bF8 KE8 (by decide)); have hlv9 : (Value.slice Al L.length cl).ownBlock ≠ some gE := (fun e => hlvE e); have eo9 := eo8.keptE KE8 hlv9 hk9; have hb9 := hb8'.trans (hk9.below hb8'.size fun k _ e => by rw [e]; exact hgEH); clear KE8 hk9 bF8 eo8 hb8')
       obtain ⟨B3, HB3⟩ : ∃ x, Hid ((!decide (kk = 1) && decide (0 < sz)) = x) := ⟨_, Lib.hid rfl⟩
       go_cut [161] (fun s161 wx => s161 = .bool B3 ∧ W9 = wx)
       case first => as_aux_lemma =>
         clear HR1 HS5 HSB HST HSE hdl hdm
         by_cases hk1 : kk = 1
         · have q1 : decide ((1 : Int) < kk) = false := decide_eq_false (by omega)
           have q1b : ¬ (1 : Int) < kk := by omega
           have HV : Hid (B3 = false) := Lib.hid (by rw [← HB3.out, decide_eq_true hk1]; rfl)
           clear hk1 HB3 hkr
           go_wp2_with fail
           go_meet
           exact ⟨by rw [HV.out], rfl⟩
         have q1 : decide ((1 : Int) < kk) = true := decide_eq_true (by omega)
         have q1b : (1 : Int) < kk := by omega
         by_cases hz0 : 0 < sz
         · have q2 : decide ((0 : Int) < (sz : Int)) = true := decide_eq_true (by omega)
           have q2b : (0 : Int) < (sz : Int) := by omega
           have HV : Hid (B3 = true) := Lib.hid (by rw [← HB3.out, decide_eq_false hk1, decide_eq_true hz0]; rfl)
           clear hk1 HB3 hkr
           go_wp2_with fail
           go_meet
           exact ⟨by rw [HV.out], rfl⟩
         · have q2 : decide ((0 : Int) < (sz : Int)) = false := decide_eq_false (by omega)
           have q2b : ¬ (0 : Int) < (sz : Int) := by omega
           have HV : Hid (B3 = false) := Lib.hid (by rw [← HB3.out, decide_eq_false hk1, decide_eq_false hz0]; rfl)
           clear hk1 HB3 hkr
           go_wp2_with fail
           go_meet
           exact ⟨by rw [HV.out], rfl⟩
       case rest =>
       obtain ⟨rfl, rfl⟩ := hcut
       have HB3b : Hid ((kk ≠ 1 ∧ 0 < sz) ↔ B3 = true) := Lib.hid (by rw [← HB3.out]; simp)
       clear HB3
       cases B3 with
       | true =>
         have HV : Hid (R = ([], (p : Int), 3)) := Lib.hid (by rw [HR1.out, HS5.out, if_pos (HB3b.out.2 rfl)]; rfl)
         clear HR1 HS5 HSB HST HSE hdl hdm hkr hkk0 eo9 KE9 HB3b hnl1 hll1 hol1 hgl1 hsz0
         have y0 := bF9.cell 0
         have y1 := bF9.cell 1
         have y2 := bF9.cell 2
         simp at y0 y1 y2
         have g0 := bF9.frozen 0
         have g1 := bF9.frozen 1
         have g2 := bF9.frozen 2
         have K : Blk (((W9.setCell ⟨gF, 0, none⟩ (.string ⟨#[]⟩)).setCell ⟨gF, 1, none⟩ (.int .i64 (p : Int))).setCell ⟨gF, 2, none⟩ (.int .i64 3)) gF 31 #[.string ⟨#[]⟩, .int .i64 (p : Int), .int .i64 3] := blk_set3 bF9 _ _ _
         have hq := (bel3 hb9 hgF (.string ⟨#[]⟩) (.int .i64 (p : Int)) (.int .i64 3))
         go_wp2_with fail
         exact rd_ret rfl rfl rfl K hq HV (EO.nil _ _ (fun _ => undef))
       | false =>
       have HS6 : Hid (S = if b.length < p + 512 + sz ∨ b.length < p + 512 + upB sz then .bad 2 else .ent ⟨if kk = 2 then cutSl pa else pa, kk, d.mode, nu, ni, ow, gw, nt, if kk = 3 ∨ kk = 4 then li else [], fldB b (p + 512) sz⟩ (p + 512 + upB sz)) := Lib.hid (by rw [HS5.out, if_neg (fun e => by have := HB3b.out.1 e; cases this)])
       clear HS5 HB3b
       have wp3 : IntKind.i64.wrap ((b.length : Int) - (p : Int) - 512) = (b.length : Int) - (p : Int) - 512 := i64_in _ (by omega) (by omega)
       by_cases hz1 : b.length < p + 512 + sz
       · have t3 : decide ((b.length : Int) - (p : Int) - 512 < (sz : Int)) = true := decide_eq_true (by omega)
         have HV : Hid (R = ([], (p : Int), 2)) := Lib.hid (by rw [HR1.out, HS6.out, if_pos (.inl hz1)]; rfl)
         clear HR1 HS6 HSB HST HSE eo9 KE9 hdl hdm hkr hkk0 hnl1 hll1 hol1 hgl1
         have y0 := bF9.cell 0
         have y1 := bF9.cell 1
         have y2 := bF9.cell 2
         simp at y0 y1 y2
         have g0 := bF9.frozen 0
         have g1 := bF9.frozen 1
         have g2 := bF9.frozen 2
         have K : Blk (((W9.setCell ⟨gF, 0, none⟩ (.string ⟨#[]⟩)).setCell ⟨gF, 1, none⟩ (.int .i64 (p : Int))).setCell ⟨gF, 2, none⟩ (.int .i64 2)) gF 31 #[.string ⟨#[]⟩, .int .i64 (p : Int), .int .i64 2] := blk_set3 bF9 _ _ _
         have hq := (bel3 hb9 hgF (.string ⟨#[]⟩) (.int .i64 (p : Int)) (.int .i64 2))
         go_wp2_with fail
         exact rd_ret rfl rfl rfl K hq HV (EO.nil _ _ (fun _ => undef))
       have t3 : decide ((b.length : Int) - (p : Int) - 512 < (sz : Int)) = false := decide_eq_false (by omega)
       obtain ⟨m5, HM5⟩ : ∃ m, Hid (m = sz % 512) := ⟨_, Lib.hid rfl⟩
       obtain ⟨r5, HR5⟩ : ∃ r, Hid (r = 512 - m5) := ⟨_, Lib.hid rfl⟩
       obtain ⟨q6, HQ6⟩ : ∃ q, Hid (q = r5 % 512) := ⟨_, Lib.hid rfl⟩
       have hm5 : m5 < 512 := by rw [HM5.out]; exact Nat.mod_lt _ (by omega)
       have hq6 : q6 < 512 := by rw [HQ6.out]; exact Nat.mod_lt _ (by omega)
       have HPU : Hid (sz + q6 = upB sz) := Lib.hid (by rw [HQ6.out, HR5.out, HM5.out]; exact pad_up sz)
       have v1 : (sz : Int).tmod 512 = (m5 : Int) := by rw [Int.tmod_eq_emod_of_nonneg (by omega), HM5.out]; omega
       have v1b : (sz : Int) % 512 = (m5 : Int) := by rw [HM5.out]; omega
       have v2 : IntKind.i64.wrap (512 - (m5 : Int)) = (r5 : Int) := by rw [i64_in _ (by omega) (by omega), HR5.out]; omega
       have v3 : (r5 : Int).tmod 512 = (q6 : Int) := by rw [Int.tmod_eq_emod_of_nonneg (by omega), HQ6.out]; omega
       have v3b : (r5 : Int) % 512 = (q6 : Int) := by rw [HQ6.out]; omega
       obtain ⟨s6, HS6b⟩ : ∃ s, Hid (s = upB sz) := ⟨_, Lib.hid rfl⟩
       have hs6 : s6 = sz + q6 := by rw [HS6b.out, HPU.out]
       have v4 : IntKind.i64.wrap ((sz : Int) + (q6 : Int)) = (s6 : Int) := by rw [i64_in _ (by omega) (by omega)]; omega
       by_cases hz2 : b.length < p + 512 + s6
       · have t4 : decide ((b.length : Int) - (p : Int) - 512 < (s6 : Int)) = true := decide_eq_true (by omega)
         have HV : Hid (R = ([], (p : Int), 2)) := Lib.hid (by rw [HR1.out, HS6.out, if_pos (.inr (by rw [← HS6b.out]; exact hz2))]; rfl)
         clear hs6
         clear HR1 HS6 HSB HST HSE eo9 KE9 hdl hdm hkr hkk0 hnl1 hll1 hol1 hgl1
         have y0 := bF9.cell 0
         have y1 := bF9.cell 1
         have y2 := bF9.cell 2
         simp at y0 y1 y2
         have g0 := bF9.frozen 0
         have g1 := bF9.frozen 1
         have g2 := bF9.frozen 2
         have K : Blk (((W9.setCell ⟨gF, 0, none⟩ (.string ⟨#[]⟩)).setCell ⟨gF, 1, none⟩ (.int .i64 (p : Int))).setCell ⟨gF, 2, none⟩ (.int .i64 2)) gF 31 #[.string ⟨#[]⟩, .int .i64 (p : Int), .int .i64 2] := blk_set3 bF9 _ _ _
         have hq := (bel3 hb9 hgF (.string ⟨#[]⟩) (.int .i64 (p : Int)) (.int .i64 2))
         go_wp2_with fail
         exact rd_ret rfl rfl rfl K hq HV (EO.nil _ _ (fun _ => undef))
       have t4 : decide ((b.length : Int) - (p : Int) - 512 < (s6 : Int)) = false := decide_eq_false (by omega)
       have HS7 : Hid (S = .ent ⟨if kk = 2 then cutSl pa else pa, kk, d.mode, nu, ni, ow, gw, nt, if kk = 3 ∨ kk = 4 then li else [], fldB b (p + 512) sz⟩ (p + 512 + upB sz)) := Lib.hid (by rw [HS6.out, if_neg (by rintro (h | h); exact hz1 h; rw [← HS6b.out] at h; exact hz2 h)])
       obtain ⟨p3, HP3⟩ : ∃ q, Hid (q = p1 + sz) := ⟨_, Lib.hid rfl⟩
       have w3 : IntKind.i64.wrap ((p1 : Int) + (sz : Int)) = (p3 : Int) := by have := HP1.out; rw [i64_in _ (by omega) (by omega), HP3.out]; omega
       obtain ⟨p4, HP4⟩ : ∃ q, Hid (q = p + 512 + upB sz) := ⟨_, Lib.hid rfl⟩
       have w4 : IntKind.i64.wrap ((p3 : Int) + (q6 : Int)) = (p4 : Int) := by
         have e1 := HP1.out
         have e3 := HP3.out
         have e4 := HP4.out
         rw [← HS6b.out] at e4
         rw [i64_in _ (by omega) (by omega)]; omega
       have hx3 : (bs b).extract p1 p3 = bs (fldB b (p + 512) sz) := by
         have := ext_fld b p1 p3
         rw [HP3.out, Nat.add_sub_cancel_left] at this
         rw [HP3.out, this, HP1.out]
       have j1 : (p1 : Int) ≤ (p3 : Int) := by rw [HP3.out]; omega
       have j2 : (p3 : Int) ≤ (b.length : Int) := by have := HP1.out; rw [HP3.out]; omega
       have j3 : (0 : Int) ≤ (p1 : Int) := by omega
       clear HS6 hz1 hz2 hs6 HM5 HR5 HQ6 HPU HS6b
       as_aux_lemma =>
        have hdd : (fldB b (p + 512) sz).length ≤ 100000 := by have := fld_le b (p + 512) sz; omega
        generalize fldB b (p + 512) sz = dd at hx3 HS7 hdd
        have c1 := KE9.cell 1
        have f1 := KE9.frozen 1
        simp at c1
        go_upto_region 38 with fail
        have KE10 : Blk (W9.setCell ⟨gE, 1, none⟩ (.int .i64 kk)) gE tE #[.string (bs pa), .int .i64 kk, .int .i64 (d.mode : Int), .int .i64 (nu : Int), .int .i64 (ni : Int), .string (bs ow), .string (bs gw), .int .i64 (nt : Int), .string (bs li), .slice none 0 0] := KE9.set (u := .int .i64 kk) 1
        have hk10 : Kept (fun k => k = gE) W9 (W9.setCell ⟨gE, 1, none⟩ (.int .i64 kk)) := (Kept.refl (fun k => k = gE) W9).setCell (p := ⟨gE, 1, none⟩) _ fun _ => rfl
        have hneF : gF ≠ gE := fun e => by
          omega
        have bF10 := hk10.blk bF9 hneF
        have eo10 := eo9.keptE KE9 hlvE hk10
        have hb10 := hb9.trans (hk10.below hb9.size fun k _ e => by rw [e]; exact hgEH)
        clear KE9 hk10 bF9 eo9 hb9 c1 f1
        generalize W9.setCell ⟨gE, 1, none⟩ (.int .i64 kk) = W10 at KE10 bF10 eo10 hb10 ⊢
        obtain ⟨gc, cap, W11, hcv, hbc, hgc, hsl⟩ := conv_sl2 (P := Tryz.prog) W10 9 25 5 dd Tryz.underlying9 Tryz.underlying25 Tryz.underlying5 (by omega)
        have hgcE : gc ≠ gE := fun e => by have := KE10.lt; omega
        have hgcL : ¬ (Value.slice Al L.length cl).ownBlock = some gc := fun e => by have := (eo10.row.lt gc e).2; omega
        have KE11 := KE10.below hbc KE10.lt
        have bF11 := bF10.below hbc bF10.lt
        have eo11 := eo10.below hbc
        have hb11 := hb10.trans (hbc.mono hb10.size)
        have c9 := KE11.cell 9
        have f9 := KE11.frozen 9
        simp at c9
        go_upto_region 39 with fail
        have KE12 : Blk (W11.setCell ⟨gE, 9, none⟩ (.slice (some ⟨gc, 0, none⟩) dd.length cap)) gE tE #[.string (bs pa), .int .i64 kk, .int .i64 (d.mode : Int), .int .i64 (nu : Int), .int .i64 (ni : Int), .string (bs ow), .string (bs gw), .int .i64 (nt : Int), .string (bs li), .slice (some ⟨gc, 0, none⟩) dd.length cap] := KE11.set (u := .slice (some ⟨gc, 0, none⟩) dd.length cap) 9
        have hk12 : Kept (fun k => k = gE) W11 (W11.setCell ⟨gE, 9, none⟩ (.slice (some ⟨gc, 0, none⟩) dd.length cap)) := (Kept.refl (fun k => k = gE) W11).setCell (p := ⟨gE, 9, none⟩) _ fun _ => rfl
        have bF12 := hk12.blk bF11 hneF
        have eo12 := eo11.keptE KE11 hlvE hk12
        have hb12 := hb11.trans (hk12.below hb11.size fun k _ e => by rw [e]; exact hgEH)
        have hsl12 : Sl 1 Rbyte (fun k => (Value.slice Al L.length cl).ownBlock = some k ∨ k = gE) (W11.setCell ⟨gE, 9, none⟩ (.slice (some ⟨gc, 0, none⟩) dd.length cap)) (.slice (some ⟨gc, 0, none⟩) dd.length cap) dd := (hsl (fun k => (Value.slice Al L.length cl).ownBlock = some k ∨ k = gE) (fun h => h.elim hgcL hgcE)).keep good_byte (hk12.mono fun k _ e => .inr e)
        clear hsl hcv hbc KE10 bF10 eo10 hb10 KE11 bF11 eo11 hb11 c9 f9 hk12
        generalize W11.setCell ⟨gE, 9, none⟩ (.slice (some ⟨gc, 0, none⟩) dd.length cap) = W12 at KE12 bF12 eo12 hb12 hsl12 ⊢
        have hps := bs_size pa
        have c0 := KE12.cell 0
        have f0 := KE12.frozen 0
        simp at c0
        obtain ⟨B4, HB4⟩ : ∃ x, Hid ((decide (kk = 2) && decide (pa.getLast? = some 47)) = x) := ⟨_, Lib.hid rfl⟩
        go_cut [229] (fun s229 wx => s229 = .bool B4 ∧ W12 = wx)
        case first => as_aux_lemma =>
          clear HR1 HS7 HSB HST HSE hdl hdm hsl12 eo12
          by_cases hk2 : kk = 2
          rotate_left
          · have q2 : (kk == 2) = false := by simpa using hk2
            have HV : Hid (B4 = false) := Lib.hid (by rw [← HB4.out, decide_eq_false hk2]; rfl)
            clear hk2 HB4 hkr hkk0
            go_wp2_with fail
            go_meet
            exact ⟨by rw [HV.out], rfl⟩
          have q2 : (kk == 2) = true := by rw [hk2]; rfl
          by_cases hpe : pa.length = 0
          · have q3 : decide ((0 : Int) < (pa.length : Int)) = false := decide_eq_false (by omega)
            have q3b : ¬ (0 : Int) < (pa.length : Int) := by omega
            have q3c : ¬ 0 < pa.length := by omega
            have HV : Hid (B4 = false) := Lib.hid (by
              have e : pa = [] := List.length_eq_zero_iff.1 hpe
              rw [← HB4.out, e]
              simp)
            clear hk2 HB4 hkr hkk0 hpe
            go_wp2_with fail
            go_meet
            exact ⟨by rw [HV.out], rfl⟩
          have q3 : decide ((0 : Int) < (pa.length : Int)) = true := decide_eq_true (by omega)
          have q3b : (0 : Int) < (pa.length : Int) := by omega
          have q3c : 0 < pa.length := by omega
          obtain ⟨n7, HN7⟩ : ∃ m, Hid (pa.length = m + 1) := ⟨pa.length - 1, Lib.hid (by omega)⟩
          have v7 : IntKind.i64.wrap ((pa.length : Int) - 1) = (n7 : Int) := by rw [i64_in _ (by omega) (by omega), HN7.out]; omega
          have k7 : n7 < (bs pa).size := by rw [hps, HN7.out]; omega
          have k7b : n7 < pa.length := by rw [HN7.out]; omega
          obtain ⟨c, Hc⟩ : ∃ c, Hid (c = (bs pa)[n7]'k7) := ⟨_, Lib.hid rfl⟩
          have hbb : (bs pa)[n7]'k7 = c := Hc.out.symm
          have k8 : (0 : Int) ≤ (n7 : Int) := by omega
          have k9 : (n7 : Int) < (pa.length : Int) := by omega
          have HGL : Hid (pa.getLast? = some c) := Lib.hid (by
            rw [List.getLast?_eq_getElem?, show pa.length - 1 = n7 by rw [HN7.out]; rfl, List.getElem?_eq_getElem k7b, Hc.out]; rfl)
          clear Hc
          by_cases hc47 : c = 47
          · have q4 : ((c.toNat : Int) == 47) = true := by rw [hc47]; rfl
            have HV : Hid (B4 = true) := Lib.hid (by rw [← HB4.out, HGL.out, hc47, decide_eq_true hk2]; rfl)
            clear hk2 HB4 hkr hkk0 hpe hc47 HGL
            go_wp2_with fail
            go_meet
            exact ⟨by rw [HV.out], rfl⟩
          · have q4 : ((c.toNat : Int) == 47) = false := by rw [show (47 : Int) = (((47 : UInt8).toNat : Nat) : Int) from rfl, beq_byteT]; exact decide_eq_false hc47
            have HV : Hid (B4 = false) := Lib.hid (by rw [← HB4.out, HGL.out, decide_eq_false (show ¬ some c = some 47 by simpa using hc47)]; simp)
            clear hk2 HB4 hkr hkk0 hpe hc47 HGL
            go_wp2_with fail
            go_meet
            exact ⟨by rw [HV.out], rfl⟩
        case rest =>
        obtain ⟨rfl, rfl⟩ := hcut
        obtain ⟨pa2, HPA⟩ : ∃ x, Hid ((if kk = 2 then cutSl pa else pa) = x) := ⟨_, Lib.hid rfl⟩
        obtain ⟨li2, HLI⟩ : ∃ x, Hid ((if kk = 3 ∨ kk = 4 then li else []) = x) := ⟨_, Lib.hid rfl⟩
        rw [HPA.out, HLI.out] at HS7
        have HP2 : Hid (pa2 = if B4 = true then pa.dropLast else pa) := Lib.hid (by
          rw [← HPA.out, ← HB4.out]
          unfold cutSl
          by_cases h2 : kk = 2
          · rw [if_pos h2]
            by_cases h3 : pa.getLast? = some 47
            · simp [h2, h3]
            · simp [h3]
          · simp [h2])
        have HBL : Hid (B4 = true → 0 < pa.length) := Lib.hid (by
          rw [← HB4.out]
          intro h
          cases pa with
          | nil => simp at h
          | cons x l => simp)
        clear HB4 HPA
        go_upto_if 229 with fail
        go_cut [] (fun wx => Blk wx gE tE #[.string (bs pa2), .int .i64 kk, .int .i64 (d.mode : Int), .int .i64 (nu : Int), .int .i64 (ni : Int), .string (bs ow), .string (bs gw), .int .i64 (nt : Int), .string (bs li), .slice (some ⟨gc, 0, none⟩) dd.length cap] ∧ Kept (fun k => k = gE) W12 wx)
        case first => as_aux_lemma =>
          clear HR1 HS7 HSB HST HSE hdl hdm hsl12 eo12
          cases B4 with
          | true =>
            have hpl := HBL.out rfl
            obtain ⟨n7, HN7⟩ : ∃ m, Hid (pa.length = m + 1) := ⟨pa.length - 1, Lib.hid (by omega)⟩
            have v7 : IntKind.i64.wrap ((pa.length : Int) - 1) = (n7 : Int) := by rw [i64_in _ (by omega) (by omega), HN7.out]; omega
            have k8 : (0 : Int) ≤ (n7 : Int) := by omega
            have k9 : (n7 : Int) ≤ (pa.length : Int) := by rw [HN7.out]; omega
            have hex : (bs pa).extract 0 n7 = bs pa2 := by
              rw [ext_take _ _ (by rw [hps, HN7.out]; omega), bs_list, HP2.out, if_pos rfl, List.dropLast_eq_take, show pa.length - 1 = n7 by rw [HN7.out]; rfl]
            have HKE : Hid (Blk (W12.setCell ⟨gE, 0, none⟩ (.string (bs pa2))) gE tE #[.string (bs pa2), .int .i64 kk, .int .i64 (d.mode : Int), .int .i64 (nu : Int), .int .i64 (ni : Int), .string (bs ow), .string (bs gw), .int .i64 (nt : Int), .string (bs li), .slice (some ⟨gc, 0, none⟩) dd.length cap]) := Lib.hid (KE12.set (u := .string (bs pa2)) 0)
            clear HP2 HBL HN7
            go_wp2_with fail
            go_meet
            exact ⟨HKE.out, (Kept.refl (fun k => k = gE) W12).setCell (p := ⟨gE, 0, none⟩) _ fun _ => rfl⟩
          | false =>
            have HKE : Hid (Blk W12 gE tE #[.string (bs pa2), .int .i64 kk, .int .i64 (d.mode : Int), .int .i64 (nu : Int), .int .i64 (ni : Int), .string (bs ow), .string (bs gw), .int .i64 (nt : Int), .string (bs li), .slice (some ⟨gc, 0, none⟩) dd.length cap]) := Lib.hid (by
              have e : pa2 = pa := by rw [HP2.out]; rfl
              rw [e]; exact KE12)
            clear HP2 HBL
            go_wp2_with fail
            go_meet
            exact ⟨HKE.out, Kept.refl _ _⟩
        case rest =>
        obtain ⟨KE13, hk13⟩ := hcut
        have hpl2 : pa2.length ≤ 10000000 := by
          rw [HP2.out]
          split
          · rw [List.length_dropLast]; omega
          · exact hnl1
        clear HP2 HBL c0 f0 hps
        have c8 := KE13.cell 8
        have f8 := KE13.frozen 8
        simp at c8
        go_upto_if 239 with fail
        go_cut [] (fun wx => Blk wx gE tE #[.string (bs pa2), .int .i64 kk, .int .i64 (d.mode : Int), .int .i64 (nu : Int), .int .i64 (ni : Int), .string (bs ow), .string (bs gw), .int .i64 (nt : Int), .string (bs li2), .slice (some ⟨gc, 0, none⟩) dd.length cap] ∧ Kept (fun k => k = gE) W12 wx)
        case first => as_aux_lemma =>
          clear HR1 HS7 HSB HST HSE hdl hdm hsl12 eo12
          by_cases h3 : kk < 3
          · have q3 : decide (kk < 3) = true := decide_eq_true h3
            have HKE : Hid (Blk (wc.setCell ⟨gE, 8, none⟩ (.string ⟨#[]⟩)) gE tE #[.string (bs pa2), .int .i64 kk, .int .i64 (d.mode : Int), .int .i64 (nu : Int), .int .i64 (ni : Int), .string (bs ow), .string (bs gw), .int .i64 (nt : Int), .string (bs li2), .slice (some ⟨gc, 0, none⟩) dd.length cap]) := Lib.hid (by
              have e : li2 = [] := by rw [← HLI.out, if_neg (by omega)]
              rw [e]; exact KE13.set (u := .string ⟨#[]⟩) 8)
            have HKK := Lib.hid (hk13.setCell (p := ⟨gE, 8, none⟩) (.string ⟨#[]⟩) fun _ => rfl)
            clear HLI KE13 hk13
            go_wp2_with fail
            go_meet
            exact ⟨HKE.out, HKK.out⟩
          · have q3 : decide (kk < 3) = false := decide_eq_false h3
            have HKE : Hid (Blk wc gE tE #[.string (bs pa2), .int .i64 kk, .int .i64 (d.mode : Int), .int .i64 (nu : Int), .int .i64 (ni : Int), .string (bs ow), .string (bs gw), .int .i64 (nt : Int), .string (bs li2), .slice (some ⟨gc, 0, none⟩) dd.length cap]) := Lib.hid (by
              have e : li2 = li := by rw [← HLI.out, if_pos (by omega)]
              rw [e]; exact KE13)
            clear HLI KE13
            go_wp2_with fail
            go_meet
            exact ⟨HKE.out, hk13⟩
        case rest =>
        clear KE13 hk13 c8 f8
        obtain ⟨KE14, hk14⟩ := hcut
        have hll2 : li2.length ≤ 10000000 := by
          rw [← HLI.out]
          split
          · exact hll1
          · simp
        clear HLI
        have bF14 := hk14.blk bF12 hneF
        have eo14 := eo12.keptE KE12 hlvE hk14
        have hb14 := hb12.trans (hk14.below hb12.size fun k _ e => by rw [e]; exact hgEH)
        have hsl14 := (hsl12.keep good_byte (hk14.mono fun k _ e => .inr e)).mono (Y := fun k => (Value.slice Al L.length cl).ownBlock = some k) good_byte (by omega) fun k _ e => .inl e
        clear KE12 bF12 eo12 hb12 hsl12 hk14
        generalize wc = W14 at KE14 bF14 eo14 hb14 hsl14 ⊢
        as_aux_lemma =>
         have hbA : Below W14.heap.size W14 (W14.alloc (.cells #[.string (bs pa2), .int .i64 kk, .int .i64 (d.mode : Int), .int .i64 (nu : Int), .int .i64 (ni : Int), .string (bs ow), .string (bs gw), .int .i64 (nt : Int), .string (bs li2), .slice (some ⟨gc, 0, none⟩) dd.length cap] tE)) := (Below.refl _ W14).alloc (Nat.le_refl _) _
         have eoA := eo14.below hbA
         have bS := Blk.new W14 tE #[.string (bs pa2), .int .i64 kk, .int .i64 (d.mode : Int), .int .i64 (nu : Int), .int .i64 (ni : Int), .string (bs ow), .string (bs gw), .int .i64 (nt : Int), .string (bs li2), .slice (some ⟨gc, 0, none⟩) dd.length cap]
         have bFA := bF14.below hbA bF14.lt
         have hslA := Below.sl good_byte hbA hsl14
         have hbbA := hb14.trans (hbA.mono hb14.size)
         clear hbA eo14 bF14 hsl14 hb14
         have hbsz := hbbA.size
         go_upto_region 44 with first
           | (refine wpList_load10 KE14 rfl ?_)
           | (refine wpList_build1 rfl ?_)
           | (at_builtin; go_must (refine wpList_append1 (e := (⟨pa2, kk, (d.mode : Int), (nu : Int), (ni : Int), ow, gw, (nt : Int), li2, dd⟩ : En)) (dv := .slice (some ⟨gc, 0, none⟩) dd.length cap) rfl _ _ rfl rfl eoA rfl bS hslA hlen hbsz ?_); intro v' W15 hE15 hk15 hob15; have bF15 := hk15.blk bFA (own_notblk eoA.row bFA (by decide)); have hb15 := hbbA.trans (hk15.below hbsz fun k _ h => (eoA.row.lt k h).1); clear eoA bS bFA hslA hbbA KE14 hk15 hob15 hbsz)
         as_aux_lemma =>
          have hEBn : ∀ x ∈ L ++ [(⟨pa2, kk, (d.mode : Int), (nu : Int), (ni : Int), ow, gw, (nt : Int), li2, dd⟩ : En)], EB x := fun x hx => by
            rw [List.mem_append, List.mem_singleton] at hx
            rcases hx with hx | rfl
            · exact hEB x hx
            · exact ⟨Nat.le_trans hpl2 (by decide), Nat.le_trans hol1 (by decide), Nat.le_trans hgl1 (by decide), Nat.le_trans hll2 (by decide)⟩
          have hLn : (L ++ [(⟨pa2, kk, (d.mode : Int), (nu : Int), (ni : Int), ow, gw, (nt : Int), li2, dd⟩ : En)]).length = L.length + 1 := by simp
          have hck := rchkall_any (L ++ [(⟨pa2, kk, (d.mode : Int), (nu : Int), (ni : Int), ow, gw, (nt : Int), li2, dd⟩ : En)]) v' nowhere W15 hE15.sl ⟨by rw [hLn]; exact hlen, hEBn⟩
          obtain ⟨hn1, hn2, _, _⟩ := HSE.out _ _ HS7.out
          obtain ⟨ha1, ha2⟩ := arith_end hn1 hn2 hpG hLp
          rw [← hLn] at ha2
          have HR3 : Hid (R = if (chkL (L ++ [(⟨pa2, kk, (d.mode : Int), (nu : Int), (ni : Int), ow, gw, (nt : Int), li2, dd⟩ : En)])).2 ≠ 0 then ([], (p : Int), (chkL (L ++ [(⟨pa2, kk, (d.mode : Int), (nu : Int), (ni : Int), ow, gw, (nt : Int), li2, dd⟩ : En)])).2) else runU b n (fun _ => none) fr (L ++ [(⟨pa2, kk, (d.mode : Int), (nu : Int), (ni : Int), ow, gw, (nt : Int), li2, dd⟩ : En)]) (p + 512 + upB sz)) := Lib.hid (by rw [HR1.out, HS7.out]; rfl)
          clear HR1 HS7 HSB HST HSE
          generalize hLE : L ++ [(⟨pa2, kk, (d.mode : Int), (nu : Int), (ni : Int), ow, gw, (nt : Int), li2, dd⟩ : En)] = LN at hE15 hEBn hck HR3 hLn ha2
          clear hLE
          obtain ⟨cx, HCX⟩ : ∃ c, Hid ((chkL LN).2 = c) := ⟨_, Lib.hid rfl⟩
          rw [HCX.out] at hck HR3
          generalize (chkL LN).1 = ci at hck
          generalize appF f L.length (fun _ => .slice (some ⟨gc, 0, none⟩) dd.length cap) = fN at hE15
          go_upto_region 45 with (go_at_call 14; refine hck.mono ?_; rintro r W16 ⟨rfl, hb16⟩; clear hck)
          have eo16 := hE15.below hb16
          have bF16 := bF15.below hb16 bF15.lt
          have hbb16 := hb15.trans (hb16.mono hb15.size)
          clear hE15 bF15 hb15 hb16
          as_aux_lemma =>
           by_cases hcx : cx = 0
           rotate_left
           · have q5 : (cx != 0) = true := by simpa using hcx
             have HV : Hid (R = ([], (p : Int), cx)) := Lib.hid (HR3.out.trans (if_pos hcx))
             clear HR3 hcx eo16
             have y0 := bF16.cell 0
             have y1 := bF16.cell 1
             have y2 := bF16.cell 2
             simp at y0 y1 y2
             have g0 := bF16.frozen 0
             have g1 := bF16.frozen 1
             have g2 := bF16.frozen 2
             have K : Blk (((W16.setCell ⟨gF, 0, none⟩ (.string ⟨#[]⟩)).setCell ⟨gF, 1, none⟩ (.int .i64 (p : Int))).setCell ⟨gF, 2, none⟩ (.int .i64 cx)) gF 31 #[.string ⟨#[]⟩, .int .i64 (p : Int), .int .i64 cx] := blk_set3 bF16 _ _ _
             have hq := (bel3 hbb16 hgF (.string ⟨#[]⟩) (.int .i64 (p : Int)) (.int .i64 cx))
             go_wp2_with fail
             exact rd_ret rfl rfl rfl K hq HV (EO.nil _ _ (fun _ => undef))
           have q5 : (cx != 0) = false := by simpa using hcx
           have HRN : Hid (runU b n (fun _ => none) 0 LN (p + 512 + upB sz) = R) := Lib.hid (by rw [runU_fr b n 0 fr]; exact (HR3.out.trans (if_neg (fun h => h hcx))).symm)
           clear HR3 hcx HCX
           have hT0 : (toldV (fun _ => none) 0) = #[.bool false, .bool false, .bool false, .string ⟨#[]⟩, .string ⟨#[]⟩, .string ⟨#[]⟩, .string ⟨#[]⟩, .string ⟨#[]⟩, .string ⟨#[]⟩, .bool false, .bool false, .bool false, .bool false, .int .i64 0, .int .i64 0, .int .i64 0, .int .i64 0, .bool false, .bool false, .bool false, .bool false, .int .i64 0] := rfl
           have bTn : Blk (W16.alloc (.cells #[.bool false, .bool false, .bool false, .string ⟨#[]⟩, .string ⟨#[]⟩, .string ⟨#[]⟩, .string ⟨#[]⟩, .string ⟨#[]⟩, .string ⟨#[]⟩, .bool false, .bool false, .bool false, .bool false, .int .i64 0, .int .i64 0, .int .i64 0, .int .i64 0, .bool false, .bool false, .bool false, .bool false, .int .i64 0] 62)) W16.heap.size 62 (toldV (fun _ => none) 0) := by rw [hT0]; exact Blk.new W16 62 _
           have hbT : Below W16.heap.size W16 (W16.alloc (.cells #[.bool false, .bool false, .bool false, .string ⟨#[]⟩, .string ⟨#[]⟩, .string ⟨#[]⟩, .string ⟨#[]⟩, .string ⟨#[]⟩, .string ⟨#[]⟩, .bool false, .bool false, .bool false, .bool false, .int .i64 0, .int .i64 0, .int .i64 0, .int .i64 0, .bool false, .bool false, .bool false, .bool false, .int .i64 0] 62)) := (Below.refl _ W16).alloc (Nat.le_refl _) _
           have bF17 := bF16.below hbT bF16.lt
           have eo17 := eo16.below hbT
           have hb17 := hbb16.trans (hbT.mono hbb16.size)
           have hgtn : w.heap.size ≤ W16.heap.size := hbb16.size
           clear hT0 hbT bF16 eo16 hbb16
           as_aux_lemma =>
            go_upto_region 48 with fail
            generalize W16.alloc (.cells #[.bool false, .bool false, .bool false, .string ⟨#[]⟩, .string ⟨#[]⟩, .string ⟨#[]⟩, .string ⟨#[]⟩, .string ⟨#[]⟩, .string ⟨#[]⟩, .bool false, .bool false, .bool false, .bool false, .int .i64 0, .int .i64 0, .int .i64 0, .int .i64 0, .bool false, .bool false, .bool false, .bool false, .int .i64 0] 62) = W17 at bTn bF17 eo17 hb17 ⊢
            generalize W16.heap.size = gtn at bTn hgtn ⊢
            go_wp2_with fail
            go_roundg n
            case measure => exact Nat.lt_succ_self n
            case rel => exact ⟨n, p + 512 + upB sz, LN, fN, (fun _ => none), gtn, 0, rfl, rfl, by rw [HP4.out], eo17, bTn, bF17, hb17, hgtn, hn2, ha1, ha2, hEBn, TL.none, HRN⟩
end Go.Proofs.YtpheifdpjcppdaaGreatDoor
