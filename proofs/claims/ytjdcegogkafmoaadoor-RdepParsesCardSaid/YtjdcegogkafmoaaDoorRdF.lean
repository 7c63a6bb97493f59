/- rdep's reader: what it makes of tokens, in plain words; what its functions have in memory. -/
import Derived.Test.YtjdcegogkafmoaaDoorRdE
namespace Go.Proofs.YtjdcegogkafmoaaDoor
open Go.RowKit
abbrev Tk := List UInt8 × Nat
inductive PR where
  | err (a : Nat) (c : Int)
  | ok (d : Rdp) (ts : List Tk) (n : Nat)
def hdT (ts : List Tk) : Tk := ts.headD ([], 0)
/-- Is a part none but a bracket or the end? -/
def brk (s : List UInt8) : Bool := decide (s = []) || (decide (s = [40]) || decide (s = [41]))
/-- A relation and a version behind a name. -/
def atom2 (p : Tk) (op : Nat) (ts2 : List Tk) (n : Nat) : PR :=
  if brk (hdT ts2).1 = true then .err (hdT ts2).2 3
  else if vErr 2 (hdT ts2).1 ≠ 0 then .err (hdT ts2).2 (vErr 2 (hdT ts2).1)
  else .ok (.mk [] p.1 (op : Nat) (hdT ts2).1 []) ts2.tail (n + 1)
def atom1 (p : Tk) (ts1 : List Tk) (n : Nat) : PR :=
  if relR (hdT ts1).1 = 0 then .ok (.mk [] p.1 0 [] []) ts1 (n + 1) else atom2 p (relR (hdT ts1).1) ts1.tail n
/-- An atom. -/
def atomP (ts : List Tk) (n : Nat) : PR :=
  if n = 64 then .err (hdT ts).2 4
  else if nmR (hdT ts).1 = false then .err (hdT ts).2 10
  else atom1 (hdT ts) ts.tail n
mutual
/-- A dependency with so many brackets around it. -/
def depP : Nat → List Tk → Nat → Nat → PR
  | 0, _, _, _ => .err 0 0
  | k + 1, ts, n, ar => if (hdT ts).1 = [] ∨ (hdT ts).1 = [41] then .err (hdT ts).2 3
      else if (hdT ts).1 = [40] then (if ar = 32 then .err (hdT ts).2 4 else groupP k [] [] ts.tail n (ar + 1)) else atomP ts n
/-- Dependencies with a word between, behind some of them. -/
def groupP : Nat → List UInt8 → List Rdp → List Tk → Nat → Nat → PR
  | 0, _, _, _, _, _ => .err 0 0
  | k + 1, op, kids, ts, n, ar => match depP k ts n ar with
    | .err a c => .err a c
    | .ok kid ts1 n1 => if (hdT ts1).1 = [41] ∧ clR op (kids.length + 1) = true then .ok (.mk op [] 0 [] (kids ++ [kid])) ts1.tail n1
      else if foR op (kids.length + 1) (hdT ts1).1 = false then .err (hdT ts1).2 3
      else groupP k (if op = [] then (hdT ts1).1 else op) (kids ++ [kid]) ts1.tail n1 ar
end
/-- The cells of a dependency. -/
def richC (d : Rdp) (kv : Value) : List Value := [.string (bs d.op), .string (bs d.name), .int .i64 d.aop, .string (bs d.ver), kv]
def richV (d : Rdp) (kv : Value) : Value := .agg (richC d kv).toArray
/-- What holds a slice's things holds no text's bytes. -/
def ShP (w : World) (v : Value) : Prop := ∀ b off n c, v = .slice (some ⟨b, off, none⟩) n c → 0 < n → ∃ ca t, w.heap[b]? = some (.cells ca t (0, 0))
def Sk {α : Type} (sz : Nat) (R : Rel α) (X : Nat → Prop) (w : World) (v : Value) (l : List α) : Prop := Sl sz R X w v l ∧ ShP w v
theorem Sk.nil {α : Type} (sz : Nat) (R : Rel α) (X : Nat → Prop) (w : World) : Sk sz R X w (.slice none 0 0) [] := ⟨Sl.nil sz R X w, fun _ _ _ _ e => by simp at e⟩
theorem Sk.form {α : Type} {sz : Nat} {R : Rel α} {X : Nat → Prop} {w : World} {v : Value} {l : List α} (h : Sk sz R X w v l) : ∃ A cap, v = .slice A l.length cap ∧ l.length ≤ cap ∧ cap ≤ maxLen := h.1.form
theorem Sk.keep {α : Type} {sz : Nat} {R : Rel α} {X : Nat → Prop} {w w' : World} {v : Value} {l : List α} (G : Good sz R) (h : Sk sz R X w v l) (k : Kept X w w') : Sk sz R X w' v l := by
  refine ⟨h.1.keep G k, fun b off n c e hn => ?_⟩
  obtain ⟨ca, t, hb⟩ := h.2 b off n c e hn
  subst e
  obtain ⟨_, _, _, h4⟩ := h.1.at
  obtain ⟨b', off', hA, hX, _⟩ := h4 hn
  injection hA with hA
  injection hA with e1 e2
  subst e1 e2
  exact ⟨ca, t, (k.block b (Array.getElem?_eq_some_iff.1 hb).1 hX).trans hb⟩
theorem Sk.mono {α : Type} {sz : Nat} {R : Rel α} {X Y : Nat → Prop} {w : World} {v : Value} {l : List α} (G : Good sz R) (hsz : 0 < sz) (h : Sk sz R X w v l) (hXY : ∀ k, k < w.heap.size → Y k → X k) : Sk sz R Y w v l := ⟨h.1.mono G hsz hXY, h.2⟩
theorem OwnL.sk {α : Type} {sz : Nat} {R : Rel α} {X : Nat → Prop} {w : World} {v : Value} {l : List α} {e : TypeId} {base : Nat} (G : Good sz R) (h : OwnL sz R e base X w v l) : Sk sz R X w v l := by
  refine ⟨h.sl G, fun b off n c hv hn => ?_⟩
  obtain ⟨css, ho, _⟩ := h
  rcases ho.2 with ⟨h0, _⟩ | ⟨g, cap, cur, h0, _, hg, _⟩
  · rw [h0] at hv; simp at hv
  · rw [h0] at hv
    injection hv with e1
    injection e1 with e1
    injection e1 with e1
    subst e1
    exact ⟨_, _, hg⟩
theorem Below.sk {α : Type} {sz : Nat} {R : Rel α} {X : Nat → Prop} {w w' : World} {v : Value} {l : List α} (G : Good sz R) (hb : Below w.heap.size w w') (h : Sk sz R X w v l) : Sk sz R X w' v l := h.keep G (Kept.of_below hb X)
/-- A dependency of at most so many brackets. -/
def Rr : Nat → Rel Rdp
  | 0 => fun _ _ _ _ => False
  | m + 1 => fun X w cs d => ∃ kv, cs = richC d kv ∧ Sk 5 (Rr m) X w kv d.kids
theorem good_rich : ∀ m, Good 5 (Rr m)
  | 0 => ⟨fun h _ => h, fun h _ => h, fun h => h.elim, fun h => h.elim⟩
  | m + 1 => ⟨fun ⟨v, h1, h2⟩ k => ⟨v, h1, h2.keep (good_rich m) k⟩, fun ⟨v, h1, h2⟩ k => ⟨v, h1, h2.mono (good_rich m) (by omega) k⟩, (fun ⟨v, h1, h2⟩ => by subst h1; rfl), (fun ⟨v, h1, h2⟩ u hu => by
    subst h1
    obtain ⟨⟨A, cap, rfl, _⟩, _⟩ := h2
    simp [richC] at hu
    rcases hu with rfl | rfl | rfl | rfl | rfl <;> rfl)⟩
def z5 : Array Value := #[.string ⟨#[]⟩, .string ⟨#[]⟩, .int .i64 0, .string ⟨#[]⟩, .slice none 0 0]
def z3 : Array Value := #[.string ⟨#[]⟩, .int .i64 0, .int .i64 0]
theorem Kept.cutR {a b c : World} {X Y : Nat → Prop} (h : Kept X a b) (k : Kept Y b c) (hY : ∀ i, Y i → X i ∨ a.heap.size ≤ i) : Kept X a c :=
  ⟨k.os.trans h.os, k.tape.trans h.tape, k.output.trans h.output, Nat.le_trans h.size k.size, fun i hi hx => (k.block i (Nat.lt_of_lt_of_le hi h.size) (fun hy => (hY i hy).elim hx fun h1 => by omega)).trans (h.block i hi hx)⟩
/-- The results' two cells, when a function begins. -/
theorem init2 (w : World) : ∃ W gA gF, W = (w.alloc (.cells #[.string ⟨#[]⟩, .string ⟨#[]⟩, .int .i64 0, .string ⟨#[]⟩, .slice none 0 0] 27)).alloc (.cells #[.string ⟨#[]⟩, .int .i64 0, .int .i64 0] 30) ∧ gA = w.heap.size ∧ gF = w.heap.size + 1 ∧ Blk W gA 27 #[.string ⟨#[]⟩, .string ⟨#[]⟩, .int .i64 0, .string ⟨#[]⟩, .slice none 0 0] ∧ Blk W gF 30 #[.string ⟨#[]⟩, .int .i64 0, .int .i64 0] ∧ Below w.heap.size w W ∧ w.heap.size ≤ gA ∧ w.heap.size ≤ gF := by
  have b0 := Blk.new w 27 #[.string ⟨#[]⟩, .string ⟨#[]⟩, .int .i64 0, .string ⟨#[]⟩, .slice none 0 0]
  have q0 : Below w.heap.size w (w.alloc (.cells #[.string ⟨#[]⟩, .string ⟨#[]⟩, .int .i64 0, .string ⟨#[]⟩, .slice none 0 0] 27)) := (Below.refl _ w).alloc (Nat.le_refl _) _
  have s1 : (w.alloc (.cells #[.string ⟨#[]⟩, .string ⟨#[]⟩, .int .i64 0, .string ⟨#[]⟩, .slice none 0 0] 27)).heap.size = w.heap.size + 1 := by simp
  refine ⟨_, _, _, rfl, rfl, rfl, ?_⟩
  generalize w.alloc (.cells #[.string ⟨#[]⟩, .string ⟨#[]⟩, .int .i64 0, .string ⟨#[]⟩, .slice none 0 0] 27) = W1 at b0 q0 s1 ⊢
  have b1 := Blk.new W1 30 #[.string ⟨#[]⟩, .int .i64 0, .int .i64 0]
  have q1 : Below W1.heap.size W1 (W1.alloc (.cells #[.string ⟨#[]⟩, .int .i64 0, .int .i64 0] 30)) := (Below.refl _ _).alloc (Nat.le_refl _) _
  have b2 := b0.below q1 b0.lt
  rw [s1] at b1
  exact ⟨b2, b1, q0.trans (q1.mono q0.size), Nat.le_refl _, by omega⟩
theorem blkNe {w : World} {t t' : TypeId} {g g' : Nat} {cs cs' : Array Value} (h : Blk w g t cs) (h' : Blk w g' t' cs') (hne : t ≠ t') : g ≠ g' := fun e => by
  subst e
  have h1 : w.heap[g]? = some (.cells cs t) := h
  rw [show w.heap[g]? = some (.cells cs' t') from h'] at h1
  injection h1 with h1
  injection h1 with _ h1
  exact hne h1.symm
theorem blk_of5 {w : World} {g : Nat} {t : TypeId} {a b c d e : Value} (h : Blk w g t #[a, b, c, d, e]) (a' b' c' d' e' : Value) :
    Blk (((((w.setCell ⟨g, 0, none⟩ a').setCell ⟨g, 1, none⟩ b').setCell ⟨g, 2, none⟩ c').setCell ⟨g, 3, none⟩ d').setCell ⟨g, 4, none⟩ e') g t #[a', b', c', d', e'] := by
  have := ((((h.set (u := a') 0).set (u := b') 1).set (u := c') 2).set (u := d') 3).set (u := e') 4
  simpa using this
/-- The results' two cells, written. -/
theorem ret_mem {W : World} {gA gF : Nat} {x0 x1 x2 x3 x4 y0 y1 y2 : Value} (bA : Blk W gA 27 #[x0, x1, x2, x3, x4]) (bF : Blk W gF 30 #[y0, y1, y2]) (a0 a1 a2 a3 a4 f0 f1 f2 : Value) :
    ∃ W9, W9 = (((((((W.setCell ⟨gA, 0, none⟩ a0).setCell ⟨gA, 1, none⟩ a1).setCell ⟨gA, 2, none⟩ a2).setCell ⟨gA, 3, none⟩ a3).setCell ⟨gA, 4, none⟩ a4).setCell ⟨gF, 0, none⟩ f0).setCell ⟨gF, 1, none⟩ f1).setCell ⟨gF, 2, none⟩ f2 ∧
      Blk W9 gA 27 #[a0, a1, a2, a3, a4] ∧ Blk W9 gF 30 #[f0, f1, f2] ∧ Kept (fun k => k = gA ∨ k = gF) W W9 := by
  have hne : gA ≠ gF := blkNe bA bF (by decide)
  refine ⟨_, rfl, ?_⟩
  have b1 := blk_of5 bA a0 a1 a2 a3 a4
  have kA : Kept (fun k => k = gA ∨ k = gF) W (((((W.setCell ⟨gA, 0, none⟩ a0).setCell ⟨gA, 1, none⟩ a1).setCell ⟨gA, 2, none⟩ a2).setCell ⟨gA, 3, none⟩ a3).setCell ⟨gA, 4, none⟩ a4) :=
    ((((((Kept.refl (fun k => k = gA ∨ k = gF) W).setCell (p := ⟨gA, 0, none⟩) a0 fun _ => .inl rfl).setCell (p := ⟨gA, 1, none⟩) a1 fun _ => .inl rfl).setCell (p := ⟨gA, 2, none⟩) a2 fun _ => .inl rfl).setCell (p := ⟨gA, 3, none⟩) a3 fun _ => .inl rfl).setCell (p := ⟨gA, 4, none⟩) a4 fun _ => .inl rfl)
  have kA2 : Kept (fun k => k = gA) W (((((W.setCell ⟨gA, 0, none⟩ a0).setCell ⟨gA, 1, none⟩ a1).setCell ⟨gA, 2, none⟩ a2).setCell ⟨gA, 3, none⟩ a3).setCell ⟨gA, 4, none⟩ a4) :=
    ((((((Kept.refl (fun k => k = gA) W).setCell (p := ⟨gA, 0, none⟩) a0 fun _ => rfl).setCell (p := ⟨gA, 1, none⟩) a1 fun _ => rfl).setCell (p := ⟨gA, 2, none⟩) a2 fun _ => rfl).setCell (p := ⟨gA, 3, none⟩) a3 fun _ => rfl).setCell (p := ⟨gA, 4, none⟩) a4 fun _ => rfl)
  have bF2 := kA2.blk bF (fun e => hne e.symm)
  generalize (((((W.setCell ⟨gA, 0, none⟩ a0).setCell ⟨gA, 1, none⟩ a1).setCell ⟨gA, 2, none⟩ a2).setCell ⟨gA, 3, none⟩ a3).setCell ⟨gA, 4, none⟩ a4) = W1 at b1 kA bF2 ⊢
  have b3 := blk_of3 bF2 f0 f1 f2
  have kF : Kept (fun k => k = gF) W1 (((W1.setCell ⟨gF, 0, none⟩ f0).setCell ⟨gF, 1, none⟩ f1).setCell ⟨gF, 2, none⟩ f2) :=
    (((Kept.refl (fun k => k = gF) W1).setCell (p := ⟨gF, 0, none⟩) f0 fun _ => rfl).setCell (p := ⟨gF, 1, none⟩) f1 fun _ => rfl).setCell (p := ⟨gF, 2, none⟩) f2 fun _ => rfl
  exact ⟨kF.blk b1 hne, b3, kA.trans (kF.mono fun k _ e => .inr e)⟩
/-- The tables. -/
def TT (w : World) : Prop := WordsT w ∧ SignsT w ∧ Words w
theorem TT.keep {X : Nat → Prop} {w w' : World} (h : TT w) (k : Kept X w w') (hX : ∀ i, i < 4 → ¬ X i) : TT w' :=
  ⟨fun i hi => k.cell (h.1 i hi) (hX 1 (by decide)), fun i hi => k.cell (h.2.1 i hi) (hX 0 (by decide)), fun i hi => k.cell (h.2.2 i hi) (hX 3 (by decide))⟩
/-- What atom has in memory. -/
structure AT (B : Nat) (w : World) (gr gA gF gp : Nat) (p : Tk) (ts : List Tk) (n : Nat) (W : World) : Prop where
  kept : Kept (fun k => k = gr) w W
  rs : RS B W gr ts n
  bA : Blk W gA 27 #[.string ⟨#[]⟩, .string ⟨#[]⟩, .int .i64 0, .string ⟨#[]⟩, .slice none 0 0]
  bF : Blk W gF 30 #[.string ⟨#[]⟩, .int .i64 0, .int .i64 0]
  bp : Blk W gp 48 #[.string (bs p.1), .int .i64 (p.2 : Int)]
  hA : w.heap.size ≤ gA
  hF : w.heap.size ≤ gF
  hp : w.heap.size ≤ gp
  hB : B ≤ w.heap.size
theorem AT.below {w W W' : World} {B gr gA gF gp : Nat} {p : Tk} {ts : List Tk} {n : Nat} (h : AT B w gr gA gF gp p ts n W) (hb : Below W.heap.size W W') : AT B w gr gA gF gp p ts n W' :=
  ⟨h.kept.trans (Kept.of_below hb _), h.rs.below hb, h.bA.below hb h.bA.lt, h.bF.below hb h.bF.lt, h.bp.below hb h.bp.lt, h.hA, h.hF, h.hp, h.hB⟩
theorem AT.next {w W W' : World} {B gr gA gF gp : Nat} {p : Tk} {ts ts' : List Tk} {n n' : Nat} (h : AT B w gr gA gF gp p ts n W) (hr : RS B W' gr ts' n') (k : Kept (fun k => k = gr) W W') (hgr : gr < w.heap.size) : AT B w gr gA gF gp p ts' n' W' :=
  ⟨h.kept.trans k, hr, k.blk h.bA (fun e => by have := h.hA; omega), k.blk h.bF (fun e => by have := h.hF; omega), k.blk h.bp (fun e => by have := h.hp; omega), h.hA, h.hF, h.hp, h.hB⟩
/-- What a function of the reader answers: m: how many brackets there may be in it. -/
def DepR (B : Nat) (w : World) (gr m : Nat) (len : Nat) (res : PR) (r : Ending) (w' : World) : Prop :=
  Kept (fun k => k = gr) w w' ∧ match res with
  | .err a c => c ≠ 0 ∧ r = .returned (.tuple #[.agg #[.string ⟨#[]⟩, .string ⟨#[]⟩, .int .i64 0, .string ⟨#[]⟩, .slice none 0 0], .agg #[.string ⟨#[]⟩, .int .i64 (a : Int), .int .i64 c]])
  | .ok d ts n => (∃ kv, r = .returned (.tuple #[richV d kv, .agg #[.string ⟨#[]⟩, .int .i64 0, .int .i64 0]]) ∧ Sk 5 (Rr m) (fun k => k < w.heap.size) w' kv d.kids) ∧ WfT ts ∧ ts.length < len ∧ RS B w' gr ts n ∧ n ≤ 64
end Go.Proofs.YtjdcegogkafmoaaDoor
