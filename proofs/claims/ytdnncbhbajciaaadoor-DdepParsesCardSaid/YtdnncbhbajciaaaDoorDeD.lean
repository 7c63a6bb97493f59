/- The document's reader of ddep: term. -/
import Derived.Test.YtdnncbhbajciaaaDoorDeC
namespace Go.Proofs.YtdnncbhbajciaaaDoor
open Go.RowKit
/-- The blocks ahead of B, and the state's. -/
def Off (B g : Nat) (w : World) (k : Nat) : Prop := k < B ∨ Dw g w k
/-- The state, and a term that is being made in the two blocks behind w0. -/
structure TS (w0 : World) (g : Nat) (s : List UInt8) (vl : Value) (wx : World) (r : List UInt8) (bad : Bool) (its : List It) (nm : List UInt8) (op : Int) (ver qual : List UInt8) (va : Value) : Prop where
  st : St wx g s r bad vl its
  tb : TB wx (w0.heap.size + 1) nm op ver qual va
  rb : TB wx w0.heap.size [] 0 [] [] (.slice none 0 0)
  off : ¬ Dw g wx w0.heap.size ∧ ¬ Dw g wx (w0.heap.size + 1)
  mv : Mv g w0 wx
section
variable {w0 wx w' : World} {g : Nat} {s r r' : List UInt8} {vl : Value} {bad bad' : Bool} {its its' : List It} {nm ver qual : List UInt8} {op : Int} {va : Value}
theorem TS.step (h : TS w0 g s vl wx r bad its nm op ver qual va) (hS : St w' g s r' bad' vl its') (hM : Mv g wx w') : TS w0 g s vl w' r' bad' its' nm op ver qual va :=
  ⟨hS, hM.kept.blk h.tb h.off.2, hM.kept.blk h.rb h.off.1, ⟨fun hd => h.off.1 (hM.new _ (Blk.lt h.rb) hd), fun hd => h.off.2 (hM.new _ (Blk.lt h.tb) hd)⟩, h.mv.trans hM⟩
/-- Something is turned, new, that is none of the state's. -/
theorem Mv.also {B : Nat} (h : Mv g w0 wx) (hk : Kept (fun k => k = B) wx w') (hB : w0.heap.size ≤ B) (hd : ∀ i, Dw g w' i ↔ Dw g wx i) : Mv g w0 w' :=
  ⟨⟨hk.os.trans h.kept.os, hk.tape.trans h.kept.tape, hk.output.trans h.kept.output, Nat.le_trans h.kept.size hk.size, fun i hi hx => (hk.block i (Nat.lt_of_lt_of_le hi h.kept.size) (fun e => by omega)).trans (h.kept.block i hi hx)⟩,
    fun i hi h' => h.new i hi ((hd i).1 h')⟩
theorem TS.turn (h : TS w0 g s vl wx r bad its nm op ver qual va) (hk : Kept (fun k => k = w0.heap.size + 1) wx w') {nm' ver' qual' : List UInt8} {op' : Int} {va' : Value} (hB : TB w' (w0.heap.size + 1) nm' op' ver' qual' va') : TS w0 g s vl w' r bad its nm' op' ver' qual' va' := by
  obtain ⟨hS, hd⟩ := h.st.keep hk (fun i hi hz => h.off.2 (hz ▸ hi))
  exact ⟨hS, hB, hk.blk h.rb (by omega), ⟨fun x => h.off.1 ((hd _).1 x), fun x => h.off.2 ((hd _).1 x)⟩, h.mv.also hk (by omega) hd⟩
theorem TS.set0 (h : TS w0 g s vl wx r bad its nm op ver qual va) (x : List UInt8) : TS w0 g s vl (wx.setCell ⟨w0.heap.size + 1, 0, none⟩ (.string (bs x))) r bad its x op ver qual va :=
  h.turn (Only.set (Kept.refl _ _) 0 _) (by have := Blk.set (u := .string (bs x)) h.tb 0; simpa using this)
theorem TS.set1 (h : TS w0 g s vl wx r bad its nm op ver qual va) (x : Int) : TS w0 g s vl (wx.setCell ⟨w0.heap.size + 1, 1, none⟩ (.int .i64 x)) r bad its nm x ver qual va :=
  h.turn (Only.set (Kept.refl _ _) 1 _) (by have := Blk.set (u := .int .i64 x) h.tb 1; simpa using this)
theorem TS.set2 (h : TS w0 g s vl wx r bad its nm op ver qual va) (x : List UInt8) : TS w0 g s vl (wx.setCell ⟨w0.heap.size + 1, 2, none⟩ (.string (bs x))) r bad its nm op x qual va :=
  h.turn (Only.set (Kept.refl _ _) 2 _) (by have := Blk.set (u := .string (bs x)) h.tb 2; simpa using this)
theorem TS.set3 (h : TS w0 g s vl wx r bad its nm op ver qual va) (x : List UInt8) : TS w0 g s vl (wx.setCell ⟨w0.heap.size + 1, 3, none⟩ (.string (bs x))) r bad its nm op ver x va :=
  h.turn (Only.set (Kept.refl _ _) 3 _) (by have := Blk.set (u := .string (bs x)) h.tb 3; simpa using this)
theorem TS.set4 (h : TS w0 g s vl wx r bad its nm op ver qual va) (x : Value) : TS w0 g s vl (wx.setCell ⟨w0.heap.size + 1, 4, none⟩ x) r bad its nm op ver qual x :=
  h.turn (Only.set (Kept.refl _ _) 4 _) (by have := Blk.set (u := x) h.tb 4; simpa using this)
theorem St.badc (h : St wx g s r bad vl its) : wx.cell? ⟨g, 2, none⟩ = some (.bool bad) ∧ wx.frozen? ⟨g, 2, none⟩ = false := by
  obtain ⟨_, _, _, hB⟩ := h.free1
  exact ⟨by simpa using hB.cell 2, hB.free 2⟩
theorem TS.frees (h : TS w0 g s vl wx r bad its nm op ver qual va) : wx.frozen? ⟨w0.heap.size + 1, 0, none⟩ = false ∧ wx.frozen? ⟨w0.heap.size + 1, 1, none⟩ = false ∧ wx.frozen? ⟨w0.heap.size + 1, 2, none⟩ = false ∧ wx.frozen? ⟨w0.heap.size + 1, 3, none⟩ = false ∧ wx.frozen? ⟨w0.heap.size + 1, 4, none⟩ = false :=
  ⟨Blk.free h.tb 0, Blk.free h.tb 1, Blk.free h.tb 2, Blk.free h.tb 3, Blk.free h.tb 4⟩
theorem TS.rfrees (h : TS w0 g s vl wx r bad its nm op ver qual va) : wx.frozen? ⟨w0.heap.size, 0, none⟩ = false ∧ wx.frozen? ⟨w0.heap.size, 1, none⟩ = false ∧ wx.frozen? ⟨w0.heap.size, 2, none⟩ = false ∧ wx.frozen? ⟨w0.heap.size, 3, none⟩ = false ∧ wx.frozen? ⟨w0.heap.size, 4, none⟩ = false :=
  ⟨Blk.free h.rb 0, Blk.free h.rb 1, Blk.free h.rb 2, Blk.free h.rb 3, Blk.free h.rb 4⟩
theorem set5' {w : World} {g : Nat} {t : TypeId} {a b c d e : Value} (h : Blk w g t #[a, b, c, d, e]) (a' b' c' d' e' : Value) :
    Blk (((((w.setCell ⟨g, 0, none⟩ a').setCell ⟨g, 1, none⟩ b').setCell ⟨g, 2, none⟩ c').setCell ⟨g, 3, none⟩ d').setCell ⟨g, 4, none⟩ e') g t #[a', b', c', d', e'] := by
  have := ((((h.set (u := a') 0).set (u := b') 1).set (u := c') 2).set (u := d') 3).set (u := e') 4
  simpa using this
/-- The term, laid where it is handed back. -/
theorem TS.ret (h : TS w0 g s vl wx r bad its nm op ver qual va) (W5 : World)
    (hW : W5 = ((((wx.setCell ⟨w0.heap.size, 0, none⟩ (.string (bs nm))).setCell ⟨w0.heap.size, 1, none⟩ (.int .i64 op)).setCell ⟨w0.heap.size, 2, none⟩ (.string (bs ver))).setCell ⟨w0.heap.size, 3, none⟩ (.string (bs qual))).setCell ⟨w0.heap.size, 4, none⟩ va) :
    TB W5 w0.heap.size nm op ver qual va ∧ St W5 g s r bad vl its ∧ Mv g w0 W5 ∧ Kept (fun k => k = w0.heap.size) wx W5 ∧ ∀ i, Dw g W5 i ↔ Dw g wx i := by
  subst hW
  have hk := kept_self5 (w := wx) (g := w0.heap.size) (.string (bs nm)) (.int .i64 op) (.string (bs ver)) (.string (bs qual)) va
  obtain ⟨hS, hd⟩ := h.st.keep hk (fun i hi hz => h.off.1 (hz ▸ hi))
  exact ⟨set5' h.rb _ _ _ _ _, hS, h.mv.also hk (Nat.le_refl _) hd, hk, hd⟩
theorem TS.keep {Z : Nat → Prop} (h : TS w0 g s vl wx r bad its nm op ver qual va) (hk : Kept Z wx w') (hz : ∀ i, Dw g wx i → ¬ Z i) (hZ : ∀ i, Z i → w0.heap.size + 2 ≤ i) : TS w0 g s vl w' r bad its nm op ver qual va ∧ ∀ i, Dw g w' i ↔ Dw g wx i := by
  obtain ⟨hS, hd⟩ := h.st.keep hk hz
  have hmv : Mv g w0 w' := ⟨⟨hk.os.trans h.mv.kept.os, hk.tape.trans h.mv.kept.tape, hk.output.trans h.mv.kept.output, Nat.le_trans h.mv.kept.size hk.size, fun i hi hx => (hk.block i (Nat.lt_of_lt_of_le hi h.mv.kept.size) (fun e => by have := hZ i e; omega)).trans (h.mv.kept.block i hi hx)⟩,
    fun i hi h' => h.mv.new i hi ((hd i).1 h')⟩
  exact ⟨⟨hS, hk.blk h.tb (fun e => by have := hZ _ e; omega), hk.blk h.rb (fun e => by have := hZ _ e; omega), ⟨fun x => h.off.1 ((hd _).1 x), fun x => h.off.2 ((hd _).1 x)⟩, hmv⟩, hd⟩
theorem TS.wrong (h : TS w0 g s vl wx r bad its nm op ver qual va) : TS w0 g s vl (wx.setCell ⟨g, 2, none⟩ (.bool true)) r true its nm op ver qual va := h.step h.st.bad.1 h.st.bad.2
theorem TS.ltg (h : TS w0 g s vl wx r bad its nm op ver qual va) : w0.heap.size + 1 < wx.heap.size := Blk.lt h.tb
end
section
variable {α : Type} {sz : Nat} {R : Rel α} {e : TypeId} {base B g : Nat} {w w' : World} {v : Value} {l : List α}
/-- A row off the state's blocks stays where the state goes on. -/
theorem OwnL.mv (G : Good sz R) (h : OwnL sz R e base (Off B g w) w v l) (hM : Mv g w w') : OwnL sz R e base (Off B g w') w' v l := by
  have h1 := h.mono (Y := fun k => Off B g w k ∨ (k < w.heap.size ∧ Dw g w' k)) G (fun k hk hy => hy.elim id fun h2 => .inr (hM.new k hk h2.2)) (fun k hk hy => hy.elim (h.off k hk) fun h2 => h.off k hk (.inr (hM.new k h2.1 h2.2)))
  have h2 := h1.keep G (hM.kept.mono fun k _ hk => .inl (.inr hk))
  have hlt := h.ltw
  obtain ⟨css, ho, hl, hX, hR⟩ := h
  obtain ⟨css2, ho2, hl2, hX2, hR2⟩ := h1
  refine ⟨css2, hM.kept.own ho2 (fun k hk hd => hX2 k hk (.inl (.inr hd))), hl2, fun k hk hy => ?_, fun j hj hj' => ?_⟩
  · rcases hy with hy | hy
    · exact hX2 k hk (.inl (.inl hy))
    · exact hX2 k hk (.inr ⟨hlt k hk, hy⟩)
  · have r1 := hR2 j hj hj'
    have r2 := G.mono (Y := fun k => (Off B g w k ∨ (Off B g w' k)) ∨ v.ownBlock = some k) r1 (fun k hk hy => by
      rcases hy with (hy | hy) | hy
      · exact .inl (.inl hy)
      · rcases hy with hy | hy
        · exact .inl (.inl (.inl hy))
        · exact .inl (.inr ⟨hk, hy⟩)
      · exact .inr hy)
    have r3 := G.keep r2 (hM.kept.mono fun k _ hk => .inl (.inl (.inr hk)))
    exact G.mono r3 (fun k _ hy => hy.elim (fun h => .inl (.inr h)) .inr)
theorem Sl.mv (G : Good sz R) (hsz : 0 < sz) (h : Sl sz R (Off B g w) w v l) (hM : Mv g w w') : Sl sz R (Off B g w') w' v l := by
  have h1 := h.mono (Y := fun k => Off B g w k ∨ Off B g w' k) G hsz (fun k hk hy => hy.elim id fun h2 => h2.elim .inl fun h3 => .inr (hM.new k hk h3))
  exact (h1.keep G (hM.kept.mono fun k _ hk => .inl (.inr hk))).mono G hsz (fun k _ hy => .inr hy)
/-- What is turned below B, where the state's blocks stay the same. -/
theorem OwnL.turn {b : Nat} (G : Good sz R) (h : OwnL sz R e base (Off B g w) w v l) (hk : Kept (fun k => k = b) w w') (hb : b < B) (hd : ∀ i, Dw g w' i ↔ Dw g w i) : OwnL sz R e base (Off B g w') w' v l :=
  (h.keep G (hk.mono fun k _ hk => .inl (by omega))).mono G (fun k _ hy => hy.elim .inl fun h => .inr ((hd k).1 h)) (fun k hk hy => h.off k hk (hy.elim .inl fun h => .inr ((hd k).1 h)))
end
/-- What reading a term gives. -/
def ETermR (g : Nat) (s : List UInt8) (vl : Value) (its : List It) (w : World) (x : Res Tm) (e : Ending) (w' : World) : Prop := match x with
  | .bad b => (∃ its', St w' g s b true vl its') ∧ (∃ (x0 : ByteArray) (x1 : Int) (x2 x3 : ByteArray) (A : Option Addr) (n c : Nat), e = .returned (.agg #[.string x0, .int .i64 x1, .string x2, .string x3, .slice A n c])) ∧ Mv g w w'
  | .ok t q i => (∃ v, e = .returned (.agg #[.string (bs t.name), .int .i64 t.op, .string (bs t.ver), .string (bs t.qual), v]) ∧ Sl 1 Rtext (Off w.heap.size g w') w' v t.archs) ∧ St w' g s q false vl (its ++ i) ∧ Mv g w w'
/-- A term, of what its architectures are. -/
def finT (r nm q : List UInt8) (i : List It) (op : Int) (v : List UInt8) (y : Res (List (List UInt8))) : Res Tm := match y with
  | .bad b => .bad b
  | .ok a r3 i3 => .ok ⟨nm, op, v, q, a⟩ r3 (⟨0, r, []⟩ :: ⟨1, r, nm⟩ :: (i ++ i3))
theorem finT_eq (r nm q : List UInt8) (i : List It) (op : Int) (v r2 : List UInt8) : pTerm3 r nm q i op v r2 = finT r nm q i op v (pArchQ r2) := by
  unfold pTerm3 finT
  cases pArchQ r2 <;> rfl
theorem pArchs_nil (acc : List (List UInt8)) (its : List It) : pArchs [] acc its = .bad [] := by rw [pArchs]; rfl
theorem its_app (a : List It) (x y : It) : a ++ [x] ++ [y] = a ++ [x, y] := by simp
set_option maxRecDepth 20000 in
set_option maxHeartbeats 32000000 in
theorem eterm_any (g : Nat) (s r : List UInt8) (vl : Value) (its : List It) (w : World) (hs : s.length ≤ 1000000) (hc : its.length + 2 * r.length ≤ 10000000) (h : St w g s r false vl its) :
    Calls Tryd.prog 97 #[.pointer (some ⟨g, 0, none⟩)] w (ETermR g s vl its w (pTerm r)) := by
  have hgw : g < w.heap.size := h.lt
  obtain ⟨x, hx⟩ : ∃ x, pTerm r = x := ⟨_, rfl⟩
  rw [hx]
  have HX := Lib.hid hx
  clear hx
  have k0 := ((Kept.refl nowhere w).alloc (.cells #[.string ⟨#[]⟩, .int .i64 0, .string ⟨#[]⟩, .string ⟨#[]⟩, .slice none 0 0] 50)).alloc (.cells #[.string ⟨#[]⟩, .int .i64 0, .string ⟨#[]⟩, .string ⟨#[]⟩, .slice none 0 0] 50)
  obtain ⟨h0, hd0⟩ := h.keep k0 (fun _ _ h => h)
  have t0' := Blk.new (w.alloc (.cells #[.string ⟨#[]⟩, .int .i64 0, .string ⟨#[]⟩, .string ⟨#[]⟩, .slice none 0 0] 50)) 50 #[.string ⟨#[]⟩, .int .i64 0, .string ⟨#[]⟩, .string ⟨#[]⟩, .slice none 0 0]
  rw [show (w.alloc (.cells #[.string ⟨#[]⟩, .int .i64 0, .string ⟨#[]⟩, .string ⟨#[]⟩, .slice none 0 0] 50)).heap.size = w.heap.size + 1 by simp] at t0'
  have t0 : TB ((w.alloc (.cells #[.string ⟨#[]⟩, .int .i64 0, .string ⟨#[]⟩, .string ⟨#[]⟩, .slice none 0 0] 50)).alloc (.cells #[.string ⟨#[]⟩, .int .i64 0, .string ⟨#[]⟩, .string ⟨#[]⟩, .slice none 0 0] 50)) (w.heap.size + 1) [] 0 [] [] (.slice none 0 0) := t0'
  clear t0'
  have r0 : TB ((w.alloc (.cells #[.string ⟨#[]⟩, .int .i64 0, .string ⟨#[]⟩, .string ⟨#[]⟩, .slice none 0 0] 50)).alloc (.cells #[.string ⟨#[]⟩, .int .i64 0, .string ⟨#[]⟩, .string ⟨#[]⟩, .slice none 0 0] 50)) w.heap.size [] 0 [] [] (.slice none 0 0) := (Blk.new w 50 #[.string ⟨#[]⟩, .int .i64 0, .string ⟨#[]⟩, .string ⟨#[]⟩, .slice none 0 0]).alloc _
  have hdl := h.dlt
  have T0 : TS w g s vl ((w.alloc (.cells #[.string ⟨#[]⟩, .int .i64 0, .string ⟨#[]⟩, .string ⟨#[]⟩, .slice none 0 0] 50)).alloc (.cells #[.string ⟨#[]⟩, .int .i64 0, .string ⟨#[]⟩, .string ⟨#[]⟩, .slice none 0 0] 50)) r false its [] 0 [] [] (.slice none 0 0) :=
    ⟨h0, t0, r0, ⟨fun hd => by have := hdl _ ((hd0 _).1 hd); omega, fun hd => by have := hdl _ ((hd0 _).1 hd); omega⟩, ⟨k0.mono fun _ _ h => h.elim, fun k _ hd => (hd0 k).1 hd⟩⟩
  clear k0 h0 hd0 t0 r0 hdl h
  go_enter Tryd.func97, Tryd.ntmps97
  go_wp2_with fail
  generalize (w.alloc (.cells #[.string ⟨#[]⟩, .int .i64 0, .string ⟨#[]⟩, .string ⟨#[]⟩, .slice none 0 0] 50)).alloc (.cells #[.string ⟨#[]⟩, .int .i64 0, .string ⟨#[]⟩, .string ⟨#[]⟩, .slice none 0 0] 50) = W0 at T0 ⊢
  obtain ⟨k, vp, vh, hk, hr0, hB, hp, hh⟩ := id T0.st
  have HR := Lib.hid hr0
  have c1 := hB.cell 1
  have c5 := hB.cell 5
  have cf5 := hB.free 5
  simp at c1 c5
  have hpl : (its.filter isHd).length + 1 ≤ 1000000000000 := by have := List.length_filter_le isHd its; omega
  have HAT : Hid (itAt s ⟨0, r, []⟩ = (k : Int)) := Lib.hid (by
    unfold itAt
    have : r.length = s.length - k := by rw [hr0, List.length_drop]
    show (s.length : Int) - (r.length : Int) = _
    omega)
  clear hr0
  refine wp_region_plan2 (wkD [18]) (fun W => W.cell? ⟨g, 1, none⟩ = some (.int .i64 k) ∧ W.cell? ⟨g, 5, none⟩ = some vh) (fun _ => True) (fun _ _ => trivial) [(false, 0), (false, 1), (false, 2), (false, 3), (false, 4), (false, 5), (false, 6), (false, 7), (false, 8), (true, 9), (true, 10), (false, 11), (false, 12), (true, 13)] (by kernel_rfl) (by kernel_rfl) (⟨by simpa using c1, by simpa using c5⟩) ?_
  simp only [planOps, List.map, List.getD_cons_zero, List.getD_cons_succ]
  iterate 9 ((first | refine plan_quiet (v := ?_) rfl rfl (fun w' hw' => ?_) ?_ | refine plan_calm (v := ?_) (fun _ _ => trivial) rfl (fun w' hw' => ?_) ?_); rotate_left; (focus (go_simp <;> with_reducible rfl)); simp only [Act.put, List.setIfInBounds_toArray, List.set_cons_zero, List.set_cons_succ])
  refine plan_loud rfl (fun K hK => ?_)
  go_simp
  have m1 := (hB.alloc (.cells #[.int .i64 k] 3)).drew
  have kA : Kept nowhere W0 (W0.alloc (.cells #[.int .i64 k] 3)).drew := ((Kept.refl nowhere W0).alloc _).drew
  refine hK _ _ (⟨by simpa using m1.cell 1, by simpa using m1.cell 5⟩) ?_
  clear hK K
  (try simp only [Act.put, List.setIfInBounds_toArray, List.set_cons_zero, List.set_cons_succ])
  refine plan_loud rfl (fun K hK => ?_)
  have hpA := OwnL.pure (R := Rhead s) (Y := fun i => vp.ownBlock = some i ∨ (i < W0.heap.size ∧ vh.ownBlock ≠ some i)) (pure_head s) (OwnL.keepP (R := Rhead s) (pure_head s) hh kA (fun _ _ h => h)) (fun i hi hx => hx.elim (hh.off i hi) (fun h => h.2 hi))
  refine wp_appendL (X := fun i => vp.ownBlock = some i ∨ (i < W0.heap.size ∧ vh.ownBlock ≠ some i)) (good_head s) _ _ _ _ _ 8 rfl Tryd.underlying91 info_int rfl (by omega) (g + 1) rfl hpA W0.heap.size 1 [.int .i64 k] ⟨0, r, []⟩ rfl (Blk.new W0 3 #[.int .i64 k]).drew (by show _ = _; rw [HAT.out]) hpl (by omega) (by simp; have := hB.lt; omega) (fun i hi hx => ?_) ?_
  · simp at hi
    rcases hx with h | h
    · have := hp.ltw i h; omega
    · omega
  intro v' w1 hown1 hk1
  have kP : Kept (fun i => vh.ownBlock = some i) W0 w1 := (kA.mono fun _ _ h => h.elim).trans hk1
  obtain ⟨hB1, hS3, hM3⟩ := St.headed hk hB hp hh (it := ⟨0, r, []⟩) rfl kP hown1
  have e1 := hB1.cell 1
  have e5 := hB1.cell 5
  have g5 := hB1.free 5
  simp at e1 e5
  obtain ⟨A1, cap1, hv1⟩ := hown1.form
  rw [List.length_append, List.length_singleton] at hv1
  subst hv1
  clear hown1 hk1 hpA kP m1 kA hB1
  refine hK _ _ (⟨e1, e5⟩) ?_
  clear hK K
  (try simp only [Act.put, List.setIfInBounds_toArray, List.set_cons_zero, List.set_cons_succ])
  iterate 2 ((first | refine plan_quiet (v := ?_) rfl rfl (fun w' hw' => ?_) ?_ | refine plan_calm (v := ?_) (fun _ _ => trivial) rfl (fun w' hw' => ?_) ?_); rotate_left; (focus (go_simp <;> with_reducible rfl)); simp only [Act.put, List.setIfInBounds_toArray, List.set_cons_zero, List.set_cons_succ])
  refine plan_last rfl (by kernel_rfl) (by kernel_rfl) (fun K hK => ?_)
  go_simp
  refine hK _ _ (trivial) ?_
  clear hK K
  (try simp only [Act.put, List.setIfInBounds_toArray, List.set_cons_zero, List.set_cons_succ])
  refine plan_end ?_
  generalize (w1.setCell ⟨g, 5, none⟩ (.slice A1 ((its.filter isHd).length + 1) cap1)) = W1 at hS3 hM3 ⊢
  rw [← HR.out] at hS3
  have T1 := T0.step hS3 hM3
  clear T0 hS3 hM3 hB hp hh c1 c5 cf5 e1 e5 g5 HAT hpl HR
  go_wp2_with fail
  refine (epart_loop1 g s r vl _ _ hs (by simp; omega) T1.st).mono ?_
  rintro e w2 ⟨rfl, S2, M2⟩
  have T2 := T1.step S2 M2
  have hbl := behind_len nEnds r
  clear T1 S2 M2
  obtain ⟨nm, Hnm⟩ : ∃ x, Hid (upTo nEnds r = x) := ⟨_, Lib.hid rfl⟩
  rw [Hnm.out] at T2 hbl
  rw [Hnm.out]
  obtain ⟨d0, d1, d2, d3, d4⟩ := TB.cells T2.tb
  obtain ⟨f0, f1, f2, f3, f4⟩ := T2.frees
  obtain ⟨z0, z1, z2, z3, z4⟩ := TB.cells T2.rb
  obtain ⟨y0, y1, y2, y3, y4⟩ := T2.rfrees
  obtain ⟨cb, fb⟩ := T2.st.badc
  have T3 := T2.set0 nm
  by_cases hnm : nm = []
  · have hb : nm.isEmpty = true := by simpa using hnm
    have HB : Hid (x = .bad r) := Lib.hid (by rw [← HX.out, pTerm, if_pos (by rw [Hnm.out]; exact hnm)])
    have Hb1 : Hid (behind nEnds r = r) := Lib.hid (by unfold behind past; rw [show (r.takeWhile (noEnd nEnds)) = nm from Hnm.out, hnm]; rfl)
    rw [Hb1.out, hb] at T3
    rw [hb] at cb
    clear hnm hb T2
    go_wp2_with fail
    generalize hW5 : (((((w2.setCell ⟨w.heap.size + 1, 0, none⟩ (.string (bs nm))).setCell ⟨w.heap.size, 0, none⟩ (.string (bs nm))).setCell ⟨w.heap.size, 1, none⟩ (.int .i64 0)).setCell ⟨w.heap.size, 2, none⟩ (.string (bs []))).setCell ⟨w.heap.size, 3, none⟩ (.string (bs []))).setCell ⟨w.heap.size, 4, none⟩ (.slice none 0 0) = W5
    obtain ⟨BR, SR, MR, KR, DR⟩ := T3.ret W5 hW5.symm
    clear hW5
    obtain ⟨e0, e1, e2, e3, e4⟩ := TB.cells BR
    refine bodyPost_ret (v := .agg #[.string (bs nm), .int .i64 0, .string (bs []), .string (bs []), .slice none 0 0]) (by simp [results, Tryd.results97, go_sem, e0, e1, e2, e3, e4]) rfl ?_
    rw [HB.out]
    exact ⟨⟨_, SR⟩, ⟨_, _, _, _, _, _, _, rfl⟩, MR⟩
  · have hb : nm.isEmpty = false := by simpa using hnm
    have HT : Hid (x = pTerm1 r nm (behind nEnds r)) := Lib.hid (by rw [← HX.out, pTerm, if_neg (by rw [Hnm.out]; exact hnm), Hnm.out])
    have HP : Hid (its ++ [⟨0, r, []⟩] ++ partI 1 r = its ++ [⟨0, r, []⟩, ⟨1, r, nm⟩]) := Lib.hid (by rw [partI, show endsK 1 = nEnds from rfl, Hnm.out, if_neg hnm, its_app])
    have hpos : 0 < nm.length := List.length_pos_iff.2 hnm
    rw [HP.out, hb] at T3
    rw [hb] at cb
    have hc1 : (its ++ [(⟨0, r, []⟩ : It), ⟨1, r, nm⟩]).length + 2 * (behind nEnds r).length ≤ 10000000 := by simp; omega
    obtain ⟨its1, H1⟩ : ∃ y, Hid (its ++ [(⟨0, r, []⟩ : It), ⟨1, r, nm⟩] = y) := ⟨_, Lib.hid rfl⟩
    rw [H1.out] at T3 hc1
    clear hnm hb HX T2 hbl hpos HP Hnm
    generalize behind nEnds r = r1 at HT T3 hc1
    go_wp2_with fail
    generalize (w2.setCell ⟨w.heap.size + 1, 0, none⟩ (.string (bs nm))) = W3 at T3 ⊢
    clear d0 d1 d2 d3 d4 f0 f1 f2 f3 f4 z0 z1 z2 z3 z4 y0 y1 y2 y3 y4 cb fb
    refine (etake_any 58 g s r1 false vl its1 _ hs T3.st).mono ?_
    rintro e w4 ⟨rfl, S4, M4⟩
    have T4 := T3.step S4 M4
    clear T3 S4 M4
    go_upto_if 30 with fail
    go_cut [] (fun wx => ∃ q r2 i1, Hid (pQual r1 = .ok q r2 i1) ∧ TS w g s vl wx r2 false (its1 ++ i1) nm 0 [] q (.slice none 0 0) ∧ (its1 ++ i1).length + 2 * r2.length ≤ 10000000)
    case first =>
      rcases hasB_is r1 58 with ⟨u, rfl, hb, hsr⟩ | ⟨hb, hsr, hno⟩
      · rw [hb]
        rw [hsr] at T4
        have HQ : Hid (pQual (58 :: u) = if upTo wEnds u = [] then .bad u else .ok (upTo wEnds u) (behind wEnds u) [⟨2, u, upTo wEnds u⟩]) := Lib.hid rfl
        rw [List.length_cons] at hc1
        clear hb hsr
        go_wp2_with fail
        refine (epart_loop2 g s u vl its1 _ hs (by omega) T4.st).mono ?_
        rintro e w5 ⟨rfl, S5, M5⟩
        have T5 := T4.step S5 M5
        have hbl := behind_len wEnds u
        clear T4 S5 M5
        obtain ⟨q, Hq⟩ : ∃ q, Hid (upTo wEnds u = q) := ⟨_, Lib.hid rfl⟩
        rw [Hq.out] at HQ T5 hbl
        rw [Hq.out]
        obtain ⟨d0, d1, d2, d3, d4⟩ := TB.cells T5.tb
        obtain ⟨f0, f1, f2, f3, f4⟩ := T5.frees
        obtain ⟨z0, z1, z2, z3, z4⟩ := TB.cells T5.rb
        obtain ⟨y0, y1, y2, y3, y4⟩ := T5.rfrees
        obtain ⟨cb, fb⟩ := T5.st.badc
        have T6 := T5.set3 q
        by_cases hq0 : q = []
        · have he : q.isEmpty = true := by simpa using hq0
          have HB : Hid (x = .bad u) := Lib.hid (by rw [HT.out, pTerm1, HQ.out, if_pos hq0])
          have Hb1 : Hid (behind wEnds u = u) := Lib.hid (by unfold behind past; rw [show (u.takeWhile (noEnd wEnds)) = q from Hq.out, hq0]; rfl)
          rw [Hb1.out, he] at T6
          rw [he] at cb
          clear hq0 he T5
          go_wp2_with fail
          generalize hW5 : (((((w5.setCell ⟨w.heap.size + 1, 3, none⟩ (.string (bs q))).setCell ⟨w.heap.size, 0, none⟩ (.string (bs nm))).setCell ⟨w.heap.size, 1, none⟩ (.int .i64 0)).setCell ⟨w.heap.size, 2, none⟩ (.string (bs []))).setCell ⟨w.heap.size, 3, none⟩ (.string (bs q))).setCell ⟨w.heap.size, 4, none⟩ (.slice none 0 0) = W5
          obtain ⟨BR, SR, MR, KR, DR⟩ := T6.ret W5 hW5.symm
          clear hW5
          obtain ⟨e0, e1, e2, e3, e4⟩ := TB.cells BR
          refine bodyPost_ret (v := .agg #[.string (bs nm), .int .i64 0, .string (bs []), .string (bs q), .slice none 0 0]) (by simp [results, Tryd.results97, go_sem, e0, e1, e2, e3, e4]) rfl ?_
          rw [HB.out]
          exact ⟨⟨_, SR⟩, ⟨_, _, _, _, _, _, _, rfl⟩, MR⟩
        · have he : q.isEmpty = false := by simpa using hq0
          have hpos : 0 < q.length := List.length_pos_iff.2 hq0
          have HQ2 : Hid (pQual (58 :: u) = .ok q (behind wEnds u) [⟨2, u, q⟩]) := Lib.hid (by rw [HQ.out, if_neg hq0])
          have HP : Hid (partI 2 u = [⟨2, u, q⟩]) := Lib.hid (by rw [partI, show endsK 2 = wEnds from rfl, Hq.out, if_neg hq0])
          rw [HP.out, he] at T6
          rw [he] at cb
          clear hq0 he T5
          go_wp2_with fail
          go_meet
          exact ⟨q, behind wEnds u, _, HQ2, T6, by simp; omega⟩
      · rw [hb]
        rw [hsr] at T4
        have HQ : Hid (pQual r1 = .ok [] r1 []) := Lib.hid (by
          unfold pQual
          split
          · exact absurd rfl (hno _)
          · rfl)
        clear hb hsr hno
        go_wp2_with fail
        go_meet
        exact ⟨[], r1, [], HQ, by rw [List.append_nil]; exact T4, by rw [List.append_nil]; exact hc1⟩
    case rest =>
      clear T4
      obtain ⟨q, r2, i1, HQ, T6, hc2⟩ := hcut
      have HT2 : Hid (x = match pRelQ (skipB r2) with
        | .bad b => .bad b
        | .ok ov r2 i2 => pTerm3 r nm q (i1 ++ i2) ov.1 ov.2 r2) := Lib.hid (by rw [HT.out, pTerm1, HQ.out]; show pTerm2 r nm q i1 r2 = _; rw [pTerm2]; cases pRelQ (skipB r2) <;> rfl)
      obtain ⟨its2, H2⟩ : ∃ y, Hid (its1 ++ i1 = y) := ⟨_, Lib.hid rfl⟩
      rw [H2.out] at T6 hc2
      clear HT HQ hc1
      go_wp2_with fail
      refine (eblanks_any g s r2 false vl its2 _ hs T6.st).mono ?_
      rintro e w7 ⟨rfl, S7, M7⟩
      have T7 := T6.step S7 M7
      have hl7 := skipB_len r2
      clear T6 S7 M7
      generalize skipB r2 = r3 at HT2 T7 hl7
      go_wp2_with fail
      refine (etake_any 40 g s r3 false vl its2 _ hs T7.st).mono ?_
      rintro e w8 ⟨rfl, S8, M8⟩
      have T8 := T7.step S8 M8
      clear T7 S8 M8
      go_upto_if 42 with fail
      go_cut [] (fun wx => ∃ op v r4 i2, Hid (pRelQ r3 = .ok (op, v) r4 i2) ∧ TS w g s vl wx r4 false (its2 ++ i2) nm op v q (.slice none 0 0) ∧ (its2 ++ i2).length + 2 * r4.length ≤ 10000000)
      case first =>
        rcases hasB_is r3 40 with ⟨u, rfl, hb, hsr⟩ | ⟨hb, hsr, hno⟩
        · rw [hb]
          rw [hsr] at T8
          rw [List.length_cons] at hl7
          have HR : Hid (pRelQ (40 :: u) = if (pOp (skipB u)).1 = 0 then .bad (pOp (skipB u)).2 else pRel2 (pOp (skipB u)).1 (skipB (pOp (skipB u)).2)) := Lib.hid rfl
          have hu1 := skipB_len u
          clear hb hsr
          go_wp2_with fail
          refine (eblanks_any g s u false vl its2 _ hs T8.st).mono ?_
          rintro e w9 ⟨rfl, S9, M9⟩
          have T9 := T8.step S9 M9
          clear T8 S9 M9
          generalize skipB u = r5 at HR T9 hu1
          go_wp2_with fail
          refine (op_any g s r5 false vl its2 _ hs T9.st).mono ?_
          rintro e w10 ⟨rfl, S10, M10⟩
          have T10 := T9.step S10 M10
          have hu2 := pOp_len r5
          clear T9 S10 M10
          obtain ⟨op, Hop⟩ : ∃ y, Hid ((pOp r5).1 = y) := ⟨_, Lib.hid rfl⟩
          rw [Hop.out] at HR
          rw [Hop.out]
          generalize (pOp r5).2 = r6 at HR T10 hu2
          clear Hop
          obtain ⟨d0, d1, d2, d3, d4⟩ := TB.cells T10.tb
          obtain ⟨f0, f1, f2, f3, f4⟩ := T10.frees
          obtain ⟨z0, z1, z2, z3, z4⟩ := TB.cells T10.rb
          obtain ⟨y0, y1, y2, y3, y4⟩ := T10.rfrees
          obtain ⟨cb, fb⟩ := T10.st.badc
          have T11 := T10.set1 op
          by_cases h0 : op = 0
          · have hb : (op == 0) = true := by simpa using h0
            have HB : Hid (x = .bad r6) := Lib.hid (by rw [HT2.out, HR.out, if_pos h0])
            clear h0 T10 HR
            go_upto_region 16 with fail
            clear d0 d1 d2 d3 d4 f0 f1 f2 f3 f4 z0 z1 z2 z3 z4 y0 y1 y2 y3 y4 cb fb
            generalize (w10.setCell ⟨w.heap.size + 1, 1, none⟩ (.int .i64 op)) = W11 at T11 ⊢
            have T12 := T11.wrong
            generalize W11.setCell ⟨g, 2, none⟩ (.bool true) = W12 at T12 ⊢
            clear T11
            obtain ⟨d0, d1, d2, d3, d4⟩ := TB.cells T12.tb
            obtain ⟨f0, f1, f2, f3, f4⟩ := T12.frees
            obtain ⟨z0, z1, z2, z3, z4⟩ := TB.cells T12.rb
            obtain ⟨y0, y1, y2, y3, y4⟩ := T12.rfrees
            obtain ⟨cb, fb⟩ := T12.st.badc
            go_wp2_with fail
            generalize hW5 : ((((W12.setCell ⟨w.heap.size, 0, none⟩ (.string (bs nm))).setCell ⟨w.heap.size, 1, none⟩ (.int .i64 op)).setCell ⟨w.heap.size, 2, none⟩ (.string (bs []))).setCell ⟨w.heap.size, 3, none⟩ (.string (bs q))).setCell ⟨w.heap.size, 4, none⟩ (.slice none 0 0) = W5
            obtain ⟨BR, SR, MR, KR, DR⟩ := T12.ret W5 hW5.symm
            clear hW5
            obtain ⟨e0, e1, e2, e3, e4⟩ := TB.cells BR
            refine bodyPost_ret (v := .agg #[.string (bs nm), .int .i64 op, .string (bs []), .string (bs q), .slice none 0 0]) (by simp [results, Tryd.results97, go_sem, e0, e1, e2, e3, e4]) rfl ?_
            rw [HB.out]
            exact ⟨⟨_, SR⟩, ⟨_, _, _, _, _, _, _, rfl⟩, MR⟩
          · have hb : (op == 0) = false := by simpa using h0
            have HR2 : Hid (pRelQ (40 :: u) = pRel2 op (skipB r6)) := Lib.hid (by rw [HR.out, if_neg h0])
            clear h0 T10 HR
            have hu3 := skipB_len r6
            go_wp2_with fail
            clear d0 d1 d2 d3 d4 f0 f1 f2 f3 f4 z0 z1 z2 z3 z4 y0 y1 y2 y3 y4 cb fb
            generalize (w10.setCell ⟨w.heap.size + 1, 1, none⟩ (.int .i64 op)) = W11 at T11 ⊢
            refine (eblanks_any g s r6 false vl its2 _ hs T11.st).mono ?_
            rintro e w12 ⟨rfl, S12, M12⟩
            have T12 := T11.step S12 M12
            clear T11 S12 M12 hb
            generalize skipB r6 = r7 at HR2 T12 hu3
            go_wp2_with fail
            refine (epart_loop3 g s r7 vl its2 _ hs (by omega) T12.st).mono ?_
            rintro e w13 ⟨rfl, S13, M13⟩
            have T13 := T12.step S13 M13
            have hbl := behind_len vEnds r7
            clear T12 S13 M13
            obtain ⟨v, Hv⟩ : ∃ y, Hid (upTo vEnds r7 = y) := ⟨_, Lib.hid rfl⟩
            have HR3 : Hid (pRelQ (40 :: u) = if v = [] then .bad r7 else match skipB (behind vEnds r7) with
              | 41 :: t => .ok (op, v) (skipB t) [⟨3, r7, v⟩]
              | q => .bad q) := Lib.hid (by rw [HR2.out, pRel2, Hv.out]; rfl)
            rw [Hv.out] at T13 hbl
            rw [Hv.out]
            clear HR2
            obtain ⟨d0, d1, d2, d3, d4⟩ := TB.cells T13.tb
            obtain ⟨f0, f1, f2, f3, f4⟩ := T13.frees
            obtain ⟨z0, z1, z2, z3, z4⟩ := TB.cells T13.rb
            obtain ⟨y0, y1, y2, y3, y4⟩ := T13.rfrees
            obtain ⟨cb, fb⟩ := T13.st.badc
            have T14 := T13.set2 v
            by_cases hv0 : v = []
            · have he : v.isEmpty = true := by simpa using hv0
              have HB : Hid (x = .bad r7) := Lib.hid (by rw [HT2.out, HR3.out, if_pos hv0])
              have Hb1 : Hid (behind vEnds r7 = r7) := Lib.hid (by unfold behind past; rw [show (r7.takeWhile (noEnd vEnds)) = v from Hv.out, hv0]; rfl)
              rw [Hb1.out, he] at T14
              rw [he] at cb
              clear hv0 he T13 HR3
              go_wp2_with fail
              generalize hW5 : (((((w13.setCell ⟨w.heap.size + 1, 2, none⟩ (.string (bs v))).setCell ⟨w.heap.size, 0, none⟩ (.string (bs nm))).setCell ⟨w.heap.size, 1, none⟩ (.int .i64 op)).setCell ⟨w.heap.size, 2, none⟩ (.string (bs v))).setCell ⟨w.heap.size, 3, none⟩ (.string (bs q))).setCell ⟨w.heap.size, 4, none⟩ (.slice none 0 0) = W5
              obtain ⟨BR, SR, MR, KR, DR⟩ := T14.ret W5 hW5.symm
              clear hW5
              obtain ⟨e0, e1, e2, e3, e4⟩ := TB.cells BR
              refine bodyPost_ret (v := .agg #[.string (bs nm), .int .i64 op, .string (bs v), .string (bs q), .slice none 0 0]) (by simp [results, Tryd.results97, go_sem, e0, e1, e2, e3, e4]) rfl ?_
              rw [HB.out]
              exact ⟨⟨_, SR⟩, ⟨_, _, _, _, _, _, _, rfl⟩, MR⟩
            · have he : v.isEmpty = false := by simpa using hv0
              have hpos : 0 < v.length := List.length_pos_iff.2 hv0
              have HR4 : Hid (pRelQ (40 :: u) = match skipB (behind vEnds r7) with
                | 41 :: t => .ok (op, v) (skipB t) [⟨3, r7, v⟩]
                | q => .bad q) := Lib.hid (by rw [HR3.out, if_neg hv0])
              have HP : Hid (partI 3 r7 = [⟨3, r7, v⟩]) := Lib.hid (by rw [partI, show endsK 3 = vEnds from rfl, Hv.out, if_neg hv0])
              rw [HP.out, he] at T14
              rw [he] at cb
              clear hv0 he T13 HR3 HP Hv
              generalize behind vEnds r7 = r8 at HR4 T14 hbl
              have hu4 := skipB_len r8
              go_wp2_with fail
              clear d0 d1 d2 d3 d4 f0 f1 f2 f3 f4 z0 z1 z2 z3 z4 y0 y1 y2 y3 y4 cb fb
              generalize (w13.setCell ⟨w.heap.size + 1, 2, none⟩ (.string (bs v))) = W14 at T14 ⊢
              refine (eblanks_any g s r8 false vl _ _ hs T14.st).mono ?_
              rintro e w15 ⟨rfl, S15, M15⟩
              have T15 := T14.step S15 M15
              clear T14 S15 M15
              generalize skipB r8 = r9 at HR4 T15 hu4
              go_wp2_with fail
              refine (etake_any 41 g s r9 false vl _ _ hs T15.st).mono ?_
              rintro e w16 ⟨rfl, S16, M16⟩
              have T16 := T15.step S16 M16
              clear T15 S16 M16
              rcases hasB_is r9 41 with ⟨z, rfl, hb, hsr⟩ | ⟨hb, hsr, hno⟩
              · rw [hb]
                rw [hsr] at T16
                rw [List.length_cons] at hu4
                have HR5 : Hid (pRelQ (40 :: u) = .ok (op, v) (skipB z) [⟨3, r7, v⟩]) := Lib.hid HR4.out
                have hu5 := skipB_len z
                clear hb hsr HR4
                go_wp2_with fail
                refine (eblanks_any g s z false vl _ _ hs T16.st).mono ?_
                rintro e w17 ⟨rfl, S17, M17⟩
                have T17 := T16.step S17 M17
                clear T16 S17 M17
                go_wp2_with fail
                go_meet
                exact ⟨op, v, skipB z, _, HR5, T17, by simp; omega⟩
              · rw [hb]
                rw [hsr] at T16
                have HB : Hid (x = .bad r9) := Lib.hid (by
                  rw [HT2.out, HR4.out]
                  split
                  · rename_i e
                    split at e
                    · exact absurd rfl (hno _)
                    · injection e with e; rw [e]
                  · rename_i e
                    split at e
                    · exact absurd rfl (hno _)
                    · cases e)
                clear hb hsr hno HR4
                obtain ⟨d0, d1, d2, d3, d4⟩ := TB.cells T16.tb
                obtain ⟨f0, f1, f2, f3, f4⟩ := T16.frees
                obtain ⟨z0, z1, z2, z3, z4⟩ := TB.cells T16.rb
                obtain ⟨y0, y1, y2, y3, y4⟩ := T16.rfrees
                obtain ⟨cb, fb⟩ := T16.st.badc
                go_upto_region 24 with fail
                clear d0 d1 d2 d3 d4 f0 f1 f2 f3 f4 z0 z1 z2 z3 z4 y0 y1 y2 y3 y4 cb fb
                have T18 := T16.wrong
                generalize w16.setCell ⟨g, 2, none⟩ (.bool true) = W18 at T18 ⊢
                clear T16
                obtain ⟨d0, d1, d2, d3, d4⟩ := TB.cells T18.tb
                obtain ⟨f0, f1, f2, f3, f4⟩ := T18.frees
                obtain ⟨z0, z1, z2, z3, z4⟩ := TB.cells T18.rb
                obtain ⟨y0, y1, y2, y3, y4⟩ := T18.rfrees
                obtain ⟨cb, fb⟩ := T18.st.badc
                go_wp2_with fail
                generalize hW5 : ((((W18.setCell ⟨w.heap.size, 0, none⟩ (.string (bs nm))).setCell ⟨w.heap.size, 1, none⟩ (.int .i64 op)).setCell ⟨w.heap.size, 2, none⟩ (.string (bs v))).setCell ⟨w.heap.size, 3, none⟩ (.string (bs q))).setCell ⟨w.heap.size, 4, none⟩ (.slice none 0 0) = W5
                obtain ⟨BR, SR, MR, KR, DR⟩ := T18.ret W5 hW5.symm
                clear hW5
                obtain ⟨e0, e1, e2, e3, e4⟩ := TB.cells BR
                refine bodyPost_ret (v := .agg #[.string (bs nm), .int .i64 op, .string (bs v), .string (bs q), .slice none 0 0]) (by simp [results, Tryd.results97, go_sem, e0, e1, e2, e3, e4]) rfl ?_
                rw [HB.out]
                exact ⟨⟨_, SR⟩, ⟨_, _, _, _, _, _, _, rfl⟩, MR⟩
        · rw [hb]
          rw [hsr] at T8
          have HR : Hid (pRelQ r3 = .ok (0, []) r3 []) := Lib.hid (by
            unfold pRelQ
            split
            · exact absurd rfl (hno _)
            · rfl)
          clear hb hsr hno
          go_wp2_with fail
          go_meet
          exact ⟨0, [], r3, [], HR, by rw [List.append_nil]; exact T8, by rw [List.append_nil]; omega⟩
      case rest =>
        clear T8
        obtain ⟨op, v, r4, i2, HR, T9, hc3⟩ := hcut
        have HT3 : Hid (x = finT r nm q (i1 ++ i2) op v (pArchQ r4)) := Lib.hid (by rw [HT2.out, HR.out]; exact finT_eq _ _ _ _ _ _ _)
        obtain ⟨its3, H3⟩ : ∃ y, Hid (its2 ++ i2 = y) := ⟨_, Lib.hid rfl⟩
        rw [H3.out] at T9 hc3
        have HI : Hid (∀ i3, its3 ++ i3 = its ++ (⟨0, r, []⟩ :: ⟨1, r, nm⟩ :: ((i1 ++ i2) ++ i3))) := Lib.hid (fun i3 => by rw [← H3.out, ← H2.out, ← H1.out]; simp)
        clear HT2 HR hc2 hl7 H1 H2 H3
        go_wp2_with fail
        refine (etake_any 91 g s r4 false vl its3 _ hs T9.st).mono ?_
        rintro e w10 ⟨rfl, S10, M10⟩
        have T10 := T9.step S10 M10
        clear T9 S10 M10
        rcases hasB_is r4 91 with ⟨u, rfl, hb, hsr⟩ | ⟨hb, hsr, hno⟩
        · rw [hb]
          rw [hsr] at T10
          rw [List.length_cons] at hc3
          have hu1 := skipB_len u
          clear hb hsr
          go_wp2_with fail
          refine (eblanks_any g s u false vl its3 _ hs T10.st).mono ?_
          rintro e w11 ⟨rfl, S11, M11⟩
          have T11 := T10.step S11 M11
          clear T10 S11 M11
          obtain ⟨y, Hy⟩ : ∃ y, Hid (pArchs (skipB u) [] [] = y) := ⟨_, Lib.hid rfl⟩
          have HT4 : Hid (x = finT r nm q (i1 ++ i2) op v y) := Lib.hid (by rw [HT3.out, ← Hy.out]; rfl)
          clear HT3
          generalize skipB u = r5 at Hy T11 hu1
          go_wp2_with fail
          go_loopg [] r5.length (fun G wr => ∃ (r' : List UInt8) (acc : List (List UInt8)) (itsA : List It) (va : Value), G = r'.length ∧ acc.length + r'.length ≤ r5.length ∧ TS w g s vl wr r' false (its3 ++ itsA) nm op v q va ∧ OwnL 1 Rtext 9 (w.heap.size + 2) (Off (w.heap.size + 2) g wr) wr va acc ∧ Hid (y = pArchs r' acc itsA) ∧ (its3 ++ itsA).length + 2 * r'.length ≤ 10000000)
          case atStart => exact ⟨r5, [], [], _, rfl, by simp, by rw [List.append_nil]; exact T11, OwnL.nil _ _ _ _ _ _, Lib.hid Hy.out.symm, by rw [List.append_nil]; omega⟩
          case round =>
            clear T11 Hy
            obtain ⟨r', acc, itsA, va, rfl, hl1, TA, hown, HE, hcA⟩ := hrel
            obtain ⟨A4, cap4, rfl⟩ := hown.form
            have HA : Hid (y = if upTo wEnds (notP r').2 = [] then .bad (notP r').2
              else match skipB (behind wEnds (notP r').2) with
                | 93 :: t => .ok (acc ++ [(notP r').1 ++ upTo wEnds (notP r').2]) (skipB t) (itsA ++ [⟨2, (notP r').2, upTo wEnds (notP r').2⟩])
                | q => if (skipB (behind wEnds (notP r').2)).length = (behind wEnds (notP r').2).length then .bad q
                  else pArchs (skipB (behind wEnds (notP r').2)) (acc ++ [(notP r').1 ++ upTo wEnds (notP r').2]) (itsA ++ [⟨2, (notP r').2, upTo wEnds (notP r').2⟩])) := Lib.hid (by rw [HE.out, pArchs]; split <;> rfl)
            have hnl := notP_len r'
            clear HE
            go_wp2_with fail
            refine (etake_any 33 g s r' false vl _ _ hs TA.st).mono ?_
            rintro e wA1 ⟨rfl, SA1, MA1⟩
            have TA1 := TA.step SA1 MA1
            have hown1 := hown.mv good_text MA1
            clear TA SA1 MA1 hown
            go_upto_if 84 with fail
            go_cut [4] (fun s4 wx => s4 = .string (bs (notP r').1) ∧ TS w g s vl wx (notP r').2 false (its3 ++ itsA) nm op v q (.slice A4 acc.length cap4) ∧ wA1 = wx)
            case first =>
              rcases hasB_is r' 33 with ⟨t, rfl, hb, hsr⟩ | ⟨hb, hsr, hno⟩
              · rw [hb]
                rw [hsr] at TA1
                go_wp2_with fail
                go_meet
                exact ⟨rfl, TA1, rfl⟩
              · rw [hb]
                rw [hsr] at TA1
                have HX : Hid (notP r' = ([], r')) := Lib.hid (by
                  unfold notP
                  split
                  · exact absurd rfl (hno _)
                  · rfl)
                clear hb hsr hno
                go_wp2_with fail
                go_meet
                rw [HX.out]
                exact ⟨rfl, TA1, rfl⟩
            case rest =>
              clear TA1
              obtain ⟨rfl, TA2, rfl⟩ := hcut
              have hno1 := notP_one r'
              generalize (notP r').1 = no at HA hno1
              generalize (notP r').2 = r1 at HA TA2 hnl
              go_wp2_with fail
              refine (epart_loop2 g s r1 vl _ _ hs (by omega) TA2.st).mono ?_
              rintro e wA3 ⟨rfl, SA3, MA3⟩
              have TA3 := TA2.step SA3 MA3
              have hown3 := hown1.mv good_text MA3
              have hbl := behind_len wEnds r1
              have hrs := TA2.st.len
              clear TA2 SA3 MA3 hown1
              by_cases h0 : upTo wEnds r1 = []
              · have HB : Hid (x = .bad r1) := Lib.hid (by rw [HT4.out, HA.out, if_pos h0]; rfl)
                have Hb1 : Hid (behind wEnds r1 = r1) := Lib.hid (by unfold behind past; rw [show (r1.takeWhile (noEnd wEnds)) = [] from h0]; rfl)
                rw [h0] at TA3
                rw [Hb1.out] at TA3
                rw [h0]
                clear h0 HA
                have TA3 : TS w g s vl wA3 r1 true (its3 ++ itsA ++ partI 2 r1) nm op v q (.slice A4 acc.length cap4) := TA3
                obtain ⟨d0, d1, d2, d3, d4⟩ := TB.cells TA3.tb
                obtain ⟨f0, f1, f2, f3, f4⟩ := TA3.frees
                obtain ⟨z0, z1, z2, z3, z4⟩ := TB.cells TA3.rb
                obtain ⟨y0, y1, y2, y3, y4⟩ := TA3.rfrees
                obtain ⟨cb, fb⟩ := TA3.st.badc
                go_wp2_with fail
                generalize hW5 : ((((wA3.setCell ⟨w.heap.size, 0, none⟩ (.string (bs nm))).setCell ⟨w.heap.size, 1, none⟩ (.int .i64 op)).setCell ⟨w.heap.size, 2, none⟩ (.string (bs v))).setCell ⟨w.heap.size, 3, none⟩ (.string (bs q))).setCell ⟨w.heap.size, 4, none⟩ (.slice A4 acc.length cap4) = W5
                obtain ⟨BR, SR, MR, KR, DR⟩ := TA3.ret W5 hW5.symm
                clear hW5
                obtain ⟨e0, e1, e2, e3, e4⟩ := TB.cells BR
                refine bodyPost_ret (v := .agg #[.string (bs nm), .int .i64 op, .string (bs v), .string (bs q), .slice A4 acc.length cap4]) (by simp [results, Tryd.results97, go_sem, e0, e1, e2, e3, e4]) rfl ?_
                rw [HB.out]
                exact ⟨⟨_, SR⟩, ⟨_, _, _, _, _, _, _, rfl⟩, MR⟩
              · have hup := upTo_pos wEnds r1 h0
                have HA2 : Hid (y = match skipB (behind wEnds r1) with
                  | 93 :: t => .ok (acc ++ [no ++ upTo wEnds r1]) (skipB t) (itsA ++ [⟨2, r1, upTo wEnds r1⟩])
                  | q => if (skipB (behind wEnds r1)).length = (behind wEnds r1).length then .bad q
                    else pArchs (skipB (behind wEnds r1)) (acc ++ [no ++ upTo wEnds r1]) (itsA ++ [⟨2, r1, upTo wEnds r1⟩])) := Lib.hid (by rw [HA.out, if_neg h0])
                have HP : Hid (its3 ++ itsA ++ partI 2 r1 = its3 ++ (itsA ++ [⟨2, r1, upTo wEnds r1⟩])) := Lib.hid (by rw [partI, show endsK 2 = wEnds from rfl, if_neg h0, List.append_assoc])
                have he : (upTo wEnds r1).isEmpty = false := by simpa using h0
                rw [HP.out, he] at TA3
                have hcB : (its3 ++ (itsA ++ [(⟨2, r1, upTo wEnds r1⟩ : It)])).length + 2 * (behind wEnds r1).length ≤ 10000000 := by
                  simp only [List.length_append, List.length_cons, List.length_nil] at hcA ⊢; omega
                clear h0 HA he HP
                generalize upTo wEnds r1 = p at HA2 TA3 hbl hcB
                generalize behind wEnds r1 = r2 at HA2 TA3 hbl hup hcB
                generalize itsA ++ [(⟨2, r1, p⟩ : It)] = itsB at HA2 TA3 hcB
                have hov : (bs no).size + (bs p).size ≤ 9223372036854775807 := by rw [bs_size, bs_size]; omega
                have hcat : bs no ++ bs p = bs (no ++ p) := bs_of _ _ (by simp [bs])
                have hzz := TA3.ltg
                have hdl := TA3.st.dlt
                have hHD := Lib.hid hdl
                clear hdl
                obtain ⟨d0, d1, d2, d3, d4⟩ := TB.cells TA3.tb
                obtain ⟨f0, f1, f2, f3, f4⟩ := TA3.frees
                obtain ⟨z0, z1, z2, z3, z4⟩ := TB.cells TA3.rb
                obtain ⟨y0, y1, y2, y3, y4⟩ := TA3.rfrees
                obtain ⟨cb, fb⟩ := TA3.st.badc
                go_wp2_with (at_builtin; refine wpList_appendL (l := acc) good_text rfl _ _ _ _ _ 16 rfl Tryd.underlying48 info_str rfl (by omega) (w.heap.size + 2) rfl hown3 [.string (bs (no ++ p))] (no ++ p) rfl rfl (by omega) (by omega) (by omega) (fun k hk hk2 => by rcases hk2 with h | h; omega; have := hHD.out k h; omega) ?_; intro v5 w5 hown5 hk5; (obtain ⟨TA4, hd4⟩ := TA3.keep hk5 (fun i hi hz => hown3.off i hz (.inr hi)) (fun i hi => hown3.ge i hi)); (have HD4 := Lib.hid hd4); clear hd4; (obtain ⟨_, _, _, _, d4'⟩ := TB.cells TA4.tb); (have f4' := Blk.free TA4.tb 4); (obtain ⟨A6, cap6, hv6⟩ := hown5.form); rw [List.length_append, List.length_singleton] at hv6; subst hv6)
                have TA5 := TA4.set4 (.slice A6 (acc.length + 1) cap6)
                have hown6 : OwnL 1 Rtext 9 (w.heap.size + 2) (Off (w.heap.size + 2) g w5) w5 (.slice A6 (acc.length + 1) cap6) (acc ++ [no ++ p]) := hown5.mono good_text (fun k _ hk => hk.imp id (HD4.out k).1) (fun k hk hk2 => hown5.off k hk (hk2.imp id (HD4.out k).1))
                have kS : Kept (fun k => k = w.heap.size + 1) w5 (w5.setCell ⟨w.heap.size + 1, 4, none⟩ (.slice A6 (acc.length + 1) cap6)) := Only.set (Kept.refl _ _) 4 _
                have hd5 := (TA4.st.keep kS (fun i hi hz => TA4.off.2 (hz ▸ hi))).2
                have hown7 := hown6.turn good_text kS (by omega) hd5
                have HN : Hid ((∀ u, skipB r2 ≠ 93 :: u) → ((skipB r2).length = r2.length → r2 = []) → y = pArchs (skipB r2) (acc ++ [no ++ p]) itsB) := Lib.hid (fun h1 h2 => by
                  rw [HA2.out]
                  split
                  · rename_i e; exact absurd e (h1 _)
                  · split
                    · rename_i e
                      rw [h2 e]
                      rw [show skipB [] = [] from rfl, pArchs_nil]
                    · rfl)
                have HYs : Hid (∀ z, skipB r2 = 93 :: z → y = .ok (acc ++ [no ++ p]) (skipB z) itsB) := Lib.hid (fun z e => by rw [HA2.out, e]; rfl)
                have HBs : Hid ((∀ u, skipB r2 ≠ 93 :: u) → (skipB r2).length = r2.length → y = .bad (skipB r2)) := Lib.hid (fun h1 h2 => by
                  rw [HA2.out]
                  split
                  · rename_i e; exact absurd e (h1 _)
                  · rw [if_pos h2])
                clear hown3 TA3 hk5 hown5 HD4 hown6 kS hd5 TA4 d4' f4' hov hcat hzz hHD HA2 d0 d1 d2 d3 d4 f0 f1 f2 f3 f4 z0 z1 z2 z3 z4 y0 y1 y2 y3 y4 cb fb
                generalize w5.setCell ⟨w.heap.size + 1, 4, none⟩ (.slice A6 (acc.length + 1) cap6) = W5 at TA5 hown7 ⊢
                refine (has_any g s r2 false vl _ _ TA5.st).mono ?_
                rintro e w6 ⟨rfl, S6, M6⟩
                have TA6 := TA5.step S6 M6
                have hown8 := hown7.mv good_text M6
                clear TA5 hown7 S6 M6
                cases r2 with
                | nil =>
                  have HNN : Hid ((∀ u, skipB [] ≠ 93 :: u) → y = pArchs (skipB []) (acc ++ [no ++ p]) itsB) := Lib.hid (fun h => HN.out h (fun _ => rfl))
                  have hk1 : (skipB []).length < r'.length := by have := skipB_len []; omega
                  have hk2 : acc.length + 1 + (skipB []).length ≤ r5.length := by have := skipB_len []; omega
                  have hk3 : (its3 ++ itsB).length + 2 * (skipB []).length ≤ 10000000 := by have := skipB_len []; omega
                  clear HN HBs
                  go_wp2_with fail
                  refine (eblanks_any g s [] false vl _ _ hs TA6.st).mono ?_
                  rintro e w9 ⟨rfl, S9, M9⟩
                  have TA9 := TA6.step S9 M9
                  have hownC := hown8.mv good_text M9
                  clear TA6 hown8 S9 M9
                  generalize skipB [] = r3 at HNN HYs TA9 hk1 hk2 hk3
                  go_wp2_with fail
                  refine (etake_any 93 g s r3 false vl _ _ hs TA9.st).mono ?_
                  rintro e w10 ⟨rfl, S10, M10⟩
                  have TA10 := TA9.step S10 M10
                  have hownD := hownC.mv good_text M10
                  clear TA9 hownC S10 M10
                  rcases hasB_is r3 93 with ⟨z, rfl, hb, hsr⟩ | ⟨hb, hsr, hno⟩
                  · rw [hb]
                    rw [hsr] at TA10
                    have HV : Hid (x = .ok ⟨nm, op, v, q, acc ++ [no ++ p]⟩ (skipB z) (⟨0, r, []⟩ :: ⟨1, r, nm⟩ :: ((i1 ++ i2) ++ itsB))) := Lib.hid (by rw [HT4.out, HYs.out z rfl]; rfl)
                    clear hb hsr HNN HYs
                    go_wp2_with fail
                    refine (eblanks_any g s z false vl _ _ hs TA10.st).mono ?_
                    rintro e w11 ⟨rfl, S11, M11⟩
                    have TA11 := TA10.step S11 M11
                    have hownE := hownD.mv good_text M11
                    clear TA10 hownD S11 M11
                    obtain ⟨d0, d1, d2, d3, d4⟩ := TB.cells TA11.tb
                    obtain ⟨f0, f1, f2, f3, f4⟩ := TA11.frees
                    obtain ⟨z0, z1, z2, z3, z4⟩ := TB.cells TA11.rb
                    obtain ⟨y0, y1, y2, y3, y4⟩ := TA11.rfrees
                    obtain ⟨cb, fb⟩ := TA11.st.badc
                    go_wp2_with fail
                    generalize hW5 : ((((w11.setCell ⟨w.heap.size, 0, none⟩ (.string (bs nm))).setCell ⟨w.heap.size, 1, none⟩ (.int .i64 op)).setCell ⟨w.heap.size, 2, none⟩ (.string (bs v))).setCell ⟨w.heap.size, 3, none⟩ (.string (bs q))).setCell ⟨w.heap.size, 4, none⟩ (.slice A6 (acc.length + 1) cap6) = W5
                    obtain ⟨BR, SR, MR, KR, DR⟩ := TA11.ret W5 hW5.symm
                    clear hW5
                    obtain ⟨e0, e1, e2, e3, e4⟩ := TB.cells BR
                    refine bodyPost_ret (v := .agg #[.string (bs nm), .int .i64 op, .string (bs v), .string (bs q), .slice A6 (acc.length + 1) cap6]) (by simp [results, Tryd.results97, go_sem, e0, e1, e2, e3, e4]) rfl ?_
                    rw [HV.out]
                    rw [HI.out] at SR
                    exact ⟨⟨_, rfl, ((hownE.sl good_text).keep good_text (KR.mono fun k _ hk => .inl (by omega))).mono good_text (by omega) (fun k _ hk => hk.elim (fun h => .inl (by omega)) (fun h => .inr ((DR k).1 h)))⟩, SR, MR⟩
                  · rw [hb]
                    rw [hsr] at TA10
                    have HE2 : Hid (y = pArchs r3 (acc ++ [no ++ p]) itsB) := Lib.hid (HNN.out hno)
                    clear hb hsr hno HNN HYs
                    go_wp2_with fail
                    go_roundg r3.length
                    case measure => exact hk1
                    case rel => exact ⟨r3, acc ++ [no ++ p], itsB, _, rfl, by rw [List.length_append, List.length_singleton]; exact hk2, TA10, hownD, HE2, hk3⟩
                | cons c t =>
                  go_wp2_with fail
                  refine (next_any g s (c :: t) false vl _ _ TA6.st).mono ?_
                  rintro e w7 ⟨rfl, S7, M7⟩
                  have TA7 := TA6.step S7 M7
                  have hown9 := hown8.mv good_text M7
                  clear TA6 hown8 S7 M7
                  by_cases hc32 : c = 32
                  · have hb1 : ((headI (c :: t)) != 32) = false := by
                      have : ((headI (c :: t)) == 32) = true := (beq_byte c 32).trans (by simpa using hc32)
                      simp only [bne, this]; rfl
                    have HN2 : Hid ((∀ u, skipB (c :: t) ≠ 93 :: u) → y = pArchs (skipB (c :: t)) (acc ++ [no ++ p]) itsB) := Lib.hid (fun h => HN.out h (fun e => by
                      subst hc32
                      rw [skipB_cons] at e
                      have := skipB_len t
                      simp at e; omega))
                    clear hc32
                    have HNN : Hid ((∀ u, skipB (c :: t) ≠ 93 :: u) → y = pArchs (skipB (c :: t)) (acc ++ [no ++ p]) itsB) := HN2
                    have hk1 : (skipB (c :: t)).length < r'.length := by have := skipB_len (c :: t); omega
                    have hk2 : acc.length + 1 + (skipB (c :: t)).length ≤ r5.length := by have := skipB_len (c :: t); omega
                    have hk3 : (its3 ++ itsB).length + 2 * (skipB (c :: t)).length ≤ 10000000 := by have := skipB_len (c :: t); omega
                    clear HN HBs
                    go_wp2_with fail
                    refine (eblanks_any g s (c :: t) false vl _ _ hs TA7.st).mono ?_
                    rintro e w9 ⟨rfl, S9, M9⟩
                    have TA9 := TA7.step S9 M9
                    have hownC := hown9.mv good_text M9
                    clear TA7 hown9 S9 M9
                    generalize skipB (c :: t) = r3 at HNN HYs TA9 hk1 hk2 hk3
                    go_wp2_with fail
                    refine (etake_any 93 g s r3 false vl _ _ hs TA9.st).mono ?_
                    rintro e w10 ⟨rfl, S10, M10⟩
                    have TA10 := TA9.step S10 M10
                    have hownD := hownC.mv good_text M10
                    clear TA9 hownC S10 M10
                    rcases hasB_is r3 93 with ⟨z, rfl, hb, hsr⟩ | ⟨hb, hsr, hno⟩
                    · rw [hb]
                      rw [hsr] at TA10
                      have HV : Hid (x = .ok ⟨nm, op, v, q, acc ++ [no ++ p]⟩ (skipB z) (⟨0, r, []⟩ :: ⟨1, r, nm⟩ :: ((i1 ++ i2) ++ itsB))) := Lib.hid (by rw [HT4.out, HYs.out z rfl]; rfl)
                      clear hb hsr HNN HYs
                      go_wp2_with fail
                      refine (eblanks_any g s z false vl _ _ hs TA10.st).mono ?_
                      rintro e w11 ⟨rfl, S11, M11⟩
                      have TA11 := TA10.step S11 M11
                      have hownE := hownD.mv good_text M11
                      clear TA10 hownD S11 M11
                      obtain ⟨d0, d1, d2, d3, d4⟩ := TB.cells TA11.tb
                      obtain ⟨f0, f1, f2, f3, f4⟩ := TA11.frees
                      obtain ⟨z0, z1, z2, z3, z4⟩ := TB.cells TA11.rb
                      obtain ⟨y0, y1, y2, y3, y4⟩ := TA11.rfrees
                      obtain ⟨cb, fb⟩ := TA11.st.badc
                      go_wp2_with fail
                      generalize hW5 : ((((w11.setCell ⟨w.heap.size, 0, none⟩ (.string (bs nm))).setCell ⟨w.heap.size, 1, none⟩ (.int .i64 op)).setCell ⟨w.heap.size, 2, none⟩ (.string (bs v))).setCell ⟨w.heap.size, 3, none⟩ (.string (bs q))).setCell ⟨w.heap.size, 4, none⟩ (.slice A6 (acc.length + 1) cap6) = W5
                      obtain ⟨BR, SR, MR, KR, DR⟩ := TA11.ret W5 hW5.symm
                      clear hW5
                      obtain ⟨e0, e1, e2, e3, e4⟩ := TB.cells BR
                      refine bodyPost_ret (v := .agg #[.string (bs nm), .int .i64 op, .string (bs v), .string (bs q), .slice A6 (acc.length + 1) cap6]) (by simp [results, Tryd.results97, go_sem, e0, e1, e2, e3, e4]) rfl ?_
                      rw [HV.out]
                      rw [HI.out] at SR
                      exact ⟨⟨_, rfl, ((hownE.sl good_text).keep good_text (KR.mono fun k _ hk => .inl (by omega))).mono good_text (by omega) (fun k _ hk => hk.elim (fun h => .inl (by omega)) (fun h => .inr ((DR k).1 h)))⟩, SR, MR⟩
                    · rw [hb]
                      rw [hsr] at TA10
                      have HE2 : Hid (y = pArchs r3 (acc ++ [no ++ p]) itsB) := Lib.hid (HNN.out hno)
                      clear hb hsr hno HNN HYs
                      go_wp2_with fail
                      go_roundg r3.length
                      case measure => exact hk1
                      case rel => exact ⟨r3, acc ++ [no ++ p], itsB, _, rfl, by rw [List.length_append, List.length_singleton]; exact hk2, TA10, hownD, HE2, hk3⟩
                  · have hb1 : ((headI (c :: t)) != 32) = true := by
                      have : ((headI (c :: t)) == 32) = false := (beq_byte c 32).trans (by simpa using hc32)
                      simp only [bne, this]; rfl
                    have Hsk : Hid (skipB (c :: t) = c :: t) := Lib.hid (skipB_stop _ (fun u e => hc32 (by injection e)))
                    clear hc32
                    go_wp2_with fail
                    refine (next_any g s (c :: t) false vl _ _ TA7.st).mono ?_
                    rintro e w8 ⟨rfl, S8, M8⟩
                    have TA8 := TA7.step S8 M8
                    have hown10 := hown9.mv good_text M8
                    clear TA7 hown9 S8 M8
                    by_cases hc93 : c = 93
                    · have hb2 : ((headI (c :: t)) != 93) = false := by
                        have : ((headI (c :: t)) == 93) = true := (beq_byte c 93).trans (by simpa using hc93)
                        simp only [bne, this]; rfl
                      have HN2 : Hid ((∀ u, skipB (c :: t) ≠ 93 :: u) → y = pArchs (skipB (c :: t)) (acc ++ [no ++ p]) itsB) := Lib.hid (fun h => absurd (by rw [Hsk.out, hc93]) (h t))
                      clear hc93
                      have HNN : Hid ((∀ u, skipB (c :: t) ≠ 93 :: u) → y = pArchs (skipB (c :: t)) (acc ++ [no ++ p]) itsB) := HN2
                      have hk1 : (skipB (c :: t)).length < r'.length := by have := skipB_len (c :: t); omega
                      have hk2 : acc.length + 1 + (skipB (c :: t)).length ≤ r5.length := by have := skipB_len (c :: t); omega
                      have hk3 : (its3 ++ itsB).length + 2 * (skipB (c :: t)).length ≤ 10000000 := by have := skipB_len (c :: t); omega
                      clear HN HBs
                      go_wp2_with fail
                      refine (eblanks_any g s (c :: t) false vl _ _ hs TA8.st).mono ?_
                      rintro e w9 ⟨rfl, S9, M9⟩
                      have TA9 := TA8.step S9 M9
                      have hownC := hown10.mv good_text M9
                      clear TA8 hown10 S9 M9
                      generalize skipB (c :: t) = r3 at HNN HYs TA9 hk1 hk2 hk3
                      go_wp2_with fail
                      refine (etake_any 93 g s r3 false vl _ _ hs TA9.st).mono ?_
                      rintro e w10 ⟨rfl, S10, M10⟩
                      have TA10 := TA9.step S10 M10
                      have hownD := hownC.mv good_text M10
                      clear TA9 hownC S10 M10
                      rcases hasB_is r3 93 with ⟨z, rfl, hb, hsr⟩ | ⟨hb, hsr, hno⟩
                      · rw [hb]
                        rw [hsr] at TA10
                        have HV : Hid (x = .ok ⟨nm, op, v, q, acc ++ [no ++ p]⟩ (skipB z) (⟨0, r, []⟩ :: ⟨1, r, nm⟩ :: ((i1 ++ i2) ++ itsB))) := Lib.hid (by rw [HT4.out, HYs.out z rfl]; rfl)
                        clear hb hsr HNN HYs
                        go_wp2_with fail
                        refine (eblanks_any g s z false vl _ _ hs TA10.st).mono ?_
                        rintro e w11 ⟨rfl, S11, M11⟩
                        have TA11 := TA10.step S11 M11
                        have hownE := hownD.mv good_text M11
                        clear TA10 hownD S11 M11
                        obtain ⟨d0, d1, d2, d3, d4⟩ := TB.cells TA11.tb
                        obtain ⟨f0, f1, f2, f3, f4⟩ := TA11.frees
                        obtain ⟨z0, z1, z2, z3, z4⟩ := TB.cells TA11.rb
                        obtain ⟨y0, y1, y2, y3, y4⟩ := TA11.rfrees
                        obtain ⟨cb, fb⟩ := TA11.st.badc
                        go_wp2_with fail
                        generalize hW5 : ((((w11.setCell ⟨w.heap.size, 0, none⟩ (.string (bs nm))).setCell ⟨w.heap.size, 1, none⟩ (.int .i64 op)).setCell ⟨w.heap.size, 2, none⟩ (.string (bs v))).setCell ⟨w.heap.size, 3, none⟩ (.string (bs q))).setCell ⟨w.heap.size, 4, none⟩ (.slice A6 (acc.length + 1) cap6) = W5
                        obtain ⟨BR, SR, MR, KR, DR⟩ := TA11.ret W5 hW5.symm
                        clear hW5
                        obtain ⟨e0, e1, e2, e3, e4⟩ := TB.cells BR
                        refine bodyPost_ret (v := .agg #[.string (bs nm), .int .i64 op, .string (bs v), .string (bs q), .slice A6 (acc.length + 1) cap6]) (by simp [results, Tryd.results97, go_sem, e0, e1, e2, e3, e4]) rfl ?_
                        rw [HV.out]
                        rw [HI.out] at SR
                        exact ⟨⟨_, rfl, ((hownE.sl good_text).keep good_text (KR.mono fun k _ hk => .inl (by omega))).mono good_text (by omega) (fun k _ hk => hk.elim (fun h => .inl (by omega)) (fun h => .inr ((DR k).1 h)))⟩, SR, MR⟩
                      · rw [hb]
                        rw [hsr] at TA10
                        have HE2 : Hid (y = pArchs r3 (acc ++ [no ++ p]) itsB) := Lib.hid (HNN.out hno)
                        clear hb hsr hno HNN HYs
                        go_wp2_with fail
                        go_roundg r3.length
                        case measure => exact hk1
                        case rel => exact ⟨r3, acc ++ [no ++ p], itsB, _, rfl, by rw [List.length_append, List.length_singleton]; exact hk2, TA10, hownD, HE2, hk3⟩
                    · have hb2 : ((headI (c :: t)) != 93) = true := by
                        have : ((headI (c :: t)) == 93) = false := (beq_byte c 93).trans (by simpa using hc93)
                        simp only [bne, this]; rfl
                      have HB : Hid (x = .bad (c :: t)) := Lib.hid (by
                        rw [HT4.out, HBs.out (fun u e => hc93 (by rw [Hsk.out] at e; injection e)) (by rw [Hsk.out]), Hsk.out]; rfl)
                      clear hc93 HN HYs HBs hown10
                      obtain ⟨d0, d1, d2, d3, d4⟩ := TB.cells TA8.tb
                      obtain ⟨f0, f1, f2, f3, f4⟩ := TA8.frees
                      obtain ⟨z0, z1, z2, z3, z4⟩ := TB.cells TA8.rb
                      obtain ⟨y0, y1, y2, y3, y4⟩ := TA8.rfrees
                      obtain ⟨cb, fb⟩ := TA8.st.badc
                      go_upto_region 37 with fail
                      clear d0 d1 d2 d3 d4 f0 f1 f2 f3 f4 z0 z1 z2 z3 z4 y0 y1 y2 y3 y4 cb fb
                      have TA9 := TA8.wrong
                      generalize w8.setCell ⟨g, 2, none⟩ (.bool true) = W9 at TA9 ⊢
                      clear TA8
                      obtain ⟨d0, d1, d2, d3, d4⟩ := TB.cells TA9.tb
                      obtain ⟨f0, f1, f2, f3, f4⟩ := TA9.frees
                      obtain ⟨z0, z1, z2, z3, z4⟩ := TB.cells TA9.rb
                      obtain ⟨y0, y1, y2, y3, y4⟩ := TA9.rfrees
                      obtain ⟨cb, fb⟩ := TA9.st.badc
                      go_wp2_with fail
                      generalize hW5 : ((((W9.setCell ⟨w.heap.size, 0, none⟩ (.string (bs nm))).setCell ⟨w.heap.size, 1, none⟩ (.int .i64 op)).setCell ⟨w.heap.size, 2, none⟩ (.string (bs v))).setCell ⟨w.heap.size, 3, none⟩ (.string (bs q))).setCell ⟨w.heap.size, 4, none⟩ (.slice A6 (acc.length + 1) cap6) = W5
                      obtain ⟨BR, SR, MR, KR, DR⟩ := TA9.ret W5 hW5.symm
                      clear hW5
                      obtain ⟨e0, e1, e2, e3, e4⟩ := TB.cells BR
                      refine bodyPost_ret (v := .agg #[.string (bs nm), .int .i64 op, .string (bs v), .string (bs q), .slice A6 (acc.length + 1) cap6]) (by simp [results, Tryd.results97, go_sem, e0, e1, e2, e3, e4]) rfl ?_
                      rw [HB.out]
                      exact ⟨⟨_, SR⟩, ⟨_, _, _, _, _, _, _, rfl⟩, MR⟩
        · rw [hb]
          rw [hsr] at T10
          have HV : Hid (x = .ok ⟨nm, op, v, q, []⟩ r4 (⟨0, r, []⟩ :: ⟨1, r, nm⟩ :: ((i1 ++ i2) ++ []))) := Lib.hid (by
            rw [HT3.out]
            have : pArchQ r4 = .ok [] r4 [] := by
              unfold pArchQ
              split
              · exact absurd rfl (hno _)
              · rfl
            rw [this]; rfl)
          clear hb hsr hno HT3
          obtain ⟨d0, d1, d2, d3, d4⟩ := TB.cells T10.tb
          obtain ⟨f0, f1, f2, f3, f4⟩ := T10.frees
          obtain ⟨z0, z1, z2, z3, z4⟩ := TB.cells T10.rb
          obtain ⟨y0, y1, y2, y3, y4⟩ := T10.rfrees
          obtain ⟨cb, fb⟩ := T10.st.badc
          go_wp2_with fail
          generalize hW5 : ((((w10.setCell ⟨w.heap.size, 0, none⟩ (.string (bs nm))).setCell ⟨w.heap.size, 1, none⟩ (.int .i64 op)).setCell ⟨w.heap.size, 2, none⟩ (.string (bs v))).setCell ⟨w.heap.size, 3, none⟩ (.string (bs q))).setCell ⟨w.heap.size, 4, none⟩ (.slice none 0 0) = W5
          obtain ⟨BR, SR, MR, KR, DR⟩ := T10.ret W5 hW5.symm
          clear hW5
          obtain ⟨e0, e1, e2, e3, e4⟩ := TB.cells BR
          refine bodyPost_ret (v := .agg #[.string (bs nm), .int .i64 op, .string (bs v), .string (bs q), .slice none 0 0]) (by simp [results, Tryd.results97, go_sem, e0, e1, e2, e3, e4]) rfl ?_
          rw [HV.out]
          rw [show its3 = its3 ++ [] by simp, HI.out] at SR
          exact ⟨⟨_, rfl, Sl.nil _ _ _ _⟩, SR, MR⟩
end Go.Proofs.YtdnncbhbajciaaaDoor
