/- The document's reader of ddep: its state in memory; next, has, blanks, take, op. -/
import Derived.Test.YtdnncbhbajciaaaDoorDdR
namespace Go.Proofs.YtdnncbhbajciaaaDoor
open Go.RowKit
def Rpart (s : List UInt8) : Rel It := fun _ _ cs it => cs = [.int .i64 it.kind, .int .i64 (itAt s it), .string (bs it.text)]
def Rhead (s : List UInt8) : Rel It := fun _ _ cs it => cs = [.int .i64 (itAt s it)]
/-- A reading that looks at no memory. -/
def PureR {α : Type} (R : Rel α) : Prop := ∀ {X Y : Nat → Prop} {w w' : World} {cs : List Value} {a : α}, R X w cs a → R Y w' cs a
theorem pure_part (s : List UInt8) : PureR (Rpart s) := fun h => h
theorem pure_head (s : List UInt8) : PureR (Rhead s) := fun h => h
theorem good_part (s : List UInt8) : Good 3 (Rpart s) := ⟨fun h _ => h, fun h _ => h, (fun h => by subst h; rfl), (fun h u hu => by
  subst h; simp only [List.mem_cons, List.not_mem_nil, or_false] at hu; rcases hu with rfl | rfl | rfl <;> rfl)⟩
theorem good_head (s : List UInt8) : Good 1 (Rhead s) := ⟨fun h _ => h, fun h _ => h, (fun h => by subst h; rfl), (fun h u hu => by subst h; simp at hu; subst hu; rfl)⟩
section
variable {α : Type} {sz : Nat} {R : Rel α} {e : TypeId} {base : Nat} {X Y Z : Nat → Prop} {w w' : World} {v : Value} {l : List α}
theorem OwnL.pure (hP : PureR R) (h : OwnL sz R e base X w v l) (hY : ∀ k, v.ownBlock = some k → ¬ Y k) : OwnL sz R e base Y w v l := by
  obtain ⟨css, ho, hl, _, hR⟩ := h
  exact ⟨css, ho, hl, hY, fun j h h' => hP (hR j h h')⟩
theorem OwnL.keepP (hP : PureR R) (h : OwnL sz R e base X w v l) (k : Kept Z w w') (hz : ∀ i, v.ownBlock = some i → ¬ Z i) : OwnL sz R e base X w' v l := by
  obtain ⟨css, ho, hl, hX, hR⟩ := h
  exact ⟨css, k.own ho hz, hl, hX, fun j h h' => hP (hR j h h')⟩
theorem OwnL.ge (h : OwnL sz R e base X w v l) : ∀ i, v.ownBlock = some i → base ≤ i := by
  obtain ⟨_, ho, _⟩ := h
  exact fun i hi => (ho.lt i hi).1
theorem OwnL.off (h : OwnL sz R e base X w v l) : ∀ i, v.ownBlock = some i → ¬ X i := by
  obtain ⟨_, _, _, hX, _⟩ := h
  exact hX
theorem OwnL.ltw (h : OwnL sz R e base X w v l) : ∀ i, v.ownBlock = some i → i < w.heap.size := by
  obtain ⟨_, ho, _⟩ := h
  exact fun i hi => (ho.lt i hi).2
end
/-- The blocks of the state in block g: its own, its parts', its heads'. -/
def Dw (g : Nat) (w : World) (k : Nat) : Prop := k = g ∨ (∃ v, w.cell? ⟨g, 3, none⟩ = some v ∧ v.ownBlock = some k) ∨ ∃ v, w.cell? ⟨g, 5, none⟩ = some v ∧ v.ownBlock = some k
theorem Dw_blk {w : World} {g : Nat} {t : TypeId} {x0 x1 x2 x3 x4 x5 : Value} (hB : Blk w g t #[x0, x1, x2, x3, x4, x5]) (k : Nat) : Dw g w k ↔ k = g ∨ x3.ownBlock = some k ∨ x5.ownBlock = some k := by
  have c3 : w.cell? ⟨g, 3, none⟩ = some x3 := by simpa using hB.cell 3
  have c5 : w.cell? ⟨g, 5, none⟩ = some x5 := by simpa using hB.cell 5
  unfold Dw
  rw [c3, c5]
  simp
/-- The state went on: nothing else was turned. -/
structure Mv (g : Nat) (w w' : World) : Prop where
  kept : Kept (Dw g w) w w'
  new : ∀ k, k < w.heap.size → Dw g w' k → Dw g w k
theorem Mv.refl (g : Nat) (w : World) : Mv g w w := ⟨Kept.refl _ _, fun _ _ h => h⟩
theorem Mv.trans {g : Nat} {a b c : World} (h : Mv g a b) (k : Mv g b c) : Mv g a c :=
  ⟨⟨k.kept.os.trans h.kept.os, k.kept.tape.trans h.kept.tape, k.kept.output.trans h.kept.output, Nat.le_trans h.kept.size k.kept.size, fun i hi hx =>
    (k.kept.block i (Nat.lt_of_lt_of_le hi h.kept.size) (fun hd => hx (h.new i hi hd))).trans (h.kept.block i hi hx)⟩, fun i hi hd => h.new i hi (k.new i (Nat.lt_of_lt_of_le hi h.kept.size) hd)⟩
theorem Mv.of_only {g : Nat} {w w' : World} {t t' : TypeId} {x0 x1 x2 x3 x4 x5 y0 y1 y2 y4 : Value} (hB : Blk w g t #[x0, x1, x2, x3, x4, x5]) (hB' : Blk w' g t' #[y0, y1, y2, x3, y4, x5]) (hO : Only g w w') : Mv g w w' :=
  ⟨hO.mono fun k _ hk => .inl hk, fun k _ hd => (Dw_blk hB k).2 ((Dw_blk hB' k).1 hd)⟩
/-- The state of the reader of s in block g: r is left; the things read so far. -/
def St (w : World) (g : Nat) (s r : List UInt8) (bad : Bool) (vl : Value) (its : List It) : Prop :=
  ∃ (k : Nat) (vp vh : Value), k ≤ s.length ∧ r = s.drop k ∧ Blk w g 93 #[.string (bs s), .int .i64 k, .bool bad, vp, vl, vh] ∧
    OwnL 3 (Rpart s) 95 (g + 1) (fun i => vh.ownBlock = some i) w vp (its.filter isPt) ∧ OwnL 1 (Rhead s) 3 (g + 1) (fun i => vp.ownBlock = some i) w vh (its.filter isHd)
theorem St.lt {w : World} {g : Nat} {s r : List UInt8} {bad : Bool} {vl : Value} {its : List It} (h : St w g s r bad vl its) : g < w.heap.size := by
  obtain ⟨_, _, _, _, _, hB, _⟩ := h
  exact hB.lt
theorem St.dlt {w : World} {g : Nat} {s r : List UInt8} {bad : Bool} {vl : Value} {its : List It} (h : St w g s r bad vl its) : ∀ i, Dw g w i → g ≤ i ∧ i < w.heap.size := by
  obtain ⟨_, vp, vh, _, _, hB, hp, hh⟩ := h
  intro i hi
  rcases (Dw_blk hB i).1 hi with rfl | h | h
  · exact ⟨Nat.le_refl _, hB.lt⟩
  · exact ⟨by have := hp.ge i h; omega, hp.ltw i h⟩
  · exact ⟨by have := hh.ge i h; omega, hh.ltw i h⟩
theorem St.len {w : World} {g : Nat} {s r : List UInt8} {bad : Bool} {vl : Value} {its : List It} (h : St w g s r bad vl its) : r.length ≤ s.length := by
  obtain ⟨k, _, _, _, rfl, _⟩ := h
  rw [List.length_drop]; omega
/-- What does not touch the state leaves it. -/
theorem St.keep {Z : Nat → Prop} {w w' : World} {g : Nat} {s r : List UInt8} {bad : Bool} {vl : Value} {its : List It} (h : St w g s r bad vl its) (k : Kept Z w w') (hz : ∀ i, Dw g w i → ¬ Z i) : St w' g s r bad vl its ∧ ∀ i, Dw g w' i ↔ Dw g w i := by
  obtain ⟨n, vp, vh, h1, h2, hB, hp, hh⟩ := h
  have hB' := k.blk hB (hz g (.inl rfl))
  exact ⟨⟨n, vp, vh, h1, h2, hB', hp.keepP (pure_part s) k (fun i hi => hz i ((Dw_blk hB i).2 (.inr (.inl hi)))), hh.keepP (pure_head s) k (fun i hi => hz i ((Dw_blk hB i).2 (.inr (.inr hi))))⟩, fun i => (Dw_blk hB' i).trans (Dw_blk hB i).symm⟩
theorem St.drew {w : World} {g : Nat} {s r : List UInt8} {bad : Bool} {vl : Value} {its : List It} (h : St w g s r bad vl its) : St w.drew g s r bad vl its := (h.keep (Kept.refl nowhere w).drew (fun _ _ h => h)).1
theorem Mv.drew {w : World} {g : Nat} {s r : List UInt8} {bad : Bool} {vl : Value} {its : List It} (h : St w g s r bad vl its) : Mv g w w.drew := by
  have := (h.keep (Kept.refl nowhere w).drew (fun _ _ h => h)).2
  exact ⟨(Kept.refl _ _).drew, fun k _ hd => (this k).1 hd⟩
/-- The reader's place, set. -/
theorem St.set {w : World} {g : Nat} {s : List UInt8} {k : Nat} {bad : Bool} {vp vl vh : Value} {its : List It} (hB : Blk w g 93 #[.string (bs s), .int .i64 k, .bool bad, vp, vl, vh])
    (hp : OwnL 3 (Rpart s) 95 (g + 1) (fun i => vh.ownBlock = some i) w vp (its.filter isPt)) (hh : OwnL 1 (Rhead s) 3 (g + 1) (fun i => vp.ownBlock = some i) w vh (its.filter isHd)) (k' : Nat) (hk : k' ≤ s.length) :
    St (w.setCell ⟨g, 1, none⟩ (.int .i64 k')) g s (s.drop k') bad vl its ∧ Mv g w (w.setCell ⟨g, 1, none⟩ (.int .i64 k')) := by
  have hB' : Blk (w.setCell ⟨g, 1, none⟩ (.int .i64 k')) g 93 #[.string (bs s), .int .i64 k', .bool bad, vp, vl, vh] := by
    have := hB.set (u := .int .i64 k') 1
    simpa using this
  have hO : Only g w (w.setCell ⟨g, 1, none⟩ (.int .i64 k')) := Only.set (Kept.refl _ _) 1 _
  exact ⟨⟨k', vp, vh, hk, rfl, hB', hp.keepP (pure_part s) hO (fun i hi hz => by have := hp.ge i hi; omega), hh.keepP (pure_head s) hO (fun i hi hz => by have := hh.ge i hi; omega)⟩, Mv.of_only hB hB' hO⟩
/-- .. it is wrong. -/
theorem St.bad {w : World} {g : Nat} {s r : List UInt8} {bad : Bool} {vl : Value} {its : List It} (h : St w g s r bad vl its) :
    St (w.setCell ⟨g, 2, none⟩ (.bool true)) g s r true vl its ∧ Mv g w (w.setCell ⟨g, 2, none⟩ (.bool true)) := by
  obtain ⟨k, vp, vh, hk, rfl, hB, hp, hh⟩ := h
  have hB' : Blk (w.setCell ⟨g, 2, none⟩ (.bool true)) g 93 #[.string (bs s), .int .i64 k, .bool true, vp, vl, vh] := by
    have := hB.set (u := .bool true) 2
    simpa using this
  have hO : Only g w (w.setCell ⟨g, 2, none⟩ (.bool true)) := Only.set (Kept.refl _ _) 2 _
  exact ⟨⟨k, vp, vh, hk, rfl, hB', hp.keepP (pure_part s) hO (fun i hi hz => by have := hp.ge i hi; omega), hh.keepP (pure_head s) hO (fun i hi hz => by have := hh.ge i hi; omega)⟩, Mv.of_only hB hB' hO⟩
theorem drop_ne (s : List UInt8) (k : Nat) (h : k < s.length) : (s.drop k).isEmpty = false := by
  rw [List.drop_eq_getElem_cons h]; rfl
def headI (r : List UInt8) : Int := match r with
  | [] => 0
  | c :: _ => (c.toNat : Int)
set_option maxRecDepth 20000 in
set_option maxHeartbeats 4000000 in
theorem has_any (g : Nat) (s r : List UInt8) (bad : Bool) (vl : Value) (its : List It) (w : World) (h : St w g s r bad vl its) :
    Calls Tryd.prog 96 #[.pointer (some ⟨g, 0, none⟩)] w fun e w' => e = .returned (.bool (!r.isEmpty)) ∧ St w' g s r bad vl its ∧ Mv g w w' := by
  have h' := h.drew
  have m' := Mv.drew h
  obtain ⟨k, vp, vh, hk, rfl, hB, hp, hh⟩ := h
  have c0 := hB.cell 0
  have c1 := hB.cell 1
  simp at c0 c1
  have hz : ((bs s).size : Int) = (s.length : Int) := by rw [bs_size]
  by_cases hlt : k < s.length
  · have hd1 : decide ((k : Int) < ((bs s).size : Int)) = true := by rw [hz]; simpa using hlt
    have HV := Lib.hid (drop_ne s k hlt)
    go_enter Tryd.func96, Tryd.ntmps96
    go_wp2_with fail
    refine wp_region_plan (fun W => W.cell? ⟨g, 0, none⟩ = some (.string (bs s)) ∧ W.cell? ⟨g, 1, none⟩ = some (.int .i64 k)) [(false, 0), (false, 1), (false, 2), (false, 3), (false, 4), (false, 5), (false, 6), (false, 7), (false, 8), (false, 9), (false, 10)] (by kernel_rfl) (by kernel_rfl) (⟨by simpa using c0, by simpa using c1⟩) ?_
    simp only [planOps, List.map, List.getD_cons_zero, List.getD_cons_succ]
    iterate 11 ((first | refine plan_quiet (v := ?_) rfl rfl (fun w' hw' => ?_) ?_ | refine plan_calm (v := ?_) (tt_of) rfl (fun w' hw' => ?_) ?_); rotate_left; (focus (go_simp <;> with_reducible rfl)); simp only [Act.put, List.setIfInBounds_toArray, List.set_cons_zero, List.set_cons_succ])
    refine plan_end ?_
    go_wp2_with fail
    go_ret
    exact ⟨by rw [HV.out]; rfl, h', m'⟩
  · obtain rfl : k = s.length := by omega
    have hd1 : decide ((s.length : Int) < ((bs s).size : Int)) = false := by rw [hz]; simp
    have HV : Hid ((s.drop s.length).isEmpty = true) := Lib.hid (by simp)
    go_enter Tryd.func96, Tryd.ntmps96
    go_wp2_with fail
    refine wp_region_plan (fun W => W.cell? ⟨g, 0, none⟩ = some (.string (bs s)) ∧ W.cell? ⟨g, 1, none⟩ = some (.int .i64 s.length)) [(false, 0), (false, 1), (false, 2), (false, 3), (false, 4), (false, 5), (false, 6), (false, 7), (false, 8), (false, 9), (false, 10)] (by kernel_rfl) (by kernel_rfl) (⟨by simpa using c0, by simpa using c1⟩) ?_
    simp only [planOps, List.map, List.getD_cons_zero, List.getD_cons_succ]
    iterate 11 ((first | refine plan_quiet (v := ?_) rfl rfl (fun w' hw' => ?_) ?_ | refine plan_calm (v := ?_) (tt_of) rfl (fun w' hw' => ?_) ?_); rotate_left; (focus (go_simp <;> with_reducible rfl)); simp only [Act.put, List.setIfInBounds_toArray, List.set_cons_zero, List.set_cons_succ])
    refine plan_end ?_
    go_wp2_with fail
    go_ret
    exact ⟨by rw [HV.out]; rfl, h', m'⟩
set_option maxRecDepth 20000 in
set_option maxHeartbeats 4000000 in
theorem next_any (g : Nat) (s r : List UInt8) (bad : Bool) (vl : Value) (its : List It) (w : World) (h : St w g s r bad vl its) :
    Calls Tryd.prog 121 #[.pointer (some ⟨g, 0, none⟩)] w fun e w' => e = .returned (.int .u8 (headI r)) ∧ St w' g s r bad vl its ∧ Mv g w w' := by
  have h' := h.drew
  have m' := Mv.drew h
  have h2 := h'.drew
  have m2 := m'.trans (Mv.drew h')
  obtain ⟨k, vp, vh, hk, rfl, hB, hp, hh⟩ := h
  have c0 := hB.cell 0
  have c1 := hB.cell 1
  simp at c0 c1
  have hz : ((bs s).size : Int) = (s.length : Int) := by rw [bs_size]
  by_cases hlt : k < s.length
  · have hd1 : decide ((k : Int) < ((bs s).size : Int)) = true := by rw [hz]; simpa using hlt
    have hks : (k : Int) < ((bs s).size : Int) := by omega
    have hks2 : k < (bs s).size := by rw [bs_size]; exact hlt
    have hi1 : (0 : Int) ≤ (k : Int) := by omega
    have HV : Hid (headI (s.drop k) = (((bs s)[k]'hks2).toNat : Int)) := Lib.hid (by rw [drop_is s k hlt hks2]; rfl)
    go_enter Tryd.func121, Tryd.ntmps121
    go_wp2_with fail
    refine wp_region_plan (fun W => W.cell? ⟨g, 0, none⟩ = some (.string (bs s)) ∧ W.cell? ⟨g, 1, none⟩ = some (.int .i64 k)) [(false, 0), (false, 1), (false, 2), (false, 3), (false, 4), (false, 5), (false, 6), (false, 7), (false, 8), (false, 9)] (by kernel_rfl) (by kernel_rfl) (⟨by simpa using c0, by simpa using c1⟩) ?_
    simp only [planOps, List.map, List.getD_cons_zero, List.getD_cons_succ]
    iterate 10 ((first | refine plan_quiet (v := ?_) rfl rfl (fun w' hw' => ?_) ?_ | refine plan_calm (v := ?_) (tt_of) rfl (fun w' hw' => ?_) ?_); rotate_left; (focus (go_simp <;> with_reducible rfl)); simp only [Act.put, List.setIfInBounds_toArray, List.set_cons_zero, List.set_cons_succ])
    refine plan_end ?_
    go_wp2_with fail
    refine wp_region_plan (fun W => W.cell? ⟨g, 0, none⟩ = some (.string (bs s)) ∧ W.cell? ⟨g, 1, none⟩ = some (.int .i64 k)) [(false, 0), (false, 1), (false, 2), (false, 3), (false, 4), (false, 5), (false, 6), (false, 7), (false, 8), (false, 9)] (by kernel_rfl) (by kernel_rfl) (⟨by simpa using c0, by simpa using c1⟩) ?_
    simp only [planOps, List.map, List.getD_cons_zero, List.getD_cons_succ]
    iterate 10 ((first | refine plan_quiet (v := ?_) rfl rfl (fun w' hw' => ?_) ?_ | refine plan_calm (v := ?_) (tt_of) rfl (fun w' hw' => ?_) ?_); rotate_left; (focus (go_simp <;> with_reducible rfl)); simp only [Act.put, List.setIfInBounds_toArray, List.set_cons_zero, List.set_cons_succ])
    refine plan_end ?_
    go_wp2_with fail
    go_ret
    exact ⟨by rw [HV.out]; rfl, h2, m2⟩
  · obtain rfl : k = s.length := by omega
    have hd1 : decide ((s.length : Int) < ((bs s).size : Int)) = false := by rw [hz]; simp
    have HV : Hid (headI (s.drop s.length) = 0) := Lib.hid (by rw [List.drop_length]; rfl)
    go_enter Tryd.func121, Tryd.ntmps121
    go_wp2_with fail
    refine wp_region_plan (fun W => W.cell? ⟨g, 0, none⟩ = some (.string (bs s)) ∧ W.cell? ⟨g, 1, none⟩ = some (.int .i64 s.length)) [(false, 0), (false, 1), (false, 2), (false, 3), (false, 4), (false, 5), (false, 6), (false, 7), (false, 8), (false, 9)] (by kernel_rfl) (by kernel_rfl) (⟨by simpa using c0, by simpa using c1⟩) ?_
    simp only [planOps, List.map, List.getD_cons_zero, List.getD_cons_succ]
    iterate 10 ((first | refine plan_quiet (v := ?_) rfl rfl (fun w' hw' => ?_) ?_ | refine plan_calm (v := ?_) (tt_of) rfl (fun w' hw' => ?_) ?_); rotate_left; (focus (go_simp <;> with_reducible rfl)); simp only [Act.put, List.setIfInBounds_toArray, List.set_cons_zero, List.set_cons_succ])
    refine plan_end ?_
    go_wp2_with fail
    go_ret
    exact ⟨by rw [HV.out]; rfl, h', m'⟩
end Go.Proofs.YtdnncbhbajciaaaDoor
