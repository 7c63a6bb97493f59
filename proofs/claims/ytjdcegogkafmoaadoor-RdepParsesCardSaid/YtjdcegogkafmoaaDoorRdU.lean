/- How deep a dependency is, level by level: what the maps and lists mean. -/
import Derived.Test.YtjdcegogkafmoaaDoorRdT
import Derived.Test.YtjdcegogkafmoaaDoorRdJ
namespace Go.Proofs.YtjdcegogkafmoaaDoor
open Go.RowKit
mutual
/-- How deep a dependency is. -/
def dR : Rdp → Nat
  | .mk op _ _ _ kids => (match kids with | [] => (match op with | [] => 0 | _ :: _ => 1) | _ :: _ => 1) + dRs kids
def dRs : List Rdp → Nat
  | [] => 0
  | d :: l => max (dR d) (dRs l)
end
mutual
/-- How many dependencies there are in it. -/
def szR : Rdp → Nat
  | .mk _ _ _ _ kids => szRs kids + 1
def szRs : List Rdp → Nat
  | [] => 0
  | d :: l => szR d + szRs l
end
theorem szR_kids (d : Rdp) : szR d = szRs d.kids + 1 := by cases d; rw [szR]; rfl
theorem szRs_app : ∀ l l' : List Rdp, szRs (l ++ l') = szRs l + szRs l'
  | [], l' => by simp [szRs]
  | d :: l, l' => by rw [List.cons_append, szRs, szRs, szRs_app l l']; omega
theorem szRs_mem {d : Rdp} : ∀ {l : List Rdp}, d ∈ l → szR d ≤ szRs l
  | [], h => by cases h
  | x :: l, h => by
    rw [szRs]
    rcases List.mem_cons.1 h with rfl | h
    · omega
    · have := szRs_mem h; omega
theorem szRs_len : ∀ l : List Rdp, l.length ≤ szRs l
  | [] => by simp [szRs]
  | d :: l => by
    have := szRs_len l
    rw [szRs, szR_kids, List.length_cons]; omega
/-- The deepest of dependencies that stand so deep. -/
def lv (a : Nat) : List Rdp → Nat
  | [] => 0
  | d :: l => max (a + dR d) (lv a l)
def levs (a : Nat) : List (List Rdp) → Nat
  | [] => 0
  | l :: L => max (lv a l) (levs a L)
def tot : List (List Rdp) → Nat
  | [] => 0
  | l :: L => szRs l + tot L
theorem lv_app (a : Nat) : ∀ l l' : List Rdp, lv a (l ++ l') = max (lv a l) (lv a l')
  | [], l' => by simp [lv]
  | d :: l, l' => by rw [List.cons_append, lv, lv, lv_app a l l']; omega
theorem levs_app (a : Nat) : ∀ l l' : List (List Rdp), levs a (l ++ l') = max (levs a l) (levs a l')
  | [], l' => by simp [levs]
  | d :: l, l' => by rw [List.cons_append, levs, levs, levs_app a l l']; omega
theorem tot_app : ∀ l l' : List (List Rdp), tot (l ++ l') = tot l + tot l'
  | [], l' => by simp [tot]
  | d :: l, l' => by rw [List.cons_append, tot, tot, tot_app l l']; omega
theorem lv_flat (a : Nat) : ∀ L : List (List Rdp), lv a L.flatten = levs a L
  | [] => by simp [lv, levs]
  | l :: L => by rw [List.flatten_cons, lv_app, levs, lv_flat a L]
theorem tot_flat : ∀ L : List (List Rdp), szRs L.flatten = tot L
  | [] => by simp [szRs, tot]
  | l :: L => by rw [List.flatten_cons, szRs_app, tot, tot_flat L]
theorem lv_mem (a : Nat) {l : List Rdp} : ∀ {L : List (List Rdp)}, l ∈ L → lv a l ≤ levs a L
  | [], h => by cases h
  | x :: L, h => by
    rw [levs]
    rcases List.mem_cons.1 h with rfl | h
    · omega
    · have := lv_mem a h; omega
theorem lv_dRs (a : Nat) : ∀ l : List Rdp, l ≠ [] → lv a l = a + dRs l
  | [], h => absurd rfl h
  | [d], _ => by simp [lv, dRs]
  | d :: e :: l, _ => by rw [lv, dRs, lv_dRs a (e :: l) (by simp)]; omega
theorem lv_kids (a : Nat) (d : Rdp) (h : d.kids ≠ []) : lv (a + 1) d.kids = a + dR d := by
  obtain ⟨op, name, aop, ver, kids⟩ := d
  have h : kids ≠ [] := h
  show lv (a + 1) kids = _
  rw [lv_dRs _ _ h]
  cases kids with
  | nil => exact absurd rfl h
  | cons x l =>
    rw [dR.eq_def]
    simp only
    omega
theorem dR_leaf (d : Rdp) (h : d.kids = []) : dR d = if d.op = [] then 0 else 1 := by
  obtain ⟨op, name, aop, ver, kids⟩ := d
  have h : kids = [] := h
  subst h
  rw [dR.eq_def]
  cases op <;> simp [dRs, Rdp.op]
/-- A key reads as this list. -/
def KG (w0 : World) (mb : Nat) (k : Ky) (l : List Rdp) : Prop := (∃ cap m', Sk 5 (Rr m') (fun i => i = mb) w0 (.slice (some k.1) k.2 cap) l) ∧ l ≠ []
theorem KG.fun {w0 : World} {mb : Nat} {k : Ky} {l l' : List Rdp} (h : KG w0 mb k l) (h' : KG w0 mb k l') : l = l' := by
  obtain ⟨⟨cap, m, h⟩, _⟩ := h
  obtain ⟨⟨cap', m', h'⟩, _⟩ := h'
  exact Sk.same m h h'
theorem KG.ok {w0 W : World} {mb : Nat} {k : Ky} {l : List Rdp} (h : KG w0 mb k l) (hk : Kept (fun i => i = mb) w0 W) : KyOk W k := by
  obtain ⟨⟨cap, m, h⟩, hl⟩ := h
  have hp : 0 < k.2 := by
    have := h.1.at.1
    have := List.length_pos_iff.2 hl
    omega
  obtain ⟨b, off, e, hX, ⟨ca, t, hc⟩, _⟩ := h.rich hp
  injection e with e
  refine ⟨ca, t, ?_⟩
  rw [e]
  exact (hk.block b (Array.getElem?_eq_some_iff.1 hc).1 hX).trans hc
/-- So many lists stand one in the other around this one, all of them met. -/
def Chain (w0 : World) (mb a : Nat) (mk : List (Ky × Int)) (l : List Rdp) : Prop := ∃ ks : List Ky, ks.Nodup ∧ ks.length = a ∧ ∀ k ∈ ks, (∃ x, (k, x) ∈ mk) ∧ ∃ l', KG w0 mb k l' ∧ szRs l ≤ szRs l'
theorem Chain.zero (w0 : World) (mb : Nat) (mk : List (Ky × Int)) (l : List Rdp) : Chain w0 mb 0 mk l := ⟨[], List.nodup_nil, rfl, fun k h => by cases h⟩
theorem Chain.mono {w0 : World} {mb a : Nat} {mk mk' : List (Ky × Int)} {l : List Rdp} (h : Chain w0 mb a mk l) (hm : ∀ p ∈ mk, ∃ y, (p.1, y) ∈ mk') : Chain w0 mb a mk' l := by
  obtain ⟨ks, h1, h2, h3⟩ := h
  refine ⟨ks, h1, h2, fun k hk => ?_⟩
  obtain ⟨⟨x, hx⟩, h4⟩ := h3 k hk
  obtain ⟨y, hy⟩ := hm _ hx
  exact ⟨⟨y, hy⟩, h4⟩
theorem Chain.step {w0 : World} {mb a : Nat} {mk mk' : List (Ky × Int)} {l : List Rdp} {d : Rdp} {k : Ky} {x : Int} (h : Chain w0 mb a mk l) (hm : ∀ p ∈ mk, ∃ y, (p.1, y) ∈ mk') (hd : d ∈ l) (hk : KG w0 mb k d.kids) (hx : (k, x) ∈ mk') : Chain w0 mb (a + 1) mk' d.kids := by
  obtain ⟨ks, h1, h2, h3⟩ := h.mono hm
  have hlt : szRs d.kids < szRs l := by
    have := szRs_mem hd
    rw [szR_kids] at this
    omega
  refine ⟨k :: ks, List.nodup_cons.2 ⟨fun hin => ?_, h1⟩, by simp [h2], fun k' hk' => ?_⟩
  · obtain ⟨_, l', h4, h5⟩ := h3 k hin
    rw [← hk.fun h4] at h5
    omega
  · rcases List.mem_cons.1 hk' with rfl | hk'
    · exact ⟨⟨x, hx⟩, _, hk, Nat.le_refl _⟩
    · obtain ⟨h4, l', h5, h6⟩ := h3 k' hk'
      exact ⟨h4, l', h5, by omega⟩
theorem nodup_le {α : Type} [DecidableEq α] : ∀ (ks l : List α), ks.Nodup → (∀ k ∈ ks, k ∈ l) → ks.length ≤ l.length
  | [], _, _, _ => Nat.zero_le _
  | k :: ks, l, h, hm => by
    rw [List.nodup_cons] at h
    have hk := hm k (.head _)
    have ih := nodup_le ks (l.erase k) h.2 fun x hx => (List.mem_erase_of_ne (fun e => h.1 (by rw [← e]; exact hx))).2 (hm x (.tail _ hx))
    rw [List.length_erase_of_mem hk] at ih
    have := List.length_pos_of_mem hk
    rw [List.length_cons]
    omega
theorem Chain.len {w0 : World} {mb a : Nat} {mk : List (Ky × Int)} {l : List Rdp} (h : Chain w0 mb a mk l) : a ≤ mk.length := by
  obtain ⟨ks, h1, h2, h3⟩ := h
  have := nodup_le ks (mk.map (·.1)) h1 fun k hk => by
    obtain ⟨⟨x, hx⟩, _⟩ := h3 k hk
    exact List.mem_map.2 ⟨_, hx, rfl⟩
  rw [List.length_map] at this
  omega
/-- A list of kids, as a slice of them stands in a list. -/
def Rlv (w0 : World) (mb m : Nat) : Rel (List Rdp) := fun _ _ cs l => ∃ v, cs = [v] ∧ Sk 5 (Rr m) (fun i => i = mb) w0 v l
theorem good_lv (w0 : World) (mb m : Nat) : Good 1 (Rlv w0 mb m) := ⟨fun h _ => h, fun h _ => h, (fun ⟨v, h1, _⟩ => by subst h1; rfl), (fun ⟨v, h1, h2⟩ u hu => by
  subst h1
  obtain ⟨A, cap, rfl, _⟩ := h2.form
  simp at hu
  subst hu
  rfl)⟩
theorem free_lv (w0 : World) (mb m : Nat) : FreeR (Rlv w0 mb m) := fun _ _ _ _ _ _ h => h
theorem own_map {α : Type} {sz : Nat} {R : Rel α} {e : TypeId} {base : Nat} {X : Nat → Prop} {w : World} {v : Value} {l : List α} (h : OwnL sz R e base X w v l) {b : Nat} {mo : Obj} {ks : List (Ky × Int)} (hb : w.heap[b]? = some mo) (hm : MapK mo ks) : v.ownBlock ≠ some b := fun e1 => by
  obtain ⟨css, ho, _⟩ := h
  obtain ⟨es, c, rfl, _⟩ := hm
  rcases ho.2 with ⟨h0, _⟩ | ⟨g, cap, cur, h0, _, hg, _⟩
  · rw [h0] at e1; simp [Value.ownBlock] at e1
  · rw [h0] at e1
    have e1 : some g = some b := e1
    injection e1 with e1
    subst e1
    rw [hb] at hg
    injection hg with hg
    cases hg
theorem OwnL.keepF {α : Type} {sz : Nat} {R : Rel α} {X Z : Nat → Prop} {w w' : World} {v : Value} {l : List α} {e : TypeId} {B : Nat} (F : FreeR R) (h : OwnL sz R e B X w v l) (k : Kept Z w w') (hz : ∀ i, v.ownBlock = some i → ¬ Z i) : OwnL sz R e B X w' v l := by
  obtain ⟨css, ho, hl, hX, hR⟩ := h
  exact ⟨css, k.own ho hz, hl, hX, fun j h h' => F _ _ _ _ _ _ (hR j h h')⟩
def putM (W : World) (b : Nat) (mo : Obj) : World := { W with heap := W.heap.setIfInBounds b mo }
theorem putM_kept (W : World) (b : Nat) (mo : Obj) : Kept (fun k => k = b) W (putM W b mo) := ⟨rfl, rfl, rfl, by simp [putM], fun k _ hx => by
  show (W.heap.setIfInBounds b mo)[k]? = _
  rw [Array.getElem?_setIfInBounds_ne (fun e => hx e.symm)]⟩
theorem putM_at (W : World) (b : Nat) (mo : Obj) (h : b < W.heap.size) : (putM W b mo).heap[b]? = some mo := by
  show (W.heap.setIfInBounds b mo)[b]? = _
  rw [Array.getElem?_setIfInBounds_self_of_lt h]
/-- What Depth has in memory in a round, behind so many dependencies. -/
structure DP (w0 : World) (mb : Nat) (WB : World) (j a D : Nat) (ps : List Rdp) (hb : Nat) (v7 : Value) (D' : Nat) (bl : List (List Rdp)) (hk mk : List (Ky × Int)) (W : World) : Prop where
  kept : Kept (fun k => WB.heap.size ≤ k ∨ k = mb) WB W
  own : OwnL 1 (Rlv w0 mb j) 25 WB.heap.size nowhere W v7 bl
  hm : ∃ mo, W.heap[hb]? = some mo ∧ MapK mo hk
  mm : ∃ mo, W.heap[mb]? = some mo ∧ MapK mo mk
  eq : max D' (levs (a + 1) bl) = max D (lv a ps)
  hin : ∀ p ∈ hk, ∃ l ∈ bl, KG w0 mb p.1 l
  min : ∀ p ∈ mk, ∃ l, KG w0 mb p.1 l
  chn : ∀ l ∈ bl, Chain w0 mb (a + 1) mk l
  dl : D' ≤ a + 1
  len : tot bl + bl.length ≤ szRs ps
section
variable {w0 WB W W' : World} {mb j a D hb D' : Nat} {ps : List Rdp} {v7 : Value} {bl : List (List Rdp)} {hk mk : List (Ky × Int)}
theorem DP.below (h : DP w0 mb WB j a D ps hb v7 D' bl hk mk W) (hB : Below W.heap.size W W') : DP w0 mb WB j a D ps hb v7 D' bl hk mk W' := by
  obtain ⟨mo, h1, h2⟩ := h.hm
  obtain ⟨mo', h3, h4⟩ := h.mm
  exact ⟨h.kept.trans (Kept.of_below hB _), h.own.keepF (free_lv _ _ _) (Kept.of_below hB nowhere) (fun _ _ h => h), ⟨mo, (hB.block hb (Array.getElem?_eq_some_iff.1 h1).1).trans h1, h2⟩, ⟨mo', (hB.block mb (Array.getElem?_eq_some_iff.1 h3).1).trans h3, h4⟩, h.eq, h.hin, h.min, h.chn, h.dl, h.len⟩
theorem DP.leaf (h : DP w0 mb WB j a D ps hb v7 D' bl hk mk W) (d : Rdp) (hd : d.kids = []) : DP w0 mb WB j a D (ps ++ [d]) hb v7 (max D' (a + dR d)) bl hk mk W := by
  refine ⟨h.kept, h.own, h.hm, h.mm, ?_, h.hin, h.min, h.chn, ?_, ?_⟩
  · have := h.eq
    rw [lv_app, lv, lv]
    omega
  · have := h.dl
    rw [dR_leaf d hd]
    split <;> omega
  · have := h.len
    rw [szRs_app]
    omega
theorem DP.dup (h : DP w0 mb WB j a D ps hb v7 D' bl hk mk W) (d : Rdp) (hd : d.kids ≠ []) {k : Ky} (hg : KG w0 mb k d.kids) (hf : findK k hk ≠ none) : DP w0 mb WB j a D (ps ++ [d]) hb v7 D' bl hk mk W := by
  refine ⟨h.kept, h.own, h.hm, h.mm, ?_, h.hin, h.min, h.chn, h.dl, ?_⟩
  · have := h.eq
    obtain ⟨q, hq⟩ := Option.ne_none_iff_exists'.1 hf
    obtain ⟨l, hl, hl2⟩ := h.hin _ (List.mem_of_getElem? (findK_some hq))
    rw [← hg.fun hl2] at hl
    have hle := lv_mem (a + 1) hl
    rw [lv_kids a d hd] at hle
    rw [lv_app, lv, lv]
    omega
  · have := h.len
    rw [szRs_app]
    omega
theorem DP.new (h : DP w0 mb WB j a D ps hb v7 D' bl hk mk W) (d : Rdp) (hd : d.kids ≠ []) {k : Ky} (hg : KG w0 mb k d.kids) {l : List Rdp} (hc : Chain w0 mb a mk l) (hdl : d ∈ l)
    {v' : Value} {hk' mk' : List (Ky × Int)} {x y : Int} (kept : Kept (fun k => WB.heap.size ≤ k ∨ k = mb) WB W') (own : OwnL 1 (Rlv w0 mb j) 25 WB.heap.size nowhere W' v' (bl ++ [d.kids]))
    (hm : ∃ mo, W'.heap[hb]? = some mo ∧ MapK mo hk') (mm : ∃ mo, W'.heap[mb]? = some mo ∧ MapK mo mk')
    (a1 : ∀ p ∈ hk', p ∈ hk ∨ p = (k, x)) (b1 : ∀ p ∈ mk', p ∈ mk ∨ p = (k, y)) (b2 : ∀ p ∈ mk, ∃ y, (p.1, y) ∈ mk') (b3 : (k, y) ∈ mk') :
    DP w0 mb WB j a D (ps ++ [d]) hb v' D' (bl ++ [d.kids]) hk' mk' W' := by
  refine ⟨kept, own, hm, mm, ?_, fun p hp => ?_, fun p hp => ?_, fun l' hl' => ?_, h.dl, ?_⟩
  · have := h.eq
    rw [lv_app, lv, lv, levs_app, levs, levs, lv_kids a d hd]
    omega
  · rcases a1 p hp with h1 | rfl
    · obtain ⟨l1, h2, h3⟩ := h.hin p h1
      exact ⟨l1, List.mem_append_left _ h2, h3⟩
    · exact ⟨_, List.mem_append_right _ (.head _), hg⟩
  · rcases b1 p hp with h1 | rfl
    · exact h.min p h1
    · exact ⟨_, hg⟩
  · rcases List.mem_append.1 hl' with h1 | h1
    · exact (h.chn l' h1).mono b2
    · rw [List.mem_singleton] at h1
      subst h1
      exact hc.step b2 hdl hg b3
  · have := h.len
    rw [szRs_app, tot_app, tot, tot, List.length_append, szRs, szRs, szR_kids]
    simp
    omega
end
end Go.Proofs.YtjdcegogkafmoaaDoor
