/- Bytes put behind a text that was turned into bytes, and behind a constant's bytes. -/
import Derived.Test.YtpheifdpjcppdaaGreatDoorTaAC
import Derived.Deep.AppendSrc
namespace Go.Proofs.YtpheifdpjcppdaaGreatDoor
open Go.RowKit
theorem src_bytes {P : Program} {w : World} {t e : TypeId} (ht : P.underlying t = some (.slice e)) {A : Option Addr} {m c : Nat} {news : List UInt8} (h : SB w (.slice A m c) news) : Src P 1 t (.slice A m c) m (bvs news) w := by
  obtain ⟨hm, _, _, hnil, hc⟩ := h.cells
  have hl : (bvs news).length = m * 1 := by rw [bvs_length]; omega
  have one := bvs_one news
  rcases Nat.eq_zero_or_pos m with h0 | h0
  · subst h0
    have hn : news = [] := List.eq_nil_of_length_eq_zero hm.symm
    subst hn
    cases A with
    | none => exact Src.ofNil w ht c
    | some a => exact Src.ofSlice w ht a 0 c _ hl (fun j u hu => by simp [bvs] at hu) one
  · obtain ⟨b, off, rfl, hcell⟩ := hc h0
    refine Src.ofSlice w ht _ m c _ hl (fun j u hu => ?_) one
    have hj : j < news.length := by have := (List.getElem?_eq_some_iff.1 hu).1; rwa [bvs_length] at this
    rw [bvs_get news j hj] at hu
    rw [Addr.add_lit, hcell j hj]
    exact hu
/-- A block that was made of a text's bytes. -/
structure CV (W : World) (e : TypeId) (gc cap : Nat) (s : List UInt8) : Prop where
  row : ∃ cs : Array Value, W.heap[gc]? = some (.cells cs e (cs.size, cs.size + 1)) ∧ cs.size = cap ∧ ∀ j (h : j < s.length), cs[j]? = some (.int .u8 (s[j].toNat : Int))
  le : s.length ≤ cap
  max : cap ≤ maxLen
theorem conv_cv {P : Program} (w : World) (src dst e : TypeId) (s : List UInt8) (hs : P.underlying src = some .string) (hd : P.underlying dst = some (.slice e)) (he : P.underlying e = some (.int .u8)) (hl : s.length ≤ 1000000000) :
    ∃ gc cap w', (convert src dst (.string (bs s))).run P w = .ok (.slice (some ⟨gc, 0, none⟩) s.length cap) w' ∧ Below w.heap.size w w' ∧ w.heap.size ≤ gc ∧ CV w' e gc cap s := by
  have hr := run_bytes_of_string (P := P) w src dst e (bs s) hs hd he
  have hge := grownCap_ge w s.length 0 e
  have hcm : grownCap w s.length 0 e ≤ maxLen := grownCap_le_maxLen w s.length 0 e (by unfold maxLen; omega)
  rw [bs_size] at hr
  have hblk := heap_alloc_new w.drew (.cells (bytesRow (bs s) (grownCap w s.length 0 e)) e ((bytesRow (bs s) (grownCap w s.length 0 e)).size, (bytesRow (bs s) (grownCap w s.length 0 e)).size + 1))
  have hbs : (bs s).data.size = s.length := by simp [bs]
  refine ⟨_, _, _, hr, ((Below.refl _ w).drew).alloc (Nat.le_refl _) _, Nat.le_refl _, ⟨_, hblk, ?_, fun j hj => ?_⟩, hge, hcm⟩
  · have : (bs s).size = s.length := bs_size s
    simp only [bytesRow, Array.size_append, Array.size_map, Array.size_replicate, hbs, this]
    omega
  · have hb := bytesRow_at (bs s) (grownCap w s.length 0 e) j (by rw [hbs]; exact hj)
    rw [hb]
    simp [bs]
theorem CV.cell {W : World} {e : TypeId} {gc cap : Nat} {s : List UInt8} (h : CV W e gc cap s) (j : Nat) (hj : j < s.length) : W.cell? ⟨gc, j, none⟩ = some (.int .u8 (s[j].toNat : Int)) := by
  obtain ⟨cs, h1, h2, h3⟩ := h.row
  rw [cell_of_row W gc j cs e _ h1]
  exact h3 j hj
theorem CV.there {W : World} {e : TypeId} {gc cap : Nat} {s : List UInt8} (h : CV W e gc cap s) (j : Nat) (hj : j < cap) : (W.cell? ⟨gc, j, none⟩).isSome = true ∧ W.frozen? ⟨gc, j, none⟩ = false := by
  obtain ⟨cs, h1, h2, h3⟩ := h.row
  refine ⟨?_, ?_⟩
  · rw [cell_of_row W gc j cs e _ h1, Array.getElem?_eq_getElem (by omega)]; rfl
  · simp only [World.frozen?, h1]
    simp
    omega
theorem CV.lt {W : World} {e : TypeId} {gc cap : Nat} {s : List UInt8} (h : CV W e gc cap s) : gc < W.heap.size := by
  obtain ⟨cs, h1, _⟩ := h.row
  exact (Array.getElem?_eq_some_iff.1 h1).1
theorem below_setCells {W : World} {B gc : Nat} (hB : B ≤ gc) : ∀ (vs : List Value) (o : Nat) {w : World}, Below B W w → Below B W (w.setCells gc o vs)
  | [], _, _, h => h
  | v :: r, o, _, h => below_setCells hB r (o + 1) (h.setCell (p := ⟨gc, o, none⟩) hB v)
/-- append(bytes of a text, bytes..). -/
theorem wpList_conv_bytes {P : Program} {W : World} {ops : Array Oper} {rest : List Oper} {o : Oper} {a : Act} {Q : Exit → Act → World → Prop} (hgd : o.guard = none) (sl x : Operand) (t : TypeId) {e : TypeId}
    (ho : o.op = .call { callee := .builtin .append, args := #[sl, x], argTypes := #[t, t] }) (ht : P.underlying t = some (.slice e))
    (hinfo : (P.info? e).map (fun i => (i.zero, i.size, i.bytes)) = some (some (.int .u8 0), 1, 1)) {gc cap : Nat} {s : List UInt8} (hs : a.eval sl = .slice (some ⟨gc, 0, none⟩) s.length cap) (hcv : CV W e gc cap s)
    (A : Option Addr) (m c : Nat) (news : List UInt8) (hx : a.eval x = .slice A m c) (hsb : SB W (.slice A m c) news) (hn : s.length + news.length ≤ 100000000) {B : Nat} (hB : B ≤ gc)
    (h : ∀ A' c' w', Below B W w' → (∀ X : Nat → Prop, (∀ k, X k → k < B) → Sl 1 Rbyte X w' (.slice A' (s ++ news).length c') (s ++ news)) → wpList P ops Q rest (a.put o.dst (.slice A' (s ++ news).length c')) w') : wpList P ops Q (o :: rest) a W := by
  refine wpList_plain hgd fun K hK => ?_
  obtain ⟨i0, hi, hz0, hz1, hz2⟩ := info_parts hinfo
  have hm := hsb.cells.1
  have hsrc := src_bytes ht hsb
  rw [← hz1] at hsrc
  have hlen : (s ++ news).length = s.length + m := by rw [List.length_append, hm]
  have hnl : (bvs news).length = m := by rw [bvs_length]; omega
  have hgl := hcv.lt
  unfold Oper.wp execOp
  by_cases hroom : s.length + m ≤ cap
  · have hr := run_append_room_src (P := P) W t t o.type e i0 ht hi gc 0 s.length cap (.slice A m c) m (bvs news) hsrc hroom
      (fun j hj => by rw [hz1]; have := (hcv.there (0 + s.length * 1 + j) (by omega)).1; exact this) (fun j hj => by rw [hz1]; exact (hcv.there (0 + s.length * 1 + j) (by omega)).2)
    simp only [ho, resolve, invoke, builtin, Sem.run_bind, Sem.run_pure, Result.andThen_ok, List.map_toArray, List.map_cons, List.map_nil, hs, hx, hr]
    have key := h (some ⟨gc, 0, none⟩) cap (W.setCells gc (0 + s.length * i0.size) (bvs news)) (below_setCells hB _ _ (Below.refl _ _)) ?_
    · rw [hlen] at key
      exact hK _ _ key
    · intro X hX
      rw [hz1]
      refine ⟨_, _, rfl, by rw [hlen]; omega, hcv.max, (fun h => by cases h), fun _ => ⟨gc, 0, rfl, fun hc => absurd (hX gc hc) (by omega), fun j hj => ⟨[.int .u8 ((s ++ news)[j].toNat : Int)], fun i u hu => ?_, rfl⟩⟩, fun b off hA i hi => ?_⟩
      · have hi0 : i = 0 := by
          have := (List.getElem?_eq_some_iff.1 hu).1
          simp at this; omega
        subst hi0
        simp at hu
        subst hu
        simp only [Nat.zero_add, Nat.mul_one, Nat.add_zero]
        by_cases hjs : j < s.length
        · rw [World.cell?_setCells_out gc _ _ _ _ (fun _ _ => Or.inl (by show j < s.length; omega)), hcv.cell j hjs, List.getElem_append_left hjs]
        · have hj2 : j - s.length < news.length := by rw [List.length_append] at hj; omega
          have := World.cell?_setCells_in gc (bvs news) (s.length) W (fun j hj => (hcv.there (s.length + j) (by omega)).1) (j - s.length) (by rw [bvs_length]; exact hj2)
          rw [show s.length + (j - s.length) = j by omega] at this
          rw [this, List.getElem_append_right (by omega)]
          simp [bvs, bv]
      · injection hA with hA
        injection hA with e1 e2
        subst e1 e2
        rw [World.frozen?_setCells]
        exact (hcv.there _ (by omega)).2
  · have hold : (Builtin.firstCells i0.size s.length (.slice (some ⟨gc, 0, none⟩) s.length cap)).run P W.drew = .ok (bvs s).toArray W.drew := by
      rw [hz1]
      refine run_firstCells_some W.drew 1 s.length ⟨gc, 0, none⟩ s.length cap (bvs s) (by rw [bvs_length]; omega) fun j u hu => ?_
      have hj : j < s.length := by have := (List.getElem?_eq_some_iff.1 hu).1; rwa [bvs_length] at this
      rw [bvs_get s j hj] at hu
      rw [Addr.add_lit, Nat.zero_add, ← hu]
      exact hcv.cell j hj
    have hr := run_append_grow_src (P := P) W t t o.type e i0 _ ht hi hz0 (some ⟨gc, 0, none⟩) s.length cap (bvs s) hold (.slice A m c) m (bvs news) hsrc (by omega) (by omega) (by rw [hz2]; exact growslice_fits (by omega) (by omega))
    simp only [ho, resolve, invoke, builtin, Sem.run_bind, Sem.run_pure, Result.andThen_ok, List.map_toArray, List.map_cons, List.map_nil, hs, hx, hr]
    have hge := grownCap_ge W (s.length + m) cap e
    have hcm : grownCap W (s.length + m) cap e ≤ maxLen := grownCap_le_maxLen W (s.length + m) cap e (by unfold maxLen; omega)
    have hblk := heap_alloc_new W.drew (.cells ((bvs s ++ bvs news).toArray ++ Builtin.zeroCells (Value.int IntKind.u8 0).cells (grownCap W (s.length + m) cap e - (s.length + m))) e)
    have key := h (some ⟨W.heap.size, 0, none⟩) (grownCap W (s.length + m) cap e) (W.drew.alloc (.cells ((bvs s ++ bvs news).toArray ++ Builtin.zeroCells (Value.int IntKind.u8 0).cells (grownCap W (s.length + m) cap e - (s.length + m))) e)) (((Below.refl _ _).drew).alloc (by show B ≤ W.heap.size; omega) _) ?_
    · rw [hlen] at key
      exact hK _ _ key
    · intro X hX
      refine ⟨_, _, rfl, by rw [hlen]; omega, hcm, (fun h => by cases h), fun _ => ⟨W.heap.size, 0, rfl, fun hc => absurd (hX _ hc) (by omega), fun j hj => ⟨[.int .u8 ((s ++ news)[j].toNat : Int)], fun i u hu => ?_, rfl⟩⟩, fun b off hA i hi => ?_⟩
      · have hi0 : i = 0 := by
          have := (List.getElem?_eq_some_iff.1 hu).1
          simp at this; omega
        subst hi0
        simp at hu
        subst hu
        simp only [Nat.zero_add, Nat.mul_one, Nat.add_zero]
        have hg := cell_of_row _ W.heap.size j _ e _ hblk
        rw [hg, Array.getElem?_append_left (by simp [bvs_length]; rw [List.length_append] at hj; omega), List.getElem?_toArray, ← bvs_append, bvs_get (s ++ news) j hj]
      · injection hA with hA
        injection hA with e1 e2
        subst e1 e2
        exact frozen_of_row _ W.heap.size _ _ e hblk
end Go.Proofs.YtpheifdpjcppdaaGreatDoor
