/- The walk of entry's awake. -/
import Derived.Test.YtjhikglgaoncjaaDoorEnQ
import Derived.Lib.SmallJoins
import Derived.Test.YtjhikglgaoncjaaDoorU8
namespace Go.Proofs.YtjhikglgaoncjaaDoor
open Go.RowKit
theorem lit_bytes {w : World} {g : Nat} {X : Nat → Prop} (l : List UInt8) (h : w.heap[g]? = some (.cells (l.map fun c => Value.int .u8 (c.toNat : Int)).toArray 5 (l.length, l.length + 1))) (hl : l.length ≤ 1000000) (hX : ¬ X g) : Sl 1 Rbyte X w (.slice (some ⟨g, 0, none⟩) l.length l.length) l := by
  refine ⟨_, l.length, rfl, Nat.le_refl _, by unfold maxLen; omega, (fun h => by cases h), fun _ => ⟨g, 0, rfl, hX, fun j hj => ?_⟩, fun b off hA i hi => ?_⟩
  · refine ⟨[.int .u8 (l[j].toNat : Int)], fun i u hu => ?_, rfl⟩
    simp only [World.cell?, h]
    match i, hu with
    | 0, hu => simp at hu; subst hu; simp [hj]
    | i + 1, hu => simp at hu
  · injection hA with hA
    injection hA with e1 e2
    subst e1 e2
    simp only [World.frozen?, h]
    simp
    omega
theorem lit_ents {w : World} {g : Nat} {X : Nat → Prop} (l : List En) (f : Nat → Value) (h : Blk w g tE (ofC l f).toArray) (hl : l.length ≤ 1000000) (hX : ¬ X g) (hd : ∀ j (h : j < l.length), Sl 1 Rbyte X w (f j) l[j].data) : Sl 10 Rent X w (.slice (some ⟨g, 0, none⟩) l.length l.length) l := by
  refine ⟨_, l.length, rfl, Nat.le_refl _, by unfold maxLen; omega, (fun h => by cases h), fun _ => ⟨g, 0, rfl, hX, fun j hj => ?_⟩, fun b off hA i _ => ?_⟩
  · refine ⟨entC l[j] (f j), fun i u hu => ?_, f j, rfl, hd j hj⟩
    have hi : i < 10 := (List.getElem?_eq_some_iff.1 hu).1
    rw [h.cell, List.getElem?_toArray, Nat.zero_add, ofC_at l f j hj i hi]
    exact hu
  · injection hA with hA
    injection hA with e1 e2
    subst e1 e2
    exact h.frozen _
def aw1 : En := ⟨[98], 1, 0, 0, 0, [], [], 0, [], [120]⟩
def aw2 : En := ⟨[97], 4, 0, 0, 0, [], [], 0, [98], []⟩
def aw3 : En := ⟨[97], 1, 0, 0, 0, [], [], 0, [], []⟩
def aw4 : En := ⟨[97, 47, 98], 1, 0, 0, 0, [], [], 0, [], []⟩
theorem aw_chk : chkL [aw1, aw2] = (0, 0) := by decide +kernel
theorem aw_chk2 : chkL [aw3, aw4] = (1, 9) := by decide +kernel
def aw5 : En := ⟨[98], 4, 0, 0, 0, [], [], 0, [97], []⟩
def aw6 : En := ⟨[97], 1, 0, 0, 0, [], [], 0, [], [120]⟩
theorem aw_out : outK [aw1, aw2] 2 = [aw5, aw6] := by rfl
theorem aw_sort (l' : List En) (hp : l'.Perm [aw5, aw6]) (hs : l'.Pairwise (fun a b => Op.bytesLess b.path a.path = false)) : l' = [aw6, aw5] := by
  have hl := hp.length_eq
  match l', hl with
  | [x, y], _ =>
    have hx : x ∈ [aw5, aw6] := hp.mem_iff.1 (by simp)
    have hy : y ∈ [aw5, aw6] := hp.mem_iff.1 (by simp)
    have h1 : aw5 ∈ [x, y] := hp.mem_iff.2 (by simp)
    have h2 : aw6 ∈ [x, y] := hp.mem_iff.2 (by simp)
    have hne : aw5 ≠ aw6 := fun e => absurd (congrArg En.kind e) (by decide)
    have hs := (List.pairwise_cons.1 hs).1 y (by simp)
    simp only [List.mem_cons, List.not_mem_nil, or_false] at hx hy h1 h2
    rcases hx with rfl | rfl
    · rcases hy with rfl | rfl
      · exact absurd (h2.elim id id) hne.symm
      · exact absurd hs (by decide)
    · rcases hy with rfl | rfl
      · rfl
      · exact absurd (h1.elim id id) hne
theorem Sl.sb {X : Nat → Prop} {w : World} {v : Value} {l : List UInt8} (h : Sl 1 Rbyte X w v l) : SB w v l := by
  obtain ⟨A, cap, hv, h1, h2, h3, h4, _⟩ := h
  refine ⟨A, cap, hv, h1, h2, h3, fun hl => ?_⟩
  obtain ⟨b, off, hA, _, hc⟩ := h4 hl
  refine ⟨b, off, hA, fun j hj => ?_⟩
  obtain ⟨cs, hcs, hR⟩ := hc j hj
  have hR : cs = [.int .u8 (l[j].toNat : Int)] := hR
  subst hR
  simpa using hcs 0 _ rfl
theorem aw_lb (l : List En) (h : (decide (l.length ≤ 1000000) && l.all fun e => decide (e.path.length ≤ 1000000000) && (decide (e.owner.length ≤ 1000000000) && (decide (e.group.length ≤ 1000000000) && decide (e.link.length ≤ 1000000000)))) = true) : LB l := by
  simp only [Bool.and_eq_true, decide_eq_true_eq, List.all_eq_true] at h
  exact ⟨h.1, fun e he => h.2 e he⟩
set_option maxRecDepth 20000 in
set_option maxHeartbeats 8000000 in
theorem awakeE (w : World) : Calls Tryd.prog 9 #[] w fun e w' => e = .returned (.bool true) ∧ Below w.heap.size w w' := by
  go_enter Tryd.func9, Tryd.ntmps9
  go_upto_region 1 with fail
  have hA := (Below.refl w.heap.size w).alloc (Nat.le_refl _) (.cells #[.int .u8 120] 5)
  have hcv : (convert 22 22 (.slice (some ⟨w.heap.size, 0, none⟩) 1 1)).run Tryd.prog (w.alloc (.cells #[.int .u8 120] 5)) = .ok (.slice (some ⟨w.heap.size, 0, none⟩) 1 1) (w.alloc (.cells #[.int .u8 120] 5 (1, 2))) := Lib.run_convert_bytes_const w _ _ #[.int .u8 120] 1 1 Tryd.underlying22 Tryd.underlying5
  go_wp2_with fail
  have hW : Hid (w.heap.size < ((w.alloc (.cells #[.int .u8 120] 5 (1, 2))).alloc (.cells (ofC [aw1, aw2] (fun j => if j = 0 then .slice (some ⟨w.heap.size, 0, none⟩) 1 1 else .slice none 0 0)).toArray tE)).heap.size ∧ Below w.heap.size w ((w.alloc (.cells #[.int .u8 120] 5 (1, 2))).alloc (.cells (ofC [aw1, aw2] (fun j => if j = 0 then .slice (some ⟨w.heap.size, 0, none⟩) 1 1 else .slice none 0 0)).toArray tE)) ∧
      Sl 10 Rent nowhere ((w.alloc (.cells #[.int .u8 120] 5 (1, 2))).alloc (.cells (ofC [aw1, aw2] (fun j => if j = 0 then .slice (some ⟨w.heap.size, 0, none⟩) 1 1 else .slice none 0 0)).toArray tE)) (.slice (some ⟨w.heap.size + 1, 0, none⟩) 2 2) [aw1, aw2]) := by
    have h1 : Below w.heap.size w (w.alloc (.cells #[.int .u8 120] 5 (1, 2))) := (Below.refl _ _).alloc (Nat.le_refl _) _
    have h2 : (w.alloc (.cells #[.int .u8 120] 5 (1, 2))).heap[w.heap.size]? = some (.cells #[.int .u8 120] 5 (1, 2)) := heap_alloc_new w _
    generalize hg : w.heap.size = g at h1 h2 ⊢
    have hs : (w.alloc (.cells #[.int .u8 120] 5 (1, 2))).heap.size = g + 1 := by rw [← hg]; simp
    generalize w.alloc (.cells #[.int .u8 120] 5 (1, 2)) = W1 at h1 h2 hs ⊢
    have b := Blk.new W1 tE (ofC [aw1, aw2] (fun j => if j = 0 then .slice (some ⟨g, 0, none⟩) 1 1 else .slice none 0 0)).toArray
    have hb : Below W1.heap.size W1 (W1.alloc (.cells (ofC [aw1, aw2] (fun j => if j = 0 then .slice (some ⟨g, 0, none⟩) 1 1 else .slice none 0 0)).toArray tE)) := (Below.refl _ _).alloc (Nat.le_refl _) _
    have d1 : Sl 1 Rbyte nowhere W1 (.slice (some ⟨g, 0, none⟩) 1 1) [120] := lit_bytes [120] h2 (by decide) (fun h => h)
    rw [hs] at b
    refine Lib.hid ⟨by simp [hs]; omega, h1.trans (hb.mono (by omega)), lit_ents [aw1, aw2] _ b (by decide) (fun h => h) fun j hj => ?_⟩
    match j, hj with
    | 0, _ => exact Below.sl good_byte hb d1
    | 1, _ => exact Sl.nil _ _ _ _
  have hWe : (w.alloc (.cells #[.int .u8 120] 5 (1, 2))).alloc (.cells #[.string (⟨#[98]⟩), .int .i64 1, .int .i64 0, .int .i64 0, .int .i64 0, .string ⟨#[]⟩, .string ⟨#[]⟩, .int .i64 0, .string ⟨#[]⟩, .slice (some ⟨w.heap.size, 0, none⟩) 1 1, .string (⟨#[97]⟩), .int .i64 4, .int .i64 0, .int .i64 0, .int .i64 0, .string ⟨#[]⟩, .string ⟨#[]⟩, .int .i64 0, .string (⟨#[98]⟩), .slice none 0 0] tE) = (w.alloc (.cells #[.int .u8 120] 5 (1, 2))).alloc (.cells (ofC [aw1, aw2] (fun j => if j = 0 then .slice (some ⟨w.heap.size, 0, none⟩) 1 1 else .slice none 0 0)).toArray tE) := rfl
  generalize (w.alloc (.cells #[.int .u8 120] 5 (1, 2))).alloc (.cells (ofC [aw1, aw2] (fun j => if j = 0 then .slice (some ⟨w.heap.size, 0, none⟩) 1 1 else .slice none 0 0)).toArray tE) = W2 at hW hWe
  obtain ⟨hlt, hbW, hsl⟩ := hW.out
  rw [hWe]
  refine (pcanon_any [aw1, aw2] _ nowhere W2 hsl (aw_lb _ (by decide)) (by intro e he; simp only [List.mem_cons, List.not_mem_nil, or_false] at he; rcases he with rfl | rfl <;> decide)).mono ?_
  rintro e w3 h
  rw [CanonR, aw_chk, if_pos rfl] at h
  obtain ⟨⟨v', l', f, B, hB, rfl, hE, hp, hs, _⟩, hb3⟩ := h
  obtain rfl := aw_sort l' hp hs
  obtain ⟨g, cap', rfl, hBg, _, _, _⟩ := hE.form (by decide)
  have e0 := hE.cell 0 (by decide)
  have e1 := hE.cell 1 (by decide)
  have d0 := hE.dat 0 (by decide)
  have q3 := hbW.trans (hb3.mono hbW.size)
  clear hWe hW hsl hp hs hE hb3 hcv hA
  go_upto_region 2 with fail
  have hW : Hid (Below w3.heap.size w3 (w3.alloc (.cells (ofC [aw3, aw4] (fun _ => .slice none 0 0)).toArray tE)) ∧ Sl 10 Rent nowhere (w3.alloc (.cells (ofC [aw3, aw4] (fun _ => .slice none 0 0)).toArray tE)) (.slice (some ⟨w3.heap.size, 0, none⟩) 2 2) [aw3, aw4]) := by
    refine Lib.hid ⟨(Below.refl _ _).alloc (Nat.le_refl _) _, lit_ents [aw3, aw4] _ (Blk.new w3 tE _) (by decide) (fun h => h) fun j hj => ?_⟩
    match j, hj with
    | 0, _ => exact Sl.nil _ _ _ _
    | 1, _ => exact Sl.nil _ _ _ _
  have hWe : w3.alloc (.cells #[.string ⟨#[97]⟩, .int .i64 1, .int .i64 0, .int .i64 0, .int .i64 0, .string ⟨#[]⟩, .string ⟨#[]⟩, .int .i64 0, .string ⟨#[]⟩, .slice none 0 0, .string ⟨#[97, 47, 98]⟩, .int .i64 1, .int .i64 0, .int .i64 0, .int .i64 0, .string ⟨#[]⟩, .string ⟨#[]⟩, .int .i64 0, .string ⟨#[]⟩, .slice none 0 0] tE) = w3.alloc (.cells (ofC [aw3, aw4] (fun _ => .slice none 0 0)).toArray tE) := rfl
  generalize w3.alloc (.cells (ofC [aw3, aw4] (fun _ => .slice none 0 0)).toArray tE) = W4 at hW hWe
  obtain ⟨hb4, hsl4⟩ := hW.out
  go_wp2_with fail
  refine (pchkall_any [aw3, aw4] _ nowhere W4 hsl4 (aw_lb _ (by decide))).mono ?_
  rintro e w5 ⟨rfl, hb5⟩
  rw [aw_chk2]
  have q5 := below_trans (below_trans q3 hb4) hb5
  have hb45 := below_trans hb4 hb5
  obtain ⟨c0, c1, _, _, _, _, _, _, _, c9⟩ := e0.below hb45
  obtain ⟨_, x1, _, _, _, _, _, _, x8, _⟩ := e1.below hb45
  have d := (Below.sl good_byte hb45 d0).sb
  obtain ⟨A, cap, hfv, _⟩ := (Below.sl good_byte hb45 d0).form
  rw [hfv] at c9 d
  have hst := str8 d
  clear hW hWe hsl4 hb4 hb5 hb45 e0 e1 d0 hfv d
  simp only [Nat.zero_mul, Nat.zero_add, Nat.one_mul, List.getElem_cons_zero, List.getElem_cons_succ] at c0 c1 c9 x1 x8 hst
  have k0 : aw6.path = [97] := rfl
  have k1 : aw6.kind = 1 := rfl
  have k2 : aw6.data = [120] := rfl
  have k3 : aw5.kind = 4 := rfl
  have k4 : aw5.link = [97] := rfl
  rw [k0] at c0
  rw [k1] at c1
  rw [k2] at c9 hst
  rw [k3] at x1
  rw [k4] at x8
  simp only [bs, List.length_cons, List.length_nil] at c0 c1 c9 x1 x8 hst
  go_wp2_with fail
  go_ret
  exact ⟨rfl, q5⟩
end Go.Proofs.YtjhikglgaoncjaaDoor
