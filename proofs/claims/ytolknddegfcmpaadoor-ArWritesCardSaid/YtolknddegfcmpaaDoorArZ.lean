/- ar's awake, and Write in whatever style. -/
import Derived.Test.YtolknddegfcmpaaDoorArY
import Derived.Test.YtolknddegfcmpaaDoorArN1
import Derived.Test.YtolknddegfcmpaaDoorArN2
import Derived.Test.YtolknddegfcmpaaDoorArP0
import Derived.Test.YtolknddegfcmpaaDoorArP1
import Derived.Test.YtolknddegfcmpaaDoorArP2
namespace Go.Proofs.YtolknddegfcmpaaDoor
open Go.RowKit
theorem writeX_any (l : List It) (v : Value) (st : Int) (w : World) (h0 : st ≠ 0) (h1 : st ≠ 1) (h2 : st ≠ 2) :
    Calls Tryd.prog 19 #[v, .int .i64 st] w (ArW w st l) := by
  have q0 : (st != 0) = true := by simpa using h0
  have q1 : (st != 1) = true := by simpa using h1
  have q2 : (st != 2) = true := by simpa using h2
  have HR : Hid (arErr st l = 1) := Lib.hid (by rw [arErr, if_pos ⟨h0, h1, h2⟩])
  clear h0 h1 h2
  go_enter Tryd.func19, Tryd.ntmps19
  go_wp2_with fail
  go_ret2
  refine ⟨_, by rw [HR.out]; rfl, Below.refl _ _, ?_⟩
  rw [HR.out, if_neg (by decide)]
  exact Sl.nil _ _ _ _
theorem rwriteX_any (l : List It) (v : Value) (st : Int) (w : World) (h0 : st ≠ 0) (h1 : st ≠ 1) (h2 : st ≠ 2) :
    Calls Tryd.prog 20 #[v, .int .i64 st] w (ArW w st l) := by
  have HR : Hid (arErr st l = 1) := Lib.hid (by rw [arErr, if_pos ⟨h0, h1, h2⟩])
  by_cases hn : st < 0
  · have q0 : decide (st < 0) = true := decide_eq_true hn
    clear h0 h1 h2 hn
    go_enter Tryd.func20, Tryd.ntmps20
    go_wp2_with fail
    go_ret2
    refine ⟨_, by rw [HR.out]; rfl, Below.refl _ _, ?_⟩
    rw [HR.out, if_neg (by decide)]
    exact Sl.nil _ _ _ _
  · have q0 : decide (st < 0) = false := decide_eq_false hn
    have q1 : decide (2 < st) = true := decide_eq_true (by omega)
    clear h0 h1 h2 hn
    go_enter Tryd.func20, Tryd.ntmps20
    go_wp2_with fail
    go_ret2
    refine ⟨_, by rw [HR.out]; rfl, Below.refl _ _, ?_⟩
    rw [HR.out, if_neg (by decide)]
    exact Sl.nil _ _ _ _
theorem arwrite_any (st : Int) (l : List It) (v : Value) (X : Nat → Prop) (w : World) (hsl : Sl 6 Rit X w v l) (hS : SmallI l) (hT : Tab w) (hD : Deb w) :
    Calls Tryd.prog 19 #[v, .int .i64 st] w (ArW w st l) := by
  by_cases h0 : st = 0
  · subst h0; exact write0_any l v X w hsl hS hT hD
  by_cases h1 : st = 1
  · subst h1; exact write1_any l v X w hsl hS hT hD
  by_cases h2 : st = 2
  · subst h2; exact write2_any l v X w hsl hS hT hD
  exact writeX_any l v st w h0 h1 h2
theorem arrwrite_any (st : Int) (l : List It) (v : Value) (X : Nat → Prop) (w : World) (hsl : Sl 6 Rit X w v l) (hS : SmallI l) :
    Calls Tryd.prog 20 #[v, .int .i64 st] w (ArW w st l) := by
  by_cases h0 : st = 0
  · subst h0; exact rwrite0_any l v X w hsl hS
  by_cases h1 : st = 1
  · subst h1; exact rwrite1_any l v X w hsl hS
  by_cases h2 : st = 2
  · subst h2; exact rwrite2_any l v X w hsl hS
  exact rwriteX_any l v st w h0 h1 h2
theorem lit_items {w : World} {g : Nat} {X : Nat → Prop} (e : It) (dv : Value) (h : Blk w g 46 (itC e dv).toArray) (hX : ¬ X g) (hd : Sl 1 Rbyte X w dv e.data) : Sl 6 Rit X w (.slice (some ⟨g, 0, none⟩) 1 1) [e] := by
  refine ⟨_, 1, rfl, Nat.le_refl _, by unfold maxLen; omega, (fun h => by cases h), fun _ => ⟨g, 0, rfl, hX, fun j hj => ?_⟩, fun b off hA i _ => ?_⟩
  · have hj0 : j = 0 := by simpa using hj
    subst hj0
    refine ⟨itC e dv, fun i u hu => ?_, dv, rfl, hd⟩
    rw [h.cell, List.getElem?_toArray]
    simpa using hu
  · injection hA with hA
    injection hA with e1 e2
    subst e1 e2
    exact h.frozen _
set_option maxRecDepth 20000 in
set_option maxHeartbeats 8000000 in
theorem awakeI (w : World) (hT : Tab w) (hD : Deb w) : Calls Tryd.prog 17 #[] w fun e w' => e = .returned (.bool true) ∧ Below w.heap.size w w' := by
  go_enter Tryd.func17, Tryd.ntmps17
  go_upto_region 1 with fail
  have hcv : (convert 26 26 (.slice (some ⟨w.heap.size, 0, none⟩) 1 1)).run Tryd.prog (w.alloc (.cells #[.int .u8 120] 5)) = .ok (.slice (some ⟨w.heap.size, 0, none⟩) 1 1) (w.alloc (.cells #[.int .u8 120] 5 (1, 2))) := Lib.run_convert_bytes_const w _ _ #[.int .u8 120] 1 1 Tryd.underlying26 Tryd.underlying5
  obtain ⟨W2, hW2, hbW, hsl⟩ : ∃ W, W = (w.alloc (.cells #[.int .u8 120] 5 (1, 2))).alloc (.cells #[.string ⟨#[97]⟩, .int .i64 1, .int .i64 0, .int .i64 0, .int .i64 64, .slice (some ⟨w.heap.size, 0, none⟩) 1 1] 46) ∧ Below w.heap.size w W ∧ Sl 6 Rit nowhere W (.slice (some ⟨w.heap.size + 1, 0, none⟩) 1 1) [awI] := by
    refine ⟨_, rfl, ?_⟩
    have h1 : Below w.heap.size w (w.alloc (.cells #[.int .u8 120] 5 (1, 2))) := (Below.refl _ _).alloc (Nat.le_refl _) _
    have h2 : (w.alloc (.cells #[.int .u8 120] 5 (1, 2))).heap[w.heap.size]? = some (.cells #[.int .u8 120] 5 (1, 2)) := heap_alloc_new w _
    generalize hg : w.heap.size = g at h1 h2 ⊢
    have hs : (w.alloc (.cells #[.int .u8 120] 5 (1, 2))).heap.size = g + 1 := by rw [← hg]; simp
    generalize w.alloc (.cells #[.int .u8 120] 5 (1, 2)) = W1 at h1 h2 hs ⊢
    have b : Blk (W1.alloc (.cells (itC awI (.slice (some ⟨g, 0, none⟩) 1 1)).toArray 46)) W1.heap.size 46 (itC awI (.slice (some ⟨g, 0, none⟩) 1 1)).toArray := Blk.new W1 _ _
    have hb : Below W1.heap.size W1 (W1.alloc (.cells (itC awI (.slice (some ⟨g, 0, none⟩) 1 1)).toArray 46)) := (Below.refl _ _).alloc (Nat.le_refl _) _
    have d1 : Sl 1 Rbyte nowhere W1 (.slice (some ⟨g, 0, none⟩) 1 1) [120] := lit_bytes [120] h2 (by decide) (fun h => h)
    rw [hs] at b
    exact ⟨h1.trans (hb.mono (by omega)), lit_items awI _ b (fun h => h) (Below.sl good_byte hb d1)⟩
  have hwr := write0_any [awI] _ nowhere W2 hsl aw_small (hT.below hbW) (hD.below (B := 0) hbW)
  clear hT hD
  go_upto_region 2 with (go_at_call 19; rw [show (w.alloc (.cells #[.int .u8 120] 5 (1, 2))).alloc (.cells #[.string ⟨#[97]⟩, .int .i64 1, .int .i64 0, .int .i64 0, .int .i64 64, .slice (some ⟨w.heap.size, 0, none⟩) 1 1] 46) = W2 from hW2.symm]; refine hwr.mono ?_; rintro e W3 ⟨v, rfl, hb3, how⟩; rw [aw_err]; rw [if_pos aw_err, aw_arc] at how)
  have q3 := hbW.trans (hb3.mono hbW.size)
  have hv : ∃ b off cap, v = .slice (some ⟨b, off, none⟩) 70 cap := by
    obtain ⟨A, cap, e, _, _, _, h4, _⟩ := how
    obtain ⟨b, off, e2, _⟩ := h4 (by decide +kernel)
    rw [e, e2, awA_len]
    exact ⟨b, off, cap, rfl⟩
  obtain ⟨b, off, cap, rfl⟩ := hv
  have hr := read_aw b off cap W3 how
  clear hcv hW2 hsl hbW hb3 hwr
  go_upto_region 3 with (go_at_call 35; refine hr.mono ?_; rintro e W4 ⟨⟨gi, ci, rfl, hgot⟩, hb4⟩)
  have how4 := Below.sl good_byte hb4 how
  have hbA : Below W4.heap.size W4 (W4.alloc (.cells #[.string ⟨#[]⟩, .int .i64 0, .int .i64 0] 32)) := (Below.refl _ _).alloc (Nat.le_refl _) _
  have bA := Blk.new W4 32 #[.string ⟨#[]⟩, .int .i64 0, .int .i64 0]
  have hgA := hgot.keep (Kept.of_below hbA nowhere) (fun h => h)
  have q4 := q3.trans (hb4.mono q3.size)
  have q5 := q4.trans (hbA.mono q4.size)
  have hst0 := str8 (Below.sl good_byte hbA how4).sb8
  clear hb4 how how4 hgot hr q3 q4 hbA
  generalize W4.alloc (.cells #[.string ⟨#[]⟩, .int .i64 0, .int .i64 0] 32) = W5 at hgA bA q5 hst0 ⊢
  generalize W4.heap.size = gA at bA ⊢
  have z0 := bA.cell 0
  have z1 := bA.cell 1
  have z2 := bA.cell 2
  simp at z0 z1 z2
  obtain ⟨g0, g4⟩ := hgA
  have haw : bs awA = (⟨([33, 60, 97, 114, 99, 104, 62, 10, 97, 32, 32, 32, 32, 32, 32, 32, 32, 32, 32, 32, 32, 32, 32, 32, 49, 32, 32, 32, 32, 32, 32, 32, 32, 32, 32].append [32, 48, 32, 32, 32, 32, 32, 48, 32, 32, 32, 32, 32, 49, 48, 48, 32, 32, 32, 32, 32, 49, 32, 32, 32, 32, 32, 32, 32, 32, 32, 96, 10, 120, 10]).toArray⟩ : ByteArray) := by decide +kernel
  have hst : (convert 26 9 (.slice (some ⟨b, off, none⟩) 70 cap)).run Tryd.prog W5 = .ok (.string (⟨([33, 60, 97, 114, 99, 104, 62, 10, 97, 32, 32, 32, 32, 32, 32, 32, 32, 32, 32, 32, 32, 32, 32, 32, 49, 32, 32, 32, 32, 32, 32, 32, 32, 32, 32].append [32, 48, 32, 32, 32, 32, 32, 48, 32, 32, 32, 32, 32, 49, 48, 48, 32, 32, 32, 32, 32, 49, 32, 32, 32, 32, 32, 32, 32, 32, 32, 96, 10, 120, 10]).toArray⟩ : ByteArray)) W5 := by rw [← haw]; exact hst0
  clear hst0 bA haw
  go_wp2_with fail
  go_ret
  exact ⟨rfl, q5⟩
end Go.Proofs.YtolknddegfcmpaaDoor
