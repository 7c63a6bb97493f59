/- ar's awake. -/
import Derived.Test.YtolknddegfcmpaaDoorArX
namespace Go.Proofs.YtolknddegfcmpaaDoor
open Go.RowKit
theorem blk_three {w : World} {g : Nat} {t : TypeId} {a b c : Value} (h : Blk w g t #[a, b, c]) (a' b' c' : Value) :
    Blk (((w.setCell ⟨g, 0, none⟩ a').setCell ⟨g, 1, none⟩ b').setCell ⟨g, 2, none⟩ c') g t #[a', b', c'] := by
  have := ((h.set (u := a') 0).set (u := b') 1).set (u := c') 2
  simpa using this
/-- What Read finds in the one archive. -/
def AwGot (w : World) (gi : Nat) : Prop := w.cell? ⟨gi, 0, none⟩ = some (.string ⟨#[97]⟩) ∧ w.cell? ⟨gi, 4, none⟩ = some (.int .i64 64)
theorem AwGot.keep {X : Nat → Prop} {w w' : World} {gi : Nat} (h : AwGot w gi) (k : Kept X w w') (hX : ¬ X gi) : AwGot w' gi := ⟨k.cell h.1 hX, k.cell h.2 hX⟩
set_option maxRecDepth 20000 in
set_option maxHeartbeats 8000000 in
theorem read_aw (b off cap : Nat) (w : World) (hb : Sl 1 Rbyte nowhere w (.slice (some ⟨b, off, none⟩) 70 cap) awA) :
    Calls Tryd.prog 35 #[.slice (some ⟨b, off, none⟩) 70 cap] w fun e w' => (∃ gi ci, e = .returned (.tuple #[.slice (some ⟨gi, 0, none⟩) 1 ci, .agg #[.string ⟨#[]⟩, .int .i64 0, .int .i64 0]]) ∧ AwGot w' gi) ∧ Below w.heap.size w w' := by
  go_enter Tryd.func35, Tryd.ntmps35
  go_upto_region 1 with fail
  have bF := Blk.new w 32 #[.string ⟨#[]⟩, .int .i64 0, .int .i64 0]
  have hq : Below w.heap.size w (w.alloc (.cells #[.string ⟨#[]⟩, .int .i64 0, .int .i64 0] 32)) := (Below.refl _ w).alloc (Nat.le_refl _) _
  have hFH : w.heap.size ≤ w.heap.size := Nat.le_refl _
  generalize w.alloc (.cells #[.string ⟨#[]⟩, .int .i64 0, .int .i64 0] 32) = W1 at bF hq ⊢
  generalize hgF : w.heap.size = gF at bF hFH ⊢
  have hFH : w.heap.size ≤ gF := by rw [hgF]; exact Nat.le_refl _
  have e1 : (W1.alloc (.cells #[.int .u8 33, .int .u8 60, .int .u8 97, .int .u8 114, .int .u8 99, .int .u8 104, .int .u8 62, .int .u8 10] 5)).heap.size = W1.heap.size + 1 := by simp
  have hcv : (convert 26 26 (.slice (some ⟨W1.heap.size, 0, none⟩) 8 8)).run Tryd.prog (W1.alloc (.cells #[.int .u8 33, .int .u8 60, .int .u8 97, .int .u8 114, .int .u8 99, .int .u8 104, .int .u8 62, .int .u8 10] 5)) = .ok (.slice (some ⟨W1.heap.size, 0, none⟩) 8 8) (W1.alloc (.cells #[.int .u8 33, .int .u8 60, .int .u8 97, .int .u8 114, .int .u8 99, .int .u8 104, .int .u8 62, .int .u8 10] 5 (8, 9))) := Lib.run_convert_bytes_const W1 _ _ #[.int .u8 33, .int .u8 60, .int .u8 97, .int .u8 114, .int .u8 99, .int .u8 104, .int .u8 62, .int .u8 10] 8 8 Tryd.underlying26 Tryd.underlying5
  have hqM : Below W1.heap.size W1 (W1.alloc (.cells #[.int .u8 33, .int .u8 60, .int .u8 97, .int .u8 114, .int .u8 99, .int .u8 104, .int .u8 62, .int .u8 10] 5 (8, 9))) := (Below.refl _ _).alloc (Nat.le_refl _) _
  have hlM : Sl 1 Rbyte nowhere (W1.alloc (.cells #[.int .u8 33, .int .u8 60, .int .u8 97, .int .u8 114, .int .u8 99, .int .u8 104, .int .u8 62, .int .u8 10] 5 (8, 9))) (.slice (some ⟨W1.heap.size, 0, none⟩) 8 8) markA := lit_bytes markA (heap_alloc_new W1 _) (by decide) (fun h => h)
  have hbM := hq.trans (hqM.mono hq.size)
  have hpx := prefix_aw _ b off cap W1.heap.size (Below.sl good_byte hbM hb) hlM
  have bFM := bF.below hqM bF.lt
  go_upto_region 3 with (go_at_call 59; refine hpx.mono ?_; rintro r W2 ⟨rfl, rfl⟩)
  clear hcv e1 hqM hlM hpx bF hq
  generalize W1.alloc (.cells #[.int .u8 33, .int .u8 60, .int .u8 97, .int .u8 114, .int .u8 99, .int .u8 104, .int .u8 62, .int .u8 10] 5 (8, 9)) = W2 at hbM bFM ⊢
  generalize W1.heap.size = gM
  go_upto_region 4 with fail
  have bR := Blk.new W2 108 #[.slice (some ⟨b, off, none⟩) 70 cap, .slice none 0 0, .slice none 0 0, .bool false]
  have hqR : Below W2.heap.size W2 (W2.alloc (.cells #[.slice (some ⟨b, off, none⟩) 70 cap, .slice none 0 0, .slice none 0 0, .bool false] 108)) := (Below.refl _ _).alloc (Nat.le_refl _) _
  have hbR := hbM.trans (hqR.mono hbM.size)
  have bFR := bFM.below hqR bFM.lt
  have hRH : w.heap.size ≤ W2.heap.size := hbM.size
  have hRF : gF ≠ W2.heap.size := fun e => by have := bFM.lt; omega
  clear hqR bFM hbM
  generalize W2.alloc (.cells #[.slice (some ⟨b, off, none⟩) 70 cap, .slice none 0 0, .slice none 0 0, .bool false] 108) = W3 at bR hbR bFR ⊢
  generalize W2.heap.size = gr at bR hRH hRF ⊢
  go_wp2_with fail
  go_loopg [5] 1 (fun G s5 wr => Below w.heap.size w wr ∧ Blk wr gF 32 #[.string ⟨#[]⟩, .int .i64 0, .int .i64 0] ∧ ((G = 1 ∧ s5 = .int .i64 8 ∧ Blk wr gr 108 #[.slice (some ⟨b, off, none⟩) 70 cap, .slice none 0 0, .slice none 0 0, .bool false]) ∨ (G = 0 ∧ s5 = .int .i64 70 ∧ ∃ gi ci, Blk wr gr 108 #[.slice (some ⟨b, off, none⟩) 70 cap, .slice (some ⟨gi, 0, none⟩) 1 ci, .slice none 0 0, .bool false] ∧ AwGot wr gi)))
  case atStart => exact ⟨hbR, bFR, .inl ⟨rfl, rfl, bR⟩⟩
  case round =>
    clear hbR bFR bR
    obtain ⟨hbw, bF, hmode⟩ := hrel
    rcases hmode with ⟨rfl, rfl, bR⟩ | ⟨rfl, rfl, gi, ci, bR, hgot⟩
    · have hm := member_aw gr b off cap wr (Below.sl good_byte hbw hb) bR
      go_wp2_with (go_at_call 60; refine hm.mono ?_; clear hm; rintro r W4 ⟨rfl, gi, ci, bR2, e0, e4, hk2⟩)
      have bF2 := hk2.blk bF hRF
      have hb2 := hbw.trans (hk2.below hbw.size fun k _ e => by rw [e]; exact hRH)
      go_roundg 0
      case measure => omega
      case rel => exact ⟨hb2, bF2, .inr ⟨rfl, rfl, gi, ci, bR2, e0, e4⟩⟩
    · have r1 := bR.cell 1
      have z0 := bF.cell 0
      have z1 := bF.cell 1
      have z2 := bF.cell 2
      have f0 := bF.frozen 0
      have f1 := bF.frozen 1
      have f2 := bF.frozen 2
      simp at r1 z0 z1 z2
      have hgi : gi ≠ gF := fun e => by
        have := hgot.1
        rw [e, z0] at this
        injection this with this
        injection this with this
        exact absurd (congrArg ByteArray.size this) (by decide)
      go_wp2_with fail
      have bRE := blk_three bF (.string ⟨#[]⟩) (.int .i64 0) (.int .i64 0)
      have hbE := ((hbw.setCell (p := ⟨gF, 0, none⟩) hFH (.string ⟨#[]⟩)).setCell (p := ⟨gF, 1, none⟩) hFH (.int .i64 0)).setCell (p := ⟨gF, 2, none⟩) hFH (.int .i64 0)
      have hkA : Kept (fun k => k = gF) wr (wr.setCell ⟨gF, 0, none⟩ (.string ⟨#[]⟩)) := (Kept.refl _ wr).setCell (p := ⟨gF, 0, none⟩) (.string ⟨#[]⟩) fun _ => rfl
      have hkB := hkA.setCell (p := ⟨gF, 1, none⟩) (.int .i64 0) fun _ => rfl
      have hkE := hkB.setCell (p := ⟨gF, 2, none⟩) (.int .i64 0) fun _ => rfl
      have hgE := hgot.keep hkE hgi
      clear hkA hkB hkE hgot z0 z1 z2 f0 f1 f2 r1 bF bR
      generalize ((wr.setCell ⟨gF, 0, none⟩ (.string ⟨#[]⟩)).setCell ⟨gF, 1, none⟩ (.int .i64 0)).setCell ⟨gF, 2, none⟩ (.int .i64 0) = W9 at bRE hbE hgE ⊢
      have k0 := bRE.cell 0
      have k1 := bRE.cell 1
      have k2 := bRE.cell 2
      simp at k0 k1 k2
      refine bodyPost_ret (v := .tuple #[.slice (some ⟨gi, 0, none⟩) 1 ci, .agg #[.string ⟨#[]⟩, .int .i64 0, .int .i64 0]]) (by simp [results, Tryd.results35, go_sem, k0, k1, k2]) rfl ?_
      exact ⟨⟨gi, ci, rfl, hgE⟩, hbE⟩
end Go.Proofs.YtolknddegfcmpaaDoor
