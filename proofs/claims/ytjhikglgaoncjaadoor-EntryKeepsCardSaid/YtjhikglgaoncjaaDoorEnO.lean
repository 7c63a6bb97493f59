/- The walk of entry.Copy. -/
import Derived.Test.YtjhikglgaoncjaaDoorEnN
namespace Go.Proofs.YtjhikglgaoncjaaDoor
open Go.RowKit
/-- Such data lie in what is new. -/
def FR (B n : Nat) (f : Nat → Value) : Prop := ∀ j, j < n → ∀ bb, (f j).ownBlock = some bb → B ≤ bb
theorem FR.upd {B n k : Nat} {f : Nat → Value} {u : Value} (h : FR B n f) (hu : ∀ bb, u.ownBlock = some bb → B ≤ bb) : FR B n (upd f k u) := by
  intro j hj bb hb
  by_cases hjk : j = k
  · rw [Go.Proofs.YtjhikglgaoncjaaDoor.upd, if_pos hjk] at hb; exact hu bb hb
  · rw [Go.Proofs.YtjhikglgaoncjaaDoor.upd, if_neg hjk] at hb; exact h j hj bb hb
theorem set_same {l : List En} {k : Nat} (h : k < l.length) : l.set k l[k] = l := List.set_getElem_self h
set_option maxRecDepth 20000 in
set_option maxHeartbeats 8000000 in
theorem copy_any (l : List En) (v : Value) (X : Nat → Prop) (w : World) (hsl : Sl 10 Rent X w v l) (hl : l.length ≤ 1000000) (hd : ∀ e ∈ l, e.data.length ≤ 140737488355328) :
    Calls Tryd.prog 23 #[v] w fun e w' => (∃ v' f, e = .returned v' ∧ EO w.heap.size w' v' l f ∧ FR w.heap.size l.length f) ∧ Below w.heap.size w w' := by
  have HD := Lib.hid hd
  clear hd
  obtain ⟨A, cap, rfl, _, _⟩ := hsl.form
  go_enter Tryd.func23, Tryd.ntmps23
  go_wp2_with fail
  refine (eclone_any l _ X _ hsl hl).mono ?_
  rintro e w1 ⟨⟨v', f0, rfl, hrow, hf⟩, hb1⟩
  have h0 : EO w.heap.size w1 v' l f0 := ⟨hrow, fun j hj => Below.sl good_byte hb1 ((hf j hj).mono good_byte (by decide) fun k hk hm => by have := (hrow.lt k hm).1; omega)⟩
  clear hrow hf hsl
  obtain ⟨A', cap', rfl⟩ := own_form h0.row
  go_wp2_with fail
  go_loopg [9] l.length (fun G s9 wr => ∃ (k : Nat) (f : Nat → Value), k ≤ l.length ∧ G = l.length - k ∧ s9 = .int .i64 k ∧ Below w.heap.size w wr ∧ EO w.heap.size wr (.slice A' l.length cap') l f ∧ FR w.heap.size k f)
  case atStart => exact ⟨0, f0, Nat.zero_le _, rfl, rfl, hb1, h0, fun j hj => by omega⟩
  case round =>
    clear h0 hb1
    obtain ⟨k, f, hk, rfl, rfl, hbw, h0, hfr⟩ := hrel
    have HFR := Lib.hid hfr
    clear hfr
    by_cases hlt : k < l.length
    · obtain ⟨g, cp, hv, hBg, hn1, hn2, _, hblk⟩ := h0.form (by omega)
      injection hv with hv1 hv2 hv3
      subst hv1 hv3
      have hat := h0.cell k hlt
      have hdk := h0.dat k hlt
      obtain ⟨Ad, capd, hfk, _, _⟩ := hdk.form
      have c9 := hat.c9
      rw [hfk] at c9 hdk
      have fz := hblk.frozen (k * 10 + 9)
      have hdl := HD.out _ (List.getElem_mem hlt)
      have HG : Hid (∀ (W : World) (u : Value), Below wr.heap.size wr W → Sl 1 Rbyte (fun b => (Value.slice (some ⟨g, 0, none⟩) l.length cap').ownBlock = some b) W u l[k].data → EO w.heap.size (W.setCell ⟨g, k * 10 + 9, none⟩ u) (.slice (some ⟨g, 0, none⟩) l.length cap') l (upd f k u) ∧ Below w.heap.size w (W.setCell ⟨g, k * 10 + 9, none⟩ u)) := Lib.hid fun W u hb hu => by
        have h1 := (h0.below hb).put (Nat.le_trans hbw.size hb.size) k hlt 9 (by omega) u l[k] u rfl hu
        rw [set_same hlt] at h1
        exact ⟨h1.1, (hbw.trans (hb.mono hbw.size)).trans h1.2⟩
      have hgs : g < wr.heap.size := hblk.lt
      have i1 : (0 : Int) ≤ (k : Int) := by omega
      have i2 : (k : Int) < (l.length : Int) := by omega
      clear hat h0 hfk
      go_wp2_with fail
      refine (bclone_any l[k].data _ _ _ hdk hdl).mono ?_
      rintro e w2 ⟨⟨u, rfl, hu⟩, hb2⟩
      have hus : Sl 1 Rbyte (fun b => (Value.slice (some ⟨g, 0, none⟩) l.length cap').ownBlock = some b) w2 u l[k].data := (hu.to free_byte fun b hb hm => by
        have h1 := (hu.typed hb).1
        have h2 : g = b := Option.some.inj hm
        omega).sl good_byte
      obtain ⟨Au, capu, hfu, _, _⟩ := hus.form
      subst hfu
      obtain ⟨h3, q3⟩ := HG.out w2 _ hb2 hus
      have HF2 : Hid (FR w.heap.size (k + 1) (upd f k (.slice Au l[k].data.length capu))) := Lib.hid fun j hj bb hb => by
        by_cases hjk : j = k
        · rw [upd, if_pos hjk] at hb
          exact Nat.le_trans hbw.size (hu.typed hb).1
        · rw [upd, if_neg hjk] at hb
          exact HFR.out j (by omega) bb hb
      have fz2 := (hblk.below hb2 hgs).frozen (k * 10 + 9)
      have c92 := (hb2.cell (p := ⟨g, k * 10 + 9, none⟩) hgs).trans c9
      clear HG hu hus hb2 hdk c9 fz
      go_wp2_with fail
      go_roundg (l.length - (k + 1))
      case measure => omega
      case rel => exact ⟨k + 1, _, by omega, rfl, by simp, q3, h3, HF2.out⟩
    · have hke : k = l.length := by omega
      subst hke
      go_wp2_with fail
      go_ret
      exact ⟨⟨_, f, rfl, h0, HFR.out⟩, hbw⟩
end Go.Proofs.YtjhikglgaoncjaaDoor
