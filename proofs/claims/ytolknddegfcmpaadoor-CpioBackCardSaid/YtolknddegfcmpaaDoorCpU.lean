/- The walk of cpio.Read. Printed by gen_cps.py. -/
import Derived.Test.YtolknddegfcmpaaDoorCpQ
import Derived.Test.YtolknddegfcmpaaDoorEnJL
import Derived.Deep.CutBlock
namespace Go.Proofs.YtolknddegfcmpaaDoor
open Go.RowKit
section
variable {w0 w w' : World} {gr mf : Nat} {bv lv pv : Value} {L : List En} {f : Nat → Value} {PL : List Nat} {mo : Obj}
/-- Bytes do not lie in a block without bytes. -/
theorem Sl.off {X : Nat → Prop} {v : Value} {d : List UInt8} (h : Sl 1 Rbyte X w v d) {g : Nat} {t : TypeId} {cs : Array Value} (hg : Blk w g t cs) (hno : ∀ (i : Nat) (b : Int), cs[i]? ≠ some (Value.int .u8 b)) : Sl 1 Rbyte (fun k => X k ∨ k = g) w v d := by
  obtain ⟨A, cap, hv, h1, h2, h3, h4, h5⟩ := h
  refine ⟨A, cap, hv, h1, h2, h3, fun hl => ?_, h5⟩
  obtain ⟨b, off, hA, hX, hc⟩ := h4 hl
  refine ⟨b, off, hA, fun e => e.elim hX fun e => ?_, hc⟩
  subst e
  have hpos : 0 < d.length := by
    rcases Nat.eq_zero_or_pos d.length with h0 | h0
    · exact absurd (List.eq_nil_of_length_eq_zero h0) hl
    · exact h0
  obtain ⟨cs1, hcs, hR⟩ := hc 0 hpos
  have hR : cs1 = [.int .u8 (d[0].toNat : Int)] := hR
  subst hR
  have := hcs 0 _ rfl
  rw [hg.cell] at this
  exact hno _ _ this
theorem RD.poke1 (h : RD w0 gr mf bv lv pv L f PL mo w) {g : Nat} {t : TypeId} {cs : Array Value} (hg : Blk w g t cs) (hH : w0.heap.size ≤ g) (h1 : t ≠ 65) (h2 : tE ≠ t) (h3 : 3 ≠ t) (hno : ∀ (i : Nat) (b : Int), cs[i]? ≠ some (Value.int .u8 b)) (i : Nat) (u : Value) : RD w0 gr mf bv lv pv L f PL mo (w.setCell ⟨g, i, none⟩ u) :=
  h.poke hg hH h1 (.inl h2) h3 (fun j hj => by rw [List.getElem?_eq_getElem hj]; exact (h.dat j hj).off hg hno) i u
theorem no3 (s : ByteArray) (a c : Int) : ∀ (i : Nat) (b : Int), (#[.string s, .int .i64 a, .int .i64 c] : Array Value)[i]? ≠ some (Value.int .u8 b) := by
  intro i b h
  match i, h with
  | 0, h => simp at h
  | 1, h => simp at h
  | 2, h => simp at h
  | i + 3, h => simp at h
theorem blk_set3 {g : Nat} {t : TypeId} {a b c : Value} (h : Blk w g t #[a, b, c]) (a' b' c' : Value) :
    Blk (((w.setCell ⟨g, 0, none⟩ a').setCell ⟨g, 1, none⟩ b').setCell ⟨g, 2, none⟩ c') g t #[a', b', c'] := by
  have := ((h.set (u := a') 0).set (u := b') 1).set (u := c') 2
  simpa using this
theorem RD.poke3 (h : RD w0 gr mf bv lv pv L f PL mo w) {g : Nat} {s : ByteArray} {a c : Int} (hg : Blk w g 32 #[.string s, .int .i64 a, .int .i64 c]) (hH : w0.heap.size ≤ g) (s' : ByteArray) (a' c' : Int) :
    RD w0 gr mf bv lv pv L f PL mo (((w.setCell ⟨g, 0, none⟩ (.string s')).setCell ⟨g, 1, none⟩ (.int .i64 a')).setCell ⟨g, 2, none⟩ (.int .i64 c')) := by
  have g1 : Blk (w.setCell ⟨g, 0, none⟩ (.string s')) g 32 #[.string s', .int .i64 a, .int .i64 c] := by have := hg.set (u := .string s') 0; simpa using this
  have g2 : Blk ((w.setCell ⟨g, 0, none⟩ (.string s')).setCell ⟨g, 1, none⟩ (.int .i64 a')) g 32 #[.string s', .int .i64 a', .int .i64 c] := by have := g1.set (u := .int .i64 a') 1; simpa using this
  exact ((h.poke1 hg hH (by decide) (by decide) (by decide) (no3 _ _ _) 0 _).poke1 g1 hH (by decide) (by decide) (by decide) (no3 _ _ _) 1 _).poke1 g2 hH (by decide) (by decide) (by decide) (no3 _ _ _) 2 _
theorem blk_other3 {g g2 : Nat} {t : TypeId} {cs : Array Value} (h : Blk w g t cs) (hne : g ≠ g2) (x y z : Value) : Blk (((w.setCell ⟨g2, 0, none⟩ x).setCell ⟨g2, 1, none⟩ y).setCell ⟨g2, 2, none⟩ z) g t cs :=
  ((h.other (a := ⟨g2, 0, none⟩) x hne).other (a := ⟨g2, 1, none⟩) y hne).other (a := ⟨g2, 2, none⟩) z hne
end
theorem mem_next {b : List UInt8} {p : Nat} {ns : List Nat} {nm d : List UInt8} {nx : Nat} (h : memS b p = .mem ns nm d nx) : p + 112 ≤ nx ∧ nx ≤ b.length := by
  rw [memS] at h
  split at h
  · cases h
  split at h
  · cases h
  rw [memB1] at h
  split at h
  · cases h
  rename_i h11
  split at h
  · cases h
  split at h
  · cases h
  split at h
  · cases h
  rw [memB2] at h
  split at h
  · cases h
  split at h
  · cases h
  injection h with _ _ _ h
  generalize (headN (subB b p 110)).getD 11 0 = x11 at *
  have hf : 2 ≤ x11 + filN (110 + x11) := by
    have : 1 ≤ x11 := by omega
    by_cases h1 : x11 = 1
    · subst h1; decide
    · omega
  omega
theorem mem_err {b : List UInt8} {p : Nat} {e : Int} (h : memS b p = .err e) : e ≠ 0 := by
  rw [memS] at h
  split at h
  · injection h with h; rw [← h]; decide
  split at h
  · injection h with h; rw [← h]; decide
  rw [memB1] at h
  split at h
  · injection h with h; rw [← h]; decide
  split at h
  · injection h with h; rw [← h]; decide
  split at h
  · injection h with h; rw [← h]; decide
  split at h
  · cases h
  rw [memB2] at h
  split at h
  · injection h with h; rw [← h]; decide
  split at h
  · injection h with h; rw [← h]; decide
  cases h
/-- The members from a place on. -/
def runR {σ : Type} (stepE : σ → List En → List Nat → List UInt8 → List UInt8 → Int × List En × σ) (b : List UInt8) : Nat → σ → List En → List Nat → Nat → List En × List Nat × Nat × Int
  | 0, _, L, PL, p => (L, PL, p, 0)
  | n + 1, s, L, PL, p => match memS b p with
    | .err e => (L, PL, p, e)
    | .fin => (L, PL, 0, 0)
    | .mem ns nm d nx => if (stepE s L ns nm d).1 = 0 then runR stepE b n (stepE s L ns nm d).2.2 (stepE s L ns nm d).2.1 (PL ++ [p]) nx else (L, PL, p, (stepE s L ns nm d).1)
/-- What Read answers to what the members came to. -/
def readA (x : List En × List Nat × Nat × Int) : List En × Int × Int :=
  if (chkL x.1).2 ≠ 0 then ([], (x.2.1.getD (chkL x.1).1.toNat 0 : Nat), (chkL x.1).2)
  else if x.2.2.2 ≠ 0 then ([], (x.2.2.1 : Nat), x.2.2.2)
  else (x.1, 0, 0)
def ReadP (w : World) (x : List En × Int × Int) (r : Ending) (w' : World) : Prop :=
  (∃ v f, r = .returned (.tuple #[v, .agg #[.string ⟨#[]⟩, .int .i64 x.2.1, .int .i64 x.2.2]]) ∧ EO w.heap.size w' v x.1 f ∧ ∀ j, j < x.1.length → ∀ bb, (f j).ownBlock = some bb → w.heap.size ≤ bb) ∧ Below w.heap.size w w'
theorem EO.nil (B : Nat) (w : World) (f : Nat → Value) : EO B w (.slice none 0 0) [] f := ⟨World.ownsRow_nil _ _ _ _, fun j h => by simp at h⟩
theorem goE_idx : ∀ (l a : List En), (goE a l).2 ≠ 0 → ∃ i : Nat, (goE a l).1 = ((a.length + i : Nat) : Int) ∧ i < l.length
  | [], a, h => absurd rfl h
  | e :: t, a, h => by
    rw [goE] at h ⊢
    by_cases hb : badE a e = 0
    · rw [if_pos hb] at h ⊢
      obtain ⟨i, h1, h2⟩ := goE_idx t (a ++ [e]) h
      exact ⟨i + 1, by rw [h1, List.length_append, List.length_singleton]; omega, by simp; omega⟩
    · rw [if_neg hb]
      exact ⟨0, by simp, by simp⟩
theorem chkL_idx (l : List En) (hl : l.length ≤ 4096) (h : (chkL l).2 ≠ 0) : ∃ i : Nat, (chkL l).1 = (i : Int) ∧ i < l.length := by
  rw [chkL, if_neg (by omega)] at h ⊢
  obtain ⟨i, h1, h2⟩ := goE_idx l [] h
  exact ⟨i, by rw [h1]; simp, h2⟩
/-- A whole slice of entries, cut where it ends. -/
theorem slice_all {X : Nat → Prop} {w : World} {A : Option Addr} {n cap : Nat} {l : List En} (h : Sl 10 Rent X w (.slice A n cap) l) (W : World) : (Instr.slice 22 (.slice A n cap) none (some (.int .i64 (n : Int))) none).run Tryd.prog W = .ok (.slice A n cap) W := by
  obtain ⟨hn, h1, h2, _⟩ := h.at
  obtain ⟨i0, hi, hz0, hz1, hz2⟩ := info_parts info_ent
  unfold maxLen at h2
  have ht : Tryd.prog.underlying 22 = some (.slice tE) := Tryd.underlying22
  have hcap : (n : Int) ≤ (cap : Int) := by omega
  simp [Instr.slice, Instr.sliceBounds, Instr.sliceBound, run_underlying ht, sizeOf, typeInfo, hi, hz1, asIntOf, h1]
  intro _
  cases A with
  | none => rfl
  | some a => simp [Addr.add]
theorem read_init (w : World) (bv : Value) (f : Nat → Value) : ∃ W gR mf gr gF, W = ((((w.alloc (.cells #[.string ⟨#[]⟩, .int .i64 0, .int .i64 0] 32)).alloc (.map #[] 0)).alloc (.cells #[bv, .slice none 0 0, .slice none 0 0, .map (some (w.heap.size + 1))] 65)).alloc (.cells #[.string ⟨#[]⟩, .int .i64 0, .int .i64 0] 32)) ∧
    gR = w.heap.size ∧ mf = w.heap.size + 1 ∧ gr = w.heap.size + 1 + 1 ∧ gF = w.heap.size + 1 + 1 + 1 ∧ RD w gr mf bv (.slice none 0 0) (.slice none 0 0) [] f [] (.map #[] 0) W ∧ Blk W gR 32 #[.string ⟨#[]⟩, .int .i64 0, .int .i64 0] ∧ Blk W gF 32 #[.string ⟨#[]⟩, .int .i64 0, .int .i64 0] ∧ w.heap.size ≤ gR ∧ w.heap.size ≤ gF ∧ gR ≠ gF := by
  refine ⟨_, _, _, _, _, rfl, rfl, rfl, rfl, rfl, ?_, ?_, ?_, by omega, by omega, by omega⟩
  · have e1 : (w.alloc (.cells #[.string ⟨#[]⟩, .int .i64 0, .int .i64 0] 32)).heap.size = w.heap.size + 1 := by simp
    have e2 : ((w.alloc (.cells #[.string ⟨#[]⟩, .int .i64 0, .int .i64 0] 32)).alloc (.map #[] 0)).heap.size = w.heap.size + 1 + 1 := by simp
    have e3 : (((w.alloc (.cells #[.string ⟨#[]⟩, .int .i64 0, .int .i64 0] 32)).alloc (.map #[] 0)).alloc (.cells #[bv, .slice none 0 0, .slice none 0 0, .map (some (w.heap.size + 1))] 65)).heap.size = w.heap.size + 1 + 1 + 1 := by simp
    refine ⟨(((((Below.refl w.heap.size w).alloc (Nat.le_refl _) _).alloc (by rw [e1]; omega) _).alloc (by rw [e2]; omega) _).alloc (by rw [e3]; omega) _), ?_, World.ownsRow_nil _ _ _ _, fun j h => by simp at h, fun j h => by simp at h, World.ownsRow_nil _ _ _ _, ?_, ⟨_, _, rfl⟩, by omega, by omega⟩
    · have := (Blk.new ((w.alloc (.cells #[.string ⟨#[]⟩, .int .i64 0, .int .i64 0] 32)).alloc (.map #[] 0)) 65 #[bv, .slice none 0 0, .slice none 0 0, .map (some (w.heap.size + 1))]).alloc (.cells #[.string ⟨#[]⟩, .int .i64 0, .int .i64 0] 32)
      rw [e2] at this
      exact this
    · have := heap_alloc_new (w.alloc (.cells #[.string ⟨#[]⟩, .int .i64 0, .int .i64 0] 32)) (.map #[] 0)
      rw [e1] at this
      have h2 := (Below.heap_alloc ((w.alloc (.cells #[.string ⟨#[]⟩, .int .i64 0, .int .i64 0] 32)).alloc (.map #[] 0)) (.cells #[bv, .slice none 0 0, .slice none 0 0, .map (some (w.heap.size + 1))] 65) (w.heap.size + 1) (by rw [e2]; omega)).trans this
      exact (Below.heap_alloc _ (.cells #[.string ⟨#[]⟩, .int .i64 0, .int .i64 0] 32) (w.heap.size + 1) (by rw [e3]; omega)).trans h2
  · exact (((Blk.new w 32 #[.string ⟨#[]⟩, .int .i64 0, .int .i64 0]).alloc _).alloc _).alloc _
  · have := Blk.new (((w.alloc (.cells #[.string ⟨#[]⟩, .int .i64 0, .int .i64 0] 32)).alloc (.map #[] 0)).alloc (.cells #[bv, .slice none 0 0, .slice none 0 0, .map (some (w.heap.size + 1))] 65)) 32 #[.string ⟨#[]⟩, .int .i64 0, .int .i64 0]
    have e3 : (((w.alloc (.cells #[.string ⟨#[]⟩, .int .i64 0, .int .i64 0] 32)).alloc (.map #[] 0)).alloc (.cells #[bv, .slice none 0 0, .slice none 0 0, .map (some (w.heap.size + 1))] 65)).heap.size = w.heap.size + 1 + 1 + 1 := by simp
    rw [e3] at this
    exact this
section
variable {σ : Type} {stepE : σ → List En → List Nat → List UInt8 → List UInt8 → Int × List En × σ} {MM : Obj → σ → List En → Prop}
set_option maxRecDepth 20000 in
set_option maxHeartbeats 16000000 in
theorem read_any (bv : Value) (bb : List UInt8) (X : Nat → Prop) (w : World) (hb0 : Sl 1 Rbyte X w bv bb) (hbl : bb.length ≤ 400000) (s0 : σ) (hM0 : MM (.map #[] 0) s0 [])
    (hS : ∀ s L ns nm d nx p, memS bb p = .mem ns nm d nx → (∀ e ∈ L, EB e) → (stepE s L ns nm d).1 = 0 → (stepE s L ns nm d).2.1.length = L.length + 1 ∧ ∀ e ∈ (stepE s L ns nm d).2.1, EB e)
    (hE : ∀ gr mf bv lv pv L f PL mo s W ns nm d nx p dv, memS bb p = .mem ns nm d nx → L.length ≤ 4000 → (∀ e ∈ L, EB e) → MM mo s L → RD w gr mf bv lv pv L f PL mo W → Sl 1 Rbyte (fun k => w.heap.size ≤ k) w dv d →
      Calls Tryd.prog 53 #[.pointer (some ⟨gr, 0, none⟩), .agg (ns.map vI8).toArray, .string (bs nm), dv] W (EntP w gr mf bv lv pv PL W fun c L' mo' => c = (stepE s L ns nm d).1 ∧ (c = 0 → L' = (stepE s L ns nm d).2.1 ∧ MM mo' (stepE s L ns nm d).2.2 L') ∧ (c ≠ 0 → L' = L))) :
    Calls Tryd.prog 12 #[bv] w (ReadP w (readA (runR stepE bb (bb.length + 1) s0 [] [] 0))) := by
  have hb : Sl 1 Rbyte (fun k => w.heap.size ≤ k) w bv bb := hb0.mono good_byte (by omega) fun k hk h => absurd h (by omega)
  clear hb0
  obtain ⟨Ab, capb, rfl, hb1, hb2⟩ := hb.form
  unfold maxLen at hb2
  obtain ⟨R, HR⟩ : ∃ R, Hid (runR stepE bb (bb.length + 1) s0 [] [] 0 = R) := ⟨_, Lib.hid rfl⟩
  rw [HR.out]
  have HS := Lib.hid hS
  have HE := Lib.hid hE
  have HM0 := Lib.hid hM0
  clear hS hE hM0
  have hmm := @run_makeMap Tryd.prog
  go_enter Tryd.func12, Tryd.ntmps12
  go_upto_region 3 with fail
  obtain ⟨W1, gR, mf, gr, gF, hW1, hgR, hmf, hgr, hgF, rd, bR, bF, hRH, hFH, hRF⟩ := read_init w (.slice Ab bb.length capb) (fun _ => undef)
  rw [← hW1, ← hgF, ← hgr, ← hmf, ← hgR]
  clear hW1 hgR hmf hgr hgF hmm
  go_upto_block 0 with fail
  go_cut [] (fun wz => ∃ lv pv L f PL mo at_ code, RD w gr mf (.slice Ab bb.length capb) lv pv L f PL mo wz ∧ Blk wz gF 32 #[.string ⟨#[]⟩, .int .i64 ((at_ : Nat) : Int), .int .i64 code] ∧ Blk wz gR 32 #[.string ⟨#[]⟩, .int .i64 0, .int .i64 0] ∧ PL.length = L.length ∧ (∀ e ∈ L, EB e) ∧ L.length ≤ 4000 ∧ Hid (R = (L, PL, at_, code)))
  case first => as_aux_lemma =>
    go_wp2_with fail
    go_loopg [6] (bb.length + 1) (fun G s6 wr => ∃ lv pv L f PL mo, RD w gr mf (.slice Ab bb.length capb) lv pv L f PL mo wr ∧ Blk wr gF 32 #[.string ⟨#[]⟩, .int .i64 0, .int .i64 0] ∧ Blk wr gR 32 #[.string ⟨#[]⟩, .int .i64 0, .int .i64 0] ∧ PL.length = L.length ∧ (∀ e ∈ L, EB e) ∧ 112 * L.length ≤ 400000 ∧
      ((∃ (k p : Nat) (s : σ), G = k ∧ s6 = .int .i64 p ∧ p ≤ bb.length ∧ bb.length < k + p ∧ 112 * L.length ≤ p ∧ MM mo s L ∧ Hid (runR stepE bb k s L PL p = R)) ∨ (s6 = .int .i64 (-1) ∧ Hid (R = (L, PL, 0, 0)))))
    case atStart => exact ⟨_, _, [], _, [], _, rd, bF, bR, rfl, (fun e he => by cases he), by simp, .inl ⟨bb.length + 1, 0, s0, rfl, rfl, Nat.zero_le _, by omega, by simp, HM0.out, HR⟩⟩
    case round =>
      clear rd bF bR HR
      obtain ⟨lv, pv, L, f, PL, mo, rd, bF, bR, hPL, hEB, hLl, hmode⟩ := hrel
      rcases hmode with ⟨k, p, s, hGk, rfl, hp, hk, hLp, hMM, HR⟩ | ⟨rfl, HR⟩
      rotate_left
      · go_wp2_with fail
        go_meet
        exact ⟨lv, pv, L, f, PL, mo, 0, 0, rd, bF, bR, hPL, hEB, by omega, HR⟩
      · have hkp : 0 < k := by omega
        have t1 : decide ((0 : Int) ≤ (p : Int)) = true := by simp
        have t2 : decide ((4096 : Int) < (L.length : Int)) = false := decide_eq_false (by omega)
        have t2b : decide (4096 < L.length) = false := decide_eq_false (by omega)
        obtain ⟨k', hkk⟩ : ∃ k', k = k' + 1 := ⟨k - 1, by omega⟩
        rw [hkk] at HR
        have r1 : wr.cell? ⟨gr, 1, none⟩ = some lv := by have := rd.blk.cell 1; simpa using this
        obtain ⟨Al, cl, hlv⟩ := own_form rd.row
        have hm := member_any w gr mf (.slice Ab bb.length capb) lv pv bb L f PL mo wr rd hb (by omega) (by omega) p hp (fun ns nm d c L' mo' => c = (stepE s L ns nm d).1 ∧ (c = 0 → L' = (stepE s L ns nm d).2.1 ∧ MM mo' (stepE s L ns nm d).2.2 L') ∧ (c ≠ 0 → L' = L)) (fun ns nm d nx hmem W dv rdW hdv => HE.out gr mf _ lv pv L f PL mo s W ns nm d nx p dv hmem (by omega) hEB hMM rdW hdv)
        have HRR : Hid (R = match memS bb p with
          | .err e => (L, PL, p, e)
          | .fin => (L, PL, 0, 0)
          | .mem ns nm d nx => if (stepE s L ns nm d).1 = 0 then runR stepE bb k' (stepE s L ns nm d).2.2 (stepE s L ns nm d).2.1 (PL ++ [p]) nx else (L, PL, p, (stepE s L ns nm d).1)) := Lib.hid (by rw [← HR.out]; rfl)
        have HNX := Lib.hid (fun ns nm d nx (h : memS bb p = .mem ns nm d nx) => mem_next h)
        have HSS := Lib.hid (fun ns nm d nx (h : memS bb p = .mem ns nm d nx) => HS.out s L ns nm d nx p h hEB)
        have HER := Lib.hid (fun e (h : memS bb p = .err e) => mem_err h)
        generalize memS bb p = M at hm HRR HNX HSS HER
        subst hlv
        clear HR
        go_upto_region 7 with (go_at_call 28; refine hm.mono ?_; rintro r W2 ⟨kk, c, lv2, pv2, f2, L2, PL2, mo2, rfl, rd2, hk2, hq2⟩)
        have hX : ∀ g cs, Blk wr g 32 cs → ¬ BX gr mf (.slice Al L.length cl) pv g := fun g cs hg h => by
          rcases h with h | h | h | h
          · exact Blk.apartT hg rd.blk (by decide) h
          · exact blk_notmap hg rd.mp rd.mok h
          · exact own_notblk rd.row hg (by decide) h
          · exact own_notblk rd.pl hg (by decide) h
        have bF2 := hk2.blk bF (hX _ _ bF)
        have bR2 := hk2.blk bR (hX _ _ bR)
        clear hX hk2 rd bF bR hm r1
        have stop : ∀ (e : Int), e ≠ 0 → c = e → L2 = L → PL2 = PL → R = (L, PL, p, e) → (e != 0) = true := fun e he _ _ _ _ => by simpa using he
        cases M with
        | err e =>
          obtain ⟨rfl, rfl, rfl, rfl, rfl⟩ := hq2
          have HE0 := HER.out c rfl
          have hcb : (c != 0) = true := by simpa using HE0
          have HV : Hid (R = (L2, PL2, p, c)) := HRR
          clear HRR HNX HSS HER HE0 stop
          have z0 := bF2.cell 0
          have z1 := bF2.cell 1
          have z2 := bF2.cell 2
          simp at z0 z1 z2
          have f0 := bF2.frozen 0
          have f1 := bF2.frozen 1
          have f2' := bF2.frozen 2
          have rdE := rd2.poke3 bF2 hFH ⟨#[]⟩ (p : Int) c
          have bFE := blk_set3 bF2 (.string ⟨#[]⟩) (.int .i64 p) (.int .i64 c)
          have bRE := blk_other3 bR2 hRF (.string ⟨#[]⟩) (.int .i64 p) (.int .i64 c)
          go_wp2_with fail
          go_meet
          exact ⟨_, _, L2, _, PL2, _, p, c, rdE, bFE, bRE, hPL, hEB, by omega, HV⟩
        | fin =>
          obtain ⟨rfl, rfl, rfl, rfl, rfl⟩ := hq2
          have HV : Hid (R = (L2, PL2, 0, 0)) := HRR
          clear HRR HNX HSS HER stop
          go_wp2_with fail
          go_roundg 0
          case measure => omega
          case rel => exact ⟨lv2, pv2, L2, f2, PL2, mo2, rd2, bF2, bR2, hPL, hEB, hLl, .inr ⟨rfl, HV⟩⟩
        | mem ns nm d nx =>
          obtain ⟨c1, ⟨hc1, hc2, hc3⟩, hq3⟩ := hq2
          have hnx := HNX.out ns nm d nx rfl
          have hss := HSS.out ns nm d nx rfl
          by_cases h0 : c1 = 0
          · subst h0
            rw [if_pos rfl] at hq3
            obtain ⟨rfl, rfl, rfl⟩ := hq3
            obtain ⟨hL2, hMM2⟩ := hc2 rfl
            obtain ⟨hln, hEB2⟩ := hss hc1.symm
            have HV : Hid (runR stepE bb k' (stepE s L ns nm d).2.2 L2 (PL ++ [p]) nx = R) := Lib.hid (by
              have := HRR.out
              simp only at this
              rw [if_pos hc1.symm, ← hL2] at this
              exact this.symm)
            rw [← hL2] at hln hEB2
            have hplen : (PL ++ [p]).length = L2.length := by rw [List.length_append, List.length_singleton, hln, hPL]
            clear HRR HNX HSS HER hc1 hc2 hc3 hss stop hL2
            go_wp2_with fail
            go_roundg k'
            case measure => omega
            case rel => exact ⟨lv2, pv2, L2, f2, PL ++ [p], mo2, rd2, bF2, bR2, hplen, hEB2, by omega, .inl ⟨k', nx, (stepE s L ns nm d).2.2, rfl, rfl, hnx.2, by omega, by omega, hMM2, HV⟩⟩
          · rw [if_neg h0] at hq3
            obtain ⟨rfl, rfl, rfl⟩ := hq3
            have hL2 := hc3 h0
            subst hL2
            have hcb : (c != 0) = true := by simpa using h0
            have HV : Hid (R = (L2, PL2, p, c)) := Lib.hid (by
              have := HRR.out
              simp only at this
              rw [if_neg (by rw [← hc1]; exact h0), ← hc1] at this
              exact this)
            clear HRR HNX HSS HER hc1 hc2 hc3 hss stop h0
            have z0 := bF2.cell 0
            have z1 := bF2.cell 1
            have z2 := bF2.cell 2
            simp at z0 z1 z2
            have f0 := bF2.frozen 0
            have f1 := bF2.frozen 1
            have f2' := bF2.frozen 2
            have rdE := rd2.poke3 bF2 hFH ⟨#[]⟩ (p : Int) c
            have bFE := blk_set3 bF2 (.string ⟨#[]⟩) (.int .i64 p) (.int .i64 c)
            have bRE := blk_other3 bR2 hRF (.string ⟨#[]⟩) (.int .i64 p) (.int .i64 c)
            go_wp2_with fail
            go_meet
            exact ⟨_, _, L2, _, PL2, _, p, c, rdE, bFE, bRE, hPL, hEB, by omega, HV⟩
  case rest => as_aux_lemma =>
    obtain ⟨lv, pv, L, f, PL, mo, at_, code, rd, bF, bR, hPL, hEB, hLl, HRR⟩ := hcut
    clear HR
    obtain ⟨Al, cl, hlv⟩ := own_form rd.row
    have hsl := rd.eo.sl
    rw [hlv] at hsl
    have hslc := slice_all hsl
    have hmin : min (L.length : Int) (IntKind.i64.wrap 4096) = (L.length : Int) := by
      rw [i64_in 4096 (by omega) (by omega)]; omega
    have hmin2 : min (L.length : Int) 4096 = (L.length : Int) := by omega
    have r1 : wc.cell? ⟨gr, 1, none⟩ = some (.slice Al L.length cl) := by have := rd.blk.cell 1; rw [hlv] at this; simpa using this
    go_upto_region 10 with fail
    refine wp_region_plan (fun W => W.cell? ⟨gr, 1, none⟩ = some (.slice Al L.length cl)) [(false, 0), (false, 1), (false, 2), (false, 3), (false, 4), (false, 5), (false, 6), (false, 7), (false, 8), (false, 9), (false, 10), (false, 11)] (by kernel_rfl) (by kernel_rfl) (r1) ?_
    simp only [planOps, List.map, List.getD_cons_zero, List.getD_cons_succ]
    iterate 12 ((first | refine plan_quiet (v := ?_) rfl rfl (fun w' hw' => ?_) ?_ | refine plan_calm (v := ?_) (tt_of) rfl (fun w' hw' => ?_) ?_); rotate_left; (focus (go_simp <;> (first | with_reducible rfl | (rw [if_neg (by simp [undef])]; try rfl)))); simp only [Act.put, List.setIfInBounds_toArray, List.set_cons_zero, List.set_cons_succ])
    refine plan_end ?_
    have q1 := (Below.refl wc.heap.size wc).drew
    have rd1 := rd.below q1
    have bF1 := bF.below q1 bF.lt
    have bR1 := bR.below q1 bR.lt
    have hsl1 := Below.sl good_ent q1 hsl
    clear rd bF bR hsl q1 r1
    generalize wc.drew = W1 at rd1 bF1 bR1 hsl1 ⊢
    have hck := pchkall_any L _ _ W1 hsl1 ⟨by omega, hEB⟩
    have hix := chkL_idx L (by omega)
    have HA : Hid (readA R = if (chkL L).2 ≠ 0 then ([], ((PL.getD (chkL L).1.toNat 0 : Nat) : Int), (chkL L).2) else if code ≠ 0 then ([], ((at_ : Nat) : Int), code) else (L, 0, 0)) := Lib.hid (by rw [HRR.out]; rfl)
    obtain ⟨XX, HXX⟩ : ∃ x, Hid (readA R = x) := ⟨_, Lib.hid rfl⟩
    rw [HXX.out] at HA
    generalize (chkL L).1 = c1 at hck HA hix
    generalize (chkL L).2 = c2 at hck HA hix
    go_upto_region 12 with (go_at_call 29; refine hck.mono ?_; rintro r W2 ⟨rfl, q2⟩)
    have rd2 := rd1.below q2
    have bF2 := bF1.below q2 bF1.lt
    have bR2 := bR1.below q2 bR1.lt
    clear rd1 bF1 bR1 hsl1 q2 hck
    have z0 := bR2.cell 0
    have z1 := bR2.cell 1
    have z2 := bR2.cell 2
    simp at z0 z1 z2
    have f0 := bR2.frozen 0
    have f1 := bR2.frozen 1
    have f2 := bR2.frozen 2
    by_cases hc2 : c2 = 0
    rotate_left
    · obtain ⟨i, hi1, hi2⟩ := hix hc2
      subst hi1
      have hcb : (c2 != 0) = true := by simpa using hc2
      obtain ⟨gp, cp, hpv⟩ : ∃ gp cp, pv = .slice (some ⟨gp, 0, none⟩) PL.length cp := by
        rcases rd2.pl.2 with ⟨_, h0⟩ | ⟨g, cap, cur, h, _⟩
        · omega
        · exact ⟨g, cap, h⟩
      have hpl := rd2.pl
      rw [hpv] at hpl
      have hcell := hpl.cellAt i (by omega)
      have hiv : (PL.map vI8)[i]? = some (.int .i64 ((PL[i]'(by omega) : Nat) : Int)) := by simp [vI8, show i < PL.length by omega]
      rw [hiv] at hcell
      have HV : Hid (XX = ([], ((PL[i]'(by omega) : Nat) : Int), c2)) := Lib.hid (by
        rw [HA.out, if_pos hc2, Int.toNat_natCast, List.getD_eq_getElem?_getD, List.getElem?_eq_getElem (by omega)]; rfl)
      generalize PL[i]'(by omega) = pp at hcell HV
      have r2 : W2.cell? ⟨gr, 2, none⟩ = some (.slice (some ⟨gp, 0, none⟩) PL.length cp) := by have := rd2.blk.cell 2; rw [hpv] at this; simpa using this
      have j1 : (0 : Int) ≤ (i : Int) := by omega
      have j2 : (i : Int) < (PL.length : Int) := by omega
      clear HA hix hc2 hiv hpl
      go_upto_region 13 with fail
      refine wp_region_plan (fun W => W.cell? ⟨gr, 2, none⟩ = some (.slice (some ⟨gp, 0, none⟩) PL.length cp) ∧ W.cell? ⟨gp, i, none⟩ = some (.int .i64 pp)) [(false, 0), (false, 1), (false, 2), (false, 3), (false, 4), (false, 5), (false, 6), (false, 7), (false, 8), (false, 9), (true, 10)] (by kernel_rfl) (by kernel_rfl) (⟨r2, hcell⟩) ?_
      simp only [planOps, List.map, List.getD_cons_zero, List.getD_cons_succ]
      iterate 10 ((first | refine plan_quiet (v := ?_) rfl rfl (fun w' hw' => ?_) ?_ | refine plan_calm (v := ?_) (tt_of) rfl (fun w' hw' => ?_) ?_); rotate_left; (focus (go_simp <;> (first | with_reducible rfl | (rw [if_neg (by simp [undef])]; try rfl)))); simp only [Act.put, List.setIfInBounds_toArray, List.set_cons_zero, List.set_cons_succ])
      refine plan_last rfl (by kernel_rfl) (by kernel_rfl) (fun K hK => ?_)
      go_simp
      refine hK _ _ (trivial) ?_
      clear hK K
      (try simp only [Act.put, List.setIfInBounds_toArray, List.set_cons_zero, List.set_cons_succ])
      refine plan_end ?_
      have rdE := (rd2.poke3 bR2 hRH ⟨#[]⟩ (pp : Int) c2).below ((Below.refl _ _).drew)
      have bRE : Blk ((((W2.setCell ⟨gR, 0, none⟩ (.string ⟨#[]⟩)).setCell ⟨gR, 1, none⟩ (.int .i64 (pp : Int))).setCell ⟨gR, 2, none⟩ (.int .i64 c2)).drew) gR 32 #[.string ⟨#[]⟩, .int .i64 (pp : Int), .int .i64 c2] := blk_set3 bR2 (.string ⟨#[]⟩) (.int .i64 (pp : Int)) (.int .i64 c2)
      clear z0 z1 z2 f0 f1 f2 rd2 bF2 bR2
      go_wp2_with fail
      generalize (((W2.setCell ⟨gR, 0, none⟩ (.string ⟨#[]⟩)).setCell ⟨gR, 1, none⟩ (.int .i64 (pp : Int))).setCell ⟨gR, 2, none⟩ (.int .i64 c2)).drew = W9 at rdE bRE ⊢
      have k0 := bRE.cell 0
      have k1 := bRE.cell 1
      have k2 := bRE.cell 2
      simp at k0 k1 k2
      refine bodyPost_ret (v := .tuple #[.slice none 0 0, .agg #[.string ⟨#[]⟩, .int .i64 (pp : Int), .int .i64 c2]]) (by simp [results, Tryd.results12, go_sem, k0, k1, k2]) rfl ?_
      rw [HXX.out, HV.out]
      exact ⟨⟨_, fun _ => undef, rfl, EO.nil _ _ _, fun j h => by simp at h⟩, rdE.bel⟩
    have hcb : (c2 != 0) = false := by simpa using hc2
    have HA := Lib.hid (HA.out.trans (if_neg (fun h => h hc2)))
    have r1 : W2.cell? ⟨gr, 1, none⟩ = some (.slice Al L.length cl) := by have := rd2.blk.cell 1; rw [hlv] at this; simpa using this
    have t3 : decide ((4096 : Int) < (L.length : Int)) = false := decide_eq_false (by omega)
    have t3b : decide (4096 < L.length) = false := decide_eq_false (by omega)
    have y0 := bF2.cell 0
    have y1 := bF2.cell 1
    have y2 := bF2.cell 2
    simp at y0 y1 y2
    clear hix hc2
    by_cases hc : code = 0
    rotate_left
    · have hcc : (code != 0) = true := by simpa using hc
      have HV := Lib.hid (HA.out.trans (if_pos hc))
      clear HA hc
      go_upto_region 17 with fail
      refine wp_region_plan (fun W => W.cell? ⟨gF, 0, none⟩ = some (.string ⟨#[]⟩) ∧ W.cell? ⟨gF, 1, none⟩ = some (.int .i64 (at_ : Int)) ∧ W.cell? ⟨gF, 2, none⟩ = some (.int .i64 code)) [(false, 0), (false, 1), (true, 2)] (by kernel_rfl) (by kernel_rfl) (⟨y0, y1, y2⟩) ?_
      simp only [planOps, List.map, List.getD_cons_zero, List.getD_cons_succ]
      iterate 2 ((first | refine plan_quiet (v := ?_) rfl rfl (fun w' hw' => ?_) ?_ | refine plan_calm (v := ?_) (tt_of) rfl (fun w' hw' => ?_) ?_); rotate_left; (focus (go_simp <;> (first | with_reducible rfl | (rw [if_neg (by simp [undef])]; try rfl)))); simp only [Act.put, List.setIfInBounds_toArray, List.set_cons_zero, List.set_cons_succ])
      refine plan_last rfl (by kernel_rfl) (by kernel_rfl) (fun K hK => ?_)
      go_simp
      refine hK _ _ (trivial) ?_
      clear hK K
      (try simp only [Act.put, List.setIfInBounds_toArray, List.set_cons_zero, List.set_cons_succ])
      refine plan_end ?_
      have rdE := (rd2.poke3 bR2 hRH ⟨#[]⟩ (at_ : Int) code).below ((Below.refl _ _).drew)
      have bRE : Blk ((((W2.setCell ⟨gR, 0, none⟩ (.string ⟨#[]⟩)).setCell ⟨gR, 1, none⟩ (.int .i64 (at_ : Int))).setCell ⟨gR, 2, none⟩ (.int .i64 code)).drew) gR 32 #[.string ⟨#[]⟩, .int .i64 (at_ : Int), .int .i64 code] := blk_set3 bR2 (.string ⟨#[]⟩) (.int .i64 (at_ : Int)) (.int .i64 code)
      clear z0 z1 z2 f0 f1 f2 rd2 bF2 bR2
      go_wp2_with fail
      generalize (((W2.setCell ⟨gR, 0, none⟩ (.string ⟨#[]⟩)).setCell ⟨gR, 1, none⟩ (.int .i64 (at_ : Int))).setCell ⟨gR, 2, none⟩ (.int .i64 code)).drew = W9 at rdE bRE ⊢
      have k0 := bRE.cell 0
      have k1 := bRE.cell 1
      have k2 := bRE.cell 2
      simp at k0 k1 k2
      refine bodyPost_ret (v := .tuple #[.slice none 0 0, .agg #[.string ⟨#[]⟩, .int .i64 (at_ : Int), .int .i64 code]]) (by simp [results, Tryd.results12, go_sem, k0, k1, k2]) rfl ?_
      rw [HXX.out, HV.out]
      exact ⟨⟨_, fun _ => undef, rfl, EO.nil _ _ _, fun j h => by simp at h⟩, rdE.bel⟩
    have hcc : (code != 0) = false := by simpa using hc
    have HV := Lib.hid (HA.out.trans (if_neg (fun h => h hc)))
    clear HA hc
    have rdE := rd2.poke3 bR2 hRH ⟨#[]⟩ 0 0
    have bRE := blk_set3 bR2 (.string ⟨#[]⟩) (.int .i64 0) (.int .i64 0)
    go_wp2_with fail
    clear z0 z1 z2 f0 f1 f2 y0 y1 y2 r1 rd2 bF2 bR2
    generalize ((W2.setCell ⟨gR, 0, none⟩ (.string ⟨#[]⟩)).setCell ⟨gR, 1, none⟩ (.int .i64 0)).setCell ⟨gR, 2, none⟩ (.int .i64 0) = W9 at rdE bRE ⊢
    have k0 := bRE.cell 0
    have k1 := bRE.cell 1
    have k2 := bRE.cell 2
    simp at k0 k1 k2
    refine bodyPost_ret (v := .tuple #[.slice Al L.length cl, .agg #[.string ⟨#[]⟩, .int .i64 0, .int .i64 0]]) (by simp [results, Tryd.results12, go_sem, k0, k1, k2]) rfl ?_
    rw [HXX.out, HV.out]
    rw [hlv] at rdE
    exact ⟨⟨_, _, rfl, rdE.eo, rdE.fr⟩, rdE.bel⟩
end
end Go.Proofs.YtolknddegfcmpaaDoor
