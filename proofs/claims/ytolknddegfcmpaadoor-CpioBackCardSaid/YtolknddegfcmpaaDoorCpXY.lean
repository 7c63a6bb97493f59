/- The walk of the law's bare. Printed by gen_cpx.py. The document's Light of entries, at 4000 bytes. -/
import Derived.Test.YtolknddegfcmpaaDoorEnMN
import Derived.Test.YtolknddegfcmpaaDoorCpBE
import Derived.Test.YtolknddegfcmpaaDoorEnJL
namespace Go.Proofs.YtolknddegfcmpaaDoor
open Go.RowKit
/-- An entry without owners' names, and of a time that may be. -/
def bareE (e : En) : En := { e with owner := [], group := [], mtime := if 4294967295 < e.mtime then 7 else e.mtime }
set_option maxRecDepth 20000 in
set_option maxHeartbeats 8000000 in
theorem bare_any (l : List En) (v : Value) (X : Nat → Prop) (w : World) (hsl : Sl 10 Rent X w v l) (hl : l.length ≤ 1000000) :
    Calls Tryd.prog 9 #[v] w fun r w' => (∃ v' f, r = .returned v' ∧ EO w.heap.size w' v' (l.map bareE) f) ∧ Below w.heap.size w w' := by
  have hsl0 : Sl 10 Rent (fun k => w.heap.size ≤ k) w v l := hsl.mono good_ent (by omega) fun k hk h => absurd h (by omega)
  clear hsl
  obtain ⟨A, cap, rfl, hc1, hc2⟩ := hsl0.form
  unfold maxLen at hc2
  go_enter Tryd.func9, Tryd.ntmps9
  go_wp2_with fail
  go_loopg [3, 4] l.length (fun G s3 s4 wr => ∃ (k : Nat) (f : Nat → Value), k ≤ l.length ∧ G = l.length - k ∧ s4 = .int .i64 k ∧ EO w.heap.size wr s3 ((l.take k).map bareE) f ∧ Below w.heap.size w wr)
  case atStart => exact ⟨0, fun _ => undef, Nat.zero_le _, rfl, rfl, ⟨World.ownsRow_nil _ _ _ _, fun j h => by simp at h⟩, Below.refl _ _⟩
  case round =>
    obtain ⟨k, f, hk, rfl, rfl, he, hb⟩ := hrel
    by_cases hlt : k < l.length
    · have hslr := hsl0.keep good_ent (Kept.low hb)
      obtain ⟨b, off, rfl, _, hc⟩ := hslr.ent (by omega)
      obtain ⟨dv, hat, hdv⟩ := hc k hlt
      obtain ⟨Ad, capd, rfl, _, _⟩ := hdv.form
      have HTK := Lib.hid (show (l.take (k + 1)).map bareE = (l.take k).map bareE ++ [bareE l[k]] by rw [List.take_succ_eq_append_getElem hlt, List.map_append]; rfl)
      have HOLD := Lib.hid (fun (j : Nat) (h2 : u3.ownBlock = some j) => (he.row.lt j h2).1)
      obtain ⟨e, He⟩ : ∃ e, Hid (l[k] = e) := ⟨_, Lib.hid rfl⟩
      rw [He.out] at hat hdv HTK
      obtain ⟨c0, c1, c2, c3, c4, c5, c6, c7, c8, c9⟩ := hat
      have i1 : (0 : Int) ≤ (k : Int) := by omega
      have i2 : (k : Int) < (l.length : Int) := by omega
      clear hc hslr
      go_upto_region 6 with fail
      have bE := Blk.new wr tE #[.string (bs e.path), .int .i64 e.kind, .int .i64 e.mode, .int .i64 e.uid, .int .i64 e.gid, .string (bs e.owner), .string (bs e.group), .int .i64 e.mtime, .string (bs e.link), .slice Ad e.data.length capd]
      have hqe : Below wr.heap.size wr (wr.alloc (.cells #[.string (bs e.path), .int .i64 e.kind, .int .i64 e.mode, .int .i64 e.uid, .int .i64 e.gid, .string (bs e.owner), .string (bs e.group), .int .i64 e.mtime, .string (bs e.link), .slice Ad e.data.length capd] tE)) := (Below.refl _ _).alloc (Nat.le_refl _) _
      clear c0 c1 c2 c3 c4 c5 c6 c7 c8 c9
      generalize wr.alloc (.cells #[.string (bs e.path), .int .i64 e.kind, .int .i64 e.mode, .int .i64 e.uid, .int .i64 e.gid, .string (bs e.owner), .string (bs e.group), .int .i64 e.mtime, .string (bs e.link), .slice Ad e.data.length capd] tE) = W1 at bE hqe ⊢
      have hgE : wr.heap.size ≤ wr.heap.size := Nat.le_refl _
      generalize hg : wr.heap.size = g at bE hgE ⊢
      have hgE : wr.heap.size ≤ g := by rw [hg]; exact Nat.le_refl _
      obtain ⟨d0, d1, d2, d3, d4, d5, d6, d7, d8, d9⟩ := bE.cells10
      have f5 := bE.frozen 5
      have f6 := bE.frozen 6
      go_upto_region 8 with fail
      have bE2 : Blk ((W1.setCell ⟨g, 5, none⟩ (.string ⟨#[]⟩)).setCell ⟨g, 6, none⟩ (.string ⟨#[]⟩)) g tE #[.string (bs e.path), .int .i64 e.kind, .int .i64 e.mode, .int .i64 e.uid, .int .i64 e.gid, .string ⟨#[]⟩, .string ⟨#[]⟩, .int .i64 e.mtime, .string (bs e.link), .slice Ad e.data.length capd] := (bE.set (u := .string ⟨#[]⟩) 5).set (u := .string ⟨#[]⟩) 6
      have hqe := (hqe.setCell (p := ⟨g, 5, none⟩) hgE (.string ⟨#[]⟩)).setCell (p := ⟨g, 6, none⟩) hgE (.string ⟨#[]⟩)
      clear bE d0 d1 d2 d3 d4 d5 d6 d7 d8 d9 f5 f6
      generalize (W1.setCell ⟨g, 5, none⟩ (.string ⟨#[]⟩)).setCell ⟨g, 6, none⟩ (.string ⟨#[]⟩) = W2 at bE2 hqe ⊢
      have bE := bE2
      obtain ⟨d0, d1, d2, d3, d4, d5, d6, d7, d8, d9⟩ := bE2.cells10
      by_cases hm : 4294967295 < e.mtime
      · have hd : decide (4294967295 < e.mtime) = true := decide_eq_true hm
        have HM := Lib.hid (show (if 4294967295 < e.mtime then 7 else e.mtime) = 7 from if_pos hm)
        have f7 := bE2.frozen 7
        clear hm
        go_upto_region 10 with fail
        have bE : Blk (W2.setCell ⟨g, 7, none⟩ (.int .i64 7)) g tE #[.string (bs e.path), .int .i64 e.kind, .int .i64 e.mode, .int .i64 e.uid, .int .i64 e.gid, .string ⟨#[]⟩, .string ⟨#[]⟩, .int .i64 7, .string (bs e.link), .slice Ad e.data.length capd] := bE2.set (u := .int .i64 7) 7
        have hqe := hqe.setCell (p := ⟨g, 7, none⟩) hgE (.int .i64 7)
        clear bE2 d0 d1 d2 d3 d4 d5 d6 d7 d8 d9 f7
        generalize W2.setCell ⟨g, 7, none⟩ (.int .i64 7) = W3 at bE hqe ⊢
        have hbA : Below W3.heap.size W3 (W3.alloc (.cells #[.string (bs e.path), .int .i64 e.kind, .int .i64 e.mode, .int .i64 e.uid, .int .i64 e.gid, .string ⟨#[]⟩, .string ⟨#[]⟩, .int .i64 7, .string (bs e.link), .slice Ad e.data.length capd] tE)) := (Below.refl _ _).alloc (Nat.le_refl _) _
        have bS : Blk (W3.alloc (.cells #[.string (bs e.path), .int .i64 e.kind, .int .i64 e.mode, .int .i64 e.uid, .int .i64 e.gid, .string ⟨#[]⟩, .string ⟨#[]⟩, .int .i64 7, .string (bs e.link), .slice Ad e.data.length capd] tE)) W3.heap.size tE #[.string (bs e.path), .int .i64 e.kind, .int .i64 e.mode, .int .i64 e.uid, .int .i64 e.gid, .string ⟨#[]⟩, .string ⟨#[]⟩, .int .i64 7, .string (bs e.link), .slice Ad e.data.length capd] := Blk.new W3 _ _
        have heA := (he.below hqe).below hbA
        have hslA := Below.sl good_byte hbA (hdv.keep good_byte (Kept.of_below hqe _))
        obtain ⟨d0, d1, d2, d3, d4, d5, d6, d7, d8, d9⟩ := bE.cells10
        have hsrc : ∀ j u, (ofC [bareE e] (fun _ => .slice Ad e.data.length capd))[j]? = some u → (W3.alloc (.cells #[.string (bs e.path), .int .i64 e.kind, .int .i64 e.mode, .int .i64 e.uid, .int .i64 e.gid, .string ⟨#[]⟩, .string ⟨#[]⟩, .int .i64 7, .string (bs e.link), .slice Ad e.data.length capd] tE)).cell? ((⟨W3.heap.size, 0, none⟩ : Addr).add j) = some u := fun j u hu => by
          have hu2 : (entC (bareE e) (.slice Ad e.data.length capd))[j]? = some u := by simpa [ofC] using hu
          rw [Addr.add_lit, Nat.zero_add, bS.cell]
          show (List.toArray _)[j]? = _
          rw [List.getElem?_toArray]
          rw [entC, bareE, HM.out] at hu2
          exact hu2
        have hdat : ∀ j (h : j < [bareE e].length), Sl 1 Rbyte (fun k => u3.ownBlock = some k) (W3.alloc (.cells #[.string (bs e.path), .int .i64 e.kind, .int .i64 e.mode, .int .i64 e.uid, .int .i64 e.gid, .string ⟨#[]⟩, .string ⟨#[]⟩, .int .i64 7, .string (bs e.link), .slice Ad e.data.length capd] tE)) ((fun _ : Nat => Value.slice Ad e.data.length capd) j) [bareE e][j].data := fun j hj => by
          have hj0 : j = 0 := by simp at hj; exact hj
          subst hj0
          exact hslA.mono good_byte (by omega) fun k _ h2 => HOLD.out k h2
        have hlb : ((l.take k).map bareE).length + [bareE e].length ≤ 1000000 := by rw [List.length_map, List.length_take]; simp; omega
        have hBl := Nat.le_trans (Nat.le_trans hb.size hqe.size) hbA.size
        go_upto_region 4 with (at_builtin; refine wpList_appendEO (M := [bareE e]) (g := fun _ => .slice Ad e.data.length capd) rfl _ _ rfl rfl heA rfl (fun h => by cases h) (fun _ => ⟨⟨W3.heap.size, 0, none⟩, rfl, hsrc⟩) hdat hlb hBl ?_; intro v' W' hE' hk' hob')
        have hb9 : Below w.heap.size w W' := ((hb.trans (hqe.mono hb.size)).trans (hbA.mono (Nat.le_trans hb.size hqe.size))).trans (hk'.below (Nat.le_trans (Nat.le_trans hb.size hqe.size) hbA.size) fun k _ h2 => (heA.row.lt k h2).1)
        rw [← HTK.out] at hE'
        obtain ⟨A', c', rfl⟩ := own_form hE'.row
        clear hsrc hdat hlb hBl bS heA hslA hbA bE hqe d0 d1 d2 d3 d4 d5 d6 d7 d8 d9 hk' hob' he hb hdv
        go_wp2_with fail
        go_roundg (l.length - (k + 1))
        case measure => omega
        case rel => exact ⟨k + 1, _, by omega, rfl, by first | (simp; done) | (simp; omega), hE', hb9⟩
      · have hd : decide (4294967295 < e.mtime) = false := decide_eq_false hm
        have HM := Lib.hid (show (if 4294967295 < e.mtime then 7 else e.mtime) = e.mtime from if_neg hm)
        clear hm bE2 d0 d1 d2 d3 d4 d5 d6 d8 d9
        go_upto_region 10 with fail
        clear d7
        have hbA : Below W2.heap.size W2 (W2.alloc (.cells #[.string (bs e.path), .int .i64 e.kind, .int .i64 e.mode, .int .i64 e.uid, .int .i64 e.gid, .string ⟨#[]⟩, .string ⟨#[]⟩, .int .i64 e.mtime, .string (bs e.link), .slice Ad e.data.length capd] tE)) := (Below.refl _ _).alloc (Nat.le_refl _) _
        have bS : Blk (W2.alloc (.cells #[.string (bs e.path), .int .i64 e.kind, .int .i64 e.mode, .int .i64 e.uid, .int .i64 e.gid, .string ⟨#[]⟩, .string ⟨#[]⟩, .int .i64 e.mtime, .string (bs e.link), .slice Ad e.data.length capd] tE)) W2.heap.size tE #[.string (bs e.path), .int .i64 e.kind, .int .i64 e.mode, .int .i64 e.uid, .int .i64 e.gid, .string ⟨#[]⟩, .string ⟨#[]⟩, .int .i64 e.mtime, .string (bs e.link), .slice Ad e.data.length capd] := Blk.new W2 _ _
        have heA := (he.below hqe).below hbA
        have hslA := Below.sl good_byte hbA (hdv.keep good_byte (Kept.of_below hqe _))
        obtain ⟨d0, d1, d2, d3, d4, d5, d6, d7, d8, d9⟩ := bE.cells10
        have hsrc : ∀ j u, (ofC [bareE e] (fun _ => .slice Ad e.data.length capd))[j]? = some u → (W2.alloc (.cells #[.string (bs e.path), .int .i64 e.kind, .int .i64 e.mode, .int .i64 e.uid, .int .i64 e.gid, .string ⟨#[]⟩, .string ⟨#[]⟩, .int .i64 e.mtime, .string (bs e.link), .slice Ad e.data.length capd] tE)).cell? ((⟨W2.heap.size, 0, none⟩ : Addr).add j) = some u := fun j u hu => by
          have hu2 : (entC (bareE e) (.slice Ad e.data.length capd))[j]? = some u := by simpa [ofC] using hu
          rw [Addr.add_lit, Nat.zero_add, bS.cell]
          show (List.toArray _)[j]? = _
          rw [List.getElem?_toArray]
          rw [entC, bareE, HM.out] at hu2
          exact hu2
        have hdat : ∀ j (h : j < [bareE e].length), Sl 1 Rbyte (fun k => u3.ownBlock = some k) (W2.alloc (.cells #[.string (bs e.path), .int .i64 e.kind, .int .i64 e.mode, .int .i64 e.uid, .int .i64 e.gid, .string ⟨#[]⟩, .string ⟨#[]⟩, .int .i64 e.mtime, .string (bs e.link), .slice Ad e.data.length capd] tE)) ((fun _ : Nat => Value.slice Ad e.data.length capd) j) [bareE e][j].data := fun j hj => by
          have hj0 : j = 0 := by simp at hj; exact hj
          subst hj0
          exact hslA.mono good_byte (by omega) fun k _ h2 => HOLD.out k h2
        have hlb : ((l.take k).map bareE).length + [bareE e].length ≤ 1000000 := by rw [List.length_map, List.length_take]; simp; omega
        have hBl := Nat.le_trans (Nat.le_trans hb.size hqe.size) hbA.size
        go_upto_region 4 with (at_builtin; refine wpList_appendEO (M := [bareE e]) (g := fun _ => .slice Ad e.data.length capd) rfl _ _ rfl rfl heA rfl (fun h => by cases h) (fun _ => ⟨⟨W2.heap.size, 0, none⟩, rfl, hsrc⟩) hdat hlb hBl ?_; intro v' W' hE' hk' hob')
        have hb9 : Below w.heap.size w W' := ((hb.trans (hqe.mono hb.size)).trans (hbA.mono (Nat.le_trans hb.size hqe.size))).trans (hk'.below (Nat.le_trans (Nat.le_trans hb.size hqe.size) hbA.size) fun k _ h2 => (heA.row.lt k h2).1)
        rw [← HTK.out] at hE'
        obtain ⟨A', c', rfl⟩ := own_form hE'.row
        clear hsrc hdat hlb hBl bS heA hslA hbA bE hqe d0 d1 d2 d3 d4 d5 d6 d7 d8 d9 hk' hob' he hb hdv
        go_wp2_with fail
        go_roundg (l.length - (k + 1))
        case measure => omega
        case rel => exact ⟨k + 1, _, by omega, rfl, by first | (simp; done) | (simp; omega), hE', hb9⟩
    · have hke : k = l.length := by omega
      subst hke
      rw [List.take_length] at he
      go_wp2_with fail
      go_ret
      exact ⟨⟨_, f, rfl, he⟩, hb⟩
end Go.Proofs.YtolknddegfcmpaaDoor
namespace Go.Proofs.YtolknddegfcmpaaDoor
open Go.RowKit
def mn (n : Nat) : Nat := if 4001 < n then 4001 else n
theorem mn_int (n : Nat) : min (n : Int) (IntKind.i64.wrap 4001) = (mn n : Int) := by
  rw [i64_in 4001 (by omega) (by omega)]
  unfold mn; split <;> omega
theorem mn_le (n : Nat) : mn n ≤ 4001 := by unfold mn; split <;> omega
theorem mn_of (n : Nat) (h : mn n ≤ 4000) : mn n = n := by unfold mn at *; split at h <;> simp_all <;> omega
def wE (e : En) : Nat := mn e.path.length + mn e.link.length + mn e.owner.length + mn e.group.length + mn e.data.length
def ltE : Nat → List En → Bool
  | n, [] => decide (n ≤ 4000)
  | n, e :: t => if n ≤ 4000 then ltE (n + wE e) t else false
/-- Are entries few, and their texts and data short, in all? -/
def lightE (c : Nat) (l : List En) : Bool := if c < l.length then false else ltE 0 l
theorem ltE_step (n : Nat) (l : List En) (k : Nat) (h : k < l.length) : ltE n (l.drop k) = if n ≤ 4000 then ltE (n + wE l[k]) (l.drop (k + 1)) else false := by rw [List.drop_eq_getElem_cons h]; rfl
theorem ltE_big (n : Nat) (l : List En) (h : ¬ n ≤ 4000) : ltE n l = false := by
  cases l with
  | nil => simpa [ltE] using h
  | cons e t => rw [ltE, if_neg h]
theorem ltE_w : ∀ (l : List En) (n : Nat), ltE n l = true → ∀ e ∈ l, e.path.length ≤ 4000 ∧ e.link.length ≤ 4000 ∧ e.owner.length ≤ 4000 ∧ e.group.length ≤ 4000 ∧ e.data.length ≤ 4000
  | [], n, _, e, he => by cases he
  | x :: t, n, h, e, he => by
    rw [ltE] at h
    split at h
    · rcases List.mem_cons.1 he with rfl | he
      · have h2 : n + wE e ≤ 4000 := by
          by_cases h3 : n + wE e ≤ 4000
          · exact h3
          · rw [ltE_big _ _ h3] at h; cases h
        unfold wE at h2
        have h1 := mn_of e.path.length (by omega)
        have h3 := mn_of e.link.length (by omega)
        have h4 := mn_of e.owner.length (by omega)
        have h5 := mn_of e.group.length (by omega)
        have h6 := mn_of e.data.length (by omega)
        omega
      · exact ltE_w t _ h e he
    · cases h
theorem light_eb (c : Nat) (l : List En) (h : lightE c l = true) : l.length ≤ c ∧ ∀ e ∈ l, e.path.length ≤ 4000 ∧ e.link.length ≤ 4000 ∧ e.owner.length ≤ 4000 ∧ e.group.length ≤ 4000 ∧ e.data.length ≤ 4000 := by
  rw [lightE] at h
  split at h
  · cases h
  · exact ⟨by omega, ltE_w l 0 h⟩
theorem light_lb (c : Nat) (hc : c ≤ 1000000) (l : List En) (h : lightE c l = true) : LB l := by
  obtain ⟨h1, h2⟩ := light_eb c l h
  exact ⟨by omega, fun e he => by obtain ⟨a, b, c, d, _⟩ := h2 e he; exact ⟨by omega, by omega, by omega, by omega⟩⟩
set_option maxRecDepth 20000 in
set_option maxHeartbeats 8000000 in
theorem rlight_any (l : List En) (c : Nat) (v : Value) (X : Nat → Prop) (w : World) (hsl : Sl 10 Rent X w v l) (hc : c ≤ 1000000) :
    Calls Tryd.prog 8 #[v, .int .i64 c, .int .i64 4000] w fun e w' => e = .returned (.bool (lightE c l)) ∧ Below w.heap.size w w' := by
  obtain ⟨A, cap, rfl, hc1, hc2⟩ := hsl.form
  unfold maxLen at hc2
  have HT : Hid (lightE c l = if c < l.length then false else ltE 0 l) := Lib.hid rfl
  generalize lightE c l = res at HT
  by_cases h60 : c < l.length
  · have hd : decide ((c : Int) < (l.length : Int)) = true := by simp; omega
    have hd' : decide (c < l.length) = true := by simpa using h60
    have HV : Hid (res = false) := Lib.hid (by rw [HT.out, if_pos h60])
    clear h60
    go_enter Tryd.func8, Tryd.ntmps8
    go_wp2_with fail
    go_ret
    exact ⟨by rw [HV.out]; rfl, Below.refl _ _⟩
  · have hd : decide ((c : Int) < (l.length : Int)) = false := by simp; omega
    have hd' : decide (c < l.length) = false := by simpa using h60
    have HV : Hid (res = ltE 0 (l.drop 0)) := Lib.hid (by rw [HT.out, if_neg h60]; rfl)
    clear h60 HT
    go_enter Tryd.func8, Tryd.ntmps8
    go_wp2_with fail
    go_loopg [7, 8] l.length (fun G s7 s8 wr => ∃ k n : Nat, k ≤ l.length ∧ n ≤ 30010 ∧ G = l.length - k ∧ s7 = .int .i64 n ∧ s8 = .int .i64 k ∧ Below w.heap.size w wr ∧ Hid (res = ltE n (l.drop k)))
    case atStart => exact ⟨0, 0, Nat.zero_le _, Nat.zero_le _, rfl, rfl, rfl, Below.refl _ _, HV⟩
    case round =>
      clear HV hd hd'
      obtain ⟨k, n, hk, hn, rfl, rfl, rfl, hbw, HE⟩ := hrel
      by_cases hlt : k < l.length
      · have hlt' : decide ((k : Int) < (l.length : Int)) = true := by simp; omega
        by_cases h5 : n ≤ 4000
        · have hle : decide ((n : Int) ≤ (4000 : Int)) = true := by simp; omega
          obtain ⟨b, off, rfl, _, hcj⟩ := (hsl.keep good_ent (Kept.of_below hbw X)).ent (by omega)
          obtain ⟨dv, hat, hdv⟩ := hcj k hlt
          obtain ⟨Ad, capd, rfl, _, _⟩ := hdv.form
          have HST := Lib.hid (HE.out.trans ((ltE_step n l k hlt).trans (if_pos h5)))
          clear hcj HE hdv
          generalize l[k] = e at hat HST
          obtain ⟨path, kind, mode, uid, gid, owner, group, mtime, link, data⟩ := e
          obtain ⟨c0, _, _, _, _, c5, c6, _, c8, c9⟩ := hat
          simp only at c0 c5 c6 c8 c9
          have HW : Hid (wE ⟨path, kind, mode, uid, gid, owner, group, mtime, link, data⟩ = mn path.length + mn link.length + mn owner.length + mn group.length + mn data.length) := Lib.hid rfl
          have i1 : (0 : Int) ≤ (k : Int) := by omega
          have i2 : (k : Int) < (l.length : Int) := by omega
          have z1 : ((bs path).size : Int) = (path.length : Int) := by rw [bs_size]
          have z2 : ((bs link).size : Int) = (link.length : Int) := by rw [bs_size]
          have z3 : ((bs owner).size : Int) = (owner.length : Int) := by rw [bs_size]
          have z4 : ((bs group).size : Int) = (group.length : Int) := by rw [bs_size]
          have y1 := mn_int path.length
          have y2 := mn_int link.length
          have y3 := mn_int owner.length
          have y4 := mn_int group.length
          have y5 := mn_int data.length
          have x1 := mn_le path.length
          have x2 := mn_le link.length
          have x3 := mn_le owner.length
          have x4 := mn_le group.length
          have x5 := mn_le data.length
          generalize mn path.length = a1 at *
          generalize mn link.length = a2 at *
          generalize mn owner.length = a3 at *
          generalize mn group.length = a4 at *
          generalize mn data.length = a5 at *
          have w1 : IntKind.i64.wrap ((n : Int) + a1) = (n : Int) + a1 := i64_in _ (by omega) (by omega)
          have w2 : IntKind.i64.wrap ((n : Int) + a1 + a2) = (n : Int) + a1 + a2 := i64_in _ (by omega) (by omega)
          have w3 : IntKind.i64.wrap ((n : Int) + a1 + a2 + a3) = (n : Int) + a1 + a2 + a3 := i64_in _ (by omega) (by omega)
          have w4 : IntKind.i64.wrap ((n : Int) + a1 + a2 + a3 + a4) = (n : Int) + a1 + a2 + a3 + a4 := i64_in _ (by omega) (by omega)
          have w5 : IntKind.i64.wrap ((n : Int) + a1 + a2 + a3 + a4 + a5) = ((n + (a1 + a2 + a3 + a4 + a5) : Nat) : Int) := by rw [i64_in _ (by omega) (by omega)]; omega
          go_upto_region 7 with fail
          refine wp_region_plan (fun W => W.cell? ⟨b, off + k * 10, none⟩ = some (.string (bs path)) ∧ W.cell? ⟨b, off + k * 10 + 8, none⟩ = some (.string (bs link)) ∧ W.cell? ⟨b, off + k * 10 + 5, none⟩ = some (.string (bs owner)) ∧ W.cell? ⟨b, off + k * 10 + 6, none⟩ = some (.string (bs group)) ∧ W.cell? ⟨b, off + k * 10 + 9, none⟩ = some (.slice Ad data.length capd)) [(false, 0), (false, 1), (false, 2), (false, 3), (false, 4), (false, 5), (false, 6), (false, 7), (false, 8), (false, 9), (false, 10), (false, 11), (false, 12), (false, 13), (false, 14), (false, 15), (false, 16), (false, 17), (false, 18), (false, 19), (false, 20), (false, 21), (false, 22), (false, 23), (false, 24), (false, 25), (false, 26), (false, 27), (false, 28), (false, 29), (false, 30), (false, 31), (false, 32), (false, 33), (false, 34), (false, 35), (false, 36), (false, 37), (false, 38), (false, 39), (false, 40), (false, 41), (false, 42), (false, 43), (false, 44), (false, 45), (false, 46), (false, 47), (false, 48), (false, 49), (false, 50), (false, 51)] (by kernel_rfl) (by kernel_rfl) (⟨by simpa using c0, by simpa using c8, by simpa using c5, by simpa using c6, by simpa using c9⟩) ?_
          simp only [planOps, List.map, List.getD_cons_zero, List.getD_cons_succ]
          iterate 52 ((first | refine plan_quiet (v := ?_) rfl rfl (fun w' hw' => ?_) ?_ | refine plan_calm (v := ?_) (tt_of) rfl (fun w' hw' => ?_) ?_); rotate_left; (focus (go_simp <;> (first | with_reducible rfl | (rw [if_neg (by simp [undef])]; try rfl)))); simp only [Act.put, List.setIfInBounds_toArray, List.set_cons_zero, List.set_cons_succ])
          refine plan_end ?_
          have hqd := hbw.drew
          have HZ := Lib.hid (HST.out.trans (by rw [HW.out]))
          clear HST HW c0 c5 c6 c8 c9 z1 z2 z3 z4
          go_wp2_with fail
          go_roundg (l.length - (k + 1))
          case measure => omega
          case rel => exact ⟨k + 1, n + (a1 + a2 + a3 + a4 + a5), by omega, by omega, rfl, congrArg (Value.int .i64) (by omega), by simp, hqd, HZ⟩
        · have hle : decide ((n : Int) ≤ (4000 : Int)) = false := by simp; omega
          have HZ : Hid (res = false) := Lib.hid (by rw [HE.out, ltE_big _ _ h5])
          clear HE h5
          go_wp2_with fail
          go_ret
          exact ⟨by rw [HZ.out]; rfl, hbw⟩
      · have hlt' : decide ((k : Int) < (l.length : Int)) = false := by simp; omega
        obtain ⟨bb, HB⟩ : ∃ bb, Hid (decide (n ≤ 4000) = bb) := ⟨_, Lib.hid rfl⟩
        have hle : decide ((n : Int) ≤ (4000 : Int)) = bb := by rw [← HB.out]; apply decide_eq_decide.2; omega
        have HZ : Hid (res = bb) := Lib.hid (by rw [HE.out, List.drop_eq_nil_of_le (by omega), ltE, HB.out])
        clear HE HB
        go_wp2_with fail
        go_ret
        exact ⟨by rw [HZ.out]; first | rfl | (rw [← hle]), hbw⟩
end Go.Proofs.YtolknddegfcmpaaDoor
