/- The walk of tar's member. Printed by gen_tbl.py. -/
import Derived.Test.YtpheifdpjcppdaaGreatDoorTbJK
namespace Go.Proofs.YtpheifdpjcppdaaGreatDoor
open Go.RowKit
def memQ (p : Nat) (t : Td) (fr : Nat) (L : List En) (PL : List Nat) (s : Stp) (k c : Int) (L' : List En) (PL' : List Nat) (t' : Td) (fr' : Nat) : Prop :=
  match s with
  | .bad e => c = e ∧ L' = L ∧ PL' = PL
  | .order => c = 15 ∧ L' = L ∧ PL' = PL ∧ fr' = fr
  | .fin => k = -1 ∧ c = 0 ∧ L' = L ∧ PL' = PL
  | .tell t2 nx => k = (nx : Int) ∧ c = 0 ∧ L' = L ∧ PL' = PL ∧ t' = t2 ∧ fr' = (if noneB t = true then p else fr)
  | .ent e nx => k = (nx : Int) ∧ c = 0 ∧ L' = L ++ [e] ∧ PL' = PL ++ [p] ∧ t' = fun _ => none
/-- What came of a member: where the next one is, a code, and the reader. -/
def MemP (w0 : World) (gr mf : Nat) (bv lv pv : Value) (w : World) (Q : Int → Int → List En → List Nat → Td → Nat → Prop) (r : Ending) (w' : World) : Prop :=
  ∃ k c mf' lv' pv' f' L' PL' t' fr', r = .returned (.tuple #[.int .i64 k, .int .i64 c]) ∧ RT w0 gr mf' bv lv' pv' L' f' PL' t' fr' w' ∧ Kept (BX gr mf lv pv) w w' ∧ Q k c L' PL' t' fr'
theorem fst_bad : ∀ l : List (List UInt8), fstBad l = 0 ∨ fstBad l = 3 ∨ fstBad l = 4
  | [] => .inl rfl
  | s :: l => by
    rw [fstBad]
    split
    · exact fst_bad l
    · rename_i h
      unfold octCode at h ⊢
      split
      · split
        · exact .inr (.inr rfl)
        · rename_i h2; rename_i h1; rw [if_pos h1, if_neg h2] at h; exact absurd rfl h
      · exact .inr (.inl rfl)
theorem head_bad {l : List UInt8} {c : Int} (h : headS l = .bad c) : c ≠ 0 ∧ c ≠ 15 := by
  unfold headS at h
  split at h
  · injection h with h; subst h; decide
  split at h
  · injection h with h; subst h; decide
  split at h
  · rename_i h3
    injection h with h
    rcases fst_bad (numsL l) with e | e | e
    · exact absurd e h3
    · rw [e] at h; subst h; decide
    · rw [e] at h; subst h; decide
  · cases h
theorem head_ok {l : List UInt8} {h : HdR} (e : headS l = .ok h) : h = hdR l := by
  unfold headS at e
  split at e
  · cases e
  split at e
  · cases e
  split at e
  · cases e
  · injection e with e; exact e.symm
theorem hdR_len (l : List UInt8) : (hdR l).name.length ≤ 100 ∧ (hdR l).pfx.length ≤ 155 := by
  have f : ∀ a b, (upZ (fldB l a b)).length ≤ b := fun a b => by
    have h1 := upZ_le (fldB l a b)
    have h2 : (fldB l a b).length ≤ b := by rw [fldB, List.length_take]; omega
    omega
  exact ⟨f 0 100, f 345 155⟩
theorem oct_lt (s : List UInt8) : ocN s < 4611686018427387904 := by
  unfold ocN
  exact uoF_lt _ fun c hc => by
    have : ∀ l : List UInt8, ∀ c ∈ l.takeWhile isOct, isOct c = true := fun l c hc => by
      have := List.all_takeWhile (p := isOct) (l := l)
      exact List.all_eq_true.1 this c hc
    exact this _ c hc
theorem end_same (bb : List UInt8) (t : Td) (p : Nat) (h1 : ¬ bb.length < p + 512) (h2 : nulB (fldB bb p 512) = true) :
    (stepT bb t p = .bad 2 ∧ endS bb t p = (0, 2)) ∨ (stepT bb t p = .bad 3 ∧ endS bb t p = (0, 3)) ∨ (stepT bb t p = .order ∧ endS bb t p = (0, 15)) ∨ (stepT bb t p = .fin ∧ endS bb t p = (-1, 0)) := by
  unfold stepT endS
  rw [if_neg h1, if_pos h2]
  by_cases a1 : bb.length < p + 1024
  · exact .inl ⟨if_pos a1, if_pos a1⟩
  rw [if_neg a1, if_neg a1]
  by_cases a2 : nulB (fldB bb (p + 512) 512) = false
  · exact .inr (.inl ⟨if_pos a2, if_pos a2⟩)
  rw [if_neg a2, if_neg a2]
  by_cases a3 : noneB t = false
  · exact .inr (.inr (.inl ⟨if_pos a3, if_pos a3⟩))
  · exact .inr (.inr (.inr ⟨if_neg a3, if_neg a3⟩))
/-- The size that counts; what comes behind it. -/
def szO (own : Bool) (t : Td) (h : HdR) : Nat := if own = true then orN t kSize h.size else h.size
def shortO (b : List UInt8) (p sz : Nat) : Bool := decide (b.length < p + 512 + sz) || decide (b.length < p + 512 + upB sz)
def outO (own : Bool) (b : List UInt8) (t : Td) (p : Nat) (h : HdR) (sz : Nat) : Stp :=
  if own = true then .ent (entS t h (fldB b (p + 512) sz)) (p + 512 + upB sz)
  else if (tellS t h.kind (fldB b (p + 512) sz)).1 = 0 then .tell (tellS t h.kind (fldB b (p + 512) sz)).2 (p + 512 + upB sz)
  else .bad (tellS t h.kind (fldB b (p + 512) sz)).1
theorem body_tell {b : List UInt8} {t : Td} {p : Nat} {h : HdR} (h1 : isTell h.kind = true) : bodyS b t p h = if (t [h.kind]).isSome = true then .bad 3 else if shortO b p (szO false t h) = true then .bad 2 else outO false b t p h (szO false t h) := by
  unfold bodyS
  rw [if_pos h1]
  simp only [szO, outO, shortO, Bool.or_eq_true, decide_eq_true_eq, if_neg (show ¬ (false = true) by decide)]
theorem body_own {b : List UInt8} {t : Td} {p : Nat} {h : HdR} (h1 : isTell h.kind = false) (h2 : kindR h.kind ≠ 0) : bodyS b t p h = if kindR h.kind ≠ 1 ∧ 0 < szO true t h then .bad 3 else if shortO b p (szO true t h) = true then .bad 2 else outO true b t p h (szO true t h) := by
  unfold bodyS
  rw [if_neg (by rw [h1]; simp), if_neg h2]
  simp only [szO, outO, shortO, Bool.or_eq_true, decide_eq_true_eq, if_true]
theorem body_none {b : List UInt8} {t : Td} {p : Nat} {h : HdR} (h1 : isTell h.kind = false) (h2 : kindR h.kind = 0) : bodyS b t p h = .bad 9 := by
  unfold bodyS
  rw [if_neg (by rw [h1]; simp), if_pos h2]
theorem kind_ne {k : UInt8} {n : Nat} (h : ¬ k = UInt8.ofNat n) (hn : n < 256 := by decide) : ((k.toNat : Int) == (n : Int)) = false := by
  have : ¬ k.toNat = n := fun e => h (by rw [← e]; simp)
  simpa using (show ¬ (k.toNat : Int) = (n : Int) by omega)
/-- What is looked up of a head's type: each operation's value. -/
def mbR (base : Nat) (kd : UInt8) (x : Value) (b : Bool) : Nat → Value → World → Prop
  | 6, v, w => ∃ g, v = .slice (some ⟨g, 0, none⟩) 1 1 ∧ Blk w g 5 #[.int .u8 (kd.toNat : Int)]
  | 7, v, _ => v = .string (bs [kd])
  | 8, v, _ => v = .tuple #[x, .bool b]
  | 9, v, _ => v = .tuple #[x, .bool b]
  | 10, v, _ => v = x
  | 11, v, _ => v = .bool b
  | 12, v, w => ∃ g c0 c1, v = .pointer (some ⟨g, 0, none⟩) ∧ Blk w g 90 #[c0, c1] ∧ base ≤ g
  | 14, v, _ => v = .bool b
  | _, _, _ => True
theorem mbR_store {base : Nat} {kd : UInt8} {x : Value} {b : Bool} {w : World} {g : Nat} {c0 c1 : Value} (hg : Blk w g 90 #[c0, c1]) (a0 a1 : Value) : ∀ k v, mbR base kd x b k v w → mbR base kd x b k v ((w.setCell ⟨g, 0, none⟩ a0).setCell ⟨g, 1, none⟩ a1) := by
  intro k v hR
  have hg1 : Blk (w.setCell ⟨g, 0, none⟩ a0) g 90 #[a0, c1] := by simpa using hg.set (u := a0) 0
  have hg2 : Blk ((w.setCell ⟨g, 0, none⟩ a0).setCell ⟨g, 1, none⟩ a1) g 90 #[a0, a1] := by simpa using hg1.set (u := a1) 1
  unfold mbR at hR ⊢
  split at hR
  · obtain ⟨g', h1, h2⟩ := hR
    exact ⟨g', h1, (h2.other (a := ⟨g, 0, none⟩) a0 (Blk.apartT h2 hg (by decide))).other (a := ⟨g, 1, none⟩) a1 (Blk.apartT h2 hg (by decide))⟩
  · exact hR
  · exact hR
  · exact hR
  · exact hR
  · exact hR
  · obtain ⟨g', d0, d1, h1, h2, h3⟩ := hR
    by_cases e : g' = g
    · subst e
      exact ⟨g', _, _, h1, hg2, h3⟩
    · exact ⟨g', _, _, h1, (h2.other (a := ⟨g, 0, none⟩) a0 e).other (a := ⟨g, 1, none⟩) a1 e, h3⟩
  · exact hR
  · trivial
theorem mbR_grow (base : Nat) (kd : UInt8) (x : Value) (b : Bool) : ∀ k v w w', mbR base kd x b k v w → Below w.heap.size w w' → mbR base kd x b k v w' := by
  intro k v w w' hR hb
  unfold mbR at hR ⊢
  split at hR
  · obtain ⟨g, h1, h2⟩ := hR
    exact ⟨g, h1, h2.below hb h2.lt⟩
  · exact hR
  · exact hR
  · exact hR
  · exact hR
  · exact hR
  · obtain ⟨g, _, _, h1, h2, h3⟩ := hR
    exact ⟨g, _, _, h1, h2.below hb h2.lt, h3⟩
  · exact hR
  · trivial
variable {w0 w w' : World} {gr mf : Nat} {bv lv pv : Value} {L : List En} {f : Nat → Value} {PL : List Nat} {t : Td} {fr : Nat}
theorem RT.bx_lt (rd : RT w0 gr mf bv lv pv L f PL t fr w) {k : Nat} (h : BX gr mf lv pv k) : k < w.heap.size := by
  rcases h with h | h | h | h
  · rw [h]; exact rd.blk.lt
  · rw [h]; exact rd.mflt
  · obtain ⟨_, hc⟩ := own_typed rd.row h; exact hc.lt
  · obtain ⟨_, hc⟩ := own_typed rd.pl h; exact hc.lt
theorem RT.off (rd : RT w0 gr mf bv lv pv L f PL t fr w) {g : Nat} {ty : TypeId} {cs : Array Value} (hg : Blk w g ty cs) (h1 : ty ≠ 58) (h2 : tE ≠ ty) (h3 : 3 ≠ ty) : ¬ BX gr mf lv pv g := fun h => by
  obtain ⟨mo, hmo, hM⟩ := rd.mp
  rcases h with h | h | h | h
  · exact Blk.apartT hg rd.blk h1 h
  · exact blk_notmap hg hmo hM.isMap h
  · exact own_notblk rd.row hg h2 h
  · exact own_notblk rd.pl hg h3 h
set_option maxRecDepth 20000 in
set_option maxHeartbeats 64000000 in
theorem tmember_any (hrd : RT w0 gr mf bv lv pv L f PL t fr w) (bb : List UInt8) (hb : Sl 1 Rbyte (fun k => w0.heap.size ≤ k) w0 bv bb) (hbl : bb.length ≤ 10000000) (hT : TdOk t) (hTL : ∀ k p, t k = some p → p.1.length ≤ 10000000 ∧ p.2 ≤ 4611686018427387904) (p : Nat) (hp : p ≤ bb.length) (hLl : L.length ≤ 100000) (hPl : PL.length ≤ 100000) :
    Calls Tryz.prog 25 #[.pointer (some ⟨gr, 0, none⟩), .int .i64 p] w (MemP w0 gr mf bv lv pv w (memQ p t fr L PL (stepT bb t p))) := by
  obtain ⟨Ab, capb, rfl, hb1, hb2⟩ := hb.form
  unfold maxLen at hb2
  have HM : Hid (stepT bb t p = if bb.length < p + 512 then .bad 2 else if nulB (fldB bb p 512) = true then (if bb.length < p + 1024 then .bad 2 else if nulB (fldB bb (p + 512) 512) = false then .bad 3 else if noneB t = false then .order else .fin) else match headS (fldB bb p 512) with | .bad c => .bad c | .ok h => bodyS bb t p h) := Lib.hid rfl
  have HES := Lib.hid (end_same bb t p)
  obtain ⟨M, HMM⟩ : ∃ M, Hid (stepT bb t p = M) := ⟨_, Lib.hid rfl⟩
  rw [HMM.out] at HM HES ⊢
  have w1 : IntKind.i64.wrap ((bb.length : Int) - (p : Int)) = (bb.length : Int) - (p : Int) := i64_in _ (by omega) (by omega)
  have hu8 : (Tryz.prog.info? 5).map (·.size) = some 1 := by kernel_rfl
  have r0 : w.cell? ⟨gr, 0, none⟩ = some (.slice Ab bb.length capb) := by have := hrd.blk.cell 0; simpa using this
  go_enter Tryz.func25, Tryz.ntmps25
  by_cases h1 : bb.length < p + 512
  · have t1 : decide ((bb.length : Int) - (p : Int) < 512) = true := decide_eq_true (by omega)
    have HV := Lib.hid (HM.out.trans (if_pos h1))
    clear h1 HM HES
    go_wp2_with fail
    go_ret2
    exact ⟨_, _, _, _, _, _, _, _, _, _, rfl, hrd, Kept.refl _ _, by rw [HV.out]; exact ⟨rfl, rfl, rfl⟩⟩
  have t1 : decide ((bb.length : Int) - (p : Int) < 512) = false := decide_eq_false (by omega)
  have HM2 := Lib.hid (HM.out.trans (if_neg h1))
  have hpl : p + 512 ≤ bb.length := by omega
  obtain ⟨p1, HP1⟩ : ∃ x, Hid (x = p + 512) := ⟨_, Lib.hid rfl⟩
  have w2 : IntKind.i64.wrap ((p : Int) + 512) = (p1 : Int) := by rw [i64_in _ (by omega) (by omega), HP1.out]; omega
  obtain ⟨A1, cap1, hsc1, hsb1⟩ := Sl.fld (P := Tryz.prog) hb 25 5 Tryz.underlying25 hu8 p p1 (by rw [HP1.out]; omega) (by rw [HP1.out]; omega)
  have e512 : p1 - p = 512 := by rw [HP1.out]; omega
  rw [e512] at hsc1 hsb1
  have hsw1 := hsb1.keep good_byte (Kept.low' hrd.bel)
  have hem := tempty_any _ _ w hsw1.sb8
  have hlb : (fldB bb p 512).length = 512 := fldB_len hpl
  have hen := tend_any hrd bb hb (by omega) hT p hpl
  have hrh := readHead_any (fldB bb p 512) hlb A1 cap1 _ w hsw1
  have HHB := Lib.hid (fun c h => head_bad (l := fldB bb p 512) (c := c) h)
  have HHO := Lib.hid (fun hh (h : headS (fldB bb p 512) = .ok hh) => head_ok h)
  have HHL := hdR_len (fldB bb p 512)
  have HOC := Lib.hid (oct_lt (fldB (fldB bb p 512) 124 12))
  have HHS : (hdR (fldB bb p 512)).size = ocN (fldB (fldB bb p 512) 124 12) := rfl
  have hblk : fldB bb p (p1 - p) = fldB bb p 512 := by rw [e512]
  clear HM hsw1 hsb1 hlb hblk
  by_cases hnu : nulB (fldB bb p 512) = true
  · rw [hnu] at hem
    have hes := HES.out h1 hnu
    clear HM2 HES hrh HHB HHO HHL HOC HHS hnu h1 e512
    rcases hes with ⟨e1, e2⟩ | ⟨e1, e2⟩ | ⟨e1, e2⟩ | ⟨e1, e2⟩
    · rw [e2] at hen
      have HV := Lib.hid e1
      clear e1 e2
      go_wp2_with first
        | (go_at_call 44; refine hem.mono ?_; clear hem; rintro r W2 ⟨rfl, rfl⟩)
        | (go_at_call 45; refine hen.mono ?_; clear hen; rintro r W2 ⟨rfl, rfl⟩)
      go_ret2
      exact ⟨_, _, _, _, _, _, _, _, _, _, rfl, hrd, Kept.refl _ _, by rw [HV.out]; exact ⟨rfl, rfl, rfl⟩⟩
    · rw [e2] at hen
      have HV := Lib.hid e1
      clear e1 e2
      go_wp2_with first
        | (go_at_call 44; refine hem.mono ?_; clear hem; rintro r W2 ⟨rfl, rfl⟩)
        | (go_at_call 45; refine hen.mono ?_; clear hen; rintro r W2 ⟨rfl, rfl⟩)
      go_ret2
      exact ⟨_, _, _, _, _, _, _, _, _, _, rfl, hrd, Kept.refl _ _, by rw [HV.out]; exact ⟨rfl, rfl, rfl⟩⟩
    · rw [e2] at hen
      have HV := Lib.hid e1
      clear e1 e2
      go_wp2_with first
        | (go_at_call 44; refine hem.mono ?_; clear hem; rintro r W2 ⟨rfl, rfl⟩)
        | (go_at_call 45; refine hen.mono ?_; clear hen; rintro r W2 ⟨rfl, rfl⟩)
      go_ret2
      exact ⟨_, _, _, _, _, _, _, _, _, _, rfl, hrd, Kept.refl _ _, by rw [HV.out]; exact ⟨rfl, rfl, rfl, rfl⟩⟩
    · rw [e2] at hen
      have HV := Lib.hid e1
      clear e1 e2
      go_wp2_with first
        | (go_at_call 44; refine hem.mono ?_; clear hem; rintro r W2 ⟨rfl, rfl⟩)
        | (go_at_call 45; refine hen.mono ?_; clear hen; rintro r W2 ⟨rfl, rfl⟩)
      go_ret2
      exact ⟨_, _, _, _, _, _, _, _, _, _, rfl, hrd, Kept.refl _ _, by rw [HV.out]; exact ⟨rfl, rfl, rfl, rfl⟩⟩
  have hnf : nulB (fldB bb p 512) = false := by simpa using hnu
  have HM3 := Lib.hid (HM2.out.trans (if_neg hnu))
  rw [hnf] at hem
  clear HM2 HES hen hnu hnf h1
  cases hhs : headS (fldB bb p 512) with
  | bad c =>
    rw [hhs] at hrh
    obtain ⟨hc0, _⟩ := HHB.out c hhs
    have hrh2 : Calls Tryz.prog 46 #[.slice A1 512 cap1] w fun r w' => r = .returned (.tuple #[.agg #[.string ⟨#[]⟩, .string ⟨#[]⟩, .string ⟨#[]⟩, .int .i64 0, .int .i64 0, .int .i64 0, .int .i64 0, .int .i64 0, .int .u8 0, .string ⟨#[]⟩, .string ⟨#[]⟩], .bool false, .int .i64 c]) ∧ Below w.heap.size w w' := hrh
    have HV : Hid (M = .bad c) := Lib.hid (by have := HM3.out; rw [hhs] at this; exact this)
    have q1 : (c != 0) = true := by simpa using hc0
    clear HM3 HHB HHO HHL HOC HHS hhs hrh hc0
    go_wp2_with first
      | (go_at_call 44; refine hem.mono ?_; clear hem; rintro r W2 ⟨rfl, rfl⟩)
      | (go_at_call 46; refine hrh2.mono ?_; clear hrh2; rintro r W2 ⟨rfl, hbq⟩; have hfin := hbq.alloc hbq.size (.cells #[.string ⟨#[]⟩, .string ⟨#[]⟩, .string ⟨#[]⟩, .int .i64 0, .int .i64 0, .int .i64 0, .int .i64 0, .int .i64 0, .int .u8 0, .string ⟨#[]⟩, .string ⟨#[]⟩] 43))
    go_ret2
    exact ⟨_, _, _, _, _, _, _, _, _, _, rfl, hrd.below hfin, Kept.of_below hfin _, by rw [HV.out]; exact ⟨rfl, rfl, rfl⟩⟩
  | ok h =>
    rw [hhs] at hrh
    have hho := HHO.out h hhs
    rw [← hho] at HHL HHS
    have hrh2 : Calls Tryz.prog 46 #[.slice A1 512 cap1] w fun r w' => r = .returned (.tuple #[.agg #[.string (bs h.name), .string (bs h.pfx), .string (bs h.link), .int .i64 (h.mode : Int), .int .i64 (h.uid : Int), .int .i64 (h.gid : Int), .int .i64 (h.size : Int), .int .i64 (h.mtime : Int), .int .u8 (h.kind.toNat : Int), .string (bs h.owner), .string (bs h.group)], .bool h.gnu, .int .i64 0]) ∧ Below w.heap.size w w' := hrh
    have HM4 : Hid (M = bodyS bb t p h) := Lib.hid (by have := HM3.out; rw [hhs] at this; exact this)
    obtain ⟨hhl1, hhl2⟩ := HHL
    have hsz := HOC.out
    rw [← HHS] at hsz
    clear HM3 HHB HHO HOC HHS hhs hrh hho
    go_upto_region 7 with first
      | (go_at_call 44; refine hem.mono ?_; clear hem; rintro r W2 ⟨rfl, rfl⟩)
      | (go_at_call 46; refine hrh2.mono ?_; clear hrh2; rintro r W2 ⟨rfl, hbq⟩)
    have bH := Blk.new W2 43 #[.string (bs h.name), .string (bs h.pfx), .string (bs h.link), .int .i64 (h.mode : Int), .int .i64 (h.uid : Int), .int .i64 (h.gid : Int), .int .i64 (h.size : Int), .int .i64 (h.mtime : Int), .int .u8 (h.kind.toNat : Int), .string (bs h.owner), .string (bs h.group)]
    have hq2 := (Below.refl W2.heap.size W2).alloc (Nat.le_refl _) (.cells #[.string (bs h.name), .string (bs h.pfx), .string (bs h.link), .int .i64 (h.mode : Int), .int .i64 (h.uid : Int), .int .i64 (h.gid : Int), .int .i64 (h.size : Int), .int .i64 (h.mtime : Int), .int .u8 (h.kind.toNat : Int), .string (bs h.owner), .string (bs h.group)] 43)
    have hbw := hbq.trans (hq2.mono hbq.size)
    have hgH : w.heap.size ≤ W2.heap.size := hbq.size
    clear hq2 hbq r0
    generalize W2.alloc (.cells #[.string (bs h.name), .string (bs h.pfx), .string (bs h.link), .int .i64 (h.mode : Int), .int .i64 (h.uid : Int), .int .i64 (h.gid : Int), .int .i64 (h.size : Int), .int .i64 (h.mtime : Int), .int .u8 (h.kind.toNat : Int), .string (bs h.owner), .string (bs h.group)] 43) = W3 at bH hbw ⊢
    generalize W2.heap.size = gH at bH hgH ⊢
    obtain ⟨y0, y1, y2, y3, y4, y5, y6, y7, y8, y9, y10⟩ := cells11 bH
    go_upto_block 0 with fail
    go_cut [10] (fun s10 wx => ∃ (own : Bool) (fr' : Nat), s10 = .bool own ∧ Blk wx gH 43 #[.string (bs h.name), .string (bs h.pfx), .string (bs h.link), .int .i64 (h.mode : Int), .int .i64 (h.uid : Int), .int .i64 (h.gid : Int), .int .i64 (szO own t h : Int), .int .i64 (h.mtime : Int), .int .u8 (h.kind.toNat : Int), .string (bs h.owner), .string (bs h.group)] ∧ RT w0 gr mf (.slice Ab bb.length capb) lv pv L f PL t fr' wx ∧ Kept (BX gr mf lv pv) w wx ∧ Hid (M = if shortO bb p (szO own t h) = true then .bad 2 else outO own bb t p h (szO own t h)) ∧ Hid (own = true → kindR h.kind ≠ 0) ∧ Hid (own = false → fr' = if noneB t = true then p else fr))
    case first => as_aux_lemma =>
      have rd3 := hrd.below hbw
      have r3 : W3.cell? ⟨gr, 3, none⟩ = some (.map (some mf)) := by have := rd3.blk.cell 3; simpa using this
      by_cases h0 : h.kind = 76
      · have hj : h.kind = 76 := h0
        have e76 : ((h.kind.toNat : Int) == 76) = true := by rw [hj]; rfl
        have e75 : ((h.kind.toNat : Int) == 75) = false := by rw [hj]; rfl
        have e120 : ((h.kind.toNat : Int) == 120) = false := by rw [hj]; rfl
        have HB := Lib.hid (HM4.out.trans (body_tell (b := bb) (t := t) (p := p) (show isTell h.kind = true by rw [hj]; rfl)))
        clear hj h0 HM4
        go_upto_region 15 with fail
        have HGET := Lib.hid (fun W (hb : Below W3.heap.size W3 W) => (rd3.below hb).get [h.kind])
        have HSR : ∀ W, Below W3.heap.size W3 W → (fun W => Below W3.heap.size W3 W ∧ W.cell? ⟨gr, 3, none⟩ = some (.map (some mf)) ∧ W.cell? ⟨gH, 8, none⟩ = some (.int .u8 (h.kind.toNat : Int))) W := fun W hb => by
          have q := Kept.of_below hb nowhere
          exact ⟨hb, q.cell r3 fun h => h, q.cell y8 fun h => h⟩
        cases htk : t [h.kind] with
        | some pv =>
          obtain ⟨pt, pn⟩ := pv
          have HV : Hid (M = .bad 3) := Lib.hid (HB.out.trans (if_pos (by rw [htk]; rfl)))
          have hgb : ∀ W, Below W3.heap.size W3 W → (Instr.lookup 55 (.map (some mf)) (.string (bs [h.kind])) true).run Tryz.prog W = .ok (.tuple #[.agg #[.string (bs pt), .int .i64 (pn : Int)], .bool true]) W := fun W hb => by
            have := HGET.out W hb
            rw [htk] at this
            exact this
          clear HB HGET htk
          refine wp_region_rel (mbR W3.heap.size h.kind (.agg #[.string (bs pt), .int .i64 (pn : Int)]) true) (fun W => Below W3.heap.size W3 W ∧ W.cell? ⟨gr, 3, none⟩ = some (.map (some mf)) ∧ W.cell? ⟨gH, 8, none⟩ = some (.int .u8 (h.kind.toNat : Int))) [0, 1, 2, 3, 4, 5] [62, 63, 64, 55, 65, 66, 11, 12] [6, 7, 8, 9, 10, 11, 12, 13, 14] [] [] none (by kernel_rfl) (by kernel_rfl) (mbR_grow _ _ _ _) (fun w w' hS hb => HSR _ (hS.1.trans (hb.mono hS.1.size))) (HSR _ (Below.refl _ _).drew) ?_
          simp only [List.map, List.getD_cons_zero, List.getD_cons_succ]
          iterate 6 (refine qs_step (v := ?_) rfl (fun w' hw' => ?_) ?_; rotate_left; (focus (go_simp <;> (first | with_reducible rfl | omega))); simp only [Act.put, List.setIfInBounds_toArray, List.set_cons_zero, List.set_cons_succ])
          refine ⟨all_cons ?_ (all_cons ?_ (all_cons ?_ (all_cons ?_ (all_cons ?_ (all_cons ?_ (all_cons ?_ (all_cons ?_ (all_cons ?_ (all_nil))))))))), fun i hi => ?_, fun hn => ?_⟩
          · refine step_of (by kernel_rfl) ?_
            simp only [List.getD_cons_zero, List.getD_cons_succ]
            intro u w' hS hR K hK
            have hKS := fun v w2 h1 h2 => hK v w2 h1 (Or.inr h2)
            replace hK := fun v w2 h1 h2 => hK v w2 h1 (Or.inl h2)
            clear hR hKS
            simp only [mixA, List.foldl_cons, List.foldl_nil] at hK ⊢
            simp only [Act.put, List.setIfInBounds_toArray, List.set_cons_zero, List.set_cons_succ] at hK ⊢
            go_simp
            exact hK _ _ ⟨_, rfl, Blk.new w' 5 #[.int .u8 (h.kind.toNat : Int)]⟩ ((Below.refl _ _).alloc (Nat.le_refl _) _)
          · refine step_of (by kernel_rfl) ?_
            simp only [List.getD_cons_zero, List.getD_cons_succ]
            intro u w' hS hR K hK
            have hKS := fun v w2 h1 h2 => hK v w2 h1 (Or.inr h2)
            replace hK := fun v w2 h1 h2 => hK v w2 h1 (Or.inl h2)
            have r6 := hR 6 (by decide) (by kernel_rfl) 62 (by kernel_rfl)
            clear hR hKS
            simp only [mixA, List.foldl_cons, List.foldl_nil] at hK ⊢
            simp only [Act.put, List.setIfInBounds_toArray, List.set_cons_zero, List.set_cons_succ] at hK ⊢
            obtain ⟨g, hg, hb⟩ := r6
            have hst : (convert 25 9 (u 62)).run Tryz.prog w' = .ok (.string (bs [h.kind])) w' := by rw [hg]; exact str8 (SB.blk (l := [h.kind]) hb (by unfold maxLen; simp))
            clear hg hb
            go_simp
            exact hK _ _ rfl (Below.refl _ _)
          · refine step_of (by kernel_rfl) ?_
            simp only [List.getD_cons_zero, List.getD_cons_succ]
            intro u w' hS hR K hK
            have hKS := fun v w2 h1 h2 => hK v w2 h1 (Or.inr h2)
            replace hK := fun v w2 h1 h2 => hK v w2 h1 (Or.inl h2)
            have r7 := hR 7 (by decide) (by kernel_rfl) 63 (by kernel_rfl)
            clear hR hKS
            simp only [mixA, List.foldl_cons, List.foldl_nil] at hK ⊢
            simp only [Act.put, List.setIfInBounds_toArray, List.set_cons_zero, List.set_cons_succ] at hK ⊢
            have q : u 63 = .string (bs [h.kind]) := r7
            have hg := hgb w' hS.1
            rw [q] at hK ⊢
            clear q r7
            go_simp
            exact hK _ _ rfl (Below.refl _ _)
          · refine step_of (by kernel_rfl) ?_
            simp only [List.getD_cons_zero, List.getD_cons_succ]
            intro u w' hS hR K hK
            have hKS := fun v w2 h1 h2 => hK v w2 h1 (Or.inr h2)
            replace hK := fun v w2 h1 h2 => hK v w2 h1 (Or.inl h2)
            have r8 := hR 8 (by decide) (by kernel_rfl) 64 (by kernel_rfl)
            clear hR hKS
            simp only [mixA, List.foldl_cons, List.foldl_nil] at hK ⊢
            simp only [Act.put, List.setIfInBounds_toArray, List.set_cons_zero, List.set_cons_succ] at hK ⊢
            have q : u 64 = .tuple #[.agg #[.string (bs pt), .int .i64 (pn : Int)], .bool true] := r8
            rw [q] at hK ⊢
            go_simp
            exact hK _ _ rfl (Below.refl _ _)
          · refine step_of (by kernel_rfl) ?_
            simp only [List.getD_cons_zero, List.getD_cons_succ]
            intro u w' hS hR K hK
            have hKS := fun v w2 h1 h2 => hK v w2 h1 (Or.inr h2)
            replace hK := fun v w2 h1 h2 => hK v w2 h1 (Or.inl h2)
            have r9 := hR 9 (by decide) (by kernel_rfl) 55 (by kernel_rfl)
            clear hR hKS
            simp only [mixA, List.foldl_cons, List.foldl_nil] at hK ⊢
            simp only [Act.put, List.setIfInBounds_toArray, List.set_cons_zero, List.set_cons_succ] at hK ⊢
            have q : u 55 = .tuple #[.agg #[.string (bs pt), .int .i64 (pn : Int)], .bool true] := r9
            rw [q] at hK ⊢
            go_simp
            exact hK _ _ rfl (Below.refl _ _)
          · refine step_of (by kernel_rfl) ?_
            simp only [List.getD_cons_zero, List.getD_cons_succ]
            intro u w' hS hR K hK
            have hKS := fun v w2 h1 h2 => hK v w2 h1 (Or.inr h2)
            replace hK := fun v w2 h1 h2 => hK v w2 h1 (Or.inl h2)
            have r9 := hR 9 (by decide) (by kernel_rfl) 55 (by kernel_rfl)
            clear hR hKS
            simp only [mixA, List.foldl_cons, List.foldl_nil] at hK ⊢
            simp only [Act.put, List.setIfInBounds_toArray, List.set_cons_zero, List.set_cons_succ] at hK ⊢
            have q : u 55 = .tuple #[.agg #[.string (bs pt), .int .i64 (pn : Int)], .bool true] := r9
            rw [q] at hK ⊢
            go_simp
            exact hK _ _ rfl (Below.refl _ _)
          · refine step_of (by kernel_rfl) ?_
            simp only [List.getD_cons_zero, List.getD_cons_succ]
            intro u w' hS hR K hK
            have hKS := fun v w2 h1 h2 => hK v w2 h1 (Or.inr h2)
            replace hK := fun v w2 h1 h2 => hK v w2 h1 (Or.inl h2)
            clear hR hKS
            simp only [mixA, List.foldl_cons, List.foldl_nil] at hK ⊢
            simp only [Act.put, List.setIfInBounds_toArray, List.set_cons_zero, List.set_cons_succ] at hK ⊢
            go_simp
            exact hK _ _ ⟨_, _, _, rfl, Blk.new w' 90 #[.string ⟨#[]⟩, .int .i64 0], hS.1.size⟩ ((Below.refl _ _).alloc (Nat.le_refl _) _)
          · refine step_of (by kernel_rfl) ?_
            simp only [List.getD_cons_zero, List.getD_cons_succ]
            intro u w' hS hR K hK
            have hKS := fun v w2 h1 h2 => hK v w2 h1 (Or.inr h2)
            replace hK := fun v w2 h1 h2 => hK v w2 h1 (Or.inl h2)
            have r6 := hR 6 (by decide) (by kernel_rfl) 62 (by kernel_rfl)
            have r7 := hR 7 (by decide) (by kernel_rfl) 63 (by kernel_rfl)
            have r8 := hR 8 (by decide) (by kernel_rfl) 64 (by kernel_rfl)
            have r9 := hR 9 (by decide) (by kernel_rfl) 55 (by kernel_rfl)
            have r10 := hR 10 (by decide) (by kernel_rfl) 65 (by kernel_rfl)
            have r12 := hR 12 (by decide) (by kernel_rfl) 11 (by kernel_rfl)
            clear hR
            simp only [mixA, List.foldl_cons, List.foldl_nil] at hK hKS ⊢
            simp only [Act.put, List.setIfInBounds_toArray, List.set_cons_zero, List.set_cons_succ] at hK hKS ⊢
            have q10 : u 65 = .agg #[.string (bs pt), .int .i64 (pn : Int)] := r10
            obtain ⟨gx, c0, c1, q12, bX, hgx⟩ := r12
            rw [q10, q12] at hK hKS ⊢
            have hSb := hS.1
            clear q10 q12 r10
            have x0 := bX.cell 0
            have x1 := bX.cell 1
            simp at x0 x1
            have g0 := bX.frozen 0
            have g1 := bX.frozen 1
            go_simp
            exact hKS undef _ trivial ⟨mbR_store bX _ _, HSR _ ((hSb.setCell hgx _).setCell hgx _)⟩
          · refine step_of (by kernel_rfl) ?_
            simp only [List.getD_cons_zero, List.getD_cons_succ]
            intro u w' hS hR K hK
            have hKS := fun v w2 h1 h2 => hK v w2 h1 (Or.inr h2)
            replace hK := fun v w2 h1 h2 => hK v w2 h1 (Or.inl h2)
            have r6 := hR 6 (by decide) (by kernel_rfl) 62 (by kernel_rfl)
            have r7 := hR 7 (by decide) (by kernel_rfl) 63 (by kernel_rfl)
            have r8 := hR 8 (by decide) (by kernel_rfl) 64 (by kernel_rfl)
            have r9 := hR 9 (by decide) (by kernel_rfl) 55 (by kernel_rfl)
            have r10 := hR 10 (by decide) (by kernel_rfl) 65 (by kernel_rfl)
            have r11 := hR 11 (by decide) (by kernel_rfl) 66 (by kernel_rfl)
            have r12 := hR 12 (by decide) (by kernel_rfl) 11 (by kernel_rfl)
            clear hR hKS
            simp only [mixA, List.foldl_cons, List.foldl_nil] at hK ⊢
            simp only [Act.put, List.setIfInBounds_toArray, List.set_cons_zero, List.set_cons_succ] at hK ⊢
            have q11 : u 66 = .bool true := r11
            rw [q11] at hK ⊢
            go_simp
            exact hK _ _ rfl (Below.refl _ _)
          · cases hi
          · intro u w' hS hR
            have r6 := hR 6 (by decide) 62 (by kernel_rfl)
            have r7 := hR 7 (by decide) 63 (by kernel_rfl)
            have r8 := hR 8 (by decide) 64 (by kernel_rfl)
            have r9 := hR 9 (by decide) 55 (by kernel_rfl)
            have r10 := hR 10 (by decide) 65 (by kernel_rfl)
            have r11 := hR 11 (by decide) 66 (by kernel_rfl)
            have r12 := hR 12 (by decide) 11 (by kernel_rfl)
            have r14 := hR 14 (by decide) 12 (by kernel_rfl)
            clear hR
            simp only [mixA, List.foldl_cons, List.foldl_nil]
            simp only [Act.put, List.setIfInBounds_toArray, List.set_cons_zero, List.set_cons_succ]
            have q14 : u 12 = .bool true := r14
            rw [q14]
            have hSb := hS.1
            clear q14 r6 r7 r8 r9 r10 r11 r12 r14 hS
            refine nop_normal (P := Tryz.prog) ?_
            have rd9 := rd3.below hSb
            have bH9 := bH.below hSb bH.lt
            have hk9 : Kept (BX gr mf lv pv) w w' := (Kept.of_below hbw _).trans (Kept.of_below hSb _)
            clear hSb
            generalize w' = W9 at rd9 bH9 hk9 ⊢
            go_wp2_with fail
            go_ret2
            exact ⟨_, _, _, _, _, _, _, _, _, _, rfl, rd9, hk9, by rw [HV.out]; exact ⟨rfl, rfl, rfl⟩⟩
        | none =>
          have HV := Lib.hid (HB.out.trans (if_neg (by rw [htk]; simp)))
          have hgb : ∀ W, Below W3.heap.size W3 W → (Instr.lookup 55 (.map (some mf)) (.string (bs [h.kind])) true).run Tryz.prog W = .ok (.tuple #[.agg #[.string ⟨#[]⟩, .int .i64 0], .bool false]) W := fun W hb => by
            have := HGET.out W hb
            rw [htk] at this
            exact this
          clear HB HGET htk
          refine wp_region_rel (mbR W3.heap.size h.kind (.agg #[.string ⟨#[]⟩, .int .i64 0]) false) (fun W => Below W3.heap.size W3 W ∧ W.cell? ⟨gr, 3, none⟩ = some (.map (some mf)) ∧ W.cell? ⟨gH, 8, none⟩ = some (.int .u8 (h.kind.toNat : Int))) [0, 1, 2, 3, 4, 5] [62, 63, 64, 55, 65, 66, 11, 12] [6, 7, 8, 9, 10, 11, 12, 13, 14] [] [] none (by kernel_rfl) (by kernel_rfl) (mbR_grow _ _ _ _) (fun w w' hS hb => HSR _ (hS.1.trans (hb.mono hS.1.size))) (HSR _ (Below.refl _ _).drew) ?_
          simp only [List.map, List.getD_cons_zero, List.getD_cons_succ]
          iterate 6 (refine qs_step (v := ?_) rfl (fun w' hw' => ?_) ?_; rotate_left; (focus (go_simp <;> (first | with_reducible rfl | omega))); simp only [Act.put, List.setIfInBounds_toArray, List.set_cons_zero, List.set_cons_succ])
          refine ⟨all_cons ?_ (all_cons ?_ (all_cons ?_ (all_cons ?_ (all_cons ?_ (all_cons ?_ (all_cons ?_ (all_cons ?_ (all_cons ?_ (all_nil))))))))), fun i hi => ?_, fun hn => ?_⟩
          · refine step_of (by kernel_rfl) ?_
            simp only [List.getD_cons_zero, List.getD_cons_succ]
            intro u w' hS hR K hK
            have hKS := fun v w2 h1 h2 => hK v w2 h1 (Or.inr h2)
            replace hK := fun v w2 h1 h2 => hK v w2 h1 (Or.inl h2)
            clear hR hKS
            simp only [mixA, List.foldl_cons, List.foldl_nil] at hK ⊢
            simp only [Act.put, List.setIfInBounds_toArray, List.set_cons_zero, List.set_cons_succ] at hK ⊢
            go_simp
            exact hK _ _ ⟨_, rfl, Blk.new w' 5 #[.int .u8 (h.kind.toNat : Int)]⟩ ((Below.refl _ _).alloc (Nat.le_refl _) _)
          · refine step_of (by kernel_rfl) ?_
            simp only [List.getD_cons_zero, List.getD_cons_succ]
            intro u w' hS hR K hK
            have hKS := fun v w2 h1 h2 => hK v w2 h1 (Or.inr h2)
            replace hK := fun v w2 h1 h2 => hK v w2 h1 (Or.inl h2)
            have r6 := hR 6 (by decide) (by kernel_rfl) 62 (by kernel_rfl)
            clear hR hKS
            simp only [mixA, List.foldl_cons, List.foldl_nil] at hK ⊢
            simp only [Act.put, List.setIfInBounds_toArray, List.set_cons_zero, List.set_cons_succ] at hK ⊢
            obtain ⟨g, hg, hb⟩ := r6
            have hst : (convert 25 9 (u 62)).run Tryz.prog w' = .ok (.string (bs [h.kind])) w' := by rw [hg]; exact str8 (SB.blk (l := [h.kind]) hb (by unfold maxLen; simp))
            clear hg hb
            go_simp
            exact hK _ _ rfl (Below.refl _ _)
          · refine step_of (by kernel_rfl) ?_
            simp only [List.getD_cons_zero, List.getD_cons_succ]
            intro u w' hS hR K hK
            have hKS := fun v w2 h1 h2 => hK v w2 h1 (Or.inr h2)
            replace hK := fun v w2 h1 h2 => hK v w2 h1 (Or.inl h2)
            have r7 := hR 7 (by decide) (by kernel_rfl) 63 (by kernel_rfl)
            clear hR hKS
            simp only [mixA, List.foldl_cons, List.foldl_nil] at hK ⊢
            simp only [Act.put, List.setIfInBounds_toArray, List.set_cons_zero, List.set_cons_succ] at hK ⊢
            have q : u 63 = .string (bs [h.kind]) := r7
            have hg := hgb w' hS.1
            rw [q] at hK ⊢
            clear q r7
            go_simp
            exact hK _ _ rfl (Below.refl _ _)
          · refine step_of (by kernel_rfl) ?_
            simp only [List.getD_cons_zero, List.getD_cons_succ]
            intro u w' hS hR K hK
            have hKS := fun v w2 h1 h2 => hK v w2 h1 (Or.inr h2)
            replace hK := fun v w2 h1 h2 => hK v w2 h1 (Or.inl h2)
            have r8 := hR 8 (by decide) (by kernel_rfl) 64 (by kernel_rfl)
            clear hR hKS
            simp only [mixA, List.foldl_cons, List.foldl_nil] at hK ⊢
            simp only [Act.put, List.setIfInBounds_toArray, List.set_cons_zero, List.set_cons_succ] at hK ⊢
            have q : u 64 = .tuple #[.agg #[.string ⟨#[]⟩, .int .i64 0], .bool false] := r8
            rw [q] at hK ⊢
            go_simp
            exact hK _ _ rfl (Below.refl _ _)
          · refine step_of (by kernel_rfl) ?_
            simp only [List.getD_cons_zero, List.getD_cons_succ]
            intro u w' hS hR K hK
            have hKS := fun v w2 h1 h2 => hK v w2 h1 (Or.inr h2)
            replace hK := fun v w2 h1 h2 => hK v w2 h1 (Or.inl h2)
            have r9 := hR 9 (by decide) (by kernel_rfl) 55 (by kernel_rfl)
            clear hR hKS
            simp only [mixA, List.foldl_cons, List.foldl_nil] at hK ⊢
            simp only [Act.put, List.setIfInBounds_toArray, List.set_cons_zero, List.set_cons_succ] at hK ⊢
            have q : u 55 = .tuple #[.agg #[.string ⟨#[]⟩, .int .i64 0], .bool false] := r9
            rw [q] at hK ⊢
            go_simp
            exact hK _ _ rfl (Below.refl _ _)
          · refine step_of (by kernel_rfl) ?_
            simp only [List.getD_cons_zero, List.getD_cons_succ]
            intro u w' hS hR K hK
            have hKS := fun v w2 h1 h2 => hK v w2 h1 (Or.inr h2)
            replace hK := fun v w2 h1 h2 => hK v w2 h1 (Or.inl h2)
            have r9 := hR 9 (by decide) (by kernel_rfl) 55 (by kernel_rfl)
            clear hR hKS
            simp only [mixA, List.foldl_cons, List.foldl_nil] at hK ⊢
            simp only [Act.put, List.setIfInBounds_toArray, List.set_cons_zero, List.set_cons_succ] at hK ⊢
            have q : u 55 = .tuple #[.agg #[.string ⟨#[]⟩, .int .i64 0], .bool false] := r9
            rw [q] at hK ⊢
            go_simp
            exact hK _ _ rfl (Below.refl _ _)
          · refine step_of (by kernel_rfl) ?_
            simp only [List.getD_cons_zero, List.getD_cons_succ]
            intro u w' hS hR K hK
            have hKS := fun v w2 h1 h2 => hK v w2 h1 (Or.inr h2)
            replace hK := fun v w2 h1 h2 => hK v w2 h1 (Or.inl h2)
            clear hR hKS
            simp only [mixA, List.foldl_cons, List.foldl_nil] at hK ⊢
            simp only [Act.put, List.setIfInBounds_toArray, List.set_cons_zero, List.set_cons_succ] at hK ⊢
            go_simp
            exact hK _ _ ⟨_, _, _, rfl, Blk.new w' 90 #[.string ⟨#[]⟩, .int .i64 0], hS.1.size⟩ ((Below.refl _ _).alloc (Nat.le_refl _) _)
          · refine step_of (by kernel_rfl) ?_
            simp only [List.getD_cons_zero, List.getD_cons_succ]
            intro u w' hS hR K hK
            have hKS := fun v w2 h1 h2 => hK v w2 h1 (Or.inr h2)
            replace hK := fun v w2 h1 h2 => hK v w2 h1 (Or.inl h2)
            have r6 := hR 6 (by decide) (by kernel_rfl) 62 (by kernel_rfl)
            have r7 := hR 7 (by decide) (by kernel_rfl) 63 (by kernel_rfl)
            have r8 := hR 8 (by decide) (by kernel_rfl) 64 (by kernel_rfl)
            have r9 := hR 9 (by decide) (by kernel_rfl) 55 (by kernel_rfl)
            have r10 := hR 10 (by decide) (by kernel_rfl) 65 (by kernel_rfl)
            have r12 := hR 12 (by decide) (by kernel_rfl) 11 (by kernel_rfl)
            clear hR
            simp only [mixA, List.foldl_cons, List.foldl_nil] at hK hKS ⊢
            simp only [Act.put, List.setIfInBounds_toArray, List.set_cons_zero, List.set_cons_succ] at hK hKS ⊢
            have q10 : u 65 = .agg #[.string ⟨#[]⟩, .int .i64 0] := r10
            obtain ⟨gx, c0, c1, q12, bX, hgx⟩ := r12
            rw [q10, q12] at hK hKS ⊢
            have hSb := hS.1
            clear q10 q12 r10
            have x0 := bX.cell 0
            have x1 := bX.cell 1
            simp at x0 x1
            have g0 := bX.frozen 0
            have g1 := bX.frozen 1
            go_simp
            exact hKS undef _ trivial ⟨mbR_store bX _ _, HSR _ ((hSb.setCell hgx _).setCell hgx _)⟩
          · refine step_of (by kernel_rfl) ?_
            simp only [List.getD_cons_zero, List.getD_cons_succ]
            intro u w' hS hR K hK
            have hKS := fun v w2 h1 h2 => hK v w2 h1 (Or.inr h2)
            replace hK := fun v w2 h1 h2 => hK v w2 h1 (Or.inl h2)
            have r6 := hR 6 (by decide) (by kernel_rfl) 62 (by kernel_rfl)
            have r7 := hR 7 (by decide) (by kernel_rfl) 63 (by kernel_rfl)
            have r8 := hR 8 (by decide) (by kernel_rfl) 64 (by kernel_rfl)
            have r9 := hR 9 (by decide) (by kernel_rfl) 55 (by kernel_rfl)
            have r10 := hR 10 (by decide) (by kernel_rfl) 65 (by kernel_rfl)
            have r11 := hR 11 (by decide) (by kernel_rfl) 66 (by kernel_rfl)
            have r12 := hR 12 (by decide) (by kernel_rfl) 11 (by kernel_rfl)
            clear hR hKS
            simp only [mixA, List.foldl_cons, List.foldl_nil] at hK ⊢
            simp only [Act.put, List.setIfInBounds_toArray, List.set_cons_zero, List.set_cons_succ] at hK ⊢
            have q11 : u 66 = .bool false := r11
            rw [q11] at hK ⊢
            go_simp
            exact hK _ _ rfl (Below.refl _ _)
          · cases hi
          · intro u w' hS hR
            have r6 := hR 6 (by decide) 62 (by kernel_rfl)
            have r7 := hR 7 (by decide) 63 (by kernel_rfl)
            have r8 := hR 8 (by decide) 64 (by kernel_rfl)
            have r9 := hR 9 (by decide) 55 (by kernel_rfl)
            have r10 := hR 10 (by decide) 65 (by kernel_rfl)
            have r11 := hR 11 (by decide) 66 (by kernel_rfl)
            have r12 := hR 12 (by decide) 11 (by kernel_rfl)
            have r14 := hR 14 (by decide) 12 (by kernel_rfl)
            clear hR
            simp only [mixA, List.foldl_cons, List.foldl_nil]
            simp only [Act.put, List.setIfInBounds_toArray, List.set_cons_zero, List.set_cons_succ]
            have q14 : u 12 = .bool false := r14
            rw [q14]
            have hSb := hS.1
            clear q14 r6 r7 r8 r9 r10 r11 r12 r14 hS
            refine nop_normal (P := Tryz.prog) ?_
            have rd9 := rd3.below hSb
            have bH9 := bH.below hSb bH.lt
            have hk9 : Kept (BX gr mf lv pv) w w' := (Kept.of_below hbw _).trans (Kept.of_below hSb _)
            clear hSb
            generalize w' = W9 at rd9 bH9 hk9 ⊢
            obtain ⟨mo, hmo, hMo⟩ := rd9.mp
            obtain ⟨n, hn0, hn⟩ := mapS_len W9 toldU hmo hMo
            have hnn := hn0.trans (none_all hT)
            have r39 : W9.cell? ⟨gr, 3, none⟩ = some (.map (some mf)) := by have := rd9.blk.cell 3; simpa using this
            have r49 : W9.cell? ⟨gr, 4, none⟩ = some (.int .i64 (fr : Int)) := by have := rd9.blk.cell 4; simpa using this
            have f49 := rd9.blk.frozen 4
            clear hn0 hMo hmo
            by_cases h0 : n = 0
            · have z1 : ((n : Int) == 0) = true := by rw [h0]; rfl
              have z2 : n = 0 := h0
              have hno := hnn.1 h0
              clear hnn
              go_wp2_with (at_len; refine wpList_lenS _ rfl _ rfl rfl n hn ?_)
              have rdf := rd9.first p
              have hkf : Kept (BX gr mf lv pv) w (W9.setCell ⟨gr, 4, none⟩ (.int .i64 (p : Int))) := hk9.setCell _ fun _ => .inl rfl
              have bHf := bH9.other (a := ⟨gr, 4, none⟩) (.int .i64 (p : Int)) (Blk.apartT bH9 rd9.blk (by decide))
              go_meet
              exact ⟨false, p, rfl, bHf, rdf, hkf, HV, (fun h => by cases h), Lib.hid fun _ => by rw [if_pos hno]⟩
            · have z1 : ((n : Int) == 0) = false := by simpa using (show ¬ (n : Int) = 0 by omega)
              have hno : ¬ noneB t = true := fun h => h0 (hnn.2 h)
              clear hnn
              go_wp2_with (at_len; refine wpList_lenS _ rfl _ rfl rfl n hn ?_)
              go_meet
              exact ⟨false, fr, rfl, bH9, rd9, hk9, HV, (fun h => by cases h), Lib.hid fun _ => by rw [if_neg hno]⟩
      by_cases h1 : h.kind = 75
      · have hj : h.kind = 75 := h1
        have e76 : ((h.kind.toNat : Int) == 76) = false := by rw [hj]; rfl
        have e75 : ((h.kind.toNat : Int) == 75) = true := by rw [hj]; rfl
        have e120 : ((h.kind.toNat : Int) == 120) = false := by rw [hj]; rfl
        have HB := Lib.hid (HM4.out.trans (body_tell (b := bb) (t := t) (p := p) (show isTell h.kind = true by rw [hj]; rfl)))
        clear hj h0 h1 HM4
        go_upto_region 15 with fail
        have HGET := Lib.hid (fun W (hb : Below W3.heap.size W3 W) => (rd3.below hb).get [h.kind])
        have HSR : ∀ W, Below W3.heap.size W3 W → (fun W => Below W3.heap.size W3 W ∧ W.cell? ⟨gr, 3, none⟩ = some (.map (some mf)) ∧ W.cell? ⟨gH, 8, none⟩ = some (.int .u8 (h.kind.toNat : Int))) W := fun W hb => by
          have q := Kept.of_below hb nowhere
          exact ⟨hb, q.cell r3 fun h => h, q.cell y8 fun h => h⟩
        cases htk : t [h.kind] with
        | some pv =>
          obtain ⟨pt, pn⟩ := pv
          have HV : Hid (M = .bad 3) := Lib.hid (HB.out.trans (if_pos (by rw [htk]; rfl)))
          have hgb : ∀ W, Below W3.heap.size W3 W → (Instr.lookup 55 (.map (some mf)) (.string (bs [h.kind])) true).run Tryz.prog W = .ok (.tuple #[.agg #[.string (bs pt), .int .i64 (pn : Int)], .bool true]) W := fun W hb => by
            have := HGET.out W hb
            rw [htk] at this
            exact this
          clear HB HGET htk
          refine wp_region_rel (mbR W3.heap.size h.kind (.agg #[.string (bs pt), .int .i64 (pn : Int)]) true) (fun W => Below W3.heap.size W3 W ∧ W.cell? ⟨gr, 3, none⟩ = some (.map (some mf)) ∧ W.cell? ⟨gH, 8, none⟩ = some (.int .u8 (h.kind.toNat : Int))) [0, 1, 2, 3, 4, 5] [62, 63, 64, 55, 65, 66, 11, 12] [6, 7, 8, 9, 10, 11, 12, 13, 14] [] [] none (by kernel_rfl) (by kernel_rfl) (mbR_grow _ _ _ _) (fun w w' hS hb => HSR _ (hS.1.trans (hb.mono hS.1.size))) (HSR _ (Below.refl _ _).drew) ?_
          simp only [List.map, List.getD_cons_zero, List.getD_cons_succ]
          iterate 6 (refine qs_step (v := ?_) rfl (fun w' hw' => ?_) ?_; rotate_left; (focus (go_simp <;> (first | with_reducible rfl | omega))); simp only [Act.put, List.setIfInBounds_toArray, List.set_cons_zero, List.set_cons_succ])
          refine ⟨all_cons ?_ (all_cons ?_ (all_cons ?_ (all_cons ?_ (all_cons ?_ (all_cons ?_ (all_cons ?_ (all_cons ?_ (all_cons ?_ (all_nil))))))))), fun i hi => ?_, fun hn => ?_⟩
          · refine step_of (by kernel_rfl) ?_
            simp only [List.getD_cons_zero, List.getD_cons_succ]
            intro u w' hS hR K hK
            have hKS := fun v w2 h1 h2 => hK v w2 h1 (Or.inr h2)
            replace hK := fun v w2 h1 h2 => hK v w2 h1 (Or.inl h2)
            clear hR hKS
            simp only [mixA, List.foldl_cons, List.foldl_nil] at hK ⊢
            simp only [Act.put, List.setIfInBounds_toArray, List.set_cons_zero, List.set_cons_succ] at hK ⊢
            go_simp
            exact hK _ _ ⟨_, rfl, Blk.new w' 5 #[.int .u8 (h.kind.toNat : Int)]⟩ ((Below.refl _ _).alloc (Nat.le_refl _) _)
          · refine step_of (by kernel_rfl) ?_
            simp only [List.getD_cons_zero, List.getD_cons_succ]
            intro u w' hS hR K hK
            have hKS := fun v w2 h1 h2 => hK v w2 h1 (Or.inr h2)
            replace hK := fun v w2 h1 h2 => hK v w2 h1 (Or.inl h2)
            have r6 := hR 6 (by decide) (by kernel_rfl) 62 (by kernel_rfl)
            clear hR hKS
            simp only [mixA, List.foldl_cons, List.foldl_nil] at hK ⊢
            simp only [Act.put, List.setIfInBounds_toArray, List.set_cons_zero, List.set_cons_succ] at hK ⊢
            obtain ⟨g, hg, hb⟩ := r6
            have hst : (convert 25 9 (u 62)).run Tryz.prog w' = .ok (.string (bs [h.kind])) w' := by rw [hg]; exact str8 (SB.blk (l := [h.kind]) hb (by unfold maxLen; simp))
            clear hg hb
            go_simp
            exact hK _ _ rfl (Below.refl _ _)
          · refine step_of (by kernel_rfl) ?_
            simp only [List.getD_cons_zero, List.getD_cons_succ]
            intro u w' hS hR K hK
            have hKS := fun v w2 h1 h2 => hK v w2 h1 (Or.inr h2)
            replace hK := fun v w2 h1 h2 => hK v w2 h1 (Or.inl h2)
            have r7 := hR 7 (by decide) (by kernel_rfl) 63 (by kernel_rfl)
            clear hR hKS
            simp only [mixA, List.foldl_cons, List.foldl_nil] at hK ⊢
            simp only [Act.put, List.setIfInBounds_toArray, List.set_cons_zero, List.set_cons_succ] at hK ⊢
            have q : u 63 = .string (bs [h.kind]) := r7
            have hg := hgb w' hS.1
            rw [q] at hK ⊢
            clear q r7
            go_simp
            exact hK _ _ rfl (Below.refl _ _)
          · refine step_of (by kernel_rfl) ?_
            simp only [List.getD_cons_zero, List.getD_cons_succ]
            intro u w' hS hR K hK
            have hKS := fun v w2 h1 h2 => hK v w2 h1 (Or.inr h2)
            replace hK := fun v w2 h1 h2 => hK v w2 h1 (Or.inl h2)
            have r8 := hR 8 (by decide) (by kernel_rfl) 64 (by kernel_rfl)
            clear hR hKS
            simp only [mixA, List.foldl_cons, List.foldl_nil] at hK ⊢
            simp only [Act.put, List.setIfInBounds_toArray, List.set_cons_zero, List.set_cons_succ] at hK ⊢
            have q : u 64 = .tuple #[.agg #[.string (bs pt), .int .i64 (pn : Int)], .bool true] := r8
            rw [q] at hK ⊢
            go_simp
            exact hK _ _ rfl (Below.refl _ _)
          · refine step_of (by kernel_rfl) ?_
            simp only [List.getD_cons_zero, List.getD_cons_succ]
            intro u w' hS hR K hK
            have hKS := fun v w2 h1 h2 => hK v w2 h1 (Or.inr h2)
            replace hK := fun v w2 h1 h2 => hK v w2 h1 (Or.inl h2)
            have r9 := hR 9 (by decide) (by kernel_rfl) 55 (by kernel_rfl)
            clear hR hKS
            simp only [mixA, List.foldl_cons, List.foldl_nil] at hK ⊢
            simp only [Act.put, List.setIfInBounds_toArray, List.set_cons_zero, List.set_cons_succ] at hK ⊢
            have q : u 55 = .tuple #[.agg #[.string (bs pt), .int .i64 (pn : Int)], .bool true] := r9
            rw [q] at hK ⊢
            go_simp
            exact hK _ _ rfl (Below.refl _ _)
          · refine step_of (by kernel_rfl) ?_
            simp only [List.getD_cons_zero, List.getD_cons_succ]
            intro u w' hS hR K hK
            have hKS := fun v w2 h1 h2 => hK v w2 h1 (Or.inr h2)
            replace hK := fun v w2 h1 h2 => hK v w2 h1 (Or.inl h2)
            have r9 := hR 9 (by decide) (by kernel_rfl) 55 (by kernel_rfl)
            clear hR hKS
            simp only [mixA, List.foldl_cons, List.foldl_nil] at hK ⊢
            simp only [Act.put, List.setIfInBounds_toArray, List.set_cons_zero, List.set_cons_succ] at hK ⊢
            have q : u 55 = .tuple #[.agg #[.string (bs pt), .int .i64 (pn : Int)], .bool true] := r9
            rw [q] at hK ⊢
            go_simp
            exact hK _ _ rfl (Below.refl _ _)
          · refine step_of (by kernel_rfl) ?_
            simp only [List.getD_cons_zero, List.getD_cons_succ]
            intro u w' hS hR K hK
            have hKS := fun v w2 h1 h2 => hK v w2 h1 (Or.inr h2)
            replace hK := fun v w2 h1 h2 => hK v w2 h1 (Or.inl h2)
            clear hR hKS
            simp only [mixA, List.foldl_cons, List.foldl_nil] at hK ⊢
            simp only [Act.put, List.setIfInBounds_toArray, List.set_cons_zero, List.set_cons_succ] at hK ⊢
            go_simp
            exact hK _ _ ⟨_, _, _, rfl, Blk.new w' 90 #[.string ⟨#[]⟩, .int .i64 0], hS.1.size⟩ ((Below.refl _ _).alloc (Nat.le_refl _) _)
          · refine step_of (by kernel_rfl) ?_
            simp only [List.getD_cons_zero, List.getD_cons_succ]
            intro u w' hS hR K hK
            have hKS := fun v w2 h1 h2 => hK v w2 h1 (Or.inr h2)
            replace hK := fun v w2 h1 h2 => hK v w2 h1 (Or.inl h2)
            have r6 := hR 6 (by decide) (by kernel_rfl) 62 (by kernel_rfl)
            have r7 := hR 7 (by decide) (by kernel_rfl) 63 (by kernel_rfl)
            have r8 := hR 8 (by decide) (by kernel_rfl) 64 (by kernel_rfl)
            have r9 := hR 9 (by decide) (by kernel_rfl) 55 (by kernel_rfl)
            have r10 := hR 10 (by decide) (by kernel_rfl) 65 (by kernel_rfl)
            have r12 := hR 12 (by decide) (by kernel_rfl) 11 (by kernel_rfl)
            clear hR
            simp only [mixA, List.foldl_cons, List.foldl_nil] at hK hKS ⊢
            simp only [Act.put, List.setIfInBounds_toArray, List.set_cons_zero, List.set_cons_succ] at hK hKS ⊢
            have q10 : u 65 = .agg #[.string (bs pt), .int .i64 (pn : Int)] := r10
            obtain ⟨gx, c0, c1, q12, bX, hgx⟩ := r12
            rw [q10, q12] at hK hKS ⊢
            have hSb := hS.1
            clear q10 q12 r10
            have x0 := bX.cell 0
            have x1 := bX.cell 1
            simp at x0 x1
            have g0 := bX.frozen 0
            have g1 := bX.frozen 1
            go_simp
            exact hKS undef _ trivial ⟨mbR_store bX _ _, HSR _ ((hSb.setCell hgx _).setCell hgx _)⟩
          · refine step_of (by kernel_rfl) ?_
            simp only [List.getD_cons_zero, List.getD_cons_succ]
            intro u w' hS hR K hK
            have hKS := fun v w2 h1 h2 => hK v w2 h1 (Or.inr h2)
            replace hK := fun v w2 h1 h2 => hK v w2 h1 (Or.inl h2)
            have r6 := hR 6 (by decide) (by kernel_rfl) 62 (by kernel_rfl)
            have r7 := hR 7 (by decide) (by kernel_rfl) 63 (by kernel_rfl)
            have r8 := hR 8 (by decide) (by kernel_rfl) 64 (by kernel_rfl)
            have r9 := hR 9 (by decide) (by kernel_rfl) 55 (by kernel_rfl)
            have r10 := hR 10 (by decide) (by kernel_rfl) 65 (by kernel_rfl)
            have r11 := hR 11 (by decide) (by kernel_rfl) 66 (by kernel_rfl)
            have r12 := hR 12 (by decide) (by kernel_rfl) 11 (by kernel_rfl)
            clear hR hKS
            simp only [mixA, List.foldl_cons, List.foldl_nil] at hK ⊢
            simp only [Act.put, List.setIfInBounds_toArray, List.set_cons_zero, List.set_cons_succ] at hK ⊢
            have q11 : u 66 = .bool true := r11
            rw [q11] at hK ⊢
            go_simp
            exact hK _ _ rfl (Below.refl _ _)
          · cases hi
          · intro u w' hS hR
            have r6 := hR 6 (by decide) 62 (by kernel_rfl)
            have r7 := hR 7 (by decide) 63 (by kernel_rfl)
            have r8 := hR 8 (by decide) 64 (by kernel_rfl)
            have r9 := hR 9 (by decide) 55 (by kernel_rfl)
            have r10 := hR 10 (by decide) 65 (by kernel_rfl)
            have r11 := hR 11 (by decide) 66 (by kernel_rfl)
            have r12 := hR 12 (by decide) 11 (by kernel_rfl)
            have r14 := hR 14 (by decide) 12 (by kernel_rfl)
            clear hR
            simp only [mixA, List.foldl_cons, List.foldl_nil]
            simp only [Act.put, List.setIfInBounds_toArray, List.set_cons_zero, List.set_cons_succ]
            have q14 : u 12 = .bool true := r14
            rw [q14]
            have hSb := hS.1
            clear q14 r6 r7 r8 r9 r10 r11 r12 r14 hS
            refine nop_normal (P := Tryz.prog) ?_
            have rd9 := rd3.below hSb
            have bH9 := bH.below hSb bH.lt
            have hk9 : Kept (BX gr mf lv pv) w w' := (Kept.of_below hbw _).trans (Kept.of_below hSb _)
            clear hSb
            generalize w' = W9 at rd9 bH9 hk9 ⊢
            go_wp2_with fail
            go_ret2
            exact ⟨_, _, _, _, _, _, _, _, _, _, rfl, rd9, hk9, by rw [HV.out]; exact ⟨rfl, rfl, rfl⟩⟩
        | none =>
          have HV := Lib.hid (HB.out.trans (if_neg (by rw [htk]; simp)))
          have hgb : ∀ W, Below W3.heap.size W3 W → (Instr.lookup 55 (.map (some mf)) (.string (bs [h.kind])) true).run Tryz.prog W = .ok (.tuple #[.agg #[.string ⟨#[]⟩, .int .i64 0], .bool false]) W := fun W hb => by
            have := HGET.out W hb
            rw [htk] at this
            exact this
          clear HB HGET htk
          refine wp_region_rel (mbR W3.heap.size h.kind (.agg #[.string ⟨#[]⟩, .int .i64 0]) false) (fun W => Below W3.heap.size W3 W ∧ W.cell? ⟨gr, 3, none⟩ = some (.map (some mf)) ∧ W.cell? ⟨gH, 8, none⟩ = some (.int .u8 (h.kind.toNat : Int))) [0, 1, 2, 3, 4, 5] [62, 63, 64, 55, 65, 66, 11, 12] [6, 7, 8, 9, 10, 11, 12, 13, 14] [] [] none (by kernel_rfl) (by kernel_rfl) (mbR_grow _ _ _ _) (fun w w' hS hb => HSR _ (hS.1.trans (hb.mono hS.1.size))) (HSR _ (Below.refl _ _).drew) ?_
          simp only [List.map, List.getD_cons_zero, List.getD_cons_succ]
          iterate 6 (refine qs_step (v := ?_) rfl (fun w' hw' => ?_) ?_; rotate_left; (focus (go_simp <;> (first | with_reducible rfl | omega))); simp only [Act.put, List.setIfInBounds_toArray, List.set_cons_zero, List.set_cons_succ])
          refine ⟨all_cons ?_ (all_cons ?_ (all_cons ?_ (all_cons ?_ (all_cons ?_ (all_cons ?_ (all_cons ?_ (all_cons ?_ (all_cons ?_ (all_nil))))))))), fun i hi => ?_, fun hn => ?_⟩
          · refine step_of (by kernel_rfl) ?_
            simp only [List.getD_cons_zero, List.getD_cons_succ]
            intro u w' hS hR K hK
            have hKS := fun v w2 h1 h2 => hK v w2 h1 (Or.inr h2)
            replace hK := fun v w2 h1 h2 => hK v w2 h1 (Or.inl h2)
            clear hR hKS
            simp only [mixA, List.foldl_cons, List.foldl_nil] at hK ⊢
            simp only [Act.put, List.setIfInBounds_toArray, List.set_cons_zero, List.set_cons_succ] at hK ⊢
            go_simp
            exact hK _ _ ⟨_, rfl, Blk.new w' 5 #[.int .u8 (h.kind.toNat : Int)]⟩ ((Below.refl _ _).alloc (Nat.le_refl _) _)
          · refine step_of (by kernel_rfl) ?_
            simp only [List.getD_cons_zero, List.getD_cons_succ]
            intro u w' hS hR K hK
            have hKS := fun v w2 h1 h2 => hK v w2 h1 (Or.inr h2)
            replace hK := fun v w2 h1 h2 => hK v w2 h1 (Or.inl h2)
            have r6 := hR 6 (by decide) (by kernel_rfl) 62 (by kernel_rfl)
            clear hR hKS
            simp only [mixA, List.foldl_cons, List.foldl_nil] at hK ⊢
            simp only [Act.put, List.setIfInBounds_toArray, List.set_cons_zero, List.set_cons_succ] at hK ⊢
            obtain ⟨g, hg, hb⟩ := r6
            have hst : (convert 25 9 (u 62)).run Tryz.prog w' = .ok (.string (bs [h.kind])) w' := by rw [hg]; exact str8 (SB.blk (l := [h.kind]) hb (by unfold maxLen; simp))
            clear hg hb
            go_simp
            exact hK _ _ rfl (Below.refl _ _)
          · refine step_of (by kernel_rfl) ?_
            simp only [List.getD_cons_zero, List.getD_cons_succ]
            intro u w' hS hR K hK
            have hKS := fun v w2 h1 h2 => hK v w2 h1 (Or.inr h2)
            replace hK := fun v w2 h1 h2 => hK v w2 h1 (Or.inl h2)
            have r7 := hR 7 (by decide) (by kernel_rfl) 63 (by kernel_rfl)
            clear hR hKS
            simp only [mixA, List.foldl_cons, List.foldl_nil] at hK ⊢
            simp only [Act.put, List.setIfInBounds_toArray, List.set_cons_zero, List.set_cons_succ] at hK ⊢
            have q : u 63 = .string (bs [h.kind]) := r7
            have hg := hgb w' hS.1
            rw [q] at hK ⊢
            clear q r7
            go_simp
            exact hK _ _ rfl (Below.refl _ _)
          · refine step_of (by kernel_rfl) ?_
            simp only [List.getD_cons_zero, List.getD_cons_succ]
            intro u w' hS hR K hK
            have hKS := fun v w2 h1 h2 => hK v w2 h1 (Or.inr h2)
            replace hK := fun v w2 h1 h2 => hK v w2 h1 (Or.inl h2)
            have r8 := hR 8 (by decide) (by kernel_rfl) 64 (by kernel_rfl)
            clear hR hKS
            simp only [mixA, List.foldl_cons, List.foldl_nil] at hK ⊢
            simp only [Act.put, List.setIfInBounds_toArray, List.set_cons_zero, List.set_cons_succ] at hK ⊢
            have q : u 64 = .tuple #[.agg #[.string ⟨#[]⟩, .int .i64 0], .bool false] := r8
            rw [q] at hK ⊢
            go_simp
            exact hK _ _ rfl (Below.refl _ _)
          · refine step_of (by kernel_rfl) ?_
            simp only [List.getD_cons_zero, List.getD_cons_succ]
            intro u w' hS hR K hK
            have hKS := fun v w2 h1 h2 => hK v w2 h1 (Or.inr h2)
            replace hK := fun v w2 h1 h2 => hK v w2 h1 (Or.inl h2)
            have r9 := hR 9 (by decide) (by kernel_rfl) 55 (by kernel_rfl)
            clear hR hKS
            simp only [mixA, List.foldl_cons, List.foldl_nil] at hK ⊢
            simp only [Act.put, List.setIfInBounds_toArray, List.set_cons_zero, List.set_cons_succ] at hK ⊢
            have q : u 55 = .tuple #[.agg #[.string ⟨#[]⟩, .int .i64 0], .bool false] := r9
            rw [q] at hK ⊢
            go_simp
            exact hK _ _ rfl (Below.refl _ _)
          · refine step_of (by kernel_rfl) ?_
            simp only [List.getD_cons_zero, List.getD_cons_succ]
            intro u w' hS hR K hK
            have hKS := fun v w2 h1 h2 => hK v w2 h1 (Or.inr h2)
            replace hK := fun v w2 h1 h2 => hK v w2 h1 (Or.inl h2)
            have r9 := hR 9 (by decide) (by kernel_rfl) 55 (by kernel_rfl)
            clear hR hKS
            simp only [mixA, List.foldl_cons, List.foldl_nil] at hK ⊢
            simp only [Act.put, List.setIfInBounds_toArray, List.set_cons_zero, List.set_cons_succ] at hK ⊢
            have q : u 55 = .tuple #[.agg #[.string ⟨#[]⟩, .int .i64 0], .bool false] := r9
            rw [q] at hK ⊢
            go_simp
            exact hK _ _ rfl (Below.refl _ _)
          · refine step_of (by kernel_rfl) ?_
            simp only [List.getD_cons_zero, List.getD_cons_succ]
            intro u w' hS hR K hK
            have hKS := fun v w2 h1 h2 => hK v w2 h1 (Or.inr h2)
            replace hK := fun v w2 h1 h2 => hK v w2 h1 (Or.inl h2)
            clear hR hKS
            simp only [mixA, List.foldl_cons, List.foldl_nil] at hK ⊢
            simp only [Act.put, List.setIfInBounds_toArray, List.set_cons_zero, List.set_cons_succ] at hK ⊢
            go_simp
            exact hK _ _ ⟨_, _, _, rfl, Blk.new w' 90 #[.string ⟨#[]⟩, .int .i64 0], hS.1.size⟩ ((Below.refl _ _).alloc (Nat.le_refl _) _)
          · refine step_of (by kernel_rfl) ?_
            simp only [List.getD_cons_zero, List.getD_cons_succ]
            intro u w' hS hR K hK
            have hKS := fun v w2 h1 h2 => hK v w2 h1 (Or.inr h2)
            replace hK := fun v w2 h1 h2 => hK v w2 h1 (Or.inl h2)
            have r6 := hR 6 (by decide) (by kernel_rfl) 62 (by kernel_rfl)
            have r7 := hR 7 (by decide) (by kernel_rfl) 63 (by kernel_rfl)
            have r8 := hR 8 (by decide) (by kernel_rfl) 64 (by kernel_rfl)
            have r9 := hR 9 (by decide) (by kernel_rfl) 55 (by kernel_rfl)
            have r10 := hR 10 (by decide) (by kernel_rfl) 65 (by kernel_rfl)
            have r12 := hR 12 (by decide) (by kernel_rfl) 11 (by kernel_rfl)
            clear hR
            simp only [mixA, List.foldl_cons, List.foldl_nil] at hK hKS ⊢
            simp only [Act.put, List.setIfInBounds_toArray, List.set_cons_zero, List.set_cons_succ] at hK hKS ⊢
            have q10 : u 65 = .agg #[.string ⟨#[]⟩, .int .i64 0] := r10
            obtain ⟨gx, c0, c1, q12, bX, hgx⟩ := r12
            rw [q10, q12] at hK hKS ⊢
            have hSb := hS.1
            clear q10 q12 r10
            have x0 := bX.cell 0
            have x1 := bX.cell 1
            simp at x0 x1
            have g0 := bX.frozen 0
            have g1 := bX.frozen 1
            go_simp
            exact hKS undef _ trivial ⟨mbR_store bX _ _, HSR _ ((hSb.setCell hgx _).setCell hgx _)⟩
          · refine step_of (by kernel_rfl) ?_
            simp only [List.getD_cons_zero, List.getD_cons_succ]
            intro u w' hS hR K hK
            have hKS := fun v w2 h1 h2 => hK v w2 h1 (Or.inr h2)
            replace hK := fun v w2 h1 h2 => hK v w2 h1 (Or.inl h2)
            have r6 := hR 6 (by decide) (by kernel_rfl) 62 (by kernel_rfl)
            have r7 := hR 7 (by decide) (by kernel_rfl) 63 (by kernel_rfl)
            have r8 := hR 8 (by decide) (by kernel_rfl) 64 (by kernel_rfl)
            have r9 := hR 9 (by decide) (by kernel_rfl) 55 (by kernel_rfl)
            have r10 := hR 10 (by decide) (by kernel_rfl) 65 (by kernel_rfl)
            have r11 := hR 11 (by decide) (by kernel_rfl) 66 (by kernel_rfl)
            have r12 := hR 12 (by decide) (by kernel_rfl) 11 (by kernel_rfl)
            clear hR hKS
            simp only [mixA, List.foldl_cons, List.foldl_nil] at hK ⊢
            simp only [Act.put, List.setIfInBounds_toArray, List.set_cons_zero, List.set_cons_succ] at hK ⊢
            have q11 : u 66 = .bool false := r11
            rw [q11] at hK ⊢
            go_simp
            exact hK _ _ rfl (Below.refl _ _)
          · cases hi
          · intro u w' hS hR
            have r6 := hR 6 (by decide) 62 (by kernel_rfl)
            have r7 := hR 7 (by decide) 63 (by kernel_rfl)
            have r8 := hR 8 (by decide) 64 (by kernel_rfl)
            have r9 := hR 9 (by decide) 55 (by kernel_rfl)
            have r10 := hR 10 (by decide) 65 (by kernel_rfl)
            have r11 := hR 11 (by decide) 66 (by kernel_rfl)
            have r12 := hR 12 (by decide) 11 (by kernel_rfl)
            have r14 := hR 14 (by decide) 12 (by kernel_rfl)
            clear hR
            simp only [mixA, List.foldl_cons, List.foldl_nil]
            simp only [Act.put, List.setIfInBounds_toArray, List.set_cons_zero, List.set_cons_succ]
            have q14 : u 12 = .bool false := r14
            rw [q14]
            have hSb := hS.1
            clear q14 r6 r7 r8 r9 r10 r11 r12 r14 hS
            refine nop_normal (P := Tryz.prog) ?_
            have rd9 := rd3.below hSb
            have bH9 := bH.below hSb bH.lt
            have hk9 : Kept (BX gr mf lv pv) w w' := (Kept.of_below hbw _).trans (Kept.of_below hSb _)
            clear hSb
            generalize w' = W9 at rd9 bH9 hk9 ⊢
            obtain ⟨mo, hmo, hMo⟩ := rd9.mp
            obtain ⟨n, hn0, hn⟩ := mapS_len W9 toldU hmo hMo
            have hnn := hn0.trans (none_all hT)
            have r39 : W9.cell? ⟨gr, 3, none⟩ = some (.map (some mf)) := by have := rd9.blk.cell 3; simpa using this
            have r49 : W9.cell? ⟨gr, 4, none⟩ = some (.int .i64 (fr : Int)) := by have := rd9.blk.cell 4; simpa using this
            have f49 := rd9.blk.frozen 4
            clear hn0 hMo hmo
            by_cases h0 : n = 0
            · have z1 : ((n : Int) == 0) = true := by rw [h0]; rfl
              have z2 : n = 0 := h0
              have hno := hnn.1 h0
              clear hnn
              go_wp2_with (at_len; refine wpList_lenS _ rfl _ rfl rfl n hn ?_)
              have rdf := rd9.first p
              have hkf : Kept (BX gr mf lv pv) w (W9.setCell ⟨gr, 4, none⟩ (.int .i64 (p : Int))) := hk9.setCell _ fun _ => .inl rfl
              have bHf := bH9.other (a := ⟨gr, 4, none⟩) (.int .i64 (p : Int)) (Blk.apartT bH9 rd9.blk (by decide))
              go_meet
              exact ⟨false, p, rfl, bHf, rdf, hkf, HV, (fun h => by cases h), Lib.hid fun _ => by rw [if_pos hno]⟩
            · have z1 : ((n : Int) == 0) = false := by simpa using (show ¬ (n : Int) = 0 by omega)
              have hno : ¬ noneB t = true := fun h => h0 (hnn.2 h)
              clear hnn
              go_wp2_with (at_len; refine wpList_lenS _ rfl _ rfl rfl n hn ?_)
              go_meet
              exact ⟨false, fr, rfl, bH9, rd9, hk9, HV, (fun h => by cases h), Lib.hid fun _ => by rw [if_neg hno]⟩
      by_cases h2 : h.kind = 120
      · have hj : h.kind = 120 := h2
        have e76 : ((h.kind.toNat : Int) == 76) = false := by rw [hj]; rfl
        have e75 : ((h.kind.toNat : Int) == 75) = false := by rw [hj]; rfl
        have e120 : ((h.kind.toNat : Int) == 120) = true := by rw [hj]; rfl
        have HB := Lib.hid (HM4.out.trans (body_tell (b := bb) (t := t) (p := p) (show isTell h.kind = true by rw [hj]; rfl)))
        clear hj h0 h1 h2 HM4
        go_upto_region 15 with fail
        have HGET := Lib.hid (fun W (hb : Below W3.heap.size W3 W) => (rd3.below hb).get [h.kind])
        have HSR : ∀ W, Below W3.heap.size W3 W → (fun W => Below W3.heap.size W3 W ∧ W.cell? ⟨gr, 3, none⟩ = some (.map (some mf)) ∧ W.cell? ⟨gH, 8, none⟩ = some (.int .u8 (h.kind.toNat : Int))) W := fun W hb => by
          have q := Kept.of_below hb nowhere
          exact ⟨hb, q.cell r3 fun h => h, q.cell y8 fun h => h⟩
        cases htk : t [h.kind] with
        | some pv =>
          obtain ⟨pt, pn⟩ := pv
          have HV : Hid (M = .bad 3) := Lib.hid (HB.out.trans (if_pos (by rw [htk]; rfl)))
          have hgb : ∀ W, Below W3.heap.size W3 W → (Instr.lookup 55 (.map (some mf)) (.string (bs [h.kind])) true).run Tryz.prog W = .ok (.tuple #[.agg #[.string (bs pt), .int .i64 (pn : Int)], .bool true]) W := fun W hb => by
            have := HGET.out W hb
            rw [htk] at this
            exact this
          clear HB HGET htk
          refine wp_region_rel (mbR W3.heap.size h.kind (.agg #[.string (bs pt), .int .i64 (pn : Int)]) true) (fun W => Below W3.heap.size W3 W ∧ W.cell? ⟨gr, 3, none⟩ = some (.map (some mf)) ∧ W.cell? ⟨gH, 8, none⟩ = some (.int .u8 (h.kind.toNat : Int))) [0, 1, 2, 3, 4, 5] [62, 63, 64, 55, 65, 66, 11, 12] [6, 7, 8, 9, 10, 11, 12, 13, 14] [] [] none (by kernel_rfl) (by kernel_rfl) (mbR_grow _ _ _ _) (fun w w' hS hb => HSR _ (hS.1.trans (hb.mono hS.1.size))) (HSR _ (Below.refl _ _).drew) ?_
          simp only [List.map, List.getD_cons_zero, List.getD_cons_succ]
          iterate 6 (refine qs_step (v := ?_) rfl (fun w' hw' => ?_) ?_; rotate_left; (focus (go_simp <;> (first | with_reducible rfl | omega))); simp only [Act.put, List.setIfInBounds_toArray, List.set_cons_zero, List.set_cons_succ])
          refine ⟨all_cons ?_ (all_cons ?_ (all_cons ?_ (all_cons ?_ (all_cons ?_ (all_cons ?_ (all_cons ?_ (all_cons ?_ (all_cons ?_ (all_nil))))))))), fun i hi => ?_, fun hn => ?_⟩
          · refine step_of (by kernel_rfl) ?_
            simp only [List.getD_cons_zero, List.getD_cons_succ]
            intro u w' hS hR K hK
            have hKS := fun v w2 h1 h2 => hK v w2 h1 (Or.inr h2)
            replace hK := fun v w2 h1 h2 => hK v w2 h1 (Or.inl h2)
            clear hR hKS
            simp only [mixA, List.foldl_cons, List.foldl_nil] at hK ⊢
            simp only [Act.put, List.setIfInBounds_toArray, List.set_cons_zero, List.set_cons_succ] at hK ⊢
            go_simp
            exact hK _ _ ⟨_, rfl, Blk.new w' 5 #[.int .u8 (h.kind.toNat : Int)]⟩ ((Below.refl _ _).alloc (Nat.le_refl _) _)
          · refine step_of (by kernel_rfl) ?_
            simp only [List.getD_cons_zero, List.getD_cons_succ]
            intro u w' hS hR K hK
            have hKS := fun v w2 h1 h2 => hK v w2 h1 (Or.inr h2)
            replace hK := fun v w2 h1 h2 => hK v w2 h1 (Or.inl h2)
            have r6 := hR 6 (by decide) (by kernel_rfl) 62 (by kernel_rfl)
            clear hR hKS
            simp only [mixA, List.foldl_cons, List.foldl_nil] at hK ⊢
            simp only [Act.put, List.setIfInBounds_toArray, List.set_cons_zero, List.set_cons_succ] at hK ⊢
            obtain ⟨g, hg, hb⟩ := r6
            have hst : (convert 25 9 (u 62)).run Tryz.prog w' = .ok (.string (bs [h.kind])) w' := by rw [hg]; exact str8 (SB.blk (l := [h.kind]) hb (by unfold maxLen; simp))
            clear hg hb
            go_simp
            exact hK _ _ rfl (Below.refl _ _)
          · refine step_of (by kernel_rfl) ?_
            simp only [List.getD_cons_zero, List.getD_cons_succ]
            intro u w' hS hR K hK
            have hKS := fun v w2 h1 h2 => hK v w2 h1 (Or.inr h2)
            replace hK := fun v w2 h1 h2 => hK v w2 h1 (Or.inl h2)
            have r7 := hR 7 (by decide) (by kernel_rfl) 63 (by kernel_rfl)
            clear hR hKS
            simp only [mixA, List.foldl_cons, List.foldl_nil] at hK ⊢
            simp only [Act.put, List.setIfInBounds_toArray, List.set_cons_zero, List.set_cons_succ] at hK ⊢
            have q : u 63 = .string (bs [h.kind]) := r7
            have hg := hgb w' hS.1
            rw [q] at hK ⊢
            clear q r7
            go_simp
            exact hK _ _ rfl (Below.refl _ _)
          · refine step_of (by kernel_rfl) ?_
            simp only [List.getD_cons_zero, List.getD_cons_succ]
            intro u w' hS hR K hK
            have hKS := fun v w2 h1 h2 => hK v w2 h1 (Or.inr h2)
            replace hK := fun v w2 h1 h2 => hK v w2 h1 (Or.inl h2)
            have r8 := hR 8 (by decide) (by kernel_rfl) 64 (by kernel_rfl)
            clear hR hKS
            simp only [mixA, List.foldl_cons, List.foldl_nil] at hK ⊢
            simp only [Act.put, List.setIfInBounds_toArray, List.set_cons_zero, List.set_cons_succ] at hK ⊢
            have q : u 64 = .tuple #[.agg #[.string (bs pt), .int .i64 (pn : Int)], .bool true] := r8
            rw [q] at hK ⊢
            go_simp
            exact hK _ _ rfl (Below.refl _ _)
          · refine step_of (by kernel_rfl) ?_
            simp only [List.getD_cons_zero, List.getD_cons_succ]
            intro u w' hS hR K hK
            have hKS := fun v w2 h1 h2 => hK v w2 h1 (Or.inr h2)
            replace hK := fun v w2 h1 h2 => hK v w2 h1 (Or.inl h2)
            have r9 := hR 9 (by decide) (by kernel_rfl) 55 (by kernel_rfl)
            clear hR hKS
            simp only [mixA, List.foldl_cons, List.foldl_nil] at hK ⊢
            simp only [Act.put, List.setIfInBounds_toArray, List.set_cons_zero, List.set_cons_succ] at hK ⊢
            have q : u 55 = .tuple #[.agg #[.string (bs pt), .int .i64 (pn : Int)], .bool true] := r9
            rw [q] at hK ⊢
            go_simp
            exact hK _ _ rfl (Below.refl _ _)
          · refine step_of (by kernel_rfl) ?_
            simp only [List.getD_cons_zero, List.getD_cons_succ]
            intro u w' hS hR K hK
            have hKS := fun v w2 h1 h2 => hK v w2 h1 (Or.inr h2)
            replace hK := fun v w2 h1 h2 => hK v w2 h1 (Or.inl h2)
            have r9 := hR 9 (by decide) (by kernel_rfl) 55 (by kernel_rfl)
            clear hR hKS
            simp only [mixA, List.foldl_cons, List.foldl_nil] at hK ⊢
            simp only [Act.put, List.setIfInBounds_toArray, List.set_cons_zero, List.set_cons_succ] at hK ⊢
            have q : u 55 = .tuple #[.agg #[.string (bs pt), .int .i64 (pn : Int)], .bool true] := r9
            rw [q] at hK ⊢
            go_simp
            exact hK _ _ rfl (Below.refl _ _)
          · refine step_of (by kernel_rfl) ?_
            simp only [List.getD_cons_zero, List.getD_cons_succ]
            intro u w' hS hR K hK
            have hKS := fun v w2 h1 h2 => hK v w2 h1 (Or.inr h2)
            replace hK := fun v w2 h1 h2 => hK v w2 h1 (Or.inl h2)
            clear hR hKS
            simp only [mixA, List.foldl_cons, List.foldl_nil] at hK ⊢
            simp only [Act.put, List.setIfInBounds_toArray, List.set_cons_zero, List.set_cons_succ] at hK ⊢
            go_simp
            exact hK _ _ ⟨_, _, _, rfl, Blk.new w' 90 #[.string ⟨#[]⟩, .int .i64 0], hS.1.size⟩ ((Below.refl _ _).alloc (Nat.le_refl _) _)
          · refine step_of (by kernel_rfl) ?_
            simp only [List.getD_cons_zero, List.getD_cons_succ]
            intro u w' hS hR K hK
            have hKS := fun v w2 h1 h2 => hK v w2 h1 (Or.inr h2)
            replace hK := fun v w2 h1 h2 => hK v w2 h1 (Or.inl h2)
            have r6 := hR 6 (by decide) (by kernel_rfl) 62 (by kernel_rfl)
            have r7 := hR 7 (by decide) (by kernel_rfl) 63 (by kernel_rfl)
            have r8 := hR 8 (by decide) (by kernel_rfl) 64 (by kernel_rfl)
            have r9 := hR 9 (by decide) (by kernel_rfl) 55 (by kernel_rfl)
            have r10 := hR 10 (by decide) (by kernel_rfl) 65 (by kernel_rfl)
            have r12 := hR 12 (by decide) (by kernel_rfl) 11 (by kernel_rfl)
            clear hR
            simp only [mixA, List.foldl_cons, List.foldl_nil] at hK hKS ⊢
            simp only [Act.put, List.setIfInBounds_toArray, List.set_cons_zero, List.set_cons_succ] at hK hKS ⊢
            have q10 : u 65 = .agg #[.string (bs pt), .int .i64 (pn : Int)] := r10
            obtain ⟨gx, c0, c1, q12, bX, hgx⟩ := r12
            rw [q10, q12] at hK hKS ⊢
            have hSb := hS.1
            clear q10 q12 r10
            have x0 := bX.cell 0
            have x1 := bX.cell 1
            simp at x0 x1
            have g0 := bX.frozen 0
            have g1 := bX.frozen 1
            go_simp
            exact hKS undef _ trivial ⟨mbR_store bX _ _, HSR _ ((hSb.setCell hgx _).setCell hgx _)⟩
          · refine step_of (by kernel_rfl) ?_
            simp only [List.getD_cons_zero, List.getD_cons_succ]
            intro u w' hS hR K hK
            have hKS := fun v w2 h1 h2 => hK v w2 h1 (Or.inr h2)
            replace hK := fun v w2 h1 h2 => hK v w2 h1 (Or.inl h2)
            have r6 := hR 6 (by decide) (by kernel_rfl) 62 (by kernel_rfl)
            have r7 := hR 7 (by decide) (by kernel_rfl) 63 (by kernel_rfl)
            have r8 := hR 8 (by decide) (by kernel_rfl) 64 (by kernel_rfl)
            have r9 := hR 9 (by decide) (by kernel_rfl) 55 (by kernel_rfl)
            have r10 := hR 10 (by decide) (by kernel_rfl) 65 (by kernel_rfl)
            have r11 := hR 11 (by decide) (by kernel_rfl) 66 (by kernel_rfl)
            have r12 := hR 12 (by decide) (by kernel_rfl) 11 (by kernel_rfl)
            clear hR hKS
            simp only [mixA, List.foldl_cons, List.foldl_nil] at hK ⊢
            simp only [Act.put, List.setIfInBounds_toArray, List.set_cons_zero, List.set_cons_succ] at hK ⊢
            have q11 : u 66 = .bool true := r11
            rw [q11] at hK ⊢
            go_simp
            exact hK _ _ rfl (Below.refl _ _)
          · cases hi
          · intro u w' hS hR
            have r6 := hR 6 (by decide) 62 (by kernel_rfl)
            have r7 := hR 7 (by decide) 63 (by kernel_rfl)
            have r8 := hR 8 (by decide) 64 (by kernel_rfl)
            have r9 := hR 9 (by decide) 55 (by kernel_rfl)
            have r10 := hR 10 (by decide) 65 (by kernel_rfl)
            have r11 := hR 11 (by decide) 66 (by kernel_rfl)
            have r12 := hR 12 (by decide) 11 (by kernel_rfl)
            have r14 := hR 14 (by decide) 12 (by kernel_rfl)
            clear hR
            simp only [mixA, List.foldl_cons, List.foldl_nil]
            simp only [Act.put, List.setIfInBounds_toArray, List.set_cons_zero, List.set_cons_succ]
            have q14 : u 12 = .bool true := r14
            rw [q14]
            have hSb := hS.1
            clear q14 r6 r7 r8 r9 r10 r11 r12 r14 hS
            refine nop_normal (P := Tryz.prog) ?_
            have rd9 := rd3.below hSb
            have bH9 := bH.below hSb bH.lt
            have hk9 : Kept (BX gr mf lv pv) w w' := (Kept.of_below hbw _).trans (Kept.of_below hSb _)
            clear hSb
            generalize w' = W9 at rd9 bH9 hk9 ⊢
            go_wp2_with fail
            go_ret2
            exact ⟨_, _, _, _, _, _, _, _, _, _, rfl, rd9, hk9, by rw [HV.out]; exact ⟨rfl, rfl, rfl⟩⟩
        | none =>
          have HV := Lib.hid (HB.out.trans (if_neg (by rw [htk]; simp)))
          have hgb : ∀ W, Below W3.heap.size W3 W → (Instr.lookup 55 (.map (some mf)) (.string (bs [h.kind])) true).run Tryz.prog W = .ok (.tuple #[.agg #[.string ⟨#[]⟩, .int .i64 0], .bool false]) W := fun W hb => by
            have := HGET.out W hb
            rw [htk] at this
            exact this
          clear HB HGET htk
          refine wp_region_rel (mbR W3.heap.size h.kind (.agg #[.string ⟨#[]⟩, .int .i64 0]) false) (fun W => Below W3.heap.size W3 W ∧ W.cell? ⟨gr, 3, none⟩ = some (.map (some mf)) ∧ W.cell? ⟨gH, 8, none⟩ = some (.int .u8 (h.kind.toNat : Int))) [0, 1, 2, 3, 4, 5] [62, 63, 64, 55, 65, 66, 11, 12] [6, 7, 8, 9, 10, 11, 12, 13, 14] [] [] none (by kernel_rfl) (by kernel_rfl) (mbR_grow _ _ _ _) (fun w w' hS hb => HSR _ (hS.1.trans (hb.mono hS.1.size))) (HSR _ (Below.refl _ _).drew) ?_
          simp only [List.map, List.getD_cons_zero, List.getD_cons_succ]
          iterate 6 (refine qs_step (v := ?_) rfl (fun w' hw' => ?_) ?_; rotate_left; (focus (go_simp <;> (first | with_reducible rfl | omega))); simp only [Act.put, List.setIfInBounds_toArray, List.set_cons_zero, List.set_cons_succ])
          refine ⟨all_cons ?_ (all_cons ?_ (all_cons ?_ (all_cons ?_ (all_cons ?_ (all_cons ?_ (all_cons ?_ (all_cons ?_ (all_cons ?_ (all_nil))))))))), fun i hi => ?_, fun hn => ?_⟩
          · refine step_of (by kernel_rfl) ?_
            simp only [List.getD_cons_zero, List.getD_cons_succ]
            intro u w' hS hR K hK
            have hKS := fun v w2 h1 h2 => hK v w2 h1 (Or.inr h2)
            replace hK := fun v w2 h1 h2 => hK v w2 h1 (Or.inl h2)
            clear hR hKS
            simp only [mixA, List.foldl_cons, List.foldl_nil] at hK ⊢
            simp only [Act.put, List.setIfInBounds_toArray, List.set_cons_zero, List.set_cons_succ] at hK ⊢
            go_simp
            exact hK _ _ ⟨_, rfl, Blk.new w' 5 #[.int .u8 (h.kind.toNat : Int)]⟩ ((Below.refl _ _).alloc (Nat.le_refl _) _)
          · refine step_of (by kernel_rfl) ?_
            simp only [List.getD_cons_zero, List.getD_cons_succ]
            intro u w' hS hR K hK
            have hKS := fun v w2 h1 h2 => hK v w2 h1 (Or.inr h2)
            replace hK := fun v w2 h1 h2 => hK v w2 h1 (Or.inl h2)
            have r6 := hR 6 (by decide) (by kernel_rfl) 62 (by kernel_rfl)
            clear hR hKS
            simp only [mixA, List.foldl_cons, List.foldl_nil] at hK ⊢
            simp only [Act.put, List.setIfInBounds_toArray, List.set_cons_zero, List.set_cons_succ] at hK ⊢
            obtain ⟨g, hg, hb⟩ := r6
            have hst : (convert 25 9 (u 62)).run Tryz.prog w' = .ok (.string (bs [h.kind])) w' := by rw [hg]; exact str8 (SB.blk (l := [h.kind]) hb (by unfold maxLen; simp))
            clear hg hb
            go_simp
            exact hK _ _ rfl (Below.refl _ _)
          · refine step_of (by kernel_rfl) ?_
            simp only [List.getD_cons_zero, List.getD_cons_succ]
            intro u w' hS hR K hK
            have hKS := fun v w2 h1 h2 => hK v w2 h1 (Or.inr h2)
            replace hK := fun v w2 h1 h2 => hK v w2 h1 (Or.inl h2)
            have r7 := hR 7 (by decide) (by kernel_rfl) 63 (by kernel_rfl)
            clear hR hKS
            simp only [mixA, List.foldl_cons, List.foldl_nil] at hK ⊢
            simp only [Act.put, List.setIfInBounds_toArray, List.set_cons_zero, List.set_cons_succ] at hK ⊢
            have q : u 63 = .string (bs [h.kind]) := r7
            have hg := hgb w' hS.1
            rw [q] at hK ⊢
            clear q r7
            go_simp
            exact hK _ _ rfl (Below.refl _ _)
          · refine step_of (by kernel_rfl) ?_
            simp only [List.getD_cons_zero, List.getD_cons_succ]
            intro u w' hS hR K hK
            have hKS := fun v w2 h1 h2 => hK v w2 h1 (Or.inr h2)
            replace hK := fun v w2 h1 h2 => hK v w2 h1 (Or.inl h2)
            have r8 := hR 8 (by decide) (by kernel_rfl) 64 (by kernel_rfl)
            clear hR hKS
            simp only [mixA, List.foldl_cons, List.foldl_nil] at hK ⊢
            simp only [Act.put, List.setIfInBounds_toArray, List.set_cons_zero, List.set_cons_succ] at hK ⊢
            have q : u 64 = .tuple #[.agg #[.string ⟨#[]⟩, .int .i64 0], .bool false] := r8
            rw [q] at hK ⊢
            go_simp
            exact hK _ _ rfl (Below.refl _ _)
          · refine step_of (by kernel_rfl) ?_
            simp only [List.getD_cons_zero, List.getD_cons_succ]
            intro u w' hS hR K hK
            have hKS := fun v w2 h1 h2 => hK v w2 h1 (Or.inr h2)
            replace hK := fun v w2 h1 h2 => hK v w2 h1 (Or.inl h2)
            have r9 := hR 9 (by decide) (by kernel_rfl) 55 (by kernel_rfl)
            clear hR hKS
            simp only [mixA, List.foldl_cons, List.foldl_nil] at hK ⊢
            simp only [Act.put, List.setIfInBounds_toArray, List.set_cons_zero, List.set_cons_succ] at hK ⊢
            have q : u 55 = .tuple #[.agg #[.string ⟨#[]⟩, .int .i64 0], .bool false] := r9
            rw [q] at hK ⊢
            go_simp
            exact hK _ _ rfl (Below.refl _ _)
          · refine step_of (by kernel_rfl) ?_
            simp only [List.getD_cons_zero, List.getD_cons_succ]
            intro u w' hS hR K hK
            have hKS := fun v w2 h1 h2 => hK v w2 h1 (Or.inr h2)
            replace hK := fun v w2 h1 h2 => hK v w2 h1 (Or.inl h2)
            have r9 := hR 9 (by decide) (by kernel_rfl) 55 (by kernel_rfl)
            clear hR hKS
            simp only [mixA, List.foldl_cons, List.foldl_nil] at hK ⊢
            simp only [Act.put, List.setIfInBounds_toArray, List.set_cons_zero, List.set_cons_succ] at hK ⊢
            have q : u 55 = .tuple #[.agg #[.string ⟨#[]⟩, .int .i64 0], .bool false] := r9
            rw [q] at hK ⊢
            go_simp
            exact hK _ _ rfl (Below.refl _ _)
          · refine step_of (by kernel_rfl) ?_
            simp only [List.getD_cons_zero, List.getD_cons_succ]
            intro u w' hS hR K hK
            have hKS := fun v w2 h1 h2 => hK v w2 h1 (Or.inr h2)
            replace hK := fun v w2 h1 h2 => hK v w2 h1 (Or.inl h2)
            clear hR hKS
            simp only [mixA, List.foldl_cons, List.foldl_nil] at hK ⊢
            simp only [Act.put, List.setIfInBounds_toArray, List.set_cons_zero, List.set_cons_succ] at hK ⊢
            go_simp
            exact hK _ _ ⟨_, _, _, rfl, Blk.new w' 90 #[.string ⟨#[]⟩, .int .i64 0], hS.1.size⟩ ((Below.refl _ _).alloc (Nat.le_refl _) _)
          · refine step_of (by kernel_rfl) ?_
            simp only [List.getD_cons_zero, List.getD_cons_succ]
            intro u w' hS hR K hK
            have hKS := fun v w2 h1 h2 => hK v w2 h1 (Or.inr h2)
            replace hK := fun v w2 h1 h2 => hK v w2 h1 (Or.inl h2)
            have r6 := hR 6 (by decide) (by kernel_rfl) 62 (by kernel_rfl)
            have r7 := hR 7 (by decide) (by kernel_rfl) 63 (by kernel_rfl)
            have r8 := hR 8 (by decide) (by kernel_rfl) 64 (by kernel_rfl)
            have r9 := hR 9 (by decide) (by kernel_rfl) 55 (by kernel_rfl)
            have r10 := hR 10 (by decide) (by kernel_rfl) 65 (by kernel_rfl)
            have r12 := hR 12 (by decide) (by kernel_rfl) 11 (by kernel_rfl)
            clear hR
            simp only [mixA, List.foldl_cons, List.foldl_nil] at hK hKS ⊢
            simp only [Act.put, List.setIfInBounds_toArray, List.set_cons_zero, List.set_cons_succ] at hK hKS ⊢
            have q10 : u 65 = .agg #[.string ⟨#[]⟩, .int .i64 0] := r10
            obtain ⟨gx, c0, c1, q12, bX, hgx⟩ := r12
            rw [q10, q12] at hK hKS ⊢
            have hSb := hS.1
            clear q10 q12 r10
            have x0 := bX.cell 0
            have x1 := bX.cell 1
            simp at x0 x1
            have g0 := bX.frozen 0
            have g1 := bX.frozen 1
            go_simp
            exact hKS undef _ trivial ⟨mbR_store bX _ _, HSR _ ((hSb.setCell hgx _).setCell hgx _)⟩
          · refine step_of (by kernel_rfl) ?_
            simp only [List.getD_cons_zero, List.getD_cons_succ]
            intro u w' hS hR K hK
            have hKS := fun v w2 h1 h2 => hK v w2 h1 (Or.inr h2)
            replace hK := fun v w2 h1 h2 => hK v w2 h1 (Or.inl h2)
            have r6 := hR 6 (by decide) (by kernel_rfl) 62 (by kernel_rfl)
            have r7 := hR 7 (by decide) (by kernel_rfl) 63 (by kernel_rfl)
            have r8 := hR 8 (by decide) (by kernel_rfl) 64 (by kernel_rfl)
            have r9 := hR 9 (by decide) (by kernel_rfl) 55 (by kernel_rfl)
            have r10 := hR 10 (by decide) (by kernel_rfl) 65 (by kernel_rfl)
            have r11 := hR 11 (by decide) (by kernel_rfl) 66 (by kernel_rfl)
            have r12 := hR 12 (by decide) (by kernel_rfl) 11 (by kernel_rfl)
            clear hR hKS
            simp only [mixA, List.foldl_cons, List.foldl_nil] at hK ⊢
            simp only [Act.put, List.setIfInBounds_toArray, List.set_cons_zero, List.set_cons_succ] at hK ⊢
            have q11 : u 66 = .bool false := r11
            rw [q11] at hK ⊢
            go_simp
            exact hK _ _ rfl (Below.refl _ _)
          · cases hi
          · intro u w' hS hR
            have r6 := hR 6 (by decide) 62 (by kernel_rfl)
            have r7 := hR 7 (by decide) 63 (by kernel_rfl)
            have r8 := hR 8 (by decide) 64 (by kernel_rfl)
            have r9 := hR 9 (by decide) 55 (by kernel_rfl)
            have r10 := hR 10 (by decide) 65 (by kernel_rfl)
            have r11 := hR 11 (by decide) 66 (by kernel_rfl)
            have r12 := hR 12 (by decide) 11 (by kernel_rfl)
            have r14 := hR 14 (by decide) 12 (by kernel_rfl)
            clear hR
            simp only [mixA, List.foldl_cons, List.foldl_nil]
            simp only [Act.put, List.setIfInBounds_toArray, List.set_cons_zero, List.set_cons_succ]
            have q14 : u 12 = .bool false := r14
            rw [q14]
            have hSb := hS.1
            clear q14 r6 r7 r8 r9 r10 r11 r12 r14 hS
            refine nop_normal (P := Tryz.prog) ?_
            have rd9 := rd3.below hSb
            have bH9 := bH.below hSb bH.lt
            have hk9 : Kept (BX gr mf lv pv) w w' := (Kept.of_below hbw _).trans (Kept.of_below hSb _)
            clear hSb
            generalize w' = W9 at rd9 bH9 hk9 ⊢
            obtain ⟨mo, hmo, hMo⟩ := rd9.mp
            obtain ⟨n, hn0, hn⟩ := mapS_len W9 toldU hmo hMo
            have hnn := hn0.trans (none_all hT)
            have r39 : W9.cell? ⟨gr, 3, none⟩ = some (.map (some mf)) := by have := rd9.blk.cell 3; simpa using this
            have r49 : W9.cell? ⟨gr, 4, none⟩ = some (.int .i64 (fr : Int)) := by have := rd9.blk.cell 4; simpa using this
            have f49 := rd9.blk.frozen 4
            clear hn0 hMo hmo
            by_cases h0 : n = 0
            · have z1 : ((n : Int) == 0) = true := by rw [h0]; rfl
              have z2 : n = 0 := h0
              have hno := hnn.1 h0
              clear hnn
              go_wp2_with (at_len; refine wpList_lenS _ rfl _ rfl rfl n hn ?_)
              have rdf := rd9.first p
              have hkf : Kept (BX gr mf lv pv) w (W9.setCell ⟨gr, 4, none⟩ (.int .i64 (p : Int))) := hk9.setCell _ fun _ => .inl rfl
              have bHf := bH9.other (a := ⟨gr, 4, none⟩) (.int .i64 (p : Int)) (Blk.apartT bH9 rd9.blk (by decide))
              go_meet
              exact ⟨false, p, rfl, bHf, rdf, hkf, HV, (fun h => by cases h), Lib.hid fun _ => by rw [if_pos hno]⟩
            · have z1 : ((n : Int) == 0) = false := by simpa using (show ¬ (n : Int) = 0 by omega)
              have hno : ¬ noneB t = true := fun h => h0 (hnn.2 h)
              clear hnn
              go_wp2_with (at_len; refine wpList_lenS _ rfl _ rfl rfl n hn ?_)
              go_meet
              exact ⟨false, fr, rfl, bH9, rd9, hk9, HV, (fun h => by cases h), Lib.hid fun _ => by rw [if_neg hno]⟩
      by_cases h3 : h.kind = 49
      · have hj : h.kind = 49 := h3
        have e76 : ((h.kind.toNat : Int) == 76) = false := by rw [hj]; rfl
        have e75 : ((h.kind.toNat : Int) == 75) = false := by rw [hj]; rfl
        have e120 : ((h.kind.toNat : Int) == 120) = false := by rw [hj]; rfl
        have e49 : ((h.kind.toNat : Int) == 49) = true := by rw [hj]; rfl
        have e50 : ((h.kind.toNat : Int) == 50) = false := by rw [hj]; rfl
        have e53 : ((h.kind.toNat : Int) == 53) = false := by rw [hj]; rfl
        have e48 : ((h.kind.toNat : Int) == 48) = false := by rw [hj]; rfl
        have e0 : ((h.kind.toNat : Int) == 0) = false := by rw [hj]; rfl
        have hkr : kindR h.kind = 4 := by rw [hj]; rfl
        have HB := Lib.hid (HM4.out.trans (body_own (b := bb) (t := t) (p := p) (show isTell h.kind = false by rw [hj]; rfl) (by rw [hkr]; decide)))
        have HKR := Lib.hid hkr
        have hne48 : ((h.kind.toNat : Int) != 48) = true := by rw [hj]; rfl
        have hne0 : ((h.kind.toNat : Int) != 0) = true := by rw [hj]; rfl
        clear hj h0 h1 h2 h3 HM4 hkr
        have hget := rd3.get kSize
        have f6 := bH.frozen 6
        cases htk : t kSize with
        | some pv =>
          obtain ⟨pt, szN⟩ := pv
          have hsn := (hTL kSize _ htk).2
          have HSZ : Hid (szO true t h = szN) := Lib.hid (by rw [szO, if_pos rfl, orN, htk])
          rw [htk] at hget
          have hget2 : (Instr.lookup 55 (.map (some mf)) (.string ⟨#[115, 105, 122, 101]⟩) true).run Tryz.prog W3 = .ok (.tuple #[.agg #[.string (bs pt), .int .i64 (szN : Int)], .bool true]) W3 := hget
          have f6a := (bH.below ((Below.refl W3.heap.size W3).alloc (Nat.le_refl _) (.cells #[.string (bs pt), .int .i64 (szN : Int)] 90)) bH.lt).frozen 6
          have c6a := (bH.below ((Below.refl W3.heap.size W3).alloc (Nat.le_refl _) (.cells #[.string (bs pt), .int .i64 (szN : Int)] 90)) bH.lt).cell 6
          simp at c6a
          clear hget htk
          go_upto_region 29 with fail
          have hbf : Below W3.heap.size W3 (W3.alloc (.cells #[.string (bs pt), .int .i64 (szN : Int)] 90)) := (Below.refl _ _).alloc (Nat.le_refl _) _
          have rda := rd3.below hbf
          have bHa := bH.below hbf bH.lt
          have hkH : Kept (fun k => k = gH) (W3.alloc (.cells #[.string (bs pt), .int .i64 (szN : Int)] 90)) ((W3.alloc (.cells #[.string (bs pt), .int .i64 (szN : Int)] 90)).setCell ⟨gH, 6, none⟩ (.int .i64 (szN : Int))) := (Kept.refl _ _).setCell (p := ⟨gH, 6, none⟩) _ fun _ => rfl
          have hbw2 : Below w.heap.size w ((W3.alloc (.cells #[.string (bs pt), .int .i64 (szN : Int)] 90)).setCell ⟨gH, 6, none⟩ (.int .i64 (szN : Int))) := (hbw.trans (hbf.mono hbw.size)).setCell hgH _
          have rdf := hrd.below hbw2
          have hkf : Kept (BX gr mf lv pv) w ((W3.alloc (.cells #[.string (bs pt), .int .i64 (szN : Int)] 90)).setCell ⟨gH, 6, none⟩ (.int .i64 (szN : Int))) := Kept.of_below hbw2 _
          have bHf : Blk ((W3.alloc (.cells #[.string (bs pt), .int .i64 (szN : Int)] 90)).setCell ⟨gH, 6, none⟩ (.int .i64 (szN : Int))) gH 43 #[.string (bs h.name), .string (bs h.pfx), .string (bs h.link), .int .i64 (h.mode : Int), .int .i64 (h.uid : Int), .int .i64 (h.gid : Int), .int .i64 (szO true t h : Int), .int .i64 (h.mtime : Int), .int .u8 (h.kind.toNat : Int), .string (bs h.owner), .string (bs h.group)] := by
            have := bHa.set (u := .int .i64 (szN : Int)) 6
            rw [HSZ.out]
            simpa using this
          clear rda bHa hkH hbw2 hbf f6a c6a hget2 y0 y1 y2 y3 y4 y5 y6 y7 y8 y9 y10 f6
          generalize (W3.alloc (.cells #[.string (bs pt), .int .i64 (szN : Int)] 90)).setCell ⟨gH, 6, none⟩ (.int .i64 (szN : Int)) = WF at rdf hkf bHf ⊢
          have z6 : WF.cell? ⟨gH, 6, none⟩ = some (.int .i64 (szN : Int)) := by have := bHf.cell 6; rw [HSZ.out] at this; simpa using this
          have z8 : WF.cell? ⟨gH, 8, none⟩ = some (.int .u8 (h.kind.toNat : Int)) := by have := bHf.cell 8; simpa using this
          by_cases hz : 0 < szN
          · have z1 : decide ((0 : Int) < (szN : Int)) = true := decide_eq_true (by omega)
            have HV : Hid (M = .bad 3) := Lib.hid (HB.out.trans (if_pos ⟨by rw [HKR.out]; decide, by rw [HSZ.out]; exact hz⟩))
            go_wp2_with fail
            go_ret2
            exact ⟨_, _, _, _, _, _, _, _, _, _, rfl, rdf, hkf, by rw [HV.out]; exact ⟨rfl, rfl, rfl⟩⟩
          · have z1 : decide ((0 : Int) < (szN : Int)) = false := decide_eq_false (by omega)
            have HV := Lib.hid (HB.out.trans (if_neg (fun h => hz (by rw [← HSZ.out]; exact h.2))))
            go_wp2_with fail
            go_meet
            exact ⟨true, fr, rfl, bHf, rdf, hkf, HV, Lib.hid (fun _ => by rw [HKR.out]; decide), Lib.hid (fun h => by cases h)⟩
        | none =>
          obtain ⟨szN, hsN⟩ : ∃ n, h.size = n := ⟨_, rfl⟩
          have HSZ : Hid (szO true t h = szN) := Lib.hid (by rw [szO, if_pos rfl, orN, htk, hsN])
          rw [htk] at hget
          have hget2 : (Instr.lookup 55 (.map (some mf)) (.string ⟨#[115, 105, 122, 101]⟩) true).run Tryz.prog W3 = .ok (.tuple #[.agg #[.string ⟨#[]⟩, .int .i64 0], .bool false]) W3 := hget
          rw [hsN] at y6 bH
          clear hget htk hsN
          go_upto_region 29 with fail
          have hbf : Below W3.heap.size W3 (W3.alloc (.cells #[.string ⟨#[]⟩, .int .i64 0] 90)) := (Below.refl _ _).alloc (Nat.le_refl _) _
          have rdf := rd3.below hbf
          have bHf : Blk (W3.alloc (.cells #[.string ⟨#[]⟩, .int .i64 0] 90)) gH 43 #[.string (bs h.name), .string (bs h.pfx), .string (bs h.link), .int .i64 (h.mode : Int), .int .i64 (h.uid : Int), .int .i64 (h.gid : Int), .int .i64 (szO true t h : Int), .int .i64 (h.mtime : Int), .int .u8 (h.kind.toNat : Int), .string (bs h.owner), .string (bs h.group)] := by
            have := bH.below hbf bH.lt
            rw [HSZ.out]
            exact this
          have hkf : Kept (BX gr mf lv pv) w (W3.alloc (.cells #[.string ⟨#[]⟩, .int .i64 0] 90)) := (Kept.of_below hbw _).trans (Kept.of_below hbf _)
          clear hbf hget2 y0 y1 y2 y3 y4 y5 y6 y7 y8 y9 y10 f6
          generalize W3.alloc (.cells #[.string ⟨#[]⟩, .int .i64 0] 90) = WF at rdf hkf bHf ⊢
          have z6 : WF.cell? ⟨gH, 6, none⟩ = some (.int .i64 (szN : Int)) := by have := bHf.cell 6; rw [HSZ.out] at this; simpa using this
          have z8 : WF.cell? ⟨gH, 8, none⟩ = some (.int .u8 (h.kind.toNat : Int)) := by have := bHf.cell 8; simpa using this
          by_cases hz : 0 < szN
          · have z1 : decide ((0 : Int) < (szN : Int)) = true := decide_eq_true (by omega)
            have HV : Hid (M = .bad 3) := Lib.hid (HB.out.trans (if_pos ⟨by rw [HKR.out]; decide, by rw [HSZ.out]; exact hz⟩))
            go_wp2_with fail
            go_ret2
            exact ⟨_, _, _, _, _, _, _, _, _, _, rfl, rdf, hkf, by rw [HV.out]; exact ⟨rfl, rfl, rfl⟩⟩
          · have z1 : decide ((0 : Int) < (szN : Int)) = false := decide_eq_false (by omega)
            have HV := Lib.hid (HB.out.trans (if_neg (fun h => hz (by rw [← HSZ.out]; exact h.2))))
            go_wp2_with fail
            go_meet
            exact ⟨true, fr, rfl, bHf, rdf, hkf, HV, Lib.hid (fun _ => by rw [HKR.out]; decide), Lib.hid (fun h => by cases h)⟩
      by_cases h4 : h.kind = 50
      · have hj : h.kind = 50 := h4
        have e76 : ((h.kind.toNat : Int) == 76) = false := by rw [hj]; rfl
        have e75 : ((h.kind.toNat : Int) == 75) = false := by rw [hj]; rfl
        have e120 : ((h.kind.toNat : Int) == 120) = false := by rw [hj]; rfl
        have e49 : ((h.kind.toNat : Int) == 49) = false := by rw [hj]; rfl
        have e50 : ((h.kind.toNat : Int) == 50) = true := by rw [hj]; rfl
        have e53 : ((h.kind.toNat : Int) == 53) = false := by rw [hj]; rfl
        have e48 : ((h.kind.toNat : Int) == 48) = false := by rw [hj]; rfl
        have e0 : ((h.kind.toNat : Int) == 0) = false := by rw [hj]; rfl
        have hkr : kindR h.kind = 3 := by rw [hj]; rfl
        have HB := Lib.hid (HM4.out.trans (body_own (b := bb) (t := t) (p := p) (show isTell h.kind = false by rw [hj]; rfl) (by rw [hkr]; decide)))
        have HKR := Lib.hid hkr
        have hne48 : ((h.kind.toNat : Int) != 48) = true := by rw [hj]; rfl
        have hne0 : ((h.kind.toNat : Int) != 0) = true := by rw [hj]; rfl
        clear hj h0 h1 h2 h3 h4 HM4 hkr
        have hget := rd3.get kSize
        have f6 := bH.frozen 6
        cases htk : t kSize with
        | some pv =>
          obtain ⟨pt, szN⟩ := pv
          have hsn := (hTL kSize _ htk).2
          have HSZ : Hid (szO true t h = szN) := Lib.hid (by rw [szO, if_pos rfl, orN, htk])
          rw [htk] at hget
          have hget2 : (Instr.lookup 55 (.map (some mf)) (.string ⟨#[115, 105, 122, 101]⟩) true).run Tryz.prog W3 = .ok (.tuple #[.agg #[.string (bs pt), .int .i64 (szN : Int)], .bool true]) W3 := hget
          have f6a := (bH.below ((Below.refl W3.heap.size W3).alloc (Nat.le_refl _) (.cells #[.string (bs pt), .int .i64 (szN : Int)] 90)) bH.lt).frozen 6
          have c6a := (bH.below ((Below.refl W3.heap.size W3).alloc (Nat.le_refl _) (.cells #[.string (bs pt), .int .i64 (szN : Int)] 90)) bH.lt).cell 6
          simp at c6a
          clear hget htk
          go_upto_region 29 with fail
          have hbf : Below W3.heap.size W3 (W3.alloc (.cells #[.string (bs pt), .int .i64 (szN : Int)] 90)) := (Below.refl _ _).alloc (Nat.le_refl _) _
          have rda := rd3.below hbf
          have bHa := bH.below hbf bH.lt
          have hkH : Kept (fun k => k = gH) (W3.alloc (.cells #[.string (bs pt), .int .i64 (szN : Int)] 90)) ((W3.alloc (.cells #[.string (bs pt), .int .i64 (szN : Int)] 90)).setCell ⟨gH, 6, none⟩ (.int .i64 (szN : Int))) := (Kept.refl _ _).setCell (p := ⟨gH, 6, none⟩) _ fun _ => rfl
          have hbw2 : Below w.heap.size w ((W3.alloc (.cells #[.string (bs pt), .int .i64 (szN : Int)] 90)).setCell ⟨gH, 6, none⟩ (.int .i64 (szN : Int))) := (hbw.trans (hbf.mono hbw.size)).setCell hgH _
          have rdf := hrd.below hbw2
          have hkf : Kept (BX gr mf lv pv) w ((W3.alloc (.cells #[.string (bs pt), .int .i64 (szN : Int)] 90)).setCell ⟨gH, 6, none⟩ (.int .i64 (szN : Int))) := Kept.of_below hbw2 _
          have bHf : Blk ((W3.alloc (.cells #[.string (bs pt), .int .i64 (szN : Int)] 90)).setCell ⟨gH, 6, none⟩ (.int .i64 (szN : Int))) gH 43 #[.string (bs h.name), .string (bs h.pfx), .string (bs h.link), .int .i64 (h.mode : Int), .int .i64 (h.uid : Int), .int .i64 (h.gid : Int), .int .i64 (szO true t h : Int), .int .i64 (h.mtime : Int), .int .u8 (h.kind.toNat : Int), .string (bs h.owner), .string (bs h.group)] := by
            have := bHa.set (u := .int .i64 (szN : Int)) 6
            rw [HSZ.out]
            simpa using this
          clear rda bHa hkH hbw2 hbf f6a c6a hget2 y0 y1 y2 y3 y4 y5 y6 y7 y8 y9 y10 f6
          generalize (W3.alloc (.cells #[.string (bs pt), .int .i64 (szN : Int)] 90)).setCell ⟨gH, 6, none⟩ (.int .i64 (szN : Int)) = WF at rdf hkf bHf ⊢
          have z6 : WF.cell? ⟨gH, 6, none⟩ = some (.int .i64 (szN : Int)) := by have := bHf.cell 6; rw [HSZ.out] at this; simpa using this
          have z8 : WF.cell? ⟨gH, 8, none⟩ = some (.int .u8 (h.kind.toNat : Int)) := by have := bHf.cell 8; simpa using this
          by_cases hz : 0 < szN
          · have z1 : decide ((0 : Int) < (szN : Int)) = true := decide_eq_true (by omega)
            have HV : Hid (M = .bad 3) := Lib.hid (HB.out.trans (if_pos ⟨by rw [HKR.out]; decide, by rw [HSZ.out]; exact hz⟩))
            go_wp2_with fail
            go_ret2
            exact ⟨_, _, _, _, _, _, _, _, _, _, rfl, rdf, hkf, by rw [HV.out]; exact ⟨rfl, rfl, rfl⟩⟩
          · have z1 : decide ((0 : Int) < (szN : Int)) = false := decide_eq_false (by omega)
            have HV := Lib.hid (HB.out.trans (if_neg (fun h => hz (by rw [← HSZ.out]; exact h.2))))
            go_wp2_with fail
            go_meet
            exact ⟨true, fr, rfl, bHf, rdf, hkf, HV, Lib.hid (fun _ => by rw [HKR.out]; decide), Lib.hid (fun h => by cases h)⟩
        | none =>
          obtain ⟨szN, hsN⟩ : ∃ n, h.size = n := ⟨_, rfl⟩
          have HSZ : Hid (szO true t h = szN) := Lib.hid (by rw [szO, if_pos rfl, orN, htk, hsN])
          rw [htk] at hget
          have hget2 : (Instr.lookup 55 (.map (some mf)) (.string ⟨#[115, 105, 122, 101]⟩) true).run Tryz.prog W3 = .ok (.tuple #[.agg #[.string ⟨#[]⟩, .int .i64 0], .bool false]) W3 := hget
          rw [hsN] at y6 bH
          clear hget htk hsN
          go_upto_region 29 with fail
          have hbf : Below W3.heap.size W3 (W3.alloc (.cells #[.string ⟨#[]⟩, .int .i64 0] 90)) := (Below.refl _ _).alloc (Nat.le_refl _) _
          have rdf := rd3.below hbf
          have bHf : Blk (W3.alloc (.cells #[.string ⟨#[]⟩, .int .i64 0] 90)) gH 43 #[.string (bs h.name), .string (bs h.pfx), .string (bs h.link), .int .i64 (h.mode : Int), .int .i64 (h.uid : Int), .int .i64 (h.gid : Int), .int .i64 (szO true t h : Int), .int .i64 (h.mtime : Int), .int .u8 (h.kind.toNat : Int), .string (bs h.owner), .string (bs h.group)] := by
            have := bH.below hbf bH.lt
            rw [HSZ.out]
            exact this
          have hkf : Kept (BX gr mf lv pv) w (W3.alloc (.cells #[.string ⟨#[]⟩, .int .i64 0] 90)) := (Kept.of_below hbw _).trans (Kept.of_below hbf _)
          clear hbf hget2 y0 y1 y2 y3 y4 y5 y6 y7 y8 y9 y10 f6
          generalize W3.alloc (.cells #[.string ⟨#[]⟩, .int .i64 0] 90) = WF at rdf hkf bHf ⊢
          have z6 : WF.cell? ⟨gH, 6, none⟩ = some (.int .i64 (szN : Int)) := by have := bHf.cell 6; rw [HSZ.out] at this; simpa using this
          have z8 : WF.cell? ⟨gH, 8, none⟩ = some (.int .u8 (h.kind.toNat : Int)) := by have := bHf.cell 8; simpa using this
          by_cases hz : 0 < szN
          · have z1 : decide ((0 : Int) < (szN : Int)) = true := decide_eq_true (by omega)
            have HV : Hid (M = .bad 3) := Lib.hid (HB.out.trans (if_pos ⟨by rw [HKR.out]; decide, by rw [HSZ.out]; exact hz⟩))
            go_wp2_with fail
            go_ret2
            exact ⟨_, _, _, _, _, _, _, _, _, _, rfl, rdf, hkf, by rw [HV.out]; exact ⟨rfl, rfl, rfl⟩⟩
          · have z1 : decide ((0 : Int) < (szN : Int)) = false := decide_eq_false (by omega)
            have HV := Lib.hid (HB.out.trans (if_neg (fun h => hz (by rw [← HSZ.out]; exact h.2))))
            go_wp2_with fail
            go_meet
            exact ⟨true, fr, rfl, bHf, rdf, hkf, HV, Lib.hid (fun _ => by rw [HKR.out]; decide), Lib.hid (fun h => by cases h)⟩
      by_cases h5 : h.kind = 53
      · have hj : h.kind = 53 := h5
        have e76 : ((h.kind.toNat : Int) == 76) = false := by rw [hj]; rfl
        have e75 : ((h.kind.toNat : Int) == 75) = false := by rw [hj]; rfl
        have e120 : ((h.kind.toNat : Int) == 120) = false := by rw [hj]; rfl
        have e49 : ((h.kind.toNat : Int) == 49) = false := by rw [hj]; rfl
        have e50 : ((h.kind.toNat : Int) == 50) = false := by rw [hj]; rfl
        have e53 : ((h.kind.toNat : Int) == 53) = true := by rw [hj]; rfl
        have e48 : ((h.kind.toNat : Int) == 48) = false := by rw [hj]; rfl
        have e0 : ((h.kind.toNat : Int) == 0) = false := by rw [hj]; rfl
        have hkr : kindR h.kind = 2 := by rw [hj]; rfl
        have HB := Lib.hid (HM4.out.trans (body_own (b := bb) (t := t) (p := p) (show isTell h.kind = false by rw [hj]; rfl) (by rw [hkr]; decide)))
        have HKR := Lib.hid hkr
        have hne48 : ((h.kind.toNat : Int) != 48) = true := by rw [hj]; rfl
        have hne0 : ((h.kind.toNat : Int) != 0) = true := by rw [hj]; rfl
        clear hj h0 h1 h2 h3 h4 h5 HM4 hkr
        have hget := rd3.get kSize
        have f6 := bH.frozen 6
        cases htk : t kSize with
        | some pv =>
          obtain ⟨pt, szN⟩ := pv
          have hsn := (hTL kSize _ htk).2
          have HSZ : Hid (szO true t h = szN) := Lib.hid (by rw [szO, if_pos rfl, orN, htk])
          rw [htk] at hget
          have hget2 : (Instr.lookup 55 (.map (some mf)) (.string ⟨#[115, 105, 122, 101]⟩) true).run Tryz.prog W3 = .ok (.tuple #[.agg #[.string (bs pt), .int .i64 (szN : Int)], .bool true]) W3 := hget
          have f6a := (bH.below ((Below.refl W3.heap.size W3).alloc (Nat.le_refl _) (.cells #[.string (bs pt), .int .i64 (szN : Int)] 90)) bH.lt).frozen 6
          have c6a := (bH.below ((Below.refl W3.heap.size W3).alloc (Nat.le_refl _) (.cells #[.string (bs pt), .int .i64 (szN : Int)] 90)) bH.lt).cell 6
          simp at c6a
          clear hget htk
          go_upto_region 29 with fail
          have hbf : Below W3.heap.size W3 (W3.alloc (.cells #[.string (bs pt), .int .i64 (szN : Int)] 90)) := (Below.refl _ _).alloc (Nat.le_refl _) _
          have rda := rd3.below hbf
          have bHa := bH.below hbf bH.lt
          have hkH : Kept (fun k => k = gH) (W3.alloc (.cells #[.string (bs pt), .int .i64 (szN : Int)] 90)) ((W3.alloc (.cells #[.string (bs pt), .int .i64 (szN : Int)] 90)).setCell ⟨gH, 6, none⟩ (.int .i64 (szN : Int))) := (Kept.refl _ _).setCell (p := ⟨gH, 6, none⟩) _ fun _ => rfl
          have hbw2 : Below w.heap.size w ((W3.alloc (.cells #[.string (bs pt), .int .i64 (szN : Int)] 90)).setCell ⟨gH, 6, none⟩ (.int .i64 (szN : Int))) := (hbw.trans (hbf.mono hbw.size)).setCell hgH _
          have rdf := hrd.below hbw2
          have hkf : Kept (BX gr mf lv pv) w ((W3.alloc (.cells #[.string (bs pt), .int .i64 (szN : Int)] 90)).setCell ⟨gH, 6, none⟩ (.int .i64 (szN : Int))) := Kept.of_below hbw2 _
          have bHf : Blk ((W3.alloc (.cells #[.string (bs pt), .int .i64 (szN : Int)] 90)).setCell ⟨gH, 6, none⟩ (.int .i64 (szN : Int))) gH 43 #[.string (bs h.name), .string (bs h.pfx), .string (bs h.link), .int .i64 (h.mode : Int), .int .i64 (h.uid : Int), .int .i64 (h.gid : Int), .int .i64 (szO true t h : Int), .int .i64 (h.mtime : Int), .int .u8 (h.kind.toNat : Int), .string (bs h.owner), .string (bs h.group)] := by
            have := bHa.set (u := .int .i64 (szN : Int)) 6
            rw [HSZ.out]
            simpa using this
          clear rda bHa hkH hbw2 hbf f6a c6a hget2 y0 y1 y2 y3 y4 y5 y6 y7 y8 y9 y10 f6
          generalize (W3.alloc (.cells #[.string (bs pt), .int .i64 (szN : Int)] 90)).setCell ⟨gH, 6, none⟩ (.int .i64 (szN : Int)) = WF at rdf hkf bHf ⊢
          have z6 : WF.cell? ⟨gH, 6, none⟩ = some (.int .i64 (szN : Int)) := by have := bHf.cell 6; rw [HSZ.out] at this; simpa using this
          have z8 : WF.cell? ⟨gH, 8, none⟩ = some (.int .u8 (h.kind.toNat : Int)) := by have := bHf.cell 8; simpa using this
          by_cases hz : 0 < szN
          · have z1 : decide ((0 : Int) < (szN : Int)) = true := decide_eq_true (by omega)
            have HV : Hid (M = .bad 3) := Lib.hid (HB.out.trans (if_pos ⟨by rw [HKR.out]; decide, by rw [HSZ.out]; exact hz⟩))
            go_wp2_with fail
            go_ret2
            exact ⟨_, _, _, _, _, _, _, _, _, _, rfl, rdf, hkf, by rw [HV.out]; exact ⟨rfl, rfl, rfl⟩⟩
          · have z1 : decide ((0 : Int) < (szN : Int)) = false := decide_eq_false (by omega)
            have HV := Lib.hid (HB.out.trans (if_neg (fun h => hz (by rw [← HSZ.out]; exact h.2))))
            go_wp2_with fail
            go_meet
            exact ⟨true, fr, rfl, bHf, rdf, hkf, HV, Lib.hid (fun _ => by rw [HKR.out]; decide), Lib.hid (fun h => by cases h)⟩
        | none =>
          obtain ⟨szN, hsN⟩ : ∃ n, h.size = n := ⟨_, rfl⟩
          have HSZ : Hid (szO true t h = szN) := Lib.hid (by rw [szO, if_pos rfl, orN, htk, hsN])
          rw [htk] at hget
          have hget2 : (Instr.lookup 55 (.map (some mf)) (.string ⟨#[115, 105, 122, 101]⟩) true).run Tryz.prog W3 = .ok (.tuple #[.agg #[.string ⟨#[]⟩, .int .i64 0], .bool false]) W3 := hget
          rw [hsN] at y6 bH
          clear hget htk hsN
          go_upto_region 29 with fail
          have hbf : Below W3.heap.size W3 (W3.alloc (.cells #[.string ⟨#[]⟩, .int .i64 0] 90)) := (Below.refl _ _).alloc (Nat.le_refl _) _
          have rdf := rd3.below hbf
          have bHf : Blk (W3.alloc (.cells #[.string ⟨#[]⟩, .int .i64 0] 90)) gH 43 #[.string (bs h.name), .string (bs h.pfx), .string (bs h.link), .int .i64 (h.mode : Int), .int .i64 (h.uid : Int), .int .i64 (h.gid : Int), .int .i64 (szO true t h : Int), .int .i64 (h.mtime : Int), .int .u8 (h.kind.toNat : Int), .string (bs h.owner), .string (bs h.group)] := by
            have := bH.below hbf bH.lt
            rw [HSZ.out]
            exact this
          have hkf : Kept (BX gr mf lv pv) w (W3.alloc (.cells #[.string ⟨#[]⟩, .int .i64 0] 90)) := (Kept.of_below hbw _).trans (Kept.of_below hbf _)
          clear hbf hget2 y0 y1 y2 y3 y4 y5 y6 y7 y8 y9 y10 f6
          generalize W3.alloc (.cells #[.string ⟨#[]⟩, .int .i64 0] 90) = WF at rdf hkf bHf ⊢
          have z6 : WF.cell? ⟨gH, 6, none⟩ = some (.int .i64 (szN : Int)) := by have := bHf.cell 6; rw [HSZ.out] at this; simpa using this
          have z8 : WF.cell? ⟨gH, 8, none⟩ = some (.int .u8 (h.kind.toNat : Int)) := by have := bHf.cell 8; simpa using this
          by_cases hz : 0 < szN
          · have z1 : decide ((0 : Int) < (szN : Int)) = true := decide_eq_true (by omega)
            have HV : Hid (M = .bad 3) := Lib.hid (HB.out.trans (if_pos ⟨by rw [HKR.out]; decide, by rw [HSZ.out]; exact hz⟩))
            go_wp2_with fail
            go_ret2
            exact ⟨_, _, _, _, _, _, _, _, _, _, rfl, rdf, hkf, by rw [HV.out]; exact ⟨rfl, rfl, rfl⟩⟩
          · have z1 : decide ((0 : Int) < (szN : Int)) = false := decide_eq_false (by omega)
            have HV := Lib.hid (HB.out.trans (if_neg (fun h => hz (by rw [← HSZ.out]; exact h.2))))
            go_wp2_with fail
            go_meet
            exact ⟨true, fr, rfl, bHf, rdf, hkf, HV, Lib.hid (fun _ => by rw [HKR.out]; decide), Lib.hid (fun h => by cases h)⟩
      by_cases h6 : h.kind = 48
      · have hj : h.kind = 48 := h6
        have e76 : ((h.kind.toNat : Int) == 76) = false := by rw [hj]; rfl
        have e75 : ((h.kind.toNat : Int) == 75) = false := by rw [hj]; rfl
        have e120 : ((h.kind.toNat : Int) == 120) = false := by rw [hj]; rfl
        have e49 : ((h.kind.toNat : Int) == 49) = false := by rw [hj]; rfl
        have e50 : ((h.kind.toNat : Int) == 50) = false := by rw [hj]; rfl
        have e53 : ((h.kind.toNat : Int) == 53) = false := by rw [hj]; rfl
        have e48 : ((h.kind.toNat : Int) == 48) = true := by rw [hj]; rfl
        have e0 : ((h.kind.toNat : Int) == 0) = false := by rw [hj]; rfl
        have hkr : kindR h.kind = 1 := by rw [hj]; rfl
        have HB := Lib.hid (HM4.out.trans (body_own (b := bb) (t := t) (p := p) (show isTell h.kind = false by rw [hj]; rfl) (by rw [hkr]; decide)))
        have HKR := Lib.hid hkr
        have hne48 : ((h.kind.toNat : Int) != 48) = false := by rw [hj]; rfl
        have hne0 : ((h.kind.toNat : Int) != 0) = true := by rw [hj]; rfl
        clear hj h0 h1 h2 h3 h4 h5 h6 HM4 hkr
        have hget := rd3.get kSize
        have f6 := bH.frozen 6
        cases htk : t kSize with
        | some pv =>
          obtain ⟨pt, szN⟩ := pv
          have hsn := (hTL kSize _ htk).2
          have HSZ : Hid (szO true t h = szN) := Lib.hid (by rw [szO, if_pos rfl, orN, htk])
          rw [htk] at hget
          have hget2 : (Instr.lookup 55 (.map (some mf)) (.string ⟨#[115, 105, 122, 101]⟩) true).run Tryz.prog W3 = .ok (.tuple #[.agg #[.string (bs pt), .int .i64 (szN : Int)], .bool true]) W3 := hget
          have f6a := (bH.below ((Below.refl W3.heap.size W3).alloc (Nat.le_refl _) (.cells #[.string (bs pt), .int .i64 (szN : Int)] 90)) bH.lt).frozen 6
          have c6a := (bH.below ((Below.refl W3.heap.size W3).alloc (Nat.le_refl _) (.cells #[.string (bs pt), .int .i64 (szN : Int)] 90)) bH.lt).cell 6
          simp at c6a
          clear hget htk
          go_upto_region 29 with fail
          have hbf : Below W3.heap.size W3 (W3.alloc (.cells #[.string (bs pt), .int .i64 (szN : Int)] 90)) := (Below.refl _ _).alloc (Nat.le_refl _) _
          have rda := rd3.below hbf
          have bHa := bH.below hbf bH.lt
          have hkH : Kept (fun k => k = gH) (W3.alloc (.cells #[.string (bs pt), .int .i64 (szN : Int)] 90)) ((W3.alloc (.cells #[.string (bs pt), .int .i64 (szN : Int)] 90)).setCell ⟨gH, 6, none⟩ (.int .i64 (szN : Int))) := (Kept.refl _ _).setCell (p := ⟨gH, 6, none⟩) _ fun _ => rfl
          have hbw2 : Below w.heap.size w ((W3.alloc (.cells #[.string (bs pt), .int .i64 (szN : Int)] 90)).setCell ⟨gH, 6, none⟩ (.int .i64 (szN : Int))) := (hbw.trans (hbf.mono hbw.size)).setCell hgH _
          have rdf := hrd.below hbw2
          have hkf : Kept (BX gr mf lv pv) w ((W3.alloc (.cells #[.string (bs pt), .int .i64 (szN : Int)] 90)).setCell ⟨gH, 6, none⟩ (.int .i64 (szN : Int))) := Kept.of_below hbw2 _
          have bHf : Blk ((W3.alloc (.cells #[.string (bs pt), .int .i64 (szN : Int)] 90)).setCell ⟨gH, 6, none⟩ (.int .i64 (szN : Int))) gH 43 #[.string (bs h.name), .string (bs h.pfx), .string (bs h.link), .int .i64 (h.mode : Int), .int .i64 (h.uid : Int), .int .i64 (h.gid : Int), .int .i64 (szO true t h : Int), .int .i64 (h.mtime : Int), .int .u8 (h.kind.toNat : Int), .string (bs h.owner), .string (bs h.group)] := by
            have := bHa.set (u := .int .i64 (szN : Int)) 6
            rw [HSZ.out]
            simpa using this
          clear rda bHa hkH hbw2 hbf f6a c6a hget2 y0 y1 y2 y3 y4 y5 y6 y7 y8 y9 y10 f6
          generalize (W3.alloc (.cells #[.string (bs pt), .int .i64 (szN : Int)] 90)).setCell ⟨gH, 6, none⟩ (.int .i64 (szN : Int)) = WF at rdf hkf bHf ⊢
          have z6 : WF.cell? ⟨gH, 6, none⟩ = some (.int .i64 (szN : Int)) := by have := bHf.cell 6; rw [HSZ.out] at this; simpa using this
          have z8 : WF.cell? ⟨gH, 8, none⟩ = some (.int .u8 (h.kind.toNat : Int)) := by have := bHf.cell 8; simpa using this
          have HV := Lib.hid (HB.out.trans (if_neg (fun h => h.1 HKR.out)))
          go_wp2_with fail
          go_meet
          exact ⟨true, fr, rfl, bHf, rdf, hkf, HV, Lib.hid (fun _ => by rw [HKR.out]; decide), Lib.hid (fun h => by cases h)⟩
        | none =>
          obtain ⟨szN, hsN⟩ : ∃ n, h.size = n := ⟨_, rfl⟩
          have HSZ : Hid (szO true t h = szN) := Lib.hid (by rw [szO, if_pos rfl, orN, htk, hsN])
          rw [htk] at hget
          have hget2 : (Instr.lookup 55 (.map (some mf)) (.string ⟨#[115, 105, 122, 101]⟩) true).run Tryz.prog W3 = .ok (.tuple #[.agg #[.string ⟨#[]⟩, .int .i64 0], .bool false]) W3 := hget
          rw [hsN] at y6 bH
          clear hget htk hsN
          go_upto_region 29 with fail
          have hbf : Below W3.heap.size W3 (W3.alloc (.cells #[.string ⟨#[]⟩, .int .i64 0] 90)) := (Below.refl _ _).alloc (Nat.le_refl _) _
          have rdf := rd3.below hbf
          have bHf : Blk (W3.alloc (.cells #[.string ⟨#[]⟩, .int .i64 0] 90)) gH 43 #[.string (bs h.name), .string (bs h.pfx), .string (bs h.link), .int .i64 (h.mode : Int), .int .i64 (h.uid : Int), .int .i64 (h.gid : Int), .int .i64 (szO true t h : Int), .int .i64 (h.mtime : Int), .int .u8 (h.kind.toNat : Int), .string (bs h.owner), .string (bs h.group)] := by
            have := bH.below hbf bH.lt
            rw [HSZ.out]
            exact this
          have hkf : Kept (BX gr mf lv pv) w (W3.alloc (.cells #[.string ⟨#[]⟩, .int .i64 0] 90)) := (Kept.of_below hbw _).trans (Kept.of_below hbf _)
          clear hbf hget2 y0 y1 y2 y3 y4 y5 y6 y7 y8 y9 y10 f6
          generalize W3.alloc (.cells #[.string ⟨#[]⟩, .int .i64 0] 90) = WF at rdf hkf bHf ⊢
          have z6 : WF.cell? ⟨gH, 6, none⟩ = some (.int .i64 (szN : Int)) := by have := bHf.cell 6; rw [HSZ.out] at this; simpa using this
          have z8 : WF.cell? ⟨gH, 8, none⟩ = some (.int .u8 (h.kind.toNat : Int)) := by have := bHf.cell 8; simpa using this
          have HV := Lib.hid (HB.out.trans (if_neg (fun h => h.1 HKR.out)))
          go_wp2_with fail
          go_meet
          exact ⟨true, fr, rfl, bHf, rdf, hkf, HV, Lib.hid (fun _ => by rw [HKR.out]; decide), Lib.hid (fun h => by cases h)⟩
      by_cases h7 : h.kind = 0
      · have hj : h.kind = 0 := h7
        have e76 : ((h.kind.toNat : Int) == 76) = false := by rw [hj]; rfl
        have e75 : ((h.kind.toNat : Int) == 75) = false := by rw [hj]; rfl
        have e120 : ((h.kind.toNat : Int) == 120) = false := by rw [hj]; rfl
        have e49 : ((h.kind.toNat : Int) == 49) = false := by rw [hj]; rfl
        have e50 : ((h.kind.toNat : Int) == 50) = false := by rw [hj]; rfl
        have e53 : ((h.kind.toNat : Int) == 53) = false := by rw [hj]; rfl
        have e48 : ((h.kind.toNat : Int) == 48) = false := by rw [hj]; rfl
        have e0 : ((h.kind.toNat : Int) == 0) = true := by rw [hj]; rfl
        have hkr : kindR h.kind = 1 := by rw [hj]; rfl
        have HB := Lib.hid (HM4.out.trans (body_own (b := bb) (t := t) (p := p) (show isTell h.kind = false by rw [hj]; rfl) (by rw [hkr]; decide)))
        have HKR := Lib.hid hkr
        have hne48 : ((h.kind.toNat : Int) != 48) = true := by rw [hj]; rfl
        have hne0 : ((h.kind.toNat : Int) != 0) = false := by rw [hj]; rfl
        clear hj h0 h1 h2 h3 h4 h5 h6 h7 HM4 hkr
        have hget := rd3.get kSize
        have f6 := bH.frozen 6
        cases htk : t kSize with
        | some pv =>
          obtain ⟨pt, szN⟩ := pv
          have hsn := (hTL kSize _ htk).2
          have HSZ : Hid (szO true t h = szN) := Lib.hid (by rw [szO, if_pos rfl, orN, htk])
          rw [htk] at hget
          have hget2 : (Instr.lookup 55 (.map (some mf)) (.string ⟨#[115, 105, 122, 101]⟩) true).run Tryz.prog W3 = .ok (.tuple #[.agg #[.string (bs pt), .int .i64 (szN : Int)], .bool true]) W3 := hget
          have f6a := (bH.below ((Below.refl W3.heap.size W3).alloc (Nat.le_refl _) (.cells #[.string (bs pt), .int .i64 (szN : Int)] 90)) bH.lt).frozen 6
          have c6a := (bH.below ((Below.refl W3.heap.size W3).alloc (Nat.le_refl _) (.cells #[.string (bs pt), .int .i64 (szN : Int)] 90)) bH.lt).cell 6
          simp at c6a
          clear hget htk
          go_upto_region 29 with fail
          have hbf : Below W3.heap.size W3 (W3.alloc (.cells #[.string (bs pt), .int .i64 (szN : Int)] 90)) := (Below.refl _ _).alloc (Nat.le_refl _) _
          have rda := rd3.below hbf
          have bHa := bH.below hbf bH.lt
          have hkH : Kept (fun k => k = gH) (W3.alloc (.cells #[.string (bs pt), .int .i64 (szN : Int)] 90)) ((W3.alloc (.cells #[.string (bs pt), .int .i64 (szN : Int)] 90)).setCell ⟨gH, 6, none⟩ (.int .i64 (szN : Int))) := (Kept.refl _ _).setCell (p := ⟨gH, 6, none⟩) _ fun _ => rfl
          have hbw2 : Below w.heap.size w ((W3.alloc (.cells #[.string (bs pt), .int .i64 (szN : Int)] 90)).setCell ⟨gH, 6, none⟩ (.int .i64 (szN : Int))) := (hbw.trans (hbf.mono hbw.size)).setCell hgH _
          have rdf := hrd.below hbw2
          have hkf : Kept (BX gr mf lv pv) w ((W3.alloc (.cells #[.string (bs pt), .int .i64 (szN : Int)] 90)).setCell ⟨gH, 6, none⟩ (.int .i64 (szN : Int))) := Kept.of_below hbw2 _
          have bHf : Blk ((W3.alloc (.cells #[.string (bs pt), .int .i64 (szN : Int)] 90)).setCell ⟨gH, 6, none⟩ (.int .i64 (szN : Int))) gH 43 #[.string (bs h.name), .string (bs h.pfx), .string (bs h.link), .int .i64 (h.mode : Int), .int .i64 (h.uid : Int), .int .i64 (h.gid : Int), .int .i64 (szO true t h : Int), .int .i64 (h.mtime : Int), .int .u8 (h.kind.toNat : Int), .string (bs h.owner), .string (bs h.group)] := by
            have := bHa.set (u := .int .i64 (szN : Int)) 6
            rw [HSZ.out]
            simpa using this
          clear rda bHa hkH hbw2 hbf f6a c6a hget2 y0 y1 y2 y3 y4 y5 y6 y7 y8 y9 y10 f6
          generalize (W3.alloc (.cells #[.string (bs pt), .int .i64 (szN : Int)] 90)).setCell ⟨gH, 6, none⟩ (.int .i64 (szN : Int)) = WF at rdf hkf bHf ⊢
          have z6 : WF.cell? ⟨gH, 6, none⟩ = some (.int .i64 (szN : Int)) := by have := bHf.cell 6; rw [HSZ.out] at this; simpa using this
          have z8 : WF.cell? ⟨gH, 8, none⟩ = some (.int .u8 (h.kind.toNat : Int)) := by have := bHf.cell 8; simpa using this
          have HV := Lib.hid (HB.out.trans (if_neg (fun h => h.1 HKR.out)))
          go_wp2_with fail
          go_meet
          exact ⟨true, fr, rfl, bHf, rdf, hkf, HV, Lib.hid (fun _ => by rw [HKR.out]; decide), Lib.hid (fun h => by cases h)⟩
        | none =>
          obtain ⟨szN, hsN⟩ : ∃ n, h.size = n := ⟨_, rfl⟩
          have HSZ : Hid (szO true t h = szN) := Lib.hid (by rw [szO, if_pos rfl, orN, htk, hsN])
          rw [htk] at hget
          have hget2 : (Instr.lookup 55 (.map (some mf)) (.string ⟨#[115, 105, 122, 101]⟩) true).run Tryz.prog W3 = .ok (.tuple #[.agg #[.string ⟨#[]⟩, .int .i64 0], .bool false]) W3 := hget
          rw [hsN] at y6 bH
          clear hget htk hsN
          go_upto_region 29 with fail
          have hbf : Below W3.heap.size W3 (W3.alloc (.cells #[.string ⟨#[]⟩, .int .i64 0] 90)) := (Below.refl _ _).alloc (Nat.le_refl _) _
          have rdf := rd3.below hbf
          have bHf : Blk (W3.alloc (.cells #[.string ⟨#[]⟩, .int .i64 0] 90)) gH 43 #[.string (bs h.name), .string (bs h.pfx), .string (bs h.link), .int .i64 (h.mode : Int), .int .i64 (h.uid : Int), .int .i64 (h.gid : Int), .int .i64 (szO true t h : Int), .int .i64 (h.mtime : Int), .int .u8 (h.kind.toNat : Int), .string (bs h.owner), .string (bs h.group)] := by
            have := bH.below hbf bH.lt
            rw [HSZ.out]
            exact this
          have hkf : Kept (BX gr mf lv pv) w (W3.alloc (.cells #[.string ⟨#[]⟩, .int .i64 0] 90)) := (Kept.of_below hbw _).trans (Kept.of_below hbf _)
          clear hbf hget2 y0 y1 y2 y3 y4 y5 y6 y7 y8 y9 y10 f6
          generalize W3.alloc (.cells #[.string ⟨#[]⟩, .int .i64 0] 90) = WF at rdf hkf bHf ⊢
          have z6 : WF.cell? ⟨gH, 6, none⟩ = some (.int .i64 (szN : Int)) := by have := bHf.cell 6; rw [HSZ.out] at this; simpa using this
          have z8 : WF.cell? ⟨gH, 8, none⟩ = some (.int .u8 (h.kind.toNat : Int)) := by have := bHf.cell 8; simpa using this
          have HV := Lib.hid (HB.out.trans (if_neg (fun h => h.1 HKR.out)))
          go_wp2_with fail
          go_meet
          exact ⟨true, fr, rfl, bHf, rdf, hkf, HV, Lib.hid (fun _ => by rw [HKR.out]; decide), Lib.hid (fun h => by cases h)⟩
      have e76 : ((h.kind.toNat : Int) == 76) = false := kind_ne h0
      have e75 : ((h.kind.toNat : Int) == 75) = false := kind_ne h1
      have e120 : ((h.kind.toNat : Int) == 120) = false := kind_ne h2
      have e49 : ((h.kind.toNat : Int) == 49) = false := kind_ne h3
      have e50 : ((h.kind.toNat : Int) == 50) = false := kind_ne h4
      have e53 : ((h.kind.toNat : Int) == 53) = false := kind_ne h5
      have e48 : ((h.kind.toNat : Int) == 48) = false := kind_ne h6
      have e0 : ((h.kind.toNat : Int) == 0) = false := kind_ne h7
      have hti : isTell h.kind = false := decide_eq_false (by rintro (h | h | h) <;> contradiction)
      have hk0 : kindR h.kind = 0 := by
        rw [kindR, if_neg (by rintro (h | h) <;> contradiction), if_neg h5, if_neg h4, if_neg h3]
      have HV := Lib.hid (HM4.out.trans (body_none (b := bb) (t := t) (p := p) hti hk0))
      have rdf := rd3
      have hkf : Kept (BX gr mf lv pv) w W3 := Kept.of_below hbw _
      clear HM4 hti hk0 h0 h1 h2 h3 h4 h5 h6 h7
      go_wp2_with fail
      go_ret2
      exact ⟨_, _, _, _, _, _, _, _, _, _, rfl, rdf, hkf, by rw [HV.out]; exact ⟨rfl, rfl, rfl⟩⟩
    case rest =>
      clear bH hbw y0 y1 y2 y3 y4 y5 y6 y7 y8 y9 y10 HM4 hsc1
      obtain ⟨own, fr', rfl, bH, rd, hkw, HM5, HK0, HFR⟩ := hcut
      have hszl : szO own t h ≤ 4611686018427387904 := by
        unfold szO
        split
        · unfold orN
          cases htk : t kSize with
          | some pv => exact (hTL kSize pv htk).2
          | none => exact Nat.le_of_lt hsz
        · exact Nat.le_of_lt hsz
      obtain ⟨sz, HSZ⟩ : ∃ x, Hid (szO own t h = x) := ⟨_, Lib.hid rfl⟩
      rw [HSZ.out] at bH HM5 hszl
      have z6 : wc.cell? ⟨gH, 6, none⟩ = some (.int .i64 (sz : Int)) := by have := bH.cell 6; simpa using this
      have r0 : wc.cell? ⟨gr, 0, none⟩ = some (.slice Ab bb.length capb) := by have := rd.blk.cell 0; simpa using this
      have w3 : IntKind.i64.wrap ((bb.length : Int) - (p1 : Int)) = (bb.length : Int) - (p1 : Int) := i64_in _ (by omega) (by have := HP1.out; omega)
      go_upto_region 32 with fail
      refine wp_region_plan (fun W => W.cell? ⟨gH, 6, none⟩ = some (.int .i64 (sz : Int)) ∧ W.cell? ⟨gr, 0, none⟩ = some (.slice Ab bb.length capb)) [(false, 0), (false, 1), (false, 2), (false, 3), (false, 4), (false, 5), (false, 6), (false, 7), (false, 8), (false, 9)] (by kernel_rfl) (by kernel_rfl) (⟨z6, r0⟩) ?_
      simp only [planOps, List.map, List.getD_cons_zero, List.getD_cons_succ]
      iterate 10 ((first | refine plan_quiet (v := ?_) rfl rfl (fun w' hw' => ?_) ?_ | refine plan_calm (v := ?_) (tt_of) rfl (fun w' hw' => ?_) ?_); rotate_left; (focus (go_simp <;> (first | with_reducible rfl | (rw [if_neg (by simp [undef])]; try rfl) | omega))); simp only [Act.put, List.setIfInBounds_toArray, List.set_cons_zero, List.set_cons_succ])
      refine plan_end ?_
      have hbd := (Below.refl wc.heap.size wc).drew
      have rd := rd.below hbd
      have bH := bH.below hbd bH.lt
      have hkw := hkw.trans (Kept.of_below hbd _)
      clear z6 r0 hbd
      generalize wc.drew = WA at rd bH hkw ⊢
      by_cases hs1 : bb.length < p1 + sz
      · have t2 : decide ((bb.length : Int) - (p1 : Int) < (sz : Int)) = true := decide_eq_true (by omega)
        have HV : Hid (M = .bad 2) := Lib.hid (HM5.out.trans (if_pos (by rw [shortO, decide_eq_true (show bb.length < p + 512 + sz by rw [← HP1.out]; exact hs1)]; rfl)))
        clear HM5 HK0 HFR
        go_wp2_with fail
        go_ret2
        exact ⟨_, _, _, _, _, _, _, _, _, _, rfl, rd, hkw, by rw [HV.out]; exact ⟨rfl, rfl, rfl⟩⟩
      have t2 : decide ((bb.length : Int) - (p1 : Int) < (sz : Int)) = false := decide_eq_false (by omega)
      obtain ⟨nx, HNX⟩ : ∃ x, Hid (x = p1 + upB sz) := ⟨_, Lib.hid rfl⟩
      have hup : upB sz = (sz + 511) / 512 * 512 := rfl
      have wa : IntKind.i64.wrap ((sz : Int) + 512) = (sz : Int) + 512 := i64_in _ (by omega) (by omega)
      have wb : IntKind.i64.wrap ((sz : Int) + 512 - 1) = (sz : Int) + 512 - 1 := i64_in _ (by omega) (by omega)
      have z6 : WA.cell? ⟨gH, 6, none⟩ = some (.int .i64 (sz : Int)) := by have := bH.cell 6; simpa using this
      have r0 : WA.cell? ⟨gr, 0, none⟩ = some (.slice Ab bb.length capb) := by have := rd.blk.cell 0; simpa using this
      go_upto_region 35 with fail
      have hnx : (p1 : Int) + ((sz : Int) + 512 - 1) / 512 * 512 = (nx : Int) := by rw [HNX.out, hup]; omega
      rw [hnx]
      by_cases hs2 : bb.length < nx
      · have t3 : decide ((bb.length : Int) < (nx : Int)) = true := decide_eq_true (by omega)
        have t3b : bb.length < nx := hs2
        have HV : Hid (M = .bad 2) := Lib.hid (HM5.out.trans (if_pos (by rw [shortO, decide_eq_true (show bb.length < p + 512 + upB sz by rw [← HP1.out, ← HNX.out]; exact hs2), Bool.or_true])))
        clear HM5 HK0 HFR
        go_wp2_with fail
        go_ret2
        exact ⟨_, _, _, _, _, _, _, _, _, _, rfl, rd, hkw, by rw [HV.out]; exact ⟨rfl, rfl, rfl⟩⟩
      have t3 : decide ((bb.length : Int) < (nx : Int)) = false := decide_eq_false (by omega)
      have t3b : ¬ bb.length < nx := hs2
      have HM6 := Lib.hid (HM5.out.trans (if_neg (by rw [shortO, decide_eq_false (show ¬ bb.length < p + 512 + sz by rw [← HP1.out]; exact hs1), decide_eq_false (show ¬ bb.length < p + 512 + upB sz by rw [← HP1.out, ← HNX.out]; exact hs2)]; simp)))
      obtain ⟨p2, HP2⟩ : ∃ x, Hid (x = p1 + sz) := ⟨_, Lib.hid rfl⟩
      have w5 : IntKind.i64.wrap ((p1 : Int) + (sz : Int)) = (p2 : Int) := by rw [i64_in _ (by omega) (by omega), HP2.out]; omega
      obtain ⟨A2, cap2, hsc2, hsb2⟩ := Sl.fld (P := Tryz.prog) hb 25 5 Tryz.underlying25 hu8 p1 p2 (by rw [HP2.out]; omega) (by rw [HP2.out]; omega)
      have e2 : p2 - p1 = sz := by rw [HP2.out]; omega
      rw [e2] at hsc2 hsb2
      have HFD : Hid (fldB bb p1 sz = fldB bb (p + 512) sz) := Lib.hid (by rw [HP1.out])
      obtain ⟨dd, HDD⟩ : ∃ x, Hid (fldB bb p1 sz = x) := ⟨_, Lib.hid rfl⟩
      have hddl : dd.length = sz := by rw [← HDD.out]; exact fldB_len (by omega)
      have HOUT : Hid (M = outO own bb t p h sz) := HM6
      rw [HDD.out] at hsb2
      clear HM5 HM6 hs1 hs2 t2 wa wb hnx hup
      go_upto_region 37 with fail
      refine wp_region_plan (fun W => W.cell? ⟨gH, 6, none⟩ = some (.int .i64 (sz : Int)) ∧ W.cell? ⟨gr, 0, none⟩ = some (.slice Ab bb.length capb)) [(false, 0), (false, 1), (false, 2), (false, 3), (false, 4), (false, 5), (false, 6), (false, 7), (false, 8), (false, 9), (false, 10)] (by kernel_rfl) (by kernel_rfl) (⟨z6, r0⟩) ?_
      simp only [planOps, List.map, List.getD_cons_zero, List.getD_cons_succ]
      iterate 11 ((first | refine plan_quiet (v := ?_) rfl rfl (fun w' hw' => ?_) ?_ | refine plan_calm (v := ?_) (tt_of) rfl (fun w' hw' => ?_) ?_); rotate_left; (focus (go_simp <;> (first | with_reducible rfl | (rw [if_neg (by simp [undef])]; try rfl) | omega))); simp only [Act.put, List.setIfInBounds_toArray, List.set_cons_zero, List.set_cons_succ])
      refine plan_end ?_
      have hbd := (Below.refl WA.heap.size WA).drew
      have rd := rd.below hbd
      have bH := bH.below hbd bH.lt
      have hkw := hkw.trans (Kept.of_below hbd _)
      clear z6 r0 hbd hsc2 w5
      generalize WA.drew = WB at rd bH hkw ⊢
      have hsd : Sl 1 Rbyte (fun k => w0.heap.size ≤ k) w0 (.slice A2 sz cap2) dd := hsb2
      cases own with
      | false =>
        have hfr := HFR.out rfl
        have htl := ttell_any rd h.kind dd (.slice A2 sz cap2) hsd (by omega)
        have HO2 : Hid (M = if (tellS t h.kind dd).1 = 0 then .tell (tellS t h.kind dd).2 nx else .bad (tellS t h.kind dd).1) := Lib.hid (by
          rw [HOUT.out, outO, if_neg (by decide), ← HFD.out, HDD.out, HNX.out, HP1.out])
        have z8 : WB.cell? ⟨gH, 8, none⟩ = some (.int .u8 (h.kind.toNat : Int)) := by have := bH.cell 8; simpa using this
        generalize tellS t h.kind dd = TT at htl HO2
        obtain ⟨tc, tt⟩ := TT
        clear HOUT HFD HK0 HFR
        go_wp2_with (go_at_call 48; refine htl.mono ?_; clear htl; rintro r WC ⟨t', rfl, rdC, hkC, htC⟩)
        go_ret2
        refine ⟨_, _, _, _, _, _, _, _, _, _, rfl, rdC, hkw.trans (hkC.mono fun k _ e => .inr (.inl e)), ?_⟩
        rw [HO2.out]
        by_cases hc0 : tc = 0
        · rw [if_pos hc0]
          exact ⟨rfl, hc0, rfl, rfl, htC hc0, hfr⟩
        · rw [if_neg hc0]
          exact ⟨rfl, rfl, rfl⟩
      | true =>
        have hk0 := HK0.out rfl
        have rD := rd.below ((Below.refl WB.heap.size WB).drew)
        have hft : (firstT t [kPth, [76]] (nameR h)).length ≤ 1000000000 := by
          have hnl := name_len hhl1 hhl2
          rw [firstT]
          cases htk : t kPth with
          | some pv0 => have := (hTL kPth pv0 htk).1; simp only; omega
          | none =>
            simp only [firstT]
            cases htk2 : t [76] with
            | some pv0 => have := (hTL [76] pv0 htk2).1; simp only; omega
            | none => simp only; omega
        have hent := tentry_any rD h (sz : Int) hhl1 hhl2 hk0 dd (.slice A2 sz cap2) hsd (by omega) hft
        have HE1 : Hid (M = .ent (entS t h dd) nx) := Lib.hid (by rw [HOUT.out, outO, if_pos rfl, ← HFD.out, HDD.out, HNX.out, HP1.out])
        obtain ⟨E, HEE⟩ : ∃ x, Hid (entS t h dd = x) := ⟨_, Lib.hid rfl⟩
        have HED : Hid (E.data = dd) := Lib.hid (by rw [← HEE.out]; rfl)
        rw [HEE.out] at hent HE1
        obtain ⟨ep, ek, em, eu, eg, eo, eq, et, el, ed⟩ := E
        have hed : ed = dd := HED.out
        subst hed
        have hent2 : Calls Tryz.prog 47 #[.pointer (some ⟨gr, 0, none⟩), .agg #[.string (bs h.name), .string (bs h.pfx), .string (bs h.link), .int .i64 (h.mode : Int), .int .i64 (h.uid : Int), .int .i64 (h.gid : Int), .int .i64 (sz : Int), .int .i64 (h.mtime : Int), .int .u8 (h.kind.toNat : Int), .string (bs h.owner), .string (bs h.group)], .bool h.gnu, .slice A2 sz cap2] WB.drew (fun r w' => ∃ dv, r = .returned (.agg #[.string (bs ep), .int .i64 ek, .int .i64 em, .int .i64 eu, .int .i64 eg, .string (bs eo), .string (bs eq), .int .i64 et, .string (bs el), dv]) ∧ Below WB.drew.heap.size WB.drew w' ∧ ∃ B, WB.drew.heap.size ≤ B ∧ OwnL 1 Rbyte 5 B nowhere w' dv ed) := hent
        clear hddl hent HEE HED HOUT HFD HK0 HFR hft rD hsd HDD HSZ
        obtain ⟨y0, y1, y2, y3, y4, y5, y6, y7, y8, y9, y10⟩ := cells11 bH
        have r1 : WB.cell? ⟨gr, 1, none⟩ = some lv := by have := rd.blk.cell 1; simpa using this
        go_upto_region 39 with fail
        refine wp_region_plan2 (wkD [159]) (fun W => W.cell? ⟨gr, 1, none⟩ = some lv ∧ W.cell? ⟨gH, 0, none⟩ = some (.string (bs h.name)) ∧ W.cell? ⟨gH, 1, none⟩ = some (.string (bs h.pfx)) ∧ W.cell? ⟨gH, 2, none⟩ = some (.string (bs h.link)) ∧ W.cell? ⟨gH, 3, none⟩ = some (.int .i64 (h.mode : Int)) ∧ W.cell? ⟨gH, 4, none⟩ = some (.int .i64 (h.uid : Int)) ∧ W.cell? ⟨gH, 5, none⟩ = some (.int .i64 (h.gid : Int)) ∧ W.cell? ⟨gH, 6, none⟩ = some (.int .i64 (sz : Int)) ∧ W.cell? ⟨gH, 7, none⟩ = some (.int .i64 (h.mtime : Int)) ∧ W.cell? ⟨gH, 8, none⟩ = some (.int .u8 (h.kind.toNat : Int)) ∧ W.cell? ⟨gH, 9, none⟩ = some (.string (bs h.owner)) ∧ W.cell? ⟨gH, 10, none⟩ = some (.string (bs h.group))) (fun _ => True) (fun _ _ => trivial) [(false, 0), (false, 1), (false, 2), (false, 3), (false, 4), (false, 5), (false, 6), (false, 7), (false, 8), (true, 9), (true, 10), (true, 11), (false, 12), (false, 13), (true, 14)] (by kernel_rfl) (by kernel_rfl) (⟨r1, y0, y1, y2, y3, y4, y5, y6, y7, y8, y9, y10⟩) ?_
        simp only [planOps, List.map, List.getD_cons_zero, List.getD_cons_succ]
        iterate 9 ((first | refine plan_quiet (v := ?_) rfl rfl (fun w' hw' => ?_) ?_ | refine plan_calm (v := ?_) (fun _ _ => trivial) rfl (fun w' hw' => ?_) ?_); rotate_left; (focus (go_simp <;> (first | with_reducible rfl | (rw [if_neg (by simp [undef])]; try rfl) | omega))); simp only [Act.put, List.setIfInBounds_toArray, List.set_cons_zero, List.set_cons_succ])
        refine plan_loud rfl (fun K hK => ?_)
        go_simp
        refine hent2.mono ?_
        rintro r WC ⟨dv, rfl, hbC0, B, hB, how⟩
        have hbC : Below WB.heap.size WB WC := ((Below.refl WB.heap.size WB).drew).trans hbC0
        go_simp
        have KK := Kept.of_below hbC nowhere
        obtain ⟨Av, cv, hdv⟩ := how.form
        subst hdv
        have hyC := cells11 (bH.below hbC bH.lt)
        have r1C := KK.cell r1 fun h => h
        refine hK _ _ (⟨r1C, hyC⟩) ?_
        clear hK K
        (try simp only [Act.put, List.setIfInBounds_toArray, List.set_cons_zero, List.set_cons_succ])
        refine plan_loud rfl (fun K hK => ?_)
        have rdC := rd.below hbC
        have hkC := hkw.trans (Kept.of_below hbC _)
        have bHC := bH.below hbC bH.lt
        have hBB : WB.heap.size ≤ B := hB
        have hown : ∀ bb, (Value.slice Av ed.length cv).ownBlock = some bb → w0.heap.size ≤ bb := fun bb hbb => Nat.le_trans rd.bel.size (Nat.le_trans hBB (how.typed hbb).1)
        have hslC : Sl 1 Rbyte (BX gr mf lv pv) WC (.slice Av ed.length cv) ed := (how.to free_byte (Y := BX gr mf lv pv) (fun k hk h => by have := rd.bx_lt h; have := (how.typed hk).1; omega)).sl good_byte
        have HOWN := Lib.hid hown
        have HSLC := Lib.hid hslC
        clear hown hslC
        clear hent2 hbC0 hbC KK r1 rd bH hkw hB how y0 y1 y2 y3 y4 y5 y6 y7 y8 y9 y10 hBB
        go_simp
        have hbA : Below WC.heap.size WC (WC.alloc (.cells #[.string (bs ep), .int .i64 ek, .int .i64 em, .int .i64 eu, .int .i64 eg, .string (bs eo), .string (bs eq), .int .i64 et, .string (bs el), .slice Av ed.length cv] tE)) := (Below.refl _ WC).alloc (Nat.le_refl _) _
        have hyA := cells11 (bHC.below hbA bHC.lt)
        have r1A := (Kept.of_below hbA nowhere).cell r1C fun h => h
        refine hK _ _ (⟨r1A, hyA⟩) ?_
        clear hK K
        (try simp only [Act.put, List.setIfInBounds_toArray, List.set_cons_zero, List.set_cons_succ])
        refine plan_loud rfl (fun K hK => ?_)
        have rdA := rdC.below hbA
        have bS : Blk (WC.alloc (.cells #[.string (bs ep), .int .i64 ek, .int .i64 em, .int .i64 eu, .int .i64 eg, .string (bs eo), .string (bs eq), .int .i64 et, .string (bs el), .slice Av ed.length cv] tE)) WC.heap.size tE #[.string (bs ep), .int .i64 ek, .int .i64 em, .int .i64 eu, .int .i64 eg, .string (bs eo), .string (bs eq), .int .i64 et, .string (bs el), .slice Av ed.length cv] := Blk.new WC _ _
        have bHA := bHC.below hbA bHC.lt
        have hslA := Below.sl good_byte hbA HSLC.out
        have hown := HOWN.out
        have hkA : Kept (BX gr mf lv pv) w (WC.alloc (.cells #[.string (bs ep), .int .i64 ek, .int .i64 em, .int .i64 eu, .int .i64 eg, .string (bs eo), .string (bs eq), .int .i64 et, .string (bs el), .slice Av ed.length cv] tE)) := hkC.trans (Kept.of_below hbA _)
        clear hyC r1C hbA rdC hkC bHC HSLC HOWN
        generalize WC.alloc (.cells #[.string (bs ep), .int .i64 ek, .int .i64 em, .int .i64 eu, .int .i64 eg, .string (bs eo), .string (bs eq), .int .i64 et, .string (bs el), .slice Av ed.length cv] tE) = WA' at rdA bS bHA hslA hkA r1A hyA ⊢
        generalize WC.heap.size = gS at bS ⊢
        refine wp_appendEO (v := lv) (M := [⟨ep, ek, em, eu, eg, eo, eq, et, el, ed⟩]) (g := fun _ => (.slice Av ed.length cv)) _ _ rfl rfl rdA.eo rfl (fun h => by cases h) (fun _ => ⟨⟨gS, 0, none⟩, rfl, fun j u hu => by
          have hu2 : (entC ⟨ep, ek, em, eu, eg, eo, eq, et, el, ed⟩ (.slice Av ed.length cv))[j]? = some u := by simpa [ofC] using hu
          rw [Addr.add_lit, Nat.zero_add, bS.cell]
          show (List.toArray _)[j]? = _
          rw [List.getElem?_toArray]
          exact hu2⟩) (fun j hj => by
            have hj0 : j = 0 := by simp at hj; exact hj
            subst hj0
            exact hslA.mono good_byte (by omega) fun k _ e => .inr (.inr (.inl e))) (by simp; omega) rdA.bel.size ?_
        intro v' W' hE' hk' hob'
        obtain ⟨A', c', rfl⟩ := own_form hE'.row
        have bH' := hk'.blk bHA (own_notblk rdA.row bHA (by decide))
        refine hK _ _ (⟨hk'.cell r1A (own_notblk rdA.row rdA.blk (by decide)), cells11 bH'⟩) ?_
        clear hK K
        (try simp only [Act.put, List.setIfInBounds_toArray, List.set_cons_zero, List.set_cons_succ])
        iterate 2 ((first | refine plan_quiet (v := ?_) rfl rfl (fun w' hw' => ?_) ?_ | refine plan_calm (v := ?_) (fun _ _ => trivial) rfl (fun w' hw' => ?_) ?_); rotate_left; (focus (go_simp <;> (first | with_reducible rfl | (rw [if_neg (by simp [undef])]; try rfl) | omega))); simp only [Act.put, List.setIfInBounds_toArray, List.set_cons_zero, List.set_cons_succ])
        refine plan_last rfl (by kernel_rfl) (by kernel_rfl) (fun K hK => ?_)
        have b1 := hk'.blk rdA.blk (own_notblk rdA.row rdA.blk (by decide))
        have r1' : W'.cell? ⟨gr, 1, none⟩ = some lv := by have := b1.cell 1; simpa using this
        have fr1 := b1.frozen 1
        have rd7 := rdA.app hE' hk' hob' hslA hown
        rw [show (L ++ [(⟨ep, ek, em, eu, eg, eo, eq, et, el, ed⟩ : En)]).length = L.length + 1 by simp] at rd7
        have hk7 : Kept (BX gr mf lv pv) w (W'.setCell ⟨gr, 1, none⟩ (.slice A' (L ++ [(⟨ep, ek, em, eu, eg, eo, eq, et, el, ed⟩ : En)]).length c')) := (hkA.trans (hk'.mono fun k _ h => .inr (.inr (.inl h)))).setCell _ fun _ => .inl rfl
        rw [show (L ++ [(⟨ep, ek, em, eu, eg, eo, eq, et, el, ed⟩ : En)]).length = L.length + 1 by simp] at hk7
        clear hkA r1A hyA
        go_simp
        refine hK _ _ (trivial) ?_
        clear hK K
        (try simp only [Act.put, List.setIfInBounds_toArray, List.set_cons_zero, List.set_cons_succ])
        refine plan_end ?_
        clear r1' fr1 b1 bH' hE' hk' hob' rdA bS bHA hslA
        (try rw [show (L ++ [(⟨ep, ek, em, eu, eg, eo, eq, et, el, ed⟩ : En)]).length = L.length + 1 by simp])
        generalize W'.setCell ⟨gr, 1, none⟩ (.slice A' (L.length + 1) c') = W7 at rd7 hk7 ⊢
        have wp5 : IntKind.i64.wrap ((p1 : Int) - 512) = (p : Int) := by rw [i64_in _ (by omega) (by omega), HP1.out]; omega
        have r72 : W7.cell? ⟨gr, 2, none⟩ = some pv := by have := rd7.blk.cell 2; simpa using this
        obtain ⟨Ap, capp, hpv⟩ := own_form rd7.pl
        subst hpv
        have hbA : Below W7.heap.size W7 (W7.alloc (.cells #[.int .i64 p] 3)) := (Below.refl _ W7).alloc (Nat.le_refl _) _
        have rd8 := rd7.below hbA
        have bP := Blk.new W7 3 #[.int .i64 p]
        have hk8' : Kept (BX gr mf lv (.slice Ap PL.length capp)) w (W7.alloc (.cells #[.int .i64 p] 3)) := hk7.trans (Kept.of_below hbA _)
        clear hbA rd7
        go_upto_region 41 with (at_builtin; refine wpList_place rfl _ _ rfl rfl rd8 p _ 1 rfl bP (by omega) ?_; intro v' W8 ho8 hk8 hob8; obtain ⟨A9, c9, rfl⟩ := own_form ho8; have b8 := hk8.blk rd8.blk (own_notblk rd8.pl rd8.blk (by decide)); have g2 : W8.cell? ⟨gr, 2, none⟩ = some (.slice Ap PL.length capp) := (by have := b8.cell 2; simpa using this); have fr2 := b8.frozen 2)
        have rd9 := rd8.place ho8 hk8 hob8
        rw [show (PL ++ [p]).length = PL.length + 1 by simp] at rd9
        have hk9 : Kept (BX gr mf lv (.slice Ap PL.length capp)) w (W8.setCell ⟨gr, 2, none⟩ (.slice A9 (PL.length + 1) c9)) := (hk8'.trans (hk8.mono fun k _ h => .inr (.inr (.inr h)))).setCell _ fun _ => .inl rfl
        clear hk7 hk8' rd8 bP ho8 hk8 hob8 b8 g2 fr2 r72 wp5
        (try rw [show (PL ++ [p]).length = PL.length + 1 by simp])
        generalize W8.setCell ⟨gr, 2, none⟩ (.slice A9 (PL.length + 1) c9) = W9 at rd9 hk9 ⊢
        have hmm := @run_makeMap Tryz.prog
        have hbM : Below W9.heap.size W9 (W9.alloc (.map #[] 0)) := (Below.refl _ W9).alloc (Nat.le_refl _) _
        have bM := rd9.blk.below hbM rd9.blk.lt
        have c3 := bM.cell 3
        simp at c3
        have f3 := bM.frozen 3
        have rdF := rd9.fresh hbM (heap_alloc_new W9 (.map #[] 0)) (Nat.le_refl _)
        have hkF : Kept (BX gr mf lv (.slice Ap PL.length capp)) w ((W9.alloc (.map #[] 0)).setCell ⟨gr, 3, none⟩ (.map (some W9.heap.size))) := (hk9.trans (Kept.of_below hbM _)).setCell _ fun _ => .inl rfl
        clear hbM bM
        go_wp2_with fail
        go_ret2
        exact ⟨_, _, _, _, _, _, _, _, _, _, rfl, rdF, hkF, by rw [HE1.out]; exact ⟨rfl, rfl, rfl, rfl, rfl⟩⟩
end Go.Proofs.YtpheifdpjcppdaaGreatDoor
