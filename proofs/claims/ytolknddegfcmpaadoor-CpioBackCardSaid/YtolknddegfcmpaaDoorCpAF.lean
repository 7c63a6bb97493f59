/- The walk of cpio's fill. Maps from texts to pointers, in memory. The walk of cpio's check. Printed by gen_cpa.py. -/
import Derived.Test.YtolknddegfcmpaaDoorPlaF
import Derived.Test.YtolknddegfcmpaaDoorMapU
import Derived.Test.YtolknddegfcmpaaDoorEnJL
namespace Go.Proofs.YtolknddegfcmpaaDoor
open Go.RowKit
def filN (n : Nat) : Nat := (4 - n % 4) % 4
theorem pfill_any (n : Nat) (w : World) (h : n ≤ 1000000000000) : Calls Tryd.prog 48 #[.int .i64 (n : Int)] w fun e w' => e = .returned (.int .i64 (filN n : Int)) ∧ w = w' := by
  have h1 : (n : Int).tmod 4 = ((n % 4 : Nat) : Int) := by rw [Int.tmod_eq_emod_of_nonneg (by omega)]; omega
  have hlt : n % 4 < 4 := Nat.mod_lt _ (by omega)
  have HF : Hid (filN n = (4 - n % 4) % 4) := Lib.hid rfl
  generalize filN n = r at HF
  generalize hm : n % 4 = m at h1 hlt HF
  have h2 : IntKind.i64.wrap (4 - (m : Int)) = 4 - (m : Int) := i64_in _ (by omega) (by omega)
  have h3 : (4 - (m : Int)).tmod 4 = (r : Int) := by rw [Int.tmod_eq_emod_of_nonneg (by omega), HF.out]; omega
  have h4 : (n : Int) % 4 = (m : Int) := by omega
  have h5 : (4 - (m : Int)) % 4 = (r : Int) := by rw [HF.out]; omega
  go_enter Tryd.func48, Tryd.ntmps48
  go_wp2_with fail
  go_ret
  exact ⟨by first | rfl | (simp [h5]), rfl⟩
end Go.Proofs.YtolknddegfcmpaaDoor
namespace Go.Proofs.YtolknddegfcmpaaDoor
open Go.RowKit Go.WideMaps Go.Maps
/-- How a pointer in a map reads. -/
def ptrE (v : Value) : Option (DataW Unit × List MemPlace) := match v with
  | .pointer none => some (.lit (.int .i64 (-1)), [])
  | .pointer (some ⟨p, 0, none⟩) => some (.lit (.int .i64 (p : Int)), [])
  | _ => none
theorem ptrE_inv {v : Value} {c : Int} {ps : List MemPlace} (h : ptrE v = some (.lit (.int .i64 c), ps)) : (v = .pointer none ∧ c = -1) ∨ ∃ p : Nat, v = .pointer (some ⟨p, 0, none⟩) ∧ c = (p : Int) := by
  unfold ptrE at h
  split at h
  · have := (Lit.int.inj (DataW.lit.inj (congrArg Prod.fst (Option.some.inj h)))).2
    exact .inl ⟨rfl, this.symm⟩
  · have := (Lit.int.inj (DataW.lit.inj (congrArg Prod.fst (Option.some.inj h)))).2
    exact .inr ⟨_, rfl, this.symm⟩
  · cases h
theorem zeroP (w : World) : (zeroValue 52).run Tryd.prog w = .ok (.pointer none) w := by kernel_rfl
/-- Block b is a map of at most n texts; at a text stands the pointer that m says. -/
def PMap (w : World) (b n : Nat) (m : List UInt8 → Option Nat) : Prop :=
  ∃ D : DataW Unit, w.ownsMap Tryd.prog 9 ptrE b n D ∧ IsMap D ∧ ∀ key, has D (.string key) = (m key).isSome ∧ ∀ x, m key = some x → D.atKey (.string key) (.lit (.int .i64 (-1))) = .lit (.int .i64 (x : Int))
def ptrV : Option Nat → Value
  | none => .pointer none
  | some p => .pointer (some ⟨p, 0, none⟩)
theorem PMap.made (w : World) : PMap (w.alloc (.map #[] 0)) w.heap.size 0 (fun _ => none) :=
  ⟨.map [], World.ownsMap_made _ _ _ _, isMap_empty, fun _ => ⟨rfl, fun _ h => by cases h⟩⟩
theorem PMap.lt {w : World} {b n : Nat} {m : List UInt8 → Option Nat} (h : PMap w b n m) : b < w.heap.size := by
  obtain ⟨D, ho, _⟩ := h
  exact ho.lt
theorem PMap.keep {X : Nat → Prop} {w w' : World} {b n : Nat} {m : List UInt8 → Option Nat} (h : PMap w b n m) (k : Kept X w w') (hb : ¬ X b) : PMap w' b n m := by
  obtain ⟨D, ho, r⟩ := h
  obtain ⟨es, clock, hbk, F, hs, hD⟩ := ho
  exact ⟨D, ⟨es, clock, (k.block b (Array.getElem?_eq_some_iff.1 hbk).1 hb).trans hbk, F, hs, hD⟩, r⟩
theorem PMap.below {w w' : World} {b n : Nat} {m : List UInt8 → Option Nat} (h : PMap w b n m) (hb : Below w.heap.size w w') : PMap w' b n m := h.keep (Kept.of_below hb nowhere) (fun h => h)
theorem PMap.blk {w : World} {b n : Nat} {m : List UInt8 → Option Nat} (h : PMap w b n m) : ∃ es c, w.heap[b]? = some (.map es c) := by
  obtain ⟨D, ⟨es, clock, hbk, _⟩, _⟩ := h
  exact ⟨es, clock, hbk⟩
/-- 'm[k]'. -/
theorem pget {w : World} {b n : Nat} {m : List UInt8 → Option Nat} (h : PMap w b n m) (key : List UInt8) (hkl : key.length ≤ 1000000000) :
    (Instr.lookup 51 (.map (some b)) (.string (bs key)) false).run Tryd.prog w = .ok (ptrV (m key)) w := by
  obtain ⟨D, ho, hI, hD⟩ := h
  have hk := keyOf_string_mk Tryd.underlying9 (s := bs key) (by rw [bs_size]; unfold maxLen; omega)
  rw [bs_list] at hk
  obtain ⟨v, ps, hrun, hv⟩ := ho.lookup keyS Tryd.underlying51 (zeroP w) (show ptrE (.pointer none) = some (.lit (.int .i64 (-1)), []) from rfl) hk
  rw [hrun]
  cases hm : m key with
  | some y =>
    rw [(hD key).2 y hm] at hv
    rcases ptrE_inv hv with ⟨_, hc⟩ | ⟨p, rfl, hc⟩
    · omega
    · have e : y = p := by omega
      rw [e]; rfl
  | none =>
    have hno : has D (.string key) = false := by rw [(hD key).1, hm]; rfl
    rw [atKey_of_not_has hno] at hv
    rcases ptrE_inv hv with ⟨rfl, _⟩ | ⟨p, rfl, hc⟩
    · rfl
    · omega
def putP (m : List UInt8 → Option Nat) (k : List UInt8) (x : Nat) : List UInt8 → Option Nat := fun y => if y = k then some x else m y
set_option maxRecDepth 20000 in
theorem wpList_pput {ops : Array Oper} {rest : List Oper} {o : Oper} {a : Act} {Q : Exit → Act → World → Prop} (w : World) (hg : o.guard = none) (mo x v : Operand)
    (hop : o.op = Op.mapUpdate 51 mo x v) (b n : Nat) (m : List UInt8 → Option Nat) (hm : a.eval mo = .map (some b)) (h : PMap w b n m) (hn : n ≤ 1000000000000) (key : List UInt8) (hx : a.eval x = .string (bs key)) (hkl : key.length ≤ 1000000000)
    (p : Nat) (hv : a.eval v = .pointer (some ⟨p, 0, none⟩))
    (hK : ∀ w', PMap w' b (n + 1) (putP m key p) → Kept (fun k => k = b) w w' → wpList Tryd.prog ops Q rest (a.put o.dst undef) w') : wpList Tryd.prog ops Q (o :: rest) a w := by
  refine wpList_plain hg fun K hK2 => ?_
  obtain ⟨D, ho, hI, hD⟩ := h
  have hk := keyOf_string_mk Tryd.underlying9 (s := bs key) (by rw [bs_size]; unfold maxLen; omega)
  rw [bs_list] at hk
  obtain ⟨w', hrun, r1, r2⟩ := ho.update keyS Tryd.underlying51 (by unfold maxLen; omega) hk (val := .pointer (some ⟨p, 0, none⟩)) (show ptrE _ = some (.lit (.int .i64 (p : Int)), []) from rfl)
  have hP : PMap w' b (n + 1) (putP m key p) := by
    refine ⟨_, r1, hI.put _ _, fun y => ?_⟩
    by_cases hy : y = key
    · subst hy
      refine ⟨?_, fun z hz => ?_⟩
      · rw [has_put_same hI (by first | trivial | exact ⟨_, rfl⟩ | simp [WideAt.IsKeyLit])]; simp [putP]
      · simp only [putP, if_pos] at hz
        injection hz with hz
        subst hz
        exact atKey_put_same hI (by first | trivial | exact ⟨_, rfl⟩ | simp [WideAt.IsKeyLit]) _ _
    · have hne : Lit.string y ≠ Lit.string key := fun e => hy (by injection e)
      rw [has_put_other hne, atKey_put_other hne]
      have := hD y
      simpa [putP, hy] using this
  unfold Oper.wp
  simp [execOp, hop, hm, hx, hv, hrun, Result.andThen]
  exact hK2 _ _ (hK w' hP ((Kept.grown r2).mono fun k _ hk => (Option.some.inj hk).symm))
end Go.Proofs.YtolknddegfcmpaaDoor
namespace Go.Proofs.YtolknddegfcmpaaDoor
open Go.RowKit
def trailL : List UInt8 := [84, 82, 65, 73, 76, 69, 82, 33, 33, 33]
def named (e : En) : Bool := !decide (e.owner = []) || !decide (e.group = [])
def late (e : En) : Bool := decide (4294967295 < e.mtime)
def isTrail (e : En) : Bool := decide (e.path = trailL)
/-- Why entries can't be an archive. -/
def cpErr (l : List En) : Int := if (chkL l).2 ≠ 0 then (chkL l).2 else if l.any named = true then 10 else if l.any late = true then 1 else if l.any isTrail = true then 10 else 0
theorem beq_trail (p : List UInt8) : ((bs p).toList == [84, 82, 65, 73, 76, 69, 82, 33, 33, 33]) = decide (p = trailL) := by
  rw [toList_bs, Bool.eq_iff_iff, decide_eq_true_iff, beq_iff_eq]; rfl
theorem any_step (q : En → Bool) (l : List En) (k : Nat) (h : k < l.length) (a b : Int) : (if (l.drop k).any q = true then a else b) = if q l[k] = true then a else if (l.drop (k + 1)).any q = true then a else b := by
  rw [List.drop_eq_getElem_cons h, List.any_cons]
  cases q l[k] <;> simp
theorem any_end (q : En → Bool) (l : List En) (a b : Int) : (if (l.drop l.length).any q = true then a else b) = b := by simp
set_option maxRecDepth 20000 in
set_option maxHeartbeats 8000000 in
theorem check_any (l : List En) (v : Value) (X : Nat → Prop) (w : World) (hsl : Sl 10 Rent X w v l) (hL : LB l) :
    Calls Tryd.prog 23 #[v] w fun e w' => e = .returned (.int .i64 (cpErr l)) ∧ Below w.heap.size w w' := by
  have hall := pchkall_any l v X w hsl hL
  obtain ⟨A, cap, rfl, hc1, hc2⟩ := hsl.form
  unfold maxLen at hc2
  have hL1 := hL.1
  have HX : Hid (cpErr l = if (chkL l).2 ≠ 0 then (chkL l).2 else if l.any named = true then 10 else if l.any late = true then 1 else if l.any isTrail = true then 10 else 0) := Lib.hid rfl
  generalize (chkL l).1 = c1 at hall
  generalize (chkL l).2 = c2 at hall HX
  go_enter Tryd.func23, Tryd.ntmps23
  go_upto_region 2 with (go_at_call 29; refine hall.mono ?_; rintro e W1 ⟨rfl, hb⟩)
  have hsl := Below.sl good_ent hb hsl
  by_cases hz : c2 = 0
  rotate_left
  · have hzb : (c2 != 0) = true := by simpa using hz
    have HV := Lib.hid (HX.out.trans (if_pos hz))
    clear hz HX
    go_wp2_with fail
    go_ret
    exact ⟨by rw [HV.out]; rfl, hb⟩
  have hzb : (c2 != 0) = false := by simpa using hz
  have HE : Hid (cpErr l = if (l.drop 0).any named = true then 10 else if l.any late = true then 1 else if l.any isTrail = true then 10 else 0) := Lib.hid (HX.out.trans (if_neg (by simpa using hz)))
  clear hz HX hall
  go_wp2_with fail
  go_loopg [21] l.length (fun G s21 wr => ∃ k : Nat, k ≤ l.length ∧ G = l.length - k ∧ s21 = .int .i64 k ∧ Below w.heap.size w wr ∧ Sl 10 Rent X wr (.slice A l.length cap) l ∧ Hid (cpErr l = if (l.drop k).any named = true then 10 else if l.any late = true then 1 else if l.any isTrail = true then 10 else 0))
  case atStart => exact ⟨0, Nat.zero_le _, rfl, rfl, hb, hsl, HE⟩
  case round =>
    clear HE hb hsl
    obtain ⟨k, hk, rfl, rfl, hb, hsl, HE⟩ := hrel
    by_cases hlt : k < l.length
    · obtain ⟨b, off, rfl, _, hc⟩ := hsl.ent (by omega)
      obtain ⟨dv, hat, hdv⟩ := hc k hlt
      obtain ⟨Ad, capd, rfl, _, _⟩ := hdv.form
      have HST := Lib.hid (HE.out.trans (any_step named l k hlt 10 (if l.any late = true then 1 else if l.any isTrail = true then 10 else 0)))
      obtain ⟨e, He⟩ : ∃ e, Hid (l[k] = e) := ⟨_, Lib.hid rfl⟩
      rw [He.out] at hat hdv HST
      obtain ⟨c0, c1, c2, c3, c4, c5, c6, c7, c8, c9⟩ := hat
      have i1 : (0 : Int) ≤ (k : Int) := by omega
      have i2 : (k : Int) < (l.length : Int) := by omega
      clear HE hc hdv
      go_upto_region 7 with fail
      have bE := Blk.new wr tE #[.string (bs e.path), .int .i64 e.kind, .int .i64 e.mode, .int .i64 e.uid, .int .i64 e.gid, .string (bs e.owner), .string (bs e.group), .int .i64 e.mtime, .string (bs e.link), .slice Ad e.data.length capd]
      have hq : Below wr.heap.size wr (wr.alloc (.cells #[.string (bs e.path), .int .i64 e.kind, .int .i64 e.mode, .int .i64 e.uid, .int .i64 e.gid, .string (bs e.owner), .string (bs e.group), .int .i64 e.mtime, .string (bs e.link), .slice Ad e.data.length capd] tE)) := (Below.refl _ _).alloc (Nat.le_refl _) _
      have hsl1 := Below.sl good_ent hq hsl
      have q1 := hb.trans (hq.mono hb.size)
      clear hsl hq hb c0 c1 c2 c3 c4 c5 c6 c7 c8 c9
      generalize wr.alloc (.cells #[.string (bs e.path), .int .i64 e.kind, .int .i64 e.mode, .int .i64 e.uid, .int .i64 e.gid, .string (bs e.owner), .string (bs e.group), .int .i64 e.mtime, .string (bs e.link), .slice Ad e.data.length capd] tE) = W1 at bE hsl1 q1 ⊢
      generalize wr.heap.size = g at bE ⊢
      have d0 := bE.cell 0
      have d5 := bE.cell 5
      have d6 := bE.cell 6
      have d7 := bE.cell 7
      simp at d0 d5 d6 d7
      obtain ⟨ow, HOW⟩ : ∃ x, Hid (e.owner = x) := ⟨_, Lib.hid rfl⟩
      obtain ⟨gr, HGR⟩ : ∃ x, Hid (e.group = x) := ⟨_, Lib.hid rfl⟩
      rw [HOW.out] at d5
      rw [HGR.out] at d6
      have HNM : Hid (named e = (!decide (ow = []) || !decide (gr = []))) := Lib.hid (by rw [named, HOW.out, HGR.out])
      clear HOW HGR
      cases ow with
      | cons c t =>
        have z1 : (bs (c :: t)).toList.isEmpty = false := by rw [toList_bs]; rfl
        have HT := Lib.hid (show named e = true by rw [HNM.out]; simp)
        clear HNM
        have HV := Lib.hid (HST.out.trans (if_pos (HT.out)))
        clear HST
        go_wp2_with fail
        go_ret
        exact ⟨by rw [HV.out]; rfl, q1⟩
      | nil =>
        have z0 : (bs []).toList.isEmpty = true := by rw [toList_bs]; rfl
        cases gr with
        | cons c t =>
          have z1 : (bs (c :: t)).toList.isEmpty = false := by rw [toList_bs]; rfl
          have HT := Lib.hid (show named e = true by rw [HNM.out]; simp)
          clear HNM
          have HV := Lib.hid (HST.out.trans (if_pos (HT.out)))
          clear HST
          go_wp2_with fail
          go_ret
          exact ⟨by rw [HV.out]; rfl, q1⟩
        | nil =>
          have HT := Lib.hid (show ¬ named e = true by rw [HNM.out]; simp)
          clear HNM
          have HV := Lib.hid (HST.out.trans (if_neg (HT.out)))
          clear HST
          go_wp2_with fail
          go_roundg (l.length - (k + 1))
          case measure => omega
          case rel => exact ⟨k + 1, by omega, rfl, by simp, q1, hsl1, HV⟩

    · have hke : k = l.length := by omega
      subst hke
      have HN := Lib.hid (HE.out.trans (any_end named l 10 (if l.any late = true then 1 else if l.any isTrail = true then 10 else 0)))
      clear HE
      have HE : Hid (cpErr l = if (l.drop 0).any late = true then 1 else if l.any isTrail = true then 10 else 0) := Lib.hid HN.out
      clear HN
      go_wp2_with fail
      generalize wr = W2 at hb hsl ⊢
      go_loopg [36] l.length (fun G s36 wr => ∃ k : Nat, k ≤ l.length ∧ G = l.length - k ∧ s36 = .int .i64 k ∧ Below w.heap.size w wr ∧ Sl 10 Rent X wr (.slice A l.length cap) l ∧ Hid (cpErr l = if (l.drop k).any late = true then 1 else if l.any isTrail = true then 10 else 0))
      case atStart => exact ⟨0, Nat.zero_le _, rfl, rfl, hb, hsl, HE⟩
      case round =>
        clear HE hb hsl
        obtain ⟨k, hk, rfl, rfl, hb, hsl, HE⟩ := hrel
        by_cases hlt : k < l.length
        · obtain ⟨b, off, rfl, _, hc⟩ := hsl.ent (by omega)
          obtain ⟨dv, hat, hdv⟩ := hc k hlt
          obtain ⟨Ad, capd, rfl, _, _⟩ := hdv.form
          have HST := Lib.hid (HE.out.trans (any_step late l k hlt 1 (if l.any isTrail = true then 10 else 0)))
          obtain ⟨e, He⟩ : ∃ e, Hid (l[k] = e) := ⟨_, Lib.hid rfl⟩
          rw [He.out] at hat hdv HST
          obtain ⟨c0, c1, c2, c3, c4, c5, c6, c7, c8, c9⟩ := hat
          have i1 : (0 : Int) ≤ (k : Int) := by omega
          have i2 : (k : Int) < (l.length : Int) := by omega
          clear HE hc hdv
          go_upto_region 13 with fail
          have bE := Blk.new wr tE #[.string (bs e.path), .int .i64 e.kind, .int .i64 e.mode, .int .i64 e.uid, .int .i64 e.gid, .string (bs e.owner), .string (bs e.group), .int .i64 e.mtime, .string (bs e.link), .slice Ad e.data.length capd]
          have hq : Below wr.heap.size wr (wr.alloc (.cells #[.string (bs e.path), .int .i64 e.kind, .int .i64 e.mode, .int .i64 e.uid, .int .i64 e.gid, .string (bs e.owner), .string (bs e.group), .int .i64 e.mtime, .string (bs e.link), .slice Ad e.data.length capd] tE)) := (Below.refl _ _).alloc (Nat.le_refl _) _
          have hsl1 := Below.sl good_ent hq hsl
          have q1 := hb.trans (hq.mono hb.size)
          clear hsl hq hb c0 c1 c2 c3 c4 c5 c6 c7 c8 c9
          generalize wr.alloc (.cells #[.string (bs e.path), .int .i64 e.kind, .int .i64 e.mode, .int .i64 e.uid, .int .i64 e.gid, .string (bs e.owner), .string (bs e.group), .int .i64 e.mtime, .string (bs e.link), .slice Ad e.data.length capd] tE) = W1 at bE hsl1 q1 ⊢
          generalize wr.heap.size = g at bE ⊢
          have d0 := bE.cell 0
          have d5 := bE.cell 5
          have d6 := bE.cell 6
          have d7 := bE.cell 7
          simp at d0 d5 d6 d7
          generalize hmt : e.mtime = mt at d7
          by_cases ht : 4294967295 < mt
          · have hd : decide (4294967295 < mt) = true := decide_eq_true ht
            have HT := Lib.hid (show late e = true by rw [late, hmt]; exact hd)
            clear hmt
            have HV := Lib.hid (HST.out.trans (if_pos (HT.out)))
            clear HST
            go_wp2_with fail
            go_ret
            exact ⟨by rw [HV.out]; rfl, q1⟩
          · have hd : decide (4294967295 < mt) = false := decide_eq_false ht
            have HT := Lib.hid (show ¬ late e = true by rw [late, hmt, hd]; simp)
            clear hmt
            have HV := Lib.hid (HST.out.trans (if_neg (HT.out)))
            clear HST
            go_wp2_with fail
            go_roundg (l.length - (k + 1))
            case measure => omega
            case rel => exact ⟨k + 1, by omega, rfl, by simp, q1, hsl1, HV⟩

        · have hke : k = l.length := by omega
          subst hke
          have HN := Lib.hid (HE.out.trans (any_end late l 1 (if l.any isTrail = true then 10 else 0)))
          clear HE
          have HE : Hid (cpErr l = if (l.drop 0).any isTrail = true then 10 else 0) := Lib.hid HN.out
          clear HN
          go_wp2_with fail
          generalize wr = W2 at hb hsl ⊢
          go_loopg [46] l.length (fun G s46 wr => ∃ k : Nat, k ≤ l.length ∧ G = l.length - k ∧ s46 = .int .i64 k ∧ Below w.heap.size w wr ∧ Sl 10 Rent X wr (.slice A l.length cap) l ∧ Hid (cpErr l = if (l.drop k).any isTrail = true then 10 else 0))
          case atStart => exact ⟨0, Nat.zero_le _, rfl, rfl, hb, hsl, HE⟩
          case round =>
            clear HE hb hsl
            obtain ⟨k, hk, rfl, rfl, hb, hsl, HE⟩ := hrel
            by_cases hlt : k < l.length
            · obtain ⟨b, off, rfl, _, hc⟩ := hsl.ent (by omega)
              obtain ⟨dv, hat, hdv⟩ := hc k hlt
              obtain ⟨Ad, capd, rfl, _, _⟩ := hdv.form
              have HST := Lib.hid (HE.out.trans (any_step isTrail l k hlt 10 (0)))
              obtain ⟨e, He⟩ : ∃ e, Hid (l[k] = e) := ⟨_, Lib.hid rfl⟩
              rw [He.out] at hat hdv HST
              obtain ⟨c0, c1, c2, c3, c4, c5, c6, c7, c8, c9⟩ := hat
              have i1 : (0 : Int) ≤ (k : Int) := by omega
              have i2 : (k : Int) < (l.length : Int) := by omega
              clear HE hc hdv
              go_upto_region 19 with fail
              have bE := Blk.new wr tE #[.string (bs e.path), .int .i64 e.kind, .int .i64 e.mode, .int .i64 e.uid, .int .i64 e.gid, .string (bs e.owner), .string (bs e.group), .int .i64 e.mtime, .string (bs e.link), .slice Ad e.data.length capd]
              have hq : Below wr.heap.size wr (wr.alloc (.cells #[.string (bs e.path), .int .i64 e.kind, .int .i64 e.mode, .int .i64 e.uid, .int .i64 e.gid, .string (bs e.owner), .string (bs e.group), .int .i64 e.mtime, .string (bs e.link), .slice Ad e.data.length capd] tE)) := (Below.refl _ _).alloc (Nat.le_refl _) _
              have hsl1 := Below.sl good_ent hq hsl
              have q1 := hb.trans (hq.mono hb.size)
              clear hsl hq hb c0 c1 c2 c3 c4 c5 c6 c7 c8 c9
              generalize wr.alloc (.cells #[.string (bs e.path), .int .i64 e.kind, .int .i64 e.mode, .int .i64 e.uid, .int .i64 e.gid, .string (bs e.owner), .string (bs e.group), .int .i64 e.mtime, .string (bs e.link), .slice Ad e.data.length capd] tE) = W1 at bE hsl1 q1 ⊢
              generalize wr.heap.size = g at bE ⊢
              have d0 := bE.cell 0
              have d5 := bE.cell 5
              have d6 := bE.cell 6
              have d7 := bE.cell 7
              simp at d0 d5 d6 d7
              generalize hpt : e.path = pt at d0
              have hq := beq_trail pt
              by_cases ht : pt = trailL
              · have hd : decide (pt = trailL) = true := decide_eq_true ht
                have HT := Lib.hid (show isTrail e = true by rw [isTrail, hpt]; exact hd)
                rw [hd] at hq
                clear hpt hd ht
                have HV := Lib.hid (HST.out.trans (if_pos (HT.out)))
                clear HST
                go_wp2_with fail
                go_ret
                exact ⟨by rw [HV.out]; rfl, q1⟩
              · have hd : decide (pt = trailL) = false := decide_eq_false ht
                have HT := Lib.hid (show ¬ isTrail e = true by rw [isTrail, hpt, hd]; simp)
                rw [hd] at hq
                clear hpt hd ht
                have HV := Lib.hid (HST.out.trans (if_neg (HT.out)))
                clear HST
                go_wp2_with fail
                go_roundg (l.length - (k + 1))
                case measure => omega
                case rel => exact ⟨k + 1, by omega, rfl, by simp, q1, hsl1, HV⟩

            · have hke : k = l.length := by omega
              subst hke
              have HN := Lib.hid (HE.out.trans (any_end isTrail l 10 (0)))
              clear HE
              go_wp2_with fail
              go_ret
              exact ⟨by rw [HN.out]; rfl, hb⟩


end Go.Proofs.YtolknddegfcmpaaDoor
