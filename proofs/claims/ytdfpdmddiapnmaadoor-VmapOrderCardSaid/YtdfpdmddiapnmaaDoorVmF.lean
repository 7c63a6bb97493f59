/- The walk of vmap's Parse. -/
import Derived.Test.YtdfpdmddiapnmaaDoorVmE
import Derived.Test.YtdfpdmddiapnmaaDoorSpl
import Derived.Test.YtdfpdmddiapnmaaDoorCodU
namespace Go.Proofs.YtdfpdmddiapnmaaDoor
open Go.RowKit
theorem dots_parts (l : List UInt8) : dots l = partsB 46 l := by
  have : ∀ (l a : List UInt8), dotsP l a = splitP 46 l a := by
    intro l
    induction l with
    | nil => intro a; rfl
    | cons c t ih =>
      intro a
      rw [dotsP, splitP_cons, ih, ih]
  exact this l []
theorem cpreG (p q : List UInt8) (w : World) : Calls Tryd.prog 32 #[.string (bs q), .string (bs p)] w fun e w' => e = .returned (.tuple #[.string (bs (if p.isPrefixOf q = true then q.drop p.length else q)), .bool (p.isPrefixOf q)]) ∧ w = w' :=
  (Tryd.strings_CutPrefix _ _ w).mono fun e w' ⟨h1, h2⟩ => ⟨by
    rw [h1, bs_list, bs_list]
    cases h : p.isPrefixOf q <;> simp [Lib.trimPrefix, Lib.hasPrefix, h] <;> rfl, h2.symm⟩
/-- Parse under way: the result is nought yet; the core in block g. -/
structure PaW (w : World) (g : Nat) (e : Int) (nv : Value) (lt pr : ByteArray) (pn rv : Int) (wx : World) : Prop where
  res : Blk wx w.heap.size 30 #[.int .i64 0, .slice none 0 0, .string ⟨#[]⟩, .string ⟨#[]⟩, .int .i64 0, .int .i64 0]
  blk : Blk wx g 30 #[.int .i64 e, nv, .string lt, .string pr, .int .i64 pn, .int .i64 rv]
  below : Below w.heap.size w wx
  gt : w.heap.size < g
namespace PaW
variable {w wx wy : World} {g : Nat} {e : Int} {nv : Value} {lt pr : ByteArray} {pn rv : Int}
theorem lt' (h : PaW w g e nv lt pr pn rv wx) : g < wx.heap.size := h.blk.lt
theorem keep (h : PaW w g e nv lt pr pn rv wx) (hb : Below (g + 1) wx wy) : PaW w g e nv lt pr pn rv wy :=
  ⟨h.res.below hb (by have := h.gt; omega), h.blk.below hb (by omega), h.below.trans (hb.mono (by have := h.gt; omega)), h.gt⟩
theorem keep' (h : PaW w g e nv lt pr pn rv wx) (hb : Below wx.heap.size wx wy) : PaW w g e nv lt pr pn rv wy := h.keep (hb.mono h.lt')
theorem cells (h : PaW w g e nv lt pr pn rv wx) : wx.cell? ⟨g, 0, none⟩ = some (.int .i64 e) ∧ wx.cell? ⟨g, 1, none⟩ = some nv ∧ wx.cell? ⟨g, 2, none⟩ = some (.string lt) ∧ wx.cell? ⟨g, 3, none⟩ = some (.string pr) ∧ wx.cell? ⟨g, 4, none⟩ = some (.int .i64 pn) ∧ wx.cell? ⟨g, 5, none⟩ = some (.int .i64 rv) :=
  ⟨h.blk.cell 0, h.blk.cell 1, h.blk.cell 2, h.blk.cell 3, h.blk.cell 4, h.blk.cell 5⟩
theorem sets (h : PaW w g e nv lt pr pn rv wx) (i : Nat) (v : Value) {e' : Int} {nv' : Value} {lt' pr' : ByteArray} {pn' rv' : Int}
    (hs : (#[.int .i64 e, nv, .string lt, .string pr, .int .i64 pn, .int .i64 rv] : Array Value).set! i v = #[.int .i64 e', nv', .string lt', .string pr', .int .i64 pn', .int .i64 rv']) :
    PaW w g e' nv' lt' pr' pn' rv' (wx.setCell ⟨g, i, none⟩ v) := by
  have := h.gt
  refine ⟨h.res.other v (by show w.heap.size ≠ g; omega), ?_, h.below.setCell (by show w.heap.size ≤ g; omega) v, h.gt⟩
  have := h.blk.set (u := v) i
  rw [← hs]
  simpa using this
theorem drew (h : PaW w g e nv lt pr pn rv wx) : PaW w g e nv lt pr pn rv wx.drew := ⟨h.res.drew, h.blk.drew, h.below.drew, h.gt⟩
end PaW
def preStepC (t : List UInt8) (a : List UInt8 × Int) (w : List UInt8) : List UInt8 × Int := if w.isPrefixOf t = true then (w, udN (t.drop w.length)) else a
theorem preC_eq (t : List UInt8) : preC t = presL.foldl (preStepC t) ([], 0) := rfl
theorem signP_len (r : List UInt8) (acc : List Pc) : (signP r acc).2.length ≤ r.length := by
  unfold signP
  split
  · split
    · simp
    · exact Nat.le_refl _
  · exact Nat.le_refl _
theorem wordsP_len (r : List UInt8) (acc : List Pc) : ∀ a q, wordsP r acc = some (a, q) → q.length ≤ r.length := by
  induction hn : r.length using Nat.strongRecOn generalizing r acc with
  | ind n ih =>
    intro a q h
    by_cases hd : ∃ t, r = 95 :: t
    · obtain ⟨t, rfl⟩ := hd
      by_cases hw : wordI (smalls t) < 0
      · rw [words_none t acc hw] at h; cases h
      · rw [words_next t acc hw] at h
        have h1 := past_len isSmall t
        have h2 := past_len isDig (past isSmall t)
        simp only [List.length_cons] at hn
        have := ih _ (by omega) (past isDig (past isSmall t)) _ rfl a q h
        omega
    · rw [words_end r acc (fun t e => hd ⟨t, e⟩)] at h
      simp only [Option.some.injEq, Prod.mk.injEq] at h
      rw [← h.2, hn]
      exact Nat.le_refl _
theorem revT_len (q t : List UInt8) (h : revT q = some t) : t.length ≤ q.length := by
  unfold revT at h
  split at h
  · split at h
    · injection h with h
      subst h
      simp
      omega
    · cases h
  · cases h
theorem apkT_len (l : List UInt8) : (apkT l).1.length ≤ l.length ∧ (apkT l).2.1.length ≤ l.length ∧ (apkT l).2.2.length ≤ l.length := by
  unfold apkT
  split
  · rename_i a p r h
    unfold apkP at h
    split at h
    · cases h
    · rename_i a1 r1 h1
      have q1 := numsP_len _ _ _ _ _ h1
      unfold apkEnd at h
      split at h
      · cases h
      · rename_i b q hb
        have q2 := wordsP_len _ _ _ _ hb
        have q3 := signP_len r1 a1
        split at h
        · simp only [Option.some.injEq, Prod.mk.injEq] at h
          obtain ⟨_, rfl, rfl⟩ := h
          simp
        · split at h
          · rename_i t' ht
            have q4 := revT_len _ _ ht
            simp only [Option.some.injEq, Prod.mk.injEq] at h
            obtain ⟨_, rfl, rfl⟩ := h
            simp
            omega
          · cases h
  · simp
theorem parts64 (f : Int) (s : List UInt8) (h : vErr f s = 0) : (vPart f s).1.length ≤ 64 ∧ (vPart f s).2.1.length ≤ 64 ∧ (vPart f s).2.2.length ≤ 64 := by
  obtain ⟨h1, h2, _⟩ := vErr_small f s h
  have key : (vPart f s).1.length ≤ s.length ∧ (vPart f s).2.1.length ≤ s.length ∧ (vPart f s).2.2.length ≤ s.length := by
    rcases h2 with h2 | h2 | h2
    · exact vPart_len f s (.inl h2)
    · exact vPart_len f s (.inr h2)
    · subst h2
      rw [vPart3]
      exact apkT_len s
  omega
theorem lastSmall_eq (l : List UInt8) (h0 : 0 < l.length) (h : l.length - 1 < (bs l).size) : lastSmall l = isSmall ((bs l)[l.length - 1]'h) := by
  have h1 : l.length - 1 < l.length := by omega
  have e : l.getLast? = some l[l.length - 1] := by rw [List.getLast?_eq_getElem?, List.getElem?_eq_getElem h1]
  unfold lastSmall
  rw [e]
  rfl
theorem splitP_count (b : UInt8) (l a : List UInt8) : (splitP b l a).length ≤ l.length + 1 := by
  induction l generalizing a with
  | nil => simp [splitP]
  | cons c t ih =>
    rw [splitP_cons]
    split
    · have := ih []; simp only [List.length_cons]; omega
    · have := ih (a ++ [c]); simp only [List.length_cons]; omega
theorem parts_count (b : UInt8) (l : List UInt8) : (partsB b l).length ≤ l.length + 1 := splitP_count b l []
theorem splitP_small (b : UInt8) (l a : List UInt8) : ∀ x ∈ splitP b l a, x.length ≤ a.length + l.length := by
  induction l generalizing a with
  | nil => intro x hx; simp [splitP] at hx; subst hx; simp
  | cons c t ih =>
    intro x hx
    rw [splitP_cons] at hx
    split at hx
    · rcases List.mem_cons.1 hx with rfl | hx
      · omega
      · have := ih [] x hx; simp only [List.length_cons, List.length_nil] at this ⊢; omega
    · have := ih (a ++ [c]) x hx; simp only [List.length_append, List.length_cons, List.length_nil] at this ⊢; omega
theorem parts_small (b : UInt8) (l : List UInt8) : ∀ x ∈ partsB b l, x.length ≤ l.length := fun x hx => by have := splitP_small b l [] x hx; simpa using this
theorem preC_len (t : List UInt8) : (preC t).1.length ≤ 5 := by
  rw [preC_eq]
  simp only [presL, List.foldl_cons, List.foldl_nil, preStepC]
  repeat' split
  all_goals simp
theorem wpList_append_oneG {P : Program} {w : World} {ops : Array Oper} {rest : List Oper} {o : Oper} {a : Act} {Q : Exit → Act → World → Prop} (hgd : o.guard = none) (s x : Operand) (t e : TypeId) (z : Value) (size bytes : Nat)
    (ho : o.op = .call { callee := .builtin .append, args := #[s, x], argTypes := #[t, t] }) (ht : P.underlying t = some (.slice e))
    (hinfo : (P.info? e).map (fun i => (i.zero, i.size, i.bytes)) = some (some z, size, bytes)) (hzs : z.cells.size = size) (hsz : 0 < size)
    (base : Nat) (v : Value) (n : Nat) (xs : List Value) (hs : a.eval s = v) (hown : w.ownsRow base e size v n xs)
    (news : List Value) (hx : a.eval x = .slice (some ⟨w.heap.size, 0, none⟩) 1 1) (hl : news.length = size) (h1 : ∀ u ∈ news, u.oneCell' = true)
    (hn : n + 1 ≤ 1000000000000) (hby : bytes ≤ 100) (hbase : base ≤ w.heap.size)
    (h : ∀ v' w', w'.ownsRow base e size v' (n + 1) (xs ++ news) → Below base w w' → (w.alloc (.cells news.toArray e)).grownBy w' v.ownBlock → wpList P ops Q rest (a.put o.dst v') w') : wpList P ops Q (o :: rest) a (w.alloc (.cells news.toArray e)) :=
  wpList_plain hgd fun _ hK => wp_append_blk s x t e z size bytes ho ht hinfo hzs hsz base v n xs hs (hown.alloc _) w.heap.size 1 news hx (Blk.new w e news.toArray) hl h1 hn hby (by simp; omega)
    fun v' w' h1 h2 h3 => hK _ _ (h v' w' h1 (((Below.refl _ _).alloc hbase _).trans h2) h3)
/-- A core that was read, in new memory. -/
def GivesCo (w : World) (x : Co × Int) (e : Ending) (w' : World) : Prop :=
  ∃ nv, e = .returned (.tuple #[coV x.1 nv, .int .i64 x.2]) ∧ Sl 1 Rint (old w.heap.size) w' nv x.1.nums ∧ Below w.heap.size w w'
def epN (l : List UInt8) : Int := if l = [] then 0 else udN l
def par0 (w : World) : World := w.alloc (.cells #[.int .i64 0, .slice none 0 0, .string ⟨#[]⟩, .string ⟨#[]⟩, .int .i64 0, .int .i64 0] 30)
theorem paW0 (w w1 : World) (hb : Below (par0 w).heap.size (par0 w) w1) : PaW w w1.heap.size 0 (.slice none 0 0) ⟨#[]⟩ ⟨#[]⟩ 0 0 (par0 w1) := by
  have h0 : (par0 w).heap.size = w.heap.size + 1 := by simp [par0]
  have hs := hb.size
  refine ⟨?_, Blk.new w1 _ _, ?_, by omega⟩
  · exact ((Blk.new w 30 #[.int .i64 0, .slice none 0 0, .string ⟨#[]⟩, .string ⟨#[]⟩, .int .i64 0, .int .i64 0]).below hb (by omega)).alloc _
  · exact ((((Below.refl _ _).alloc (Nat.le_refl _) _).trans (hb.mono (by omega)))).alloc (by omega) _
set_option maxRecDepth 100000 in
set_option maxHeartbeats 16000000 in
theorem vparse_any (f : Int) (s : List UInt8) (w : World) (hl : s.length ≤ 2000) (hw : Words w) (ht : Tab w) (hp : Pres w) :
    Calls Tryd.prog 13 #[.int .i64 f, .string (bs s)] w (GivesCo w (paC f s)) := by
  have HP : Hid (paC f s = if vErr f s = 0 then (if prC f (candC f s) = (s, 0) then (candC f s, 0) else (co0, 11)) else (co0, vErr f s)) := Lib.hid rfl
  have hb0 : Below w.heap.size w (par0 w) := (Below.refl _ _).alloc (Nat.le_refl _) _
  have h0 : (par0 w).heap.size = w.heap.size + 1 := by simp [par0]
  have hB0 : Blk (par0 w) w.heap.size 30 #[.int .i64 0, .slice none 0 0, .string ⟨#[]⟩, .string ⟨#[]⟩, .int .i64 0, .int .i64 0] := Blk.new w _ _
  have hgt0 : w.heap.size < (par0 w).heap.size := by omega
  clear h0
  go_enter Tryd.func13, Tryd.ntmps13
  go_upto_region 1 with fail
  have hW : par0 w = w.alloc (.cells #[.int .i64 0, .slice none 0 0, .string ⟨#[]⟩, .string ⟨#[]⟩, .int .i64 0, .int .i64 0] 30) := rfl
  rw [← hW]
  clear hW
  go_wp2_with fail
  refine (split_any f s _ (by omega) (hw.below hb0)).mono ?_
  rintro e w1 ⟨rfl, hb1⟩
  obtain ⟨er, Her⟩ : ∃ er, Hid (vErr f s = er) := ⟨_, Lib.hid rfl⟩
  rw [Her.out]
  by_cases her : er = 0
  · subst her
    have HP2 : Hid (paC f s = if prC f (candC f s) = (s, 0) then (candC f s, 0) else (co0, 11)) := Lib.hid (by rw [HP.out, if_pos Her.out])
    have t1 := paW0 w w1 hb1
    obtain ⟨ep, Hep⟩ : ∃ x, Hid ((vPart f s).1 = x) := ⟨_, Lib.hid rfl⟩
    obtain ⟨pp, Hpp⟩ : ∃ x, Hid ((vPart f s).2.1 = x) := ⟨_, Lib.hid rfl⟩
    obtain ⟨rr, Hrr⟩ : ∃ x, Hid ((vPart f s).2.2 = x) := ⟨_, Lib.hid rfl⟩
    have e1 : (vSplit f s).1 = ep := by rw [vSplit, if_pos Her.out]; exact Hep.out
    have e2 : (vSplit f s).2.1 = pp := by rw [vSplit, if_pos Her.out]; exact Hpp.out
    have e3 : (vSplit f s).2.2 = rr := by rw [vSplit, if_pos Her.out]; exact Hrr.out
    have HC : Hid (candC f s = candP f ep pp rr) := Lib.hid (by rw [candC, Hep.out, Hpp.out, Hrr.out])
    have hlen : ep.length ≤ 64 ∧ pp.length ≤ 64 ∧ rr.length ≤ 64 := by rw [← Hep.out, ← Hpp.out, ← Hrr.out]; exact parts64 f s Her.out
    obtain ⟨l1, l2, l3⟩ := hlen
    rw [e1, e2, e3]
    clear e1 e2 e3 HP Hep Hpp Hrr
    have ht0 := ht.below hb0
    have hp0 := hp.below hb0
    have ht1 : Tab (par0 w1) := (ht0.below hb1).below ((Below.refl _ _).alloc (Nat.le_refl _) _)
    have hp1 : Pres (par0 w1) := (hp0.below hb1).below ((Below.refl _ _).alloc (Nat.le_refl _) _)
    clear ht0 hp0 hb1 hb0 hB0 hgt0
    go_upto_if 40 with fail
    have hW : par0 w1 = w1.alloc (.cells #[.int .i64 0, .slice none 0 0, .string ⟨#[]⟩, .string ⟨#[]⟩, .int .i64 0, .int .i64 0] 30) := rfl
    rw [← hW]
    clear hW
    generalize w1.heap.size = g at t1 ⊢
    generalize par0 w1 = w2 at t1 ht1 hp1 ⊢
    clear w1
    go_cut [] (fun wx => PaW w g (epN ep) (.slice none 0 0) ⟨#[]⟩ ⟨#[]⟩ 0 0 wx)
    case first =>
      obtain ⟨d0, d1, d2, d3, d4, d5⟩ := t1.cells
      have f0 := t1.blk.frozen 0
      have HE : Hid (epN ep = if ep = [] then 0 else udN ep) := Lib.hid rfl
      by_cases hep : ep = []
      · have n1 : (bs ep).toList = [] := by rw [toList_bs]; exact hep
        have n2 : (bs ep).toList.isEmpty = true := by rw [n1]; rfl
        have HV : Hid (epN ep = 0) := Lib.hid (by rw [HE.out, if_pos hep])
        rw [n2]
        clear hep n1 n2
        go_wp2_with fail
        go_meet
        rw [HV.out]
        exact t1
      · have n1 : ¬ (bs ep).toList = [] := by rw [toList_bs]; exact hep
        have n2 : (bs ep).toList.isEmpty = false := by simpa using n1
        have HV : Hid (epN ep = udN ep) := Lib.hid (by rw [HE.out, if_neg hep])
        rw [n2]
        clear hep n1 n2
        go_wp2_with fail
        refine (undec_any (bs ep) _ (by rw [bs_size]; omega)).mono ?_
        rintro e wq ⟨rfl, rfl⟩
        rw [bs_list]
        go_wp2_with fail
        go_meet
        rw [HV.out]
        exact t1.sets 0 _ rfl
    case rest =>
      have t2 := hcut
      clear hcut t1 ht1 hp1
      obtain ⟨en, Hen⟩ : ∃ x, Hid (epN ep = x) := ⟨_, Lib.hid rfl⟩
      rw [Hen.out] at t2
      obtain ⟨d0, d1, d2, d3, d4, d5⟩ := t2.cells
      have f5 := t2.blk.frozen 5
      go_wp2_with fail
      refine (undec_any (bs rr) _ (by rw [bs_size]; omega)).mono ?_
      rintro e wq ⟨rfl, rfl⟩
      rw [bs_list]
      go_wp2_with fail
      refine (signs_any f _).mono ?_
      rintro e wq ⟨rfl, rfl⟩
      have t3 := t2.sets (rv' := udN rr) 5 (.int .i64 (udN rr)) rfl
      go_upto_region 9 with fail
      generalize wc.setCell ⟨g, 5, none⟩ (.int .i64 (udN rr)) = w3 at t3 ⊢
      clear t2 d0 d1 d2 d3 d4 d5 f5
      obtain ⟨hd, Hhd⟩ : ∃ x, Hid (cutA pp (sgnB f) = x) := ⟨_, Lib.hid rfl⟩
      obtain ⟨tl, Htl⟩ : ∃ x, Hid (cutB pp (sgnB f) = x) := ⟨_, Lib.hid rfl⟩
      have lhd : hd.length ≤ 64 := by rw [← Hhd.out]; have := cutA_len pp (sgnB f); omega
      have ltl : tl.length ≤ 64 := by rw [← Htl.out]; have := cutB_len pp (sgnB f); omega
      have cc := cut_any (bs pp) (sgnB f) w3 (by rw [bs_size]; omega)
      rw [bs_list, Hhd.out, Htl.out] at cc
      go_wp2_with fail
      refine cc.mono ?_
      rintro e w4 ⟨rfl, hb4⟩
      have t4 := t3.keep' hb4
      clear t3 cc hb4
      have hp4 := hp.below t4.below
      obtain ⟨W, HW⟩ : ∃ W : Nat → ByteArray, Hid (∀ i, W i = bs (presL.getD i [])) := ⟨_, Lib.hid fun _ => rfl⟩
      have hW : ∀ i, i < 4 → w4.cell? ⟨0, i, none⟩ = some (.string (W i)) := fun i hi => by rw [HW.out]; exact hp4 i hi
      have h0 := hW 0 (by omega)
      have h1 := hW 1 (by omega)
      have h2 := hW 2 (by omega)
      have h3 := hW 3 (by omega)
      clear hW hp4
      go_wp2_with fail
      clear h0 h1 h2 h3
      go_loopg [66] 4 (fun G s66 wx => ∃ (k : Nat) (pr : List UInt8) (pn : Int), k ≤ 4 ∧ G = 4 - k ∧ s66 = .int .i64 k ∧ PaW w g en (.slice none 0 0) ⟨#[]⟩ (bs pr) pn (udN rr) wx ∧ Hid ((presL.take k).foldl (preStepC tl) ([], 0) = (pr, pn)))
      case atStart => exact ⟨0, [], 0, by omega, rfl, rfl, t4, Lib.hid rfl⟩
      case round =>
        clear t4
        obtain ⟨k, pr, pn, hk, rfl, rfl, tk, HF⟩ := hrel
        by_cases hlt : k < 4
        · obtain ⟨d0, d1, d2, d3, d4, d5⟩ := tk.cells
          have f3 := tk.blk.frozen 3
          have f4 := tk.blk.frozen 4
          have hix : (Instr.index 54 (.agg #[.string (W 0), .string (W 1), .string (W 2), .string (W 3)]) (.int .i64 (k : Int))).run Tryd.prog wr = .ok (.string (W k)) wr := by
            obtain rfl | rfl | rfl | rfl : k = 0 ∨ k = 1 ∨ k = 2 ∨ k = 3 := by omega
            all_goals simp [Instr.index, run_underlying Tryd.underlying54, asIntOf, part, go_sem]
          have hst : (presL.take (k + 1)).foldl (preStepC tl) ([], 0) = preStepC tl ((presL.take k).foldl (preStepC tl) ([], 0)) (presL.getD k []) := by
            obtain rfl | rfl | rfl | rfl : k = 0 ∨ k = 1 ∨ k = 2 ∨ k = 3 := by omega
            all_goals rfl
          rw [HF.out] at hst
          have HS := Lib.hid hst
          clear hst
          obtain ⟨wd, Hwd⟩ : ∃ x, Hid (presL.getD k [] = x) := ⟨_, Lib.hid rfl⟩
          have hWk : W k = bs wd := by rw [HW.out, Hwd.out]
          rw [Hwd.out] at HS
          rw [hWk] at hix
          clear hWk
          go_wp2_with fail
          refine (cpreG wd tl _).mono ?_
          rintro e wq ⟨rfl, rfl⟩
          have HQ : Hid (preStepC tl (pr, pn) wd = if wd.isPrefixOf tl = true then (wd, udN (tl.drop wd.length)) else (pr, pn)) := Lib.hid rfl
          cases hpf : wd.isPrefixOf tl with
          | false =>
            have HV : Hid ((presL.take (k + 1)).foldl (preStepC tl) ([], 0) = (pr, pn)) := Lib.hid (by rw [HS.out, HQ.out, hpf]; rfl)
            go_wp2_with fail
            go_roundg (4 - (k + 1))
            case measure => omega
            case rel => exact ⟨k + 1, pr, pn, by omega, rfl, by go_num, tk, HV⟩
          | true =>
            have HV : Hid ((presL.take (k + 1)).foldl (preStepC tl) ([], 0) = (wd, udN (tl.drop wd.length))) := Lib.hid (by rw [HS.out, HQ.out, hpf]; rfl)
            have ltd : (tl.drop wd.length).length ≤ 64 := by rw [List.length_drop]; omega
            rw [if_pos rfl]
            go_wp2_with fail
            refine (undec_any (bs (tl.drop wd.length)) _ (by rw [bs_size]; omega)).mono ?_
            rintro e wq ⟨rfl, rfl⟩
            rw [bs_list]
            go_wp2_with fail
            go_roundg (4 - (k + 1))
            case measure => omega
            case rel => exact ⟨k + 1, wd, _, by omega, rfl, by go_num, (tk.sets (pr' := bs wd) 3 (.string (bs wd)) rfl).sets (pn' := udN (tl.drop wd.length)) 4 (.int .i64 (udN (tl.drop wd.length))) rfl, HV⟩
        · obtain rfl : k = 4 := by omega
          have HPR : Hid (preC tl = (pr, pn)) := Lib.hid HF.out
          have hsz := bs_size
          clear hlt hk HF HW
          go_upto_region 19 with fail
          go_cut [95] (fun s95 wx => s95 = .bool (lastSmall hd) ∧ wr = wx)
          case first =>
            by_cases h0 : hd = []
            · have HV : Hid (lastSmall hd = false) := Lib.hid (by rw [h0]; rfl)
              have e0 : hd.length = 0 := by rw [h0]; rfl
              clear h0
              go_wp2_with fail
              go_meet
              exact ⟨by rw [HV.out], rfl⟩
            · have hpos : 0 < hd.length := List.length_pos_iff.2 h0
              clear h0
              go_wp2_with fail
              refine (vsmall_any _ _).mono ?_
              rintro e wq ⟨rfl, rfl⟩
              have hb : hd.length - 1 < (bs hd).size := by rw [bs_size]; omega
              have HV : Hid (lastSmall hd = isSmall ((bs hd)[hd.length - 1]'hb)) := Lib.hid (lastSmall_eq hd (by omega) hb)
              go_wp2_with fail
              go_meet
              exact ⟨by rw [HV.out], rfl⟩
          case rest =>
            obtain ⟨rfl, rfl⟩ := hcut
            go_upto_if 95 with fail
            go_cut [13] (fun s13 wx => s13 = .string (bs (bodyH hd)) ∧ PaW w g en (.slice none 0 0) (bs (letH hd)) (bs pr) pn (udN rr) wx)
            case first =>
              cases hls : lastSmall hd with
              | false =>
                have HV : Hid (bodyH hd = hd ∧ letH hd = []) := Lib.hid ⟨by rw [bodyH, hls]; rfl, by rw [letH, hls]; rfl⟩
                go_wp2_with fail
                go_meet
                rw [HV.out.1, HV.out.2]
                exact ⟨rfl, tk⟩
              | true =>
                have HV : Hid (bodyH hd = hd.take (hd.length - 1) ∧ letH hd = hd.drop (hd.length - 1)) := Lib.hid ⟨by rw [bodyH, hls]; rfl, by rw [letH, hls]; rfl⟩
                have hpos : 0 < hd.length := by
                  cases hd with
                  | nil => cases hls
                  | cons => simp
                obtain ⟨d0, d1, d2, d3, d4, d5⟩ := tk.cells
                have f2 := tk.blk.frozen 2
                have q1 : IntKind.i64.wrap ((hd.length : Int) - 1) = (hd.length : Int) - 1 := i64_in _ (by omega) (by omega)
                have i1 : (1 : Int) ≤ (hd.length : Int) := by omega
                have i2 : (hd.length : Int) - 1 ≤ (hd.length : Int) := by omega
                go_wp2_with fail
                refine wp_region_plan (fun W => W.cell? ⟨g, 2, none⟩ = some (.string ⟨#[]⟩) ∧ W.frozen? ⟨g, 2, none⟩ = false) [(false, 0), (false, 1), (false, 2), (false, 3), (false, 4), (false, 5), (false, 6), (false, 7), (false, 8), (false, 9), (true, 10)] (by kernel_rfl) (by kernel_rfl) (⟨by simpa using d2, by simpa using f2⟩) ?_
                simp only [planOps, List.map, List.getD_cons_zero, List.getD_cons_succ]
                iterate 10 ((first | refine plan_quiet (v := ?_) rfl rfl (fun w' hw' => ?_) ?_ | refine plan_calm (v := ?_) (tt_of) rfl (fun w' hw' => ?_) ?_); rotate_left; (focus (go_simp <;> with_reducible rfl)); simp only [Act.put, List.setIfInBounds_toArray, List.set_cons_zero, List.set_cons_succ])
                refine plan_last rfl (by kernel_rfl) (by kernel_rfl) (fun K hK => ?_)
                go_simp
                refine hK _ _ (trivial) ?_
                clear hK K
                (try simp only [Act.put, List.setIfInBounds_toArray, List.set_cons_zero, List.set_cons_succ])
                refine plan_end ?_
                have HX : Hid ((bs hd).extract 0 (hd.length - 1) = bs (hd.take (hd.length - 1))) := Lib.hid (ext_take _ _ (by rw [bs_size]; omega))
                have HY : Hid ((bs hd).extract (hd.length - 1) hd.length = bs (hd.drop (hd.length - 1))) := Lib.hid (by have := ext_drop (bs hd) (hd.length - 1); rw [bs_size] at this; exact this)
                go_wp2_with fail
                go_meet
                rw [HV.out.1, HV.out.2, HX.out, HY.out]
                exact ⟨rfl, (tk.sets 2 _ rfl).drew⟩
            case rest =>
              obtain ⟨rfl, tk2⟩ := hcut
              clear tk
              obtain ⟨lt, Hlt⟩ : ∃ x, Hid (letH hd = x) := ⟨_, Lib.hid rfl⟩
              rw [Hlt.out] at tk2
              have lbh : (bodyH hd).length ≤ 64 := by unfold bodyH; split <;> (first | (simp; omega) | omega)
              have HD : Hid (candC f s = ⟨en, (partsB 46 (bodyH hd)).map udN, lt, pr, pn, udN rr⟩) := Lib.hid (by rw [HC.out, candP, Hhd.out, Htl.out, HPR.out, dots_parts, Hlt.out, ← Hen.out]; rfl)
              generalize bodyH hd = bh at lbh HD ⊢
              go_wp2_with fail
              refine (split1 bh 46 _ (by omega)).mono ?_
              rintro e w5 ⟨rfl, rfl⟩
              obtain ⟨ps, Hps⟩ : ∃ x, Hid (partsB 46 bh = x) := ⟨_, Lib.hid rfl⟩
              rw [Hps.out] at HD ⊢
              have lps : ps.length ≤ 65 := by rw [← Hps.out]; have := parts_count 46 bh; omega
              have lpe : ∀ x ∈ ps, x.length ≤ 64 := by rw [← Hps.out]; intro x hx; have := parts_small 46 bh x hx; omega
              have lpr : pr.length ≤ 5 := by have := preC_len tl; rw [HPR.out] at this; exact this
              have llt : lt.length ≤ 64 := by rw [← Hlt.out]; unfold letH; split <;> (first | (simp; omega) | simp)
              have HLP := Lib.hid lpe
              clear lpe Hps lbh
              have hbp : Below wc.heap.size wc (wc.alloc (.cells (ps.map fun x => Value.string (bs x)).toArray 9)) := (Below.refl _ _).alloc (Nat.le_refl _) _
              have t5 := tk2.keep' hbp
              have B5 : Blk (wc.alloc (.cells (ps.map fun x => Value.string (bs x)).toArray 9)) wc.heap.size 9 (ps.map fun x => Value.string (bs x)).toArray := Blk.new wc _ _
              have hgp : g < wc.heap.size := tk2.lt'
              clear tk2 hbp
              generalize wc.heap.size = gp at B5 hgp ⊢
              generalize wc.alloc (.cells (ps.map fun x => Value.string (bs x)).toArray 9) = w5 at t5 B5 ⊢
              go_wp2_with fail
              go_loopg [108] ps.length (fun G s108 wx => ∃ (k : Nat) (nv : Value), k ≤ ps.length ∧ G = ps.length - k ∧ s108 = .int .i64 k ∧ PaW w g en nv (bs lt) (bs pr) pn (udN rr) wx ∧ wx.ownsRow (g + 1) 3 1 nv k (ivs ((ps.take k).map udN)) ∧ Blk wx gp 9 (ps.map fun x => Value.string (bs x)).toArray)
              case atStart => exact ⟨0, _, Nat.zero_le _, rfl, rfl, t5, World.ownsRow_nil _ _ _ _, B5⟩
              case round =>
                clear t5 B5
                obtain ⟨k, nv, hk, rfl, rfl, tk, hown, Bp⟩ := hrel
                obtain ⟨A6, c6, rfl⟩ := own_form hown
                by_cases hlt : k < ps.length
                · have ck : wr.cell? ⟨gp, k, none⟩ = some (.string (bs ps[k])) := by
                    have := Bp.cell k
                    rw [this]
                    simp [hlt]
                  have lx := HLP.out _ (List.getElem_mem hlt)
                  have HT : Hid (ivs ((ps.take (k + 1)).map udN) = ivs ((ps.take k).map udN) ++ [.int .i64 (udN ps[k])]) := Lib.hid (by rw [take_snoc _ _ hlt, List.map_append, ← ivs_app]; rfl)
                  generalize ps[k] = x at ck lx HT
                  obtain ⟨d0, d1, d2, d3, d4, d5⟩ := tk.cells
                  have hgw := tk.lt'
                  go_wp2_with fail
                  refine (undec_any (bs x) _ (by rw [bs_size]; omega)).mono ?_
                  rintro e wq ⟨rfl, rfl⟩
                  rw [bs_list]
                  have q1 : k + 1 ≤ 1000000000000 := by omega
                  have q2 : g + 1 ≤ wr.heap.size := hgw
                  have q3 : ∀ u ∈ [Value.int .i64 (udN x)], u.oneCell' = true := by simp [Value.oneCell']
                  go_wp2_with (at_builtin; refine wpList_append_oneG rfl (.tmp 118) (.tmp 120) _ 3 _ 1 8 rfl Tryd.underlying28 i64info rfl (Nat.zero_lt_one) (g + 1) (.slice A6 k c6) k (ivs ((ps.take k).map udN)) rfl hown [.int .i64 (udN x)] rfl rfl q3 q1 (by decide) q2 ?_; intro v2 w6 hown6 hb6 hg6; obtain ⟨A7, c7, rfl⟩ := own_form hown6; have t6 := tk.keep hb6; have B6 : Blk w6 gp 9 (ps.map fun x => Value.string (bs x)).toArray := (Bp.alloc _).grown hg6 (Lib.ownBlock_ne hown Bp (by decide)); obtain ⟨e0, e1, e2, e3, e4, e5⟩ := t6.cells; have f1 := t6.blk.frozen 1)
                  clear q1 q2 q3
                  go_roundg (ps.length - (k + 1))
                  case measure => omega
                  case rel => exact ⟨k + 1, _, by omega, rfl, by go_num, t6.sets 1 _ rfl, by rw [HT.out]; exact own_other hown6 _ (own_block hown6 g (by omega)), B6.other _ (by show gp ≠ g; omega)⟩
                · obtain rfl : k = ps.length := by omega
                  rw [List.take_length] at hown
                  have hlm : (ps.map udN).length = ps.length := List.length_map _
                  have hsl : Sl 1 Rint (fun k => k ≤ g) wr (.slice A6 ps.length c6) (ps.map udN) := by
                    rw [← hlm] at hown ⊢
                    have hgg := tk.gt
                    refine (ivs_own hown (fun k hk => ?_)).sl good_int
                    have := (hown.lt k hk).1
                    show ¬ k ≤ g
                    omega
                  obtain ⟨c, Hc⟩ : ∃ c : Co, Hid ((⟨en, ps.map udN, lt, pr, pn, udN rr⟩ : Co) = c) := ⟨_, Lib.hid rfl⟩
                  have q0 : c.epoch = en := by rw [← Hc.out]
                  have q1 : c.nums = ps.map udN := by rw [← Hc.out]
                  have q2 : c.letter = lt := by rw [← Hc.out]
                  have q3 : c.pre = pr := by rw [← Hc.out]
                  have q4 : c.preNum = pn := by rw [← Hc.out]
                  have q5 : c.rev = udN rr := by rw [← Hc.out]
                  rw [← q1] at hsl
                  have hZ : CoZ c := ⟨by rw [q1, hlm]; omega, by rw [q2]; omega, by rw [q3]; omega⟩
                  rw [← q0, ← q2, ← q3, ← q4, ← q5] at tk
                  rw [Hc.out] at HD
                  have hlc : ps.length = c.nums.length := by rw [q1, hlm]
                  rw [hlc] at tk hsl ⊢
                  clear q0 q1 q2 q3 q4 q5 hlm hlc hown Bp hlt hk HLP lps lpr llt
                  obtain ⟨d0, d1, d2, d3, d4, d5⟩ := tk.cells
                  have HZ := Lib.hid hZ
                  clear hZ
                  go_wp2_with fail
                  refine (vprint_any f c _ _ _ hsl HZ.out (ht.below tk.below) (hp.below tk.below)).mono ?_
                  rintro e w7 ⟨rfl, hb7⟩
                  have t7 := tk.keep' hb7
                  have hsl7 := Below.sl good_int hb7 hsl
                  obtain ⟨⟨x, y⟩, Hxy⟩ : ∃ p, Hid (prC f c = p) := ⟨_, Lib.hid rfl⟩
                  have HP3 : Hid (paC f s = if (x, y) = (s, 0) then (c, 0) else (co0, 11)) := Lib.hid (by rw [HP2.out, HD.out, Hxy.out])
                  rw [Hxy.out]
                  have hgt := t7.gt
                  clear tk hb7 hsl d0 d1 d2 d3 d4 d5 HP2
                  obtain ⟨d0, d1, d2, d3, d4, d5⟩ := t7.cells
                  have r0 := t7.res.cell 0
                  have r1 := t7.res.cell 1
                  have r2 := t7.res.cell 2
                  have r3 := t7.res.cell 3
                  have r4 := t7.res.cell 4
                  have r5 := t7.res.cell 5
                  have f0 := t7.res.frozen 0
                  have f1 := t7.res.frozen 1
                  have f2 := t7.res.frozen 2
                  have f3 := t7.res.frozen 3
                  have f4 := t7.res.frozen 4
                  have f5 := t7.res.frozen 5
                  simp at r0 r1 r2 r3 r4 r5
                  have bad : ∀ (h : (x, y) ≠ (s, 0)), Hid (paC f s = (co0, 11)) := fun h => Lib.hid (by rw [HP3.out, if_neg h])
                  by_cases hy : y = 0
                  · subst hy
                    by_cases hx : x = s
                    · subst hx
                      have HV : Hid (paC f x = (c, 0)) := Lib.hid (by rw [HP3.out, if_pos rfl])
                      have e1 := beq_bs x
                      clear bad
                      go_wp2_with fail
                      have hB2 := (((((t7.res.set (u := .int .i64 c.epoch) 0).set (u := .slice A6 c.nums.length c6) 1).set (u := .string (bs c.letter)) 2).set (u := .string (bs c.pre)) 3).set (u := .int .i64 c.preNum) 4).set (u := .int .i64 c.rev) 5
                      have e0 := hB2.cell 0
                      have e1 := hB2.cell 1
                      have e2 := hB2.cell 2
                      have e3 := hB2.cell 3
                      have e4 := hB2.cell 4
                      have e5 := hB2.cell 5
                      refine bodyPost_ret (v := .tuple #[coV c (.slice A6 c.nums.length c6), .int .i64 0]) (by simp [results, Tryd.results13, go_sem, e0, e1, e2, e3, e4, e5]; rfl) rfl ?_
                      rw [HV.out]
                      refine ⟨_, rfl, ?_, ?_⟩
                      · refine (hsl7.keep good_int ((((((((Kept.refl (fun k => k ≤ g) w7).setCell _ ?_).setCell _ ?_).setCell _ ?_).setCell _ ?_).setCell _ ?_).setCell _ ?_))).mono good_int (by omega) (fun k _ hk => ?_)
                        all_goals first | (intro _; show w.heap.size ≤ g; omega) | (unfold old at hk; show k ≤ g; omega)
                      · exact ((((((t7.below.setCell (by simp) _).setCell (by simp) _).setCell (by simp) _).setCell (by simp) _).setCell (by simp) _).setCell (by simp) _)
                    · have HV := bad (fun e => hx (by injection e))
                      have e1 : ((bs x).toList == (bs s).toList) = false := by rw [toList_bs, toList_bs]; simpa using hx
                      clear bad hx
                      go_wp2_with fail
                      have hB2 := (((((t7.res.set (u := .int .i64 0) 0).set (u := .slice none 0 0) 1).set (u := .string ⟨#[]⟩) 2).set (u := .string ⟨#[]⟩) 3).set (u := .int .i64 0) 4).set (u := .int .i64 0) 5
                      have e0 := hB2.cell 0
                      have e1 := hB2.cell 1
                      have e2 := hB2.cell 2
                      have e3 := hB2.cell 3
                      have e4 := hB2.cell 4
                      have e5 := hB2.cell 5
                      refine bodyPost_ret (v := .tuple #[coV co0 (.slice none 0 0), .int .i64 11]) (by simp [results, Tryd.results13, go_sem, e0, e1, e2, e3, e4, e5]; rfl) rfl ?_
                      rw [HV.out]
                      refine ⟨_, rfl, Sl.nil _ _ _ _, ?_⟩
                      exact ((((((t7.below.setCell (by simp) _).setCell (by simp) _).setCell (by simp) _).setCell (by simp) _).setCell (by simp) _).setCell (by simp) _)
                  · have HV := bad (fun e => hy (by injection e))
                    have b1 : (y != 0) = true := by simpa using hy
                    clear bad hy
                    go_wp2_with fail
                    have hB2 := (((((t7.res.set (u := .int .i64 0) 0).set (u := .slice none 0 0) 1).set (u := .string ⟨#[]⟩) 2).set (u := .string ⟨#[]⟩) 3).set (u := .int .i64 0) 4).set (u := .int .i64 0) 5
                    have e0 := hB2.cell 0
                    have e1 := hB2.cell 1
                    have e2 := hB2.cell 2
                    have e3 := hB2.cell 3
                    have e4 := hB2.cell 4
                    have e5 := hB2.cell 5
                    refine bodyPost_ret (v := .tuple #[coV co0 (.slice none 0 0), .int .i64 11]) (by simp [results, Tryd.results13, go_sem, e0, e1, e2, e3, e4, e5]; rfl) rfl ?_
                    rw [HV.out]
                    refine ⟨_, rfl, Sl.nil _ _ _ _, ?_⟩
                    exact ((((((t7.below.setCell (by simp) _).setCell (by simp) _).setCell (by simp) _).setCell (by simp) _).setCell (by simp) _).setCell (by simp) _)
  · have HV : Hid (paC f s = (co0, er)) := Lib.hid (by rw [HP.out, if_neg (by rw [Her.out]; exact her), Her.out])
    have b1 : (er != 0) = true := by simpa using her
    have hB1 := hB0.below hb1 hgt0
    have c0 := hB1.cell 0
    have c1 := hB1.cell 1
    have c2 := hB1.cell 2
    have c3 := hB1.cell 3
    have c4 := hB1.cell 4
    have c5 := hB1.cell 5
    have f0 := hB1.frozen 0
    have f1 := hB1.frozen 1
    have f2 := hB1.frozen 2
    have f3 := hB1.frozen 3
    have f4 := hB1.frozen 4
    have f5 := hB1.frozen 5
    simp at c0 c1 c2 c3 c4 c5
    clear her
    go_wp2_with fail
    have hB2 := (((((hB1.set (u := .int .i64 0) 0).set (u := .slice none 0 0) 1).set (u := .string ⟨#[]⟩) 2).set (u := .string ⟨#[]⟩) 3).set (u := .int .i64 0) 4).set (u := .int .i64 0) 5
    have d0 := hB2.cell 0
    have d1 := hB2.cell 1
    have d2 := hB2.cell 2
    have d3 := hB2.cell 3
    have d4 := hB2.cell 4
    have d5 := hB2.cell 5
    refine bodyPost_ret (v := .tuple #[coV co0 (.slice none 0 0), .int .i64 er]) (by simp [results, Tryd.results13, go_sem, d0, d1, d2, d3, d4, d5]; rfl) rfl ?_
    rw [HV.out]
    refine ⟨_, rfl, Sl.nil _ _ _ _, ?_⟩
    exact (((((((hb0.trans (hb1.mono (by omega))).setCell (by simp) _).setCell (by simp) _).setCell (by simp) _).setCell (by simp) _).setCell (by simp) _).setCell (by simp) _)
theorem co0_z : CoZ co0 := ⟨by simp [co0], by simp [co0], by simp [co0]⟩
theorem paC_z (f : Int) (s : List UInt8) : CoZ (paC f s).1 := by
  unfold paC
  split
  · rename_i hv
    split
    · obtain ⟨h1, h2, h3⟩ := parts64 f s hv
      obtain ⟨n, l, p, _, _, _⟩ : True ∧ True ∧ True ∧ True ∧ True ∧ True := ⟨trivial, trivial, trivial, trivial, trivial, trivial⟩
      have q1 := cutA_len (vPart f s).2.1 (sgnB f)
      have hb : (bodyH (cutA (vPart f s).2.1 (sgnB f))).length ≤ 64 := by unfold bodyH; split <;> (first | (simp; omega) | omega)
      refine ⟨?_, ?_, ?_⟩
      · show ((dots (bodyH (cutA (vPart f s).2.1 (sgnB f)))).map udN).length ≤ 300
        rw [List.length_map, dots_parts]
        have := parts_count 46 (bodyH (cutA (vPart f s).2.1 (sgnB f)))
        omega
      · show (letH (cutA (vPart f s).2.1 (sgnB f))).length ≤ 100
        unfold letH; split <;> (first | (simp; omega) | simp)
      · show (preC (cutB (vPart f s).2.1 (sgnB f))).1.length ≤ 100
        have := preC_len (cutB (vPart f s).2.1 (sgnB f))
        omega
    · exact co0_z
  · exact co0_z
end Go.Proofs.YtdfpdmddiapnmaaDoor
