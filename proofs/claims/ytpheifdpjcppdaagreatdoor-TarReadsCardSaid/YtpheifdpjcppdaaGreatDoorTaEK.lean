/- The walk of tar.putBytes. The walks of tar.part and tar.headOf. The walk of tar.record. The walk of tar.long. Tar, in plain words: what Write puts; what it has in memory. -/
import Derived.Test.YtpheifdpjcppdaaGreatDoorTaAC
import Derived.Test.YtpheifdpjcppdaaGreatDoorCodT
import Derived.Test.YtpheifdpjcppdaaGreatDoorTaDG
import Derived.Test.YtpheifdpjcppdaaGreatDoorArJ
import Derived.Test.YtpheifdpjcppdaaGreatDoorEnJL
namespace Go.Proofs.YtpheifdpjcppdaaGreatDoor
open Go.RowKit
set_option maxRecDepth 20000 in
set_option maxHeartbeats 8000000 in
theorem tputb_any (d : List UInt8) (dv : Value) (w : World) (base : Nat) (v : Value) (l : List UInt8) (hown : w.ownsRow base 5 1 v l.length (bvs l)) (hbase : base ≤ w.heap.size) (hl : l.length ≤ 1000000000) (hd : SB w dv d) (hdl : d.length ≤ 1000000000) :
    Calls Tryz.prog 21 #[v, dv] w fun r w' => ∃ v', r = .returned v' ∧ Row8 w v.ownBlock base 5 w' v' (l ++ wholeB d) := by
  obtain ⟨A0, c0, rfl⟩ := own_form hown
  obtain ⟨Ad, cd, hdv, hc1, hc2, hnil, hcell⟩ := id hd
  subst hdv
  have hr := Row8.first hown hbase
  generalize (Value.slice A0 l.length c0).ownBlock = R0 at hr ⊢
  have hr0 : (d.length : Int).tmod 512 = ((d.length % 512 : Nat) : Int) := by rw [Int.tmod_eq_emod_of_nonneg (by omega)]; omega
  obtain ⟨m, hm⟩ : ∃ m, d.length % 512 = m := ⟨_, rfl⟩
  have HW : Hid (wholeB d = d ++ List.replicate ((512 - m) % 512) 0) := Lib.hid (by rw [wholeB, hm])
  rw [hm] at hr0
  have hm5 : m < 512 := by omega
  have wr0 : IntKind.i64.wrap (m : Int) = (m : Int) := i64_in _ (by omega) (by omega)
  go_enter Tryz.func21, Tryz.ntmps21
  go_upto_region 3 with (at_builtin; refine wpList_row_bytes rfl _ _ 25 rfl Tryz.underlying25 u8info rfl hr Ad d.length cd d rfl hd (by omega) ?_; intro v1 W1 hr1; obtain ⟨A1, c1, rfl⟩ := own_form hr1.own)
  rw [List.length_append] at hr1
  by_cases h0 : m = 0
  · have q : decide ((0 : Int) < (m : Int)) = false := decide_eq_false (by omega)
    have q2 : ¬ (0 : Int) < (m : Int) := by omega
    have q3 : ¬ 0 < m := by omega
    have hw : wholeB d = d := by rw [HW.out, h0]; simp
    clear HW hd h0 hm
    go_wp2_with fail
    go_ret
    exact ⟨_, rfl, by first | exact hr1 | (rw [hw]; exact hr1)⟩
  · have q : decide ((0 : Int) < (m : Int)) = true := decide_eq_true (by omega)
    have q2 : (0 : Int) < (m : Int) := by omega
    have q3 : 0 < m := by omega
    have wz : IntKind.i64.wrap (512 - (m : Int)) = ((512 - m : Nat) : Int) := by rw [i64_in _ (by omega) (by omega)]; omega
    have hw : wholeB d = d ++ List.replicate (512 - m) 0 := by rw [HW.out, Nat.mod_eq_of_lt (by omega)]
    clear HW hd h0 hm
    go_wp2_with (at_builtin; refine wpList_row_zeros rfl _ _ 25 3 rfl Tryz.underlying25 Tryz.underlying3 u8info (by first | rfl | (simp; done)) hr1 (512 - m) rfl (by rw [List.length_append]; omega) ?_; intro v2 W2 hr2; obtain ⟨A2, c2, rfl⟩ := own_form hr2.own)
    rw [List.append_assoc, List.length_append, List.length_append, List.length_replicate] at hr2
    go_ret
    exact ⟨_, rfl, by first | exact hr2 | (rw [hw]; exact hr2)⟩
end Go.Proofs.YtpheifdpjcppdaaGreatDoor
namespace Go.Proofs.YtpheifdpjcppdaaGreatDoor
open Go.RowKit
/-- Where a name is parted, as the program looks: what is ahead of the slash, and behind it. -/
def partT (s : List UInt8) : Option (List UInt8 × List UInt8) :=
  if s.length ≤ 100 then some ([], s)
  else if Lib.indexByte (s.drop (s.length - 101)) 47 < 0 then none
  else if 155 < (Lib.indexByte (s.drop (s.length - 101)) 47).toNat + (s.length - 101) ∨ (Lib.indexByte (s.drop (s.length - 101)) 47).toNat + (s.length - 101) = s.length - 1 then none
  else some (s.take ((Lib.indexByte (s.drop (s.length - 101)) 47).toNat + (s.length - 101)), s.drop ((Lib.indexByte (s.drop (s.length - 101)) 47).toNat + (s.length - 101) + 1))
def partV : Option (List UInt8 × List UInt8) → Value
  | none => .tuple #[.string ⟨#[]⟩, .string ⟨#[]⟩, .bool false]
  | some (p, r) => .tuple #[.string (bs p), .string (bs r), .bool true]
theorem tidx_any (l : List UInt8) (c : UInt8) (w : World) : Calls Tryz.prog 34 #[.string (bs l), .int .u8 (c.toNat : Int)] w fun e w' => e = .returned (.int .i64 (Lib.indexByte l c)) ∧ w = w' :=
  (Tryz.strings_IndexByte (bs l) _ w).mono fun e w' ⟨h1, h2⟩ => ⟨by simpa [bs_list] using h1, h2.symm⟩
theorem results3 {fn : Func} {t u v : Tmp} (h : fn.results = #[.tmp t, .tmp u, .tmp v]) (tmps : Array Value) (P : Program) (w : World) :
    (results fn tmps).run P w = .ok (.tuple #[tmps.getD t undef, tmps.getD u undef, tmps.getD v undef]) w := by
  simp [results, h]
set_option maxRecDepth 20000 in
set_option maxHeartbeats 8000000 in
theorem tpart_any (s : List UInt8) (w : World) (hs : s.length ≤ 100000) :
    Calls Tryz.prog 17 #[.string (bs s)] w fun r w' => r = .returned (partV (partT s)) ∧ Below w.heap.size w w' := by
  obtain ⟨R, HR⟩ : ∃ R, Hid (R = partT s) := ⟨_, Lib.hid rfl⟩
  rw [← HR.out]
  have HD : Hid (R = if s.length ≤ 100 then some ([], s)
    else if Lib.indexByte (s.drop (s.length - 101)) 47 < 0 then none
    else if 155 < (Lib.indexByte (s.drop (s.length - 101)) 47).toNat + (s.length - 101) ∨ (Lib.indexByte (s.drop (s.length - 101)) 47).toNat + (s.length - 101) = s.length - 1 then none
    else some (s.take ((Lib.indexByte (s.drop (s.length - 101)) 47).toNat + (s.length - 101)), s.drop ((Lib.indexByte (s.drop (s.length - 101)) 47).toNat + (s.length - 101) + 1))) := Lib.hid HR.out
  clear HR
  have hz := bs_size s
  by_cases h100 : s.length ≤ 100
  · have q1 : decide ((s.length : Int) ≤ 100) = true := decide_eq_true (by omega)
    have q2 : (s.length : Int) ≤ 100 := by omega
    have hV : R = some ([], s) := by rw [HD.out, if_pos h100]
    clear HD
    subst hV
    go_enter Tryz.func17, Tryz.ntmps17
    go_wp2_with fail
    (try simp only [Exit.inBlock, Exit.then])
    refine bodyPost_ret (results3 rfl _ _ _) rfl ?_
    exact ⟨rfl, Below.refl _ _⟩
  have q1 : decide ((s.length : Int) ≤ 100) = false := decide_eq_false (by omega)
  have q2 : ¬ (s.length : Int) ≤ 100 := by omega
  have HD1 := Lib.hid (HD.out.trans (if_neg h100))
  clear HD
  obtain ⟨m, hm⟩ : ∃ m, s.length - 101 = m := ⟨_, rfl⟩
  rw [hm] at HD1
  have w1 : IntKind.i64.wrap ((s.length : Int) - 100) = (s.length : Int) - 100 := i64_in _ (by omega) (by omega)
  have w2 : IntKind.i64.wrap ((s.length : Int) - 100 - 1) = (m : Int) := by rw [i64_in _ (by omega) (by omega)]; omega
  have hex : (bs s).extract m s.length = bs (s.drop m) := by
    have := ext_drop (bs s) m
    rw [hz] at this
    exact this
  have i1 : (0 : Int) ≤ (m : Int) := by omega
  have i2 : (m : Int) ≤ (s.length : Int) := by omega
  have i3 : m ≤ s.length := by omega
  have hix := fun W => tidx_any (s.drop m) 47 W
  have hge := Lib.indexByte_ge (s.drop m) 47
  go_enter Tryz.func17, Tryz.ntmps17
  go_upto_region 4 with (go_at_call 34; refine (hix _).mono ?_; rintro r Ww ⟨rfl, rfl⟩)
  obtain ⟨I, HI⟩ : ∃ I, Lib.indexByte (s.drop m) 47 = I := ⟨_, rfl⟩
  have HIX := Lib.hid HI
  rw [HI] at HD1 hge ⊢
  clear hix hex
  by_cases hI : I < 0
  · have p1 : decide (I < 0) = true := decide_eq_true hI
    have hV : R = none := by rw [HD1.out, if_pos hI]
    clear HD1 HI
    subst hV
    go_wp2_with fail
    (try simp only [Exit.inBlock, Exit.then])
    refine bodyPost_ret (results3 rfl _ _ _) rfl ?_
    exact ⟨rfl, Below.refl _ _⟩
  have p1 : decide (I < 0) = false := decide_eq_false hI
  have HD2 := Lib.hid (HD1.out.trans (if_neg hI))
  obtain ⟨k, rfl⟩ : ∃ k : Nat, I = (k : Int) := ⟨I.toNat, by omega⟩
  have hkl : k < (s.drop m).length := (List.getElem?_eq_some_iff.1 (Lib.indexByte_some HIX.out).1).1
  rw [List.length_drop] at hkl
  rw [Int.toNat_natCast] at HD2
  obtain ⟨j, hj⟩ : ∃ j, k + m = j := ⟨_, rfl⟩
  rw [hj] at HD2
  have wj : IntKind.i64.wrap ((k : Int) + (m : Int)) = (j : Int) := by rw [i64_in _ (by omega) (by omega)]; omega
  have hjl : j < s.length := by omega
  have w3 : IntKind.i64.wrap ((s.length : Int) - 1) = (s.length : Int) - 1 := i64_in _ (by omega) (by omega)
  clear HD1 HI hI HIX
  by_cases h155 : 155 < j
  · have r1 : decide ((155 : Int) < (j : Int)) = true := decide_eq_true (by omega)
    have r2 : (155 : Int) < (j : Int) := by omega
    have r3 : 155 < j := h155
    have hV : R = none := by rw [HD2.out, if_pos (.inl h155)]
    clear HD2
    subst hV
    go_wp2_with fail
    (try simp only [Exit.inBlock, Exit.then])
    refine bodyPost_ret (results3 rfl _ _ _) rfl ?_
    exact ⟨rfl, Below.refl _ _⟩
  have r1 : decide ((155 : Int) < (j : Int)) = false := decide_eq_false (by omega)
  have r2 : ¬ (155 : Int) < (j : Int) := by omega
  have r3 : ¬ 155 < j := h155
  by_cases hl1 : j = s.length - 1
  · have t1 : ((j : Int) == (s.length : Int) - 1) = true := by rw [beq_iff_eq]; omega
    have hV : R = none := by rw [HD2.out, if_pos (.inr hl1)]
    clear HD2 hl1
    subst hV
    go_wp2_with fail
    (try simp only [Exit.inBlock, Exit.then])
    refine bodyPost_ret (results3 rfl _ _ _) rfl ?_
    exact ⟨rfl, Below.refl _ _⟩
  have t1 : ((j : Int) == (s.length : Int) - 1) = false := by simpa using (show ¬ (j : Int) = (s.length : Int) - 1 by omega)
  have hV : R = some (s.take j, s.drop (j + 1)) := by rw [HD2.out, if_neg (fun h => h.elim h155 hl1)]
  clear HD2 hl1
  subst hV
  have hx1 : (bs s).extract 0 j = bs (s.take j) := ext_take (bs s) j (by omega)
  have hx2 : (bs s).extract (j + 1) s.length = bs (s.drop (j + 1)) := by
    have := ext_drop (bs s) (j + 1)
    rw [hz] at this
    exact this
  have wj1 : IntKind.i64.wrap ((j : Int) + 1) = (j : Int) + 1 := i64_in _ (by omega) (by omega)
  have c7 : ((j : Int) + 1).toNat = j + 1 := by omega
  have c1 : (0 : Int) ≤ (j : Int) := by omega
  have c2 : (j : Int) ≤ (s.length : Int) := by omega
  have c3 : j ≤ s.length := by omega
  have c4 : (0 : Int) ≤ (j : Int) + 1 := by omega
  have c5 : (j : Int) + 1 ≤ (s.length : Int) := by omega
  have c8 : ¬ (s.length : Int) < (j : Int) + 1 := by omega
  have c6 : j + 1 ≤ s.length := by omega
  go_upto_region 9 with fail
  refine wp_region_plan (fun _ : World => True) [(false, 0), (false, 1), (false, 2), (false, 3), (false, 4), (false, 5), (false, 6), (false, 7), (false, 8), (false, 9)] (by kernel_rfl) (by kernel_rfl) (trivial) ?_
  simp only [planOps, List.map, List.getD_cons_zero, List.getD_cons_succ]
  iterate 10 ((first | refine plan_quiet (v := ?_) rfl rfl (fun w' hw' => ?_) ?_ | refine plan_calm (v := ?_) (tt_of) rfl (fun w' hw' => ?_) ?_); rotate_left; (focus (go_simp <;> (first | with_reducible rfl | (rw [if_neg (by simp [undef])]; try rfl) | omega))); simp only [Act.put, List.setIfInBounds_toArray, List.set_cons_zero, List.set_cons_succ])
  refine plan_end ?_
  go_wp2_with fail
  (try simp only [Exit.inBlock, Exit.then])
  refine bodyPost_ret (results3 rfl _ _ _) rfl ?_
  exact ⟨rfl, (Below.refl _ _).drew⟩
end Go.Proofs.YtpheifdpjcppdaaGreatDoor
namespace Go.Proofs.YtpheifdpjcppdaaGreatDoor
open Go.RowKit
/-- A record: how long it is, and what it tells. -/
def recB (k v : List UInt8) : List UInt8 := Lib.decDigits ((recR k v).length + 3) ++ recR k v
theorem dec3 : ∀ n, n < 1000 → 100 ≤ n → (Lib.decDigits n).length = 3 := by
  have h : ((List.range 1000).all fun n => decide (n < 100) || decide ((Lib.decDigits n).length = 3)) = true := by decide +kernel
  intro n h1 h2
  have := List.all_eq_true.1 h n (List.mem_range.2 h1)
  simp at this
  omega
set_option maxRecDepth 20000 in
set_option maxHeartbeats 8000000 in
theorem trec_any (k v : List UInt8) (w : World) (h1 : 100 ≤ (recR k v).length) (h2 : (recR k v).length ≤ 900) (hT : Tab w) :
    Calls Tryz.prog 19 #[.string (bs k), .string (bs v)] w fun r w' => r = .returned (.string (bs (recB k v))) ∧ Below w.heap.size w w' := by
  have zk := bs_size k
  have zv := bs_size v
  have hlen : (recR k v).length = 1 + k.length + 1 + v.length + 1 := by simp only [recR, List.length_append, List.length_cons, List.length_nil]
  have HR : Hid (bs (recR k v) = ((bs [32] ++ bs k) ++ bs [61] ++ bs v) ++ bs [10]) := Lib.hid (by rw [recR]; simp only [bs_app])
  have HB : Hid (recB k v = Lib.decDigits ((recR k v).length + 3) ++ recR k v) := Lib.hid rfl
  have zr := bs_size (recR k v)
  obtain ⟨B, HBB⟩ : ∃ B, Hid (B = recB k v) := ⟨_, Lib.hid rfl⟩
  rw [← HBB.out] at HB ⊢
  obtain ⟨R, hR⟩ : ∃ R, Hid (R = recR k v) := ⟨_, Lib.hid rfl⟩
  rw [← hR.out] at h1 h2 hlen HR HB zr
  have x1 : ¬ 9223372036854775807 < 1 + k.length := by omega
  have x2 : ¬ 9223372036854775807 < 1 + k.length + 1 := by omega
  have x3 : ¬ 9223372036854775807 < 1 + k.length + 1 + v.length := by omega
  have x4 : ¬ 9223372036854775807 < 1 + k.length + 1 + v.length + 1 := by omega
  clear HBB hR
  go_enter Tryz.func19, Tryz.ntmps19
  go_upto_region 2 with fail
  have hRv : ({ data := #[32] } ++ bs k ++ { data := #[61] } ++ bs v ++ { data := #[10] } : ByteArray) = bs R := by rw [HR.out]; rfl
  simp only [ByteArray.append_assoc] at hRv ⊢
  rw [hRv]
  obtain ⟨n, HN⟩ : ∃ n, Hid (n = R.length) := ⟨_, Lib.hid rfl⟩
  rw [← HN.out] at h1 h2 HB zr
  clear hRv hlen x1 x2 x3 x4
  have y1 : (bs (Lib.decDigits n)).size = 3 := by rw [bs_size]; exact dec3 n (by omega) h1
  have y2 : (bs (Lib.decDigits (n + 3))).size = 3 := by rw [bs_size]; exact dec3 (n + 3) (by omega) (by omega)
  have HR2 : Hid (bs B = bs (Lib.decDigits (n + 3)) ++ bs R) := Lib.hid (by rw [HB.out, bs_app])
  clear HB HR
  go_wp2_with fail
  go_loopg [6] 2 (fun G s6 wr => ∃ k : Nat, (k = n ∧ G = 2 ∨ k = n + 3 ∧ G = 1) ∧ s6 = .int .i64 (k : Int) ∧ Below w.heap.size w wr)
  case atStart => exact ⟨n, .inl ⟨rfl, rfl⟩, rfl, .refl _ _⟩
  case round =>
    obtain ⟨k, hk, rfl, hb⟩ := hrel
    have hTr := hT.below hb
    have wn : IntKind.i64.wrap ((n : Int) + 3) = (n : Int) + 3 := i64_in _ (by omega) (by omega)
    rcases hk with ⟨rfl, rfl⟩ | ⟨rfl, rfl⟩
    · have d1 := fun W (hW : Tab W) => dec_any k W (by omega) hW
      have q1 : ((k : Int) == (k : Int) + 3) = false := by simpa using (show ¬ (k : Int) = (k : Int) + 3 by omega)
      have q2 : ¬ ((k : Int) = (k : Int) + 3) := by omega
      have e1 : (⟨(Lib.decDigits k).toArray⟩ : ByteArray) = bs (Lib.decDigits k) := rfl
      simp only [e1] at d1
      generalize bs (Lib.decDigits k) = D at d1 y1
      clear e1 HN
      go_wp2_with fail
      refine (d1 _ hTr).mono ?_
      rintro e1 w1 ⟨rfl, hb1⟩
      go_wp2_with fail
      refine (d1 _ (hTr.below (hb1))).mono ?_
      rintro e1 w2 ⟨rfl, hb2⟩
      go_wp2_with fail
      go_roundg 1
      case measure => omega
      case rel => exact ⟨k + 3, .inr ⟨rfl, rfl⟩, by simp, (hb.trans (hb1.mono hb.size)).trans (hb2.mono (Nat.le_trans hb.size hb1.size))⟩
    · have d1 := fun W (hW : Tab W) => dec_any (n + 3) W (by omega) hW
      have q1 : (((n + 3 : Nat) : Int) == (n : Int) + 3) = true := by simp
      have q2 : (((n + 3 : Nat) : Int) = (n : Int) + 3) := by omega
      have e1 : (⟨(Lib.decDigits (n + 3)).toArray⟩ : ByteArray) = bs (Lib.decDigits (n + 3)) := rfl
      simp only [e1] at d1
      generalize bs (Lib.decDigits (n + 3)) = D at d1 y2 HR2
      clear e1 HN
      go_wp2_with fail
      refine (d1 _ hTr).mono ?_
      rintro e1 w1 ⟨rfl, hb1⟩
      go_wp2_with fail
      refine (d1 _ (hTr.below (hb1))).mono ?_
      rintro e1 w2 ⟨rfl, hb2⟩
      go_wp2_with fail
      go_ret
      exact ⟨by rw [HR2.out]; rfl, (hb.trans (hb1.mono hb.size)).trans (hb2.mono (Nat.le_trans hb.size hb1.size))⟩
end Go.Proofs.YtpheifdpjcppdaaGreatDoor
namespace Go.Proofs.YtpheifdpjcppdaaGreatDoor
open Go.RowKit
def longN : List UInt8 := [46, 47, 46, 47, 64, 76, 111, 110, 103, 76, 105, 110, 107]
/-- A head that tells but of one thing behind it. -/
def tellH (name : List UInt8) (kind : UInt8) (size : Nat) : Hd := ⟨name, [], [], 0, 0, 0, size, 0, kind, [], []⟩
/-- A text that is too long for a head. -/
def longB (kind : UInt8) (s : List UInt8) : List UInt8 := blockB (tellH longN kind (s.length + 1)) true ++ wholeB (s ++ [0])
theorem tell_ok {name : List UInt8} {kind : UInt8} {size : Nat} (h : size ≤ 10000) : HdOk (tellH name kind size) :=
  ⟨fits_of (w := 6) (by show 0 < _; omega), fits_of (w := 6) (by show 0 < _; omega), fits_of (w := 6) (by show 0 < _; omega), fits_of (w := 10) (by show size < _; omega), fits_of (w := 10) (by show 0 < _; omega)⟩
theorem CV.below {W W' : World} {e : TypeId} {gc cap : Nat} {s : List UInt8} (h : CV W e gc cap s) (hb : Below W.heap.size W W') : CV W' e gc cap s := by
  obtain ⟨cs, h1, h2, h3⟩ := h.row
  exact ⟨⟨cs, (hb.block gc h.lt).trans h1, h2, h3⟩, h.le, h.max⟩
set_option maxRecDepth 20000 in
set_option maxHeartbeats 8000000 in
theorem tlong_any (kind : UInt8) (s : List UInt8) (hs : s.length ≤ 1000) (w : World) (base : Nat) (v : Value) (l : List UInt8) (hown : w.ownsRow base 5 1 v l.length (bvs l)) (hbase : base ≤ w.heap.size) (hl : l.length ≤ 100000000) (hD : Deb w) :
    Calls Tryz.prog 18 #[v, .int .u8 (kind.toNat : Int), .string (bs s)] w fun r w' => ∃ v', r = .returned v' ∧ Row8 w v.ownBlock base 5 w' v' (l ++ longB kind s) := by
  have hH : Hid (headV (tellH longN kind (s.length + 1)) = .agg #[.string ⟨#[46, 47, 46, 47, 64, 76, 111, 110, 103, 76, 105, 110, 107]⟩, .string ⟨#[]⟩, .string ⟨#[]⟩, .int .i64 0, .int .i64 0, .int .i64 0, .int .i64 ((s.length + 1 : Nat) : Int), .int .i64 0, .int .u8 (kind.toNat : Int), .string ⟨#[]⟩, .string ⟨#[]⟩]) := Lib.hid rfl
  have hp := phead_any (tellH longN kind (s.length + 1)) true (tell_ok (by omega)) (by simp [tellH]) (by simp [tellH]) (by simp [tellH]) (by show s.length + 1 ≤ _; omega) (by simp [tellH]) w base v l hown hbase (by omega) hD
  have hbl := blockB_len (tell_ok (name := longN) (kind := kind) (size := s.length + 1) (by omega)) true
  have HB : Hid (longB kind s = blockB (tellH longN kind (s.length + 1)) true ++ wholeB (s ++ [0])) := Lib.hid rfl
  rw [hH.out, show magicB true = [117, 115, 116, 97, 114, 32, 32, 0] from rfl] at hp
  generalize blockB (tellH longN kind (s.length + 1)) true = B at hbl HB hp
  clear hH
  obtain ⟨A0, c0, rfl⟩ := own_form hown
  have zs := bs_size s
  have wn : IntKind.i64.wrap ((s.length : Int) + 1) = ((s.length + 1 : Nat) : Int) := by rw [i64_in _ (by omega) (by omega)]; omega
  go_enter Tryz.func18, Tryz.ntmps18
  go_upto_region 2 with (go_at_call 20; refine hp.mono ?_; clear hp; rintro r W1 ⟨v1, rfl, hr1⟩)
  obtain ⟨gc, ccap, Wc, hcv, hbc, hgc, hcc⟩ := conv_cv (P := Tryz.prog) W1 9 25 5 s Tryz.underlying9 Tryz.underlying25 Tryz.underlying5 (by omega)
  have hsb := SB.of_own (own_lit Wc [0] #[.int .u8 0] 5 (Nat.le_refl _) rfl (by unfold maxLen; simp))
  have hcc2 := hcc.below ((Below.refl _ Wc).alloc (Nat.le_refl _) (.cells #[.int .u8 0] 5))
  have hbc2 := hbc.trans (((Below.refl _ Wc).alloc (Nat.le_refl _) (.cells #[.int .u8 0] 5)).mono hbc.size)
  go_wp2_with first
    | (at_builtin; refine wpList_conv_bytes rfl _ _ 25 rfl Tryz.underlying25 u8info rfl hcc2 _ _ _ [0] rfl hsb (by rw [List.length_singleton]; omega) hgc ?_; intro A7 c7 W7 hb7 hsl7; have hsl7 := (hsl7 nowhere (fun _ h => h.elim)).sb8; generalize Value.slice A7 (s ++ [0]).length c7 = dv7 at hsl7 ⊢; have hr7 := hr1.below (hbc2.trans hb7); have hq := tputb_any (s ++ [0]) dv7 W7 base v1 (l ++ B) hr7.own hr7.lowW (by rw [List.length_append]; omega) hsl7 (by rw [List.length_append, List.length_singleton]; omega))
    | (go_at_call 21; refine hq.mono ?_; clear hq; rintro r W8 ⟨v8, rfl, hr8⟩)
  go_ret
  have hrr := hr7.trans hr8
  rw [List.append_assoc, ← HB.out] at hrr
  exact ⟨_, rfl, hrr⟩
end Go.Proofs.YtpheifdpjcppdaaGreatDoor
namespace Go.Proofs.YtpheifdpjcppdaaGreatDoor
open Go.RowKit
theorem beq_ba {a b : ByteArray} (h : ¬ a = b) : (a == b) = false := by
  obtain ⟨x⟩ := a
  obtain ⟨y⟩ := b
  have : (x == y) = false := by
    cases hq : (x == y) with
    | false => rfl
    | true => exact absurd (by rw [eq_of_beq hq]) h
  exact this
structure Fx (e : En) : Prop where
  k1 : 1 ≤ e.kind
  k2 : e.kind ≤ 4
  m1 : 0 ≤ e.mode
  m2 : e.mode ≤ 4095
  u1 : 0 ≤ e.uid
  u2 : e.uid ≤ 2097151
  g1 : 0 ≤ e.gid
  g2 : e.gid ≤ 2097151
  t1 : 0 ≤ e.mtime
  t2 : e.mtime ≤ 8589934591
  p1 : 1 ≤ e.path.length
  p2 : e.path.length ≤ 200
  l2 : e.link.length ≤ 200
  nd : e.kind ≠ 1 → e.data = []
  nl : e.kind ≠ 3 → e.kind ≠ 4 → e.link = []
  d2 : e.data.length ≤ 1048576
  o2 : e.owner.length ≤ 31
  q2 : e.group.length ≤ 31
theorem path_len {s : List UInt8} (h : pathOk s = true) : 1 ≤ s.length ∧ s.length ≤ 200 := by
  simp only [pathOk, Bool.and_eq_true, Bool.not_eq_true', decide_eq_false_iff_not] at h
  omega
theorem chk_fx {e : En} (h : chkE e = 0) : Fx e := by
  unfold chkE at h
  by_cases h1 : pathOk e.path = false
  · rw [if_pos h1] at h; exact absurd h (by decide)
  rw [if_neg h1] at h
  by_cases h2 : e.kind < 1 ∨ 4 < e.kind
  · rw [if_pos h2] at h; exact absurd h (by decide)
  rw [if_neg h2] at h
  by_cases h3 : numBad e = true
  · rw [if_pos h3] at h; exact absurd h (by decide)
  rw [if_neg h3] at h
  simp only [numBad, Bool.or_eq_true, decide_eq_true_iff, not_or] at h3
  have hp := path_len (by simpa using h1 : pathOk e.path = true)
  by_cases h4 : ownOk e.owner = false ∨ ownOk e.group = false
  · rw [if_pos h4] at h; exact absurd h (by decide)
  rw [if_neg h4] at h
  rw [not_or] at h4
  by_cases h5 : e.kind = 3 ∧ tgtOk e.link = false
  · rw [if_pos h5] at h; exact absurd h (by decide)
  rw [if_neg h5] at h
  by_cases h6 : e.kind = 4 ∧ (pathOk e.link = false ∨ e.link = e.path)
  · rw [if_pos h6] at h; exact absurd h (by decide)
  rw [if_neg h6] at h
  by_cases h7 : e.kind ≠ 3 ∧ e.kind ≠ 4 ∧ e.link ≠ []
  · rw [if_pos h7] at h; exact absurd h (by decide)
  rw [if_neg h7] at h
  by_cases h8 : e.kind ≠ 1 ∧ e.data ≠ []
  · rw [if_pos h8] at h; exact absurd h (by decide)
  rw [if_neg h8] at h
  by_cases h9 : 1048576 < e.data.length
  · rw [if_pos h9] at h; exact absurd h (by decide)
  have hnl : e.kind ≠ 3 → e.kind ≠ 4 → e.link = [] := fun a b => Classical.byContradiction fun c => h7 ⟨a, b, c⟩
  have hl : e.link.length ≤ 200 := by
    by_cases a : e.kind = 3
    · have : tgtOk e.link = true := by
        cases ht : tgtOk e.link with
        | true => rfl
        | false => exact absurd ⟨a, ht⟩ h5
      simp only [tgtOk, Bool.and_eq_true, decide_eq_true_iff] at this
      omega
    · by_cases b : e.kind = 4
      · have : pathOk e.link = true := by
          cases ht : pathOk e.link with
          | true => rfl
          | false => exact absurd ⟨b, .inl ht⟩ h6
        exact (path_len this).2
      · rw [hnl a b]; simp
  have ho : ∀ s : List UInt8, ¬ ownOk s = false → s.length ≤ 31 := fun s hs => by
    have : ownOk s = true := by simpa using hs
    simp only [ownOk, Bool.and_eq_true, decide_eq_true_iff] at this
    exact this.1
  exact ⟨by omega, by omega, by omega, by omega, by omega, by omega, by omega, by omega, by omega, by omega, hp.1, hp.2, hl, fun a => Classical.byContradiction fun c => h8 ⟨a, c⟩, hnl, by omega, ho _ h4.1, ho _ h4.2⟩
/-- An entry's name in the archive. -/
def nameT (e : En) : List UInt8 := if e.kind = 2 then e.path ++ [47] else e.path
theorem nameT_le {e : En} (h : Fx e) : (nameT e).length ≤ 201 := by
  have := h.p2
  unfold nameT
  split
  · rw [List.length_append, List.length_singleton]; omega
  · omega
def kindU (k : Int) : UInt8 := if k = 1 then 48 else if k = 4 then 49 else if k = 3 then 50 else 53
theorem kindU_is (k : Int) : ((kindU k).toNat : Int) = kindT k := by
  unfold kindU kindT
  split
  · rfl
  split
  · rfl
  split <;> rfl
/-- An entry's head. -/
def hdH (e : En) (name pfx : List UInt8) : Hd := ⟨name, pfx, e.link, e.mode.toNat, e.uid.toNat, e.gid.toNat, e.data.length, e.mtime.toNat, kindU e.kind, e.owner, e.group⟩
theorem hdH_ok {e : En} (h : Fx e) (name pfx : List UInt8) : HdOk (hdH e name pfx) := by
  obtain ⟨_, _, m1, m2, u1, u2, g1, g2, t1, t2, _, _, _, _, _, d2, _, _⟩ := h
  exact ⟨fits_of (w := 6) (by show e.mode.toNat < _; omega), fits_of (w := 6) (by show e.uid.toNat < _; omega), fits_of (w := 6) (by show e.gid.toNat < _; omega), fits_of (w := 10) (by show e.data.length < _; omega), fits_of (w := 10) (by show e.mtime.toNat < _; omega)⟩
def paxN : List UInt8 := [80, 97, 120, 72, 101, 97, 100, 101, 114, 115]
def kPath : List UInt8 := [112, 97, 116, 104]
def kLink : List UInt8 := [108, 105, 110, 107, 112, 97, 116, 104]
/-- What the style Pax tells ahead of an entry. -/
def toldB (e : En) : List UInt8 := (if (partT (nameT e)).isNone = true then recB kPath (nameT e) else []) ++ (if 100 < e.link.length then recB kLink e.link else [])
/-- What stands ahead of an entry's head. -/
def aheadT (s : Nat) (e : En) : List UInt8 :=
  if s = 0 then []
  else if s = 1 then (if 100 < (nameT e).length then longB 76 (nameT e) else []) ++ (if 100 < e.link.length then longB 75 e.link else [])
  else if toldB e = [] then [] else blockB (tellH paxN 120 (toldB e).length) false ++ wholeB (toldB e)
def partH (e : En) : Option (List UInt8 × List UInt8) → List UInt8
  | some (p, r) => blockB (hdH e r p) false
  | none => blockB (hdH e (nameT e) []) false
def headT (s : Nat) (e : En) : List UInt8 := if s = 1 then blockB (hdH e (nameT e) []) true else partH e (partT (nameT e))
/-- An entry in the archive. -/
def memT (s : Nat) (e : En) : List UInt8 := aheadT s e ++ headT s e ++ wholeB e.data
def accT (s : Nat) (l : List En) (k : Nat) : List UInt8 := ((l.take k).map (memT s)).flatten
theorem accT_step (s : Nat) (l : List En) (k : Nat) (h : k < l.length) : accT s l (k + 1) = accT s l k ++ memT s l[k] := by
  rw [accT, take_snoc l k h, List.map_append, List.flatten_append]
  simp [accT]
/-- An entry that the style Ustar does not take. -/
def badU (e : En) : Bool := (partT (nameT e)).isNone || decide (100 < e.link.length)
def tarB (s : Nat) (l : List En) : List UInt8 := accT s l l.length ++ List.replicate 1024 0
theorem recR_len (k v : List UInt8) : (recR k v).length = k.length + v.length + 3 := by
  simp only [recR, List.length_append, List.length_cons, List.length_nil]; omega
theorem recB_len {k v : List UInt8} (h1 : 100 ≤ (recR k v).length) (h2 : (recR k v).length ≤ 900) : (recB k v).length = (recR k v).length + 3 := by
  rw [recB, List.length_append, dec3 _ (by omega) (by omega)]; omega
theorem partT_none {s : List UInt8} (h : partT s = none) : 100 < s.length := by
  unfold partT at h
  by_cases h1 : s.length ≤ 100
  · rw [if_pos h1] at h; cases h
  · omega
theorem wholeB_le (s : List UInt8) : (wholeB s).length ≤ s.length + 512 := by
  rw [wholeB, List.length_append, List.length_replicate]; omega
theorem toldB_le {e : En} (h : Fx e) : (toldB e).length ≤ 1000 := by
  have hn := nameT_le h
  have hl := h.l2
  have h1 : (if (partT (nameT e)).isNone = true then recB kPath (nameT e) else []).length ≤ 400 := by
    split
    · rename_i h1
      have := partT_none (by simpa using h1)
      have e1 := recR_len kPath (nameT e)
      have e2 : kPath.length = 4 := rfl
      rw [recB_len (by omega) (by omega)]; omega
    · simp
  have h2 : (if 100 < e.link.length then recB kLink e.link else []).length ≤ 400 := by
    split
    · have e1 := recR_len kLink e.link
      have e2 : kLink.length = 8 := rfl
      rw [recB_len (by omega) (by omega)]; omega
    · simp
  rw [toldB, List.length_append]; omega
theorem longB_le {k : UInt8} {s : List UInt8} (h : s.length ≤ 1000) : (longB k s).length ≤ 3000 := by
  have h1 := blockB_len (tell_ok (name := longN) (kind := k) (size := s.length + 1) (by omega)) true
  have h2 := wholeB_le (s ++ [0])
  rw [List.length_append, List.length_singleton] at h2
  rw [longB, List.length_append]; omega
theorem memT_le {e : En} (h : Fx e) (s : Nat) : (memT s e).length ≤ e.data.length + 10000 := by
  have hn := nameT_le h
  have hl := h.l2
  have h1 : (aheadT s e).length ≤ 7000 := by
    unfold aheadT
    split
    · simp
    split
    · have a1 : (if 100 < (nameT e).length then longB 76 (nameT e) else []).length ≤ 3000 := by
        split
        · exact longB_le (by omega)
        · simp
      have a2 : (if 100 < e.link.length then longB 75 e.link else []).length ≤ 3000 := by
        split
        · exact longB_le (by omega)
        · simp
      rw [List.length_append]; omega
    · have ht := toldB_le h
      have hw := wholeB_le (toldB e)
      have hb := blockB_len (tell_ok (name := paxN) (kind := 120) (size := (toldB e).length) (by omega)) false
      split
      · simp
      · rw [List.length_append]; omega
  have h2 : (headT s e).length = 512 := by
    unfold headT
    split
    · exact blockB_len (hdH_ok h _ _) _
    · cases partT (nameT e) with
      | some p => exact blockB_len (hdH_ok h _ _) _
      | none => exact blockB_len (hdH_ok h _ _) _
  have h3 := wholeB_le e.data
  rw [memT, List.length_append, List.length_append]; omega
/-- What stands in a round of Write. -/
structure TS (w : World) (gE : Nat) (ce : Array Value) (gH : Nat) (ch : Array Value) (v : Value) (la : List UInt8) (W : World) : Prop where
  row : Row8 w none w.heap.size 5 W v la
  be : Blk W gE 41 ce
  bh : Blk W gH 43 ch
  low : w.heap.size ≤ gH
section
variable {w W W' : World} {gE gH : Nat} {ce ch : Array Value} {v v' : Value} {la lb : List UInt8}
theorem Row8.belw (h : Row8 w none w.heap.size 5 W v la) : Below w.heap.size w W := h.bel fun _ h => by cases h
theorem TS.below (h : TS w gE ce gH ch v la W) (hb : Below W.heap.size W W') : TS w gE ce gH ch v la W' :=
  ⟨h.row.below hb, h.be.below hb h.be.lt, h.bh.below hb h.bh.lt, h.low⟩
theorem TS.poke (h : TS w gE ce gH ch v la W) (i : Nat) (u : Value) : TS w gE ce gH (ch.setIfInBounds i u) v la (W.setCell ⟨gH, i, none⟩ u) := by
  have hk : Kept (fun k => k = gH) W (W.setCell ⟨gH, i, none⟩ u) := (Kept.refl _ W).setCell (p := ⟨gH, i, none⟩) u fun _ => rfl
  have hr := h.row
  refine ⟨⟨own_other hr.own (a := ⟨gH, i, none⟩) u fun e => ?_, hr.new, Kept.of_below (hr.belw.trans (hk.below hr.belw.size fun k _ e => by rw [e]; exact h.low)) _, hr.low⟩, h.be.other (a := ⟨gH, i, none⟩) u (Blk.apartT h.be h.bh (by decide)), h.bh.set i, h.low⟩
  obtain ⟨c, hc⟩ := own_typed hr.own e
  exact Blk.apartT hc h.bh (by decide) rfl
theorem TS.grow (h : TS w gE ce gH ch v la W) (k : Row8 W v.ownBlock w.heap.size 5 W' v' lb) : TS w gE ce gH ch v' lb W' := by
  have hn : ∀ {g : Nat} {t : TypeId} {cs : Array Value}, Blk W g t cs → 5 ≠ t → v.ownBlock ≠ some g := fun hb hne => own_notblk h.row.own hb hne
  exact ⟨h.row.trans k, k.kept.blk h.be (hn h.be (by decide)), k.kept.blk h.bh (hn h.bh (by decide)), h.low⟩
end
theorem sl_back {w wr : World} {l : List En} {b off cap k : Nat} {dv : Value} {n : Nat} (hb : Below w.heap.size w wr) (h0 : Sl 10 Rent (fun k => w.heap.size ≤ k) w (.slice (some ⟨b, off, none⟩) n cap) l) (hk : k < l.length) (hat : EntAt wr b (off + k * 10) l[k] dv) (_ : Sl 1 Rbyte (fun k => w.heap.size ≤ k) wr dv l[k].data) :
    Sl 1 Rbyte (fun k => w.heap.size ≤ k) w dv l[k].data := by
  have hn := h0.at.1
  obtain ⟨b', off', hA, hX, hc⟩ := h0.ent (by omega)
  injection hA with hA
  injection hA with e1 e2
  subst e1 e2
  obtain ⟨dv', hat', hdv'⟩ := hc k hk
  have h9 := (Kept.low hb).cell hat'.c9 hX
  rw [hat.c9] at h9
  injection h9 with h9
  rw [h9]
  exact hdv'
end Go.Proofs.YtpheifdpjcppdaaGreatDoor
