/- The walk of the document's Write (tar). Both Writes (tar), whatever is handed in. -/
import Derived.Test.YtpheifdpjcppdaaGreatDoorTaOO
import Derived.Test.YtpheifdpjcppdaaGreatDoorTaWW
namespace Go.Proofs.YtpheifdpjcppdaaGreatDoor
open Go.RowKit
def badT (s : Nat) (e : En) : Bool := decide (s = 0) && badU e
theorem headT_len {e : En} (h : Fx e) (s : Nat) : (headT s e).length = 512 := by
  unfold headT
  split
  · exact blockB_len (hdH_ok h _ _) _
  · cases partT (nameT e) with
    | some p => exact blockB_len (hdH_ok h _ _) _
    | none => exact blockB_len (hdH_ok h _ _) _
theorem one_bad {s : Nat} {e : En} (h : badT s e = true) : oneT s e = [] := by
  rw [badT, Bool.and_eq_true, decide_eq_true_iff] at h
  rw [oneT, if_pos h]
theorem one_good {s : Nat} {e : En} (h : badT s e = false) : oneT s e = aheadT s e ++ headT s e := by
  rw [oneT, if_neg]
  rintro ⟨h1, h2⟩
  rw [badT, h2, Bool.and_true, decide_eq_false_iff_not] at h
  exact h h1
theorem one_some {s : Nat} {e : En} (hF : Fx e) (h : badT s e = false) : 512 ≤ (oneT s e).length := by
  rw [one_good h, List.length_append, headT_len hF]; omega
theorem path_head {s : List UInt8} (h : pathOk s = true) : s.head? ≠ some 47 := by
  intro h1
  cases s with
  | nil => cases h1
  | cons c t =>
    simp only [List.head?_cons, Option.some.injEq] at h1
    subst h1
    have : (partsB 47 ((47 : UInt8) :: t)).all partOk = false := by
      rw [partsB, splitP, if_pos rfl, List.all_cons]
      rfl
    simp [pathOk, this] at h
theorem name_head {e : En} (h : pathOk e.path = true) : (nameT e).head? ≠ some 47 := by
  have h0 := path_head h
  have hl := (path_len h).1
  unfold nameT
  split
  · cases hp : e.path with
    | nil => rw [hp] at hl; simp at hl
    | cons c t => rw [hp] at h0; simpa using h0
  · exact h0
theorem partT_at {s p r : List UInt8} (h : partT s = some (p, r)) (hl : 100 < s.length) : s[p.length]? = some 47 := by
  rw [partT, if_neg (by omega)] at h
  by_cases h1 : Lib.indexByte (s.drop (s.length - 101)) 47 < 0
  · rw [if_pos h1] at h; cases h
  rw [if_neg h1] at h
  by_cases h2 : 155 < (Lib.indexByte (s.drop (s.length - 101)) 47).toNat + (s.length - 101) ∨ (Lib.indexByte (s.drop (s.length - 101)) 47).toNat + (s.length - 101) = s.length - 1
  · rw [if_pos h2] at h; cases h
  rw [if_neg h2] at h
  obtain ⟨o', ho⟩ : ∃ o' : Nat, Lib.indexByte (s.drop (s.length - 101)) 47 = o' := ⟨(Lib.indexByte (s.drop (s.length - 101)) 47).toNat, by omega⟩
  have h4 := (Lib.indexByte_some ho).1
  have h5 := (List.getElem?_eq_some_iff.1 h4).1
  rw [List.length_drop] at h5
  rw [List.getElem?_drop] at h4
  rw [ho, Int.toNat_natCast] at h
  injection h with h
  injection h with e1 e2
  have hpl : p.length = s.length - 101 + o' := by rw [← e1, List.length_take]; omega
  rw [hpl]
  exact h4
theorem no_head {e : En} (h : chkE e = 0) : NoHead e := by
  intro p r hp hl
  rcases Nat.eq_zero_or_pos p.length with h0 | h0
  · exfalso
    have hk : pathOk e.path = true := by
      cases hq : pathOk e.path with
      | true => rfl
      | false => rw [chkE, if_pos hq] at h; exact absurd h (by decide)
    have h1 := partT_at hp hl
    rw [h0] at h1
    exact name_head hk (by rw [List.head?_eq_getElem?]; exact h1)
  · exact h0
theorem rone_any (s : Nat) (hs : s ≤ 2) (e : En) (A : Option Addr) (cap : Nat) (w : World) (HF : Fx e) (HH : NoHead e) :
    Calls Tryz.prog 22 #[entV e (.slice A e.data.length cap), .int .i64 (s : Int)] w fun r w' => r = .returned (.string (bs (oneT s e))) ∧ Below w.heap.size w w' := by
  match s, hs with
  | 0, _ => exact rone0_any e A cap w HF HH
  | 1, _ => exact rone1_any e A cap w HF HH
  | 2, _ => exact rone2_any e A cap w HF HH
set_option maxRecDepth 20000 in
set_option maxHeartbeats 16000000 in
theorem trwrite_any (s : Nat) (hs : s ≤ 2) (l : List En) (v : Value) (X : Nat → Prop) (w : World) (hsl : Sl 10 Rent X w v l) (hL : LB l) (hlen : l.length ≤ 50) (hR : Rt l) :
    Calls Tryz.prog 10 #[v, .int .i64 (s : Int)] w fun r w' => ∃ v', r = .returned (.tuple #[v', .int .i64 (if l.any (badT s) = true then 10 else 0)]) ∧ Below w.heap.size w w' ∧ Sl 1 Rbyte nowhere w' v' (if l.any (badT s) = true then [] else tarB s l) := by
  have hck := rchkall_any l v X w hsl hL
  rw [rt_chk hR] at hck
  have hsl0 : Sl 10 Rent (fun k => w.heap.size ≤ k) w v l := hsl.mono good_ent (by omega) fun k hk h => absurd h (by omega)
  clear hsl
  obtain ⟨A, cap, rfl, hc1, hc2⟩ := hsl0.form
  unfold maxLen at hc2
  have HFX : Hid (∀ e ∈ l, Fx e ∧ NoHead e) := Lib.hid fun e he => ⟨chk_fx (hR.chk e he), no_head (hR.chk e he)⟩
  obtain ⟨rc, HRC⟩ : ∃ r : Int, Hid (r = if l.any (badT s) = true then 10 else 0) := ⟨_, Lib.hid rfl⟩
  obtain ⟨rx, HRX⟩ : ∃ r, Hid (r = if l.any (badT s) = true then [] else tarB s l) := ⟨_, Lib.hid rfl⟩
  rw [← HRC.out, ← HRX.out]
  clear hL hR
  have q1 : decide ((s : Int) < 0) = false := decide_eq_false (by omega)
  have q2 : decide ((2 : Int) < (s : Int)) = false := decide_eq_false (by omega)
  have q1b : ¬ (s : Int) < 0 := by omega
  have q2b : ¬ (2 : Int) < (s : Int) := by omega
  go_enter Tryz.func10, Tryz.ntmps10
  go_upto_region 6 with (go_at_call 14; refine hck.mono ?_; clear hck; rintro e W1 ⟨rfl, hb⟩)
  clear q1 q2 q1b q2b
  go_wp2_with fail
  go_loopg [8, 9] l.length (fun G s8 s9 wr => ∃ (k : Nat) (acc : List UInt8), k ≤ l.length ∧ G = l.length - k ∧ s9 = .int .i64 (k : Int) ∧ s8 = .string (bs acc) ∧ Below w.heap.size w wr ∧ Hid (acc = accT s l k) ∧ Hid (acc.length ≤ k * 1100000) ∧ Hid (l.any (badT s) = (l.drop k).any (badT s)))
  case atStart => exact ⟨0, [], Nat.zero_le _, rfl, rfl, rfl, hb, Lib.hid (by simp [accT]), Lib.hid (by simp), Lib.hid rfl⟩
  case round =>
    clear hb
    obtain ⟨k, acc, hk, rfl, rfl, rfl, hbw, HAC, HLE, HLB⟩ := hrel
    have HLE2 : acc.length ≤ 60000000 := by have := HLE.out; omega
    have zac := bs_size acc
    by_cases hlt : k < l.length
    · have HST := Lib.hid (accT_step s l k hlt)
      have hslr := hsl0.keep good_ent (Kept.low hbw)
      obtain ⟨b, off, rfl, _, hc⟩ := hslr.ent (by omega)
      obtain ⟨dv, hat, hdv⟩ := hc k hlt
      obtain ⟨Ad, capd, rfl, _, _⟩ := hdv.form
      obtain ⟨HF, HNH⟩ := HFX.out _ (List.getElem_mem hlt)
      have hml := memT_le HF s
      have hd2 := HF.d2
      have HLN : Hid (acc.length + (memT s l[k]).length ≤ (k + 1) * 1100000) := Lib.hid (by have := HLE.out; omega)
      have hol : (oneT s l[k]).length ≤ 20000 := by
        cases hbt : badT s l[k] with
        | true => rw [one_bad hbt]; simp
        | false => 
          rw [memT, List.length_append, ← one_good hbt, wholeB, List.length_append] at hml
          omega
      have hwl := wholeB_le l[k].data
      have HLN2 : Hid (badT s l[k] = false → acc ++ oneT s l[k] ++ wholeB l[k].data = accT s l (k + 1)) := Lib.hid fun h => by rw [HST.out, ← HAC.out, memT, one_good h, List.append_assoc]
      have HLN3 : Hid (badT s l[k] = false → (acc ++ oneT s l[k] ++ wholeB l[k].data).length ≤ (k + 1) * 1100000) := Lib.hid fun h => by
        have := HLN.out
        rw [memT, ← one_good h, List.length_append] at this
        rw [List.length_append, List.length_append]
        omega
      have HBS := Lib.hid (show (l.drop k).any (badT s) = (badT s l[k] || (l.drop (k + 1)).any (badT s)) by rw [drop_cons l k hlt, List.any_cons])
      have HOS := Lib.hid (fun (h : badT s l[k] = false) => one_some (s := s) HF h)
      have HOB := Lib.hid (fun (h : badT s l[k] = true) => one_bad (s := s) (e := l[k]) h)
      have i1 : (0 : Int) ≤ (k : Int) := by omega
      have i2 : (k : Int) < (l.length : Int) := by omega
      have t1 : decide ((k : Int) < (l.length : Int)) = true := decide_eq_true i2
      have wk : IntKind.i64.wrap ((k : Int) + 1) = (k : Int) + 1 := i64_in _ (by omega) (by omega)
      have hro := rone_any s hs l[k] Ad capd wr HF HNH
      have hat2 := fun W (hb : Below wr.heap.size wr W) => hat.below hb
      have hdw := fun W (hb : Below wr.heap.size wr W) => Below.sl good_byte hb hdv
      clear hc hslr HST HLN hml HF HNH
      generalize l[k] = e at hat hdv hro HLN2 HLN3 HBS HOS HOB hol hwl hd2 hat2 hdw
      have HWH := Lib.hid (fun (hh : e.data.length ≤ 1048576) W => twhole_any e.data W (by omega))
      have c9' := fun W hb => (hat2 W hb).c9
      obtain ⟨path, kind, mode, uid, gid, owner, group, mtime, link, data⟩ := e
      obtain ⟨c0, c1, c2, c3, c4, c5, c6, c7, c8', c9⟩ := hat
      dsimp only at c0 c1 c2 c3 c4 c5 c6 c7 c8' c9 hol hwl hd2 c9' hdw HWH
      unfold entV at hro
      dsimp only at hro
      have hwh := HWH.out hd2
      clear HWH
      have zo := bs_size (oneT s ⟨path, kind, mode, uid, gid, owner, group, mtime, link, data⟩)
      have zw := bs_size (wholeB data)
      cases hbt : badT s ⟨path, kind, mode, uid, gid, owner, group, mtime, link, data⟩ with
      | true =>
        have h0 := HOB.out hbt
        rw [h0, show bs ([] : List UInt8) = ⟨#[]⟩ from rfl] at hro
        have hany : l.any (badT s) = true := by rw [HLB.out, HBS.out, hbt]; rfl
        have HV1 : Hid (rc = 10) := Lib.hid (by rw [HRC.out, if_pos hany])
        have HV2 : Hid (rx = []) := Lib.hid (by rw [HRX.out, if_pos hany])
        clear hany hbt h0 hat2
        go_wp2_with (go_at_call 22; refine hro.mono ?_; clear hro; rintro r W2 ⟨rfl, hb2⟩)
        go_ret2
        exact ⟨_, by rw [HV1.out]; rfl, hbw.trans (hb2.mono hbw.size), by rw [HV2.out]; exact Sl.nil _ _ _ _⟩
      | false =>
        have hpos := HOS.out hbt
        have HA1 := Lib.hid (HLN2.out hbt)
        have HA2 := Lib.hid (HLN3.out hbt)
        have HB2 : Hid (l.any (badT s) = (l.drop (k + 1)).any (badT s)) := Lib.hid (by rw [HLB.out, HBS.out, hbt]; rfl)
        clear hbt HLN2 HLN3 HBS HOS HOB HLB hat2
        generalize oneT s ⟨path, kind, mode, uid, gid, owner, group, mtime, link, data⟩ = o at hro zo hol hpos HA1 HA2
        dsimp only at HA1 HA2
        generalize wholeB data = wd at hwh zw hwl HA1 HA2
        have hne : ((bs o).toList == []) = false := by
          rw [toList_bs]
          cases o with
          | nil => simp at hpos
          | cons a t => rfl
        have hne2 : ¬ (bs o).toList = [] := by
          rw [toList_bs]
          intro h
          rw [h] at hpos
          simp at hpos
        have hne3 : (bs o).toList.isEmpty = false := by simpa using hne2
        have HT : Hid (bs acc ++ bs o ++ bs wd = bs (acc ++ o ++ wd)) := Lib.hid (by rw [bs_app, bs_app])
        have x1 : ¬ 9223372036854775807 < acc.length + o.length := by omega
        have x2 : ¬ 9223372036854775807 < acc.length + o.length + wd.length := by omega
        clear hdv
        go_wp2_with first
          | (go_at_call 22; refine hro.mono ?_; clear hro; rintro r W2 ⟨rfl, hb2⟩; have c9w := c9' _ hb2; have hst := str8 (hdw _ hb2).sb8; have e1 : (⟨data.toArray⟩ : ByteArray) = bs data := rfl; rw [e1] at hst; clear e1 c9')
          | (go_at_call 23; refine (hwh _).mono ?_; clear hwh; rintro r W3 ⟨rfl, rfl⟩)
        rw [HT.out]
        go_roundg (l.length - (k + 1))
        case measure => omega
        case rel => exact ⟨k + 1, _, by omega, rfl, by simp, rfl, hbw.trans (hb2.mono hbw.size), HA1, HA2, HB2⟩
    · have t1 : decide ((k : Int) < (l.length : Int)) = false := decide_eq_false (by omega)
      have hkl : k = l.length := by omega
      subst hkl
      have hany : l.any (badT s) = false := by rw [HLB.out]; simp
      have HV1 : Hid (rc = 0) := Lib.hid (by rw [HRC.out, hany]; rfl)
      have HV2 : Hid (rx = acc ++ List.replicate 1024 0) := Lib.hid (by rw [HRX.out, hany, if_neg (by simp), tarB, HAC.out])
      have hz := fun W => tzeros_any 1024 W (by omega)
      have zz := bs_size (List.replicate 1024 (0 : UInt8))
      rw [List.length_replicate] at zz
      have x1 : ¬ 9223372036854775807 < acc.length + 1024 := by omega
      have hql : (acc ++ List.replicate 1024 (0 : UInt8)).length ≤ 1000000000 := by rw [List.length_append, List.length_replicate]; omega
      have HT : Hid (bs acc ++ bs (List.replicate 1024 0) = bs (acc ++ List.replicate 1024 0)) := Lib.hid (by rw [bs_app])
      have HQL := Lib.hid hql
      generalize hzz : List.replicate 1024 (0 : UInt8) = Z at *
      clear hany HLB hzz hql
      obtain ⟨gc, cv, Wc, hcv, hbc, _, hsc⟩ := conv_sl2 (P := Tryz.prog) wr 9 25 5 (acc ++ Z) Tryz.underlying9 Tryz.underlying25 Tryz.underlying5 HQL.out
      rw [← HT.out] at hcv
      generalize hal : (acc ++ Z).length = al at hcv hsc
      clear hal
      go_wp2_with (go_at_call 24; refine (hz _).mono ?_; clear hz; rintro r W3 ⟨rfl, rfl⟩)
      go_ret2
      exact ⟨_, by rw [HV1.out]; rfl, hbw.trans (hbc.mono hbw.size), by rw [HV2.out]; exact hsc nowhere fun h => h⟩
end Go.Proofs.YtpheifdpjcppdaaGreatDoor
namespace Go.Proofs.YtpheifdpjcppdaaGreatDoor
open Go.RowKit
def badSt (st : Int) : Bool := decide (st < 0) || decide (2 < st)
/-- Why no archive is made. -/
def tarErr (st : Int) (l : List En) : Int := if badSt st = true then 1 else if (chkL l).2 ≠ 0 then (chkL l).2 else if l.any (badT st.toNat) = true then 10 else 0
def tarOut (st : Int) (l : List En) : List UInt8 := if tarErr st l = 0 then tarB st.toNat l else []
set_option maxRecDepth 20000 in
set_option maxHeartbeats 8000000 in
theorem twriteX_any (l : List En) (v : Value) (st : Int) (w : World) (h : badSt st = true) :
    Calls Tryz.prog 9 #[v, .int .i64 st] w fun r w' => r = .returned (.tuple #[.slice none 0 0, .int .i64 1]) ∧ w = w' := by
  have q0 : (st != 0) = true := by
    simp only [badSt, Bool.or_eq_true, decide_eq_true_iff] at h
    simp; omega
  have q1 : (st != 1) = true := by
    simp only [badSt, Bool.or_eq_true, decide_eq_true_iff] at h
    simp; omega
  have q2 : (st != 2) = true := by
    simp only [badSt, Bool.or_eq_true, decide_eq_true_iff] at h
    simp; omega
  clear h
  go_enter Tryz.func9, Tryz.ntmps9
  go_wp2_with fail
  go_ret2
  exact ⟨rfl, rfl⟩
set_option maxRecDepth 20000 in
set_option maxHeartbeats 8000000 in
theorem trwriteX_any (l : List En) (v : Value) (st : Int) (w : World) (h : badSt st = true) :
    Calls Tryz.prog 10 #[v, .int .i64 st] w fun r w' => r = .returned (.tuple #[.slice none 0 0, .int .i64 1]) ∧ w = w' := by
  simp only [badSt, Bool.or_eq_true, decide_eq_true_iff] at h
  by_cases h0 : st < 0
  · have q0 : decide (st < 0) = true := decide_eq_true h0
    clear h
    go_enter Tryz.func10, Tryz.ntmps10
    go_wp2_with fail
    go_ret2
    exact ⟨rfl, rfl⟩
  · have q0 : decide (st < 0) = false := decide_eq_false h0
    have h2 : 2 < st := by omega
    have q1 : decide (2 < st) = true := decide_eq_true h2
    clear h
    go_enter Tryz.func10, Tryz.ntmps10
    go_wp2_with fail
    go_ret2
    exact ⟨rfl, rfl⟩
set_option maxRecDepth 20000 in
set_option maxHeartbeats 8000000 in
theorem twriteC_any (l : List En) (v : Value) (st : Int) (X : Nat → Prop) (w : World) (hsl : Sl 10 Rent X w v l) (hL : LB l) (h : badSt st = false) (hc : (chkL l).2 ≠ 0) :
    Calls Tryz.prog 9 #[v, .int .i64 st] w fun r w' => r = .returned (.tuple #[.slice none 0 0, .int .i64 (chkL l).2]) ∧ Below w.heap.size w w' := by
  have hck := pchkall_any l v X w hsl hL
  generalize (chkL l).1 = c1 at hck
  generalize (chkL l).2 = c2 at hck hc ⊢
  have hcb : (c2 != 0) = true := by simpa using hc
  simp only [badSt, Bool.or_eq_false_iff, decide_eq_false_iff_not] at h
  have h3 : st = 0 ∨ st = 1 ∨ st = 2 := by omega
  clear h hc
  rcases h3 with rfl | rfl | rfl
  · go_enter Tryz.func9, Tryz.ntmps9
    go_wp2_with (go_at_call 15; refine hck.mono ?_; clear hck; rintro e W1 ⟨rfl, hb⟩)
    go_ret2
    exact ⟨rfl, hb⟩
  · go_enter Tryz.func9, Tryz.ntmps9
    go_wp2_with (go_at_call 15; refine hck.mono ?_; clear hck; rintro e W1 ⟨rfl, hb⟩)
    go_ret2
    exact ⟨rfl, hb⟩
  · go_enter Tryz.func9, Tryz.ntmps9
    go_wp2_with (go_at_call 15; refine hck.mono ?_; clear hck; rintro e W1 ⟨rfl, hb⟩)
    go_ret2
    exact ⟨rfl, hb⟩
set_option maxRecDepth 20000 in
set_option maxHeartbeats 8000000 in
theorem trwriteC_any (l : List En) (v : Value) (st : Int) (X : Nat → Prop) (w : World) (hsl : Sl 10 Rent X w v l) (hL : LB l) (h : badSt st = false) (hc : (chkL l).2 ≠ 0) :
    Calls Tryz.prog 10 #[v, .int .i64 st] w fun r w' => r = .returned (.tuple #[.slice none 0 0, .int .i64 (chkL l).2]) ∧ Below w.heap.size w w' := by
  have hck := rchkall_any l v X w hsl hL
  generalize (chkL l).1 = c1 at hck
  generalize (chkL l).2 = c2 at hck hc ⊢
  have hcb : (c2 != 0) = true := by simpa using hc
  simp only [badSt, Bool.or_eq_false_iff] at h
  obtain ⟨q1, q2⟩ := h
  have q1b := of_decide_eq_false q1
  have q2b := of_decide_eq_false q2
  clear hc
  go_enter Tryz.func10, Tryz.ntmps10
  go_wp2_with (go_at_call 14; refine hck.mono ?_; clear hck; rintro e W1 ⟨rfl, hb⟩)
  go_ret2
  exact ⟨rfl, hb⟩
theorem row8_nil (w w' : World) (h : Below w.heap.size w w') : Row8 w none w.heap.size 5 w' (.slice none 0 0) [] :=
  ⟨World.ownsRow_nil _ _ _ _, (fun k h => by cases h), Kept.of_below h _, Nat.le_refl _⟩
/-- What the program writes. -/
theorem twrite_any (st : Int) (l : List En) (v : Value) (X : Nat → Prop) (w : World) (hsl : Sl 10 Rent X w v l) (hL : LB l) (hlen : l.length ≤ 50) (hD : Deb w) (hT : Tab w) :
    Calls Tryz.prog 9 #[v, .int .i64 st] w fun r w' => ∃ v', r = .returned (.tuple #[v', .int .i64 (tarErr st l)]) ∧ Row8 w none w.heap.size 5 w' v' (tarOut st l) := by
  cases hs : badSt st with
  | true =>
    have e : tarErr st l = 1 := by rw [tarErr, if_pos hs]
    rw [tarOut, e, if_neg (by decide)]
    refine (twriteX_any l v st w hs).mono ?_
    rintro r w' ⟨rfl, rfl⟩
    exact ⟨_, rfl, row8_nil _ _ (Below.refl _ _)⟩
  | false =>
    by_cases hc : (chkL l).2 ≠ 0
    · have e : tarErr st l = (chkL l).2 := by rw [tarErr, if_neg (by rw [hs]; simp), if_pos hc]
      rw [tarOut, e, if_neg hc]
      refine (twriteC_any l v st X w hsl hL hs hc).mono ?_
      rintro r w' ⟨rfl, hb⟩
      exact ⟨_, rfl, row8_nil _ _ hb⟩
    · have e : tarErr st l = if l.any (badT st.toNat) = true then 10 else 0 := by rw [tarErr, if_neg (by rw [hs]; simp), if_neg hc]
      have hR := (chk_rt l).1 (Classical.not_not.1 hc)
      simp only [badSt, Bool.or_eq_false_iff, decide_eq_false_iff_not] at hs
      have h3 : st = 0 ∨ st = 1 ∨ st = 2 := by omega
      rw [tarOut, e]
      rcases h3 with rfl | rfl | rfl
      · have e0 : l.any (badT (0 : Int).toNat) = l.any badU := rfl
        rw [e0]
        refine (twrite0_any l v X w hsl hL hlen hR hD hT).mono ?_
        rintro r w' ⟨v', rfl, h⟩
        refine ⟨v', rfl, ?_⟩
        cases hb : l.any badU with
        | true => rw [hb] at h; exact h
        | false => rw [hb] at h; exact h
      · have e0 : l.any (badT (1 : Int).toNat) = false := by
          rw [List.any_eq_false]
          intro x _
          simp [badT]
        rw [e0]
        refine (twrite1_any l v X w hsl hL hlen hR hD hT).mono ?_
        rintro r w' ⟨v', rfl, h⟩
        exact ⟨v', rfl, h⟩
      · have e0 : l.any (badT (2 : Int).toNat) = false := by
          rw [List.any_eq_false]
          intro x _
          simp [badT]
        rw [e0]
        refine (twrite2_any l v X w hsl hL hlen hR hD hT).mono ?_
        rintro r w' ⟨v', rfl, h⟩
        exact ⟨v', rfl, h⟩
/-- What the document writes. -/
theorem rtwrite_any (st : Int) (l : List En) (v : Value) (X : Nat → Prop) (w : World) (hsl : Sl 10 Rent X w v l) (hL : LB l) (hlen : l.length ≤ 50) :
    Calls Tryz.prog 10 #[v, .int .i64 st] w fun r w' => ∃ v', r = .returned (.tuple #[v', .int .i64 (tarErr st l)]) ∧ Below w.heap.size w w' ∧ Sl 1 Rbyte nowhere w' v' (tarOut st l) := by
  cases hs : badSt st with
  | true =>
    have e : tarErr st l = 1 := by rw [tarErr, if_pos hs]
    rw [tarOut, e, if_neg (by decide)]
    refine (trwriteX_any l v st w hs).mono ?_
    rintro r w' ⟨rfl, rfl⟩
    exact ⟨_, rfl, Below.refl _ _, Sl.nil _ _ _ _⟩
  | false =>
    by_cases hc : (chkL l).2 ≠ 0
    · have e : tarErr st l = (chkL l).2 := by rw [tarErr, if_neg (by rw [hs]; simp), if_pos hc]
      rw [tarOut, e, if_neg hc]
      refine (trwriteC_any l v st X w hsl hL hs hc).mono ?_
      rintro r w' ⟨rfl, hb⟩
      exact ⟨_, rfl, hb, Sl.nil _ _ _ _⟩
    · have e : tarErr st l = if l.any (badT st.toNat) = true then 10 else 0 := by rw [tarErr, if_neg (by rw [hs]; simp), if_neg hc]
      have hR := (chk_rt l).1 (Classical.not_not.1 hc)
      simp only [badSt, Bool.or_eq_false_iff, decide_eq_false_iff_not] at hs
      obtain ⟨n, rfl⟩ := Int.eq_ofNat_of_zero_le (show 0 ≤ st by omega)
      rw [tarOut, e, Int.toNat_natCast]
      refine (trwrite_any n (by omega) l v X w hsl hL hlen hR).mono ?_
      rintro r w' ⟨v', rfl, hb, h⟩
      refine ⟨v', rfl, hb, ?_⟩
      cases hq : l.any (badT n) with
      | true => rw [hq] at h; exact h
      | false => rw [hq] at h; exact h
end Go.Proofs.YtpheifdpjcppdaaGreatDoor
