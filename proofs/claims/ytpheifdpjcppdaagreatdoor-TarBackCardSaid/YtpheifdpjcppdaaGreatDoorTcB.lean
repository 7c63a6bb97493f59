/- Tar, in plain words: what is written in each style is read as it was. -/
import Derived.Test.YtpheifdpjcppdaaGreatDoorTcA
namespace Go.Proofs.YtpheifdpjcppdaaGreatDoor
open Go.RowKit
theorem idx_first (s : List UInt8) (c : UInt8) (t : List UInt8) (h : ∀ x ∈ s, x ≠ c) : Lib.indexByte (s ++ c :: t) c = s.length := by
  refine idx_at (o := s.length) (by simp) fun j hj e => ?_
  rw [List.getElem?_append_left hj] at e
  exact h c (List.mem_of_getElem? e) rfl
theorem tell_long {t : Td} {k : UInt8} (hk : k ≠ 120) {s : List UInt8} (hz : NZ s) : tellS t k (s ++ [0]) = (0, updS t [k] (s, 0)) := by
  rw [tellS, if_neg hk, idx_first s 0 [] hz, if_neg (by omega), upZ_app hz]
theorem tell_hdb {nm : List UInt8} {k : UInt8} {n : Nat} (hn : n ≤ 10000) (hz : NZ nm) : HdB (tellH nm k n) :=
  ⟨tell_ok hn, Nat.zero_le _, Nat.zero_le _, Nat.zero_le _, by show n ≤ _; omega, Nat.zero_le _, hz, NZ.nil, NZ.nil, NZ.nil, NZ.nil⟩
theorem hdH_hdb {e : En} (hC : chkE e = 0) {nm px : List UInt8} (h1 : NZ nm) (h2 : NZ px) : HdB (hdH e nm px) := by
  have hF := chk_fx hC
  obtain ⟨_, z3, z4, z5⟩ := chk_nz hC
  have := hF.m2
  have := hF.u2
  have := hF.g2
  have := hF.t2
  have := hF.d2
  exact ⟨hdH_ok hF nm px, by show e.mode.toNat ≤ _; omega, by show e.uid.toNat ≤ _; omega, by show e.gid.toNat ≤ _; omega, by show e.data.length ≤ _; omega, by show e.mtime.toNat ≤ _; omega, h1, h2, z3, z4, z5⟩
theorem longN_nz : NZ longN := fun c hc h0 => by
  rw [h0] at hc
  exact absurd hc (by decide)
theorem paxN_nz : NZ paxN := fun c hc h0 => by
  rw [h0] at hc
  exact absurd hc (by decide)
theorem name_nz {e : En} (hC : chkE e = 0) : NZ (nameT e) := by
  have := (chk_nz hC).1
  unfold nameT
  split
  · exact this.app fun c hc h0 => by rw [List.mem_singleton] at hc; rw [hc] at h0; exact absurd h0 (by decide)
  · exact this
/-- The head of an entry and its data are read, with what was told. -/
theorem rd_head {e : En} (hC : chkE e = 0) {t : Td} {nm px : List UInt8} {gnu : Bool} (h1 : NZ nm) (h2 : NZ px) (hname : orT t kPth (orT t [76] (nameR (hrOf (hdH e nm px) gnu))) = nameT e) (hlink : e.kind = 3 ∨ e.kind = 4 → orT t kLnk (orT t [75] (e.link.take 100)) = e.link) (hq : t kUid = none ∧ t kGid = none ∧ t kOwn = none ∧ t kGrp = none ∧ t kTime = none) (h0 : t kSize = none) : Rd (blockB (hdH e nm px) gnu ++ wholeB e.data) t (fun _ => none) [e] := by
  have hF := chk_fx hC
  obtain ⟨k1, k2⟩ := kindRU hF.k1 hF.k2
  have hk : (hdH e nm px).kind = kindU e.kind := rfl
  have := hF.k1
  refine Rd.ent (hdH_hdb hC h1 h2) rfl (by rw [hk]; exact k2) (by rw [hk, k1]; omega) (by rw [hk, k1]; exact hF.nd) h0 (ent_back hF hname hlink hq)
/-- A name that is parted is put together. -/
theorem name_part {e : En} {p r : List UInt8} (h : partT (nameT e) = some (p, r)) (hH : NoHead e) : nameR (hrOf (hdH e r p) false) = nameT e := by
  have e1 : (hrOf (hdH e r p) false).name = r.take 100 := rfl
  have e2 : (hrOf (hdH e r p) false).pfx = p.take 155 := rfl
  have e3 : (hrOf (hdH e r p) false).gnu = false := rfl
  by_cases hl : (nameT e).length ≤ 100
  · rw [partT_low hl] at h
    injection h with h
    injection h with h3 h4
    rw [nameR, e1, e2, e3, ← h3, ← h4, if_neg (by simp), List.take_of_length_le hl]
  · obtain ⟨a, b, c, d, f⟩ := partT_cut h (by omega)
    have hp := hH p r h (by omega)
    have hat := partT_at h (by omega)
    have hp2 : p.take 155 ≠ [] := by
      rw [List.take_of_length_le (by omega)]
      intro hh
      rw [hh] at hp
      simp at hp
    rw [nameR, e1, e2, e3, if_pos ⟨rfl, hp2⟩, List.take_of_length_le (by omega), List.take_of_length_le (by omega)]
    obtain ⟨hlt, hv⟩ := List.getElem?_eq_some_iff.1 hat
    have := List.take_append_drop p.length (nameT e)
    rw [List.drop_eq_getElem_cons hlt, hv, ← a, ← b] at this
    rw [List.append_assoc]
    exact this
theorem part_nz {e : En} (hC : chkE e = 0) {p r : List UInt8} (h : partT (nameT e) = some (p, r)) : NZ r ∧ NZ p := by
  have hz := name_nz hC
  by_cases hl : (nameT e).length ≤ 100
  · rw [partT_low hl] at h
    injection h with h
    injection h with h3 h4
    rw [← h3, ← h4]
    exact ⟨hz, NZ.nil⟩
  · obtain ⟨a, b, _⟩ := partT_cut h (by omega)
    rw [a, b]
    exact ⟨hz.drop _, hz.take _⟩
theorem q_none : ((fun _ => none : Td) kUid = none ∧ (fun _ => none : Td) kGid = none ∧ (fun _ => none : Td) kOwn = none ∧ (fun _ => none : Td) kGrp = none ∧ (fun _ => none : Td) kTime = none) := ⟨rfl, rfl, rfl, rfl, rfl⟩
theorem rd0 {e : En} (hC : chkE e = 0) (hb : badU e = false) : Rd (memT 0 e) (fun _ => none) (fun _ => none) [e] := by
  rw [badU, Bool.or_eq_false_iff, decide_eq_false_iff_not] at hb
  obtain ⟨hb1, hb2⟩ := hb
  rw [memT, aheadT, if_pos rfl, List.nil_append, headT, if_neg (by decide)]
  cases hp : partT (nameT e) with
  | none => rw [hp] at hb1; cases hb1
  | some q =>
    obtain ⟨p, r⟩ := q
    obtain ⟨z1, z2⟩ := part_nz hC hp
    rw [partH]
    exact rd_head hC z1 z2 (name_part hp (no_head hC)) (fun _ => List.take_of_length_le (by omega)) q_none rfl
/-- A long text is told. -/
theorem rd_long {t : Td} {k : UInt8} (hk : isTell k = true) (hk2 : k ≠ 120) (h0 : t [k] = none) {s : List UInt8} (hs : s.length ≤ 9000) (hz : NZ s) : Rd (longB k s) t (updS t [k] (s, 0)) [] := by
  have e : tellS t (tellH longN k (s.length + 1)).kind (s ++ [0]) = (0, updS t [k] (s, 0)) := tell_long hk2 hz
  have := Rd.tell (d := s ++ [0]) (h := tellH longN k (s.length + 1)) (gnu := true) (t := t) (tell_hdb (by omega) longN_nz) (by simp [tellH]) hk h0 (by rw [e])
  rw [e] at this
  exact this
def told1 (e : En) : Td := (fun t1 : Td => if 100 < e.link.length then updS t1 [75] (e.link, 0) else t1) (if 100 < (nameT e).length then updS (fun _ => none) [76] (nameT e, 0) else fun _ => none)
theorem rd1 {e : En} (hC : chkE e = 0) : Rd (memT 1 e) (fun _ => none) (fun _ => none) [e] := by
  have hF := chk_fx hC
  have hz := name_nz hC
  have hn := nameT_le hF
  have hl := hF.l2
  obtain ⟨_, zl, _, _⟩ := chk_nz hC
  have hA : Rd (aheadT 1 e) (fun _ => none) (told1 e) [] := by
    rw [aheadT, if_neg (by decide), if_pos rfl, told1]
    have a : Rd (if 100 < (nameT e).length then longB 76 (nameT e) else []) (fun _ => none) (if 100 < (nameT e).length then updS (fun _ => none) [76] (nameT e, 0) else fun _ => none) [] := by
      by_cases h : 100 < (nameT e).length
      · rw [if_pos h, if_pos h]; exact rd_long rfl (by decide) rfl (by omega) hz
      · rw [if_neg h, if_neg h]; exact Rd.nil _
    have h75 : (if 100 < (nameT e).length then updS (fun _ => none) [76] (nameT e, 0) else fun _ => none : Td) [75] = none := by split <;> rfl
    generalize (if 100 < (nameT e).length then updS (fun _ => none) [76] (nameT e, 0) else fun _ => none : Td) = t1 at a h75 ⊢
    refine Rd.app (E := []) a ?_
    by_cases h : 100 < e.link.length
    · rw [if_pos h]
      simp only [h, if_true]
      exact rd_long rfl (by decide) h75 (by omega) zl
    · rw [if_neg h]
      simp only [h, if_false]
      exact Rd.nil _
  have hB : Rd (headT 1 e ++ wholeB e.data) (told1 e) (fun _ => none) [e] := by
    rw [headT, if_pos rfl]
    refine rd_head hC hz NZ.nil ?_ (fun _ => ?_) ?_ ?_
    · have e1 : nameR (hrOf (hdH e (nameT e) []) true) = (nameT e).take 100 := by rw [nameR, if_neg (by rintro ⟨h, _⟩; cases h)]; rfl
      rw [e1, told1]
      by_cases h1 : 100 < (nameT e).length <;> by_cases h2 : 100 < e.link.length <;> simp only [h1, h2, if_true, if_false] <;> first
        | rfl
        | exact List.take_of_length_le (by omega)
    · rw [told1]
      by_cases h1 : 100 < (nameT e).length <;> by_cases h2 : 100 < e.link.length <;> simp only [h1, h2, if_true, if_false] <;> first
        | rfl
        | exact List.take_of_length_le (by omega)
    · rw [told1]
      by_cases h1 : 100 < (nameT e).length <;> by_cases h2 : 100 < e.link.length <;> simp only [h1, h2, if_true, if_false] <;> first
        | exact ⟨rfl, rfl, rfl, rfl, rfl⟩
        | exact ⟨trivial, trivial, trivial, trivial, trivial⟩
        | trivial
    · rw [told1]
      by_cases h1 : 100 < (nameT e).length <;> by_cases h2 : 100 < e.link.length <;> simp only [h1, h2, if_true, if_false] <;> first
        | rfl
        | trivial
  rw [memT, List.append_assoc]
  exact Rd.app (E := []) hA hB
/- Records. -/
theorem dig_is {n : Nat} (h : n < 10) : (UInt8.ofNat (48 + n)).toNat = 48 + n := by rw [UInt8.toNat_ofNat']; omega
theorem dec_three {n : Nat} (h1 : 100 ≤ n) (h2 : n < 1000) : Lib.decDigits n = [UInt8.ofNat (48 + n / 100), UInt8.ofNat (48 + n / 10 % 10), UInt8.ofNat (48 + n % 10)] := by
  rw [dec_big (by omega), dec_big (by omega), Lib.decDigits, dif_pos (by omega), show n / 10 / 10 = n / 100 by omega]
  rfl
theorem dec_read {n : Nat} (h1 : 100 ≤ n) (h2 : n < 1000) : udCode (Lib.decDigits n) = 0 ∧ decNum (Lib.decDigits n) = n ∧ (Lib.decDigits n).length = 3 ∧ ∀ c ∈ Lib.decDigits n, c ≠ 32 := by
  have d1 := dig_is (n := n / 100) (by omega)
  have d2 := dig_is (n := n / 10 % 10) (by omega)
  have d3 := dig_is (n := n % 10) (by omega)
  rw [dec_three h1 h2]
  generalize UInt8.ofNat (48 + n / 100) = a at d1 ⊢
  generalize UInt8.ofNat (48 + n / 10 % 10) = b at d2 ⊢
  generalize UInt8.ofNat (48 + n % 10) = c at d3 ⊢
  have hn : decNum [a, b, c] = n := by simp only [decNum, List.foldl_cons, List.foldl_nil, d1, d2, d3]; omega
  have hh : headBad [a, b, c] = false := by simp [headBad, d1]; omega
  have hd : allDig [a, b, c] = true := by
    have e : ∀ x : UInt8, 48 ≤ x.toNat → x.toNat ≤ 57 → isDig x = true := fun x h h' => by simp [isDig]; omega
    simp [allDig, e a (by omega) (by omega), e b (by omega) (by omega), e c (by omega) (by omega)]
  refine ⟨by rw [udCode, hh, if_neg (by decide), if_pos hd, hn, if_neg (by omega)], hn, rfl, fun x hx hx2 => ?_⟩
  subst hx2
  simp only [List.mem_cons, List.not_mem_nil, or_false] at hx
  have e32 : (32 : UInt8).toNat = 32 := rfl
  rcases hx with rfl | rfl | rfl <;> omega
/-- A record that is written is read as it was. -/
theorem rec_back {k v r : List UInt8} (h1 : 100 ≤ (recR k v).length) (h2 : (recR k v).length ≤ 900) (hk : ∀ c ∈ k, c ≠ 61) : recP (recB k v ++ r) = some ((recB k v).length, k, v) := by
  have hl := recB_len h1 h2
  obtain ⟨u1, u2, u3, u4⟩ := dec_read (n := (recR k v).length + 3) (by omega) (by omega)
  obtain ⟨D, hD⟩ : ∃ D, Lib.decDigits ((recR k v).length + 3) = D := ⟨_, rfl⟩
  have hrl := recR_len k v
  have e0 : recB k v = D ++ (32 :: (k ++ 61 :: (v ++ [10]))) := by rw [recB, hD, recR]; simp
  rw [hD] at u1 u2 u3 u4
  have e1 : recB k v ++ r = D ++ 32 :: (k ++ 61 :: (v ++ [10]) ++ r) := by rw [e0]; simp
  have hi : Lib.indexByte (recB k v ++ r) 32 = (3 : Nat) := by rw [e1, idx_first D 32 _ u4, u3]
  have ht : (recB k v ++ r).take 3 = D := by rw [e1, ← u3, List.take_left']; rfl
  have hlast : (recB k v ++ r).getD ((recB k v).length - 1) 0 = 10 := by
    have hx : D ++ (32 :: (k ++ 61 :: (v ++ [10]))) = (D ++ (32 :: (k ++ 61 :: v))) ++ [10] := by simp
    have hy : (recB k v).length - 1 = (D ++ (32 :: (k ++ 61 :: v))).length := by rw [e0, hx, List.length_append]; simp
    rw [hy, e0, hx, List.getD_eq_getElem?_getD, List.append_assoc, List.getElem?_append_right (Nat.le_refl _)]
    simp
  have hm : fldB (recB k v ++ r) 4 ((recB k v).length - 1 - 4) = k ++ 61 :: v := by
    have hx : recB k v ++ r = (D ++ [32]) ++ ((k ++ 61 :: v) ++ (10 :: r)) := by rw [e1]; simp
    have hy : (recB k v).length - 1 - 4 = (k ++ 61 :: v).length := by rw [hl, hrl, List.length_append, List.length_cons]; omega
    rw [hx, hy, fld_skip (by simp [u3])]
    have : 4 - (D ++ [32]).length = 0 := by simp [u3]
    rw [this]
    exact fld_head rfl
  have hnum : decNum ((recB k v ++ r).take 3) = (recB k v).length := by rw [ht, u2, hl]
  have hcode : udCode ((recB k v ++ r).take 3) = 0 := by rw [ht]; exact u1
  have hi2 : Lib.indexByte (k ++ 61 :: v) 61 = (k.length : Nat) := idx_first k 61 v hk
  rw [recP, hi, if_neg (by omega)]
  simp only [Int.toNat_natCast, Nat.reduceAdd]
  rw [hnum, hcode, hm, hlast, hi2]
  rw [if_neg (by
    rintro (h | h | h | h)
    · exact h rfl
    · omega
    · rw [List.length_append] at h; omega
    · exact h rfl), if_neg (by omega)]
  simp only [Int.toNat_natCast]
  rw [List.take_left']
  · rw [show k ++ 61 :: v = (k ++ [61]) ++ v by simp, List.drop_left' (by simp)]
  · rfl
theorem recS_nil (f : Nat) (t : Td) : recS f t [] = (0, t) := by cases f <;> simp [recS]
theorem recS_rec {f : Nat} {t : Td} {k v r : List UInt8} (hf : 1 ≤ f) (ht : isText k = true) (h1 : 100 ≤ (recR k v).length) (h2 : (recR k v).length ≤ 900) (hk : ∀ c ∈ k, c ≠ 61) : recS f t (recB k v ++ r) = recS (f - 1) (updS t k (v, 0)) r := by
  obtain ⟨g, rfl⟩ : ∃ g, f = g + 1 := ⟨f - 1, by omega⟩
  have hl := recB_len h1 h2
  have hne : recB k v ++ r ≠ [] := fun h => by
    have := congrArg List.length h
    rw [List.length_append, List.length_nil] at this
    omega
  have hkt : keyT t k v = (0, updS t k (v, 0)) := by rw [keyT, if_pos ht]
  rw [recS, if_neg hne, rec_back h1 h2 hk]
  simp only [hkt, if_true, List.drop_left']
  rfl
def told2 (e : En) : Td := (fun t1 : Td => if 100 < e.link.length then updS t1 kLnk (e.link, 0) else t1) (if (partT (nameT e)).isNone = true then updS (updS (fun _ => none) [120] ([], 0)) kPth (nameT e, 0) else updS (fun _ => none) [120] ([], 0))
theorem told_rec {e : En} (hF : Fx e) : tellS (fun _ => none) 120 (toldB e) = (0, told2 e) := by
  have hn := nameT_le hF
  have hl := hF.l2
  have kp : ∀ c ∈ kPth, c ≠ 61 := by decide
  have kl : ∀ c ∈ kLnk, c ≠ 61 := by decide
  have l1 := recR_len kPth (nameT e)
  have l2 := recR_len kLnk e.link
  have p1 : kPth.length = 4 := rfl
  have p2 : kLnk.length = 8 := rfl
  rw [tellS, if_pos rfl, told2, toldB]
  generalize updS (fun _ => none) [120] ([], 0) = t0
  by_cases h1 : (partT (nameT e)).isNone = true
  · have hlong := partT_none (Option.isNone_iff_eq_none.1 h1)
    have hb := recB_len (k := kPth) (v := nameT e) (by omega) (by omega)
    have e1 : ∀ x : List UInt8, (recB kPath (nameT e) ++ x) = recB kPth (nameT e) ++ x := fun _ => rfl
    by_cases h2 : 100 < e.link.length
    · simp only [h1, h2, if_true]
      have e2 : recB kLink e.link = recB kLnk e.link ++ [] := by rw [List.append_nil]; rfl
      rw [e1, e2, recS_rec (by omega) rfl (by omega) (by omega) kp, recS_rec (by rw [List.length_append]; omega) rfl (by omega) (by omega) kl, recS_nil]
    · simp only [h1, h2, if_true, if_false]
      rw [e1, recS_rec (by omega) rfl (by omega) (by omega) kp, recS_nil]
  · by_cases h2 : 100 < e.link.length
    · simp only [h1, h2, if_true, if_false, List.nil_append, Bool.false_eq_true]
      have e2 : recB kLink e.link = recB kLnk e.link ++ [] := by rw [List.append_nil]; rfl
      rw [e2, recS_rec (by omega) rfl (by omega) (by omega) kl, recS_nil]
    · simp only [h1, h2, if_false, List.nil_append, Bool.false_eq_true]
      rw [recS_nil]
theorem rd2 {e : En} (hC : chkE e = 0) : Rd (memT 2 e) (fun _ => none) (fun _ => none) [e] := by
  have hF := chk_fx hC
  have hz := name_nz hC
  have htl := toldB_le hF
  rw [memT, headT, if_neg (show ¬ (2 : Nat) = 1 by decide), aheadT, if_neg (show ¬ (2 : Nat) = 0 by decide), if_neg (show ¬ (2 : Nat) = 1 by decide), List.append_assoc]
  by_cases h0 : toldB e = []
  · rw [if_pos h0, List.nil_append]
    have h1 : (partT (nameT e)).isNone = false := by
      cases h : (partT (nameT e)).isNone with
      | false => rfl
      | true =>
        rw [toldB, h, if_pos rfl] at h0
        have := (List.append_eq_nil_iff.1 h0).1
        rw [recB, recR] at this
        simp at this
    have h2 : e.link.length ≤ 100 := by
      by_cases h : 100 < e.link.length
      · rw [toldB, if_pos h] at h0
        have := (List.append_eq_nil_iff.1 h0).2
        rw [recB, recR] at this
        simp at this
      · omega
    cases hp : partT (nameT e) with
    | none => rw [hp] at h1; cases h1
    | some q =>
      obtain ⟨p, r⟩ := q
      obtain ⟨z1, z2⟩ := part_nz hC hp
      rw [partH]
      exact rd_head hC z1 z2 (name_part hp (no_head hC)) (fun _ => List.take_of_length_le (by omega)) q_none rfl
  · rw [if_neg h0]
    have hA : Rd (blockB (tellH paxN 120 (toldB e).length) false ++ wholeB (toldB e)) (fun _ => none) (told2 e) [] := by
      have e1 : tellS (fun _ => none) (tellH paxN 120 (toldB e).length).kind (toldB e) = (0, told2 e) := told_rec hF
      have := Rd.tell (d := toldB e) (h := tellH paxN 120 (toldB e).length) (gnu := false) (t := fun _ => none) (tell_hdb (by omega) paxN_nz) rfl rfl rfl (by rw [e1])
      rw [e1] at this
      exact this
    have hq : told2 e kUid = none ∧ told2 e kGid = none ∧ told2 e kOwn = none ∧ told2 e kGrp = none ∧ told2 e kTime = none := by
      rw [told2]
      by_cases h1 : (partT (nameT e)).isNone = true <;> by_cases h2 : 100 < e.link.length <;> simp only [h1, h2, if_true, if_false, Bool.false_eq_true] <;> first
        | exact ⟨rfl, rfl, rfl, rfl, rfl⟩
        | exact ⟨trivial, trivial, trivial, trivial, trivial⟩
        | trivial
    have hs : told2 e kSize = none := by
      rw [told2]
      by_cases h1 : (partT (nameT e)).isNone = true <;> by_cases h2 : 100 < e.link.length <;> simp only [h1, h2, if_true, if_false, Bool.false_eq_true] <;> first
        | rfl
        | trivial
    have hlk : orT (told2 e) kLnk (orT (told2 e) [75] (e.link.take 100)) = e.link := by
      rw [told2]
      by_cases h1 : (partT (nameT e)).isNone = true <;> by_cases h2 : 100 < e.link.length <;> simp only [h1, h2, if_true, if_false, Bool.false_eq_true] <;> first
        | rfl
        | exact List.take_of_length_le (by omega)
    refine Rd.app (E := []) hA ?_
    cases hp : partT (nameT e) with
    | none =>
      rw [partH]
      refine rd_head hC hz NZ.nil ?_ (fun _ => hlk) hq hs
      rw [told2, hp]
      by_cases h2 : 100 < e.link.length <;> simp only [h2, if_true, if_false, Option.isNone_none] <;> rfl
    | some q =>
      obtain ⟨p, r⟩ := q
      obtain ⟨z1, z2⟩ := part_nz hC hp
      rw [partH]
      refine rd_head hC z1 z2 ?_ (fun _ => hlk) hq hs
      have hn := name_part hp (no_head hC)
      generalize nameR (hrOf (hdH e r p) false) = nr at hn ⊢
      rw [told2, hp, ← hn]
      by_cases h2 : 100 < e.link.length <;> simp only [h2, if_true, if_false, Option.isNone_some, Bool.false_eq_true] <;> rfl
theorem rd_mem {s : Nat} (hs : s ≤ 2) {e : En} (hC : chkE e = 0) (hb : badT s e = false) : Rd (memT s e) (fun _ => none) (fun _ => none) [e] := by
  match s, hs with
  | 0, _ => exact rd0 hC (by simpa [badT] using hb)
  | 1, _ => exact rd1 hC
  | 2, _ => exact rd2 hC
theorem rd_list {s : Nat} (hs : s ≤ 2) : ∀ l : List En, (∀ e ∈ l, chkE e = 0 ∧ badT s e = false) → Rd ((l.map (memT s)).flatten) (fun _ => none) (fun _ => none) l
  | [], _ => Rd.nil _
  | e :: t, h => by
    obtain ⟨a, b⟩ := h e (.head _)
    rw [List.map_cons, List.flatten_cons]
    exact Rd.app (E := [e]) (F := t) (rd_mem hs a b) (rd_list hs t fun x hx => h x (.tail _ hx))
/-- What is written is read as it was, whatever is behind it. -/
theorem back_readT {st : Int} {l : List En} (he : tarErr st l = 0) (bh : List UInt8) : readA (runT (tarOut st l ++ bh) ((tarOut st l ++ bh).length + 1) (fun _ => none) 0 [] [] 0) = (l, 0, 0) := by
  obtain ⟨h1, h2, h3⟩ := err_zero he
  have hR := (chk_rt l).1 h2
  have hs : st.toNat ≤ 2 := by
    simp only [badSt, Bool.or_eq_false_iff, decide_eq_false_iff_not] at h1
    omega
  rw [out_is he]
  have hrd := rd_list hs l fun e h => ⟨hR.chk e h, by
    cases hb : badT st.toNat e with
    | false => rfl
    | true => rw [List.any_eq_true.2 ⟨e, h, hb⟩] at h3; cases h3⟩
  generalize (l.map (memT st.toNat)).flatten = x at hrd
  obtain ⟨n, fr, PL, a, b⟩ := hrd [] (List.replicate 1024 0 ++ bh) ((x ++ (List.replicate 1024 0 ++ bh)).length + 1) 0 [] [] (by rw [List.nil_append, List.length_nil]; omega)
  simp only [List.nil_append, List.length_nil] at a b
  rw [List.append_assoc, b]
  obtain ⟨m, rfl⟩ : ∃ m, n = m + 1 := ⟨n - 1, by rw [List.length_append] at a; omega⟩
  rw [run_end, readA, h2]
  rfl
end Go.Proofs.YtpheifdpjcppdaaGreatDoor
