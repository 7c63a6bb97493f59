/- Tar, in plain words: a head that is written is read as it was; a head that is turned is told. -/
import Derived.Test.YtpheifdpjcppdaaGreatDoorTbAD
namespace Go.Proofs.YtpheifdpjcppdaaGreatDoor
open Go.RowKit
theorem fld_skip {a b : List UInt8} {k n : Nat} (h : a.length ≤ k) : fldB (a ++ b) k n = fldB b (k - a.length) n := by
  rw [fldB, fldB, List.drop_append, List.drop_eq_nil_of_le h, List.nil_append]
theorem fld_head {a b : List UInt8} {n : Nat} (h : a.length = n) : fldB (a ++ b) 0 n = a := by
  subst h
  simp [fldB]
theorem fld_pre (a b : List UInt8) (k n : Nat) : fldB (a ++ b) (a.length + k) n = fldB b k n := by
  rw [fld_skip (Nat.le_add_right _ _), Nat.add_sub_cancel_left]
theorem fld_pre0 (a b : List UInt8) (n : Nat) : fldB (a ++ b) a.length n = fldB b 0 n := fld_pre a b 0 n
theorem oc_nat {n : Nat} (h : n < 8) : (UInt8.ofNat (48 + n)).toNat = 48 + n := by rw [UInt8.toNat_ofNat']; omega
theorem octD_oct (n : Nat) : ∀ c ∈ octD n, isOct c = true := by
  induction n using Nat.strongRecOn with
  | ind n ih =>
    intro c hc
    by_cases h : n < 8
    · rw [oct_one h, List.mem_singleton] at hc
      subst hc
      rw [isOct, oc_nat h, Bool.and_eq_true, decide_eq_true_iff, decide_eq_true_iff]
      omega
    · rw [oct_big h, List.mem_append, List.mem_singleton] at hc
      rcases hc with hc | hc
      · exact ih (n / 8) (by omega) c hc
      · subst hc
        rw [isOct, oc_nat (by omega), Bool.and_eq_true, decide_eq_true_iff, decide_eq_true_iff]
        omega
theorem fold_octD (n : Nat) (hn : n < 4611686018427387904) : (octD n).foldl octStep (0, false) = (n, false) := by
  induction n using Nat.strongRecOn with
  | ind n ih =>
    by_cases h : n < 8
    · rw [oct_one h, List.foldl_cons, List.foldl_nil, octStep, if_neg (by simp), oc_nat h]
      simp
    · rw [oct_big h, List.foldl_append, ih (n / 8) (by omega) (by omega), List.foldl_cons, List.foldl_nil, octStep, if_neg (by simp only; omega), oc_nat (by omega)]
      simp only [Prod.mk.injEq, and_true]
      omega
theorem fold_48 : ∀ k, (List.replicate k (48 : UInt8)).foldl octStep (0, false) = (0, false)
  | 0 => rfl
  | k + 1 => by
    rw [List.replicate_succ, List.foldl_cons]
    exact fold_48 k
theorem oct_ne {c : UInt8} (h : isOct c = true) : c ≠ 32 ∧ c ≠ 0 := by
  simp only [isOct, Bool.and_eq_true, decide_eq_true_eq] at h
  refine ⟨fun e => ?_, fun e => ?_⟩ <;> subst e <;> simp at h
/-- A number's field is read as it was. -/
theorem octF_read {n w : Nat} (hn : n < 4611686018427387904) (t : List UInt8) (ht : t = [] ∨ t = [32]) : octCode (octF n w ++ t) = 0 ∧ ocN (octF n w ++ t) = n := by
  obtain ⟨D, hD⟩ : ∃ D, D = List.replicate (w - 1 - (octD n).length) (48 : UInt8) ++ octD n := ⟨_, rfl⟩
  have hd : ∀ c ∈ D, isOct c = true := fun c hc => by
    rw [hD, List.mem_append, List.mem_replicate] at hc
    rcases hc with ⟨_, hc⟩ | hc
    · subst hc; rfl
    · exact octD_oct n c hc
  have hv : uoF D = (n, false) := by rw [uoF, hD, List.foldl_append, fold_48, fold_octD n hn]
  have hl : 1 ≤ D.length := by have := octD_pos n; rw [hD, List.length_append]; omega
  have e : octF n w ++ t = D ++ (0 :: t) := by rw [octF, hD]; simp
  have htl : Lib.trimLeftB (D ++ (0 :: t)) 32 = D ++ (0 :: t) := by
    cases D with
    | nil => simp at hl
    | cons c r =>
      have := (oct_ne (hd c (.head _))).1
      simp [Lib.trimLeftB, this]
  have h1 : octDigits (D ++ (0 :: t)) = D := by
    rw [octDigits, htl, List.takeWhile_append_of_pos hd]
    simp [isOct]
  have h2 : octRest (D ++ (0 :: t)) = 0 :: t := by
    rw [octRest, htl, List.dropWhile_append_of_pos hd]
    simp [isOct]
  rw [e]
  constructor
  · have h3 : Lib.trimS (0 :: t) [32, 0] = [] := by rcases ht with rfl | rfl <;> rfl
    rw [octCode, h2, if_pos h3, h1, hv]
    rfl
  · rw [ocN, h1, hv]
/-- Without bytes 00. -/
def NZ (s : List UInt8) : Prop := ∀ c ∈ s, c ≠ 0
theorem NZ.nil : NZ [] := fun c h => by cases h
theorem NZ.app {a b : List UInt8} (h : NZ a) (k : NZ b) : NZ (a ++ b) := fun c hc => (List.mem_append.1 hc).elim (h c) (k c)
theorem NZ.take {a : List UInt8} (h : NZ a) (n : Nat) : NZ (a.take n) := fun c hc => h c (List.mem_of_mem_take hc)
theorem NZ.drop {a : List UInt8} (h : NZ a) (n : Nat) : NZ (a.drop n) := fun c hc => h c (List.mem_of_mem_drop hc)
theorem upZ_app {s t : List UInt8} (h : NZ s) : upZ (s ++ 0 :: t) = s := by
  rw [upZ, List.takeWhile_append_of_pos (fun c hc => by simp [h c hc])]
  simp
theorem upZ_fix {s : List UInt8} (h : NZ s) (n : Nat) : upZ (fixW s n) = s.take n := by
  rw [upZ, fixW, List.takeWhile_append_of_pos (fun c hc => by simp [h.take n c hc])]
  have : (List.replicate (n - s.length) (0 : UInt8)).takeWhile (fun c => !decide (c = 0)) = [] := by cases n - s.length <;> simp [List.replicate_succ]
  rw [this, List.append_nil]
theorem getD_fld {b : List UInt8} {k : Nat} {c : UInt8} (h : fldB b k 1 = [c]) : b.getD k 0 = c := by
  have := congrArg (fun x => x[0]?) h
  simp only [fldB, List.getElem?_take, List.getElem?_drop, List.getElem?_cons_zero] at this
  rw [List.getD_eq_getElem?_getD]
  simp at this
  simp [this]
/-- What so many fields in a row are, each. -/
theorem blk_fields {h : Hd} (hk : HdOk h) (gnu : Bool) : fldB (blockB h gnu) 0 100 = fixW h.name 100 ∧ fldB (blockB h gnu) 100 8 = octF h.mode 8 ∧ fldB (blockB h gnu) 108 8 = octF h.uid 8 ∧ fldB (blockB h gnu) 116 8 = octF h.gid 8 ∧ fldB (blockB h gnu) 124 12 = octF h.size 12 ∧ fldB (blockB h gnu) 136 12 = octF h.mtime 12 ∧ fldB (blockB h gnu) 148 8 = octF (256 + sumB (preB h) + sumB (postB h gnu)) 7 ++ [32] ∧ fldB (blockB h gnu) 156 1 = [h.kind] ∧ fldB (blockB h gnu) 157 100 = fixW h.link 100 ∧ fldB (blockB h gnu) 257 8 = magicB gnu ∧ fldB (blockB h gnu) 265 32 = fixW h.owner 32 ∧ fldB (blockB h gnu) 297 32 = fixW h.group 32 ∧ fldB (blockB h gnu) 345 155 = fixW h.pfx 155 := by
  have h1 := sumB_le (preB h)
  have h2 := sumB_le (postB h gnu)
  rw [preB_len hk] at h1
  rw [postB_len] at h2
  have h3 : fitsO (256 + sumB (preB h) + sumB (postB h gnu)) 7 := fits_of (w := 5) (by omega)
  obtain ⟨k1, k2, k3, k4, k5⟩ := hk
  have l6 := octF_len h3 (by omega)
  have l0 := fixW_len h.name 100
  have l1 := octF_len k1 (by omega)
  have l2 := octF_len k2 (by omega)
  have l3 := octF_len k3 (by omega)
  have l4 := octF_len k4 (by omega)
  have l5 := octF_len k5 (by omega)
  have l8 := fixW_len h.link 100
  have l9 : (magicB gnu).length = 8 := by cases gnu <;> rfl
  have l10 := fixW_len h.owner 32
  have l11 := fixW_len h.group 32
  have l12 : (octF 0 8).length = 8 := octF_len (fits_of (w := 6) (by decide)) (by omega)
  have l13 := fixW_len h.pfx 155
  rw [blockB]
  generalize 256 + sumB (preB h) + sumB (postB h gnu) = sm at l6 h3 ⊢
  simp only [preB, postB, List.append_assoc]
  generalize fixW h.name 100 = x0 at l0 ⊢
  generalize octF h.mode 8 = x1 at l1 ⊢
  generalize octF h.uid 8 = x2 at l2 ⊢
  generalize octF h.gid 8 = x3 at l3 ⊢
  generalize octF h.size 12 = x4 at l4 ⊢
  generalize octF h.mtime 12 = x5 at l5 ⊢
  generalize octF sm 7 = x6 at l6 ⊢
  generalize fixW h.link 100 = x8 at l8 ⊢
  generalize magicB gnu = x9 at l9 ⊢
  generalize fixW h.owner 32 = x10 at l10 ⊢
  generalize fixW h.group 32 = x11 at l11 ⊢
  generalize octF 0 8 = x12 at l12 ⊢
  generalize fixW h.pfx 155 = x13 at l13 ⊢
  have e7 : ([h.kind] : List UInt8).length = 1 := rfl
  have e6 : ([32] : List UInt8).length = 1 := rfl
  generalize ([h.kind] : List UInt8) = x7 at e7 ⊢
  refine ⟨?_, ?_, ?_, ?_, ?_, ?_, ?_, ?_, ?_, ?_, ?_, ?_, ?_⟩
  rotate_left 6
  · rw [show x6 ++ ([32] ++ (x7 ++ (x8 ++ (x9 ++ (x10 ++ (x11 ++ (x12 ++ (x12 ++ (x13 ++ List.replicate 12 0))))))))) = (x6 ++ [32]) ++ (x7 ++ (x8 ++ (x9 ++ (x10 ++ (x11 ++ (x12 ++ (x12 ++ (x13 ++ List.replicate 12 0)))))))) by simp]
    have l6b : (x6 ++ [32]).length = 8 := by simp [l6]
    generalize x6 ++ [32] = x6' at l6b ⊢
    simp only [fld_skip, fld_head, l0, l1, l2, l3, l4, l5, l6b, Nat.reduceLeDiff, Nat.reduceSub]
  all_goals simp only [fld_skip, fld_head, l0, l1, l2, l3, l4, l5, l6, l8, l9, l10, l11, l12, l13, e6, e7, Nat.reduceLeDiff, Nat.reduceSub]
/-- A head's numbers and texts may be written. -/
structure HdB (h : Hd) : Prop where
  ok : HdOk h
  n1 : h.mode ≤ 10000000000
  n2 : h.uid ≤ 10000000000
  n3 : h.gid ≤ 10000000000
  n4 : h.size ≤ 10000000000
  n5 : h.mtime ≤ 10000000000
  z1 : NZ h.name
  z2 : NZ h.pfx
  z3 : NZ h.link
  z4 : NZ h.owner
  z5 : NZ h.group
theorem magic_of (gnu : Bool) : decide (magicB gnu = magicB true) = gnu := by cases gnu <;> rfl
theorem magic_is (gnu : Bool) : ¬ (magicB gnu ≠ magicB false ∧ magicB gnu ≠ magicB true) := by
  cases gnu
  · exact fun h => h.1 rfl
  · exact fun h => h.2 rfl
theorem sum_blk {h : Hd} (hk : HdOk h) (gnu : Bool) : sumT (blockB h gnu) = 256 + sumB (preB h) + sumB (postB h gnu) ∧ octCode (fldB (blockB h gnu) 148 8) = 0 ∧ ocN (fldB (blockB h gnu) 148 8) = 256 + sumB (preB h) + sumB (postB h gnu) := by
  have h1 := sumB_le (preB h)
  have h2 := sumB_le (postB h gnu)
  rw [preB_len hk] at h1
  rw [postB_len] at h2
  have h3 : fitsO (256 + sumB (preB h) + sumB (postB h gnu)) 7 := fits_of (w := 5) (by omega)
  obtain ⟨_, _, _, _, _, _, f7, _⟩ := blk_fields hk gnu
  rw [f7]
  obtain ⟨a, b⟩ := octF_read (n := 256 + sumB (preB h) + sumB (postB h gnu)) (w := 7) (by omega) [32] (.inr rfl)
  refine ⟨?_, a, b⟩
  rw [blockB]
  exact sumT_parts _ _ _ (preB_len hk) (by rw [List.length_append, octF_len h3 (by omega)]; rfl)
/-- A head that is written is read as it was. -/
theorem head_back {h : Hd} (hb : HdB h) (gnu : Bool) : headS (blockB h gnu) = .ok ⟨h.name.take 100, h.pfx.take 155, h.link.take 100, h.mode, h.uid, h.gid, h.size, h.mtime, h.kind, h.owner.take 32, h.group.take 32, gnu⟩ := by
  obtain ⟨s1, s2, s3⟩ := sum_blk hb.ok gnu
  obtain ⟨f0, f1, f2, f3, f4, f5, _, f7, f8, f9, f10, f11, f13⟩ := blk_fields hb.ok gnu
  have g (n w : Nat) (hn : n ≤ 10000000000) := octF_read (n := n) (w := w) (by omega) [] (.inl rfl)
  simp only [List.append_nil] at g
  obtain ⟨a1, b1⟩ := g h.mode 8 hb.n1
  obtain ⟨a2, b2⟩ := g h.uid 8 hb.n2
  obtain ⟨a3, b3⟩ := g h.gid 8 hb.n3
  obtain ⟨a4, b4⟩ := g h.size 12 hb.n4
  obtain ⟨a5, b5⟩ := g h.mtime 12 hb.n5
  have hn : fstBad (numsL (blockB h gnu)) = 0 := by
    rw [numsL, f1, f2, f3, f4, f5]
    simp only [fstBad, a1, a2, a3, a4, a5, if_true]
  rw [headS, if_neg (by rw [s1, s2, s3]; simp), if_neg (by rw [f9]; exact magic_is gnu), if_neg (by rw [hn]; simp), hdR, f0, f1, f2, f3, f4, f5, getD_fld f7, f8, f9, f10, f11, f13, b1, b2, b3, b4, b5, magic_of, upZ_fix hb.z1, upZ_fix hb.z2, upZ_fix hb.z3, upZ_fix hb.z4, upZ_fix hb.z5]
theorem nul_fld {b : List UInt8} (h : nulB b = true) (k n : Nat) : ∀ c ∈ fldB b k n, c = 0 := fun c hc => by
  rw [nulB, List.all_eq_true] at h
  exact of_decide_eq_true (h c (List.mem_of_mem_drop (List.mem_of_mem_take hc)))
theorem octF_some {n w : Nat} (t : List UInt8) : ∃ c ∈ octF n w ++ t, c ≠ 0 := by
  have hl := octD_pos n
  cases hd : octD n with
  | nil => rw [hd] at hl; simp at hl
  | cons c r =>
    have hc : c ∈ octD n := by rw [hd]; exact .head _
    refine ⟨c, ?_, (oct_ne (octD_oct n c hc)).2⟩
    rw [octF]
    simp [hc]
/-- A head is not of zeros alone, whatever is turned that is not its sum. -/
theorem nul_no {h : Hd} (hk : HdOk h) (gnu : Bool) {b : List UInt8} (he : fldB b 148 8 = fldB (blockB h gnu) 148 8) : nulB b = false := by
  obtain ⟨_, _, _, _, _, _, f7, _⟩ := blk_fields hk gnu
  cases hn : nulB b with
  | false => rfl
  | true =>
    obtain ⟨c, hc, h0⟩ := octF_some (n := 256 + sumB (preB h) + sumB (postB h gnu)) (w := 7) [32]
    exact absurd (nul_fld hn 148 8 c (by rw [he, f7]; exact hc)) h0
theorem goS_set : ∀ (l : List UInt8) (i o : Nat) (h : i < l.length) (c : UInt8), (i + o < 148 ∨ 156 ≤ i + o) → goS (l.set i c) o + l[i].toNat = goS l o + c.toNat
  | [], i, _, h, _, _ => by simp at h
  | x :: t, 0, o, _, c, hr => by
    rw [List.set_cons_zero, goS, goS, if_pos (by omega), if_pos (by omega)]
    simp only [List.getElem_cons_zero]
    omega
  | x :: t, i + 1, o, h, c, hr => by
    have ih := goS_set t i (o + 1) (by simpa using h) c (by omega)
    rw [List.set_cons_succ, goS, goS]
    simp only [List.getElem_cons_succ]
    omega
theorem fld_set {b : List UInt8} {i k n : Nat} (c : UInt8) (h : i < k ∨ k + n ≤ i) : fldB (b.set i c) k n = fldB b k n := by
  apply List.ext_getElem?
  intro j
  simp only [fldB, List.getElem?_take, List.getElem?_drop]
  split
  · rw [List.getElem?_set_ne (by omega)]
  · rfl
/-- A head with a byte turned is told. -/
theorem head_turned {h : Hd} (hk : HdOk h) (gnu : Bool) (i : Nat) (hi : i < 512) (hr : i < 148 ∨ 156 ≤ i) (c : UInt8) (hc : (blockB h gnu)[i]? ≠ some c) : headS ((blockB h gnu).set i c) = .bad 5 ∧ nulB ((blockB h gnu).set i c) = false := by
  obtain ⟨s1, s2, s3⟩ := sum_blk hk gnu
  have hf : fldB ((blockB h gnu).set i c) 148 8 = fldB (blockB h gnu) 148 8 := fld_set c (by omega)
  refine ⟨?_, nul_no hk gnu hf⟩
  have hl := blockB_len hk gnu
  have hg := goS_set (blockB h gnu) i 0 (by omega) c (by omega)
  have hne : (blockB h gnu)[i]'(by omega) ≠ c := fun e => hc (by rw [List.getElem?_eq_getElem (by omega), e])
  have hne2 : ((blockB h gnu)[i]'(by omega)).toNat ≠ c.toNat := fun e => hne (UInt8.toNat_inj.1 e)
  rw [headS, if_pos]
  refine .inr ?_
  rw [hf, s3, ← s1, sumT, sumT]
  omega
end Go.Proofs.YtpheifdpjcppdaaGreatDoor
