/- Tar, in plain words: what is written is read as it was. -/
import Derived.Test.YtpheifdpjcppdaaGreatDoorTbQ
namespace Go.Proofs.YtpheifdpjcppdaaGreatDoor
open Go.RowKit
theorem wholeB_len (d : List UInt8) : (wholeB d).length = upB d.length := by
  rw [wholeB, List.length_append, List.length_replicate, upB]; omega
theorem up_ge (n : Nat) : n ≤ upB n := by rw [upB]; omega
def hrOf (h : Hd) (gnu : Bool) : HdR := ⟨h.name.take 100, h.pfx.take 155, h.link.take 100, h.mode, h.uid, h.gid, h.size, h.mtime, h.kind, h.owner.take 32, h.group.take 32, gnu⟩
section
variable {pre rest d : List UInt8} {h : Hd} {gnu : Bool} {t : Td}
theorem step_head (hb : HdB h) : stepT ((pre ++ (blockB h gnu ++ wholeB d)) ++ rest) t pre.length = bodyS ((pre ++ (blockB h gnu ++ wholeB d)) ++ rest) t pre.length (hrOf h gnu) ∧ fldB ((pre ++ (blockB h gnu ++ wholeB d)) ++ rest) (pre.length + 512) d.length = d ∧ pre.length + 512 + upB d.length ≤ ((pre ++ (blockB h gnu ++ wholeB d)) ++ rest).length := by
  have hl := blockB_len hb.ok gnu
  have hw := wholeB_len d
  have e : (pre ++ (blockB h gnu ++ wholeB d)) ++ rest = pre ++ (blockB h gnu ++ (wholeB d ++ rest)) := by simp only [List.append_assoc]
  have hlen : pre.length + 512 + upB d.length ≤ ((pre ++ (blockB h gnu ++ wholeB d)) ++ rest).length := by simp only [List.length_append]; omega
  have f1 : fldB ((pre ++ (blockB h gnu ++ wholeB d)) ++ rest) pre.length 512 = blockB h gnu := by rw [e, fld_pre0, fld_head hl]
  have f2 : fldB ((pre ++ (blockB h gnu ++ wholeB d)) ++ rest) (pre.length + 512) d.length = d := by
    rw [e, fld_pre, fld_skip (by omega), hl, wholeB, List.append_assoc]
    exact fld_head rfl
  refine ⟨?_, f2, hlen⟩
  rw [stepT, if_neg (by omega), f1, nul_no hb.ok gnu rfl, if_neg (by decide), head_back hb gnu]
  rfl
theorem step_tellB (hb : HdB h) (hs : h.size = d.length) (ht : isTell h.kind = true) (h0 : t [h.kind] = none) (h1 : (tellS t h.kind d).1 = 0) : stepT ((pre ++ (blockB h gnu ++ wholeB d)) ++ rest) t pre.length = .tell (tellS t h.kind d).2 (pre.length + 512 + upB d.length) := by
  obtain ⟨a, b, c⟩ := step_head (pre := pre) (rest := rest) (d := d) (gnu := gnu) (t := t) hb
  have := up_ge d.length
  have z : (hrOf h gnu).size = d.length := hs
  have k : (hrOf h gnu).kind = h.kind := rfl
  rw [a, bodyS, k, z, if_pos ht, h0, if_neg (by decide), if_neg (by omega), b, if_pos h1]
theorem step_entB (hb : HdB h) (hs : h.size = d.length) (ht : isTell h.kind = false) (hk : kindR h.kind ≠ 0) (hd : kindR h.kind ≠ 1 → d = []) (h0 : t kSize = none) : stepT ((pre ++ (blockB h gnu ++ wholeB d)) ++ rest) t pre.length = .ent (entS t (hrOf h gnu) d) (pre.length + 512 + upB d.length) := by
  obtain ⟨a, b, c⟩ := step_head (pre := pre) (rest := rest) (d := d) (gnu := gnu) (t := t) hb
  have := up_ge d.length
  have z : orN t kSize (hrOf h gnu).size = d.length := by rw [orN, h0]; exact hs
  have k : (hrOf h gnu).kind = h.kind := rfl
  rw [a, bodyS, k, z, if_neg (by rw [ht]; decide), if_neg hk, if_neg (fun hh => by rw [hd hh.1] at hh; exact absurd hh.2 (by simp)), if_neg (by omega), b]
end
/-- Those bytes are read, from what was told to what was told then: these entries. -/
def Rd (x : List UInt8) (t t' : Td) (E : List En) : Prop := ∀ (pre rest : List UInt8) (n fr : Nat) (L : List En) (PL : List Nat), ((pre ++ x) ++ rest).length < n + pre.length →
  ∃ n' fr' PL', ((pre ++ x) ++ rest).length < n' + (pre ++ x).length ∧ runT ((pre ++ x) ++ rest) n t fr L PL pre.length = runT ((pre ++ x) ++ rest) n' t' fr' (L ++ E) PL' (pre ++ x).length
theorem Rd.nil (t : Td) : Rd [] t t [] := fun pre rest n fr L PL h => ⟨n, fr, PL, by simpa using h, by simp⟩
theorem Rd.app {x y : List UInt8} {t t' t'' : Td} {E F : List En} (a : Rd x t t' E) (b : Rd y t' t'' F) : Rd (x ++ y) t t'' (E ++ F) := fun pre rest n fr L PL h => by
  have e1 : (pre ++ (x ++ y)) ++ rest = (pre ++ x) ++ (y ++ rest) := by simp only [List.append_assoc]
  have e2 : (pre ++ (x ++ y)) ++ rest = ((pre ++ x) ++ y) ++ rest := by simp only [List.append_assoc]
  have e3 : (pre ++ (x ++ y)).length = ((pre ++ x) ++ y).length := by simp only [List.append_assoc]
  rw [e1] at h
  obtain ⟨n1, fr1, PL1, h1, r1⟩ := a pre (y ++ rest) n fr L PL h
  rw [← e1, e2] at h1
  obtain ⟨n2, fr2, PL2, h2, r2⟩ := b (pre ++ x) rest n1 fr1 (L ++ E) PL1 h1
  refine ⟨n2, fr2, PL2, by rw [e2, e3]; exact h2, ?_⟩
  rw [List.append_assoc L E F] at r2
  rw [e3, e2, ← r2, ← e2, e1, r1]
theorem Rd.tell {d : List UInt8} {h : Hd} {gnu : Bool} {t : Td} (hb : HdB h) (hs : h.size = d.length) (ht : isTell h.kind = true) (h0 : t [h.kind] = none) (h1 : (tellS t h.kind d).1 = 0) : Rd (blockB h gnu ++ wholeB d) t (tellS t h.kind d).2 [] := fun pre rest n fr L PL hn => by
  have hl := blockB_len hb.ok gnu
  have hw := wholeB_len d
  have hp : (pre ++ (blockB h gnu ++ wholeB d)).length = pre.length + 512 + upB d.length := by simp only [List.length_append]; omega
  have hge : pre.length + 512 ≤ ((pre ++ (blockB h gnu ++ wholeB d)) ++ rest).length := by rw [List.length_append, hp]; omega
  obtain ⟨m, rfl⟩ : ∃ m, n = m + 1 := ⟨n - 1, by omega⟩
  refine ⟨m, if noneB t = true then pre.length else fr, PL, by rw [hp]; omega, ?_⟩
  rw [runT, step_tellB hb hs ht h0 h1, hp, List.append_nil]
theorem Rd.ent {d : List UInt8} {h : Hd} {gnu : Bool} {t : Td} {e : En} (hb : HdB h) (hs : h.size = d.length) (ht : isTell h.kind = false) (hk : kindR h.kind ≠ 0) (hd : kindR h.kind ≠ 1 → d = []) (h0 : t kSize = none) (he : entS t (hrOf h gnu) d = e) : Rd (blockB h gnu ++ wholeB d) t (fun _ => none) [e] := fun pre rest n fr L PL hn => by
  have hl := blockB_len hb.ok gnu
  have hw := wholeB_len d
  have hp : (pre ++ (blockB h gnu ++ wholeB d)).length = pre.length + 512 + upB d.length := by simp only [List.length_append]; omega
  have hge : pre.length + 512 ≤ ((pre ++ (blockB h gnu ++ wholeB d)) ++ rest).length := by rw [List.length_append, hp]; omega
  obtain ⟨m, rfl⟩ : ∃ m, n = m + 1 := ⟨n - 1, by omega⟩
  refine ⟨m, fr, PL ++ [pre.length], by rw [hp]; omega, ?_⟩
  rw [runT, step_entB hb hs ht hk hd h0, hp, he]
theorem run_end (pre rest : List UInt8) (n fr : Nat) (L : List En) (PL : List Nat) : runT (pre ++ (List.replicate 1024 0 ++ rest)) (n + 1) (fun _ => none) fr L PL pre.length = (L, PL, 0, 0) := by
  have e : List.replicate 1024 (0 : UInt8) = List.replicate 512 0 ++ List.replicate 512 0 := by rw [List.replicate_append_replicate]
  have f1 : fldB (pre ++ (List.replicate 1024 0 ++ rest)) pre.length 512 = List.replicate 512 0 := by rw [e, List.append_assoc, fld_pre0, fld_head (List.length_replicate ..)]
  have f2 : fldB (pre ++ (List.replicate 1024 0 ++ rest)) (pre.length + 512) 512 = List.replicate 512 0 := by rw [e, List.append_assoc, fld_pre, fld_skip (Nat.le_of_eq (List.length_replicate ..)), List.length_replicate, Nat.sub_self, fld_head (List.length_replicate ..)]
  have hz : nulB (List.replicate 512 0) = true := by
    rw [nulB, List.all_eq_true]
    intro c hc
    exact decide_eq_true (List.mem_replicate.1 hc).2
  have hl : pre.length + 1024 ≤ (pre ++ (List.replicate 1024 (0 : UInt8) ++ rest)).length := by simp only [List.length_append, List.length_replicate]; omega
  rw [runT, stepT, if_neg (by omega), f1, hz, if_pos rfl, if_neg (by omega), f2, hz, if_neg (by decide), if_neg (by decide)]
/-- What is told is in no field's place but these. -/
theorem kindRU {k : Int} (h1 : 1 ≤ k) (h2 : k ≤ 4) : kindR (kindU k) = k ∧ isTell (kindU k) = false := by
  have : k = 1 ∨ k = 2 ∨ k = 3 ∨ k = 4 := by omega
  rcases this with rfl | rfl | rfl | rfl <;> exact ⟨rfl, rfl⟩
theorem cut_slash (s : List UInt8) : cutSl (s ++ [47]) = s := by
  rw [cutSl, if_pos (by simp)]
  simp
theorem ent_back {e : En} (hF : Fx e) {t : Td} {nm px : List UInt8} {gnu : Bool} (hname : orT t kPth (orT t [76] (nameR (hrOf (hdH e nm px) gnu))) = nameT e) (hlink : e.kind = 3 ∨ e.kind = 4 → orT t kLnk (orT t [75] (e.link.take 100)) = e.link) (hq : t kUid = none ∧ t kGid = none ∧ t kOwn = none ∧ t kGrp = none ∧ t kTime = none) : entS t (hrOf (hdH e nm px) gnu) e.data = e := by
  obtain ⟨q1, q2, q3, q4, q5⟩ := hq
  obtain ⟨hk, _⟩ := kindRU hF.k1 hF.k2
  have k1 : (hrOf (hdH e nm px) gnu).kind = kindU e.kind := rfl
  have k2 : (hrOf (hdH e nm px) gnu).link = e.link.take 100 := rfl
  have k3 : (hrOf (hdH e nm px) gnu).owner = e.owner.take 32 := rfl
  have k4 : (hrOf (hdH e nm px) gnu).group = e.group.take 32 := rfl
  have k5 : ((hrOf (hdH e nm px) gnu).mode : Int) = e.mode := Int.toNat_of_nonneg hF.m1
  have k6 : ((hrOf (hdH e nm px) gnu).uid : Int) = e.uid := Int.toNat_of_nonneg hF.u1
  have k7 : ((hrOf (hdH e nm px) gnu).gid : Int) = e.gid := Int.toNat_of_nonneg hF.g1
  have k8 : ((hrOf (hdH e nm px) gnu).mtime : Int) = e.mtime := Int.toNat_of_nonneg hF.t1
  have o1 : e.owner.take 32 = e.owner := List.take_of_length_le (by have := hF.o2; omega)
  have o2 : e.group.take 32 = e.group := List.take_of_length_le (by have := hF.q2; omega)
  have u1 : orN t kUid (hrOf (hdH e nm px) gnu).uid = (hrOf (hdH e nm px) gnu).uid := by rw [orN, q1]
  have u2 : orN t kGid (hrOf (hdH e nm px) gnu).gid = (hrOf (hdH e nm px) gnu).gid := by rw [orN, q2]
  have u3 : orN t kTime (hrOf (hdH e nm px) gnu).mtime = (hrOf (hdH e nm px) gnu).mtime := by rw [orN, q5]
  have u4 : orT t kOwn e.owner = e.owner := by rw [orT, q3]
  have u5 : orT t kGrp e.group = e.group := by rw [orT, q4]
  have hp : (if e.kind = 2 then cutSl (nameT e) else nameT e) = e.path := by
    unfold nameT
    by_cases h2 : e.kind = 2
    · rw [if_pos h2, if_pos h2, cut_slash]
    · rw [if_neg h2, if_neg h2]
  have hl : (if e.kind = 3 ∨ e.kind = 4 then orT t kLnk (orT t [75] (e.link.take 100)) else []) = e.link := by
    by_cases h3 : e.kind = 3 ∨ e.kind = 4
    · rw [if_pos h3]; exact hlink h3
    · rw [if_neg h3]; exact (hF.nl (fun h => h3 (.inl h)) (fun h => h3 (.inr h))).symm
  rw [entS, hname, k1, hk, k2, k3, k4, u1, u2, u3, o1, o2, u4, u5, k5, k6, k7, k8, hp, hl]
theorem own_nz {s : List UInt8} (h : ownOk s = true) : NZ s := fun c hc h0 => by
  simp only [ownOk, Bool.and_eq_true, Bool.not_eq_true', List.any_eq_false] at h
  have := h.2 c hc
  simp [h0] at this
theorem tgt_nz {s : List UInt8} (h : tgtOk s = true) : NZ s := fun c hc h0 => by
  simp only [tgtOk, Bool.and_eq_true, Bool.not_eq_true', List.any_eq_false] at h
  have := h.2.2 c hc
  simp [h0] at this
theorem path_nz {s : List UInt8} (h : pathOk s = true) : NZ s := fun c hc h0 => by
  simp only [pathOk, Bool.and_eq_true, Bool.not_eq_true'] at h
  have := h.2.2.1
  rw [h0] at hc
  rw [List.contains_iff_mem.2 hc] at this
  cases this
theorem chk_nz {e : En} (h : chkE e = 0) : NZ e.path ∧ NZ e.link ∧ NZ e.owner ∧ NZ e.group := by
  unfold chkE at h
  cases h1 : pathOk e.path with
  | false => rw [h1, if_pos rfl] at h; exact absurd h (by decide)
  | true =>
    rw [h1, if_neg (by decide)] at h
    by_cases h2 : e.kind < 1 ∨ 4 < e.kind
    · rw [if_pos h2] at h; exact absurd h (by decide)
    rw [if_neg h2] at h
    cases h3 : numBad e with
    | true => rw [h3, if_pos rfl] at h; exact absurd h (by decide)
    | false =>
      rw [h3, if_neg (by decide)] at h
      by_cases h4 : ownOk e.owner = false ∨ ownOk e.group = false
      · rw [if_pos h4] at h; exact absurd h (by decide)
      rw [if_neg h4] at h
      by_cases h5 : e.kind = 3 ∧ tgtOk e.link = false
      · rw [if_pos h5] at h; exact absurd h (by decide)
      rw [if_neg h5] at h
      by_cases h6 : e.kind = 4 ∧ (pathOk e.link = false ∨ e.link = e.path)
      · rw [if_pos h6] at h; exact absurd h (by decide)
      rw [if_neg h6] at h
      by_cases h7 : e.kind ≠ 3 ∧ e.kind ≠ 4 ∧ e.link ≠ []
      · rw [if_pos h7] at h; exact absurd h (by decide)
      refine ⟨path_nz h1, ?_, own_nz ?_, own_nz ?_⟩
      · by_cases k3 : e.kind = 3
        · refine tgt_nz ?_
          cases ht : tgtOk e.link with
          | true => rfl
          | false => exact absurd ⟨k3, ht⟩ h5
        by_cases k4 : e.kind = 4
        · refine path_nz ?_
          cases ht : pathOk e.link with
          | true => rfl
          | false => exact absurd ⟨k4, .inl ht⟩ h6
        by_cases hl : e.link = []
        · rw [hl]; exact NZ.nil
        · exact absurd ⟨k3, k4, hl⟩ h7
      · cases ho : ownOk e.owner with
        | true => rfl
        | false => exact absurd (.inl ho) h4
      · cases ho : ownOk e.group with
        | true => rfl
        | false => exact absurd (.inr ho) h4
end Go.Proofs.YtpheifdpjcppdaaGreatDoor
