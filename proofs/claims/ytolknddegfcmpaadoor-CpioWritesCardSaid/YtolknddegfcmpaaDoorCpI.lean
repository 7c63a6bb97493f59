/- The walks of the document's fill, name, member. -/
import Derived.Test.YtolknddegfcmpaaDoorCpBE
namespace Go.Proofs.YtolknddegfcmpaaDoor
open Go.RowKit
set_option maxRecDepth 20000 in
set_option maxHeartbeats 4000000 in
theorem rfill_any (s : List UInt8) (w : World) (hs : s.length ≤ 1000000000) : Calls Tryd.prog 50 #[.string (bs s)] w fun e w' => e = .returned (.string (bs (s ++ List.replicate (filN s.length) 0))) ∧ w = w' := by
  have r1 : ∀ q, bs q ++ (⟨#[0]⟩ : ByteArray) = bs (q ++ [0]) := fun q => bs_app q [0]
  have hsz := bs_size
  have hf4 := fil_lt s.length
  have HF : Hid (filN s.length = (4 - s.length % 4) % 4) := Lib.hid rfl
  obtain ⟨N, HN⟩ : ∃ N, Hid (filN s.length = N) := ⟨_, Lib.hid rfl⟩
  rw [HN.out] at hf4 HF ⊢
  go_enter Tryd.func50, Tryd.ntmps50
  go_wp2_with fail
  go_loopg [0] N (fun G s0 wr => ∃ (k : Nat) (q : List UInt8), k ≤ N ∧ G = N - k ∧ s0 = .string (bs q) ∧ Hid (s ++ List.replicate k 0 = q) ∧ w = wr)
  case atStart => exact ⟨0, s, Nat.zero_le _, rfl, rfl, Lib.hid (by simp), rfl⟩
  case round =>
    obtain ⟨k, q, hk, rfl, rfl, HQ, rfl⟩ := hrel
    obtain ⟨n, hn⟩ : ∃ n, q.length = n := ⟨_, rfl⟩
    have hnn : n = s.length + k := by rw [← hn, ← HQ.out, List.length_append, List.length_replicate]
    obtain ⟨m, hm⟩ : ∃ m, n % 4 = m := ⟨_, rfl⟩
    have hnb : n ≤ 1000000004 := by omega
    have h1 : (n : Int).tmod 4 = (m : Int) := by rw [Int.tmod_eq_emod_of_nonneg (by omega)]; omega
    have h2 : (n : Int) % 4 = (m : Int) := by omega
    by_cases hlt : k < N
    · have hm0 : m ≠ 0 := by have := HF.out; omega
      have hmb : ((m : Int) != 0) = true := by simp; omega
      have HQ2 : Hid (s ++ List.replicate (k + 1) 0 = q ++ [0]) := Lib.hid (by rw [List.replicate_succ', ← List.append_assoc, HQ.out])
      have HM0 := Lib.hid hm0
      clear hm0 hnn hm
      go_wp2_with fail
      go_roundg (N - (k + 1))
      case measure => omega
      case rel => exact ⟨k + 1, q ++ [0], by omega, rfl, rfl, HQ2, rfl⟩
    · have hm0 : m = 0 := by have := HF.out; omega
      have hke : k = N := by omega
      subst hm0
      subst hke
      clear hnn hm
      go_wp2_with fail
      go_ret
      exact ⟨by rw [HQ.out]; rfl, rfl⟩
set_option maxRecDepth 20000 in
set_option maxHeartbeats 4000000 in
theorem rname_any (e : En) (dv : Value) (w : World) (A : Option Addr) (n cap : Nat) (h : dv = .slice A n cap) :
    Calls Tryd.prog 26 #[entV e dv] w fun r w' => r = .returned (.string (bs (nmE e))) ∧ Below w.heap.size w w' := by
  subst h
  obtain ⟨path, kind, mode, uid, gid, owner, group, mtime, link, data⟩ := e
  have HF : Hid (nmE ⟨path, kind, mode, uid, gid, owner, group, mtime, link, data⟩ = if kind = 4 then link else path) := Lib.hid rfl
  generalize nmE ⟨path, kind, mode, uid, gid, owner, group, mtime, link, data⟩ = res at HF
  simp only [entV]
  go_enter Tryd.func26, Tryd.ntmps26
  go_upto_region 1 with fail
  have bE := Blk.new w tE #[.string (bs path), .int .i64 kind, .int .i64 mode, .int .i64 uid, .int .i64 gid, .string (bs owner), .string (bs group), .int .i64 mtime, .string (bs link), .slice A n cap]
  have hq := (Below.refl w.heap.size w).alloc (Nat.le_refl _) (.cells #[.string (bs path), .int .i64 kind, .int .i64 mode, .int .i64 uid, .int .i64 gid, .string (bs owner), .string (bs group), .int .i64 mtime, .string (bs link), .slice A n cap] tE)
  generalize w.alloc (.cells #[.string (bs path), .int .i64 kind, .int .i64 mode, .int .i64 uid, .int .i64 gid, .string (bs owner), .string (bs group), .int .i64 mtime, .string (bs link), .slice A n cap] tE) = W at bE hq ⊢
  generalize hg : w.heap.size = g at bE ⊢
  have d0 := bE.cell 0
  have d1 := bE.cell 1
  have d8 := bE.cell 8
  simp at d0 d1 d8
  by_cases h4 : kind = 4
  · have e4 : (kind == 4) = true := by simpa using h4
    have HV := Lib.hid (HF.out.trans (if_pos h4))
    clear h4 HF
    go_wp2_with fail
    go_ret
    exact ⟨by rw [HV.out]; rfl, by first | exact hq | (rw [← hg]; exact hq)⟩
  · have e4 : (kind == 4) = false := by simpa using h4
    have HV := Lib.hid (HF.out.trans (if_neg h4))
    clear h4 HF
    go_wp2_with fail
    go_ret
    exact ⟨by rw [HV.out]; rfl, by first | exact hq | (rw [← hg]; exact hq)⟩
def vI (n : Nat) : Value := .int .i64 (n : Int)
set_option maxRecDepth 20000 in
set_option maxHeartbeats 8000000 in
theorem rmember_any (w : World) (f md lk ui gi ti : Nat) (h0 : f ≤ 4294967295) (h1 : md ≤ 4294967295) (h2 : lk ≤ 4294967295) (h3 : ui ≤ 4294967295) (h4 : gi ≤ 4294967295) (h5 : ti ≤ 4294967295) (path owner group link : List UInt8) (kind mode : Int) (A : Option Addr) (nA cap : Nat)
    (name : List UInt8) (hnm : name.length ≤ 10000000) (data : List UInt8) (hdl : data.length ≤ 10000000) :
    Calls Tryd.prog 27 #[.int .i64 f, .int .i64 md, .int .i64 lk, .agg #[.string (bs path), .int .i64 kind, .int .i64 mode, .int .i64 ui, .int .i64 gi, .string (bs owner), .string (bs group), .int .i64 ti, .string (bs link), .slice A nA cap], .string (bs name), .string (bs data)] w fun e w' =>
      e = .returned (.string (bs (memB (numL f md lk ui gi ti data.length (name.length + 1)) name data))) ∧ Below w.heap.size w w' := by
  obtain ⟨nz, HNZ⟩ : ∃ nz, Hid (nz = name.length + 1) := ⟨_, Lib.hid rfl⟩
  have w1 : IntKind.i64.wrap ((name.length : Int) + 1) = (nz : Int) := by rw [i64_in _ (by omega) (by omega), HNZ.out]; omega
  have hsz := bs_size
  obtain ⟨nd, HND⟩ : ∃ nd, Hid (nd = data.length) := ⟨_, Lib.hid rfl⟩
  have hdn := HND.out.symm
  have hnzl : nz ≤ 4294967295 := by rw [HNZ.out]; omega
  have hndl : nd ≤ 4294967295 := by omega
  have HL : Hid (∀ x ∈ numL f md lk ui gi ti nd nz, x ≤ 4294967295) := Lib.hid (by simp [numL]; omega)
  have HLN : Hid ((numL f md lk ui gi ti nd nz).length = 13) := Lib.hid rfl
  rw [show memB (numL f md lk ui gi ti data.length (name.length + 1)) name data = magicL ++ hexK (numL f md lk ui gi ti nd nz) 13 ++ name ++ [0] ++ List.replicate (filN (111 + name.length)) 0 ++ data ++ List.replicate (filN data.length) 0 by rw [HNZ.out, HND.out]; rfl]
  have HRW : Hid (((numL f md lk ui gi ti nd nz).map vI).toArray = #[.int .i64 f, .int .i64 md, .int .i64 lk, .int .i64 ui, .int .i64 gi, .int .i64 ti, .int .i64 nd, .int .i64 0, .int .i64 0, .int .i64 0, .int .i64 0, .int .i64 nz, .int .i64 0]) := Lib.hid rfl
  generalize numL f md lk ui gi ti nd nz = ns at HL HLN HRW ⊢
  have hcat := bs_app
  have r1 : ∀ q, bs q ++ (⟨#[0]⟩ : ByteArray) = bs (q ++ [0]) := fun q => bs_app q [0]
  go_enter Tryd.func27, Tryd.ntmps27
  go_upto_region 1 with fail
  have bE := Blk.new w tE #[.string (bs path), .int .i64 kind, .int .i64 mode, .int .i64 ui, .int .i64 gi, .string (bs owner), .string (bs group), .int .i64 ti, .string (bs link), .slice A nA cap]
  have hb1 := (Below.refl w.heap.size w).alloc (Nat.le_refl _) (.cells #[.string (bs path), .int .i64 kind, .int .i64 mode, .int .i64 ui, .int .i64 gi, .string (bs owner), .string (bs group), .int .i64 ti, .string (bs link), .slice A nA cap] tE)
  generalize w.alloc (.cells #[.string (bs path), .int .i64 kind, .int .i64 mode, .int .i64 ui, .int .i64 gi, .string (bs owner), .string (bs group), .int .i64 ti, .string (bs link), .slice A nA cap] tE) = W1 at bE hb1 ⊢
  generalize hg : w.heap.size = g at bE ⊢
  have d3 := bE.cell 3
  have d4 := bE.cell 4
  have d7 := bE.cell 7
  simp at d3 d4 d7
  go_upto_region 2 with fail
  have bR := Blk.new W1 3 #[.int .i64 f, .int .i64 md, .int .i64 lk, .int .i64 ui, .int .i64 gi, .int .i64 ti, .int .i64 nd, .int .i64 0, .int .i64 0, .int .i64 0, .int .i64 0, .int .i64 nz, .int .i64 0]
  have hb2 := hb1.alloc (by rw [← hg] at *; exact hb1.size) (.cells #[.int .i64 f, .int .i64 md, .int .i64 lk, .int .i64 ui, .int .i64 gi, .int .i64 ti, .int .i64 nd, .int .i64 0, .int .i64 0, .int .i64 0, .int .i64 0, .int .i64 nz, .int .i64 0] 3)
  clear hb1 bE d3 d4 d7
  generalize W1.alloc (.cells #[.int .i64 f, .int .i64 md, .int .i64 lk, .int .i64 ui, .int .i64 gi, .int .i64 ti, .int .i64 nd, .int .i64 0, .int .i64 0, .int .i64 0, .int .i64 0, .int .i64 nz, .int .i64 0] 3) = W2 at bR hb2 ⊢
  rw [← HRW.out] at bR
  generalize W1.heap.size = gR at bR ⊢
  go_wp2_with fail
  go_loopg [14, 15] 13 (fun G s14 s15 wr => ∃ (k : Nat) (q : List UInt8), k ≤ 13 ∧ G = 13 - k ∧ s15 = .int .i64 k ∧ s14 = .string (bs q) ∧ Hid (q = magicL ++ hexK ns k) ∧ Blk wr gR 3 (ns.map vI).toArray ∧ Below w.heap.size w wr)
  case atStart => exact ⟨0, magicL, Nat.zero_le _, rfl, rfl, rfl, Lib.hid (by simp [hexK]), bR, by first | exact hb2 | (rw [hg]; exact hb2)⟩
  case round =>
    clear bR hb2
    obtain ⟨k, q, hk, rfl, rfl, rfl, HQ, bR, hb⟩ := hrel
    have hql : q.length ≤ 110 := by
      rw [HQ.out, List.length_append, hexK_len ns k (by rw [HLN.out]; omega)]
      have : magicL.length = 6 := rfl
      omega
    by_cases hlt : k < 13
    · have hkl : k < ns.length := by rw [HLN.out]; exact hlt
      have hcell : wr.cell? ⟨gR, k, none⟩ = some (.int .i64 (ns[k] : Int)) := by rw [bR.cell]; simp [vI, hkl]
      have hle := HL.out _ (List.getElem_mem hkl)
      have HST : Hid (q ++ hxd ns[k] 8 = magicL ++ hexK ns (k + 1)) := Lib.hid (by rw [hexK_step ns k hkl, HQ.out, List.append_assoc])
      generalize ns[k] = x at hcell hle HST
      have hxn := hxd_length x 8
      have i1 : (0 : Int) ≤ (k : Int) := by omega
      have i2 : (k : Int) < 13 := by omega
      have r8 : ∀ q, bs q ++ (⟨(hxd x 8).toArray⟩ : ByteArray) = bs (q ++ hxd x 8) := fun q => bs_app q (hxd x 8)
      have hs8 : (⟨(hxd x 8).toArray⟩ : ByteArray).size = 8 := by rw [← hxn]; exact bs_size _
      have h8 := rhex8_any x wr hle
      go_wp2_with (go_at_call 49; refine h8.mono ?_; rintro e W5 ⟨rfl, hb5⟩)
      have bR5 := bR.below hb5 bR.lt
      have hb6 := hb.trans (hb5.mono hb.size)
      go_roundg (13 - (k + 1))
      case measure => omega
      case rel => exact ⟨k + 1, _, by omega, rfl, by simp, rfl, HST, bR5, hb6⟩
    · have hke : k = 13 := by omega
      subst hke
      have hq13 : q.length = 110 := by
        rw [HQ.out, List.length_append, hexK_len ns 13 (by rw [HLN.out]; exact Nat.le_refl _)]
        rfl
      obtain ⟨s1, hs1⟩ : ∃ s1, q ++ (name ++ [0]) = s1 := ⟨_, rfl⟩
      have hl2 : s1.length = 111 + name.length := by rw [← hs1]; simp; omega
      have hp1 := rfill_any s1 wr (by rw [hl2]; omega)
      have hp2 := rfill_any data wr (by omega)
      rw [hl2] at hp1
      have hf1 := fil_lt (111 + name.length)
      have hf2 := fil_lt data.length
      have HV : Hid (s1 ++ List.replicate (filN (111 + name.length)) 0 ++ (data ++ List.replicate (filN data.length) 0) = magicL ++ hexK ns 13 ++ name ++ [0] ++ List.replicate (filN (111 + name.length)) 0 ++ data ++ List.replicate (filN data.length) 0) := Lib.hid (by rw [← hs1, HQ.out]; simp only [List.append_assoc])
      obtain ⟨y1, HY1⟩ : ∃ y, Hid (s1 ++ List.replicate (filN (111 + name.length)) 0 = y) := ⟨_, Lib.hid rfl⟩
      obtain ⟨y2, HY2⟩ : ∃ y, Hid (data ++ List.replicate (filN data.length) 0 = y) := ⟨_, Lib.hid rfl⟩
      rw [HY1.out] at hp1 HV
      rw [HY2.out] at hp2 HV
      have hy1 : y1.length ≤ 10000200 := by rw [← HY1.out, List.length_append, hl2, List.length_replicate]; omega
      have hy2 : y2.length ≤ 10000200 := by rw [← HY2.out, List.length_append, List.length_replicate]; omega
      have hqn : (q ++ name).length ≤ 10000200 := by rw [List.length_append]; omega
      clear bR hf1 hf2 hl2
      go_wp2_with (first
        | (go_at_call 50; refine hp1.mono ?_; rintro e W5 ⟨rfl, rfl⟩; clear hp1)
        | (go_at_call 50; refine hp2.mono ?_; rintro e W5 ⟨rfl, rfl⟩; clear hp2))
      go_ret
      exact ⟨by rw [← HV.out]; rfl, hb⟩
end Go.Proofs.YtolknddegfcmpaaDoor
