/- The walks of the document's part and record (tar). The document's heads of an entry (tar), in plain words. -/
import Derived.Test.YtpheifdpjcppdaaGreatDoorTaEK
import Derived.Test.YtpheifdpjcppdaaGreatDoorTaLM
namespace Go.Proofs.YtpheifdpjcppdaaGreatDoor
open Go.RowKit
theorem idx_at {l : List UInt8} {c : UInt8} {o : Nat} (h1 : l[o]? = some c) (h2 : ∀ j, j < o → l[j]? ≠ some c) : Lib.indexByte l c = o := by
  have hge := Lib.indexByte_ge l c
  by_cases hm : Lib.indexByte l c = -1
  · exact absurd h1 (Lib.indexByte_none hm o)
  · obtain ⟨o', ho⟩ : ∃ o' : Nat, Lib.indexByte l c = o' := ⟨(Lib.indexByte l c).toNat, by omega⟩
    obtain ⟨h3, h4⟩ := Lib.indexByte_some ho
    rw [ho]
    rcases Nat.lt_trichotomy o o' with h | h | h
    · exact absurd h1 (h4 o h)
    · rw [h]
    · exact absurd h3 (h2 o' h)
/-- Where a name is parted, as the document has it. -/
def partI (s : List UInt8) : Int := if s.length ≤ 100 then 0 else match partT s with
  | none => -1
  | some (p, _) => p.length
theorem partI_found {s : List UInt8} {k : Nat} (h1 : 100 < s.length) (hk : k < s.length - 1) (hm : s.length - 101 ≤ k) (hc : s[k]? = some 47) (hn : ∀ j, j < k → s.length - 101 ≤ j → s[j]? ≠ some 47) :
    partI s = if 155 < k then -1 else (k : Int) := by
  have hi : Lib.indexByte (s.drop (s.length - 101)) 47 = ((k - (s.length - 101) : Nat) : Int) := by
    refine idx_at ?_ fun j hj => ?_
    · rw [List.getElem?_drop, show s.length - 101 + (k - (s.length - 101)) = k by omega]; exact hc
    · rw [List.getElem?_drop]
      exact hn _ (by omega) (by omega)
  have hk2 : (Lib.indexByte (s.drop (s.length - 101)) 47).toNat + (s.length - 101) = k := by rw [hi]; omega
  rw [partI, if_neg (by omega), partT, if_neg (by omega), hk2, if_neg (by rw [hi]; omega)]
  by_cases h155 : 155 < k
  · rw [if_pos (.inl h155), if_pos h155]
  · rw [if_neg (by omega), if_neg h155]
    simp only [List.length_take]
    omega
theorem partI_none {s : List UInt8} (h1 : 100 < s.length) (hn : ∀ j, j < s.length - 1 → s.length - 101 ≤ j → s[j]? ≠ some 47) : partI s = -1 := by
  have hge := Lib.indexByte_ge (s.drop (s.length - 101)) 47
  rw [partI, if_neg (by omega), partT, if_neg (by omega)]
  by_cases hm : Lib.indexByte (s.drop (s.length - 101)) 47 < 0
  · rw [if_pos hm]
  · rw [if_neg hm]
    obtain ⟨o', ho⟩ : ∃ o' : Nat, Lib.indexByte (s.drop (s.length - 101)) 47 = o' := ⟨(Lib.indexByte (s.drop (s.length - 101)) 47).toNat, by omega⟩
    obtain ⟨h3, h4⟩ := Lib.indexByte_some ho
    have h5 := (List.getElem?_eq_some_iff.1 h3).1
    rw [List.length_drop] at h5
    rw [List.getElem?_drop] at h3
    rw [ho, if_pos]
    right
    by_cases he : s.length - 101 + o' < s.length - 1
    · exact absurd h3 (hn _ he (by omega))
    · omega
set_option maxRecDepth 20000 in
set_option maxHeartbeats 8000000 in
theorem rpart_any (s : List UInt8) (w : World) (hs : s.length ≤ 100000) : Calls Tryz.prog 40 #[.string (bs s)] w fun e w' => e = .returned (.int .i64 (partI s)) ∧ w = w' := by
  have zs := bs_size s
  obtain ⟨R, HR⟩ : ∃ R, Hid (partI s = R) := ⟨_, Lib.hid rfl⟩
  rw [HR.out]
  by_cases h1 : s.length ≤ 100
  · have q : decide ((s.length : Int) ≤ 100) = true := decide_eq_true (by omega)
    have q2 : (s.length : Int) ≤ 100 := by omega
    have HV : Hid (R = 0) := Lib.hid (by rw [← HR.out, partI, if_pos h1])
    clear h1
    go_enter Tryz.func40, Tryz.ntmps40
    go_wp2_with fail
    go_ret
    exact ⟨by rw [HV.out]; rfl, rfl⟩
  · have q : decide ((s.length : Int) ≤ 100) = false := decide_eq_false (by omega)
    have q2 : ¬ (s.length : Int) ≤ 100 := by omega
    have H1 : Hid (100 < s.length) := Lib.hid (by omega)
    obtain ⟨n, hn⟩ : ∃ n, s.length = n := ⟨_, rfl⟩
    have HN := Lib.hid hn
    rw [hn] at zs q q2 hs h1
    have wl : IntKind.i64.wrap ((n : Int) - 1) = (n : Int) - 1 := i64_in _ (by omega) (by omega)
    clear hn
    go_enter Tryz.func40, Tryz.ntmps40
    go_wp2_with fail
    go_loopg [3] n (fun G s3 wr => ∃ k : Nat, k ≤ n - 1 ∧ G = n - k ∧ s3 = .int .i64 (k : Int) ∧ w = wr ∧ Hid (∀ j, j < k → s.length - 101 ≤ j → s[j]? ≠ some 47))
    case atStart => exact ⟨0, Nat.zero_le _, rfl, rfl, rfl, Lib.hid (fun j h => absurd h (by omega))⟩
    case round =>
      obtain ⟨k, hk, rfl, rfl, rfl, HJ⟩ := hrel
      by_cases hlt : k < n - 1
      · have hks : k < s.length := by rw [HN.out]; omega
        have hc : (bs s)[k]'(by omega) = s[k] := rfl
        have hg : s[k]? = some s[k] := List.getElem?_eq_getElem hks
        have HG := Lib.hid hg
        clear hg
        have t1 : decide ((k : Int) < (n : Int) - 1) = true := decide_eq_true (by omega)
        have t1b : (k : Int) < (n : Int) - 1 := by omega
        have i1 : (0 : Int) ≤ (k : Int) := by omega
        have i2 : (k : Int) < (n : Int) := by omega
        have wk : IntKind.i64.wrap ((k : Int) + 1) = (k : Int) + 1 := i64_in _ (by omega) (by omega)
        have w1 : IntKind.i64.wrap ((n : Int) - (k : Int)) = (n : Int) - (k : Int) := i64_in _ (by omega) (by omega)
        have w2 : IntKind.i64.wrap ((n : Int) - (k : Int) - 1) = (n : Int) - (k : Int) - 1 := i64_in _ (by omega) (by omega)
        generalize s[k] = c at hc HG
        clear hks
        by_cases h47 : c = 47
        · have qc : ((c.toNat : Int) == 47) = true := by rw [h47]; rfl
          by_cases hm : n - k - 1 ≤ 100
          · have qm : decide ((n : Int) - (k : Int) - 1 ≤ 100) = true := decide_eq_true (by omega)
            have qm2 : (n : Int) - (k : Int) - 1 ≤ 100 := by omega
            have HF : Hid (R = if 155 < k then -1 else (k : Int)) := Lib.hid (by rw [← HR.out]; exact partI_found H1.out (by rw [HN.out]; omega) (by rw [HN.out]; omega) (by rw [HG.out, h47]) HJ.out)
            clear h47
            by_cases h155 : 155 < k
            · have p1 : decide ((155 : Int) < (k : Int)) = true := decide_eq_true (by omega)
              have p2 : (155 : Int) < (k : Int) := by omega
              have HV : Hid (R = -1) := Lib.hid (by rw [HF.out, if_pos h155])
              clear h155
              go_wp2_with fail
              go_ret
              exact ⟨by rw [HV.out]; rfl, rfl⟩
            · have p1 : decide ((155 : Int) < (k : Int)) = false := decide_eq_false (by omega)
              have p2 : ¬ (155 : Int) < (k : Int) := by omega
              have HV : Hid (R = k) := Lib.hid (by rw [HF.out, if_neg h155])
              clear h155
              go_wp2_with fail
              go_ret
              exact ⟨by rw [HV.out]; rfl, rfl⟩
          · have qm : decide ((n : Int) - (k : Int) - 1 ≤ 100) = false := decide_eq_false (by omega)
            have qm2 : ¬ (n : Int) - (k : Int) - 1 ≤ 100 := by omega
            clear h47
            go_wp2_with fail
            go_roundg (n - (k + 1))
            case measure => omega
            case rel => exact ⟨k + 1, by omega, rfl, by simp, rfl, Lib.hid fun j hj hm2 => by
              rw [HN.out] at hm2
              exact HJ.out j (by omega) (by rw [HN.out]; omega)⟩
        · have q47 : ¬ c.toNat = 47 := fun e => h47 (by rw [← UInt8.ofNat_toNat (x := c), e]; rfl)
          have qc : ((c.toNat : Int) == 47) = false := by simpa using (show ¬ (c.toNat : Int) = 47 by omega)
          have HC := Lib.hid h47
          clear h47
          go_wp2_with fail
          go_roundg (n - (k + 1))
          case measure => omega
          case rel => exact ⟨k + 1, by omega, rfl, by simp, rfl, Lib.hid fun j hj hm2 => by
            rcases Nat.lt_or_ge j k with h | h
            · exact HJ.out j h hm2
            · have : j = k := by omega
              rw [this, HG.out]
              intro e
              injection e with e
              exact HC.out e⟩
      · have t1 : decide ((k : Int) < (n : Int) - 1) = false := decide_eq_false (by omega)
        have t1b : ¬ (k : Int) < (n : Int) - 1 := by omega
        have HV : Hid (R = -1) := Lib.hid (by rw [← HR.out]; exact partI_none H1.out (fun j hj => HJ.out j (by rw [HN.out] at hj; omega)))
        go_wp2_with fail
        go_ret
        exact ⟨by rw [HV.out]; rfl, rfl⟩
theorem dec_lt3 : ∀ n, n < 1000 → (Lib.decDigits n).length = if n < 10 then 1 else if n < 100 then 2 else 3 := by
  have h : ((List.range 1000).all fun n => decide ((Lib.decDigits n).length = if n < 10 then 1 else if n < 100 then 2 else 3)) = true := by decide +kernel
  intro n h1
  have := List.all_eq_true.1 h n (List.mem_range.2 h1)
  simpa using this
set_option maxRecDepth 20000 in
set_option maxHeartbeats 8000000 in
theorem rrec_any (k v : List UInt8) (w : World) (h1 : 100 ≤ (recR k v).length) (h2 : (recR k v).length ≤ 900) :
    Calls Tryz.prog 43 #[.string (bs k), .string (bs v)] w fun r w' => r = .returned (.string (bs (recB k v))) ∧ Below w.heap.size w w' := by
  have zk := bs_size k
  have zv := bs_size v
  have hlen : (recR k v).length = k.length + v.length + 3 := recR_len k v
  obtain ⟨B, HBB⟩ : ∃ B, Hid (B = recB k v) := ⟨_, Lib.hid rfl⟩
  rw [← HBB.out]
  have HB : Hid (∀ D : List UInt8, bs D ++ ⟨#[32]⟩ ++ bs k ++ ⟨#[61]⟩ ++ bs v ++ ⟨#[10]⟩ = bs (D ++ recR k v)) := Lib.hid fun D => by
    rw [recR]
    show bs D ++ bs [32] ++ bs k ++ bs [61] ++ bs v ++ bs [10] = _
    simp only [bs_app, List.append_assoc]
  rw [hlen] at h1 h2
  have HBV : Hid (B = Lib.decDigits (k.length + v.length + 3 + 3) ++ recR k v) := Lib.hid (by rw [HBB.out, recB, hlen])
  clear HBB hlen
  go_enter Tryz.func43, Tryz.ntmps43
  go_wp2_with fail
  go_loopg [5] 2000 (fun G s5 wr => ∃ n : Nat, n ≤ k.length + v.length + 6 ∧ 1 ≤ n ∧ G = 2001 - n ∧ s5 = .int .i64 (n : Int) ∧ Below w.heap.size w wr)
  case atStart => exact ⟨1, by omega, by omega, rfl, rfl, Below.refl _ _⟩
  case round =>
    obtain ⟨n, hn, hn1, rfl, rfl, hb⟩ := hrel
    have t1 : decide ((n : Int) < 2000) = true := decide_eq_true (by omega)
    have t1b : (n : Int) < 2000 := by omega
    have hd := rdec_any n wr (by omega)
    have hdl := dec_lt3 n (by omega)
    have e1 : (⟨(Lib.decDigits n).toArray⟩ : ByteArray) = bs (Lib.decDigits n) := rfl
    rw [e1] at hd
    have zD := bs_size (Lib.decDigits n)
    have HBn := Lib.hid (HB.out (Lib.decDigits n))
    have HDN : Hid (n = k.length + v.length + 6 → bs (Lib.decDigits n ++ recR k v) = bs B) := Lib.hid fun h => by rw [HBV.out, h]
    generalize bs (Lib.decDigits n) = D at hd zD HBn
    generalize (Lib.decDigits n).length = d at zD hdl
    have hd1 : d ≤ 3 := by rw [hdl]; split <;> (try split) <;> omega
    have hd3 : 100 ≤ n → d = 3 := fun h => by rw [hdl, if_neg (by omega), if_neg (by omega)]
    have hda : 1 ≤ d := by rw [hdl]; split <;> (try split) <;> omega
    have HD3 := Lib.hid hd3
    clear hdl hd3
    have x1 : ¬ 9223372036854775807 < d + 1 := by omega
    have x2 : ¬ 9223372036854775807 < d + 1 + k.length := by omega
    have x3 : ¬ 9223372036854775807 < d + 1 + k.length + 1 := by omega
    have x4 : ¬ 9223372036854775807 < d + 1 + k.length + 1 + v.length := by omega
    have x5 : ¬ 9223372036854775807 < d + 1 + k.length + 1 + v.length + 1 := by omega
    have wk : IntKind.i64.wrap ((n : Int) + 1) = (n : Int) + 1 := i64_in _ (by omega) (by omega)
    clear e1
    go_upto_region 5 with (go_at_call 65; refine hd.mono ?_; clear hd; rintro r W1 ⟨rfl, hb1⟩)
    rw [HBn.out]
    have zT : (bs (Lib.decDigits n ++ recR k v)).size = d + (k.length + v.length + 3) := by
      have := congrArg ByteArray.size HBn.out
      rw [← this]
      simp only [ByteArray.size_append, zD, zk, zv]
      show d + 1 + k.length + 1 + v.length + 1 = _
      omega
    clear HBn
    by_cases he : n = k.length + v.length + 6
    · have hT := HDN.out he
      have hd3 := HD3.out (by omega)
      have q : (((d + (k.length + v.length + 3) : Nat) : Int) == (n : Int)) = true := by rw [beq_iff_eq]; omega
      have q2 : d + (k.length + v.length + 3) = n := by omega
      rw [q2] at zT
      rw [hT] at zT ⊢
      clear HDN hT he hd3 x1 x2 x3 x4 x5 q q2
      go_wp2_with fail
      go_ret
      exact ⟨rfl, hb.trans (hb1.mono hb.size)⟩
    · have q2 : ¬ d + (k.length + v.length + 3) = n := fun e => by
        have := HD3.out (by omega)
        omega
      obtain ⟨m, hm⟩ : ∃ m, d + (k.length + v.length + 3) = m := ⟨_, rfl⟩
      rw [hm] at zT q2
      have q : ((m : Int) == (n : Int)) = false := by simpa using (show ¬ (m : Int) = (n : Int) by omega)
      have q3 : ¬ (m : Int) = (n : Int) := by omega
      have hnle : n + 1 ≤ k.length + v.length + 6 := by omega
      clear HDN hm x1 x2 x3 x4 x5 HBV
      generalize bs (Lib.decDigits n ++ recR k v) = T at zT ⊢
      clear he
      go_wp2_with fail
      go_roundg (2001 - (n + 1))
      case measure => omega
      case rel => exact ⟨n + 1, hnle, by omega, rfl, by simp, hb.trans (hb1.mono hb.size)⟩
end Go.Proofs.YtpheifdpjcppdaaGreatDoor
namespace Go.Proofs.YtpheifdpjcppdaaGreatDoor
open Go.RowKit
theorem fixW_take (s : List UInt8) (n : Nat) : fixW (s.take n) n = fixW s n := by
  rw [fixW, fixW, List.take_take, Nat.min_self, List.length_take]
  congr 2
  omega
/-- A head of which a name and a link stand in it as far as there is room. -/
theorem blockB_first (h : Hd) (gnu : Bool) (n l : List UInt8) (hn : n.take 100 = h.name.take 100) (hl : l.take 100 = h.link.take 100) : blockB ⟨n, h.pfx, l, h.mode, h.uid, h.gid, h.size, h.mtime, h.kind, h.owner, h.group⟩ gnu = blockB h gnu := by
  have e1 : fixW n 100 = fixW h.name 100 := by rw [← fixW_take n, hn, fixW_take]
  have e2 : fixW l 100 = fixW h.link 100 := by rw [← fixW_take l, hl, fixW_take]
  have p1 : preB ⟨n, h.pfx, l, h.mode, h.uid, h.gid, h.size, h.mtime, h.kind, h.owner, h.group⟩ = preB h := by rw [preB, preB, e1]
  have p2 : postB ⟨n, h.pfx, l, h.mode, h.uid, h.gid, h.size, h.mtime, h.kind, h.owner, h.group⟩ gnu = postB h gnu := by rw [postB, postB, e2]
  rw [blockB, blockB, p1, p2]
/-- What the document puts ahead of an entry's data; nothing: it can't be. -/
def oneT (s : Nat) (e : En) : List UInt8 := if s = 0 ∧ badU e = true then [] else aheadT s e ++ headT s e
/-- A name is never parted ahead of all of it. -/
def NoHead (e : En) : Prop := ∀ p r, partT (nameT e) = some (p, r) → 100 < (nameT e).length → 0 < p.length
theorem partI_some {s p r : List UInt8} (h : partT s = some (p, r)) (hl : 100 < s.length) : partI s = p.length := by
  rw [partI, if_neg (by omega), h]
theorem partI_neg {s : List UInt8} (h : partT s = none) : partI s = -1 := by
  have := partT_none h
  rw [partI, if_neg (by omega), h]
theorem partI_low {s : List UInt8} (h : s.length ≤ 100) : partI s = 0 := by rw [partI, if_pos h]
theorem partT_low {s : List UInt8} (h : s.length ≤ 100) : partT s = some ([], s) := by rw [partT, if_pos h]
/-- What is parted is a name's start and the rest behind the slash. -/
theorem partT_cut {s p r : List UInt8} (h : partT s = some (p, r)) (hl : 100 < s.length) : p = s.take p.length ∧ r = s.drop (p.length + 1) ∧ p.length + 1 ≤ s.length ∧ p.length ≤ 155 ∧ r.length ≤ 100 := by
  rw [partT, if_neg (by omega)] at h
  by_cases h1 : Lib.indexByte (s.drop (s.length - 101)) 47 < 0
  · rw [if_pos h1] at h; cases h
  rw [if_neg h1] at h
  by_cases h2 : 155 < (Lib.indexByte (s.drop (s.length - 101)) 47).toNat + (s.length - 101) ∨ (Lib.indexByte (s.drop (s.length - 101)) 47).toNat + (s.length - 101) = s.length - 1
  · rw [if_pos h2] at h; cases h
  rw [if_neg h2] at h
  obtain ⟨o', ho⟩ : ∃ o' : Nat, Lib.indexByte (s.drop (s.length - 101)) 47 = o' := ⟨(Lib.indexByte (s.drop (s.length - 101)) 47).toNat, by omega⟩
  have h5 := (List.getElem?_eq_some_iff.1 (Lib.indexByte_some ho).1).1
  rw [List.length_drop] at h5
  rw [ho] at h h2
  rw [Int.toNat_natCast] at h h2
  injection h with h
  injection h with e1 e2
  have hpl : p.length = o' + (s.length - 101) := by rw [← e1, List.length_take]; omega
  rw [hpl]
  refine ⟨e1.symm, e2.symm, by omega, by omega, ?_⟩
  rw [← e2, List.length_drop]
  omega
theorem longB_len {k : UInt8} {s : List UInt8} (h : s.length ≤ 1000) : (blockB (tellH longN k (s.length + 1)) true).length = 512 := blockB_len (tell_ok (by omega)) true
end Go.Proofs.YtpheifdpjcppdaaGreatDoor
