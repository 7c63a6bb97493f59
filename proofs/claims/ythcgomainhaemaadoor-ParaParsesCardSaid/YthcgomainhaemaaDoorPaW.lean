/- The walks of the document's Has, Lines and Bare. -/
import Derived.Test.YthcgomainhaemaaDoorPaJ
import Derived.Test.YthcgomainhaemaaDoorPaM
import Derived.Deep.CutBlock
import Derived.Deep.DeepCutAuto
namespace Go.Proofs.YthcgomainhaemaaDoor
open Go.RowKit
theorem has_step (c : UInt8) (s : List UInt8) (k : Nat) (h : k < s.length) : (s.drop k).contains c = (decide (s[k] = c) || (s.drop (k + 1)).contains c) := by
  rw [List.drop_eq_getElem_cons h, List.contains_cons]
  congr 1
  by_cases e : s[k] = c
  · simp [e]
  · have : ¬ c = s[k] := fun h => e h.symm
    simp [e, this]
set_option maxRecDepth 20000 in
set_option maxHeartbeats 8000000 in
theorem has_any (s : List UInt8) (c : UInt8) (w : World) (hs : s.length ≤ 1000000000) :
    Calls Tryd.prog 30 #[.string (bs s), .int .u8 (c.toNat : Int)] w fun e w' => e = .returned (.bool (s.contains c)) ∧ w = w' := by
  have HX : Hid (s.contains c = (s.drop 0).contains c) := Lib.hid rfl
  have hz : ((bs s).size : Int) = (s.length : Int) := by rw [bs_size]
  go_enter Tryd.func30, Tryd.ntmps30
  go_wp2_with fail
  go_loopg [5] s.length (fun G s5 wr => ∃ k : Nat, k ≤ s.length ∧ G = s.length - k ∧ s5 = .int .i64 k ∧ w = wr ∧ Hid (s.contains c = (s.drop k).contains c))
  case atStart => exact ⟨0, Nat.zero_le _, rfl, rfl, rfl, HX⟩
  case round =>
    clear HX
    obtain ⟨k, hk, rfl, rfl, rfl, HE⟩ := hrel
    by_cases hlt : k < s.length
    · have hks : (k : Int) < ((bs s).size : Int) := by omega
      have hks2 : k < (bs s).size := by rw [bs_size]; exact hlt
      obtain ⟨b, hb⟩ : ∃ b, b = s[k]'hlt := ⟨_, rfl⟩
      have HST : Hid (s.contains c = (decide (b = c) || (s.drop (k + 1)).contains c)) := Lib.hid (by rw [HE.out, has_step c s k hlt, hb])
      have hbb : (bs s)[k]'hks2 = b := hb.symm
      clear hb HE
      have hq := beq_byte b c
      by_cases he : b = c
      · have HV := Lib.hid (show s.contains c = true by rw [HST.out, decide_eq_true he]; rfl)
        rw [decide_eq_true he] at hq
        clear he HST
        go_wp2_with fail
        go_ret
        exact ⟨by rw [HV.out]; rfl, rfl⟩
      · have HV := Lib.hid (show s.contains c = (s.drop (k + 1)).contains c by rw [HST.out, decide_eq_false he]; rfl)
        rw [decide_eq_false he] at hq
        clear he HST
        go_wp2_with fail
        go_roundg (s.length - (k + 1))
        case measure => omega
        case rel => exact ⟨k + 1, by omega, rfl, by simp, rfl, HV⟩
    · have HV := Lib.hid (show s.contains c = false by rw [HE.out, List.drop_eq_nil_of_le (by omega)]; rfl)
      have hks : decide ((k : Int) < ((bs s).size : Int)) = false := by simp; omega
      clear HE
      go_wp2_with fail
      go_ret
      exact ⟨by rw [HV.out]; rfl, rfl⟩
theorem split_step (s : List UInt8) (k f : Nat) (h : k < s.length) (hf : f ≤ k) : splitP 10 (s.drop k) ((s.drop f).take (k - f)) = if s[k] = 10 then ((s.drop f).take (k - f)) :: splitP 10 (s.drop (k + 1)) ((s.drop (k + 1)).take (k + 1 - (k + 1))) else splitP 10 (s.drop (k + 1)) ((s.drop f).take (k + 1 - f)) := by
  rw [List.drop_eq_getElem_cons h, splitP]
  split
  · simp
  · congr 1
    have h2 : k - f < (s.drop f).length := by rw [List.length_drop]; omega
    have h3 : (s.drop f)[k - f]'h2 = s[k] := by
      have := (List.getElem?_eq_getElem h2).symm
      rw [List.getElem?_drop, show f + (k - f) = k by omega, List.getElem?_eq_getElem h] at this
      exact Option.some.inj this
    rw [show k + 1 - f = (k - f) + 1 by omega, List.take_succ_eq_append_getElem h2, h3]
set_option maxRecDepth 20000 in
set_option maxHeartbeats 8000000 in
theorem lines_any (s : List UInt8) (w : World) (hs : s.length ≤ 1000000000) :
    Calls Tryd.prog 22 #[.string (bs s)] w fun e w' => (∃ v, e = .returned v ∧ Sl 1 Rtext nowhere w' v (splitB 10 s)) ∧ Below w.heap.size w w' := by
  have HX : Hid (splitB 10 s = [] ++ splitP 10 (s.drop 0) ((s.drop 0).take (0 - 0))) := Lib.hid (by simp [splitB])
  generalize splitB 10 s = res at HX
  have hz : ((bs s).size : Int) = (s.length : Int) := by rw [bs_size]
  go_enter Tryd.func22, Tryd.ntmps22
  go_wp2_with fail
  go_loopg [3, 4, 5] (s.length + 1) (fun G s3 s4 s5 wr => ∃ (k f : Nat) (acc : List (List UInt8)), k ≤ s.length + 1 ∧ f ≤ k ∧ acc.length ≤ k ∧ G = s.length + 1 - k ∧ s4 = .int .i64 f ∧ s5 = .int .i64 k ∧ Below w.heap.size w wr ∧ OwnL 1 Rtext tS w.heap.size (old w.heap.size) wr s3 acc ∧
    Hid (if k ≤ s.length then res = acc ++ splitP 10 (s.drop k) ((s.drop f).take (k - f)) else res = acc))
  case atStart => exact ⟨0, 0, [], Nat.zero_le _, Nat.le_refl _, Nat.le_refl _, rfl, rfl, rfl, Below.refl _ _, OwnL.nil _ _ _ _ _ _, Lib.hid (by rw [if_pos (Nat.zero_le _)]; exact HX.out)⟩
  case round =>
    clear HX
    obtain ⟨k, f, acc, hk, hf, hac, rfl, rfl, rfl, hbw, hown, HE⟩ := hrel
    obtain ⟨A3, cap3, rfl⟩ := hown.form
    by_cases hle : k ≤ s.length
    · have HE1 := Lib.hid (show res = acc ++ splitP 10 (s.drop k) ((s.drop f).take (k - f)) by have := HE.out; rw [if_pos hle] at this; exact this)
      have hd : decide ((k : Int) ≤ ((bs s).size : Int)) = true := by simp; omega
      have hd' : decide ((k : Int) ≤ (s.length : Int)) = true := by simp; omega
      have hext : (bs s).extract f k = bs ((s.drop f).take (k - f)) := bs_of _ _ (by simp [ByteArray.data_extract, bs_list, bs])
      have i1 : (0 : Int) ≤ (f : Int) ∧ (f : Int) ≤ (k : Int) := by omega
      have i2 : (k : Int) ≤ ((bs s).size : Int) := by omega
      clear HE
      go_upto_region 6 with fail
      obtain ⟨tb, htb⟩ : ∃ tb, decide (k = s.length ∨ s[k]? = some 10) = tb := ⟨_, rfl⟩
      go_cut [21] (fun s21 wx => s21 = .bool tb ∧ wr = wx)
      case first => as_aux_lemma =>
        by_cases hlt : k < s.length
        · have hks : (k : Int) < ((bs s).size : Int) := by omega
          have hks2 : k < (bs s).size := by rw [bs_size]; exact hlt
          have hne : ((k : Int) == (s.length : Int)) = false := by simp; omega
          obtain ⟨b, hb⟩ : ∃ b, b = s[k]'hlt := ⟨_, rfl⟩
          have hbb : (bs s)[k]'hks2 = b := hb.symm
          have htb2 : tb = ((b.toNat : Int) == 10) := by
            rw [← htb, show (10 : Int) = ((10 : UInt8).toNat : Int) from rfl, beq_byte, List.getElem?_eq_getElem hlt, ← hb]
            have : ¬ k = s.length := by omega
            simp [this]
          clear hb
          go_wp2_with fail
          go_meet
          exact ⟨by rw [htb2], rfl⟩
        · have hks : (k : Int) = (s.length : Int) := by omega
          have hne : ((k : Int) == (s.length : Int)) = true := by simpa using hks
          have htb2 : tb = true := by
            rw [← htb]
            have : k = s.length := by omega
            simp [this]
          clear hks
          go_wp2_with fail
          go_meet
          exact ⟨by rw [htb2], rfl⟩
      case rest => as_aux_lemma =>
        obtain ⟨rfl, rfl⟩ := hcut
        cases tb with
        | true =>
          have htb := of_decide_eq_true htb
          have hnew := hown.new
          have HN : Hid (if k + 1 ≤ s.length then res = (acc ++ [(s.drop f).take (k - f)]) ++ splitP 10 (s.drop (k + 1)) ((s.drop (k + 1)).take (k + 1 - (k + 1))) else res = acc ++ [(s.drop f).take (k - f)]) := Lib.hid (by
            have h1 := HE1.out
            by_cases hlt : k < s.length
            · rw [if_pos (by omega)]
              have hb : s[k] = 10 := by
                rcases htb with h | h
                · omega
                · rw [List.getElem?_eq_getElem hlt] at h; injection h
              rw [split_step s k f hlt hf, if_pos hb] at h1
              rw [h1]; simp
            · rw [if_neg (by omega)]
              rw [h1, List.drop_eq_nil_of_le (show s.length ≤ k by omega), splitP])
          clear htb HE1
          generalize (s.drop f).take (k - f) = piece at hext HN
          go_wp2_with (at_builtin; refine wpList_appendL (l := acc) good_text rfl _ _ _ _ _ 16 rfl Tryd.underlying54 info_str rfl (by omega) _ rfl hown [.string (bs piece)] piece rfl rfl (by omega) (by omega) hbw.size (fun k hk hk2 => by have := hbw.size; unfold old at hk2; omega) ?_; intro v5 w5 hown5 hk5)
          have q5 := hbw.trans (hk5.below hbw.size (fun k _ h => hnew k h))
          clear hk5 hnew hown
          go_wp2_with fail
          go_roundg (s.length + 1 - (k + 1))
          case measure => omega
          case rel => exact ⟨k + 1, k + 1, acc ++ [piece], by omega, Nat.le_refl _, by simp; omega, rfl, by simp, by simp, q5, hown5, HN⟩
        | false =>
          have htb := of_decide_eq_false htb
          have hlt : k < s.length := by
            rcases Nat.lt_or_ge k s.length with h | h
            · exact h
            · exact absurd (.inl (by omega)) htb
          have HN : Hid (if k + 1 ≤ s.length then res = acc ++ splitP 10 (s.drop (k + 1)) ((s.drop f).take (k + 1 - f)) else res = acc) := Lib.hid (by
            rw [if_pos (by omega), HE1.out, split_step s k f hlt hf, if_neg]
            intro e
            exact htb (.inr (by rw [List.getElem?_eq_getElem hlt, e])))
          clear htb HE1
          go_wp2_with fail
          go_roundg (s.length + 1 - (k + 1))
          case measure => omega
          case rel => exact ⟨k + 1, f, acc, by omega, by omega, by omega, rfl, rfl, by simp, hbw, hown, HN⟩
    · have hd : decide ((k : Int) ≤ ((bs s).size : Int)) = false := by simp; omega
      have hd' : decide ((k : Int) ≤ (s.length : Int)) = false := by simp; omega
      have HV := Lib.hid (show res = acc by have := HE.out; rw [if_neg hle] at this; exact this)
      clear HE
      go_wp2_with fail
      go_ret
      rw [HV.out]
      exact ⟨⟨_, rfl, (hown.no free_text).sl good_text⟩, hbw⟩
theorem trimL_h (l : List UInt8) (h : ∀ t, l ≠ 32 :: t) : trimL l = l := by
  cases l with
  | nil => rfl
  | cons c t =>
    have : blk c = false := by simp [blk]; intro e; exact h t (by rw [e])
    simp [trimL, List.dropWhile, this]
theorem bare_trimL (c : UInt8) (t : List UInt8) (h : c = 32) : trimL (c :: t) = trimL t := by subst h; simp [trimL, List.dropWhile, blk]
theorem trimR_snoc (p : List UInt8) : trimR (p ++ [32]) = trimR p := by
  rw [trimR, trimR, List.reverse_append]
  show ((32 :: p.reverse).dropWhile blk).reverse = _
  have : (32 :: p.reverse).dropWhile blk = p.reverse.dropWhile blk := by simp [List.dropWhile, blk]
  rw [this]
theorem trimR_stop (q : List UInt8) (h : q.getLast? ≠ some 32) : trimR q = q := by
  have : trimL q.reverse = q.reverse := trimL_h _ fun t e => h (by
    have := congrArg List.head? e
    rw [List.head?_reverse] at this
    exact this)
  rw [trimR, show q.reverse.dropWhile blk = trimL q.reverse from rfl, this, List.reverse_reverse]
set_option maxRecDepth 20000 in
set_option maxHeartbeats 8000000 in
theorem bare_any (s : List UInt8) (w : World) (hs : s.length ≤ 1000000000) :
    Calls Tryd.prog 31 #[.string (bs s)] w fun e w' => e = .returned (.string (bs (bareL s))) ∧ w = w' := by
  have HX : Hid (bareL s = trimR (trimL s)) := Lib.hid rfl
  generalize bareL s = res at HX
  go_enter Tryd.func31, Tryd.ntmps31
  go_wp2_with fail
  go_loopg [0] s.length (fun G s0 wr => ∃ q : List UInt8, q.length ≤ s.length ∧ G = q.length ∧ s0 = .string (bs q) ∧ w = wr ∧ Hid (res = trimR (trimL q)))
  case atStart => exact ⟨s, Nat.le_refl _, rfl, rfl, rfl, HX⟩
  case round =>
    clear HX
    obtain ⟨q, hq, rfl, rfl, rfl, HE⟩ := hrel
    have hz : ((bs q).size : Int) = (q.length : Int) := by rw [bs_size]
    obtain ⟨tb, htb⟩ : ∃ tb, decide (q.head? = some 32) = tb := ⟨_, rfl⟩
    go_upto_region 1 with fail
    go_cut [10] (fun s10 wx => s10 = .bool tb ∧ w = wx)
    case first => as_aux_lemma =>
      cases q with
      | nil =>
        have htb2 : tb = false := by rw [← htb]; rfl
        go_wp2_with fail
        go_meet
        exact ⟨by rw [htb2], rfl⟩
      | cons c t =>
        have h0 : (0 : Int) < ((bs (c :: t)).size : Int) := by rw [hz]; simp only [List.length_cons]; omega
        have hks2 : 0 < (bs (c :: t)).size := by rw [bs_size]; simp
        have hbb : (bs (c :: t))[0]'hks2 = c := rfl
        have htb2 : tb = ((c.toNat : Int) == 32) := by
          rw [← htb, show (32 : Int) = ((32 : UInt8).toNat : Int) from rfl, beq_byte]; simp
        go_wp2_with fail
        go_meet
        exact ⟨by rw [htb2], rfl⟩
    case rest => as_aux_lemma =>
      obtain ⟨rfl, rfl⟩ := hcut
      cases tb with
      | true =>
        have htb := of_decide_eq_true htb
        obtain ⟨t, rfl⟩ : ∃ t, q = 32 :: t := by
          cases q with
          | nil => cases htb
          | cons c t => simp at htb; subst htb; exact ⟨t, rfl⟩
        have HV : Hid (res = trimR (trimL t)) := Lib.hid (by rw [HE.out, bare_trimL 32 t rfl])
        have hext : (bs (32 :: t)).extract 1 (bs (32 :: t)).size = bs t := by rw [ext_drop, bs_list]; rfl
        have hle : (1 : Int) ≤ ((bs (32 :: t)).size : Int) := by rw [hz]; simp only [List.length_cons]; omega
        have htl : t.length < (32 :: t).length := by simp
        have htl2 : t.length ≤ s.length := by omega
        generalize (32 :: t : List UInt8) = q at hext hle htl hz
        clear HE htb hz
        go_wp2_with fail
        go_roundg t.length
        case measure => simp only [List.length_cons]; omega
        case rel => exact ⟨t, htl2, rfl, rfl, rfl, HV⟩
      | false =>
        have htb := of_decide_eq_false htb
        have HV : Hid (res = trimR q) := Lib.hid (by rw [HE.out, trimL_h q fun t e => htb (by rw [e]; rfl)])
        clear HE htb hz
        go_wp2_with fail
        go_loopg [0] q.length (fun G s0 wr => ∃ p : List UInt8, p.length ≤ q.length ∧ G = p.length ∧ s0 = .string (bs p) ∧ w = wr ∧ Hid (res = trimR p))
        case atStart => exact ⟨q, Nat.le_refl _, rfl, rfl, rfl, HV⟩
        case round =>
          clear HV
          obtain ⟨p, hp, rfl, rfl, rfl, HE⟩ := hrel
          have hz : ((bs p).size : Int) = (p.length : Int) := by rw [bs_size]
          obtain ⟨tb, htb⟩ : ∃ tb, decide (p.getLast? = some 32) = tb := ⟨_, rfl⟩
          go_upto_region 3 with fail
          go_cut [23] (fun s23 wx => s23 = .bool tb ∧ w = wx)
          case first => as_aux_lemma =>
            rcases List.eq_nil_or_concat p with h | ⟨r, c, h⟩
            · subst h
              have htb2 : tb = false := by rw [← htb]; rfl
              go_wp2_with fail
              go_meet
              exact ⟨by rw [htb2], rfl⟩
            · rw [List.concat_eq_append] at h
              have hlen : p.length = r.length + 1 := by rw [h]; simp
              have h0 : (0 : Int) < (p.length : Int) := by omega
              have hks2 : r.length < (bs p).size := by rw [bs_size]; omega
              have hbb : (bs p)[r.length]'hks2 = c := by
                have : p[r.length]'(by omega) = c := by subst h; simp
                exact this
              have hwr : IntKind.i64.wrap ((p.length : Int) - 1) = (r.length : Int) := by rw [i64_in _ (by omega) (by omega)]; omega
              have i1 : (0 : Int) ≤ (r.length : Int) := by omega
              have i2 : (r.length : Int) < ((bs p).size : Int) := by omega
              have i3 : (r.length : Int) < (p.length : Int) := by omega
              have htb2 : tb = ((c.toNat : Int) == 32) := by
                rw [← htb, show (32 : Int) = ((32 : UInt8).toNat : Int) from rfl, beq_byte, h]; simp
              clear htb
              have HP := Lib.hid h
              clear h
              go_wp2_with fail
              go_meet
              exact ⟨by rw [htb2], rfl⟩
          case rest => as_aux_lemma =>
            obtain ⟨rfl, rfl⟩ := hcut
            cases tb with
            | true =>
              have htb := of_decide_eq_true htb
              obtain ⟨r, hr⟩ : ∃ r, p = r ++ [32] := by
                rcases List.eq_nil_or_concat p with h | ⟨r, c, h⟩
                · subst h; cases htb
                · rw [List.concat_eq_append] at h; subst h; simp at htb; subst htb; exact ⟨r, rfl⟩
              have HV : Hid (res = trimR r) := Lib.hid (by rw [HE.out, hr, trimR_snoc])
              have hlen : p.length = r.length + 1 := by rw [hr]; simp
              have hwr : IntKind.i64.wrap ((p.length : Int) - 1) = (r.length : Int) := by rw [i64_in _ (by omega) (by omega)]; omega
              have hext : (bs p).extract 0 r.length = bs r := by rw [ext_take _ _ (by rw [bs_size]; omega), bs_list, hr]; simp
              have i1 : (0 : Int) ≤ (r.length : Int) := by omega
              have i2 : (r.length : Int) ≤ ((bs p).size : Int) := by omega
              clear HE htb hr
              go_wp2_with fail
              go_roundg r.length
              case measure => omega
              case rel => exact ⟨r, by omega, rfl, rfl, rfl, HV⟩
            | false =>
              have htb := of_decide_eq_false htb
              have HV : Hid (res = p) := Lib.hid (by rw [HE.out, trimR_stop p htb])
              clear HE htb
              go_wp2_with fail
              go_ret
              exact ⟨by rw [HV.out]; rfl, rfl⟩
end Go.Proofs.YthcgomainhaemaaDoor
