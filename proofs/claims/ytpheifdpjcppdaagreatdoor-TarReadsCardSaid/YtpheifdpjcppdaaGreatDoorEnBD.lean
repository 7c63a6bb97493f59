/- The walks of the document's Has and Parts. Entries in memory. The walks of the document's small functions on entries: Find, above, alike. -/
import Derived.Test.YtpheifdpjcppdaaGreatDoorBasM
import Derived.Test.YtpheifdpjcppdaaGreatDoorFre
import Derived.Test.YtpheifdpjcppdaaGreatDoorEnA
import Derived.Deep.CutBlock
import Derived.Deep.DeepCutAuto
import Derived.Test.YtpheifdpjcppdaaGreatDoorOpn
namespace Go.Proofs.YtpheifdpjcppdaaGreatDoor
open Go.RowKit
theorem beq_byte (a b : UInt8) : ((a.toNat : Int) == (b.toNat : Int)) = decide (a = b) := by
  by_cases h : a = b
  · subst h; simp
  · have : ¬ a.toNat = b.toNat := fun e => h (UInt8.toNat_inj.1 e)
    simp [h]; omega
theorem has_step (c : UInt8) (s : List UInt8) (k : Nat) (h : k < s.length) : (s.drop k).contains c = (decide (s[k] = c) || (s.drop (k + 1)).contains c) := by
  rw [List.drop_eq_getElem_cons h, List.contains_cons]
  congr 1
  by_cases e : s[k] = c
  · simp [e]
  · have : ¬ c = s[k] := fun h => e h.symm
    simp [e, this]
set_option maxRecDepth 20000 in
set_option maxHeartbeats 8000000 in
theorem has_any (s : List UInt8) (c : UInt8) (w : World) (hs : s.length ≤ 1000000000) :
    Calls Tryz.prog 83 #[.string (bs s), .int .u8 (c.toNat : Int)] w fun e w' => e = .returned (.bool (s.contains c)) ∧ w = w' := by
  have HX : Hid (s.contains c = (s.drop 0).contains c) := Lib.hid rfl
  have hz : ((bs s).size : Int) = (s.length : Int) := by rw [bs_size]
  go_enter Tryz.func83, Tryz.ntmps83
  go_wp2_with fail
  go_loopg [5] s.length (fun G s5 wr => ∃ k : Nat, k ≤ s.length ∧ G = s.length - k ∧ s5 = .int .i64 k ∧ w = wr ∧ Hid (s.contains c = (s.drop k).contains c))
  case atStart => exact ⟨0, Nat.zero_le _, rfl, rfl, rfl, HX⟩
  case round =>
    clear HX
    obtain ⟨k, hk, rfl, rfl, rfl, HE⟩ := hrel
    by_cases hlt : k < s.length
    · have hks : (k : Int) < ((bs s).size : Int) := by omega
      have hks2 : k < (bs s).size := by rw [bs_size]; exact hlt
      obtain ⟨b, hb⟩ : ∃ b, b = s[k]'hlt := ⟨_, rfl⟩
      have HST : Hid (s.contains c = (decide (b = c) || (s.drop (k + 1)).contains c)) := Lib.hid (by rw [HE.out, has_step c s k hlt, hb])
      have hbb : (bs s)[k]'hks2 = b := hb.symm
      clear hb HE
      have hq := beq_byte b c
      by_cases he : b = c
      · have HV := Lib.hid (show s.contains c = true by rw [HST.out, decide_eq_true he]; rfl)
        rw [decide_eq_true he] at hq
        clear he HST
        go_wp2_with fail
        go_ret
        exact ⟨by rw [HV.out]; rfl, rfl⟩
      · have HV := Lib.hid (show s.contains c = (s.drop (k + 1)).contains c by rw [HST.out, decide_eq_false he]; rfl)
        rw [decide_eq_false he] at hq
        clear he HST
        go_wp2_with fail
        go_roundg (s.length - (k + 1))
        case measure => omega
        case rel => exact ⟨k + 1, by omega, rfl, by simp, rfl, HV⟩
    · have HV := Lib.hid (show s.contains c = false by rw [HE.out, List.drop_eq_nil_of_le (by omega)]; rfl)
      have hks : decide ((k : Int) < ((bs s).size : Int)) = false := by simp; omega
      clear HE
      go_wp2_with fail
      go_ret
      exact ⟨by rw [HV.out]; rfl, rfl⟩
theorem split_step (s : List UInt8) (k f : Nat) (h : k < s.length) (hf : f ≤ k) : splitP 47 (s.drop k) ((s.drop f).take (k - f)) = if s[k] = 47 then ((s.drop f).take (k - f)) :: splitP 47 (s.drop (k + 1)) ((s.drop (k + 1)).take (k + 1 - (k + 1))) else splitP 47 (s.drop (k + 1)) ((s.drop f).take (k + 1 - f)) := by
  rw [List.drop_eq_getElem_cons h, splitP]
  split
  · simp
  · congr 1
    have h2 : k - f < (s.drop f).length := by rw [List.length_drop]; omega
    have h3 : (s.drop f)[k - f]'h2 = s[k] := by
      have := (List.getElem?_eq_getElem h2).symm
      rw [List.getElem?_drop, show f + (k - f) = k by omega, List.getElem?_eq_getElem h] at this
      exact Option.some.inj this
    rw [show k + 1 - f = (k - f) + 1 by omega, List.take_succ_eq_append_getElem h2, h3]
set_option maxRecDepth 20000 in
set_option maxHeartbeats 8000000 in
theorem parts_any (s : List UInt8) (w : World) (hs : s.length ≤ 1000000000) :
    Calls Tryz.prog 103 #[.string (bs s)] w fun e w' => (∃ v, e = .returned v ∧ Sl 1 Rtext nowhere w' v (partsB 47 s)) ∧ Below w.heap.size w w' := by
  have HX : Hid (partsB 47 s = [] ++ splitP 47 (s.drop 0) ((s.drop 0).take (0 - 0))) := Lib.hid (by simp [partsB])
  generalize partsB 47 s = res at HX
  have hz : ((bs s).size : Int) = (s.length : Int) := by rw [bs_size]
  go_enter Tryz.func103, Tryz.ntmps103
  go_wp2_with fail
  go_loopg [3, 4, 5] (s.length + 1) (fun G s3 s4 s5 wr => ∃ (k f : Nat) (acc : List (List UInt8)), k ≤ s.length + 1 ∧ f ≤ k ∧ acc.length ≤ k ∧ G = s.length + 1 - k ∧ s4 = .int .i64 f ∧ s5 = .int .i64 k ∧ Below w.heap.size w wr ∧ OwnL 1 Rtext 9 w.heap.size (old w.heap.size) wr s3 acc ∧
    Hid (if k ≤ s.length then res = acc ++ splitP 47 (s.drop k) ((s.drop f).take (k - f)) else res = acc))
  case atStart => exact ⟨0, 0, [], Nat.zero_le _, Nat.le_refl _, Nat.le_refl _, rfl, rfl, rfl, Below.refl _ _, OwnL.nil _ _ _ _ _ _, Lib.hid (by rw [if_pos (Nat.zero_le _)]; exact HX.out)⟩
  case round =>
    clear HX
    obtain ⟨k, f, acc, hk, hf, hac, rfl, rfl, rfl, hbw, hown, HE⟩ := hrel
    obtain ⟨A3, cap3, rfl⟩ := hown.form
    by_cases hle : k ≤ s.length
    · have HE1 := Lib.hid (show res = acc ++ splitP 47 (s.drop k) ((s.drop f).take (k - f)) by have := HE.out; rw [if_pos hle] at this; exact this)
      have hd : decide ((k : Int) ≤ ((bs s).size : Int)) = true := by simp; omega
      have hd' : decide ((k : Int) ≤ (s.length : Int)) = true := by simp; omega
      have hext : (bs s).extract f k = bs ((s.drop f).take (k - f)) := bs_of _ _ (by simp [ByteArray.data_extract, bs_list, bs])
      have i1 : (0 : Int) ≤ (f : Int) ∧ (f : Int) ≤ (k : Int) := by omega
      have i2 : (k : Int) ≤ ((bs s).size : Int) := by omega
      clear HE
      go_upto_region 6 with fail
      obtain ⟨tb, htb⟩ : ∃ tb, decide (k = s.length ∨ s[k]? = some 47) = tb := ⟨_, rfl⟩
      go_cut [21] (fun s21 wx => s21 = .bool tb ∧ wr = wx)
      case first => as_aux_lemma =>
        by_cases hlt : k < s.length
        · have hks : (k : Int) < ((bs s).size : Int) := by omega
          have hks2 : k < (bs s).size := by rw [bs_size]; exact hlt
          have hne : ((k : Int) == (s.length : Int)) = false := by simp; omega
          obtain ⟨b, hb⟩ : ∃ b, b = s[k]'hlt := ⟨_, rfl⟩
          have hbb : (bs s)[k]'hks2 = b := hb.symm
          have htb2 : tb = ((b.toNat : Int) == 47) := by
            rw [← htb, show (47 : Int) = ((47 : UInt8).toNat : Int) from rfl, beq_byte, List.getElem?_eq_getElem hlt, ← hb]
            have : ¬ k = s.length := by omega
            simp [this]
          clear hb
          go_wp2_with fail
          go_meet
          exact ⟨by rw [htb2], rfl⟩
        · have hks : (k : Int) = (s.length : Int) := by omega
          have hne : ((k : Int) == (s.length : Int)) = true := by simpa using hks
          have htb2 : tb = true := by
            rw [← htb]
            have : k = s.length := by omega
            simp [this]
          clear hks
          go_wp2_with fail
          go_meet
          exact ⟨by rw [htb2], rfl⟩
      case rest => as_aux_lemma =>
        obtain ⟨rfl, rfl⟩ := hcut
        cases tb with
        | true =>
          have htb := of_decide_eq_true htb
          have hnew := hown.new
          have HN : Hid (if k + 1 ≤ s.length then res = (acc ++ [(s.drop f).take (k - f)]) ++ splitP 47 (s.drop (k + 1)) ((s.drop (k + 1)).take (k + 1 - (k + 1))) else res = acc ++ [(s.drop f).take (k - f)]) := Lib.hid (by
            have h1 := HE1.out
            by_cases hlt : k < s.length
            · rw [if_pos (by omega)]
              have hb : s[k] = 47 := by
                rcases htb with h | h
                · omega
                · rw [List.getElem?_eq_getElem hlt] at h; injection h
              rw [split_step s k f hlt hf, if_pos hb] at h1
              rw [h1]; simp
            · rw [if_neg (by omega)]
              rw [h1, List.drop_eq_nil_of_le (show s.length ≤ k by omega), splitP])
          clear htb HE1
          generalize (s.drop f).take (k - f) = piece at hext HN
          go_wp2_with (at_builtin; refine wpList_appendL (l := acc) good_text rfl _ _ _ _ _ 16 rfl Tryz.underlying77 info_str rfl (by omega) _ rfl hown [.string (bs piece)] piece rfl rfl (by omega) (by omega) hbw.size (fun k hk hk2 => by have := hbw.size; unfold old at hk2; omega) ?_; intro v5 w5 hown5 hk5)
          have q5 := hbw.trans (hk5.below hbw.size (fun k _ h => hnew k h))
          clear hk5 hnew hown
          go_wp2_with fail
          go_roundg (s.length + 1 - (k + 1))
          case measure => omega
          case rel => exact ⟨k + 1, k + 1, acc ++ [piece], by omega, Nat.le_refl _, by simp; omega, rfl, by simp, by simp, q5, hown5, HN⟩
        | false =>
          have htb := of_decide_eq_false htb
          have hlt : k < s.length := by
            rcases Nat.lt_or_ge k s.length with h | h
            · exact h
            · exact absurd (.inl (by omega)) htb
          have HN : Hid (if k + 1 ≤ s.length then res = acc ++ splitP 47 (s.drop (k + 1)) ((s.drop f).take (k + 1 - f)) else res = acc) := Lib.hid (by
            rw [if_pos (by omega), HE1.out, split_step s k f hlt hf, if_neg]
            intro e
            exact htb (.inr (by rw [List.getElem?_eq_getElem hlt, e])))
          clear htb HE1
          go_wp2_with fail
          go_roundg (s.length + 1 - (k + 1))
          case measure => omega
          case rel => exact ⟨k + 1, f, acc, by omega, by omega, by omega, rfl, rfl, by simp, hbw, hown, HN⟩
    · have hd : decide ((k : Int) ≤ ((bs s).size : Int)) = false := by simp; omega
      have hd' : decide ((k : Int) ≤ (s.length : Int)) = false := by simp; omega
      have HV := Lib.hid (show res = acc by have := HE.out; rw [if_neg hle] at this; exact this)
      clear HE
      go_wp2_with fail
      go_ret
      rw [HV.out]
      exact ⟨⟨_, rfl, (hown.no free_text).sl good_text⟩, hbw⟩
end Go.Proofs.YtpheifdpjcppdaaGreatDoor
namespace Go.Proofs.YtpheifdpjcppdaaGreatDoor
open Go.RowKit
def Rbyte : Rel UInt8 := fun _ _ cs b => cs = [.int .u8 (b.toNat : Int)]
theorem good_byte : Good 1 Rbyte := ⟨fun h _ => h, fun h _ => h, (fun h => by subst h; rfl), (fun h u hu => by
  subst h; simp at hu; subst hu; rfl)⟩
theorem free_byte : FreeR Rbyte := fun _ _ _ _ _ _ h => h
/-- An entry as a value; dv is the slice of its data. -/
def entV (e : En) (dv : Value) : Value := .agg #[.string (bs e.path), .int .i64 e.kind, .int .i64 e.mode, .int .i64 e.uid, .int .i64 e.gid, .string (bs e.owner), .string (bs e.group), .int .i64 e.mtime, .string (bs e.link), dv]
def entC (e : En) (dv : Value) : List Value := [.string (bs e.path), .int .i64 e.kind, .int .i64 e.mode, .int .i64 e.uid, .int .i64 e.gid, .string (bs e.owner), .string (bs e.group), .int .i64 e.mtime, .string (bs e.link), dv]
/-- An entry in memory. -/
def Rent : Rel En := fun X w cs e => ∃ v, cs = entC e v ∧ Sl 1 Rbyte X w v e.data
theorem good_ent : Good 10 Rent :=
  ⟨fun ⟨v, h1, h2⟩ k => ⟨v, h1, h2.keep good_byte k⟩, fun ⟨v, h1, h2⟩ k => ⟨v, h1, h2.mono good_byte (by omega) k⟩, (fun ⟨v, h1, _⟩ => by subst h1; rfl), (fun ⟨v, h1, h2⟩ u hu => by
    subst h1
    obtain ⟨A, cap, rfl, _⟩ := h2
    simp only [entC, List.mem_cons, List.not_mem_nil, or_false] at hu
    rcases hu with rfl | rfl | rfl | rfl | rfl | rfl | rfl | rfl | rfl | rfl <;> rfl)⟩
/-- The cells of the j-th entry. -/
structure EntAt (w : World) (b off : Nat) (e : En) (v : Value) : Prop where
  c0 : w.cell? ⟨b, off, none⟩ = some (.string (bs e.path))
  c1 : w.cell? ⟨b, off + 1, none⟩ = some (.int .i64 e.kind)
  c2 : w.cell? ⟨b, off + 2, none⟩ = some (.int .i64 e.mode)
  c3 : w.cell? ⟨b, off + 3, none⟩ = some (.int .i64 e.uid)
  c4 : w.cell? ⟨b, off + 4, none⟩ = some (.int .i64 e.gid)
  c5 : w.cell? ⟨b, off + 5, none⟩ = some (.string (bs e.owner))
  c6 : w.cell? ⟨b, off + 6, none⟩ = some (.string (bs e.group))
  c7 : w.cell? ⟨b, off + 7, none⟩ = some (.int .i64 e.mtime)
  c8 : w.cell? ⟨b, off + 8, none⟩ = some (.string (bs e.link))
  c9 : w.cell? ⟨b, off + 9, none⟩ = some v
theorem EntAt.keep {X : Nat → Prop} {w w' : World} {b off : Nat} {e : En} {v : Value} (h : EntAt w b off e v) (k : Kept X w w') (hb : ¬ X b) : EntAt w' b off e v :=
  ⟨k.cell h.c0 hb, k.cell h.c1 hb, k.cell h.c2 hb, k.cell h.c3 hb, k.cell h.c4 hb, k.cell h.c5 hb, k.cell h.c6 hb, k.cell h.c7 hb, k.cell h.c8 hb, k.cell h.c9 hb⟩
theorem EntAt.below {w w' : World} {b off : Nat} {e : En} {v : Value} (h : EntAt w b off e v) (k : Below w.heap.size w w') : EntAt w' b off e v := h.keep (Kept.of_below k nowhere) (fun h => h)
theorem Sl.ent {X : Nat → Prop} {w : World} {A : Option Addr} {n cap : Nat} {l : List En} (h : Sl 10 Rent X w (.slice A n cap) l) (hn : 0 < n) :
    ∃ b off, A = some ⟨b, off, none⟩ ∧ ¬ X b ∧ ∀ j (h : j < l.length), ∃ v, EntAt w b (off + j * 10) l[j] v ∧ Sl 1 Rbyte X w v l[j].data := by
  obtain ⟨h1, h2, h3, h4⟩ := h.at
  obtain ⟨b, off, hA, hX, hc⟩ := h4 hn
  refine ⟨b, off, hA, hX, fun j hj => ?_⟩
  obtain ⟨cs, hcs, v, rfl, hR⟩ := hc j hj
  exact ⟨v, ⟨by simpa using hcs 0 _ rfl, hcs 1 _ rfl, hcs 2 _ rfl, hcs 3 _ rfl, hcs 4 _ rfl, hcs 5 _ rfl, hcs 6 _ rfl, hcs 7 _ rfl, hcs 8 _ rfl, hcs 9 _ rfl⟩, hR⟩
/-- Entries that are not too many or too long to be looked at. -/
def ES (l : List En) : Prop := l.length ≤ 1000000 ∧ ∀ e ∈ l, e.path.length ≤ 10000000 ∧ e.owner.length ≤ 10000000 ∧ e.group.length ≤ 10000000 ∧ e.link.length ≤ 10000000 ∧ e.data.length ≤ 10000000
end Go.Proofs.YtpheifdpjcppdaaGreatDoor
namespace Go.Proofs.YtpheifdpjcppdaaGreatDoor
open Go.RowKit
/-- The place of a path's entry, or -1. -/
def fndE (x : List UInt8) : List En → Nat → Int
  | [], _ => -1
  | e :: t, k => if e.path = x then (k : Int) else fndE x t (k + 1)
theorem fndE_step (x : List UInt8) (p : List En) (k : Nat) (h : k < p.length) : fndE x (p.drop k) k = if (p[k]).path = x then (k : Int) else fndE x (p.drop (k + 1)) (k + 1) := by
  rw [List.drop_eq_getElem_cons h]; rfl
theorem fndE_get (x : List UInt8) (p : List En) : ∀ k : Nat, (fndE x p k = -1 ∧ findE p x = none) ∨ ∃ (j : Nat) (h : j < p.length), fndE x p k = ((k + j : Nat) : Int) ∧ findE p x = some p[j] := by
  induction p with
  | nil => intro k; exact .inl ⟨rfl, rfl⟩
  | cons f t ih =>
    intro k
    rw [fndE, findE, List.find?_cons]
    by_cases h : f.path = x
    · rw [if_pos h, decide_eq_true h]
      exact .inr ⟨0, by simp, rfl, rfl⟩
    · rw [if_neg h, decide_eq_false h]
      rcases ih (k + 1) with ⟨h1, h2⟩ | ⟨j, hj, h1, h2⟩
      · exact .inl ⟨h1, h2⟩
      · exact .inr ⟨j + 1, by simp; omega, by rw [h1]; omega, h2⟩
theorem beq_bs2 (a b : List UInt8) : ((bs a).toList == (bs b).toList) = decide (a = b) := by
  rw [toList_bs, toList_bs, Bool.eq_iff_iff]; simp
set_option maxRecDepth 20000 in
set_option maxHeartbeats 8000000 in
theorem rfind_any (p : List En) (x : List UInt8) (v : Value) (X : Nat → Prop) (w : World) (hsl : Sl 10 Rent X w v p) :
    Calls Tryz.prog 55 #[v, .string (bs x)] w fun e w' => e = .returned (.int .i64 (fndE x p 0)) ∧ w = w' := by
  obtain ⟨A, cap, rfl, hc1, hc2⟩ := hsl.form
  unfold maxLen at hc2
  have HX : Hid (fndE x p 0 = fndE x (p.drop 0) 0) := Lib.hid rfl
  go_enter Tryz.func55, Tryz.ntmps55
  go_wp2_with fail
  go_loopg [5] p.length (fun G s5 wr => ∃ k : Nat, k ≤ p.length ∧ G = p.length - k ∧ s5 = .int .i64 k ∧ w = wr ∧ Hid (fndE x p 0 = fndE x (p.drop k) k))
  case atStart => exact ⟨0, Nat.zero_le _, rfl, rfl, rfl, HX⟩
  case round =>
    clear HX
    obtain ⟨k, hk, rfl, rfl, rfl, HE⟩ := hrel
    by_cases hlt : k < p.length
    · obtain ⟨b, off, rfl, _, hc⟩ := hsl.ent (by omega)
      obtain ⟨dv, ⟨c0, _, _, _, _, _, _, _, _, _⟩, _⟩ := hc k hlt
      have HST := Lib.hid (HE.out.trans (fndE_step x p k hlt))
      clear hc HE
      generalize p[k] = f at c0 HST
      obtain ⟨fn, HFN⟩ : ∃ fn, Hid (f.path = fn) := ⟨_, Lib.hid rfl⟩
      rw [HFN.out] at c0
      have HST := Lib.hid (show fndE x p 0 = if fn = x then (k : Int) else fndE x (p.drop (k + 1)) (k + 1) by rw [HST.out, HFN.out])
      have hq := beq_bs2 fn x
      have i1 : (0 : Int) ≤ (k : Int) := by omega
      have i2 : (k : Int) < (p.length : Int) := by omega
      by_cases he : fn = x
      · have hd : decide (fn = x) = true := by simp [he]
        rw [hd] at hq
        have HV := Lib.hid (show fndE x p 0 = (k : Int) by rw [HST.out, if_pos he])
        clear hd he HST
        go_wp2_with fail
        go_ret
        exact ⟨by rw [HV.out]; rfl, rfl⟩
      · have hd : decide (fn = x) = false := by simp [he]
        rw [hd] at hq
        have HV := Lib.hid (show fndE x p 0 = fndE x (p.drop (k + 1)) (k + 1) by rw [HST.out, if_neg he])
        clear hd he HST
        go_wp2_with fail
        go_roundg (p.length - (k + 1))
        case measure => omega
        case rel => exact ⟨k + 1, by omega, rfl, by simp, rfl, HV⟩
    · have HV := Lib.hid (show fndE x p 0 = -1 by rw [HE.out, List.drop_eq_nil_of_le (by omega)]; rfl)
      clear HE
      go_wp2_with fail
      go_ret
      exact ⟨by rw [HV.out]; rfl, rfl⟩
end Go.Proofs.YtpheifdpjcppdaaGreatDoor
