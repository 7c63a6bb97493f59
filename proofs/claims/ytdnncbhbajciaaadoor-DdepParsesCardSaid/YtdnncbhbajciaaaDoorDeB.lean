/- The document's reader of ddep: blanks, take, op. -/
import Derived.Test.YtdnncbhbajciaaaDoorDeA
namespace Go.Proofs.YtdnncbhbajciaaaDoor
open Go.RowKit
theorem St.parts {w : World} {g : Nat} {s r : List UInt8} {bad : Bool} {vl : Value} {its : List It} (h : St w g s r bad vl its) (hne : r ≠ []) :
    ∃ k : Nat, w.cell? ⟨g, 1, none⟩ = some (.int .i64 k) ∧ k < s.length ∧ (∀ u, (w.setCell ⟨g, 1, none⟩ u).cell? ⟨g, 1, none⟩ = some u) ∧ St (w.setCell ⟨g, 1, none⟩ (.int .i64 ((k : Int) + 1))) g s r.tail bad vl its ∧ Mv g w (w.setCell ⟨g, 1, none⟩ (.int .i64 ((k : Int) + 1))) := by
  obtain ⟨k, vp, vh, hk, rfl, hB, hp, hh⟩ := h
  have hlt : k < s.length := by
    rcases Nat.lt_or_ge k s.length with h | h
    · exact h
    · exact absurd (List.drop_eq_nil_of_le h) hne
  have c1 := hB.cell 1
  simp at c1
  have := St.set (its := its) hB hp hh (k + 1) hlt
  rw [List.tail_drop]
  refine ⟨k, c1, hlt, fun u => ?_, this⟩
  have := (hB.set (u := u) 1).cell 1
  simpa using this
/-- The state's place can be written. -/
theorem St.free1 {w : World} {g : Nat} {s r : List UInt8} {bad : Bool} {vl : Value} {its : List It} (h : St w g s r bad vl its) : ∃ (k : Nat) (vp vh : Value), Blk w g 93 #[.string (bs s), .int .i64 k, .bool bad, vp, vl, vh] := by
  obtain ⟨k, vp, vh, hk, rfl, hB, _, _⟩ := h
  exact ⟨k, vp, vh, hB⟩
set_option maxRecDepth 20000 in
set_option maxHeartbeats 4000000 in
theorem eblanks_any (g : Nat) (s r : List UInt8) (bad : Bool) (vl : Value) (its : List It) (w : World) (hs : s.length ≤ 1000000) (h : St w g s r bad vl its) :
    Calls Tryd.prog 95 #[.pointer (some ⟨g, 0, none⟩)] w fun e w' => e = .returned (.tuple #[]) ∧ St w' g s (skipB r) bad vl its ∧ Mv g w w' := by
  go_enter Tryd.func95, Tryd.ntmps95
  go_wp2_with fail
  go_loopg [] r.length (fun G wr => ∃ r' : List UInt8, G = r'.length ∧ St wr g s r' bad vl its ∧ Mv g w wr ∧ Hid (skipB r = skipB r'))
  case atStart => exact ⟨r, rfl, h, Mv.refl _ _, Lib.hid rfl⟩
  case round =>
    clear h
    obtain ⟨r', rfl, hS, hM, HE⟩ := hrel
    go_wp2_with fail
    refine (has_any g s r' bad vl its _ hS).mono ?_
    rintro e w1 ⟨rfl, hS1, hM1⟩
    have M1 := hM.trans hM1
    clear hS hM hM1
    cases r' with
    | nil =>
      go_wp2_with fail
      go_end0
      exact ⟨rfl, by rw [HE.out]; exact hS1, M1⟩
    | cons c t =>
      go_wp2_with fail
      refine (next_any g s (c :: t) bad vl its _ hS1).mono ?_
      rintro e w2 ⟨rfl, hS2, hM2⟩
      have M2 := M1.trans hM2
      clear hS1 hM2 M1
      by_cases hc : c = 32
      · have hb : ((headI (c :: t)) == 32) = true := (beq_byte c 32).trans (by simpa using hc)
        obtain ⟨k, c1, hlt, _, hS3, hM3⟩ := hS2.parts (by simp)
        obtain ⟨_, vp, vh, hB⟩ := hS2.free1
        have f1 := hB.free 1
        have HE2 : Hid (skipB r = skipB t) := Lib.hid (by rw [HE.out, hc, skipB_cons])
        have M3 := M2.trans hM3
        clear hB hS2 hc
        go_wp2_with fail
        go_roundg t.length
        case measure => simp
        case rel => exact ⟨t, rfl, hS3, M3, HE2⟩
      · have hb : ((headI (c :: t)) == 32) = false := (beq_byte c 32).trans (by simpa using hc)
        have HE2 : Hid (skipB r = c :: t) := Lib.hid (by rw [HE.out, skipB_stop _ (fun u e => hc (by injection e))])
        clear hc
        go_wp2_with fail
        go_end0
        exact ⟨rfl, by rw [HE2.out]; exact hS2, M2⟩
set_option maxRecDepth 20000 in
set_option maxHeartbeats 4000000 in
theorem etake_any (c : UInt8) (g : Nat) (s r : List UInt8) (bad : Bool) (vl : Value) (its : List It) (w : World) (hs : s.length ≤ 1000000) (h : St w g s r bad vl its) :
    Calls Tryd.prog 98 #[.pointer (some ⟨g, 0, none⟩), .int .u8 (c.toNat : Int)] w fun e w' => e = .returned (.bool (hasB r c)) ∧ St w' g s (signR c r) bad vl its ∧ Mv g w w' := by
  go_enter Tryd.func98, Tryd.ntmps98
  go_wp2_with fail
  refine (has_any g s r bad vl its _ h).mono ?_
  rintro e w1 ⟨rfl, hS1, M1⟩
  clear h
  cases r with
  | nil =>
    have HS : Hid (signR c [] = [] ∧ hasB [] c = false) := Lib.hid ⟨rfl, rfl⟩
    go_wp2_with fail
    go_ret
    rw [HS.out.1, HS.out.2]
    exact ⟨rfl, hS1, M1⟩
  | cons d t =>
    go_wp2_with fail
    refine (next_any g s (d :: t) bad vl its _ hS1).mono ?_
    rintro e w2 ⟨rfl, hS2, hM2⟩
    have M2 := M1.trans hM2
    clear hS1 hM2 M1
    by_cases hc : d = c
    · have hb : ((headI (d :: t)) == (c.toNat : Int)) = true := (beq_byte d c).trans (by simpa using hc)
      obtain ⟨k, c1, hlt, _, hS3, hM3⟩ := hS2.parts (by simp)
      obtain ⟨_, vp, vh, hB⟩ := hS2.free1
      have f1 := hB.free 1
      have HS : Hid (signR c (d :: t) = t ∧ hasB (d :: t) c = true) := Lib.hid (by subst hc; simp [signR, hasB])
      have M3 := M2.trans hM3
      clear hB hS2 hc
      go_wp2_with fail
      go_ret
      rw [HS.out.1, HS.out.2]
      exact ⟨rfl, hS3, M3⟩
    · have hb : ((headI (d :: t)) == (c.toNat : Int)) = false := (beq_byte d c).trans (by simpa using hc)
      have HS : Hid (signR c (d :: t) = d :: t ∧ hasB (d :: t) c = false) := Lib.hid (by simp [signR, hasB, hc])
      clear hc
      go_wp2_with fail
      go_ret
      rw [HS.out.1, HS.out.2]
      exact ⟨rfl, hS2, M2⟩
set_option maxRecDepth 20000 in
set_option maxHeartbeats 4000000 in
theorem op_any (g : Nat) (s r : List UInt8) (bad : Bool) (vl : Value) (its : List It) (w : World) (hs : s.length ≤ 1000000) (h : St w g s r bad vl its) :
    Calls Tryd.prog 123 #[.pointer (some ⟨g, 0, none⟩)] w fun e w' => e = .returned (.int .i64 (pOp r).1) ∧ St w' g s (pOp r).2 bad vl its ∧ Mv g w w' := by
  go_enter Tryd.func123, Tryd.ntmps123
  go_wp2_with fail
  refine (etake_any 61 g s r bad vl its _ hs h).mono ?_
  rintro e w1 ⟨rfl, hS1, M1⟩
  clear h
  rcases hasB_is r 61 with ⟨t, rfl, hb, hsr⟩ | ⟨hb, hsr, hno⟩
  · rw [hb]
    rw [hsr] at hS1
    have HP := Lib.hid (pOp_61 t)
    go_wp2_with fail
    go_ret
    rw [HP.out]
    exact ⟨rfl, hS1, M1⟩
  · rw [hb]
    rw [hsr] at hS1
    clear hb hsr
    go_wp2_with fail
    refine (etake_any 60 g s r bad vl its _ hs hS1).mono ?_
    rintro e w2 ⟨rfl, hS2, hM2⟩
    have M2 := M1.trans hM2
    clear M1 hM2 hS1
    rcases hasB_is r 60 with ⟨t, rfl, hb, hsr⟩ | ⟨hb, hsr, hno2⟩
    · rw [hb]
      rw [hsr] at hS2
      clear hb hsr hno
      go_wp2_with fail
      refine (etake_any 60 g s t bad vl its _ hs hS2).mono ?_
      rintro e w3 ⟨rfl, hS3, hM3⟩
      have M3 := M2.trans hM3
      clear M2 hM3 hS2
      rcases hasB_is t 60 with ⟨u, rfl, hb, hsr⟩ | ⟨hb, hsr, hn1⟩
      · rw [hb]
        rw [hsr] at hS3
        have HP : Hid (pOp (60 :: 60 :: u) = (1, u)) := Lib.hid rfl
        go_wp2_with fail
        go_ret
        rw [HP.out]
        exact ⟨rfl, hS3, M3⟩
      · rw [hb]
        rw [hsr] at hS3
        clear hb hsr
        go_wp2_with fail
        refine (etake_any 61 g s t bad vl its _ hs hS3).mono ?_
        rintro e w4 ⟨rfl, hS4, hM4⟩
        have M4 := M3.trans hM4
        clear M3 hM4 hS3
        rcases hasB_is t 61 with ⟨u, rfl, hb, hsr⟩ | ⟨hb, hsr, hn2⟩
        · rw [hb]
          rw [hsr] at hS4
          have HP : Hid (pOp (60 :: 61 :: u) = (2, u)) := Lib.hid rfl
          go_wp2_with fail
          go_ret
          rw [HP.out]
          exact ⟨rfl, hS4, M4⟩
        · rw [hb]
          rw [hsr] at hS4
          have HP := Lib.hid (pOp_60 t hn1 hn2)
          clear hn1 hn2
          go_wp2_with fail
          go_ret
          rw [HP.out]
          exact ⟨rfl, hS4, M4⟩
    · rw [hb]
      rw [hsr] at hS2
      clear hb hsr
      go_wp2_with fail
      refine (etake_any 62 g s r bad vl its _ hs hS2).mono ?_
      rintro e w3 ⟨rfl, hS3, hM3⟩
      have M3 := M2.trans hM3
      clear M2 hM3 hS2
      rcases hasB_is r 62 with ⟨t, rfl, hb, hsr⟩ | ⟨hb, hsr, hno3⟩
      · rw [hb]
        rw [hsr] at hS3
        clear hb hsr hno hno2
        go_wp2_with fail
        refine (etake_any 61 g s t bad vl its _ hs hS3).mono ?_
        rintro e w4 ⟨rfl, hS4, hM4⟩
        have M4 := M3.trans hM4
        clear M3 hM4 hS3
        rcases hasB_is t 61 with ⟨u, rfl, hb, hsr⟩ | ⟨hb, hsr, hn1⟩
        · rw [hb]
          rw [hsr] at hS4
          have HP : Hid (pOp (62 :: 61 :: u) = (4, u)) := Lib.hid rfl
          go_wp2_with fail
          go_ret
          rw [HP.out]
          exact ⟨rfl, hS4, M4⟩
        · rw [hb]
          rw [hsr] at hS4
          clear hb hsr
          go_wp2_with fail
          refine (etake_any 62 g s t bad vl its _ hs hS4).mono ?_
          rintro e w5 ⟨rfl, hS5, hM5⟩
          have M5 := M4.trans hM5
          clear M4 hM5 hS4
          rcases hasB_is t 62 with ⟨u, rfl, hb, hsr⟩ | ⟨hb, hsr, hn2⟩
          · rw [hb]
            rw [hsr] at hS5
            have HP : Hid (pOp (62 :: 62 :: u) = (5, u)) := Lib.hid rfl
            go_wp2_with fail
            go_ret
            rw [HP.out]
            exact ⟨rfl, hS5, M5⟩
          · rw [hb]
            rw [hsr] at hS5
            have HP := Lib.hid (pOp_62 t hn2 hn1)
            clear hn1 hn2
            go_wp2_with fail
            go_ret
            rw [HP.out]
            exact ⟨rfl, hS5, M5⟩
      · rw [hb]
        rw [hsr] at hS3
        have HP := Lib.hid (pOp_no r hno hno2 hno3)
        clear hno hno2 hno3
        go_wp2_with fail
        go_ret
        rw [HP.out]
        exact ⟨rfl, hS3, M3⟩
end Go.Proofs.YtdnncbhbajciaaaDoor
