/- Walks of rdep.Name and rdep.partEnd. -/
import Derived.Test.YtjdcegogkafmoaaDoorRdB
namespace Go.Proofs.YtjdcegogkafmoaaDoor
open Go.RowKit
theorem byteL (c : UInt8) (n : UInt8) (m : Int) (hm : m = (n.toNat : Int)) : ((c.toNat : Int) == m) = decide (c = n) ∧ ((c.toNat : Int) != m) = !decide (c = n) := by
  subst hm
  by_cases h : c = n
  · subst h; simp
  · have : ¬ c.toNat = n.toNat := fun e => h (UInt8.toNat_inj.1 e)
    simp [h]
    omega
theorem nmGo_step (s : List UInt8) (k : Nat) (h : k < s.length) (o : Nat) : nmGo (s.drop k) o = if s[k] = 40 then nmGo (s.drop (k + 1)) (o + 1) else if s[k] = 41 then (if o = 0 then false else nmGo (s.drop (k + 1)) (o - 1)) else if inR s[k] = true then nmGo (s.drop (k + 1)) o else false := by
  rw [List.drop_eq_getElem_cons h, nmGo]
theorem pEnd_step (s : List UInt8) (k : Nat) (h : k < s.length) (o : Nat) : pEnd (s.drop k) o = if s[k] = 32 then 0 else if s[k] = 40 then pEnd (s.drop (k + 1)) (o + 1) + 1 else if s[k] = 41 then (if o = 0 then 0 else pEnd (s.drop (k + 1)) (o - 1) + 1) else pEnd (s.drop (k + 1)) o + 1 := by
  rw [List.drop_eq_getElem_cons h, pEnd]
theorem ibR (c : UInt8) (w : World) : Calls Tryd.prog 25 #[.string ⟨#[46, 95, 43, 45, 47, 58]⟩, .int .u8 (c.toNat : Int)] w fun e w' => (∃ i : Int, e = .returned (.int .i64 i) ∧ decide (i < 0) = !([46, 95, 43, 45, 47, 58].contains c)) ∧ w = w' := by
  refine (Tryd.strings_IndexByte ⟨#[46, 95, 43, 45, 47, 58]⟩ _ w).mono fun e w' ⟨h1, h2⟩ => ⟨⟨Lib.indexByte [46, 95, 43, 45, 47, 58] c, by simpa using h1, ?_⟩, h2.symm⟩
  have key : ∀ (l : List UInt8), decide (Lib.indexByte l c < 0) = !(l.contains c) := by
    intro l
    induction l with
    | nil => rfl
    | cons d t ih =>
      rw [List.contains_cons, Lib.indexByte]
      by_cases h : d = c
      · subst h; simp
      · have h1 : (d == c) = false := by simpa using h
        have h2 : (c == d) = false := by simpa using fun e => h e.symm
        rw [h1, h2, Bool.false_or, ← ih]
        have hge := Lib.indexByte_ge t c
        by_cases hm : Lib.indexByte t c = -1
        · simp [hm]
        · have hm' : (Lib.indexByte t c == -1) = false := by simpa using hm
          simp only [hm', Bool.false_eq_true, if_false]
          congr 1
          rw [eq_iff_iff]
          omega
  exact key _
set_option maxRecDepth 20000 in
set_option maxHeartbeats 8000000 in
theorem name_any (s : List UInt8) (w : World) (hs : s.length ≤ 1000000000) : Calls Tryd.prog 13 #[.string (bs s)] w fun e w' => e = .returned (.bool (nmR s)) ∧ w = w' := by
  cases s with
  | nil =>
    have n1 : (bs []).toList = [] := by rw [toList_bs]
    have n2 : (bs []).toList.isEmpty = true := by rw [n1]; rfl
    go_enter Tryd.func13, Tryd.ntmps13
    go_wp2_with fail
    go_ret
    exact ⟨rfl, rfl⟩
  | cons c t =>
    have hz : (bs (c :: t)).size = t.length + 1 := by rw [bs_size]; rfl
    have hpos : 0 < (bs (c :: t)).size := by omega
    have hb0 : (bs (c :: t))[0]'hpos = c := rfl
    have n1 : ¬ (bs (c :: t)).toList = [] := by rw [toList_bs]; simp
    have n2 : (bs (c :: t)).toList.isEmpty = false := by rw [toList_bs]; rfl
    have HV : Hid (nmR (c :: t) = if 64 < (c :: t).length then false else if frR c = true then nmGo (c :: t) 0 else false) := Lib.hid rfl
    have HFR : Hid (frR c = (ltR c || (dgR c || decide (c = 47)))) := Lib.hid rfl
    generalize hs0 : c :: t = s at *
    have HS := Lib.hid hs0
    clear hs0
    have hsz : ((bs s).size : Int) = (s.length : Int) := by rw [bs_size]
    by_cases h64 : 64 < s.length
    · have hd : decide ((64 : Int) < (s.length : Int)) = true := by simp; omega
      have HR : Hid (nmR s = false) := Lib.hid (by rw [HV.out, if_pos h64])
      clear h64 hz HV
      go_enter Tryd.func13, Tryd.ntmps13
      go_wp2_with fail
      go_ret
      exact ⟨by rw [HR.out]; rfl, rfl⟩
    · have hd : decide ((64 : Int) < (s.length : Int)) = false := by simp; omega
      have hln : s.length ≤ 64 := by omega
      have HR0 : Hid (nmR s = if frR c = true then nmGo s 0 else false) := Lib.hid (by rw [HV.out, if_neg h64])
      clear HV h64 hz
      have hl := ltr_any c
      have hg := dgr_any c
      obtain ⟨_, h47⟩ := byteL c 47 47 rfl
      generalize ltR c = b1 at hl HFR
      generalize dgR c = b2 at hg HFR
      generalize decide (c = 47) = b3 at h47 HFR
      obtain ⟨fr, HFR2⟩ : ∃ x, Hid (frR c = x) := ⟨_, Lib.hid rfl⟩
      rw [HFR2.out] at HFR HR0
      cases fr with
      | false =>
        have h4 := HFR.out.symm
        rw [Bool.or_eq_false_iff, Bool.or_eq_false_iff] at h4
        obtain ⟨rfl, rfl, rfl⟩ := h4
        have HR : Hid (nmR s = false) := Lib.hid (by rw [HR0.out]; rfl)
        clear HR0
        go_enter Tryd.func13, Tryd.ntmps13
        go_wp2_with (first
          | (go_at_call 23; refine (hl _).mono ?_; rintro r W2 ⟨rfl, rfl⟩)
          | (go_at_call 24; refine (hg _).mono ?_; rintro r W2 ⟨rfl, rfl⟩))
        go_ret
        exact ⟨by rw [HR.out]; rfl, rfl⟩
      | true =>
        have HR : Hid (nmR s = nmGo (s.drop 0) 0) := Lib.hid (by rw [HR0.out, if_pos rfl]; rfl)
        clear HR0
        have hcs : b1 = true ∨ (b1 = false ∧ b2 = true) ∨ (b1 = false ∧ b2 = false ∧ b3 = true) := by
          have := HFR.out
          clear hl hg h47 HFR
          revert this
          cases b1 <;> cases b2 <;> cases b3 <;> decide
        clear HFR
        rcases hcs with rfl | ⟨rfl, rfl⟩ | ⟨rfl, rfl, rfl⟩
        · go_enter Tryd.func13, Tryd.ntmps13
          go_wp2_with (first
            | (go_at_call 23; refine (hl _).mono ?_; rintro r W2 ⟨rfl, rfl⟩)
            | (go_at_call 24; refine (hg _).mono ?_; rintro r W2 ⟨rfl, rfl⟩))
          clear hl hg h47
          go_loopg [3, 32] s.length (fun G s3 s32 wr => ∃ k o : Nat, k ≤ s.length ∧ G = s.length - k ∧ s3 = .int .i64 o ∧ o ≤ k ∧ s32 = .int .i64 k ∧ w = wr ∧ Hid (nmR s = nmGo (s.drop k) o))
          case atStart => exact ⟨0, 0, Nat.zero_le _, rfl, rfl, Nat.zero_le _, rfl, rfl, HR⟩
          case round =>
            clear HR
            obtain ⟨k, o, hk, rfl, rfl, hok, rfl, rfl, HE⟩ := hrel
            by_cases hlt : k < s.length
            · have HST := Lib.hid (HE.out.trans (nmGo_step s k hlt o))
              have hks : (k : Int) < ((bs s).size : Int) := by omega
              have hks2 : k < (bs s).size := by rw [bs_size]; exact hlt
              have hlt' : decide ((k : Int) < (s.length : Int)) = true := by simp; exact hlt
              obtain ⟨d, hd0⟩ : ∃ d, d = s[k]'hlt := ⟨_, rfl⟩
              have hbb : (bs s)[k]'hks2 = d := hd0.symm
              rw [← hd0] at HST
              clear hd0 HE
              obtain ⟨q40, _⟩ := byteL d 40 40 rfl
              obtain ⟨q41, _⟩ := byteL d 41 41 rfl
              by_cases e40 : d = 40
              · rw [decide_eq_true e40] at q40
                have HV : Hid (nmR s = nmGo (s.drop (k + 1)) (o + 1)) := Lib.hid (by rw [HST.out, if_pos e40])
                have w1 : IntKind.i64.wrap ((o : Int) + 1) = (o : Int) + 1 := i64_in _ (by omega) (by omega)
                have t0 : decide ((o : Int) + 1 < 0) = false := decide_eq_false (by omega)
                clear HST e40
                go_wp2_with fail
                go_roundg (s.length - (k + 1))
                case measure => omega
                case rel => exact ⟨k + 1, o + 1, by omega, rfl, by first | rfl | (simp; done), by omega, by first | (simp; done) | (simp; omega), rfl, HV⟩
              rw [decide_eq_false e40] at q40
              by_cases e41 : d = 41
              · rw [decide_eq_true e41] at q41
                by_cases ho : o = 0
                · subst ho
                  have HV : Hid (nmR s = false) := Lib.hid (by rw [HST.out, if_neg e40, if_pos e41, if_pos rfl])
                  have w1 : IntKind.i64.wrap (-1) = -1 := by decide
                  clear HST e40 e41
                  go_wp2_with fail
                  go_ret
                  exact ⟨by rw [HV.out]; rfl, rfl⟩
                · have HV : Hid (nmR s = nmGo (s.drop (k + 1)) (o - 1)) := Lib.hid (by rw [HST.out, if_neg e40, if_pos e41, if_neg ho])
                  have w1 : IntKind.i64.wrap ((o : Int) - 1) = ((o - 1 : Nat) : Int) := by rw [i64_in _ (by omega) (by omega)]; omega
                  have t0 : decide (((o - 1 : Nat) : Int) < 0) = false := decide_eq_false (by omega)
                  clear HST e40 e41 ho
                  go_wp2_with fail
                  go_roundg (s.length - (k + 1))
                  case measure => omega
                  case rel => exact ⟨k + 1, o - 1, by omega, rfl, by first | rfl | (simp; done), by omega, by first | (simp; done) | (simp; omega), rfl, HV⟩
              rw [decide_eq_false e41] at q41
              have hl := ltr_any d
              have hg := dgr_any d
              have hib := ibR d
              have HST2 : Hid (nmR s = if (ltR d || (dgR d || [46, 95, 43, 45, 47, 58].contains d)) = true then nmGo (s.drop (k + 1)) o else false) := Lib.hid (by rw [HST.out, if_neg e40, if_neg e41]; rfl)
              have t0 : decide ((o : Int) < 0) = false := decide_eq_false (by omega)
              clear HST e40 e41
              generalize ltR d = b1 at hl HST2
              generalize dgR d = b2 at hg HST2
              generalize ([46, 95, 43, 45, 47, 58] : List UInt8).contains d = b3 at hib HST2
              cases b1 with
              | true =>
                have HV : Hid (nmR s = nmGo (s.drop (k + 1)) o) := Lib.hid (by rw [HST2.out, Bool.true_or, if_pos rfl])
                clear HST2 hg hib
                go_wp2_with (go_at_call 23; refine (hl _).mono ?_; rintro r W2 ⟨rfl, rfl⟩)
                go_roundg (s.length - (k + 1))
                case measure => omega
                case rel => exact ⟨k + 1, o, by omega, rfl, rfl, by omega, by first | (simp; done) | (simp; omega), rfl, HV⟩
              | false =>
                cases b2 with
                | true =>
                  have HV : Hid (nmR s = nmGo (s.drop (k + 1)) o) := Lib.hid (by rw [HST2.out, Bool.true_or, Bool.or_true, if_pos rfl])
                  clear HST2 hib
                  go_wp2_with (first
                    | (go_at_call 23; refine (hl _).mono ?_; rintro r W2 ⟨rfl, rfl⟩)
                    | (go_at_call 24; refine (hg _).mono ?_; rintro r W2 ⟨rfl, rfl⟩))
                  go_roundg (s.length - (k + 1))
                  case measure => omega
                  case rel => exact ⟨k + 1, o, by omega, rfl, rfl, by omega, by first | (simp; done) | (simp; omega), rfl, HV⟩
                | false =>
                  cases b3 with
                  | true =>
                    have HV : Hid (nmR s = nmGo (s.drop (k + 1)) o) := Lib.hid (by rw [HST2.out, Bool.or_true, Bool.or_true, if_pos rfl])
                    clear HST2
                    go_wp2_with (first
                      | (go_at_call 23; refine (hl _).mono ?_; rintro r W2 ⟨rfl, rfl⟩)
                      | (go_at_call 24; refine (hg _).mono ?_; rintro r W2 ⟨rfl, rfl⟩)
                      | (go_at_call 25; refine (hib _).mono ?_; rintro r W2 ⟨⟨ii, rfl, hii⟩, rfl⟩; rw [Bool.not_true] at hii))
                    go_roundg (s.length - (k + 1))
                    case measure => omega
                    case rel => exact ⟨k + 1, o, by omega, rfl, rfl, by omega, by first | (simp; done) | (simp; omega), rfl, HV⟩
                  | false =>
                    have HV : Hid (nmR s = false) := Lib.hid (by rw [HST2.out]; rfl)
                    clear HST2
                    go_wp2_with (first
                      | (go_at_call 23; refine (hl _).mono ?_; rintro r W2 ⟨rfl, rfl⟩)
                      | (go_at_call 24; refine (hg _).mono ?_; rintro r W2 ⟨rfl, rfl⟩)
                      | (go_at_call 25; refine (hib _).mono ?_; rintro r W2 ⟨⟨ii, rfl, hii⟩, rfl⟩; rw [Bool.not_false] at hii))
                    go_ret
                    exact ⟨by rw [HV.out]; rfl, rfl⟩
            · have hlt' : decide ((k : Int) < (s.length : Int)) = false := by simp; omega
              have HV : Hid (nmR s = decide (o = 0)) := Lib.hid (by rw [HE.out, List.drop_eq_nil_of_le (by omega)]; rfl)
              have t0 : ((o : Int) == 0) = decide (o = 0) := by rw [Bool.eq_iff_iff]; simp
              clear HE
              go_wp2_with fail
              go_ret
              exact ⟨by rw [HV.out]; first | rfl | (rw [← t0]; rfl), rfl⟩
        · go_enter Tryd.func13, Tryd.ntmps13
          go_wp2_with (first
            | (go_at_call 23; refine (hl _).mono ?_; rintro r W2 ⟨rfl, rfl⟩)
            | (go_at_call 24; refine (hg _).mono ?_; rintro r W2 ⟨rfl, rfl⟩))
          clear hl hg h47
          go_loopg [3, 32] s.length (fun G s3 s32 wr => ∃ k o : Nat, k ≤ s.length ∧ G = s.length - k ∧ s3 = .int .i64 o ∧ o ≤ k ∧ s32 = .int .i64 k ∧ w = wr ∧ Hid (nmR s = nmGo (s.drop k) o))
          case atStart => exact ⟨0, 0, Nat.zero_le _, rfl, rfl, Nat.zero_le _, rfl, rfl, HR⟩
          case round =>
            clear HR
            obtain ⟨k, o, hk, rfl, rfl, hok, rfl, rfl, HE⟩ := hrel
            by_cases hlt : k < s.length
            · have HST := Lib.hid (HE.out.trans (nmGo_step s k hlt o))
              have hks : (k : Int) < ((bs s).size : Int) := by omega
              have hks2 : k < (bs s).size := by rw [bs_size]; exact hlt
              have hlt' : decide ((k : Int) < (s.length : Int)) = true := by simp; exact hlt
              obtain ⟨d, hd0⟩ : ∃ d, d = s[k]'hlt := ⟨_, rfl⟩
              have hbb : (bs s)[k]'hks2 = d := hd0.symm
              rw [← hd0] at HST
              clear hd0 HE
              obtain ⟨q40, _⟩ := byteL d 40 40 rfl
              obtain ⟨q41, _⟩ := byteL d 41 41 rfl
              by_cases e40 : d = 40
              · rw [decide_eq_true e40] at q40
                have HV : Hid (nmR s = nmGo (s.drop (k + 1)) (o + 1)) := Lib.hid (by rw [HST.out, if_pos e40])
                have w1 : IntKind.i64.wrap ((o : Int) + 1) = (o : Int) + 1 := i64_in _ (by omega) (by omega)
                have t0 : decide ((o : Int) + 1 < 0) = false := decide_eq_false (by omega)
                clear HST e40
                go_wp2_with fail
                go_roundg (s.length - (k + 1))
                case measure => omega
                case rel => exact ⟨k + 1, o + 1, by omega, rfl, by first | rfl | (simp; done), by omega, by first | (simp; done) | (simp; omega), rfl, HV⟩
              rw [decide_eq_false e40] at q40
              by_cases e41 : d = 41
              · rw [decide_eq_true e41] at q41
                by_cases ho : o = 0
                · subst ho
                  have HV : Hid (nmR s = false) := Lib.hid (by rw [HST.out, if_neg e40, if_pos e41, if_pos rfl])
                  have w1 : IntKind.i64.wrap (-1) = -1 := by decide
                  clear HST e40 e41
                  go_wp2_with fail
                  go_ret
                  exact ⟨by rw [HV.out]; rfl, rfl⟩
                · have HV : Hid (nmR s = nmGo (s.drop (k + 1)) (o - 1)) := Lib.hid (by rw [HST.out, if_neg e40, if_pos e41, if_neg ho])
                  have w1 : IntKind.i64.wrap ((o : Int) - 1) = ((o - 1 : Nat) : Int) := by rw [i64_in _ (by omega) (by omega)]; omega
                  have t0 : decide (((o - 1 : Nat) : Int) < 0) = false := decide_eq_false (by omega)
                  clear HST e40 e41 ho
                  go_wp2_with fail
                  go_roundg (s.length - (k + 1))
                  case measure => omega
                  case rel => exact ⟨k + 1, o - 1, by omega, rfl, by first | rfl | (simp; done), by omega, by first | (simp; done) | (simp; omega), rfl, HV⟩
              rw [decide_eq_false e41] at q41
              have hl := ltr_any d
              have hg := dgr_any d
              have hib := ibR d
              have HST2 : Hid (nmR s = if (ltR d || (dgR d || [46, 95, 43, 45, 47, 58].contains d)) = true then nmGo (s.drop (k + 1)) o else false) := Lib.hid (by rw [HST.out, if_neg e40, if_neg e41]; rfl)
              have t0 : decide ((o : Int) < 0) = false := decide_eq_false (by omega)
              clear HST e40 e41
              generalize ltR d = b1 at hl HST2
              generalize dgR d = b2 at hg HST2
              generalize ([46, 95, 43, 45, 47, 58] : List UInt8).contains d = b3 at hib HST2
              cases b1 with
              | true =>
                have HV : Hid (nmR s = nmGo (s.drop (k + 1)) o) := Lib.hid (by rw [HST2.out, Bool.true_or, if_pos rfl])
                clear HST2 hg hib
                go_wp2_with (go_at_call 23; refine (hl _).mono ?_; rintro r W2 ⟨rfl, rfl⟩)
                go_roundg (s.length - (k + 1))
                case measure => omega
                case rel => exact ⟨k + 1, o, by omega, rfl, rfl, by omega, by first | (simp; done) | (simp; omega), rfl, HV⟩
              | false =>
                cases b2 with
                | true =>
                  have HV : Hid (nmR s = nmGo (s.drop (k + 1)) o) := Lib.hid (by rw [HST2.out, Bool.true_or, Bool.or_true, if_pos rfl])
                  clear HST2 hib
                  go_wp2_with (first
                    | (go_at_call 23; refine (hl _).mono ?_; rintro r W2 ⟨rfl, rfl⟩)
                    | (go_at_call 24; refine (hg _).mono ?_; rintro r W2 ⟨rfl, rfl⟩))
                  go_roundg (s.length - (k + 1))
                  case measure => omega
                  case rel => exact ⟨k + 1, o, by omega, rfl, rfl, by omega, by first | (simp; done) | (simp; omega), rfl, HV⟩
                | false =>
                  cases b3 with
                  | true =>
                    have HV : Hid (nmR s = nmGo (s.drop (k + 1)) o) := Lib.hid (by rw [HST2.out, Bool.or_true, Bool.or_true, if_pos rfl])
                    clear HST2
                    go_wp2_with (first
                      | (go_at_call 23; refine (hl _).mono ?_; rintro r W2 ⟨rfl, rfl⟩)
                      | (go_at_call 24; refine (hg _).mono ?_; rintro r W2 ⟨rfl, rfl⟩)
                      | (go_at_call 25; refine (hib _).mono ?_; rintro r W2 ⟨⟨ii, rfl, hii⟩, rfl⟩; rw [Bool.not_true] at hii))
                    go_roundg (s.length - (k + 1))
                    case measure => omega
                    case rel => exact ⟨k + 1, o, by omega, rfl, rfl, by omega, by first | (simp; done) | (simp; omega), rfl, HV⟩
                  | false =>
                    have HV : Hid (nmR s = false) := Lib.hid (by rw [HST2.out]; rfl)
                    clear HST2
                    go_wp2_with (first
                      | (go_at_call 23; refine (hl _).mono ?_; rintro r W2 ⟨rfl, rfl⟩)
                      | (go_at_call 24; refine (hg _).mono ?_; rintro r W2 ⟨rfl, rfl⟩)
                      | (go_at_call 25; refine (hib _).mono ?_; rintro r W2 ⟨⟨ii, rfl, hii⟩, rfl⟩; rw [Bool.not_false] at hii))
                    go_ret
                    exact ⟨by rw [HV.out]; rfl, rfl⟩
            · have hlt' : decide ((k : Int) < (s.length : Int)) = false := by simp; omega
              have HV : Hid (nmR s = decide (o = 0)) := Lib.hid (by rw [HE.out, List.drop_eq_nil_of_le (by omega)]; rfl)
              have t0 : ((o : Int) == 0) = decide (o = 0) := by rw [Bool.eq_iff_iff]; simp
              clear HE
              go_wp2_with fail
              go_ret
              exact ⟨by rw [HV.out]; first | rfl | (rw [← t0]; rfl), rfl⟩
        · go_enter Tryd.func13, Tryd.ntmps13
          go_wp2_with (first
            | (go_at_call 23; refine (hl _).mono ?_; rintro r W2 ⟨rfl, rfl⟩)
            | (go_at_call 24; refine (hg _).mono ?_; rintro r W2 ⟨rfl, rfl⟩))
          clear hl hg h47
          go_loopg [3, 32] s.length (fun G s3 s32 wr => ∃ k o : Nat, k ≤ s.length ∧ G = s.length - k ∧ s3 = .int .i64 o ∧ o ≤ k ∧ s32 = .int .i64 k ∧ w = wr ∧ Hid (nmR s = nmGo (s.drop k) o))
          case atStart => exact ⟨0, 0, Nat.zero_le _, rfl, rfl, Nat.zero_le _, rfl, rfl, HR⟩
          case round =>
            clear HR
            obtain ⟨k, o, hk, rfl, rfl, hok, rfl, rfl, HE⟩ := hrel
            by_cases hlt : k < s.length
            · have HST := Lib.hid (HE.out.trans (nmGo_step s k hlt o))
              have hks : (k : Int) < ((bs s).size : Int) := by omega
              have hks2 : k < (bs s).size := by rw [bs_size]; exact hlt
              have hlt' : decide ((k : Int) < (s.length : Int)) = true := by simp; exact hlt
              obtain ⟨d, hd0⟩ : ∃ d, d = s[k]'hlt := ⟨_, rfl⟩
              have hbb : (bs s)[k]'hks2 = d := hd0.symm
              rw [← hd0] at HST
              clear hd0 HE
              obtain ⟨q40, _⟩ := byteL d 40 40 rfl
              obtain ⟨q41, _⟩ := byteL d 41 41 rfl
              by_cases e40 : d = 40
              · rw [decide_eq_true e40] at q40
                have HV : Hid (nmR s = nmGo (s.drop (k + 1)) (o + 1)) := Lib.hid (by rw [HST.out, if_pos e40])
                have w1 : IntKind.i64.wrap ((o : Int) + 1) = (o : Int) + 1 := i64_in _ (by omega) (by omega)
                have t0 : decide ((o : Int) + 1 < 0) = false := decide_eq_false (by omega)
                clear HST e40
                go_wp2_with fail
                go_roundg (s.length - (k + 1))
                case measure => omega
                case rel => exact ⟨k + 1, o + 1, by omega, rfl, by first | rfl | (simp; done), by omega, by first | (simp; done) | (simp; omega), rfl, HV⟩
              rw [decide_eq_false e40] at q40
              by_cases e41 : d = 41
              · rw [decide_eq_true e41] at q41
                by_cases ho : o = 0
                · subst ho
                  have HV : Hid (nmR s = false) := Lib.hid (by rw [HST.out, if_neg e40, if_pos e41, if_pos rfl])
                  have w1 : IntKind.i64.wrap (-1) = -1 := by decide
                  clear HST e40 e41
                  go_wp2_with fail
                  go_ret
                  exact ⟨by rw [HV.out]; rfl, rfl⟩
                · have HV : Hid (nmR s = nmGo (s.drop (k + 1)) (o - 1)) := Lib.hid (by rw [HST.out, if_neg e40, if_pos e41, if_neg ho])
                  have w1 : IntKind.i64.wrap ((o : Int) - 1) = ((o - 1 : Nat) : Int) := by rw [i64_in _ (by omega) (by omega)]; omega
                  have t0 : decide (((o - 1 : Nat) : Int) < 0) = false := decide_eq_false (by omega)
                  clear HST e40 e41 ho
                  go_wp2_with fail
                  go_roundg (s.length - (k + 1))
                  case measure => omega
                  case rel => exact ⟨k + 1, o - 1, by omega, rfl, by first | rfl | (simp; done), by omega, by first | (simp; done) | (simp; omega), rfl, HV⟩
              rw [decide_eq_false e41] at q41
              have hl := ltr_any d
              have hg := dgr_any d
              have hib := ibR d
              have HST2 : Hid (nmR s = if (ltR d || (dgR d || [46, 95, 43, 45, 47, 58].contains d)) = true then nmGo (s.drop (k + 1)) o else false) := Lib.hid (by rw [HST.out, if_neg e40, if_neg e41]; rfl)
              have t0 : decide ((o : Int) < 0) = false := decide_eq_false (by omega)
              clear HST e40 e41
              generalize ltR d = b1 at hl HST2
              generalize dgR d = b2 at hg HST2
              generalize ([46, 95, 43, 45, 47, 58] : List UInt8).contains d = b3 at hib HST2
              cases b1 with
              | true =>
                have HV : Hid (nmR s = nmGo (s.drop (k + 1)) o) := Lib.hid (by rw [HST2.out, Bool.true_or, if_pos rfl])
                clear HST2 hg hib
                go_wp2_with (go_at_call 23; refine (hl _).mono ?_; rintro r W2 ⟨rfl, rfl⟩)
                go_roundg (s.length - (k + 1))
                case measure => omega
                case rel => exact ⟨k + 1, o, by omega, rfl, rfl, by omega, by first | (simp; done) | (simp; omega), rfl, HV⟩
              | false =>
                cases b2 with
                | true =>
                  have HV : Hid (nmR s = nmGo (s.drop (k + 1)) o) := Lib.hid (by rw [HST2.out, Bool.true_or, Bool.or_true, if_pos rfl])
                  clear HST2 hib
                  go_wp2_with (first
                    | (go_at_call 23; refine (hl _).mono ?_; rintro r W2 ⟨rfl, rfl⟩)
                    | (go_at_call 24; refine (hg _).mono ?_; rintro r W2 ⟨rfl, rfl⟩))
                  go_roundg (s.length - (k + 1))
                  case measure => omega
                  case rel => exact ⟨k + 1, o, by omega, rfl, rfl, by omega, by first | (simp; done) | (simp; omega), rfl, HV⟩
                | false =>
                  cases b3 with
                  | true =>
                    have HV : Hid (nmR s = nmGo (s.drop (k + 1)) o) := Lib.hid (by rw [HST2.out, Bool.or_true, Bool.or_true, if_pos rfl])
                    clear HST2
                    go_wp2_with (first
                      | (go_at_call 23; refine (hl _).mono ?_; rintro r W2 ⟨rfl, rfl⟩)
                      | (go_at_call 24; refine (hg _).mono ?_; rintro r W2 ⟨rfl, rfl⟩)
                      | (go_at_call 25; refine (hib _).mono ?_; rintro r W2 ⟨⟨ii, rfl, hii⟩, rfl⟩; rw [Bool.not_true] at hii))
                    go_roundg (s.length - (k + 1))
                    case measure => omega
                    case rel => exact ⟨k + 1, o, by omega, rfl, rfl, by omega, by first | (simp; done) | (simp; omega), rfl, HV⟩
                  | false =>
                    have HV : Hid (nmR s = false) := Lib.hid (by rw [HST2.out]; rfl)
                    clear HST2
                    go_wp2_with (first
                      | (go_at_call 23; refine (hl _).mono ?_; rintro r W2 ⟨rfl, rfl⟩)
                      | (go_at_call 24; refine (hg _).mono ?_; rintro r W2 ⟨rfl, rfl⟩)
                      | (go_at_call 25; refine (hib _).mono ?_; rintro r W2 ⟨⟨ii, rfl, hii⟩, rfl⟩; rw [Bool.not_false] at hii))
                    go_ret
                    exact ⟨by rw [HV.out]; rfl, rfl⟩
            · have hlt' : decide ((k : Int) < (s.length : Int)) = false := by simp; omega
              have HV : Hid (nmR s = decide (o = 0)) := Lib.hid (by rw [HE.out, List.drop_eq_nil_of_le (by omega)]; rfl)
              have t0 : ((o : Int) == 0) = decide (o = 0) := by rw [Bool.eq_iff_iff]; simp
              clear HE
              go_wp2_with fail
              go_ret
              exact ⟨by rw [HV.out]; first | rfl | (rw [← t0]; rfl), rfl⟩
set_option maxRecDepth 20000 in
set_option maxHeartbeats 8000000 in
theorem partEnd_any (s : List UInt8) (p : Nat) (hp : p ≤ s.length) (w : World) (hs : s.length ≤ 1000000000) : Calls Tryd.prog 26 #[.string (bs s), .int .i64 (p : Int)] w fun e w' => e = .returned (.int .i64 ((p + pEnd (s.drop p) 0 : Nat) : Int)) ∧ w = w' := by
  have hsz : ((bs s).size : Int) = (s.length : Int) := by rw [bs_size]
  obtain ⟨R, HR⟩ : ∃ R, Hid (p + pEnd (s.drop p) 0 = R) := ⟨_, Lib.hid rfl⟩
  rw [HR.out]
  go_enter Tryd.func26, Tryd.ntmps26
  go_wp2_with fail
  go_loopg [1, 5] (s.length - p) (fun G s1 s5 wr => ∃ k o : Nat, k ≤ s.length ∧ G = s.length - k ∧ s1 = .int .i64 k ∧ s5 = .int .i64 o ∧ o ≤ k ∧ w = wr ∧ Hid (k + pEnd (s.drop k) o = R))
  case atStart => exact ⟨p, 0, hp, rfl, rfl, rfl, Nat.zero_le _, rfl, HR⟩
  case round =>
    clear HR hp
    obtain ⟨k, o, hk, rfl, rfl, rfl, hok, rfl, HE⟩ := hrel
    by_cases hlt : k < s.length
    · have HST := pEnd_step s k hlt o
      have hks : (k : Int) < ((bs s).size : Int) := by omega
      have hks2 : k < (bs s).size := by rw [bs_size]; exact hlt
      have hlt' : decide ((k : Int) < (s.length : Int)) = true := by simp; exact hlt
      have w0 : IntKind.i64.wrap ((k : Int) + 1) = (k : Int) + 1 := i64_in _ (by omega) (by omega)
      obtain ⟨d, hd0⟩ : ∃ d, d = s[k]'hlt := ⟨_, rfl⟩
      have hbb : (bs s)[k]'hks2 = d := hd0.symm
      rw [← hd0] at HST
      have HST := Lib.hid HST
      clear hd0
      obtain ⟨_, q32⟩ := byteL d 32 32 rfl
      obtain ⟨q40, _⟩ := byteL d 40 40 rfl
      obtain ⟨q41, _⟩ := byteL d 41 41 rfl
      by_cases e32 : d = 32
      · rw [decide_eq_true e32] at q32
        have HV : Hid (R = k) := Lib.hid (by rw [← HE.out, HST.out, if_pos e32]; rfl)
        clear HST e32 HE
        go_wp2_with fail
        go_ret
        exact ⟨by rw [HV.out]; rfl, rfl⟩
      rw [decide_eq_false e32] at q32
      by_cases e40 : d = 40
      · rw [decide_eq_true e40] at q40
        have HV : Hid ((k + 1) + pEnd (s.drop (k + 1)) (o + 1) = R) := Lib.hid (by rw [← HE.out, HST.out, if_neg e32, if_pos e40]; omega)
        have w1 : IntKind.i64.wrap ((o : Int) + 1) = (o : Int) + 1 := i64_in _ (by omega) (by omega)
        clear HST e40 e32 HE
        go_wp2_with fail
        go_roundg (s.length - (k + 1))
        case measure => omega
        case rel => exact ⟨k + 1, o + 1, by omega, rfl, by first | rfl | (simp; done), by first | rfl | (simp; done), by omega, rfl, HV⟩
      rw [decide_eq_false e40] at q40
      by_cases e41 : d = 41
      · rw [decide_eq_true e41] at q41
        by_cases ho : o = 0
        · subst ho
          have HV : Hid (R = k) := Lib.hid (by rw [← HE.out, HST.out, if_neg e32, if_neg e40, if_pos e41, if_pos rfl]; rfl)
          clear HST e40 e41 e32 HE
          go_wp2_with fail
          go_ret
          exact ⟨by rw [HV.out]; rfl, rfl⟩
        · have HV : Hid ((k + 1) + pEnd (s.drop (k + 1)) (o - 1) = R) := Lib.hid (by rw [← HE.out, HST.out, if_neg e32, if_neg e40, if_pos e41, if_neg ho]; omega)
          have w1 : IntKind.i64.wrap ((o : Int) - 1) = ((o - 1 : Nat) : Int) := by rw [i64_in _ (by omega) (by omega)]; omega
          have z0 : ((o : Int) == 0) = false := by simpa using ho
          clear HST e40 e41 e32 HE ho
          go_wp2_with fail
          go_roundg (s.length - (k + 1))
          case measure => omega
          case rel => exact ⟨k + 1, o - 1, by omega, rfl, by first | rfl | (simp; done), rfl, by omega, rfl, HV⟩
      rw [decide_eq_false e41] at q41
      have HV : Hid ((k + 1) + pEnd (s.drop (k + 1)) o = R) := Lib.hid (by rw [← HE.out, HST.out, if_neg e32, if_neg e40, if_neg e41]; omega)
      clear HST e40 e41 e32 HE
      go_wp2_with fail
      go_roundg (s.length - (k + 1))
      case measure => omega
      case rel => exact ⟨k + 1, o, by omega, rfl, by first | rfl | (simp; done), rfl, by omega, rfl, HV⟩
    · have hlt' : decide ((k : Int) < (s.length : Int)) = false := by simp; omega
      have HV : Hid (R = k) := Lib.hid (by rw [← HE.out, List.drop_eq_nil_of_le (by omega)]; rfl)
      clear HE
      go_wp2_with fail
      go_ret
      exact ⟨by rw [HV.out]; rfl, rfl⟩
end Go.Proofs.YtjdcegogkafmoaaDoor
