/- Walks of drayageref15's Name, sign, Op. -/
import Derived.Test.YtjdcegogkafmoaaDoorRdM
namespace Go.Proofs.YtjdcegogkafmoaaDoor
open Go.RowKit
theorem frR_in {c : UInt8} (h : frR c = true) : c ≠ 40 ∧ c ≠ 41 ∧ inR c = true := by
  refine ⟨?_, ?_, ?_⟩
  · rintro rfl; exact absurd h (by decide)
  · rintro rfl; exact absurd h (by decide)
  · unfold frR at h
    unfold inR
    rw [Bool.or_eq_true, Bool.or_eq_true] at h ⊢
    rcases h with h | h | h
    · exact .inl h
    · exact .inr (by rw [h]; exact .inl rfl)
    · have : c = 47 := of_decide_eq_true h
      subst this
      exact .inr (by decide)
theorem inR_of {c : UInt8} (h : frR c = false) : inR c = (decide (c = 46) || (decide (c = 95) || (decide (c = 43) || (decide (c = 45) || decide (c = 58))))) := by
  unfold frR at h
  unfold inR
  rw [Bool.or_eq_false_iff, Bool.or_eq_false_iff] at h
  obtain ⟨h1, h2, h3⟩ := h
  have h47 : c ≠ 47 := of_decide_eq_false h3
  rw [h1, h2, Bool.false_or, Bool.false_or, Bool.eq_iff_iff]
  simp [h47]
/-- Names, one byte on: k = 0 asks more. -/
def nF (s : List UInt8) (k o : Nat) : Bool := if k = 0 ∧ frR (s.headD 0) = false then false else nmGo (s.drop k) o
theorem nF_zero (s : List UInt8) (h1 : s ≠ []) (h2 : s.length ≤ 64) : nmR s = nF s 0 0 := by
  cases s with
  | nil => exact absurd rfl h1
  | cons c t =>
    show (if 64 < (c :: t).length then false else if frR c = true then nmGo (c :: t) 0 else false) = _
    have e0 : (c :: t).headD 0 = c := rfl
    have e1 : (c :: t).drop 0 = c :: t := rfl
    rw [if_neg (by omega), nF, e0, e1]
    by_cases h : frR c = true
    · rw [if_pos h, if_neg (fun e => by rw [h] at e; exact absurd e.2 (by decide))]
    · rw [if_neg h, if_pos ⟨rfl, by simpa using h⟩]
theorem nF_suc (s : List UInt8) (k o : Nat) : nF s (k + 1) o = nmGo (s.drop (k + 1)) o := by
  rw [nF, if_neg (by omega)]
theorem nF_step (s : List UInt8) (k o : Nat) (h : k < s.length) : nF s k o = if frR s[k] = true then nF s (k + 1) o else if k = 0 then false else if s[k] = 40 then nF s (k + 1) (o + 1) else if s[k] = 41 then (if o = 0 then false else nF s (k + 1) (o - 1)) else if inR s[k] = true then nF s (k + 1) o else false := by
  simp only [nF_suc]
  by_cases hf : frR s[k] = true
  · obtain ⟨h1, h2, h3⟩ := frR_in hf
    rw [if_pos hf, nF, if_neg (fun ⟨e, h4⟩ => by
      subst e
      have : s.headD 0 = s[0] := by cases s with
        | nil => simp at h
        | cons _ _ => rfl
      rw [this, hf] at h4
      exact absurd h4 (by decide)), nmGo_step s k h, if_neg h1, if_neg h2, if_pos h3]
  · rw [if_neg hf]
    by_cases h0 : k = 0
    · subst h0
      have : s.headD 0 = s[0] := by cases s with
        | nil => simp at h
        | cons _ _ => rfl
      rw [nF, if_pos ⟨rfl, by rw [this]; simpa using hf⟩, if_pos rfl]
    · rw [nF, if_neg (fun e => h0 e.1), if_neg h0, nmGo_step s k h]
theorem nF_end (s : List UInt8) (o : Nat) (h : s ≠ []) : nF s s.length o = decide (o = 0) := by
  have : s.length ≠ 0 := fun e => h (List.length_eq_zero_iff.1 e)
  rw [nF, if_neg (fun e => this e.1), List.drop_length, nmGo]
set_option maxRecDepth 20000 in
set_option maxHeartbeats 8000000 in
theorem rname_any (s : List UInt8) (w : World) (hs : s.length ≤ 1000000000) : Calls Tryd.prog 40 #[.string (bs s)] w fun e w' => e = .returned (.bool (nmR s)) ∧ w = w' := by
  have hz : ((bs s).size : Int) = (s.length : Int) := by rw [bs_size]
  by_cases he : s = []
  · subst he
    have hz : (bs []).size = 0 := rfl
    go_enter Tryd.func40, Tryd.ntmps40
    go_wp2_with fail
    go_ret
    exact ⟨rfl, rfl⟩
  by_cases h64 : 64 < s.length
  · have t1 : decide ((s.length : Int) < 1) = false := decide_eq_false (by omega)
    have t2 : decide (64 < (s.length : Int)) = true := decide_eq_true (by omega)
    have HR : Hid (nmR s = false) := Lib.hid (by
      cases s with
      | nil => rfl
      | cons c t =>
        show (if 64 < (c :: t).length then false else if frR c = true then nmGo (c :: t) 0 else false) = _
        rw [if_pos h64])
    clear h64 he hs
    go_enter Tryd.func40, Tryd.ntmps40
    go_wp2_with fail
    go_ret
    exact ⟨by rw [HR.out]; rfl, rfl⟩
  · have hlen : 0 < s.length := List.length_pos_iff.2 he
    have t1 : decide ((s.length : Int) < 1) = false := decide_eq_false (by omega)
    have t2 : decide (64 < (s.length : Int)) = false := decide_eq_false (by omega)
    have HR := Lib.hid (nF_zero s he (by omega))
    have HN := Lib.hid he
    have hln : s.length ≤ 64 := by omega
    clear h64 he hs
    go_enter Tryd.func40, Tryd.ntmps40
    go_wp2_with fail
    clear t1 t2
    go_loopg [3, 4] s.length (fun G s3 s4 wr => ∃ k o : Nat, k ≤ s.length ∧ G = s.length - k ∧ s3 = .int .i64 o ∧ o ≤ k ∧ s4 = .int .i64 k ∧ w = wr ∧ Hid (nmR s = nF s k o))
    case atStart => exact ⟨0, 0, Nat.zero_le _, rfl, rfl, Nat.zero_le _, rfl, rfl, HR⟩
    case round =>
      clear HR
      obtain ⟨k, o, hk, rfl, rfl, hok, rfl, rfl, HE⟩ := hrel
      by_cases hlt : k < s.length
      · have hks : (k : Int) < ((bs s).size : Int) := by omega
        have hks2 : k < (bs s).size := by rw [bs_size]; exact hlt
        have hlt' : decide ((k : Int) < (s.length : Int)) = true := by simp; exact hlt
        obtain ⟨b, hb⟩ : ∃ b, b = s[k]'hlt := ⟨_, rfl⟩
        have HST : Hid (nmR s = if frR b = true then nF s (k + 1) o else if k = 0 then false else if b = 40 then nF s (k + 1) (o + 1) else if b = 41 then (if o = 0 then false else nF s (k + 1) (o - 1)) else if inR b = true then nF s (k + 1) o else false) := Lib.hid (by rw [HE.out, nF_step s k o hlt, hb])
        have hbb : (bs s)[k]'hks2 = b := hb.symm
        have w0 : IntKind.i64.wrap ((k : Int) + 1) = (k : Int) + 1 := i64_in _ (by omega) (by omega)
        clear hb HE
        go_upto_region 8 with fail
        clear hbb
        go_cut [48] (fun s48 wx => s48 = .bool (frR b) ∧ w = wx)
        case first =>
          by_cases e3 : b = 47
          · subst e3
            go_wp2_with fail
            go_meet
            exact ⟨rfl, rfl⟩
          have q3 : ((b.toNat : Int) == 47) = false := by rw [show (47 : Int) = ((47 : UInt8).toNat : Int) from rfl, beq_byte]; simpa using e3
          have HF : Hid (frR b = (ltR b || dgR b)) := Lib.hid (by rw [frR]; simp [e3])
          clear e3
          have HG : Hid (ltR b = ((decide ((97 : Int) ≤ b.toNat) && decide ((b.toNat : Int) ≤ 122)) || (decide ((65 : Int) ≤ b.toNat) && decide ((b.toNat : Int) ≤ 90)))) := Lib.hid (by
            rw [ltR, Bool.eq_iff_iff]; simp; omega)
          have HD : Hid (dgR b = (decide ((48 : Int) ≤ b.toNat) && decide ((b.toNat : Int) ≤ 57))) := Lib.hid (by
            rw [dgR, Bool.eq_iff_iff]; simp; omega)
          cases h1 : decide ((97 : Int) ≤ b.toNat) <;> cases h2 : decide ((b.toNat : Int) ≤ 122) <;> cases h3 : decide ((65 : Int) ≤ b.toNat) <;> cases h4 : decide ((b.toNat : Int) ≤ 90) <;> cases h5 : decide ((48 : Int) ≤ b.toNat) <;> cases h6 : decide ((b.toNat : Int) ≤ 57)
          all_goals first
            | (exfalso; simp at h1 h2 h3 h4 h5 h6; omega)
            | (rw [h1, h2, h3, h4] at HG
               rw [h5, h6] at HD
               go_wp2_with fail
               go_meet
               exact ⟨by rw [HF.out, HG.out, HD.out]; rfl, rfl⟩)
        case rest =>
          obtain ⟨rfl, rfl⟩ := hcut
          cases hf : frR b with
          | true =>
            have HV : Hid (nmR s = nF s (k + 1) o) := Lib.hid (by rw [HST.out, if_pos hf])
            clear HST hf
            go_wp2_with fail
            go_roundg (s.length - (k + 1))
            case measure => omega
            case rel => exact ⟨k + 1, o, by omega, rfl, by first | rfl | (simp; done), by omega, by first | (simp; done) | (simp; omega), rfl, HV⟩
          | false =>
            have HST2 : Hid (nmR s = if k = 0 then false else if b = 40 then nF s (k + 1) (o + 1) else if b = 41 then (if o = 0 then false else nF s (k + 1) (o - 1)) else if inR b = true then nF s (k + 1) o else false) := Lib.hid (by rw [HST.out, if_neg (by rw [hf]; simp)])
            have HIN := Lib.hid (inR_of hf)
            clear HST hf
            by_cases h0 : k = 0
            · have h0b : ((k : Int) == 0) = true := by simpa using h0
              have HX : Hid (nmR s = false) := Lib.hid (by rw [HST2.out, if_pos h0])
              clear h0 HST2
              go_wp2_with fail
              go_ret
              exact ⟨by rw [HX.out]; rfl, rfl⟩
            · have h0b : ((k : Int) == 0) = false := by simpa using h0
              obtain ⟨q40, _⟩ := byteL b 40 40 rfl
              obtain ⟨q41, _⟩ := byteL b 41 41 rfl
              by_cases e40 : b = 40
              · rw [decide_eq_true e40] at q40
                have HV : Hid (nmR s = nF s (k + 1) (o + 1)) := Lib.hid (by rw [HST2.out, if_neg h0, if_pos e40])
                have w1 : IntKind.i64.wrap ((o : Int) + 1) = (o : Int) + 1 := i64_in _ (by omega) (by omega)
                clear HST2 e40 h0
                go_wp2_with fail
                go_roundg (s.length - (k + 1))
                case measure => omega
                case rel => exact ⟨k + 1, o + 1, by omega, rfl, by first | rfl | (simp; done), by omega, by first | (simp; done) | (simp; omega), rfl, HV⟩
              rw [decide_eq_false e40] at q40
              by_cases e41 : b = 41
              · rw [decide_eq_true e41] at q41
                by_cases ho : o = 0
                · subst ho
                  have HV : Hid (nmR s = false) := Lib.hid (by rw [HST2.out, if_neg h0, if_neg e40, if_pos e41, if_pos rfl])
                  have w1 : IntKind.i64.wrap (-1) = -1 := by decide
                  clear HST2 e40 e41 h0
                  go_wp2_with fail
                  go_ret
                  exact ⟨by rw [HV.out]; rfl, rfl⟩
                · have HV : Hid (nmR s = nF s (k + 1) (o - 1)) := Lib.hid (by rw [HST2.out, if_neg h0, if_neg e40, if_pos e41, if_neg ho])
                  have w1 : IntKind.i64.wrap ((o : Int) - 1) = ((o - 1 : Nat) : Int) := by rw [i64_in _ (by omega) (by omega)]; omega
                  have t0 : decide (((o - 1 : Nat) : Int) < 0) = false := decide_eq_false (by omega)
                  clear HST2 e40 e41 ho h0
                  go_wp2_with fail
                  go_roundg (s.length - (k + 1))
                  case measure => omega
                  case rel => exact ⟨k + 1, o - 1, by omega, rfl, by first | rfl | (simp; done), by omega, by first | (simp; done) | (simp; omega), rfl, HV⟩
              rw [decide_eq_false e41] at q41
              have HST3 : Hid (nmR s = if (decide (b = 46) || (decide (b = 95) || (decide (b = 43) || (decide (b = 45) || decide (b = 58))))) = true then nF s (k + 1) o else false) := Lib.hid (by rw [HST2.out, if_neg h0, if_neg e40, if_neg e41, HIN.out])
              clear HST2 e40 e41 h0 HIN
              obtain ⟨_, n46⟩ := byteL b 46 46 rfl
              obtain ⟨_, n95⟩ := byteL b 95 95 rfl
              obtain ⟨_, n43⟩ := byteL b 43 43 rfl
              obtain ⟨_, n45⟩ := byteL b 45 45 rfl
              obtain ⟨_, n58⟩ := byteL b 58 58 rfl
              generalize decide (b = 46) = b1 at n46 HST3
              generalize decide (b = 95) = b2 at n95 HST3
              generalize decide (b = 43) = b3 at n43 HST3
              generalize decide (b = 45) = b4 at n45 HST3
              generalize decide (b = 58) = b5 at n58 HST3
              cases b1 with
              | true =>
                have HV : Hid (nmR s = nF s (k + 1) o) := Lib.hid (by rw [HST3.out]; rfl)
                clear HST3
                go_wp2_with fail
                go_roundg (s.length - (k + 1))
                case measure => omega
                case rel => exact ⟨k + 1, o, by omega, rfl, by first | rfl | (simp; done), by omega, by first | (simp; done) | (simp; omega), rfl, HV⟩
              | false =>
              cases b2 with
              | true =>
                have HV : Hid (nmR s = nF s (k + 1) o) := Lib.hid (by rw [HST3.out]; rfl)
                clear HST3
                go_wp2_with fail
                go_roundg (s.length - (k + 1))
                case measure => omega
                case rel => exact ⟨k + 1, o, by omega, rfl, by first | rfl | (simp; done), by omega, by first | (simp; done) | (simp; omega), rfl, HV⟩
              | false =>
              cases b3 with
              | true =>
                have HV : Hid (nmR s = nF s (k + 1) o) := Lib.hid (by rw [HST3.out]; rfl)
                clear HST3
                go_wp2_with fail
                go_roundg (s.length - (k + 1))
                case measure => omega
                case rel => exact ⟨k + 1, o, by omega, rfl, by first | rfl | (simp; done), by omega, by first | (simp; done) | (simp; omega), rfl, HV⟩
              | false =>
              cases b4 with
              | true =>
                have HV : Hid (nmR s = nF s (k + 1) o) := Lib.hid (by rw [HST3.out]; rfl)
                clear HST3
                go_wp2_with fail
                go_roundg (s.length - (k + 1))
                case measure => omega
                case rel => exact ⟨k + 1, o, by omega, rfl, by first | rfl | (simp; done), by omega, by first | (simp; done) | (simp; omega), rfl, HV⟩
              | false =>
              cases b5 with
              | true =>
                have HV : Hid (nmR s = nF s (k + 1) o) := Lib.hid (by rw [HST3.out]; rfl)
                clear HST3
                go_wp2_with fail
                go_roundg (s.length - (k + 1))
                case measure => omega
                case rel => exact ⟨k + 1, o, by omega, rfl, by first | rfl | (simp; done), by omega, by first | (simp; done) | (simp; omega), rfl, HV⟩
              | false =>
                have HV : Hid (nmR s = false) := Lib.hid (by rw [HST3.out]; rfl)
                clear HST3
                go_wp2_with fail
                go_ret
                exact ⟨by rw [HV.out]; rfl, rfl⟩
      · have : k = s.length := by omega
        subst this
        have hlt' : decide ((s.length : Int) < (s.length : Int)) = false := by simp
        have HV : Hid (nmR s = decide (o = 0)) := Lib.hid (by rw [HE.out, nF_end s o HN.out])
        have ho : ((o : Int) == 0) = decide (o = 0) := by rw [Bool.eq_iff_iff]; simp
        clear hlt HE
        go_wp2_with fail
        go_ret
        exact ⟨by rw [HV.out]; rfl, rfl⟩
def signV (k : Nat) : List UInt8 := signsR.getD k []
theorem rsign_any (k : Nat) (w : World) (hk : k < 6) : Calls Tryd.prog 45 #[.int .i64 (k : Int)] w fun e w' => e = .returned (.string (bs (signV k))) ∧ Below w.heap.size w w' := by
  have HV : Hid (∀ i, i < 6 → (#[Value.string ⟨#[]⟩, .string ⟨#[60]⟩, .string ⟨#[60, 61]⟩, .string ⟨#[61]⟩, .string ⟨#[62, 61]⟩, .string ⟨#[62]⟩] : Array Value)[i]? = some (.string (bs (signV i)))) := Lib.hid (fun i hi => by
    obtain rfl | rfl | rfl | rfl | rfl | rfl : i = 0 ∨ i = 1 ∨ i = 2 ∨ i = 3 ∨ i = 4 ∨ i = 5 := by omega
    all_goals rfl)
  have hB := Blk.new w 9 #[.string ⟨#[]⟩, .string ⟨#[60]⟩, .string ⟨#[60, 61]⟩, .string ⟨#[61]⟩, .string ⟨#[62, 61]⟩, .string ⟨#[62]⟩]
  have hc : (w.alloc (.cells #[.string ⟨#[]⟩, .string ⟨#[60]⟩, .string ⟨#[60, 61]⟩, .string ⟨#[61]⟩, .string ⟨#[62, 61]⟩, .string ⟨#[62]⟩] 9)).cell? ⟨w.heap.size, k, none⟩ = some (.string (bs (signV k))) := by
    rw [hB.cell]; exact HV.out k hk
  go_enter Tryd.func45, Tryd.ntmps45
  go_wp2_with fail
  go_ret
  exact ⟨rfl, (Below.refl _ _).alloc (Nat.le_refl _) _⟩
theorem relR_one (s : List UInt8) : relR s = relL (signsR.drop 1) 1 s := by
  cases s with
  | nil => rfl
  | cons c t => rfl
theorem relL_step (s : List UInt8) (k : Nat) (h0 : 1 ≤ k) (h : k < 6) : relL (signsR.drop k) k s = if signV k = s then k else relL (signsR.drop (k + 1)) (k + 1) s := by
  obtain rfl | rfl | rfl | rfl | rfl : k = 1 ∨ k = 2 ∨ k = 3 ∨ k = 4 ∨ k = 5 := by omega
  all_goals rfl
set_option maxRecDepth 20000 in
set_option maxHeartbeats 4000000 in
theorem rop_any (s : List UInt8) (w : World) : Calls Tryd.prog 41 #[.string (bs s)] w fun e w' => e = .returned (.int .i64 (relR s : Nat)) ∧ Below w.heap.size w w' := by
  have HR := Lib.hid (relR_one s)
  go_enter Tryd.func41, Tryd.ntmps41
  go_wp2_with fail
  go_loopg [3] 6 (fun G s3 wx => ∃ k : Nat, 1 ≤ k ∧ k ≤ 6 ∧ G = 7 - k ∧ s3 = .int .i64 k ∧ Below w.heap.size w wx ∧ Hid (relR s = relL (signsR.drop k) k s))
  case atStart => exact ⟨1, by omega, by omega, by omega, rfl, Below.refl _ _, HR⟩
  case round =>
    obtain ⟨k, hk1, hk, rfl, rfl, hb, HE⟩ := hrel
    clear HR
    by_cases hlt : k < 6
    · have HS := Lib.hid (HE.out.trans (relL_step s k hk1 hlt))
      clear HE
      have hlt' : decide ((k : Int) < 6) = true := by simp; omega
      go_wp2_with fail
      refine (rsign_any k _ hlt).mono ?_
      rintro e w1 ⟨rfl, hb1⟩
      have q1 := hb.trans (hb1.mono hb.size)
      have es := eqS2 (signV k) s
      by_cases hc : signV k = s
      · have HV : Hid (relR s = k) := Lib.hid (by rw [HS.out, if_pos hc])
        rw [decide_eq_true hc] at es
        clear hc HS
        go_wp2_with fail
        go_ret
        exact ⟨by rw [HV.out]; rfl, q1⟩
      · have HV : Hid (relR s = relL (signsR.drop (k + 1)) (k + 1) s) := Lib.hid (by rw [HS.out, if_neg hc])
        rw [decide_eq_false hc] at es
        clear hc HS
        go_wp2_with fail
        go_roundg (7 - (k + 1))
        case measure => omega
        case rel => exact ⟨k + 1, by omega, by omega, rfl, by first | (simp; done) | (simp; omega), q1, HV⟩
    · have : k = 6 := by omega
      subst this
      have HV : Hid (relR s = 0) := HE
      clear HE hlt
      go_wp2_with fail
      go_ret
      exact ⟨by rw [HV.out]; rfl, hb⟩
end Go.Proofs.YtjdcegogkafmoaaDoor
