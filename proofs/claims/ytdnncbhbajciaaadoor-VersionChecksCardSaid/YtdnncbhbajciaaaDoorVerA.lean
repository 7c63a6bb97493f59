/- Walks of version's small functions. -/
import Derived.Test.YtdnncbhbajciaaaDoorBase
import Derived.Test.YtdnncbhbajciaaaDoorVerL
import Derived.Test.YtdnncbhbajciaaaDoorShelfV
namespace Go.Proofs.YtdnncbhbajciaaaDoor
open Go.RowKit
theorem toList_ne (s : ByteArray) (h : 0 < s.size) : ¬ s.toList = [] := by
  obtain ⟨⟨l⟩⟩ := s
  intro e
  have : l = [] := by simpa using e
  subst this
  exact absurd h (by decide)
theorem le_dec (c : UInt8) (n : Nat) : decide ((n : Int) ≤ (c.toNat : Int)) = decide (n ≤ c.toNat) := by simp
theorem ge_dec (c : UInt8) (n : Nat) : decide ((c.toNat : Int) ≤ (n : Int)) = decide (c.toNat ≤ n) := by simp
theorem between (c : UInt8) (a b : Nat) : (decide ((a : Int) ≤ (c.toNat : Int)) && decide ((c.toNat : Int) ≤ (b : Int))) = (decide (a ≤ c.toNat) && decide (c.toNat ≤ b)) := by rw [le_dec, ge_dec]
theorem digit_any (c : UInt8) (w : World) : Calls Tryd.prog 65 #[.int .u8 (c.toNat : Int)] w fun e w' => e = .returned (.bool (isDig c)) ∧ w = w' := by
  cases h1 : decide (48 ≤ (c.toNat : Int)) <;> cases h2 : decide ((c.toNat : Int) ≤ 57)
  all_goals
    go_enter Tryd.func65, Tryd.ntmps65
    go_wp2
    go_ret
    refine ⟨?_, rfl⟩
    simp at h1 h2
    simp [isDig]
    omega
theorem small_any (c : UInt8) (w : World) : Calls Tryd.prog 70 #[.int .u8 (c.toNat : Int)] w fun e w' => e = .returned (.bool (isSmall c)) ∧ w = w' := by
  cases h1 : decide (97 ≤ (c.toNat : Int)) <;> cases h2 : decide ((c.toNat : Int) ≤ 122)
  all_goals
    go_enter Tryd.func70, Tryd.ntmps70
    go_wp2
    go_ret
    refine ⟨?_, rfl⟩
    simp at h1 h2
    simp [isSmall]
    omega
theorem letter_any (c : UInt8) (w : World) : Calls Tryd.prog 82 #[.int .u8 (c.toNat : Int)] w fun e w' => e = .returned (.bool (isLet c)) ∧ w = w' := by
  cases hs : isSmall c
  · cases h1 : decide (65 ≤ (c.toNat : Int)) <;> cases h2 : decide ((c.toNat : Int) ≤ 90)
    all_goals
      go_enter Tryd.func82, Tryd.ntmps82
      go_wp2_with fail
      refine (small_any c _).mono ?_
      rintro e w1 ⟨rfl, rfl⟩
      rw [hs]
      go_wp2
      go_ret
      refine ⟨?_, rfl⟩
      simp at h1 h2
      simp [isLet, hs, isBig]
      omega
  · go_enter Tryd.func82, Tryd.ntmps82
    go_wp2_with fail
    refine (small_any c _).mono ?_
    rintro e w1 ⟨rfl, rfl⟩
    rw [hs]
    go_wp2
    go_ret
    exact ⟨by simp [isLet, hs], rfl⟩
theorem enters {P : Program} {F : Nat} {fn : Func} (hf : P.funcs[F]? = some fn) (hn : (fn.name == "runtime.NumGoroutine") = false) (hb : fn.body.isNone = false) : ∀ (args : Array Value) (w : World), (callFunc F args).run P w = .ok (.enter F args) w := by
  intro args w
  have hn' : ¬ fn.name = "runtime.NumGoroutine" := by simpa using hn
  have hb' : ¬ fn.body = none := fun e => by rw [e] at hb; cases hb
  simp [callFunc, hf, hn', hb']
theorem tw_next (p : UInt8 → Bool) (l : List UInt8) (k : Nat) (hk : k < l.length) (h : k ≤ (l.takeWhile p).length) :
    (p l[k] = true → k + 1 ≤ (l.takeWhile p).length) ∧ (p l[k] = false → (l.takeWhile p).length = k) := by
  induction l generalizing k with
  | nil => simp at hk
  | cons c r ih =>
    cases k with
    | zero =>
      refine ⟨fun hp => ?_, fun hp => ?_⟩
      · have hp : p c = true := hp
        simp [List.takeWhile_cons, hp]
      · have hp : p c = false := hp
        simp [List.takeWhile_cons, hp]
    | succ k =>
      have hc : p c = true := by
        cases hc : p c with
        | true => rfl
        | false => simp [List.takeWhile_cons, hc] at h
      rw [List.takeWhile_cons, if_pos hc, List.length_cons] at h ⊢
      have := ih k (by simpa using hk) (by omega)
      refine ⟨fun hp => by have := this.1 hp; omega, fun hp => by have := this.2 hp; omega⟩
set_option maxRecDepth 20000 in
set_option maxHeartbeats 1000000 in
theorem run_any (s : ByteArray) (F : Nat) (cap : Array Value) (p : UInt8 → Bool) (w : World) (hs : s.size ≤ 1000000000000)
    (hcf : ∀ (args : Array Value) (w : World), (callFunc F args).run Tryd.prog w = .ok (.enter F args) w)
    (hp : ∀ c : UInt8, Calls Tryd.prog F (#[.int .u8 (c.toNat : Int)] ++ cap) w fun e w' => e = .returned (.bool (p c)) ∧ w = w') :
    Calls Tryd.prog 68 #[.string s, .func (.func F) #[] cap] w fun e w' => e = .returned (.int .i64 ((s.data.toList.takeWhile p).length : Int)) ∧ w = w' := by
  have HP := Lib.hid hp
  clear hp
  go_enter Tryd.func68, Tryd.ntmps68
  go_wp2
  go_loop [5] (fun i => ∃ k : Nat, k ≤ s.size ∧ i = .int .i64 k ∧ Hid (k ≤ (s.data.toList.takeWhile p).length)) (fun i => s.size - (intOf i).toNat)
  case atStart => exact ⟨0, Nat.zero_le _, rfl, Lib.hid (Nat.zero_le _)⟩
  case round =>
    obtain ⟨k, hk, rfl, HK⟩ := hrel
    by_cases hlt : k < s.size
    · have hn := tw_next p s.data.toList k (by simpa using hlt) HK.out
      cases hc : p s[k] with
      | true =>
        have HK2 := Lib.hid (hn.1 hc)
        clear hn
        go_wp2_with fail
        refine (HP.out s[k]).mono ?_
        rintro e w1 ⟨rfl, rfl⟩
        rw [hc]
        go_wp2
        go_round
        case rel => exact ⟨k + 1, by omega, by go_num, HK2⟩
        case measure => simp [intOf]; omega
      | false =>
        have HK2 := Lib.hid (hn.2 hc)
        clear hn
        go_wp2_with fail
        refine (HP.out s[k]).mono ?_
        rintro e w1 ⟨rfl, rfl⟩
        rw [hc]
        go_wp2
        go_ret
        exact ⟨by rw [HK2.out]; rfl, rfl⟩
    · have HK2 : Hid ((s.data.toList.takeWhile p).length = k) := Lib.hid (by
        have h1 := (List.takeWhile_sublist p (l := s.data.toList)).length_le
        have h2 := HK.out
        simp at h1
        omega)
      go_wp2
      go_ret
      exact ⟨by rw [HK2.out]; rfl, rfl⟩
end Go.Proofs.YtdnncbhbajciaaaDoor
