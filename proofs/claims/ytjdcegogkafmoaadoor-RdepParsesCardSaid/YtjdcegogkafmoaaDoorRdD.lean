/- The walk of rdep.parts. -/
import Derived.Test.YtjdcegogkafmoaaDoorRdC
import Derived.Test.YtjdcegogkafmoaaDoorOpn
namespace Go.Proofs.YtjdcegogkafmoaaDoor
open Go.RowKit
/-- A part of a text, and its place. -/
def Rprt : Rel (List UInt8 × Nat) := fun _ _ cs x => cs = [.string (bs x.1), .int .i64 (x.2 : Int)]
theorem good_prt : Good 2 Rprt := ⟨fun h _ => h, fun h _ => h, (fun h => by subst h; rfl), (fun h u hu => by subst h; simp at hu; rcases hu with rfl | rfl <;> rfl)⟩
theorem info_prt : (Tryd.prog.info? 48).map (fun i => (i.zero, i.size, i.bytes)) = some (some (.agg #[.string ⟨#[]⟩, .int .i64 0]), 2, 24) := by kernel_rfl
theorem own_ge {α : Type} {sz : Nat} {R : Rel α} {e : TypeId} {base : Nat} {X : Nat → Prop} {w : World} {v : Value} {l : List α} (h : OwnL sz R e base X w v l) {k : Nat} (hk : v.ownBlock = some k) : base ≤ k := by
  obtain ⟨css, ho, _⟩ := h
  exact (ho.lt k hk).1
theorem ext_midR (s : List UInt8) (p n : Nat) : (bs s).extract p (p + n) = bs ((s.drop p).take n) := bs_of _ _ (by
  rw [ByteArray.data_extract]
  simp only [bs, Array.toList_extract, List.extract_eq_take_drop]
  congr 1
  omega)
set_option maxRecDepth 20000 in
set_option maxHeartbeats 8000000 in
theorem parts_any (s : List UInt8) (w : World) (hs : s.length ≤ 1000000) : Calls Tryd.prog 14 #[.string (bs s)] w fun e w' => (∃ v, e = .returned v ∧ OwnL 2 Rprt 48 w.heap.size nowhere w' v (tkR s 0)) ∧ Below w.heap.size w w' := by
  have hsz : ((bs s).size : Int) = (s.length : Int) := by rw [bs_size]
  obtain ⟨R, HR⟩ : ∃ R, Hid (tkR s 0 = R) := ⟨_, Lib.hid rfl⟩
  rw [HR.out]
  go_enter Tryd.func14, Tryd.ntmps14
  go_wp2_with fail
  go_loopg [3, 4] s.length (fun G s3 s4 wr => ∃ (acc : List (List UInt8 × Nat)) (p : Nat), p ≤ s.length ∧ G = s.length - p ∧ s4 = .int .i64 p ∧ acc.length ≤ p ∧ OwnL 2 Rprt 48 w.heap.size nowhere wr s3 acc ∧ Below w.heap.size w wr ∧ Hid (R = acc ++ tkR s p))
  case atStart => exact ⟨[], 0, Nat.zero_le _, rfl, rfl, Nat.zero_le _, OwnL.nil _ _ _ _ _ _, Below.refl _ _, Lib.hid (by rw [← HR.out]; rfl)⟩
  case round =>
    clear HR
    obtain ⟨acc, p, hp, rfl, rfl, hacc, hown, hbw, HE⟩ := hrel
    obtain ⟨A3, c3, rfl⟩ := hown.form
    by_cases hlt : p < s.length
    · have hks : (p : Int) < ((bs s).size : Int) := by omega
      have hks2 : p < (bs s).size := by rw [bs_size]; exact hlt
      have hlt' : decide ((p : Int) < (s.length : Int)) = true := by simp; exact hlt
      have HST := Lib.hid (HE.out.trans (by rw [tkR_at s p hlt]))
      have hpe := pEnd_le (s.drop p) 0
      rw [List.length_drop] at hpe
      have hpen := partEnd_any s p hp
      have hx2 := ext_midR s p (pEnd (s.drop p) 0)
      obtain ⟨d, hd0⟩ : ∃ d, d = s[p]'hlt := ⟨_, rfl⟩
      have hbb : (bs s)[p]'hks2 = d := hd0.symm
      rw [← hd0] at HST
      have hppos : ¬ d = 32 → ¬ (d = 40 ∨ d = 41) → 1 ≤ pEnd (s.drop p) 0 := fun h1 h2 => by
        rw [List.drop_eq_getElem_cons hlt, ← hd0]
        exact pEnd_pos _ _ h1 (fun e => h2 (.inl e)) (fun e => h2 (.inr e))
      have hx1 : (bs s).extract p (p + 1) = bs [d] := by
        have := ext_midR s p 1
        rw [show (s.drop p).take 1 = [d] by rw [List.drop_eq_getElem_cons hlt, hd0]; rfl] at this
        exact this
      clear hd0 HE
      obtain ⟨N, HN⟩ : ∃ N, Hid (pEnd (s.drop p) 0 = N) := ⟨_, Lib.hid rfl⟩
      rw [HN.out] at HST hppos hx2 hpe hpen
      obtain ⟨q32, _⟩ := byteL d 32 32 rfl
      obtain ⟨_, q40⟩ := byteL d 40 40 rfl
      obtain ⟨_, q41⟩ := byteL d 41 41 rfl
      have w1 : IntKind.i64.wrap ((p : Int) + 1) = ((p + 1 : Nat) : Int) := by rw [i64_in _ (by omega) (by omega)]; omega
      by_cases e32 : d = 32
      · rw [decide_eq_true e32] at q32
        have HV : Hid (R = acc ++ tkR s (p + 1)) := Lib.hid (by rw [HST.out, if_pos e32])
        clear HST e32 hppos
        go_wp2_with fail
        go_roundg (s.length - (p + 1))
        case measure => omega
        case rel => exact ⟨acc, p + 1, by omega, rfl, rfl, by omega, hown, hbw, HV⟩
      rw [decide_eq_false e32] at q32
      by_cases eB : d = 40 ∨ d = 41
      · have HV : Hid (R = (acc ++ [([d], p)]) ++ tkR s (p + 1)) := Lib.hid (by rw [HST.out, if_neg e32, if_pos eB, List.append_assoc]; rfl)
        have hq : (decide (d = 40) = true) ∨ (decide (d = 40) = false ∧ decide (d = 41) = true) := by
          by_cases e : d = 40
          · exact .inl (decide_eq_true e)
          · exact .inr ⟨decide_eq_false e, decide_eq_true (eB.resolve_left e)⟩
        have hx3 : (bs s).extract p (p + 1) = bs [d] := hx1
        clear HST e32 hppos eB hx2 hpen hx1
        have b1 : (p : Int) ≤ ((p + 1 : Nat) : Int) := by omega
        have b2 : ((p + 1 : Nat) : Int) ≤ ((bs s).size : Int) := by omega
        have b3 : p + 1 ≤ (bs s).size := by rw [bs_size]; omega
        rcases hq with hq | ⟨hq, hq1⟩
        · rw [hq] at q40
          clear hq
          go_wp2_with (at_builtin; refine wpList_appendL (l := acc) good_prt rfl _ _ _ _ _ 24 rfl Tryd.underlying42 info_prt rfl (by omega) w.heap.size rfl hown [.string (bs [d]), .int .i64 (p : Int)] ([d], p) rfl rfl (by omega) (by omega) hbw.size (fun k hk hk2 => hk2) ?_; intro v5 w5 hown5 hk5)
          have hb5 := hbw.trans (hk5.below hbw.size fun k _ e => own_ge hown e)
          go_roundg (s.length - (p + 1))
          case measure => omega
          case rel => exact ⟨acc ++ [([d], p)], p + 1, by omega, rfl, rfl, by simp; omega, hown5, hb5, HV⟩
        · rw [hq] at q40
          rw [hq1] at q41
          clear hq hq1
          go_wp2_with (at_builtin; refine wpList_appendL (l := acc) good_prt rfl _ _ _ _ _ 24 rfl Tryd.underlying42 info_prt rfl (by omega) w.heap.size rfl hown [.string (bs [d]), .int .i64 (p : Int)] ([d], p) rfl rfl (by omega) (by omega) hbw.size (fun k hk hk2 => hk2) ?_; intro v5 w5 hown5 hk5)
          have hb5 := hbw.trans (hk5.below hbw.size fun k _ e => own_ge hown e)
          go_roundg (s.length - (p + 1))
          case measure => omega
          case rel => exact ⟨acc ++ [([d], p)], p + 1, by omega, rfl, rfl, by simp; omega, hown5, hb5, HV⟩
      · have hn1 := hppos e32 eB
        have HV0 : Hid (R = (acc ++ [((s.drop p).take N, p)]) ++ tkR s (p + N)) := Lib.hid (by rw [HST.out, if_neg e32, if_neg eB, List.append_assoc]; rfl)
        rw [decide_eq_false (fun e => eB (.inl e))] at q40
        rw [decide_eq_false (fun e => eB (.inr e))] at q41
        obtain ⟨tx, HTX⟩ : ∃ x, Hid ((s.drop p).take N = x) := ⟨_, Lib.hid rfl⟩
        rw [HTX.out] at HV0 hx2
        obtain ⟨q, HQ⟩ : ∃ q, Hid (q = p + N) := ⟨_, Lib.hid rfl⟩
        rw [← HQ.out] at HV0 hx2
        have hpen2 : ∀ W, Calls Tryd.prog 26 #[.string (bs s), .int .i64 (p : Int)] W fun e w' => e = .returned (.int .i64 (q : Int)) ∧ W = w' := fun W => by
          have := hpen W (by omega)
          rw [← HQ.out] at this
          exact this
        have hq1 := HQ.out
        have b1 : (p : Int) ≤ (q : Int) := by omega
        have b2 : (q : Int) ≤ ((bs s).size : Int) := by omega
        have b3 : q ≤ (bs s).size := by rw [bs_size]; omega
        have b4 : p ≤ q := by omega
        have hmz : s.length - q < s.length - p := by omega
        have hqs : q ≤ s.length := by omega
        have hqa : acc.length + 1 ≤ q := by omega
        clear HST e32 hppos eB hx1 hpen hq1 hpe hn1 b2
        go_wp2_with (first
          | (go_at_call 26; refine (hpen2 _).mono ?_; rintro r W2 ⟨rfl, rfl⟩)
          | (at_builtin; refine wpList_appendL (l := acc) good_prt rfl _ _ _ _ _ 24 rfl Tryd.underlying42 info_prt rfl (by omega) w.heap.size rfl hown [.string (bs tx), .int .i64 (p : Int)] (tx, p) rfl rfl (by omega) (by omega) hbw.size (fun k hk hk2 => hk2) ?_; intro v5 w5 hown5 hk5))
        have hb5 := hbw.trans (hk5.below hbw.size fun k _ e => own_ge hown e)
        go_roundg (s.length - q)
        case measure => omega
        case rel => exact ⟨acc ++ [(tx, p)], q, by omega, rfl, rfl, by simp; omega, hown5, hb5, HV0⟩
    · have hlt' : decide ((p : Int) < (s.length : Int)) = false := by simp; omega
      have HV : Hid (R = acc ++ [([], s.length)]) := Lib.hid (by rw [HE.out, tkR_end s p (by omega), show p = s.length by omega])
      clear HE
      go_wp2_with (at_builtin; refine wpList_appendL (l := acc) good_prt rfl _ _ _ _ _ 24 rfl Tryd.underlying42 info_prt rfl (by omega) w.heap.size rfl hown [.string ⟨#[]⟩, .int .i64 (s.length : Int)] ([], s.length) rfl rfl (by omega) (by omega) hbw.size (fun k hk hk2 => hk2) ?_; intro v5 w5 hown5 hk5)
      have hb5 := hbw.trans (hk5.below hbw.size fun k _ e => own_ge hown e)
      obtain ⟨A5, c5, rfl⟩ := hown5.form
      go_ret
      refine ⟨⟨_, rfl, ?_⟩, hb5⟩
      rw [HV.out]
      exact hown5
end Go.Proofs.YtjdcegogkafmoaaDoor
