/- The walk of the law on how a text is read. Printed by gen_ree.py. -/
import Derived.Test.YtjdcegogkafmoaaDoorReD
import Derived.Test.YtjdcegogkafmoaaDoorRdQ
namespace Go.Proofs.YtjdcegogkafmoaaDoor
open Go.RowKit
set_option maxRecDepth 20000 in
set_option maxHeartbeats 16000000 in
theorem law_parsesR (s : ByteArray) (w : World) (hs : s.size ≤ maxLen) (hw : Words w) (hg : SignsT w) (hn : WordsT w) :
    Calls Tryd.prog 3 #[.string s] w fun e w' => e = .returned (.bool true) ∧ Below w.heap.size w w' := by
  obtain ⟨a, rfl⟩ : ∃ l, s = bs l := ⟨_, bs_self s⟩
  clear hs
  have hT : TT w := ⟨hn, hg, hw⟩
  have hz : ((bs a).size : Int) = (a.length : Int) := by rw [bs_size]
  go_enter Tryd.func3, Tryd.ntmps3
  go_wp2_with fail
  refine (awakeRd _ hT).mono ?_
  rintro e w1 ⟨rfl, hb1⟩
  by_cases hn : 4000 < a.length
  · have hd : decide ((4000 : Int) < ((bs a).size : Int)) = true := by rw [hz]; simp; omega
    go_wp2_with fail
    go_ret
    exact ⟨rfl, hb1⟩
  · have hd : decide ((4000 : Int) < ((bs a).size : Int)) = false := by rw [hz]; simp; omega
    have hT1 := hT.below hb1
    go_wp2_with fail
    refine (rparse_any a _ (by omega) hT1).mono ?_
    obtain ⟨X, HX⟩ : ∃ x, Hid (parseP a = x) := ⟨_, Lib.hid rfl⟩
    unfold ParseR
    rw [HX.out]
    cases X with
    | err ea ec =>
      rintro e w2 ⟨⟨hec, rfl⟩, hb2⟩
      obtain ⟨W3, gK, gE, hW3, hgK, hgE, bK, bE, hb3, _, _⟩ := two_alloc w2 #[.string ⟨#[]⟩, .string ⟨#[]⟩, .int .i64 0, .string ⟨#[]⟩, .slice none 0 0] #[.string ⟨#[]⟩, .int .i64 (ea : Int), .int .i64 ec]
      have q3 := hb2.trans (hb3.mono hb2.size)

      go_upto_region 6 with fail
      rw [← hW3, ← hgE, ← hgK]
      clear hW3 hgE hgK hb3
      go_wp2_with fail
      refine (rrparse_any a _ (by omega)).mono ?_
      unfold ParseR
      rw [HX.out]
      rintro e w4 ⟨⟨_, rfl⟩, hb4⟩
      obtain ⟨W5, gL, gM, hW5, hgL, hgM, bL, bM, hb5, _, _⟩ := two_alloc w4 #[.string ⟨#[]⟩, .string ⟨#[]⟩, .int .i64 0, .string ⟨#[]⟩, .slice none 0 0] #[.string ⟨#[]⟩, .int .i64 (ea : Int), .int .i64 ec]
      have q4 := q3.trans ((hb4.trans (hb5.mono hb4.size)).mono q3.size)
      have bK5 := (bK.below hb4 bK.lt).below hb5 (bK.below hb4 bK.lt).lt
      have bE5 := (bE.below hb4 bE.lt).below hb5 (bE.below hb4 bE.lt).lt
      have s1 : Sk 5 (Rr 40) nowhere W5 (.slice none 0 0) (Rdp.mk [] [] 0 [] []).kids := Sk.nil _ _ _ _
      have s2 := s1
      go_upto_region 7 with fail
      rw [← hW5, ← hgM, ← hgL]
      clear hW5 hgM hgL hb4 hb5 bK bE
      obtain ⟨k0, k1, k2, k3, k4⟩ := outs5 bK5
      obtain ⟨l0, l1, l2, l3, l4⟩ := outs5 bL
      have hsm := rsame_all 40 (.mk [] [] 0 [] []) _ _ _ _ W5 s1 s2
      simp only [richV, richC, Rdp.op, Rdp.name, Rdp.aop, Rdp.ver, Rdp.kids] at hsm
      have c0 := bE5.cell 0
      have c1 := bE5.cell 1
      have c2 := bE5.cell 2
      have z0 := bM.cell 0
      have z1 := bM.cell 1
      have z2 := bM.cell 2
      simp at c0 c1 c2 z0 z1 z2
      go_wp2_with (go_at_call 8; refine hsm.mono ?_; clear hsm k0 k1 k2 k3 k4 l0 l1 l2 l3 l4 c0 c1 c2 z0 z1 z2; rintro rr W6 ⟨rfl, hb6⟩; have e6 := bE5.below hb6 bE5.lt; have m6 := bM.below hb6 bM.lt; have c0 := e6.cell 0; have c1 := e6.cell 1; have c2 := e6.cell 2; have z0 := m6.cell 0; have z1 := m6.cell 1; have z2 := m6.cell 2; simp at c0 c1 c2 z0 z1 z2)
      go_ret
      exact ⟨rfl, (hb1.trans (q4.mono hb1.size)).trans (hb6.mono (Nat.le_trans hb1.size q4.size))⟩
    | ok d ts n =>
      rintro e w2 ⟨⟨kv, rfl, hkv⟩, hb2⟩
      obtain ⟨A, cap, rfl, _, _⟩ := hkv.form
      simp only [richV, richC]
      obtain ⟨W3, gK, gE, hW3, hgK, hgE, bK, bE, hb3, _, _⟩ := two_alloc w2 #[.string (bs d.op), .string (bs d.name), .int .i64 d.aop, .string (bs d.ver), .slice A d.kids.length cap] #[.string ⟨#[]⟩, .int .i64 0, .int .i64 0]
      have q3 := hb2.trans (hb3.mono hb2.size)
      have hk3 := Below.sk (good_rich 40) hb3 hkv
      go_upto_region 6 with fail
      rw [← hW3, ← hgE, ← hgK]
      clear hW3 hgE hgK hb3
      go_wp2_with fail
      refine (rrparse_any a _ (by omega)).mono ?_
      unfold ParseR
      rw [HX.out]
      rintro e w4 ⟨⟨kv4, rfl, hkv4⟩, hb4⟩
      obtain ⟨A4, cap4, rfl, _, _⟩ := hkv4.form
      simp only [richV, richC]
      obtain ⟨W5, gL, gM, hW5, hgL, hgM, bL, bM, hb5, _, _⟩ := two_alloc w4 #[.string (bs d.op), .string (bs d.name), .int .i64 d.aop, .string (bs d.ver), .slice A4 d.kids.length cap4] #[.string ⟨#[]⟩, .int .i64 0, .int .i64 0]
      have q4 := q3.trans ((hb4.trans (hb5.mono hb4.size)).mono q3.size)
      have bK5 := (bK.below hb4 bK.lt).below hb5 (bK.below hb4 bK.lt).lt
      have bE5 := (bE.below hb4 bE.lt).below hb5 (bE.below hb4 bE.lt).lt
      have s1 := Below.sk (good_rich 40) hb5 (Below.sk (good_rich 40) hb4 hk3)
      have s2 := Below.sk (good_rich 40) hb5 hkv4
      go_upto_region 7 with fail
      rw [← hW5, ← hgM, ← hgL]
      clear hW5 hgM hgL hb4 hb5 bK bE
      obtain ⟨k0, k1, k2, k3, k4⟩ := outs5 bK5
      obtain ⟨l0, l1, l2, l3, l4⟩ := outs5 bL
      have hsm := rsame_all 40 d _ _ _ _ W5 s1 s2
      simp only [richV, richC] at hsm
      have c0 := bE5.cell 0
      have c1 := bE5.cell 1
      have c2 := bE5.cell 2
      have z0 := bM.cell 0
      have z1 := bM.cell 1
      have z2 := bM.cell 2
      simp at c0 c1 c2 z0 z1 z2
      go_wp2_with (go_at_call 8; refine hsm.mono ?_; clear hsm k0 k1 k2 k3 k4 l0 l1 l2 l3 l4 c0 c1 c2 z0 z1 z2; rintro rr W6 ⟨rfl, hb6⟩; have e6 := bE5.below hb6 bE5.lt; have m6 := bM.below hb6 bM.lt; have c0 := e6.cell 0; have c1 := e6.cell 1; have c2 := e6.cell 2; have z0 := m6.cell 0; have z1 := m6.cell 1; have z2 := m6.cell 2; simp at c0 c1 c2 z0 z1 z2)
      go_ret
      exact ⟨rfl, (hb1.trans (q4.mono hb1.size)).trans (hb6.mono (Nat.le_trans hb1.size q4.size))⟩
end Go.Proofs.YtjdcegogkafmoaaDoor
