/- The law ArWrites. -/
import Derived.Test.YtolknddegfcmpaaDoorArZ
import Derived.Test.YtolknddegfcmpaaDoorArL
namespace Go.Proofs.YtolknddegfcmpaaDoor
open Go.RowKit
/-- math/bits.deBruijn64tab, as the row lists it. -/
def debL : List Int := [0, 1, 56, 2, 57, 49, 28, 3, 61, 58, 42, 50, 38, 29, 17, 4, 62, 47, 59, 36, 45, 43, 51, 22, 53, 39, 33, 30, 24, 18, 12, 5, 63, 55, 48, 27, 60, 41, 37, 16, 46, 35, 44, 21, 52, 32, 23, 11, 54, 26, 40, 15, 34, 20, 31, 10, 25, 14, 19, 9, 13, 8, 7, 6]
theorem deb_of_tab {W : World} (h : Lib.TabIs Tryd.prog W "math/bits.deBruijn64tab" .u8 debL) : Deb W := by
  unfold Deb
  rw [World.var?_cell (show Tryd.prog.globalNamed "math/bits.deBruijn64tab" = some 5 by kernel_rfl) h 7]
  rfl
theorem lightI_small {l : List It} (h : lightI 40 l = true) : SmallI l := by
  obtain ⟨h1, h2⟩ := light_ib 40 l h
  exact ⟨by omega, h2⟩
set_option maxRecDepth 20000 in
set_option maxHeartbeats 8000000 in
theorem law_arwrites (v : Value) (l : List It) (st : Int) (w : World) (hsl : Sl 6 Rit nowhere w v l) (_ : -9223372036854775808 ≤ st ∧ st ≤ 9223372036854775807) (hT : Tab w) (hD : Deb w) :
    Calls Tryd.prog 6 #[v, .int .i64 st] w fun r w' => r = .returned (.bool true) ∧ Below w.heap.size w w' := by
  obtain ⟨A, cap, rfl, hc1, hc2⟩ := hsl.form
  unfold maxLen at hc2
  have HT := Lib.hid (fun W (hb : Below w.heap.size w W) => (⟨hT.below hb, hD.below (B := 0) hb⟩ : Tab W ∧ Deb W))
  have haw := awakeI w hT hD
  clear hT hD
  go_enter Tryd.func6, Tryd.ntmps6
  go_wp2_with fail
  refine (haw).mono ?_
  rintro e w1 ⟨rfl, hb1⟩
  have hs1 := Below.sl good_it hb1 hsl
  clear haw
  go_wp2_with fail
  refine (rilight_any l 40 _ nowhere _ hs1 (by omega)).mono ?_
  rintro e w2 ⟨rfl, hb2⟩
  have hs2 := Below.sl good_it hb2 hs1
  have q2 := hb1.trans (hb2.mono hb1.size)
  clear hsl hs1 hb1 hb2
  cases hlt : lightI 40 l with
  | false =>
    clear hlt
    go_wp2_with fail
    go_ret
    exact ⟨rfl, q2⟩
  | true =>
    have hSm := lightI_small hlt
    clear hlt
    have hln : l.length ≤ 100 := hSm.1
    have HSN := Lib.hid hSm.2
    have hwr := arwrite_any st l _ nowhere w2 hs2 hSm (HT.out w2 q2).1 (HT.out w2 q2).2
    have HRW := Lib.hid (fun (W : World) (h : Sl 6 Rit nowhere W (.slice A l.length cap) l) => arrwrite_any st l _ nowhere W h hSm)
    obtain ⟨ce, HCE⟩ : ∃ c, Hid (arErr st l = c) := ⟨_, Lib.hid rfl⟩
    obtain ⟨RR, HRR⟩ : ∃ R, Hid ((if ce = 0 then arB st l else []) = R) := ⟨_, Lib.hid rfl⟩
    clear hSm HT
    go_upto_region 7 with (first
      | (go_at_call 19; refine hwr.mono ?_; clear hwr; rintro e W4 ⟨v4, rfl, hb4, hsl4⟩; have hs4 := Below.sl good_it hb4 hs2; have hrw := HRW.out W4 hs4; rw [HCE.out] at hsl4 ⊢; rw [HRR.out] at hsl4; obtain ⟨A4, k4, rfl, _, _⟩ := hsl4.form)
      | (go_at_call 20; refine hrw.mono ?_; clear hrw; rintro e W5 ⟨v5, rfl, hb5, hsl5⟩; rw [HCE.out] at hsl5 ⊢; rw [HRR.out] at hsl5; obtain ⟨A5, k5, rfl, _, _⟩ := hsl5.form))
    have hs5 := Below.sl good_it hb5 hs4
    have hsl45 := Below.sl good_byte hb5 hsl4
    have q4 := q2.trans (hb4.mono q2.size)
    have q5 := q4.trans (hb5.mono q4.size)
    clear hsl4 hs4 hs2 hb4 hb5 q4 q2 HRW
    go_wp2_with fail
    go_loopg [9] l.length (fun G s9 wr => ∃ k : Nat, k ≤ l.length ∧ G = l.length - k ∧ s9 = .int .i64 k ∧ Below W5.heap.size W5 wr)
    case atStart => exact ⟨0, Nat.zero_le _, rfl, rfl, Below.refl _ _⟩
    case round =>
      obtain ⟨k, hk, rfl, rfl, hbw⟩ := hrel
      by_cases hlt : k < l.length
      · have hslr := Below.sl good_it hbw hs5
        obtain ⟨b, off, rfl, _, hc⟩ := hslr.it (by omega)
        obtain ⟨dv, hat, hdv⟩ := hc k hlt
        obtain ⟨Ad, capd, rfl, _, _⟩ := hdv.form
        have HEB := HSN.out _ (List.getElem_mem hlt)
        obtain ⟨e, He⟩ : ∃ e, Hid (l[k] = e) := ⟨_, Lib.hid rfl⟩
        rw [He.out] at hat hdv HEB
        obtain ⟨ln, ld⟩ := HEB
        obtain ⟨c0, c1, c2, c3, c4, c5⟩ := hat
        have i1 : (0 : Int) ≤ (k : Int) := by omega
        have i2 : (k : Int) < (l.length : Int) := by omega
        have hlt' : decide ((k : Int) < (l.length : Int)) = true := decide_eq_true i2
        clear hc hdv
        obtain ⟨q, HQ⟩ : ∃ q, Hid (chkI e = q) := ⟨_, Lib.hid rfl⟩
        have hck : ∀ W, Calls Tryd.prog 21 #[.agg #[.string (bs e.name), .int .i64 e.mtime, .int .i64 e.uid, .int .i64 e.gid, .int .i64 e.mode, .slice Ad e.data.length capd]] W fun r w' => r = .returned (.int .i64 q) ∧ Below W.heap.size W w' := fun W => by
          have := icheck_any e Ad capd W (by omega)
          rw [HQ.out] at this
          exact this
        have hrk : ∀ W, Calls Tryd.prog 22 #[.agg #[.string (bs e.name), .int .i64 e.mtime, .int .i64 e.uid, .int .i64 e.gid, .int .i64 e.mode, .slice Ad e.data.length capd]] W fun r w' => r = .returned (.int .i64 q) ∧ Below W.heap.size W w' := fun W => by
          have := richeck_any e Ad capd W (by omega)
          rw [HQ.out] at this
          exact this
        have KS : ∀ W', Below wr.heap.size wr W' → (fun W => W.cell? ⟨b, off + k * 6, none⟩ = some (.string (bs e.name)) ∧ W.cell? ⟨b, off + k * 6 + 1, none⟩ = some (.int .i64 e.mtime) ∧ W.cell? ⟨b, off + k * 6 + 2, none⟩ = some (.int .i64 e.uid) ∧ W.cell? ⟨b, off + k * 6 + 3, none⟩ = some (.int .i64 e.gid) ∧ W.cell? ⟨b, off + k * 6 + 4, none⟩ = some (.int .i64 e.mode) ∧ W.cell? ⟨b, off + k * 6 + 5, none⟩ = some (.slice Ad e.data.length capd)) W' := fun W' hb => by
          have q := Kept.of_below hb nowhere
          exact ⟨q.cell c0 fun h => h, q.cell c1 fun h => h, q.cell c2 fun h => h, q.cell c3 fun h => h, q.cell c4 fun h => h, q.cell c5 fun h => h⟩
        go_upto_region 10 with fail
        refine wp_region_plan (fun W => W.cell? ⟨b, off + k * 6, none⟩ = some (.string (bs e.name)) ∧ W.cell? ⟨b, off + k * 6 + 1, none⟩ = some (.int .i64 e.mtime) ∧ W.cell? ⟨b, off + k * 6 + 2, none⟩ = some (.int .i64 e.uid) ∧ W.cell? ⟨b, off + k * 6 + 3, none⟩ = some (.int .i64 e.gid) ∧ W.cell? ⟨b, off + k * 6 + 4, none⟩ = some (.int .i64 e.mode) ∧ W.cell? ⟨b, off + k * 6 + 5, none⟩ = some (.slice Ad e.data.length capd)) [(false, 0), (false, 1), (false, 2), (false, 3), (false, 5), (false, 6), (false, 7), (false, 8), (true, 4), (true, 9), (false, 10)] (by kernel_rfl) (by kernel_rfl) (KS _ ((Below.refl _ wr).drew)) ?_
        simp only [planOps, List.map, List.getD_cons_zero, List.getD_cons_succ]
        iterate 8 ((first | refine plan_quiet (v := ?_) rfl rfl (fun w' hw' => ?_) ?_ | refine plan_calm (v := ?_) (tt_of) rfl (fun w' hw' => ?_) ?_); rotate_left; (focus (go_simp <;> (first | with_reducible rfl | (rw [if_neg (by simp [undef])]; try rfl) | omega))); simp only [Act.put, List.setIfInBounds_toArray, List.set_cons_zero, List.set_cons_succ])
        refine plan_loud rfl (fun K hK => ?_)
        go_simp
        have hz0 := (Below.refl wr.heap.size wr).drew
        refine (hck _).mono ?_
        rintro r Z1 ⟨rfl, hz⟩
        go_simp
        have hz1 := hz0.trans (hz.mono hz0.size)
        refine hK _ _ (KS _ hz1) ?_
        clear hK K
        (try simp only [Act.put, List.setIfInBounds_toArray, List.set_cons_zero, List.set_cons_succ])
        refine plan_loud rfl (fun K hK => ?_)
        go_simp
        refine (hrk _).mono ?_
        rintro r Z2 ⟨rfl, hz⟩
        go_simp
        have hz2 := hz1.trans (hz.mono hz1.size)
        refine hK _ _ (KS _ hz2) ?_
        clear hK K
        (try simp only [Act.put, List.setIfInBounds_toArray, List.set_cons_zero, List.set_cons_succ])
        iterate 1 ((first | refine plan_quiet (v := ?_) rfl rfl (fun w' hw' => ?_) ?_ | refine plan_calm (v := ?_) (tt_of) rfl (fun w' hw' => ?_) ?_); rotate_left; (focus (go_simp <;> (first | with_reducible rfl | (rw [if_neg (by simp [undef])]; try rfl) | omega))); simp only [Act.put, List.setIfInBounds_toArray, List.set_cons_zero, List.set_cons_succ])
        refine plan_end ?_
        have hb6 := hbw.trans (hz2.mono hbw.size)
        clear hz hz0 hz1 hz2 KS hck hrk hslr c0 c1 c2 c3 c4 c5 hbw
        go_wp2_with fail
        go_roundg (l.length - (k + 1))
        case measure => omega
        case rel => exact ⟨k + 1, by omega, rfl, by first | (simp; done) | (simp; omega), hb6⟩
      · have hlt' : decide ((k : Int) < (l.length : Int)) = false := decide_eq_false (by omega)
        have hst4 := str8 (Below.sl good_byte hbw hsl45).sb8
        have hst5 := str8 (Below.sl good_byte hbw hsl5).sb8
        go_wp2_with fail
        go_ret
        exact ⟨by simp, q5.trans (hbw.mono q5.size)⟩
end Go.Proofs.YtolknddegfcmpaaDoor
