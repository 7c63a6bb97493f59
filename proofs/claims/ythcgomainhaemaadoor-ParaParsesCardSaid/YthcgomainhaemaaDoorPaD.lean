/- The walk of para.Check. -/
import Derived.Test.YthcgomainhaemaaDoorPaC
import Derived.Test.YthcgomainhaemaaDoorMap
import Derived.Test.YthcgomainhaemaaDoorOpn
import Derived.Maps.OwnOps
namespace Go.Proofs.YthcgomainhaemaaDoor
open Go.RowKit
def Rfield : Rel Fd := fun _ _ cs f => cs = [.string (bs f.1), .string (bs f.2)]
theorem good_field : Good 2 Rfield := ⟨fun h _ => h, fun h _ => h, (fun h => by subst h; rfl), (fun h u hu => by
  subst h; simp at hu; rcases hu with rfl | rfl <;> rfl)⟩
abbrev Rpara : Rel (List Fd) := Rslice 2 Rfield
theorem good_para : Good 1 Rpara := good_slice good_field (by decide)
theorem Sl.para {X : Nat → Prop} {w : World} {A : Option Addr} {n cap : Nat} {l : List (List Fd)} (h : Sl 1 Rpara X w (.slice A n cap) l) (hn : 0 < n) :
    ∃ b off, A = some ⟨b, off, none⟩ ∧ ¬ X b ∧ ∀ j (h : j < l.length), ∃ v, w.cell? ⟨b, off + j, none⟩ = some v ∧ Sl 2 Rfield X w v l[j] := by
  obtain ⟨h1, h2, h3, h4⟩ := h.at
  obtain ⟨b, off, hA, hX, hc⟩ := h4 hn
  refine ⟨b, off, hA, hX, fun j hj => ?_⟩
  obtain ⟨cs, hcs, v, rfl, hR⟩ := hc j hj
  have := hcs 0 _ rfl
  exact ⟨v, by simpa using this, hR⟩
theorem Sl.field {X : Nat → Prop} {w : World} {A : Option Addr} {n cap : Nat} {l : List Fd} (h : Sl 2 Rfield X w (.slice A n cap) l) (hn : 0 < n) :
    ∃ b off, A = some ⟨b, off, none⟩ ∧ ¬ X b ∧ ∀ j (h : j < l.length), w.cell? ⟨b, off + j * 2, none⟩ = some (.string (bs l[j].1)) ∧ w.cell? ⟨b, off + j * 2 + 1, none⟩ = some (.string (bs l[j].2)) := by
  obtain ⟨h1, h2, h3, h4⟩ := h.at
  obtain ⟨b, off, hA, hX, hc⟩ := h4 hn
  refine ⟨b, off, hA, hX, fun j hj => ?_⟩
  obtain ⟨cs, hcs, rfl⟩ := hc j hj
  exact ⟨by simpa using hcs 0 _ rfl, hcs 1 _ rfl⟩
/-- Paragraphs that are not too many or too long to be looked at. -/
def PS (l : List (List Fd)) : Prop := l.length ≤ 1000000 ∧ ∀ p ∈ l, p.length ≤ 1000000 ∧ ∀ f ∈ p, f.1.length ≤ 1000000 ∧ f.2.length ≤ 1000000
theorem paErr_drop (l : List (List Fd)) (k : Nat) (h : k < l.length) : paErr (l.drop k) = if l[k] = [] then 2 else if pgErr [] l[k] = 0 then paErr (l.drop (k + 1)) else pgErr [] l[k] := by
  rw [List.drop_eq_getElem_cons h]; rfl
theorem pgErr_drop (p : List Fd) (k : Nat) (h : k < p.length) : pgErr ((p.take k).map (·.1)) (p.drop k) = if fdErr ((p.take k).map (·.1)) p[k] = 0 then pgErr ((p.take (k + 1)).map (·.1)) (p.drop (k + 1)) else fdErr ((p.take k).map (·.1)) p[k] := by
  rw [List.drop_eq_getElem_cons h, pgErr, List.take_succ_eq_append_getElem h, List.map_append]; rfl
/-- The names that are there. -/
def InM (m : List UInt8 → Option Int) (ns : List (List UInt8)) : Prop := ∀ x, (m x).isSome = ns.contains x
theorem InM.put {m : List UInt8 → Option Int} {ns : List (List UInt8)} (h : InM m ns) (x : List UInt8) (v : Int) : InM (putM m x v) (ns ++ [x]) := fun y => by
  have := h y
  rw [putM]
  by_cases hy : y = x
  · simp [hy]
  · simp [hy, this]
theorem wf_nat {n : Nat} (h : n ≤ 1000000000000000) : (Lit.int .i64 (n : Int)).wf = true := by
  simp [Lit.wf, IntKind.min, IntKind.max, IntKind.signed, IntKind.bits]; omega
set_option maxRecDepth 20000 in
set_option maxHeartbeats 8000000 in
theorem pcheck_any (l : List (List Fd)) (v : Value) (X : Nat → Prop) (w : World) (hsl : Sl 1 Rpara X w v l) (hF : PS l) :
    Calls Tryd.prog 11 #[v] w fun e w' => e = .returned (.int .i64 (chkP l)) ∧ Below w.heap.size w w' := by
  obtain ⟨A, cap, rfl, hc1, hc2⟩ := hsl.form
  obtain ⟨s1, s2⟩ := hF
  unfold maxLen at hc2
  have HT : Hid (chkP l = if 4096 < l.length then 4 else paErr l) := Lib.hid rfl
  have HS2 := Lib.hid s2
  clear s2
  by_cases h4 : 4096 < l.length
  · have HV : Hid (chkP l = 4) := Lib.hid (by rw [HT.out, if_pos h4])
    have hb : decide ((4096 : Int) < (l.length : Int)) = true := by simp; omega
    clear h4 HT
    go_enter Tryd.func11, Tryd.ntmps11
    go_wp2_with fail
    go_ret
    exact ⟨by rw [HV.out]; rfl, Below.refl _ _⟩
  · have HV : Hid (chkP l = paErr l) := Lib.hid (by rw [HT.out, if_neg h4])
    have hb : decide ((4096 : Int) < (l.length : Int)) = false := by simp; omega
    clear h4 HT
    go_enter Tryd.func11, Tryd.ntmps11
    go_wp2_with fail
    go_loopg [15] l.length (fun G s15 wr => ∃ k : Nat, k ≤ l.length ∧ G = l.length - k ∧ s15 = .int .i64 k ∧ Below w.heap.size w wr ∧ Hid (chkP l = paErr (l.drop k)))
    case atStart => exact ⟨0, Nat.zero_le _, rfl, rfl, Below.refl _ _, HV⟩
    case round =>
      clear HV
      obtain ⟨k, hk, rfl, rfl, hbw, HE⟩ := hrel
      by_cases hlt : k < l.length
      · have hslr := hsl.keep good_para (Kept.of_below hbw X)
        obtain ⟨b, off, rfl, _, hc⟩ := hslr.para (by omega)
        obtain ⟨vg, ck, hsg⟩ := hc k hlt
        obtain ⟨A2, cap2, rfl, hg1, hg2⟩ := hsg.form
        unfold maxLen at hg2
        have HST := Lib.hid (HE.out.trans (paErr_drop l k hlt))
        obtain ⟨hgl, hsb⟩ := HS2.out _ (List.getElem_mem hlt)
        clear hc HE
        generalize l[k] = gr at ck hsg HST hgl hsb hg1
        have HSB := Lib.hid hsb
        clear hsb
        by_cases hg : gr = []
        · subst hg
          have HV : Hid (chkP l = 2) := Lib.hid (by rw [HST.out]; rfl)
          go_wp2_with fail
          go_ret
          exact ⟨by rw [HV.out]; rfl, hbw⟩
        · have hgp : 0 < gr.length := List.length_pos_iff.2 hg
          have hgb : ((gr.length : Int) == 0) = false := by simpa using (show gr.length ≠ 0 by omega)
          have HE : Hid (chkP l = if pgErr [] gr = 0 then paErr (l.drop (k + 1)) else pgErr [] gr) := Lib.hid (by rw [HST.out, if_neg hg])
          clear hg HST
          have hmm := @run_makeMap Tryd.prog
          go_wp2_with fail
          have hM0 := NMap.made wr
          have hb0 : Below wr.heap.size wr (wr.alloc (.map #[] 0)) := (Below.refl _ _).alloc (Nat.le_refl _) _
          have hz0 : wr.heap.size < (wr.alloc (.map #[] 0)).heap.size := by simp
          generalize wr.alloc (.map #[] 0) = w1 at hM0 hb0 hz0 ⊢
          have hI0 : InM (fun _ => none) [] := fun _ => rfl
          clear hmm
          go_loopg [25] gr.length (fun G s25 wx => ∃ (j : Nat) (m : List UInt8 → Option Int), j ≤ gr.length ∧ G = gr.length - j ∧ s25 = .int .i64 j ∧ Below wr.heap.size wr wx ∧ wr.heap.size < wx.heap.size ∧ NMap wx wr.heap.size j m ∧ InM m ((gr.take j).map (·.1)) ∧ Hid (chkP l = if pgErr ((gr.take j).map (·.1)) (gr.drop j) = 0 then paErr (l.drop (k + 1)) else pgErr ((gr.take j).map (·.1)) (gr.drop j)))
          case atStart => exact ⟨0, _, Nat.zero_le _, rfl, rfl, hb0, hz0, hM0, hI0, HE⟩
          case round =>
            clear hM0 hb0 hz0 hI0 HE
            obtain ⟨j, m, hj, rfl, rfl, hbx, hzx, hM, hI, HE⟩ := hrel
            by_cases hjl : j < gr.length
            · have hsgx := hsg.keep good_field (Kept.of_below hbx X)
              obtain ⟨b2, off2, rfl, _, hc⟩ := hsgx.field (by omega)
              obtain ⟨c0, c1⟩ := hc j hjl
              have HST := Lib.hid (pgErr_drop gr j hjl)
              obtain ⟨hn1, hn2⟩ := HSB.out _ (List.getElem_mem hjl)
              have HIP := Lib.hid (show (gr.take (j + 1)).map (·.1) = (gr.take j).map (·.1) ++ [(gr[j]).1] by rw [List.take_succ_eq_append_getElem hjl, List.map_append]; rfl)
              clear hc
              generalize gr[j] = f at c0 c1 HST hn1 hn2 HIP
              obtain ⟨fn, fv⟩ := f
              simp only at c0 c1 hn1 hn2
              go_wp2_with fail
              have hbF : Below w.heap.size w (wr.alloc (Obj.cells #[Value.string (bs fn), Value.string (bs fv)] 37)) := (hbw.trans (hbx.mono hbw.size)).alloc (by have := hbw.size; have := hbx.size; omega) _
              have hbX := hbx.alloc (hbx.size) (Obj.cells #[Value.string (bs fn), Value.string (bs fv)] 37)
              refine (pname_any fn _ (by omega)).mono ?_
              rintro e w2 ⟨rfl, rfl⟩
              cases hnm : nmOk fn with
              | false =>
                have HV : Hid (chkP l = 10) := Lib.hid (by rw [HE.out, HST.out]; simp [fdErr, hnm])
                go_wp2_with fail
                go_ret
                exact ⟨by rw [HV.out]; rfl, hbF⟩
              | true =>
                have HST' := Lib.hid (show fdErr ((gr.take j).map (·.1)) (fn, fv) = if valOk fv = true then (if ((gr.take j).map (·.1)).contains fn = true then 8 else 0) else 3 by simp [fdErr, hnm])
                clear hnm
                go_wp2_with fail
                have cF0 : (wr.alloc (Obj.cells #[Value.string (bs fn), Value.string (bs fv)] 37)).cell? ⟨wr.heap.size, 0, none⟩ = some (.string (bs fn)) := by simp
                have hsz : (wr.alloc (Obj.cells #[Value.string (bs fn), Value.string (bs fv)] 37)).heap.size = wr.heap.size + 1 := by simp
                have hMF := hM.below ((Below.refl wr.heap.size wr).alloc (Nat.le_refl _) (Obj.cells #[Value.string (bs fn), Value.string (bs fv)] 37))
                generalize wr.alloc (Obj.cells #[Value.string (bs fn), Value.string (bs fv)] 37) = wF at hbF hbX cF0 hsz hMF ⊢
                refine (pvalue_any fv _ (by omega)).mono ?_
                rintro e w3 ⟨rfl, hb3⟩
                have cF := (hb3.cell (p := ⟨wr.heap.size, 0, none⟩) (by show wr.heap.size < _; omega)).trans cF0
                have hM3 := hMF.below hb3
                have hbG := hbF.trans (hb3.mono hbF.size)
                have hbY := hbX.trans (hb3.mono hbX.size)
                clear cF0 hb3 hMF
                cases hvl : valOk fv with
                | false =>
                  have HV : Hid (chkP l = 3) := Lib.hid (by rw [HE.out, HST.out, HST'.out]; simp [hvl])
                  go_wp2_with fail
                  go_ret
                  exact ⟨by rw [HV.out]; rfl, hbG⟩
                | true =>
                  have HSU := Lib.hid (show fdErr ((gr.take j).map (·.1)) (fn, fv) = if ((gr.take j).map (·.1)).contains fn = true then 8 else 0 by rw [HST'.out]; simp [hvl])
                  have hIf := hI fn
                  clear hvl HST'
                  cases hcn : ((gr.take j).map (·.1)).contains fn with
                  | true =>
                    rw [hcn] at hIf
                    have HV : Hid (chkP l = 8) := Lib.hid (by rw [HE.out, HST.out, HSU.out, hcn]; simp)
                    clear hcn
                    go_wp2_with (at_lookup; refine wpList_nlook _ rfl _ _ rfl _ _ m rfl hM3 fn rfl (by omega) ?_; rintro vl -; rw [hIf])
                    go_ret
                    exact ⟨by rw [HV.out]; rfl, hbG⟩
                  | false =>
                    rw [hcn] at hIf
                    have HV := Lib.hid (show chkP l = if pgErr ((gr.take (j + 1)).map (·.1)) (gr.drop (j + 1)) = 0 then paErr (l.drop (k + 1)) else pgErr ((gr.take (j + 1)).map (·.1)) (gr.drop (j + 1)) by
                      rw [HE.out, HST.out, HSU.out, hcn]; simp)
                    clear hcn
                    have hwf : (Lit.int .i64 (j : Int)).wf = true := wf_nat (by omega)
                    go_wp2_with (first | (at_lookup; refine wpList_nlook _ rfl _ _ rfl _ _ m rfl hM3 fn rfl (by omega) ?_; rintro vl -; rw [hIf]) | (at_mapUpdate; refine wpList_nput _ rfl _ _ _ rfl _ _ m rfl hM3 (by omega) fn rfl (by omega) j rfl hwf ?_; intro w4 hM4 hk4))
                    go_roundg (gr.length - (j + 1))
                    case measure => omega
                    case rel => exact ⟨j + 1, _, by omega, rfl, by simp, hbY.trans (hk4.below hbY.size (fun _ _ hk => by omega)), hM4.lt, hM4, by rw [HIP.out]; exact hI.put fn j, Lib.hid HV.out⟩
            · have hje : j = gr.length := by omega
              have hdn : gr.drop j = [] := by rw [hje, List.drop_length]
              have HX : Hid (chkP l = paErr (l.drop (k + 1))) := Lib.hid (by rw [HE.out, hdn]; rfl)
              have hbz := hbw.trans (hbx.mono hbw.size)
              clear HE hdn hbx hM hI
              go_wp2_with fail
              go_roundg (l.length - (k + 1))
              case measure => omega
              case rel => exact ⟨k + 1, by omega, rfl, by simp, hbz, HX⟩
      · have hd : l.drop k = [] := List.drop_eq_nil_of_le (by omega)
        have HX : Hid (chkP l = 0) := Lib.hid (by rw [HE.out, hd]; rfl)
        clear HE hd
        go_wp2_with fail
        go_ret
        exact ⟨by rw [HX.out]; rfl, hbw⟩
end Go.Proofs.YthcgomainhaemaaDoor
