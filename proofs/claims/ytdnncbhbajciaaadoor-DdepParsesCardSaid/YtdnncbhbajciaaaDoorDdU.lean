/- The walk of the document's Light for groups. -/
import Derived.Test.YtdnncbhbajciaaaDoorDdQ
import Derived.Test.YtdnncbhbajciaaaDoorOpn
namespace Go.Proofs.YtdnncbhbajciaaaDoor
open Go.RowKit
instance : Inhabited Tm := ⟨⟨[], 0, [], [], []⟩⟩
set_option maxRecDepth 100000 in
open Go.ChangeShapes Go.WideShapes Go.ChangeAt in
theorem opens_term {H : Type} {enc : TypeId × Value → H} {W : World} : Opens enc Tryd.prog W 50 Rterm := by
  intro fuel cs x h hnf
  obtain ⟨y0, y1, y2, n, hx, hl, h0, h1, h2⟩ := Deep.trod_struct3 Tryd.underlying50 h
  have hnf2 : W.noneFrozen y2.2 := fun b off hb => hnf b off (by rw [hx]; simp [hb])
  have hl : cs.length = 5 := hl.trans (by kernel_rfl)
  match cs, hl with
  | [c0, c1, c2, c3, c4], _ =>
    have k0 : DataW.trod enc Tryd.prog W 0 (fun _ => true) true n 47 [c0, c1, c2] = some y0 := h0
    have k1 : DataW.trod enc Tryd.prog W 0 (fun _ => true) true n 9 [c3] = some y1 := h1
    have k2 : DataW.trod enc Tryd.prog W 0 (fun _ => true) true n 48 [c4] = some y2 := h2
    obtain ⟨z0, z1, z2, m, _, _, g0, g1, g2⟩ := Deep.trod_struct3 Tryd.underlying47 k0
    have g0 : DataW.trod enc Tryd.prog W 0 (fun _ => true) true m 9 [c0] = some z0 := g0
    have g1 : DataW.trod enc Tryd.prog W 0 (fun _ => true) true m 3 [c1] = some z1 := g1
    have g2 : DataW.trod enc Tryd.prog W 0 (fun _ => true) true m 9 [c2] = some z2 := g2
    obtain ⟨nm, e0, _, _⟩ := DataW.trod_string Tryd.underlying9 g0
    obtain ⟨op, e1, _, _⟩ := DataW.trod_int Tryd.underlying3 g1
    obtain ⟨vr, e2, _, _⟩ := DataW.trod_string Tryd.underlying9 g2
    obtain ⟨qu, e3, _, _⟩ := DataW.trod_string Tryd.underlying9 k1
    obtain ⟨l, v, e4, hs⟩ := opens_slice (sz := 1) Tryd.underlying48 (by kernel_rfl) (by omega) (opens_text Tryd.underlying9) n _ _ k2 hnf2
    have e0 : c0 = .string nm := by simpa using e0
    have e1 : c1 = .int .i64 op := by simpa using e1
    have e2 : c2 = .string vr := by simpa using e2
    have e3 : c3 = .string qu := by simpa using e3
    have e4 : c4 = v := by simpa using e4
    rw [← e4] at hs
    refine ⟨⟨nm.data.toList, op, vr.data.toList, qu.data.toList, l⟩, c4, ?_, hs⟩
    rw [e0, e1, e2, e3]
    simp [bs]
def lightA (a : List UInt8) : Bool := !decide (300 < a.length)
def lightT (t : Tm) : Bool := !decide (300 < t.name.length) && (!decide (300 < t.ver.length) && (!decide (300 < t.qual.length) && (!decide (20 < t.archs.length) && t.archs.all lightA)))
def lightG (g : List Tm) : Bool := !decide (80 < g.length) && g.all lightT
def lightB (l : List (List Tm)) : Bool := !decide (80 < l.length) && l.all lightG
theorem all_drop {α : Type} (p : α → Bool) (l : List α) (k : Nat) (h : k < l.length) : (l.drop k).all p = (p l[k] && (l.drop (k + 1)).all p) := by
  rw [List.drop_eq_getElem_cons h, List.all_cons]
theorem light_fs (l : List (List Tm)) (h : lightB l = true) : FS l := by
  simp only [lightB, lightG, lightT, lightA, Bool.and_eq_true, List.all_eq_true, Bool.not_eq_true', decide_eq_false_iff_not] at h
  refine ⟨by omega, fun g hg => ⟨by have := (h.2 g hg).1; omega, fun t ht => ?_⟩⟩
  obtain ⟨a1, a2, a3, a4, a5⟩ := (h.2 g hg).2 t ht
  refine ⟨⟨by omega, by omega, by omega, by omega, fun a ha => by have := a5 a ha; omega⟩, ?_⟩
  have := join_len t.archs [32] 300 (fun a ha => by have := a5 a ha; omega)
  simp only [List.length_cons, List.length_nil] at this
  have h2 : t.archs.length * 301 ≤ 20 * 301 := Nat.mul_le_mul_right _ (by omega)
  omega
set_option maxRecDepth 20000 in
set_option maxHeartbeats 16000000 in
theorem light_any (l : List (List Tm)) (v : Value) (X : Nat → Prop) (w : World) (hsl : Sl 1 Rgroup X w v l) :
    Calls Tryd.prog 17 #[v] w fun e w' => e = .returned (.bool (lightB l)) ∧ Below w.heap.size w w' := by
  obtain ⟨A, cap, rfl, hc1, hc2⟩ := hsl.form
  unfold maxLen at hc2
  have HT : Hid (lightB l = (!decide (80 < l.length) && l.all lightG)) := Lib.hid rfl
  generalize lightB l = res at HT
  by_cases h80 : 80 < l.length
  · have hd : decide ((80 : Int) < (l.length : Int)) = true := by simp; omega
    have HV : Hid (res = false) := Lib.hid (by rw [HT.out, decide_eq_true h80]; rfl)
    clear h80
    go_enter Tryd.func17, Tryd.ntmps17
    go_wp2_with fail
    go_ret
    exact ⟨by rw [HV.out]; rfl, Below.refl _ _⟩
  · have hd : decide ((80 : Int) < (l.length : Int)) = false := by simp; omega
    have HV : Hid (res = l.all lightG) := Lib.hid (by rw [HT.out, decide_eq_false h80]; rfl)
    have hl80 : l.length ≤ 80 := by omega
    clear h80 HT
    go_enter Tryd.func17, Tryd.ntmps17
    go_wp2_with fail
    go_loopg [3] l.length (fun G s3 wr => ∃ k : Nat, k ≤ l.length ∧ G = l.length - k ∧ s3 = .int .i64 k ∧ Below w.heap.size w wr ∧ Hid (res = (l.drop k).all lightG))
    case atStart => exact ⟨0, Nat.zero_le _, rfl, rfl, Below.refl _ _, HV⟩
    case round =>
      clear HV hd
      obtain ⟨k, hk, rfl, rfl, hbw, HE⟩ := hrel
      by_cases hlt : k < l.length
      · have hslr := hsl.keep good_group (Kept.of_below hbw X)
        obtain ⟨b, off, rfl, _, hc⟩ := hslr.group (by omega)
        obtain ⟨vg, ck, hsg⟩ := hc k hlt
        obtain ⟨A2, cap2, rfl, hg1, hg2⟩ := hsg.form
        unfold maxLen at hg2
        have HST := Lib.hid (HE.out.trans (all_drop lightG l k hlt))
        clear hc HE
        generalize l[k] = gr at ck hsg HST hg1
        by_cases hg80 : 80 < gr.length
        · have hd : decide ((80 : Int) < (gr.length : Int)) = true := by simp; omega
          have HV : Hid (res = false) := Lib.hid (by rw [HST.out, lightG, decide_eq_true hg80]; rfl)
          clear hg80 HST
          go_wp2_with fail
          go_ret
          exact ⟨by rw [HV.out]; rfl, hbw⟩
        · have hd : decide ((80 : Int) < (gr.length : Int)) = false := by simp; omega
          have hl81 : gr.length ≤ 80 := by omega
          have HV : Hid (res = (gr.all lightT && (l.drop (k + 1)).all lightG)) := Lib.hid (by rw [HST.out, lightG, decide_eq_false hg80]; rfl)
          clear hg80 HST
          go_wp2_with fail
          go_loopg [4] gr.length (fun G s4 wx => ∃ j : Nat, j ≤ gr.length ∧ G = gr.length - j ∧ s4 = .int .i64 j ∧ Below w.heap.size w wx ∧ Below wr.heap.size wr wx ∧ Hid (res = ((gr.drop j).all lightT && (l.drop (k + 1)).all lightG)))
          case atStart => exact ⟨0, Nat.zero_le _, rfl, rfl, hbw, Below.refl _ _, HV⟩
          case round =>
            clear HV hd
            obtain ⟨j, hj, rfl, rfl, hbx, hbx2, HE⟩ := hrel
            have ckx := (hbx2.cell (p := ⟨b, off + k, none⟩) (lt_of_cell ck)).trans ck
            by_cases hjl : j < gr.length
            · have hsgx := hsg.keep good_term (Kept.of_below hbx2 X)
              obtain ⟨b2, off2, rfl, _, hc⟩ := hsgx.term (by omega)
              obtain ⟨va, ⟨c0, c1, c2, c3, c4⟩, hsa⟩ := hc j hjl
              obtain ⟨A3, cap3, rfl, ha1, ha2⟩ := hsa.form
              unfold maxLen at ha2
              have HST := Lib.hid (HE.out.trans (congrArg (· && (l.drop (k + 1)).all lightG) (all_drop lightT gr j hjl)))
              clear hc HE
              generalize gr[j] = t at c0 c1 c2 c3 c4 hsa HST ha1
              have HT : Hid (lightT t = (!decide (300 < t.name.length) && (!decide (300 < t.ver.length) && (!decide (300 < t.qual.length) && (!decide (20 < t.archs.length) && t.archs.all lightA))))) := Lib.hid rfl
              go_upto_region 12 with fail
              have hba : Below wr.heap.size wr (wr.alloc (.cells #[.string (bs t.name), .int .i64 t.op, .string (bs t.ver), .string (bs t.qual), .slice A3 t.archs.length cap3] 50)) := (Below.refl _ _).alloc (Nat.le_refl _) _
              have bT : TB (wr.alloc (.cells #[.string (bs t.name), .int .i64 t.op, .string (bs t.ver), .string (bs t.qual), .slice A3 t.archs.length cap3] 50)) wr.heap.size t.name t.op t.ver t.qual (.slice A3 t.archs.length cap3) := Blk.new wr _ _
              have hsa1 := hsa.keep good_text (Kept.of_below hba X)
              generalize (wr.alloc (.cells #[.string (bs t.name), .int .i64 t.op, .string (bs t.ver), .string (bs t.qual), .slice A3 t.archs.length cap3] 50)) = w2 at hba bT hsa1 ⊢
              obtain ⟨d0, d1, d2, d3, d4⟩ := TB.cells bT
              have q2 := hbx.trans (hba.mono hbx.size)
              have q2' := hbx2.trans (hba.mono hbx2.size)
              clear c0 c1 c2 c3 c4 hsa hsgx bT hba
              have z1 : ((bs t.name).size : Int) = (t.name.length : Int) := by rw [bs_size]
              have z2 : ((bs t.ver).size : Int) = (t.ver.length : Int) := by rw [bs_size]
              have z3 : ((bs t.qual).size : Int) = (t.qual.length : Int) := by rw [bs_size]
              by_cases n1 : 300 < t.name.length
              · have e1 : decide ((300 : Int) < ((bs t.name).size : Int)) = true := by rw [z1]; simp; omega
                have HV : Hid (res = false) := Lib.hid (by rw [HST.out, HT.out]; simp [n1])
                clear n1 HST HT z1 z2 z3
                go_wp2_with fail
                go_ret
                exact ⟨by rw [HV.out]; rfl, q2⟩
              have e1 : decide ((300 : Int) < ((bs t.name).size : Int)) = false := by rw [z1]; simp; omega
              by_cases n2 : 300 < t.ver.length
              · have e2 : decide ((300 : Int) < ((bs t.ver).size : Int)) = true := by rw [z2]; simp; omega
                have HV : Hid (res = false) := Lib.hid (by rw [HST.out, HT.out]; simp [n2])
                clear n1 n2 HST HT z1 z2 z3
                go_wp2_with fail
                go_ret
                exact ⟨by rw [HV.out]; rfl, q2⟩
              have e2 : decide ((300 : Int) < ((bs t.ver).size : Int)) = false := by rw [z2]; simp; omega
              by_cases n3 : 300 < t.qual.length
              · have e3 : decide ((300 : Int) < ((bs t.qual).size : Int)) = true := by rw [z3]; simp; omega
                have HV : Hid (res = false) := Lib.hid (by rw [HST.out, HT.out]; simp [n3])
                clear n1 n2 n3 HST HT z1 z2 z3
                go_wp2_with fail
                go_ret
                exact ⟨by rw [HV.out]; rfl, q2⟩
              have e3 : decide ((300 : Int) < ((bs t.qual).size : Int)) = false := by rw [z3]; simp; omega
              by_cases n4 : 20 < t.archs.length
              · have e4 : decide ((20 : Int) < (t.archs.length : Int)) = true := by simp; omega
                have HV : Hid (res = false) := Lib.hid (by rw [HST.out, HT.out]; simp [n4])
                clear n1 n2 n3 n4 HST HT z1 z2 z3
                go_wp2_with fail
                go_ret
                exact ⟨by rw [HV.out]; rfl, q2⟩
              have e4 : decide ((20 : Int) < (t.archs.length : Int)) = false := by simp; omega
              have HV : Hid (res = (t.archs.all lightA && ((gr.drop (j + 1)).all lightT && (l.drop (k + 1)).all lightG))) := Lib.hid (by rw [HST.out, HT.out]; simp [n1, n2, n3, n4, Bool.and_assoc])
              clear n1 n2 n3 HST HT z1 z2 z3
              go_wp2_with fail
              go_loopg [6] t.archs.length (fun G s6 wz => ∃ i : Nat, i ≤ t.archs.length ∧ G = t.archs.length - i ∧ s6 = .int .i64 i ∧ w2 = wz ∧ Hid (res = ((t.archs.drop i).all lightA && ((gr.drop (j + 1)).all lightT && (l.drop (k + 1)).all lightG))))
              case atStart => exact ⟨0, Nat.zero_le _, rfl, rfl, rfl, HV⟩
              case round =>
                clear HV e1 e2 e3 e4
                obtain ⟨i, hi, rfl, rfl, rfl, HE⟩ := hrel
                by_cases hil : i < t.archs.length
                · obtain ⟨_, _, _, b3, off3, rfl, hc⟩ := hsa1.text (by omega)
                  have cki := hc i hil
                  have HST := Lib.hid (HE.out.trans (congrArg (· && ((gr.drop (j + 1)).all lightT && (l.drop (k + 1)).all lightG)) (all_drop lightA t.archs i hil)))
                  clear hc HE
                  generalize t.archs[i] = a at cki HST
                  have za : ((bs a).size : Int) = (a.length : Int) := by rw [bs_size]
                  by_cases na : 300 < a.length
                  · have ea : decide ((300 : Int) < ((bs a).size : Int)) = true := by rw [za]; simp; omega
                    have HV : Hid (res = false) := Lib.hid (by rw [HST.out]; simp [lightA, na])
                    clear na HST za
                    go_wp2_with fail
                    go_ret
                    exact ⟨by rw [HV.out]; rfl, q2⟩
                  · have ea : decide ((300 : Int) < ((bs a).size : Int)) = false := by rw [za]; simp; omega
                    have HV : Hid (res = ((t.archs.drop (i + 1)).all lightA && ((gr.drop (j + 1)).all lightT && (l.drop (k + 1)).all lightG))) := Lib.hid (by rw [HST.out]; simp [lightA, na])
                    clear na HST za
                    go_wp2_with fail
                    go_roundg (t.archs.length - (i + 1))
                    case measure => omega
                    case rel => exact ⟨i + 1, by omega, rfl, by go_num, rfl, HV⟩
                · obtain rfl : i = t.archs.length := by omega
                  have HV : Hid (res = ((gr.drop (j + 1)).all lightT && (l.drop (k + 1)).all lightG)) := Lib.hid (by rw [HE.out, List.drop_length]; rfl)
                  clear HE
                  go_wp2_with fail
                  go_roundg (gr.length - (j + 1))
                  case measure => omega
                  case rel => exact ⟨j + 1, by omega, rfl, by go_num, q2, q2', HV⟩
            · obtain rfl : j = gr.length := by omega
              have HV : Hid (res = (l.drop (k + 1)).all lightG) := Lib.hid (by rw [HE.out, List.drop_length]; rfl)
              go_wp2_with fail
              go_roundg (l.length - (k + 1))
              case measure => omega
              case rel => exact ⟨k + 1, by omega, rfl, by go_num, hbx, HV⟩
      · obtain rfl : k = l.length := by omega
        have HV : Hid (res = true) := Lib.hid (by rw [HE.out, List.drop_length]; rfl)
        go_wp2_with fail
        go_ret
        exact ⟨by rw [HV.out]; rfl, hbw⟩
end Go.Proofs.YtdnncbhbajciaaaDoor
