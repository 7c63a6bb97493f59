/- The walks of version.Split and version.Check. -/
import Derived.Test.YtdnncbhbajciaaaDoorVerI
namespace Go.Proofs.YtdnncbhbajciaaaDoor
open Go.RowKit
def vOk (f : Int) (l : List UInt8) : Bool := if f = 1 then dOk l else if f = 2 then rOk l else (apkP l).isSome
def apkT (l : List UInt8) : List UInt8 × List UInt8 × List UInt8 := match apkP l with
  | some (_, p, r) => ([], p, r)
  | none => ([], [], [])
def vPart (f : Int) (l : List UInt8) : List UInt8 × List UInt8 × List UInt8 :=
  if f = 1 then (dEp l, dPr (dRest l), dRev (dRest l)) else if f = 2 then (dEp l, cutA (dRest l) 45, cutB (dRest l) 45) else apkT l
/-- What is wrong with a version: the error's number. -/
def vErr (f : Int) (l : List UInt8) : Int := if f = 1 ∨ f = 2 ∨ f = 3 then (if 64 < l.length then 4 else if vOk f l = true then 0 else 3) else 9
def vSplit (f : Int) (l : List UInt8) : List UInt8 × List UInt8 × List UInt8 := if vErr f l = 0 then vPart f l else ([], [], [])
def GivesSplit (w : World) (f : Int) (l : List UInt8) (e : Ending) (w' : World) : Prop :=
  e = .returned (.tuple #[.string (bs (vSplit f l).1), .string (bs (vSplit f l).2.1), .string (bs (vSplit f l).2.2), .int .i64 (vErr f l)]) ∧ Below w.heap.size w w'
theorem vOk1 (l : List UInt8) : vOk 1 l = dOk l := rfl
theorem vOk2 (l : List UInt8) : vOk 2 l = rOk l := rfl
theorem vOk3 (l : List UInt8) : vOk 3 l = (apkP l).isSome := rfl
theorem vPart3 (l : List UInt8) : vPart 3 l = apkT l := rfl
theorem gives_bad (w : World) (f : Int) (l : List UInt8) (n : Int) (h : vErr f l = n) (h0 : n ≠ 0) {w' : World} (hb : Below w.heap.size w w') :
    GivesSplit w f l (.returned (.tuple #[.string ⟨#[]⟩, .string ⟨#[]⟩, .string ⟨#[]⟩, .int .i64 n])) w' := by
  refine ⟨?_, hb⟩
  rw [vSplit, h, if_neg h0]
  rfl
theorem gives_ok (w : World) (f : Int) (l : List UInt8) (h : vErr f l = 0) {x y z : ByteArray} (hx : x = bs (vPart f l).1) (hy : y = bs (vPart f l).2.1) (hz : z = bs (vPart f l).2.2) {w' : World} (hb : Below w.heap.size w w') :
    GivesSplit w f l (.returned (.tuple #[.string x, .string y, .string z, .int .i64 0])) w' := by
  refine ⟨?_, hb⟩
  rw [vSplit, h, if_pos rfl, hx, hy, hz]
set_option maxRecDepth 20000 in
set_option maxHeartbeats 4000000 in
theorem split_any (f : Int) (l : List UInt8) (w : World) (hl : l.length ≤ 1000000) (hw : Words w) :
    Calls Tryd.prog 11 #[.int .i64 f, .string (bs l)] w (GivesSplit w f l) := by
  have hz : ((bs l).size : Int) = (l.length : Int) := by rw [bs_size]
  by_cases h123 : f = 1 ∨ f = 2 ∨ f = 3
  · by_cases hlong : 64 < l.length
    · have hd : decide ((64 : Int) < ((bs l).size : Int)) = true := by rw [hz]; simp; omega
      have HE : Hid (vErr f l = 4) := Lib.hid (by rw [vErr, if_pos h123, if_pos hlong])
      clear hz
      rcases h123 with rfl | rfl | rfl
      all_goals
        go_enter Tryd.func11, Tryd.ntmps11
        go_wp2_with fail
        (try simp only [Exit.inBlock, Exit.then])
        refine bodyPost_ret (results4 rfl _ _ _) rfl ?_
        exact gives_bad w _ l 4 HE.out (by decide) (Below.refl _ _)
    · have hd : decide ((64 : Int) < ((bs l).size : Int)) = false := by rw [hz]; simp; omega
      have HE : Hid (vErr f l = if vOk f l = true then 0 else 3) := Lib.hid (by rw [vErr, if_pos h123, if_neg hlong])
      clear hz
      rcases h123 with rfl | rfl | rfl
      · go_enter Tryd.func11, Tryd.ntmps11
        go_wp2_with fail
        refine (splitDpkg_any (bs l) _ (by rw [bs_size]; omega)).mono ?_
        rintro e w1 ⟨x, y, z, rfl, hxyz, hb⟩
        rw [bs_list] at hxyz ⊢
        have HH := Lib.hid hxyz
        clear hxyz
        cases hok : dOk l with
        | false =>
          go_wp2_with fail
          (try simp only [Exit.inBlock, Exit.then])
          refine bodyPost_ret (results4 rfl _ _ _) rfl ?_
          exact gives_bad w _ l 3 (by rw [HE.out, vOk1, hok]; rfl) (by decide) hb
        | true =>
          go_wp2_with fail
          (try simp only [Exit.inBlock, Exit.then])
          refine bodyPost_ret (results4 rfl _ _ _) rfl ?_
          obtain ⟨rfl, rfl, rfl⟩ := HH.out hok
          exact gives_ok w 1 l (by rw [HE.out, vOk1, hok]; rfl) rfl rfl rfl hb
      · go_enter Tryd.func11, Tryd.ntmps11
        go_wp2_with fail
        refine (splitRpm_any (bs l) _ (by rw [bs_size]; omega)).mono ?_
        rintro e w1 ⟨x, y, z, rfl, hxyz, hb⟩
        rw [bs_list] at hxyz ⊢
        have HH := Lib.hid hxyz
        clear hxyz
        cases hok : rOk l with
        | false =>
          go_wp2_with fail
          (try simp only [Exit.inBlock, Exit.then])
          refine bodyPost_ret (results4 rfl _ _ _) rfl ?_
          exact gives_bad w _ l 3 (by rw [HE.out, vOk2, hok]; rfl) (by decide) hb
        | true =>
          go_wp2_with fail
          (try simp only [Exit.inBlock, Exit.then])
          refine bodyPost_ret (results4 rfl _ _ _) rfl ?_
          obtain ⟨rfl, rfl, rfl⟩ := HH.out hok
          exact gives_ok w 2 l (by rw [HE.out, vOk2, hok]; rfl) rfl rfl rfl hb
      · go_enter Tryd.func11, Tryd.ntmps11
        go_wp2_with fail
        refine (pieces_any l _ hl hw).mono ?_
        rintro e w1 ⟨v, y, z, rfl, hxyz, hb⟩
        have HH := Lib.hid hxyz
        clear hxyz
        cases hok : (apkP l).isSome with
        | false =>
          go_wp2_with fail
          (try simp only [Exit.inBlock, Exit.then])
          refine bodyPost_ret (results4 rfl _ _ _) rfl ?_
          exact gives_bad w _ l 3 (by rw [HE.out, vOk3, hok]; rfl) (by decide) hb
        | true =>
          go_wp2_with fail
          (try simp only [Exit.inBlock, Exit.then])
          refine bodyPost_ret (results4 rfl _ _ _) rfl ?_
          obtain ⟨⟨ps, a, b⟩, hs⟩ := Option.isSome_iff_exists.1 hok
          obtain ⟨rfl, rfl, _⟩ := HH.out ps a b hs
          exact gives_ok w 3 l (by rw [HE.out, vOk3, hok]; rfl) (by rw [vPart3, apkT, hs]; rfl) (by rw [vPart3, apkT, hs]) (by rw [vPart3, apkT, hs]) hb
  · have n1 : (f != 1) = true := by simp; omega
    have n2 : (f != 2) = true := by simp; omega
    have n3 : (f != 3) = true := by simp; omega
    have HE : Hid (vErr f l = 9) := Lib.hid (by rw [vErr, if_neg h123])
    clear h123 hz
    go_enter Tryd.func11, Tryd.ntmps11
    go_wp2_with fail
    (try simp only [Exit.inBlock, Exit.then])
    refine bodyPost_ret (results4 rfl _ _ _) rfl ?_
    exact gives_bad w _ l 9 HE.out (by decide) (Below.refl _ _)
set_option maxHeartbeats 400000 in
theorem check_any (f : Int) (l : List UInt8) (w : World) (hl : l.length ≤ 1000000) (hw : Words w) :
    Calls Tryd.prog 13 #[.int .i64 f, .string (bs l)] w fun e w' => e = .returned (.int .i64 (vErr f l)) ∧ Below w.heap.size w w' := by
  go_enter Tryd.func13, Tryd.ntmps13
  go_wp2_with fail
  refine (split_any f l _ hl hw).mono ?_
  rintro e w1 ⟨rfl, hb⟩
  go_wp2_with fail
  go_ret
  exact ⟨rfl, hb⟩
end Go.Proofs.YtdnncbhbajciaaaDoor
