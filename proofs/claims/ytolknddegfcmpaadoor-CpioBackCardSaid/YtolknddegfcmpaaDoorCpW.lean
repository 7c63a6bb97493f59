/- The walk of cpio's awake. -/
import Derived.Test.YtolknddegfcmpaaDoorCpU
import Derived.Test.YtolknddegfcmpaaDoorCpG
import Derived.Test.YtolknddegfcmpaaDoorEnMN
import Derived.Lib.SmallJoins
namespace Go.Proofs.YtolknddegfcmpaaDoor
open Go.RowKit
theorem mem_facts {b : List UInt8} {p : Nat} {ns : List Nat} {nm d : List UInt8} {nx : Nat} (h : memS b p = .mem ns nm d nx) : ns.length = 13 ∧ (∀ x ∈ ns, x ≤ 4294967295) ∧ nm.length ≤ 200 ∧ d.length ≤ 1048576 ∧ p + 110 ≤ b.length := by
  rw [memS] at h
  split at h
  · cases h
  rename_i h1
  split at h
  · cases h
  rename_i h2
  rw [memB1] at h
  split at h
  · cases h
  rename_i h3
  split at h
  · cases h
  split at h
  · cases h
  split at h
  · cases h
  rw [memB2] at h
  split at h
  · cases h
  split at h
  · cases h
  rename_i h6
  injection h with e1 e2 e3 e4
  have hok : headOk (subB b p 110) = true := by
    cases hq : headOk (subB b p 110) with
    | true => rfl
    | false => exact absurd hq h2
  have h13 : okT ((subB b p 110).drop 6) 13 = true := by rw [headOk, Bool.and_eq_true] at hok; exact hok.2
  refine ⟨by rw [← e1]; exact numT_len _, by rw [← e1]; exact numT_le _ h13, ?_, ?_, by omega⟩
  · rw [← e2, List.length_take]; omega
  · rw [← e3, subB, List.length_take]; omega
/-- What an entry that is in no group comes to. -/
def stepM (L : List En) (ns : List Nat) (nm d : List UInt8) : Int × List En :=
  if ns.getD 1 0 / 4096 = 8 then (0, L ++ [entM nm 1 (ns.getD 1 0 % 4096) (ns.getD 3 0) (ns.getD 4 0) (ns.getD 5 0) [] d])
  else if ns.getD 1 0 / 4096 = 4 then (if d = [] then (0, L ++ [entM nm 2 (ns.getD 1 0 % 4096) (ns.getD 3 0) (ns.getD 4 0) (ns.getD 5 0) [] []]) else (3, L))
  else if ns.getD 1 0 / 4096 = 10 then (0, L ++ [entM nm 3 (ns.getD 1 0 % 4096) (ns.getD 3 0) (ns.getD 4 0) (ns.getD 5 0) d []])
  else (9, L)
theorem stepM_is (L : List En) (m0 : Obj) (x0 x1 x2 x3 x4 x5 x6 x7 x8 x9 x10 x11 x12 : Nat) (nm d : List UInt8) (GQ : Int → List En → Obj → Prop) (c : Int) (L' : List En) (m' : Obj) (h2 : ¬ 1 < x2) (h : entQ GQ L m0 nm (x1 / 4096) (x1 % 4096) x2 x3 x4 x5 d c L' m') :
    c = (stepM L [x0, x1, x2, x3, x4, x5, x6, x7, x8, x9, x10, x11, x12] nm d).1 ∧ L' = (stepM L [x0, x1, x2, x3, x4, x5, x6, x7, x8, x9, x10, x11, x12] nm d).2 ∧ m' = m0 := by
  have g1 : [x0, x1, x2, x3, x4, x5, x6, x7, x8, x9, x10, x11, x12].getD 1 0 = x1 := rfl
  have g3 : [x0, x1, x2, x3, x4, x5, x6, x7, x8, x9, x10, x11, x12].getD 3 0 = x3 := rfl
  have g4 : [x0, x1, x2, x3, x4, x5, x6, x7, x8, x9, x10, x11, x12].getD 4 0 = x4 := rfl
  have g5 : [x0, x1, x2, x3, x4, x5, x6, x7, x8, x9, x10, x11, x12].getD 5 0 = x5 := rfl
  rw [entQ] at h
  rw [stepM, g1, g3, g4, g5]
  by_cases h8 : x1 / 4096 = 8
  · rw [if_pos h8, if_neg h2] at h
    rw [if_pos h8]
    exact h
  rw [if_neg h8] at h
  rw [if_neg h8]
  by_cases h4 : x1 / 4096 = 4
  · rw [if_pos h4] at h
    rw [if_pos h4]
    by_cases hd : d = []
    · rw [if_pos hd] at h ⊢; exact h
    · rw [if_neg hd] at h ⊢; exact h
  rw [if_neg h4] at h
  rw [if_neg h4]
  by_cases h10 : x1 / 4096 = 10
  · rw [if_pos h10] at h ⊢; exact h
  · rw [if_neg h10] at h ⊢; exact h
theorem stepM_eb (L : List En) (ns : List Nat) (nm d : List UInt8) (hL : ∀ e ∈ L, EB e) (hn : nm.length ≤ 200) (hd : d.length ≤ 1048576) (h : (stepM L ns nm d).1 = 0) : (stepM L ns nm d).2.length = L.length + 1 ∧ ∀ e ∈ (stepM L ns nm d).2, EB e := by
  have key : ∀ e : En, EB e → (L ++ [e]).length = L.length + 1 ∧ ∀ x ∈ L ++ [e], EB x := fun e he => ⟨by simp, fun x hx => by
    rw [List.mem_append, List.mem_singleton] at hx
    rcases hx with hx | hx
    · exact hL x hx
    · rw [hx]; exact he⟩
  rw [stepM] at h ⊢
  by_cases h8 : ns.getD 1 0 / 4096 = 8
  · rw [if_pos h8]; exact key _ ⟨by simp [entM]; omega, by simp [entM], by simp [entM], by simp [entM]⟩
  rw [if_neg h8] at h ⊢
  by_cases h4 : ns.getD 1 0 / 4096 = 4
  · rw [if_pos h4] at h ⊢
    by_cases hdd : d = []
    · rw [if_pos hdd]; exact key _ ⟨by simp [entM]; omega, by simp [entM], by simp [entM], by simp [entM]⟩
    · rw [if_neg hdd] at h; exact absurd (show (3 : Int) = 0 from h) (by decide)
  rw [if_neg h4] at h ⊢
  by_cases h10 : ns.getD 1 0 / 4096 = 10
  · rw [if_pos h10]; exact key _ ⟨by simp [entM]; omega, by simp [entM], by simp [entM], by simp [entM]; omega⟩
  · rw [if_neg h10] at h; exact absurd (show (9 : Int) = 0 from h) (by decide)
/-- Does no member of those bytes have more links than one? -/
def lone (b : List UInt8) : Bool := (List.range b.length).all fun p => match memS b p with
  | .mem ns _ _ _ => decide (ns.getD 2 0 ≤ 1)
  | _ => true
theorem lone_at {b : List UInt8} (h : lone b = true) {p : Nat} {ns : List Nat} {nm d : List UInt8} {nx : Nat} (hm : memS b p = .mem ns nm d nx) : ns.getD 2 0 ≤ 1 := by
  have hp : p < b.length := by have := (mem_facts hm).2.2.2.2; omega
  have := List.all_eq_true.1 h p (List.mem_range.2 hp)
  rw [hm] at this
  exact of_decide_eq_true this
theorem read_lone (bv : Value) (bb : List UInt8) (X : Nat → Prop) (w : World) (hb : Sl 1 Rbyte X w bv bb) (hbl : bb.length ≤ 400000) (hl : lone bb = true) :
    Calls Tryd.prog 12 #[bv] w (ReadP w (readA (runR (fun (_ : Unit) L ns nm d => ((stepM L ns nm d).1, (stepM L ns nm d).2, ())) bb (bb.length + 1) () [] [] 0))) := by
  refine read_any (MM := fun _ _ _ => True) bv bb X w hb hbl () trivial (fun s L ns nm d nx p hm hE h => stepM_eb L ns nm d hE (mem_facts hm).2.2.1 (mem_facts hm).2.2.2.1 h) ?_
  intro gr mf bv lv pv L f PL mo s W ns nm d nx p dv hm hL hE _ rd hd
  obtain ⟨h13, hle, hn, hdl, _⟩ := mem_facts hm
  have h2 := lone_at hl hm
  obtain ⟨x0, x1, x2, x3, x4, x5, x6, x7, x8, x9, x10, x11, x12, rfl⟩ := list13 ns h13
  have hx1 : x1 ≤ 4294967295 := hle x1 (by simp)
  have h2 : x2 ≤ 1 := h2
  refine (entry_any w gr mf bv lv pv L f PL mo W rd (by omega) x0 x1 x2 x3 x4 x5 x6 x7 x8 x9 x10 x11 x12 hx1 nm dv d hd (by omega) (fun _ _ _ => False) (fun _ h => absurd h (by omega))).mono ?_
  rintro r w' ⟨c, lv', f', L', mo', hr, rd', hk, hq⟩
  obtain ⟨e1, e2, e3⟩ := stepM_is L mo x0 x1 x2 x3 x4 x5 x6 x7 x8 x9 x10 x11 x12 nm d _ c L' mo' (by omega) hq
  refine ⟨c, lv', f', L', mo', hr, rd', hk, e1, fun _ => ⟨e2, trivial⟩, fun hc => ?_⟩
  rw [e2]
  rw [e1] at hc
  rw [stepM] at hc ⊢
  split
  · rw [if_pos ‹_›] at hc; exact absurd rfl hc
  · rw [if_neg ‹_›] at hc
    split
    · rw [if_pos ‹_›] at hc
      split
      · rw [if_pos ‹_›] at hc; exact absurd rfl hc
      · rfl
    · rw [if_neg ‹_›] at hc
      split
      · rw [if_pos ‹_›] at hc; exact absurd rfl hc
      · rfl
def awC : En := ⟨[97], 1, 420, 0, 0, [], [], 0, [], [120]⟩
theorem awC_err : cpErr [awC] = 0 := by decide +kernel
theorem awC_len : (arcB [awC]).length = 240 := by decide +kernel
theorem awC_lone : lone (arcB [awC]) = true := by decide +kernel
theorem awC_read : readA (runR (fun (_ : Unit) L ns nm d => ((stepM L ns nm d).1, (stepM L ns nm d).2, ())) (arcB [awC]) 241 () [] [] 0) = ([awC], 0, 0) := by kernel_rfl
def awCells (g : Nat) : Array Value := #[.string ⟨#[97]⟩, .int .i64 1, .int .i64 420, .int .i64 0, .int .i64 0, .string ⟨#[]⟩, .string ⟨#[]⟩, .int .i64 0, .string ⟨#[]⟩, .slice (some ⟨g, 0, none⟩) 1 1]
theorem aw_init (w : World) : ∃ W, W = (w.alloc (.cells #[.int .u8 120] 5 (1, 2))).alloc (.cells (awCells w.heap.size) tE) ∧ Below w.heap.size w W ∧ Sl 10 Rent nowhere W (.slice (some ⟨w.heap.size + 1, 0, none⟩) 1 1) [awC] := by
  refine ⟨_, rfl, ?_⟩
  have h1 : Below w.heap.size w (w.alloc (.cells #[.int .u8 120] 5 (1, 2))) := (Below.refl _ _).alloc (Nat.le_refl _) _
  have h2 : (w.alloc (.cells #[.int .u8 120] 5 (1, 2))).heap[w.heap.size]? = some (.cells #[.int .u8 120] 5 (1, 2)) := heap_alloc_new w _
  generalize hg : w.heap.size = g at h1 h2 ⊢
  have hs : (w.alloc (.cells #[.int .u8 120] 5 (1, 2))).heap.size = g + 1 := by rw [← hg]; simp
  generalize w.alloc (.cells #[.int .u8 120] 5 (1, 2)) = W1 at h1 h2 hs ⊢
  have b : Blk (W1.alloc (.cells (awCells g) tE)) W1.heap.size tE (ofC [awC] (fun _ => .slice (some ⟨g, 0, none⟩) 1 1)).toArray := Blk.new W1 tE (awCells g)
  have hb : Below W1.heap.size W1 (W1.alloc (.cells (awCells g) tE)) := (Below.refl _ _).alloc (Nat.le_refl _) _
  have d1 : Sl 1 Rbyte nowhere W1 (.slice (some ⟨g, 0, none⟩) 1 1) [120] := lit_bytes [120] h2 (by decide) (fun h => h)
  rw [hs] at b
  refine ⟨h1.trans (hb.mono (by omega)), lit_ents [awC] _ b (by decide) (fun h => h) fun j hj => ?_⟩
  match j, hj with
  | 0, _ => exact Below.sl good_byte hb d1
theorem own_sl8 {w : World} {base : Nat} {v : Value} {l : List UInt8} (h : w.ownsRow base 5 1 v l.length (bvs l)) : Sl 1 Rbyte nowhere w v l := by
  have ho : OwnL 1 Rbyte 5 base nowhere w v l := by
    refine ⟨l.map fun b => [.int .u8 (b.toNat : Int)], ?_, by simp, (fun _ _ h => h), fun j h h' => by simp [Rbyte]⟩
    have : (l.map fun b => [Value.int .u8 (b.toNat : Int)]).flatten = bvs l := by
      clear h
      induction l with
      | nil => rfl
      | cons c t ih => rw [List.map_cons, List.flatten_cons, ih]; rfl
    rw [this]; exact h
  exact ho.sl good_byte
theorem awC_lb : LB [awC] := ⟨by decide, fun e he => by rw [List.mem_singleton] at he; subst he; exact ⟨by decide, by decide, by decide, by decide⟩⟩
theorem awC_small : SmallL [awC] := ⟨by decide, fun e he => by rw [List.mem_singleton] at he; subst he; exact ⟨by decide, by decide, by decide⟩⟩
set_option maxRecDepth 20000 in
set_option maxHeartbeats 8000000 in
theorem awakeC (w : World) : Calls Tryd.prog 7 #[] w fun e w' => e = .returned (.bool true) ∧ Below w.heap.size w w' := by
  go_enter Tryd.func7, Tryd.ntmps7
  go_upto_region 1 with fail
  have hcv : (convert 26 26 (.slice (some ⟨w.heap.size, 0, none⟩) 1 1)).run Tryd.prog (w.alloc (.cells #[.int .u8 120] 5)) = .ok (.slice (some ⟨w.heap.size, 0, none⟩) 1 1) (w.alloc (.cells #[.int .u8 120] 5 (1, 2))) := Lib.run_convert_bytes_const w _ _ #[.int .u8 120] 1 1 Tryd.underlying26 Tryd.underlying5
  obtain ⟨W2, hW2, hbW, hsl⟩ := aw_init w
  go_upto_region 2 with (go_at_call 10; rw [show (w.alloc (.cells #[.int .u8 120] 5 (1, 2))).alloc (.cells #[.string ⟨#[97]⟩, .int .i64 1, .int .i64 420, .int .i64 0, .int .i64 0, .string ⟨#[]⟩, .string ⟨#[]⟩, .int .i64 0, .string ⟨#[]⟩, .slice (some ⟨w.heap.size, 0, none⟩) 1 1] tE) = W2 from hW2.symm]; refine (write_any [awC] _ nowhere W2 hsl awC_lb awC_small).mono ?_; rintro e W3 ⟨v, rfl, hb3, how⟩; rw [awC_err]; rw [if_pos awC_err] at how)
  have q3 := hbW.trans (hb3.mono hbW.size)
  have hsb := how
  have hlen := awC_len
  have hslb : Sl 1 Rbyte nowhere W3 v (arcB [awC]) := own_sl8 how
  have hr := read_lone v (arcB [awC]) nowhere W3 hslb (by rw [awC_len]; omega) awC_lone
  rw [awC_len, awC_read] at hr
  obtain ⟨Av, cv, hv⟩ := own_form how
  rw [awC_len] at hv
  subst hv
  clear hsb how hslb hcv hW2 hsl hbW hb3
  go_upto_region 3 with (go_at_call 12; refine hr.mono ?_; rintro e W4 ⟨⟨v4, f4, rfl, he4, hf4⟩, hb4⟩; obtain ⟨g4, c4, rfl, hB4, _, _, _⟩ := he4.form (by decide))
  have hbA : Below W4.heap.size W4 (W4.alloc (.cells #[.string ⟨#[]⟩, .int .i64 0, .int .i64 0] 32)) := (Below.refl _ _).alloc (Nat.le_refl _) _
  have bA := Blk.new W4 32 #[.string ⟨#[]⟩, .int .i64 0, .int .i64 0]
  have e0 := (he4.cell 0 (by decide)).below hbA
  have d0 := Below.sl good_byte hbA (he4.dat 0 (by decide))
  have q5 := (q3.trans (hb4.mono q3.size)).trans (hbA.mono (q3.trans (hb4.mono q3.size)).size)
  clear he4 hf4 hb4 hbA hr
  generalize W4.alloc (.cells #[.string ⟨#[]⟩, .int .i64 0, .int .i64 0] 32) = W5 at e0 d0 bA q5 ⊢
  generalize W4.heap.size = gA at bA ⊢
  obtain ⟨c0, c1, c2, _, _, _, _, _, _, c9⟩ := e0
  obtain ⟨A9, k9, hv9, _⟩ := d0.form
  rw [hv9] at c9 d0
  have hst := str8 d0.sb8
  have z0 := bA.cell 0
  have z1 := bA.cell 1
  have z2 := bA.cell 2
  simp at z0 z1 z2
  have k0 : awC.path = [97] := rfl
  have k2 : awC.mode = 420 := rfl
  have k3 : awC.data = [120] := rfl
  simp only [Nat.zero_mul, Nat.zero_add, List.getElem_cons_zero] at c0 c2 c9 hst
  rw [k0] at c0
  rw [k2] at c2
  rw [k3] at c9 hst
  simp only [bs, List.length_cons, List.length_nil] at c0 c2 c9 hst
  clear d0 bA hv9 c1
  go_wp2_with fail
  go_ret
  exact ⟨rfl, q5⟩
end Go.Proofs.YtolknddegfcmpaaDoor
