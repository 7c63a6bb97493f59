/- What cpio.Read answers to any bytes, hard links too. -/
import Derived.Test.YtolknddegfcmpaaDoorCqC
namespace Go.Proofs.YtolknddegfcmpaaDoor
open Go.RowKit
theorem stepM_keep (L : List En) (ns : List Nat) (nm d : List UInt8) (h : (stepM L ns nm d).1 ≠ 0) : (stepM L ns nm d).2 = L := by
  rw [stepM] at h ⊢
  split
  · rw [if_pos ‹_›] at h; exact absurd rfl h
  · rw [if_neg ‹_›] at h
    split
    · rw [if_pos ‹_›] at h
      split
      · rw [if_pos ‹_›] at h; exact absurd rfl h
      · rfl
    · rw [if_neg ‹_›] at h
      split
      · rw [if_pos ‹_›] at h; exact absurd rfl h
      · rfl
theorem stepG_eb (s : List (List Nat × Nat)) (L : List En) (ns : List Nat) (nm d : List UInt8) (hL : ∀ e ∈ L, EB e) (hn : nm.length ≤ 200) (hd : d.length ≤ 1048576) (h : (stepG s L ns nm d).1 = 0) : (stepG s L ns nm d).2.1.length = L.length + 1 ∧ ∀ e ∈ (stepG s L ns nm d).2.1, EB e := by
  have key : ∀ (M : List En) (e : En), M.length = L.length → (∀ x ∈ M, EB x) → EB e → (M ++ [e]).length = L.length + 1 ∧ ∀ x ∈ M ++ [e], EB x := fun M e hl hM he => ⟨by simp [hl], fun x hx => by
    rw [List.mem_append, List.mem_singleton] at hx
    rcases hx with hx | hx
    · exact hM x hx
    · rw [hx]; exact he⟩
  unfold stepG at h ⊢
  by_cases hg : grouped ns
  · rw [if_pos hg] at h ⊢
    simp only at h ⊢
    cases hf : findP (keyG ns) s with
    | none => exact key _ _ rfl hL ⟨by simp [entM]; omega, by simp [entM], by simp [entM], by simp [entM]⟩
    | some i =>
      rw [hf] at h
      unfold grpC at h ⊢
      cases hi : L[i]? with
      | none => simp only [hi] at h; exact absurd (show (3 : Int) = 0 from h) (by decide)
      | some x =>
        simp only [hi] at h ⊢
        have hx : x ∈ L := List.mem_of_getElem? hi
        split
        · rw [if_pos ‹_›] at h; exact absurd (show (3 : Int) = 0 from h) (by decide)
        rw [if_neg ‹_›] at h
        split
        · rw [if_pos ‹_›] at h; exact absurd (show (3 : Int) = 0 from h) (by decide)
        have hxe := hL x hx
        refine key _ _ (by split <;> simp) ?_ ⟨by simp [entM]; omega, by simp [entM], by simp [entM], hxe.1⟩
        intro y hy
        split at hy
        · exact hL y hy
        · rcases List.mem_or_eq_of_mem_set hy with hy | rfl
          · exact hL y hy
          · exact hxe
  · rw [if_neg hg] at h ⊢
    exact stepM_eb L ns nm d hL hn hd h
def MG (mo : Obj) (s : List (List Nat × Nat)) (L : List En) : Prop := MapR 5 mo s ∧ FA s L ∧ DB L
theorem read_all (bv : Value) (bb : List UInt8) (X : Nat → Prop) (w : World) (hb : Sl 1 Rbyte X w bv bb) (hbl : bb.length ≤ 400000) :
    Calls Tryd.prog 12 #[bv] w (ReadP w (readA (runR stepG bb (bb.length + 1) [] [] [] 0))) := by
  refine read_any (MM := MG) bv bb X w hb hbl [] ⟨MapR.nil 5, (fun k i h => by cases h), fun e h => by cases h⟩ (fun s L ns nm d nx p hm hE h => stepG_eb s L ns nm d hE (mem_facts hm).2.2.1 (mem_facts hm).2.2.2.1 h) ?_
  intro gr mf bv lv pv L f PL mo s W ns nm d nx p dv hm hL hE hMM rd hd
  obtain ⟨hMR, hFA, hDB⟩ := hMM
  obtain ⟨h13, hle, hn, hdl, _⟩ := mem_facts hm
  have hG := fun h0 => stepG_grows hFA hDB ns nm d hdl h0
  have hF := fun h0 => stepG_fa hFA hDB ns nm d hdl h0
  obtain ⟨x0, x1, x2, x3, x4, x5, x6, x7, x8, x9, x10, x11, x12, rfl⟩ := list13 ns h13
  have hx1 : x1 ≤ 4294967295 := hle x1 (by simp)
  refine (entry_any w gr mf bv lv pv L f PL mo W rd (by omega) x0 x1 x2 x3 x4 x5 x6 x7 x8 x9 x10 x11 x12 hx1 nm dv d hd (by omega) _ (fun _ _ W' rd' => grouped_any w gr mf bv lv pv L f PL mo W' rd' (by omega) x0 x1 x2 x3 x4 x5 x6 x7 x8 x9 x10 x11 x12 (x1 % 4096) nm dv d hd (by omega) s hMR (hFA _))).mono ?_
  rintro r w' ⟨c, lv', f', L', mo', hr, rd', hk, hq⟩
  refine ⟨c, lv', f', L', mo', hr, rd', hk, ?_⟩
  by_cases hg : grouped [x0, x1, x2, x3, x4, x5, x6, x7, x8, x9, x10, x11, x12]
  · have h8 : x1 / 4096 = 8 := hg.1
    have h2 : 1 < x2 := hg.2
    rw [entQ, if_pos h8, if_pos h2] at hq
    obtain ⟨e1, e2, e3⟩ := hq
    have est : stepG s L [x0, x1, x2, x3, x4, x5, x6, x7, x8, x9, x10, x11, x12] nm d = ((grpV (findP [x0, x7, x8, x9, x10] s) L nm (x1 % 4096) x3 x4 x5 d).1, (grpV (findP [x0, x7, x8, x9, x10] s) L nm (x1 % 4096) x3 x4 x5 d).2, if findP [x0, x7, x8, x9, x10] s = none then s ++ [([x0, x7, x8, x9, x10], L.length)] else s) := by
      rw [stepG, if_pos hg]; rfl
    rw [est] at hG hF ⊢
    refine ⟨e1, fun h0 => ?_, e3⟩
    obtain ⟨a1, a2⟩ := e2 h0
    refine ⟨a1, a2, ?_, ?_⟩
    · rw [a1]; exact hF (by rw [← e1]; exact h0)
    · rw [a1]; exact grows_db (hG (by rw [← e1]; exact h0))
  · have est : stepG s L [x0, x1, x2, x3, x4, x5, x6, x7, x8, x9, x10, x11, x12] nm d = ((stepM L [x0, x1, x2, x3, x4, x5, x6, x7, x8, x9, x10, x11, x12] nm d).1, (stepM L [x0, x1, x2, x3, x4, x5, x6, x7, x8, x9, x10, x11, x12] nm d).2, s) := by
      rw [stepG, if_neg hg]
    have hs : c = (stepM L [x0, x1, x2, x3, x4, x5, x6, x7, x8, x9, x10, x11, x12] nm d).1 ∧ L' = (stepM L [x0, x1, x2, x3, x4, x5, x6, x7, x8, x9, x10, x11, x12] nm d).2 ∧ mo' = mo := by
      by_cases h2 : 1 < x2
      · have h8 : ¬ x1 / 4096 = 8 := fun h => hg ⟨h, h2⟩
        rw [entQ, if_neg h8] at hq
        exact stepM_is L mo x0 x1 0 x3 x4 x5 x6 x7 x8 x9 x10 x11 x12 nm d (fun _ _ _ => False) c L' mo' (by omega) (by rw [entQ, if_neg h8]; exact hq)
      · exact stepM_is L mo x0 x1 x2 x3 x4 x5 x6 x7 x8 x9 x10 x11 x12 nm d _ c L' mo' h2 hq
    obtain ⟨e1, e2, e3⟩ := hs
    rw [est] at hG hF ⊢
    refine ⟨e1, fun h0 => ⟨e2, by rw [e3]; exact hMR, ?_, ?_⟩, fun hc => ?_⟩
    · rw [e2]; exact hF (by rw [← e1]; exact h0)
    · rw [e2]; exact grows_db (hG (by rw [← e1]; exact h0))
    · rw [e2]; exact stepM_keep L _ nm d (by rw [← e1]; exact hc)
end Go.Proofs.YtolknddegfcmpaaDoor
