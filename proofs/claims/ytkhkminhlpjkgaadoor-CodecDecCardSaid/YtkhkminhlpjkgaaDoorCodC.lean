/- Walks of codec's functions for signs of six bits. -/
import Derived.Test.YtkhkminhlpjkgaaDoorCodB
import Derived.Laws.CopyOwn
namespace Go.Proofs.YtkhkminhlpjkgaaDoor
open Go.RowKit
def lenV : Value → Nat | .slice _ n _ => n | _ => 0
theorem splice_pad (rest : List UInt8) (h : rest ≠ []) :
    splice [Value.int .u8 0, .int .u8 0, .int .u8 0] 0 (bvs (rest.take 3)) = [.int .u8 ((rest.getD 0 0).toNat : Int), .int .u8 ((rest.getD 1 0).toNat : Int), .int .u8 ((rest.getD 2 0).toNat : Int)] := by
  match rest, h with
  | a :: b :: c :: r, _ => simp [splice, bvs, bv]
  | [a, b], _ => simp [splice, bvs, bv]
  | [a], _ => simp [splice, bvs, bv]
theorem bits3_or (a b c : UInt8) : bits .or .i64 (bits .or .i64 ((a.toNat : Int) * 65536) ((b.toNat : Int) * 256)) (c.toNat : Int) = ((bits3 a b c : Nat) : Int) := by
  have ha := a.toNat_lt; have hb := b.toNat_lt; have hc := c.toNat_lt
  have h1 : ((a.toNat : Int) * 65536) = ((2 ^ 16 * a.toNat : Nat) : Int) := by omega
  have h2 : ((b.toNat : Int) * 256) = ((2 ^ 8 * b.toNat : Nat) : Int) := by omega
  rw [h1, h2, bits_or_i64 _ _ (by omega) (by omega)]
  rw [← Nat.two_pow_add_eq_or_of_lt (i := 16) (by omega) a.toNat]
  rw [show 2 ^ 16 * a.toNat + 2 ^ 8 * b.toNat = 2 ^ 8 * (2 ^ 8 * a.toNat + b.toNat) by omega]
  rw [bits_or_i64 _ _ (by omega) (by omega), ← Nat.two_pow_add_eq_or_of_lt (i := 8) (by omega)]
  unfold bits3
  congr 1
  omega
set_option maxHeartbeats 1000000 in
theorem base64_any (v : Value) (l : List UInt8) (w : World) (h : SB w v l) (hl : l.length ≤ 1000000000000) :
    Calls Tryd.prog 16 #[v] w fun e w' => e = .returned (.string ⟨(base64L l).toArray⟩) ∧ Below w.heap.size w w' := by
  have h' := h
  obtain ⟨A0, cap0, rfl, _⟩ := h'
  go_enter Tryd.func16, Tryd.ntmps16
  go_wp2
  go_loopw [0, 3] (fun b v wr => ∃ done rest : List UInt8, l = done ++ rest ∧ (rest = [] ∨ done.length % 3 = 0) ∧ SB w b rest ∧ wr.ownsRow w.heap.size 5 1 v (base64L done).length (bvs (base64L done)) ∧ Below w.heap.size w wr) (fun b _ _ => lenV b)
  case atStart => exact ⟨[], l, rfl, .inr rfl, h, World.ownsRow_nil _ _ _ _, Below.refl _ _⟩
  case round =>
    obtain ⟨done, rest, hlr, hd3, hsb, hown, hbw⟩ := hrel
    obtain ⟨wo, rfl⟩ : ∃ wo : World, wo = wr := ⟨_, rfl⟩
    obtain ⟨A, cap, rfl, h1, h2, h3, h4⟩ := hsb
    have Hlr := Lib.hid hlr
    clear hlr
    unfold maxLen at h2
    by_cases hne : rest = []
    · subst hne
      have hstr := (SB.of_own hown).str 22 5 9 Tryd.underlying22 Tryd.underlying5 Tryd.underlying9
      clear h4
      go_wp2
      go_ret
      exact ⟨by rw [Hlr.out, List.append_nil]; rfl, hbw⟩
    · have hpos : 0 < rest.length := List.length_pos_iff.2 hne
      have hd3 := hd3.resolve_left hne
      obtain ⟨a, b, c, Habc⟩ : ∃ a b c : UInt8, Hid (a = rest.getD 0 0 ∧ b = rest.getD 1 0 ∧ c = rest.getD 2 0) := ⟨_, _, _, rfl, rfl, rfl⟩
      obtain ⟨m, Hm⟩ : ∃ m, Hid (m = min rest.length 3) := ⟨_, rfl⟩
      have hm1 : 1 ≤ m := by have := Hm.out; omega
      have hm2 : m ≤ 3 := by have := Hm.out; omega
      have hm3 : m ≤ rest.length := by have := Hm.out; omega
      obtain ⟨cs, Hcs⟩ : ∃ cs, Hid (cs = bvs (rest.take 3)) := ⟨_, rfl⟩
      have hcl : cs.length = m := by rw [Hcs.out, bvs_length, List.length_take, Hm.out, Nat.min_comm]
      have Hcl := Lib.hid hcl
      obtain ⟨bb, off, rfl, hc⟩ := h4 hne
      have hbb : bb < w.heap.size := lt_of_cell (hc 0 hpos)
      have hsz := hbw.size
      have hsb : SB w (.slice (some ⟨bb, off, none⟩) rest.length cap) rest := ⟨_, _, rfl, h1, h2, h3, h4⟩
      obtain ⟨A5, cap5, hsl, hsb5⟩ := hsb.from_ (P := Tryd.prog) 22 5 Tryd.underlying22 (by kernel_rfl) m hm3
      go_wp2_with (with_reducible refine wpList_copy_splice rfl (.tmp 11) (.tmp 12) _ _ rfl _ Tryd.underlying22 (by kernel_rfl) (some ⟨wo.heap.size, 0, none⟩) (some ⟨bb, off, none⟩) 3 3 rest.length cap rfl rfl wo.heap.size 0 [.int .u8 0, .int .u8 0, .int .u8 0] _ (heap_alloc_new wo _) cs ?hn ?hpos ?hfit ?h1 wo.heap.size wo ((Below.refl _ _).alloc (Nat.le_refl _) _) (Nat.le_refl _) ?_)
      case hn => rw [Hcl.out, Hm.out]
      case hpos =>
        intro _
        have hcs : ∀ (j : Nat) (u : Value), cs[j]? = some u → w.cell? ⟨bb, off + j, none⟩ = some u := fun j u hu => by
          rw [Hcs.out] at hu
          have hj : j < rest.length ∧ j < 3 := by
            have := (List.getElem?_eq_some_iff.1 hu).1
            rw [bvs_length, List.length_take] at this
            omega
          rw [hc j hj.1]
          rw [bvs_get _ _ (by rw [List.length_take]; omega)] at hu
          simpa using hu
        first
        | exact fun j u hu => by rw [World.cell?_alloc_lt _ _ _ (by show bb < _; omega), hbw.cell (p := ⟨bb, off + j, none⟩) hbb]; exact hcs j u hu
        | exact ⟨rfl, _, rfl, fun j u hu => by rw [Addr.add_lit, World.cell?_alloc_lt _ _ _ (by show bb < _; omega), hbw.cell (p := ⟨bb, off + j, none⟩) hbb]; exact hcs j u hu⟩
      case hfit => rw [Hcl.out]; simp; omega
      case h1 => rw [Hcs.out]; exact bvs_one _
      intro w2 hg2 hb2
      have hown2 := own_below hown hb2
      have hbw2 : Below w.heap.size w w2 := hbw.trans (hb2.mono hsz)
      have hB2 : Blk w2 wo.heap.size 48 #[.int .u8 (a.toNat : Int), .int .u8 (b.toNat : Int), .int .u8 (c.toNat : Int)] := by
        have := hg2.out
        rw [Hcs.out, splice_pad rest hne, ← Habc.out.1, ← Habc.out.2.1, ← Habc.out.2.2] at this
        exact this
      have d0 : w2.cell? ⟨wo.heap.size, 0, none⟩ = some (.int .u8 (a.toNat : Int)) := hB2.cell 0
      have d1 : w2.cell? ⟨wo.heap.size, 1, none⟩ = some (.int .u8 (b.toNat : Int)) := hB2.cell 1
      have d2 : w2.cell? ⟨wo.heap.size, 2, none⟩ = some (.int .u8 (c.toNat : Int)) := hB2.cell 2
      have hor := bits3_or a b c
      have ha := a.toNat_lt
      have hb := b.toNat_lt
      have hc3 := c.toNat_lt
      have h4len : (four a b c m).length = 4 := rfl
      have H4 := Lib.hid h4len
      clear h4len
      go_wp2
      have hd4 : (base64L done).length ≤ 2000000000000 := by have h1 := base64L_length done; have h2 := congrArg List.length Hlr.out; rw [List.length_append] at h2; omega
      have hbits := bits3_lt a b c
      go_loopw [3, 30] (fun v i w3 => ∃ k : Nat, k ≤ 4 ∧ i = .int .i64 k ∧ w3.ownsRow w.heap.size 5 1 v ((base64L done).length + k) (bvs (base64L done ++ (four a b c m).take k)) ∧ Below w.heap.size w w3) (fun _ i _ => 4 - (intOf i).toNat)
      case atStart => exact ⟨0, Nat.zero_le _, rfl, by simpa using hown2, hbw2⟩
      case round =>
        obtain ⟨k, hk, rfl, hown3, hbw3⟩ := hrel
        have hsz3 := hbw3.size
        by_cases hk4 : k < 4
        · have Hk4 : Hid ((four a b c m).take (k + 1) = (four a b c m).take k ++ [sign4 a b c m k]) := by
            obtain rfl | rfl | rfl | rfl : k = 0 ∨ k = 1 ∨ k = 2 ∨ k = 3 := by omega
            all_goals rfl
          by_cases hmk : m < k
          · have Hs : Hid (sign4 a b c m k = 61) := if_pos hmk
            go_wp2_with (at_builtin; refine wpList_append8 rfl _ _ _ _ rfl Tryd.underlying22 u8info w.heap.size u3 ((base64L done).length + k) _ rfl (hown3.alloc _) _ 1 1 [61] rfl (SB.made wr [61] _ _ rfl (by unfold maxLen; simp)) (by omega) (by simp; omega) ?_; intro v4 w4 hown4 hb4 hg4)
            have hb5 : Below w.heap.size w w4 := (hbw3.alloc hsz3 _).trans hb4
            go_roundw
            case rel => exact ⟨k + 1, by omega, by go_num, by rw [Hk4.out, Hs.out, ← List.append_assoc]; exact hown4, hb5⟩
            case measure => simp [intOf]; omega
          · obtain ⟨q, Hq⟩ : ∃ q, Hid (q = bits3 a b c / 2 ^ (18 - 6 * k) % 64) := ⟨_, rfl⟩
            have hq64 : q < 64 := by rw [Hq.out]; omega
            have Hs : Hid (sign4 a b c m k = signD q) := by rw [Hq.out]; exact if_neg hmk
            have hget := signD_get
            obtain rfl | rfl | rfl | rfl : k = 0 ∨ k = 1 ∨ k = 2 ∨ k = 3 := by omega
            · have hand : bits .and .i64 ((bits3 a b c : Int) / 262144) 63 = (q : Int) := by
                have := and63 (bits3 a b c / 262144) (by omega)
                rw [Hq.out]; simpa using this
              go_wp2_with (at_builtin; refine wpList_append8 rfl _ _ _ _ rfl Tryd.underlying22 u8info w.heap.size u3 ((base64L done).length + 0) _ rfl (hown3.alloc _) _ 1 1 [signD q] rfl (SB.made wr [signD q] _ _ rfl (by unfold maxLen; simp)) (by omega) (by simp; omega) ?_; intro v4 w4 hown4 hb4 hg4)
              have hb5 : Below w.heap.size w w4 := (hbw3.alloc hsz3 _).trans hb4
              go_roundw
              case rel => exact ⟨1, by omega, by go_num, by rw [Hk4.out, Hs.out, ← List.append_assoc]; exact hown4, hb5⟩
              case measure => simp [intOf]
            · have hand : bits .and .i64 ((bits3 a b c : Int) / 4096) 63 = (q : Int) := by
                have := and63 (bits3 a b c / 4096) (by omega)
                rw [Hq.out]; simpa using this
              go_wp2_with (at_builtin; refine wpList_append8 rfl _ _ _ _ rfl Tryd.underlying22 u8info w.heap.size u3 ((base64L done).length + 1) _ rfl (hown3.alloc _) _ 1 1 [signD q] rfl (SB.made wr [signD q] _ _ rfl (by unfold maxLen; simp)) (by omega) (by simp; omega) ?_; intro v4 w4 hown4 hb4 hg4)
              have hb5 : Below w.heap.size w w4 := (hbw3.alloc hsz3 _).trans hb4
              go_roundw
              case rel => exact ⟨2, by omega, by go_num, by rw [Hk4.out, Hs.out, ← List.append_assoc]; exact hown4, hb5⟩
              case measure => simp [intOf]
            · have hand : bits .and .i64 ((bits3 a b c : Int) / 64) 63 = (q : Int) := by
                have := and63 (bits3 a b c / 64) (by omega)
                rw [Hq.out]; simpa using this
              go_wp2_with (at_builtin; refine wpList_append8 rfl _ _ _ _ rfl Tryd.underlying22 u8info w.heap.size u3 ((base64L done).length + 2) _ rfl (hown3.alloc _) _ 1 1 [signD q] rfl (SB.made wr [signD q] _ _ rfl (by unfold maxLen; simp)) (by omega) (by simp; omega) ?_; intro v4 w4 hown4 hb4 hg4)
              have hb5 : Below w.heap.size w w4 := (hbw3.alloc hsz3 _).trans hb4
              go_roundw
              case rel => exact ⟨3, by omega, by go_num, by rw [Hk4.out, Hs.out, ← List.append_assoc]; exact hown4, hb5⟩
              case measure => simp [intOf]
            · have hand : bits .and .i64 (bits3 a b c : Int) 63 = (q : Int) := by
                have := and63 (bits3 a b c) (by omega)
                rw [Hq.out]; simpa using this
              go_wp2_with (at_builtin; refine wpList_append8 rfl _ _ _ _ rfl Tryd.underlying22 u8info w.heap.size u3 ((base64L done).length + 3) _ rfl (hown3.alloc _) _ 1 1 [signD q] rfl (SB.made wr [signD q] _ _ rfl (by unfold maxLen; simp)) (by omega) (by simp; omega) ?_; intro v4 w4 hown4 hb4 hg4)
              have hb5 : Below w.heap.size w w4 := (hbw3.alloc hsz3 _).trans hb4
              go_roundw
              case rel => exact ⟨4, by omega, by go_num, by rw [Hk4.out, Hs.out, ← List.append_assoc]; exact hown4, hb5⟩
              case measure => simp [intOf]
        · go_wp2
          obtain rfl : k = 4 := by omega
          rw [show (four a b c m).take 4 = four a b c m from rfl] at hown3
          have H64 : base64L (done ++ rest.take m) = base64L done ++ four a b c m := by
            rw [base64L_append _ _ hd3, Hm.out, base64L_take rest hne, ← Hm.out, Habc.out.1, Habc.out.2.1, Habc.out.2.2]
          go_roundw
          case rel =>
            refine ⟨done ++ rest.take m, rest.drop m, by rw [List.append_assoc, List.take_append_drop]; exact Hlr.out, ?_, hsb5, ?_, hbw3⟩
            · rcases Nat.lt_or_ge rest.length 3 with h | h
              · left
                exact List.drop_of_length_le (by have := Hm.out; omega)
              · right
                rw [List.length_append, List.length_take]
                have := Hm.out
                omega
            · rw [H64, List.length_append]
              exact hown3
          case measure => simp [lenV]; omega
end Go.Proofs.YtkhkminhlpjkgaaDoor
