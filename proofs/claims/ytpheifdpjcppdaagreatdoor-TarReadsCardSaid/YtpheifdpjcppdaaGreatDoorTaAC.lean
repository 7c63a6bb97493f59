/- Tar, in plain words: the heads of archives. Copies of texts into rows of bytes; the walk of tar.putHead's closure for texts. The walk of strconv.FormatInt at base 8. The walks of codec.Octal and of tar.putHead's closure for numbers. The walks of tar.sum, tar.empty, tar.putBytes; what tar.putHead has in memory; its closures. -/
import Derived.Test.YtpheifdpjcppdaaGreatDoorTxt
import Derived.Test.YtpheifdpjcppdaaGreatDoorArBs
import Derived.Test.YtpheifdpjcppdaaGreatDoorMapU
import Derived.Test.YtpheifdpjcppdaaGreatDoorPlaF
import Derived.Laws.CopyRow
import Derived.Laws.MakeOwn
import Derived.Laws.Bits64b
import Derived.Test.YtpheifdpjcppdaaGreatDoorShelfR
namespace Go.Proofs.YtpheifdpjcppdaaGreatDoor
open Go.RowKit
/-- The octal digits of a number. -/
def octD (n : Nat) : List UInt8 := if h : n < 8 then [UInt8.ofNat (48 + n)] else octD (n / 8) ++ [UInt8.ofNat (48 + n % 8)]
theorem oct_big {u : Nat} (h : ¬ u < 8) : octD u = octD (u / 8) ++ [UInt8.ofNat (48 + u % 8)] := by rw [octD, dif_neg h]
theorem oct_one {u : Nat} (h : u < 8) : octD u = [UInt8.ofNat (48 + u)] := by rw [octD, dif_pos h]
theorem octD_len : ∀ (k n : Nat), n < 8 ^ (k + 1) → (octD n).length ≤ k + 1
  | 0, n, h => by rw [oct_one (by omega)]; simp
  | k + 1, n, h => by
    by_cases hn : n < 8
    · rw [oct_one hn]; simp
    · rw [oct_big hn, List.length_append, List.length_singleton]
      rw [Nat.pow_succ] at h
      have := octD_len k (n / 8) (by omega)
      omega
theorem octD_pos (n : Nat) : 1 ≤ (octD n).length := by
  by_cases hn : n < 8
  · rw [oct_one hn]; simp
  · rw [oct_big hn]; simp
/-- A number's field: digits and a byte 00. -/
def octF (n w : Nat) : List UInt8 := List.replicate (w - 1 - (octD n).length) 48 ++ octD n ++ [0]
def fitsO (n w : Nat) : Prop := (octD n).length ≤ w - 1
theorem octF_len {n w : Nat} (h : fitsO n w) (hw : 1 ≤ w) : (octF n w).length = w := by
  unfold fitsO at h
  simp only [octF, List.length_append, List.length_replicate, List.length_cons, List.length_nil]
  omega
/-- The document's way to a number's digits: the last ones first. -/
def octG : Nat → Nat → List UInt8
  | 0, _ => []
  | k + 1, n => octG k (n / 8) ++ [UInt8.ofNat (48 + n % 8)]
theorem octG_len : ∀ k n, (octG k n).length = k
  | 0, _ => rfl
  | k + 1, n => by rw [octG, List.length_append, octG_len k (n / 8)]; rfl
theorem octG_zero : ∀ k, octG k 0 = List.replicate k 48
  | 0 => rfl
  | k + 1 => by
    rw [octG, octG_zero k, List.replicate_succ']
    rfl
theorem octG_is : ∀ k n, n < 8 ^ k → 1 ≤ k → octG k n = List.replicate (k - (octD n).length) 48 ++ octD n
  | 0, _, _, h => absurd h (by decide)
  | k + 1, n, h, _ => by
    rw [octG]
    by_cases hn : n < 8
    · rw [oct_one hn, show n / 8 = 0 by omega, octG_zero, show n % 8 = n by omega]
      rfl
    · have hk : 1 ≤ k := by
        rcases Nat.eq_zero_or_pos k with h0 | h0
        · subst h0; simp at h; omega
        · exact h0
      rw [Nat.pow_succ] at h
      rw [octG_is k (n / 8) (by omega) hk, oct_big hn, List.length_append, List.append_assoc]
      congr 2
      simp
/-- A text in a field of so many bytes. -/
def fixW (s : List UInt8) (n : Nat) : List UInt8 := s.take n ++ List.replicate (n - s.length) 0
theorem fixW_len (s : List UInt8) (n : Nat) : (fixW s n).length = n := by
  simp only [fixW, List.length_append, List.length_take, List.length_replicate]
  omega
/-- What a head says. -/
structure Hd where
  name : List UInt8
  pfx : List UInt8
  link : List UInt8
  mode : Nat
  uid : Nat
  gid : Nat
  size : Nat
  mtime : Nat
  kind : UInt8
  owner : List UInt8
  group : List UInt8
def magicB (gnu : Bool) : List UInt8 := if gnu = true then [117, 115, 116, 97, 114, 32, 32, 0] else [117, 115, 116, 97, 114, 0, 48, 48]
def preB (h : Hd) : List UInt8 := fixW h.name 100 ++ octF h.mode 8 ++ octF h.uid 8 ++ octF h.gid 8 ++ octF h.size 12 ++ octF h.mtime 12
def postB (h : Hd) (gnu : Bool) : List UInt8 := [h.kind] ++ fixW h.link 100 ++ magicB gnu ++ fixW h.owner 32 ++ fixW h.group 32 ++ octF 0 8 ++ octF 0 8 ++ fixW h.pfx 155 ++ List.replicate 12 0
def sumB : List UInt8 → Nat
  | [] => 0
  | c :: t => c.toNat + sumB t
theorem sumB_app : ∀ a b, sumB (a ++ b) = sumB a + sumB b
  | [], b => by simp [sumB]
  | c :: t, b => by rw [List.cons_append, sumB, sumB, sumB_app t b]; omega
theorem sumB_le : ∀ l : List UInt8, sumB l ≤ 255 * l.length
  | [] => by simp [sumB]
  | c :: t => by
    have := sumB_le t
    have := c.toNat_lt
    rw [sumB, List.length_cons]; omega
/-- A head's bytes. -/
def blockB (h : Hd) (gnu : Bool) : List UInt8 := preB h ++ (octF (256 + sumB (preB h) + sumB (postB h gnu)) 7 ++ [32]) ++ postB h gnu
/-- A head whose numbers have room. -/
def HdOk (h : Hd) : Prop := fitsO h.mode 8 ∧ fitsO h.uid 8 ∧ fitsO h.gid 8 ∧ fitsO h.size 12 ∧ fitsO h.mtime 12
theorem fits_of {n w : Nat} (h : n < 8 ^ (w + 1)) : fitsO n (w + 2) := by
  have := octD_len w n h
  unfold fitsO
  omega
theorem preB_len {h : Hd} (hk : HdOk h) : (preB h).length = 148 := by
  obtain ⟨h1, h2, h3, h4, h5⟩ := hk
  simp only [preB, List.length_append, fixW_len, octF_len h1 (by omega), octF_len h2 (by omega), octF_len h3 (by omega), octF_len h4 (by omega), octF_len h5 (by omega)]
theorem postB_len (h : Hd) (gnu : Bool) : (postB h gnu).length = 356 := by
  have h0 : fitsO 0 8 := fits_of (w := 6) (by decide)
  have hm : (magicB gnu).length = 8 := by cases gnu <;> rfl
  simp only [postB, List.length_append, fixW_len, octF_len h0 (by omega), hm, List.length_replicate, List.length_cons, List.length_nil]
theorem blockB_len {h : Hd} (hk : HdOk h) (gnu : Bool) : (blockB h gnu).length = 512 := by
  have h1 := sumB_le (preB h)
  have h2 := sumB_le (postB h gnu)
  rw [preB_len hk] at h1
  rw [postB_len] at h2
  have h3 : fitsO (256 + sumB (preB h) + sumB (postB h gnu)) 7 := fits_of (w := 5) (by omega)
  simp only [blockB, List.length_append, preB_len hk, postB_len, octF_len h3 (by omega), List.length_cons, List.length_nil]
/-- Filled up to whole blocks. -/
def wholeB (s : List UInt8) : List UInt8 := s ++ List.replicate ((512 - s.length % 512) % 512) 0
/-- Where a name is parted: what is ahead of the slash, and behind it. -/
def partN (s : List UInt8) : Option (List UInt8 × List UInt8) :=
  if s.length ≤ 100 then some ([], s)
  else match (s.drop (s.length - 101)).findIdx? (fun c => decide (c = 47)) with
    | none => none
    | some j => if 155 < s.length - 101 + j ∨ s.length - 101 + j = s.length - 1 then none else some (s.take (s.length - 101 + j), s.drop (s.length - 101 + j + 1))
/-- A record: how long it is, and what it tells. -/
def recR (k v : List UInt8) : List UInt8 := [32] ++ k ++ [61] ++ v ++ [10]
end Go.Proofs.YtpheifdpjcppdaaGreatDoor
namespace Go.Proofs.YtpheifdpjcppdaaGreatDoor
open Go.RowKit
section
variable {P : Program}
/-- 'copy(dst, s)' of a text, of which so much goes over as there is room. -/
theorem run_copy_text (w : World) (dT sT ty elem : TypeId) (g o dLen dCap : Nat) (s : List UInt8) (cur : Array Value) (t : TypeId)
    (hu : P.underlying dT = some (.slice elem)) (hs : (P.info? elem).map (·.size) = some 1) (hg : w.heap[g]? = some (.cells cur t (0, 0))) (hfit : o + min dLen s.length ≤ cur.size) :
    (Builtin.copy_ #[dT, sT] ty #[.slice (some ⟨g, o, none⟩) dLen dCap, .string (bs s)]).run P w =
      .ok (goInt (min dLen s.length : Nat)) (w.setRow g (cur.toList.take o ++ bvs (s.take dLen) ++ cur.toList.drop (o + min dLen s.length)).toArray) := by
  have hlen : (bvs (s.take dLen)).length = min dLen s.length := by rw [bvs_length, List.length_take]
  have hst := run_storeCells_at P g o t (bvs (s.take dLen)) 0 cur w hg (by rw [hlen]; simpa using hfit) (bvs_one _)
  have hmin : Nat.min s.length dLen = min dLen s.length := Nat.min_comm _ _
  have htk : List.take (min dLen s.length) (List.map (fun b : UInt8 => Value.int IntKind.u8 (b.toNat : Int)) s) = bvs (s.take dLen) := by
    rw [← List.map_take]
    unfold bvs bv
    congr 1
    rcases Nat.le_total dLen s.length with h | h
    · rw [Nat.min_eq_left h]
    · rw [Nat.min_eq_right h, List.take_of_length_le (Nat.le_refl _), List.take_of_length_le h]
  rw [hlen] at hst
  simp only [Nat.add_zero] at hst
  cases hq : P.info? elem with
  | none => simp [hq] at hs
  | some i =>
    simp [Builtin.copy_, run_underlying hu, Builtin.lenOf, Builtin.firstCells, sizeOf, typeInfo, hq, bs_size, hmin, bs_list]
    rw [htk, hst]
    simp [Result.andThen]
theorem wpList_copy_text {w : World} {ops : Array Oper} {rest : List Oper} {op : Oper} {a : Act} {Q : Exit → Act → World → Prop} (hgd : op.guard = none) (d s : Operand) (dT sT elem : TypeId) (g o dLen dCap : Nat) (tx : List UInt8) (cur : Array Value) (t : TypeId)
    (ho : op.op = .call { callee := .builtin .copy, args := #[d, s], argTypes := #[dT, sT] }) (hd : a.eval d = .slice (some ⟨g, o, none⟩) dLen dCap) (hsv : a.eval s = .string (bs tx))
    (hu : P.underlying dT = some (.slice elem)) (hs : (P.info? elem).map (·.size) = some 1) (hg : w.heap[g]? = some (.cells cur t (0, 0))) (hfit : o + min dLen tx.length ≤ cur.size)
    (h : wpList P ops Q rest (a.put op.dst (goInt (min dLen tx.length : Nat))) (w.setRow g (cur.toList.take o ++ bvs (tx.take dLen) ++ cur.toList.drop (o + min dLen tx.length)).toArray)) : wpList P ops Q (op :: rest) a w := by
  refine wpList_plain hgd fun K hK => ?_
  have hr := run_copy_text w dT sT op.type elem g o dLen dCap tx cur t hu hs hg hfit
  unfold Oper.wp execOp
  simp only [ho, resolve, invoke, builtin, Sem.run_bind, Sem.run_pure, Result.andThen_ok, List.map_toArray, List.map_cons, List.map_nil, hd, hsv, hr]
  exact hK _ _ h
end
theorem setRow_kept (w : World) (g : Nat) (cs : Array Value) : Kept (fun k => k = g) w (w.setRow g cs) := ⟨rfl, rfl, rfl, by simp [World.setRow], fun k hk hx => by
  unfold World.setRow
  simp only [Array.getElem?_modify]
  rw [if_neg (fun e => hx e.symm)]⟩
theorem setRow_blk {w : World} {g : Nat} {t : TypeId} {cs : Array Value} (h : Blk w g t cs) (cs' : Array Value) : Blk (w.setRow g cs') g t cs' := setRow_heap w g cs cs' t (0, 0) h
/-- A block of bytes, as a slice. -/
theorem SB.blk {w : World} {g : Nat} {t : TypeId} {l : List UInt8} (h : Blk w g t (bvs l).toArray) (hl : l.length ≤ maxLen) : SB w (.slice (some ⟨g, 0, none⟩) l.length l.length) l := by
  refine ⟨some ⟨g, 0, none⟩, l.length, rfl, Nat.le_refl _, hl, (fun e => by cases e), fun _ => ⟨g, 0, rfl, fun j hj => ?_⟩⟩
  have := h.cell (0 + j)
  rw [this, Nat.zero_add, List.getElem?_toArray, bvs_get l j hj]
set_option maxRecDepth 20000 in
set_option maxHeartbeats 8000000 in
theorem tput_any (s : List UInt8) (wd : Nat) (hwd : wd ≤ 1000) (w : World) (gx base : Nat) (v : Value) (l : List UInt8) (hbox : Blk w gx 25 #[v]) (hown : w.ownsRow base 5 1 v l.length (bvs l)) (hbase : base ≤ w.heap.size) (hl : l.length ≤ 1000000000) :
    Calls Tryz.prog 36 #[.string (bs s), .int .i64 (wd : Int), .pointer (some ⟨gx, 0, none⟩)] w fun r w' => r = .returned (.tuple #[]) ∧ ∃ v', Blk w' gx 25 #[v'] ∧ w'.ownsRow base 5 1 v' (l ++ fixW s wd).length (bvs (l ++ fixW s wd)) ∧ Kept (fun k => k = gx ∨ v.ownBlock = some k) w w' ∧ (∀ k, v'.ownBlock = some k → v.ownBlock = some k ∨ w.heap.size ≤ k) := by
  obtain ⟨A0, c0, rfl⟩ := own_form hown
  obtain ⟨i0, hi, hz0, hz1, hz2⟩ := info_parts u8info
  have hmk := fun W => run_makeSlice (P := Tryz.prog) (w := W) 25 5 i0 (.int .u8 0) Tryz.underlying25 hi hz0 .i64 .i64 (wd : Int) (wd : Int) (by omega) (by omega) (by rw [hz1]; omega) (by rw [hz2]; omega) (by omega)
  rw [hz1] at hmk
  simp only [Int.toNat_natCast] at hmk
  have hsz1 : (Tryz.prog.info? 5).map (·.size) = some 1 := by rw [hi]; simp [hz1]
  have hnb : (Value.slice A0 l.length c0).ownBlock ≠ some gx := own_notblk hown hbox (by decide)
  go_enter Tryz.func36, Tryz.ntmps36
  go_upto_region 1 with fail
  have bF : Blk (w.alloc (.cells (madeCells #[.int .u8 0] wd) 5)) w.heap.size 5 (bvs (List.replicate wd 0)).toArray := by
    rw [← bvs_replicate' wd]
    exact Blk.new w 5 (madeCells #[.int .u8 0] wd)
  have hb1 := (Below.refl w.heap.size w).alloc (Nat.le_refl _) (.cells (madeCells #[.int .u8 0] wd) 5)
  clear hmk
  generalize w.alloc (.cells (madeCells #[.int .u8 0] wd) 5) = W1 at bF hb1 ⊢
  have hgl : gx < w.heap.size := hbox.lt
  have hk0 : w.heap.size ≤ w.heap.size := Nat.le_refl _
  generalize hgf : w.heap.size = gf at bF hgl ⊢
  have hfx : gf ≠ gx := fun e => by omega
  have hcp := run_copy_text (P := Tryz.prog) W1 25 9 3 5 gf 0 wd wd s _ 5 Tryz.underlying25 hsz1 bF (by simp [bvs]; omega)
  have hk1 := setRow_kept W1 gf ((bvs (List.replicate wd 0)).toArray.toList.take 0 ++ bvs (s.take wd) ++ (bvs (List.replicate wd 0)).toArray.toList.drop (0 + min wd s.length)).toArray
  have bF2 := setRow_blk bF ((bvs (List.replicate wd 0)).toArray.toList.take 0 ++ bvs (s.take wd) ++ (bvs (List.replicate wd 0)).toArray.toList.drop (0 + min wd s.length)).toArray
  generalize W1.setRow gf ((bvs (List.replicate wd 0)).toArray.toList.take 0 ++ bvs (s.take wd) ++ (bvs (List.replicate wd 0)).toArray.toList.drop (0 + min wd s.length)).toArray = W2 at hcp hk1 bF2
  have hfx2 : (bvs (List.replicate wd 0)).toArray.toList.take 0 ++ bvs (s.take wd) ++ (bvs (List.replicate wd 0)).toArray.toList.drop (0 + min wd s.length) = bvs (fixW s wd) := by
    rw [List.take_zero, List.nil_append, fixW, bvs_append]
    congr 1
    simp only [bvs, List.map_replicate, List.drop_replicate]
    congr 1
    omega
  rw [hfx2] at bF2
  have hsb := SB.blk bF2 (by rw [fixW_len]; unfold maxLen; omega)
  rw [fixW_len] at hsb
  have hbx2 : Blk W2 gx 25 #[.slice A0 l.length c0] := hk1.blk (hbox.below hb1 (by omega)) (fun e => hfx e.symm)
  have z0 := hbx2.cell 0
  have f0 := hbx2.frozen 0
  simp at z0
  have hb2 : Below w.heap.size w W2 := hb1.trans (hk1.below hb1.size fun k _ e => by omega) 
  have hr := (Row8.first hown hbase).below hb2
  clear hk1 hk0
  have hfl : (fixW s wd).length = wd := fixW_len s wd
  go_wp2_with (at_builtin; refine wpList_row_bytes rfl _ _ 25 rfl Tryz.underlying25 u8info rfl hr (some ⟨gf, 0, none⟩) wd wd (fixW s wd) rfl hsb (by rw [hfl]; omega) ?_; intro v3 W3 hr3; obtain ⟨A3, c3, rfl⟩ := own_form hr3.own; have hk3 := (hr.again.kept); have hbx3 : Blk W3 gx 25 #[.slice A0 l.length c0] := hr3.kept.blk hbox (fun e => hnb e); have y0 := hbx3.cell 0; have y1 := hbx3.frozen 0; simp at y0)
  have ho3 := hr3.own
  have hll : (l ++ fixW s wd).length = l.length + wd := by rw [List.length_append, hfl]
  have hn3 : (Value.slice A3 (l ++ fixW s wd).length c3).ownBlock ≠ some gx := own_notblk ho3 hbx3 (by decide)
  have hbx5 : Blk (W3.setCell ⟨gx, 0, none⟩ (.slice A3 (l ++ fixW s wd).length c3)) gx 25 #[.slice A3 (l ++ fixW s wd).length c3] := hbx3.set (u := .slice A3 (l ++ fixW s wd).length c3) 0
  have ho5 := own_other ho3 (.slice A3 (l ++ fixW s wd).length c3) (a := ⟨gx, 0, none⟩) hn3
  have hk5 : Kept (fun k => k = gx ∨ (Value.slice A0 l.length c0).ownBlock = some k) w (W3.setCell ⟨gx, 0, none⟩ (.slice A3 (l ++ fixW s wd).length c3)) := (hr3.kept.mono fun k _ h => .inr h).setCell _ fun _ => .inl rfl
  have hnw := hr3.new
  rw [hll] at hbx5 ho5 hk5 hnw
  rw [hgf] at hnw
  clear hr3 ho3 hbx3 hk3 y0 y1 hn3
  generalize W3.setCell ⟨gx, 0, none⟩ (.slice A3 (l.length + wd) c3) = W9 at hbx5 ho5 hk5 ⊢
  refine bodyPost_end (v := .tuple #[]) ?_ ?_ ?_
  · simp [results, Tryz.results36, go_sem]
  · rfl
  · exact ⟨rfl, _, hbx5, ho5, hk5, hnw⟩
end Go.Proofs.YtpheifdpjcppdaaGreatDoor
namespace Go.Proofs.YtpheifdpjcppdaaGreatDoor
open Go.RowKit
/-- How many noughts stand behind 8's one. -/
def Deb (w : World) : Prop := w.cell? ⟨3, 7, none⟩ = some (.int .u8 3)
set_option maxRecDepth 20000 in
theorem tz64_any (w : World) (h : Deb w) : Calls Tryz.prog 147 #[.int .u64 8] w fun e w' => e = .returned (.int .i64 3) ∧ w = w' := by
  unfold Deb at h
  have k1 : IntKind.u64.wrap (-8) = 18446744073709551608 := by decide
  have k2 : bits .and .u64 8 18446744073709551608 = 8 := by decide
  have k3 : IntKind.u64.wrap (8 * 285870213051353865) = 2286961704410830920 := by decide
  go_enter Tryz.func147, Tryz.ntmps147
  go_wp2_with fail
  go_ret
  exact ⟨by first | rfl | (simp; done), rfl⟩
set_option maxRecDepth 20000 in
theorem tz_any (w : World) (h : Deb w) : Calls Tryz.prog 132 #[.int .u64 8] w fun e w' => e = .returned (.int .i64 3) ∧ w = w' := by
  have ht := tz64_any w h
  go_enter Tryz.func132, Tryz.ntmps132
  go_wp2_with (go_at_call 147; refine ht.mono ?_; rintro e W5 ⟨rfl, rfl⟩)
  go_ret
  exact ⟨by first | rfl | (simp; done), rfl⟩
theorem ip2_any (w : World) : Calls Tryz.prog 131 #[.int .i64 8] w fun e w' => e = .returned (.bool true) ∧ w = w' := by
  have k2 : bits .and .i64 8 7 = 0 := by decide
  go_enter Tryz.func131, Tryz.ntmps131
  go_wp2_with fail
  go_ret
  exact ⟨by first | rfl | (simp; done), rfl⟩
set_option maxRecDepth 20000 in
set_option maxHeartbeats 8000000 in
theorem fbits_any (n : Nat) (w : World) (hn : n ≤ 10000000000) (h : Deb w) :
    Calls Tryz.prog 110 #[.slice none 0 0, .int .u64 (n : Int), .int .i64 8, .bool false, .bool false] w fun e w' => e = .returned (.tuple #[.slice none 0 0, .string (bs (octD n))]) ∧ Below w.heap.size w w' := by
  have hp := ip2_any
  go_enter Tryz.func110, Tryz.ntmps110
  go_upto_region 8 with (go_at_call 131; refine (hp _).mono ?_; rintro e W5 ⟨rfl, rfl⟩)
  have hbA : Below w.heap.size w (w.alloc (.cells Tryz.zeroCells159 159)) := (Below.refl _ w).alloc (Nat.le_refl _) _
  have bA : Blk (w.alloc (.cells Tryz.zeroCells159 159)) w.heap.size 159 (List.replicate 65 (Value.int .u8 0)).toArray := by
    have := Blk.new w 159 Tryz.zeroCells159
    rw [show Tryz.zeroCells159 = (List.replicate 65 (Value.int .u8 0)).toArray by kernel_rfl] at this
    rw [show Tryz.zeroCells159 = (List.replicate 65 (Value.int .u8 0)).toArray by kernel_rfl]
    exact this
  have hD := (Kept.of_below hbA nowhere).cell h (fun h => h)
  generalize w.alloc (.cells Tryz.zeroCells159 159) = W1 at hbA bA hD ⊢
  have hgH : w.heap.size ≤ w.heap.size := Nat.le_refl _
  generalize hg : w.heap.size = gA at bA hgH ⊢
  have hgH : w.heap.size ≤ gA := by rw [hg]; exact Nat.le_refl _
  have hz := tz_any W1 hD
  go_upto_region 11 with (go_at_call 132; refine hz.mono ?_; rintro e W5 ⟨rfl, rfl⟩)
  have hdig : ∀ (d : Nat) (hd : d < 8) (hs : d < (⟨#[48, 49, 50, 51, 52, 53, 54, 55, 56, 57, 97, 98, 99, 100, 101, 102, 103, 104, 105, 106, 107, 108, 109, 110, 111, 112, 113, 114, 115, 116, 117, 118, 119, 120, 121, 122]⟩ : ByteArray).size), ((⟨#[48, 49, 50, 51, 52, 53, 54, 55, 56, 57, 97, 98, 99, 100, 101, 102, 103, 104, 105, 106, 107, 108, 109, 110, 111, 112, 113, 114, 115, 116, 117, 118, 119, 120, 121, 122]⟩ : ByteArray)[d]'hs).toNat = 48 + d := by decide
  have HDIG := Lib.hid hdig
  clear hdig hz hp
  have hrow : (List.replicate 65 (Value.int .u8 0)).toArray = (List.replicate 65 (Value.int .u8 0) ++ bvs []).toArray := by simp [bvs]
  rw [hrow] at bA
  go_loopg [1, 13] (n + 1) (fun G s1 s13 wr => ∃ (m k : Nat) (out : List UInt8), G = m + 1 ∧ s1 = .int .u64 (m : Int) ∧ s13 = .int .i64 (k : Int) ∧ m ≤ 10000000000 ∧ k + out.length = 65 ∧ Hid (octD n = octD m ++ out) ∧ Blk wr gA 159 (List.replicate k (Value.int .u8 0) ++ bvs out).toArray ∧ Below w.heap.size w wr)
  case atStart => exact ⟨n, 65, [], rfl, rfl, rfl, hn, rfl, Lib.hid (by simp), bA, hbA⟩
  case round =>
    obtain ⟨m, k, out, rfl, rfl, rfl, hm, hko, HO, bR, hbR⟩ := hrel
    have hol : out.length ≤ 19 := by
      have h1 := octD_len 18 n (by omega)
      rw [HO.out, List.length_append] at h1
      omega
    have k65 : k ≤ 65 := by omega
    have k46 : 46 ≤ k := by omega
    by_cases h8 : 8 ≤ m
    · have t1 : decide ((8 : Int) ≤ (m : Int)) = true := decide_eq_true (by omega)
      have t1b : decide (8 ≤ m) = true := decide_eq_true h8
      obtain ⟨k1, HK1⟩ : ∃ x, Hid (x + 1 = k) := ⟨k - 1, Lib.hid (by omega)⟩
      have wk1 : IntKind.i64.wrap ((k : Int) - 1) = (k1 : Int) := by have := HK1.out; rw [i64_in _ (by omega) (by omega)]; omega
      have j1 : (0 : Int) ≤ (k1 : Int) := by omega
      have j2 : (k1 : Int) < 65 := by have := HK1.out; omega
      obtain ⟨d, HD⟩ : ∃ x, Hid (x = m % 8) := ⟨_, Lib.hid rfl⟩
      have hd8 : d < 8 := by rw [HD.out]; exact Nat.mod_lt _ (by omega)
      have kand : bits .and .u64 (m : Int) 7 = (d : Int) := by
        rw [HD.out, show (7 : Int) = ((7 : Nat) : Int) from rfl, bits_and_u64_nat m 7 (by omega) (by omega), show m &&& 7 = m % 8 from Nat.and_two_pow_sub_one_eq_mod m 3]
      have hcu : ∃ u, (List.replicate k (Value.int .u8 0) ++ bvs out).toArray[k1]? = some u := by
        refine ⟨_, Array.getElem?_eq_getElem ?_⟩
        have := HK1.out
        simp [bvs]; omega
      obtain ⟨cu, hcu⟩ := hcu
      have hc := bR.cell k1
      rw [hcu] at hc
      have hfz := bR.frozen k1
      have hd36 : d < (⟨#[48, 49, 50, 51, 52, 53, 54, 55, 56, 57, 97, 98, 99, 100, 101, 102, 103, 104, 105, 106, 107, 108, 109, 110, 111, 112, 113, 114, 115, 116, 117, 118, 119, 120, 121, 122]⟩ : ByteArray).size := Nat.lt_of_lt_of_le hd8 (by decide)
      have hdg := HDIG.out d hd8 hd36
      have hdi : (d : Int) < 36 := by omega
      have hdi0 : (0 : Int) ≤ (d : Int) := by omega
      clear hcu
      obtain ⟨b8, Hb8⟩ : ∃ b8 : UInt8, Hid (b8 = UInt8.ofNat (48 + m % 8)) := ⟨_, Lib.hid rfl⟩
      have hb8 : (48 : Int) + (d : Int) = (b8.toNat : Int) := by rw [Hb8.out, UInt8.toNat_ofNat', HD.out]; omega
      have HBR : Hid (Blk (wr.setCell ⟨gA, k1, none⟩ (.int .u8 (48 + (d : Int)))) gA 159 (List.replicate k1 (Value.int .u8 0) ++ bvs (b8 :: out)).toArray) := Lib.hid (by
        have h1 := bR.set (u := .int .u8 (48 + (d : Int))) k1
        rw [hb8] at h1 ⊢
        have e : (List.replicate k (Value.int .u8 0) ++ bvs out).toArray.setIfInBounds k1 (.int .u8 (b8.toNat : Int)) = (List.replicate k1 (Value.int .u8 0) ++ bvs (b8 :: out)).toArray := by
          rw [List.setIfInBounds_toArray, ← HK1.out, List.replicate_succ', List.append_assoc, List.set_append_right _ _ (by simp)]
          simp [bvs]
          rfl
        rw [e] at h1
        exact h1)
      have hbS : Below w.heap.size w (wr.setCell ⟨gA, k1, none⟩ (.int .u8 (48 + (d : Int)))) := hbR.setCell (p := ⟨gA, k1, none⟩) hgH (.int .u8 (48 + (d : Int)))
      have HO2 : Hid (octD n = octD (m / 8) ++ (b8 :: out)) := Lib.hid (by rw [HO.out, oct_big (by omega), Hb8.out]; simp)
      have hko2 : k1 + (b8 :: out).length = 65 := by have := HK1.out; simp; omega
      clear hb8 bR hbR hko
      go_wp2_with fail
      go_roundg (m / 8 + 1)
      case measure => omega
      case rel => exact ⟨m / 8, k1, b8 :: out, rfl, by first | rfl | simp, rfl, by omega, hko2, HO2, HBR.out, hbS⟩
    · have t1 : decide ((8 : Int) ≤ (m : Int)) = false := decide_eq_false (by omega)
      have t1b : decide (8 ≤ m) = false := decide_eq_false h8
      obtain ⟨k1, HK1⟩ : ∃ x, Hid (x + 1 = k) := ⟨k - 1, Lib.hid (by omega)⟩
      have wk1 : IntKind.i64.wrap ((k : Int) - 1) = (k1 : Int) := by have := HK1.out; rw [i64_in _ (by omega) (by omega)]; omega
      have j1 : (0 : Int) ≤ (k1 : Int) := by omega
      have j2 : (k1 : Int) < 65 := by have := HK1.out; omega
      have hcu : ∃ u, (List.replicate k (Value.int .u8 0) ++ bvs out).toArray[k1]? = some u := by
        refine ⟨_, Array.getElem?_eq_getElem ?_⟩
        have := HK1.out
        simp [bvs]; omega
      obtain ⟨cu, hcu⟩ := hcu
      have hc := bR.cell k1
      rw [hcu] at hc
      have hfz := bR.frozen k1
      have hm8 : m < 8 := by omega
      have hd36 : m < (⟨#[48, 49, 50, 51, 52, 53, 54, 55, 56, 57, 97, 98, 99, 100, 101, 102, 103, 104, 105, 106, 107, 108, 109, 110, 111, 112, 113, 114, 115, 116, 117, 118, 119, 120, 121, 122]⟩ : ByteArray).size := Nat.lt_of_lt_of_le hm8 (by decide)
      have hdg := HDIG.out m hm8 hd36
      have hdi : (m : Int) < 36 := by omega
      have hdi0 : (0 : Int) ≤ (m : Int) := by omega
      clear hcu
      obtain ⟨b8, Hb8⟩ : ∃ b8 : UInt8, Hid (b8 = UInt8.ofNat (48 + m)) := ⟨_, Lib.hid rfl⟩
      have hb8 : (48 : Int) + (m : Int) = (b8.toNat : Int) := by rw [Hb8.out, UInt8.toNat_ofNat']; omega
      have HSB : Hid (SB (wr.setCell ⟨gA, k1, none⟩ (.int .u8 (48 + (m : Int)))) (.slice (some ⟨gA, k1, none⟩) (65 - k1) (65 - k1)) (b8 :: out)) := Lib.hid (by
        have h1 := bR.set (u := .int .u8 (48 + (m : Int))) k1
        rw [hb8] at h1 ⊢
        have e : (List.replicate k (Value.int .u8 0) ++ bvs out).toArray.setIfInBounds k1 (.int .u8 (b8.toNat : Int)) = (List.replicate k1 (Value.int .u8 0) ++ bvs (b8 :: out)).toArray := by
          rw [List.setIfInBounds_toArray, ← HK1.out, List.replicate_succ', List.append_assoc, List.set_append_right _ _ (by simp)]
          simp [bvs]
          rfl
        rw [e] at h1
        have hl : (b8 :: out).length = 65 - k1 := by have := HK1.out; simp; omega
        refine ⟨some ⟨gA, k1, none⟩, 65 - k1, by rw [hl], by omega, by unfold maxLen; omega, (fun h => by cases h), fun _ => ⟨gA, k1, rfl, fun j hj => ?_⟩⟩
        have hc2 := h1.cell (k1 + j)
        rw [hc2, List.getElem?_toArray, List.getElem?_append_right (by simp)]
        simp only [List.length_replicate, Nat.add_sub_cancel_left]
        rw [show bvs (b8 :: out) = (b8 :: out).map bv from rfl, List.getElem?_map, List.getElem?_eq_getElem hj]
        rfl)
      have hbS : Below w.heap.size w (wr.setCell ⟨gA, k1, none⟩ (.int .u8 (48 + (m : Int)))) := hbR.setCell (p := ⟨gA, k1, none⟩) hgH (.int .u8 (48 + (m : Int)))
      have HV : Hid (octD n = b8 :: out) := Lib.hid (by rw [HO.out, oct_one hm8, Hb8.out]; rfl)
      have j3 : (k1 : Int) ≤ 65 := by omega
      have j4 : k1 ≤ 65 := by omega
      clear hb8
      go_upto_region 30 with fail
      clear bR hbR hc hfz hdg
      generalize wr.setCell ⟨gA, k1, none⟩ (.int .u8 (48 + (m : Int))) = W9 at HSB hbS ⊢
      have hst := str8 HSB.out
      go_wp2_with fail
      go_ret2
      exact ⟨by rw [HV.out]; rfl, by first | exact hbS | (rw [← hg]; exact hbS)⟩
set_option maxRecDepth 20000 in
theorem format8_any (n : Nat) (w : World) (hn : n ≤ 10000000000) (h : Deb w) :
    Calls Tryz.prog 61 #[.int .i64 (n : Int), .int .i64 8] w fun e w' => e = .returned (.string (bs (octD n))) ∧ Below w.heap.size w w' := by
  have hf := fbits_any n w hn h
  have hfi : Calls Tryz.prog 89 #[.int .i64 (n : Int), .int .i64 8] w fun e w' => e = .returned (.string (bs (octD n))) ∧ Below w.heap.size w w' := by
    have wn : IntKind.u64.wrap (n : Int) = (n : Int) := u64_in _ (by omega) (by omega)
    have tn : decide ((n : Int) < 0) = false := by simp
    go_enter Tryz.func89, Tryz.ntmps89
    go_wp2_with (go_at_call 110; refine hf.mono ?_; rintro e W5 ⟨rfl, hb5⟩)
    go_ret
    exact ⟨rfl, hb5⟩
  go_enter Tryz.func61, Tryz.ntmps61
  go_wp2_with (go_at_call 89; refine hfi.mono ?_; rintro e W5 ⟨rfl, hb5⟩)
  go_ret
  exact ⟨rfl, hb5⟩
end Go.Proofs.YtpheifdpjcppdaaGreatDoor
namespace Go.Proofs.YtpheifdpjcppdaaGreatDoor
open Go.RowKit
theorem rep_any (c : UInt8) (n : Nat) : (⟨(Lib.repeatL [c] n).toArray⟩ : ByteArray) = bs (List.replicate n c) := by
  have : Lib.repeatL [c] n = List.replicate n c := by
    induction n with
    | zero => rfl
    | succ n ih =>
      first
        | (rw [Lib.repeatL, ih]; rfl)
        | (simp only [Lib.repeatL] at ih ⊢; rw [List.replicate_succ, List.flatten_cons, ih]; rfl)
  rw [this]; rfl
set_option maxRecDepth 20000 in
set_option maxHeartbeats 8000000 in
theorem toct_any (n wd : Nat) (w : World) (hn : n ≤ 10000000000) (h2 : 2 ≤ wd) (h12 : wd ≤ 12) (hf : fitsO n wd) (hD : Deb w) :
    Calls Tryz.prog 38 #[.int .i64 (n : Int), .int .i64 (wd : Int)] w fun r w' => r = .returned (.tuple #[.string (bs (octF n wd)), .int .i64 0]) ∧ Below w.heap.size w w' := by
  have hfm := format8_any n w hn hD
  have x1 : decide ((wd : Int) < 2) = false := decide_eq_false (by omega)
  have x2 : decide ((12 : Int) < (wd : Int)) = false := decide_eq_false (by omega)
  have x3 : decide ((n : Int) < 0) = false := decide_eq_false (by omega)
  have x4 : ¬ (wd : Int) < 2 := by omega
  have x5 : ¬ (12 : Int) < (wd : Int) := by omega
  have w1 : IntKind.i64.wrap ((wd : Int) - 1) = (wd : Int) - 1 := i64_in _ (by omega) (by omega)
  have hpos := octD_pos n
  unfold fitsO at hf
  have hsz := bs_size (octD n)
  have x6 : decide ((wd : Int) - 1 < ((octD n).length : Int)) = false := decide_eq_false (by omega)
  have x7 : ¬ (wd : Int) - 1 < ((octD n).length : Int) := by omega
  have w2 : IntKind.i64.wrap ((wd : Int) - 1 - ((octD n).length : Int)) = ((wd - 1 - (octD n).length : Nat) : Int) := by rw [i64_in _ (by omega) (by omega)]; omega
  have HO : Hid (bs (octF n wd) = bs (List.replicate (wd - 1 - (octD n).length) 48) ++ bs (octD n) ++ bs [0]) := Lib.hid (by rw [octF]; simp only [bs_app])
  have hrz := bs_size (List.replicate (wd - 1 - (octD n).length) (48 : UInt8))
  rw [List.length_replicate] at hrz
  have hrep : ∀ W, Calls Tryz.prog 62 #[.string ⟨#[48]⟩, .int .i64 ((wd - 1 - (octD n).length : Nat) : Int)] W fun e w' => e = .returned (.string (bs (List.replicate (wd - 1 - (octD n).length) 48))) ∧ Below W.heap.size W w' := fun W =>
    (Tryz.strings_Repeat ⟨#[48]⟩ (wd - 1 - (octD n).length) W (by omega) (by show 1 * _ ≤ _; omega)).mono fun e w' h => ⟨by rw [h.1]; exact congrArg (fun x => Ending.returned (.string x)) (rep_any 48 _), h.2⟩
  obtain ⟨m, hm⟩ : ∃ m, wd - 1 - (octD n).length = m := ⟨_, rfl⟩
  rw [hm] at w2 HO hrz hrep
  have hm12 : m ≤ 12 := by omega
  obtain ⟨od, hod⟩ : ∃ od, octD n = od := ⟨_, rfl⟩
  rw [hod] at hfm hpos hf hsz x6 x7 w2 HO hm
  have hol : od.length ≤ 12 := by omega
  clear hm hod
  go_enter Tryz.func38, Tryz.ntmps38
  go_upto_region 4 with (go_at_call 61; refine hfm.mono ?_; clear hfm; rintro e W2 ⟨rfl, hb2⟩)
  have hrep := hrep W2
  go_wp2_with (go_at_call 62; refine hrep.mono ?_; clear hrep; rintro e W3 ⟨rfl, hb3⟩)
  go_ret2
  exact ⟨by rw [HO.out]; rfl, hb2.trans (hb3.mono hb2.size)⟩
end Go.Proofs.YtpheifdpjcppdaaGreatDoor
namespace Go.Proofs.YtpheifdpjcppdaaGreatDoor
open Go.RowKit
/-- The sum of a head's bytes, but for those of the sum itself. -/
def goS : List UInt8 → Nat → Nat
  | [], _ => 0
  | c :: t, i => (if i < 148 ∨ 156 ≤ i then c.toNat else 0) + goS t (i + 1)
def sumT (l : List UInt8) : Nat := 256 + goS l 0
theorem goS_le : ∀ (l : List UInt8) (i : Nat), goS l i ≤ 255 * l.length
  | [], _ => by simp [goS]
  | c :: t, i => by
    have h1 := goS_le t (i + 1)
    have h2 := c.toNat_lt
    rw [goS, List.length_cons]
    split <;> omega
theorem goS_out : ∀ (l : List UInt8) (i : Nat), (i + l.length ≤ 148 ∨ 156 ≤ i) → goS l i = sumB l
  | [], _, _ => rfl
  | c :: t, i, h => by
    rw [List.length_cons] at h
    rw [goS, sumB, goS_out t (i + 1) (by omega), if_pos (by omega)]
theorem goS_in : ∀ (l : List UInt8) (i : Nat), 148 ≤ i → i + l.length ≤ 156 → goS l i = 0
  | [], _, _, _ => rfl
  | c :: t, i, h1, h2 => by
    rw [List.length_cons] at h2
    rw [goS, goS_in t (i + 1) (by omega) (by omega), if_neg (by omega)]
theorem goS_app : ∀ (a b : List UInt8) (i : Nat), goS (a ++ b) i = goS a i + goS b (i + a.length)
  | [], b, i => by simp [goS]
  | c :: t, b, i => by
    rw [List.cons_append, goS, goS, goS_app t b (i + 1), List.length_cons, show i + 1 + t.length = i + (t.length + 1) by omega]
    omega
theorem sumT_parts (pre mid post : List UInt8) (h1 : pre.length = 148) (h2 : mid.length = 8) : sumT (pre ++ mid ++ post) = 256 + sumB pre + sumB post := by
  rw [sumT, goS_app, goS_app, goS_out pre 0 (by omega), goS_in mid _ (by omega) (by omega), goS_out post _ (by simp only [List.length_append]; omega)]
  omega
theorem goS_snoc (l : List UInt8) (k : Nat) (h : k < l.length) : goS (l.take (k + 1)) 0 = goS (l.take k) 0 + if k < 148 ∨ 156 ≤ k then l[k].toNat else 0 := by
  rw [take_snoc l k h, goS_app, List.length_take, Nat.min_eq_left (by omega), goS, goS]
  simp
set_option maxRecDepth 20000 in
set_option maxHeartbeats 8000000 in
theorem tsum_any (l : List UInt8) (v : Value) (w : World) (h : SB w v l) (hl : l.length ≤ 100000000) :
    Calls Tryz.prog 39 #[v] w fun r w' => r = .returned (.int .i64 (sumT l : Int)) ∧ w = w' := by
  obtain ⟨A, cap, rfl, hc1, hc2, hnil, hcell⟩ := h
  unfold maxLen at hc2
  go_enter Tryz.func39, Tryz.ntmps39
  go_wp2_with fail
  go_loopg [3, 8] l.length (fun G s3 s8 wr => ∃ k : Nat, k ≤ l.length ∧ G = l.length - k ∧ s3 = .int .i64 ((256 + goS (l.take k) 0 : Nat) : Int) ∧ s8 = .int .i64 (k : Int) ∧ w = wr)
  case atStart => exact ⟨0, Nat.zero_le _, rfl, rfl, rfl, rfl⟩
  case round =>
    obtain ⟨k, hk, rfl, rfl, rfl, rfl⟩ := hrel
    by_cases hlt : k < l.length
    · obtain ⟨b, off, rfl, hc⟩ := hcell (fun e => by rw [e] at hlt; simp at hlt)
      have ck := hc k hlt
      have hS := goS_snoc l k hlt
      have hb := goS_le (l.take k) 0
      rw [List.length_take, Nat.min_eq_left (by omega)] at hb
      have hby := byte_lt l[k]
      have hby0 := byte_nonneg l[k]
      have i1 : (0 : Int) ≤ (k : Int) := by omega
      have i2 : (k : Int) < (l.length : Int) := by omega
      have wk : IntKind.i64.wrap ((k : Int) + 1) = (k : Int) + 1 := i64_in _ (by omega) (by omega)
      have wb : IntKind.i64.wrap (l[k].toNat : Int) = (l[k].toNat : Int) := i64_in _ (by omega) (by omega)
      have HS := Lib.hid hS
      clear hS
      obtain ⟨S, hSS⟩ : ∃ S, goS (l.take k) 0 = S := ⟨_, rfl⟩
      rw [hSS] at HS hb ⊢
      clear hc hcell
      generalize l[k] = c at ck hby hby0 wb HS
      have wa : IntKind.i64.wrap (((256 + S : Nat) : Int) + (c.toNat : Int)) = ((256 + S : Nat) : Int) + (c.toNat : Int) := i64_in _ (by omega) (by omega)
      by_cases h148 : k < 148
      · have p1 : decide ((k : Int) < 148) = true := decide_eq_true (by omega)
        have p2 : (k : Int) < 148 := by omega
        go_wp2_with fail
        go_roundg (l.length - (k + 1))
        case measure => omega
        case rel => exact ⟨k + 1, by omega, rfl, (by rw [HS.out, if_pos (.inl h148)]; congr 1; omega), by simp, rfl⟩
      · have p1 : decide ((k : Int) < 148) = false := decide_eq_false (by omega)
        have p2 : ¬ (k : Int) < 148 := by omega
        by_cases h156 : 156 ≤ k
        · have p3 : decide ((k : Int) ≥ 156) = true := decide_eq_true (by omega)
          have p4 : (156 : Int) ≤ (k : Int) := by omega
          go_wp2_with fail
          go_roundg (l.length - (k + 1))
          case measure => omega
          case rel => exact ⟨k + 1, by omega, rfl, (by rw [HS.out, if_pos (.inr h156)]; congr 1; omega), by simp, rfl⟩
        · have p3 : decide ((k : Int) ≥ 156) = false := decide_eq_false (by omega)
          have p4 : ¬ (156 : Int) ≤ (k : Int) := by omega
          go_wp2_with fail
          go_roundg (l.length - (k + 1))
          case measure => omega
          case rel => exact ⟨k + 1, by omega, rfl, (by rw [HS.out, if_neg (by omega)]; rfl), by simp, rfl⟩
    · have i2 : ¬ (k : Int) < (l.length : Int) := by omega
      have htk : l.take k = l := List.take_of_length_le (by omega)
      rw [htk]
      have HT : Hid (sumT l = 256 + goS l 0) := Lib.hid rfl
      go_wp2_with fail
      go_ret
      exact ⟨by rw [HT.out]; rfl, rfl⟩
def nulB (l : List UInt8) : Bool := l.all fun c => decide (c = 0)
set_option maxRecDepth 20000 in
set_option maxHeartbeats 8000000 in
theorem tempty_any (l : List UInt8) (v : Value) (w : World) (h : SB w v l) :
    Calls Tryz.prog 44 #[v] w fun r w' => r = .returned (.bool (nulB l)) ∧ w = w' := by
  obtain ⟨A, cap, rfl, hc1, hc2, hnil, hcell⟩ := h
  unfold maxLen at hc2
  go_enter Tryz.func44, Tryz.ntmps44
  go_wp2_with fail
  go_loopg [7] l.length (fun G s7 wr => ∃ k : Nat, k ≤ l.length ∧ G = l.length - k ∧ s7 = .int .i64 (k : Int) ∧ w = wr ∧ Hid (nulB l = nulB (l.drop k)))
  case atStart => exact ⟨0, Nat.zero_le _, rfl, rfl, rfl, Lib.hid rfl⟩
  case round =>
    obtain ⟨k, hk, rfl, rfl, rfl, HE⟩ := hrel
    by_cases hlt : k < l.length
    · obtain ⟨b, off, rfl, hc⟩ := hcell (fun e => by rw [e] at hlt; simp at hlt)
      have ck := hc k hlt
      have HS : Hid (nulB (l.drop k) = (decide (l[k] = 0) && nulB (l.drop (k + 1)))) := Lib.hid (by rw [drop_cons l k hlt]; rfl)
      have i1 : (0 : Int) ≤ (k : Int) := by omega
      have i2 : (k : Int) < (l.length : Int) := by omega
      have wk : IntKind.i64.wrap ((k : Int) + 1) = (k : Int) + 1 := i64_in _ (by omega) (by omega)
      clear hc hcell
      generalize l[k] = c at ck HS
      by_cases hc0 : c = 0
      · have q : ((c.toNat : Int) == 0) = true := by rw [hc0]; rfl
        have q2 : c.toNat = 0 := by rw [hc0]; rfl
        go_wp2_with fail
        go_roundg (l.length - (k + 1))
        case measure => omega
        case rel => exact ⟨k + 1, by omega, rfl, by simp, rfl, Lib.hid (by rw [HE.out, HS.out, decide_eq_true hc0, Bool.true_and])⟩
      · have q2 : ¬ c.toNat = 0 := fun e => hc0 (by rw [← UInt8.ofNat_toNat (x := c), e]; rfl)
        have q : ((c.toNat : Int) == 0) = false := by simpa using (show ¬ (c.toNat : Int) = 0 by omega)
        have HV : nulB l = false := by rw [HE.out, HS.out, decide_eq_false hc0, Bool.false_and]
        go_wp2_with fail
        go_ret
        exact ⟨by first | rfl | (rw [HV]; rfl), rfl⟩
    · have i2 : ¬ (k : Int) < (l.length : Int) := by omega
      have HV : nulB l = true := by rw [HE.out, List.drop_eq_nil_of_le (by omega)]; rfl
      go_wp2_with fail
      go_ret
      exact ⟨by first | rfl | (rw [HV]; rfl), rfl⟩
end Go.Proofs.YtpheifdpjcppdaaGreatDoor
