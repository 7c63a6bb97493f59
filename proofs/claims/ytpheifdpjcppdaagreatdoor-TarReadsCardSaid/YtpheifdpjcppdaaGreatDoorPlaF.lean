/- A region that draws its order, walked in ONE order of my choosing: what is quiet under an invariant S of the worlds goes first, what is loud goes when it alone can. Over any program. A region that draws its order, walked along a tree of orders: what is quiet under an invariant S of the worlds goes first; where two loud operations can come, both orders are walked. Over any program. -/
import Derived.Still
import Derived.Tactics
import Derived.StillTactics
namespace Go.Proofs.YtpheifdpjcppdaaGreatDoor
open Go
section
variable {P : Program} {ops : Array Oper} {Q : Exit → Act → World → Prop} {S S2 : World → Prop} {wk : Oper → Bool}

/-- An operation that looks at no world. -/
def calm (o : Oper) : Bool := match o.op with
  | .assign _ | .move _ | .pick .. => true
  | _ => false
def isStore (o : Oper) : Bool := match o.op with
  | .store .. => true
  | _ => false
/-- The operation waits for all others that look at a world: what it leaves none of them sees. -/
def lastO (wk : Oper → Bool) (ops : Array Oper) (o : Oper) : Bool := (List.range ops.size).all fun k => (match ops[k]? with | some u => wk u || isStore u | none => true) || o.after.any fun e => Region.binds .any e && e.on == k
theorem lastO_spec {o u : Oper} (h : lastO wk ops o = true) (k : Nat) (hk : ops[k]? = some u) : wk u = true ∨ isStore u = true ∨ ∃ e ∈ o.after, Region.binds .any e = true ∧ e.on = k := by
  have := List.all_eq_true.1 h k (List.mem_range.2 (Array.getElem?_eq_some_iff.1 hk).1)
  simp only [hk, Bool.or_eq_true] at this
  rcases this with (h | h) | h
  · exact .inl h
  · exact .inr (.inl h)
  · obtain ⟨i, hi, he⟩ := Array.any_eq_true.1 h
    simp only [Bool.and_eq_true, beq_iff_eq] at he
    exact .inr (.inr ⟨o.after[i], Array.getElem_mem hi, he.1, he.2⟩)
/-- As wpAny, but every operation leaves S, or waits for all others but the weak ones and leaves S2. -/
def anyI (P : Program) (ops : Array Oper) (wk : Oper → Bool) (S S2 : World → Prop) (Q : Exit → Act → World → Prop) : Nat → Array Bool → Act → World → Prop
  | 0, listed, a, w => Region.ready .any ops listed = [] ∧ Q .normal a w
  | fuel + 1, listed, a, w => (Region.ready .any ops listed = [] → Q .normal a w) ∧
      ∀ i ∈ Region.ready .any ops listed, wpOp P ops Q i (fun a' w' => (S w → S w' ∨ ((∃ o, ops[i]? = some o ∧ lastO wk ops o = true) ∧ S2 w')) ∧ (S2 w → S2 w') ∧ anyI P ops wk S S2 Q fuel (listed.setIfInBounds i true) a' w') a w

theorem wpAny_of_anyI : ∀ (fuel : Nat) (listed : Array Bool) (a : Act) (w : World), anyI P ops wk S S2 Q fuel listed a w → wpAny P .any ops Q fuel listed a w
  | 0, _, _, _, h => h
  | _ + 1, _, _, _, h => ⟨h.1, fun i hi => wpOp_mono (fun _ _ h2 => wpAny_of_anyI _ _ _ _ h2.2.2) (h.2 i hi)⟩

/-- In every world that meets S the operation yields v and leaves the world alone. -/
def QuietAt (P : Program) (ops : Array Oper) (S : World → Prop) (o : Oper) (v : Value) (a : Act) : Prop := ∀ w, S w → YieldsAt P ops w o v a

theorem QuietAt.run {i : Nat} {o : Oper} {v : Value} {a : Act} {w : World} (hi : ops[i]? = some o) (hy : QuietAt P ops S o v a) (hS : S w) {K : Act → World → Prop}
    (h : K (a.put o.dst v) w) : wpOp P ops Q i K a w :=
  wpOp_of_stOp (K := fun a' => a' = a.put o.dst v) (fun a' e => by subst e; exact h) ((hy w hS).stOp hi rfl)

theorem wpOp_put_quiet {j : Nat} {oi oj : Oper} {v : Value} (hj : ops[j]? = some oj) (hap : oi.apart ops oj = true)
    (hsi : ∀ cs b, oi.op ≠ .select cs b) (hsj : ∀ cs b, oj.op ≠ .select cs b)
    (hQ : ∀ c a w, Q (.panic c) (a.put oi.dst v) w → Q (.panic c) a w) {K : Act → World → Prop} {a : Act} {w : World}
    (hy : QuietAt P ops S oi v a) (h : wpOp P ops Q j K (a.put oi.dst v) w) :
    wpOp P ops Q j (fun a' w' => QuietAt P ops S oi v a' ∧ K (a'.put oi.dst v) w') a w := by
  obtain ⟨h1, h2, h3⟩ := Oper.apart_spec hap
  have keep : ∀ (a : Act), QuietAt P ops S oi v a → ∀ u, QuietAt P ops S oi v (a.put oj.dst u) := fun a hy u w' hw' =>
    (hy w' hw').of_same (execOp_put oi hsi a oj.dst u h3) (wanted_put oi a oj.dst u h3)
  have keepD : ∀ d, QuietAt P ops S oi v { a with defers := d :: a.defers } := fun d w' hw' => (hy w' hw').of_same rfl rfl
  unfold wpOp at *
  simp only [hj] at *
  rw [wanted_put oj a oi.dst v h1] at h
  split
  · rename_i hw
    simp only [hw, if_true] at h
    rcases h with h | ⟨hasks, hlets⟩
    case inr => exact .inr ⟨by unfold Oper.asks at *; rw [execOp_put oj hsj a oi.dst v h1] at hasks; exact hasks, hlets⟩
    refine .inl ?_
    unfold Oper.wp at *
    rw [execOp_put oj hsj a oi.dst v h1] at h
    generalize (execOp a.eval oj).run P w = r at *
    cases r with
    | ok n w' =>
      cases n <;> simp only [Oper.upon] at h ⊢
      case value u => exact ⟨keep a hy u, by rw [← Act.put_comm a v u h2]; exact h⟩
      case skip => exact ⟨keep a hy _, by rw [← Act.put_comm a v undef h2]; exact h⟩
      case defer d =>
        refine ⟨keep _ (keepD d) _, ?_⟩
        rw [← Act.put_comm _ v undef h2, ← Act.put_defers]
        exact h
      case enter f args =>
        refine Calls.mono h fun e w'' he => ?_
        cases e with
        | returned u => exact ⟨keep a hy u, by rw [← Act.put_comm a v u h2]; exact he⟩
        | panicked c => exact hQ _ _ _ he
        | outgrown => exact he
      case row row args => exact Rows.mono h fun u w'' he => ⟨keep a hy u, by rw [← Act.put_comm a v u h2]; exact he⟩
    | halt x w' =>
      cases x <;> simp only [Oper.upon] at h ⊢
      case panic u => exact hQ _ _ _ h
  · rename_i hw
    simp only [hw] at h
    exact ⟨keep a hy _, by rw [← Act.put_comm a v undef h2]; exact h⟩

theorem anyI_first {i : Nat} {oi : Oper} {v : Value} (hns : isStore oi = false) (hi : ops[i]? = some oi) (hsel : ∀ (j : Nat) (o : Oper) cs b, ops[j]? = some o → o.op ≠ .select cs b)
    (hQ : ∀ c a w, Q (.panic c) (a.put oi.dst v) w → Q (.panic c) a w) :
    ∀ (fuel : Nat) (listed : Array Bool) (a : Act) (w : World),
      (∀ j oj, ops[j]? = some oj → j ≠ i → listed.getD j true = false → (∀ e ∈ oj.after, Region.binds .any e = true → e.on ≠ i) → oi.apart ops oj = true) →
      i ∈ Region.ready .any ops listed → QuietAt P ops (fun w => S w ∨ (wk oi = true ∧ S2 w)) oi v a → (S w ∨ (wk oi = true ∧ S2 w)) →
      anyI P ops wk S S2 Q fuel (listed.setIfInBounds i true) (a.put oi.dst v) w → anyI P ops wk S S2 Q (fuel + 1) listed a w := by
  intro fuel
  induction fuel with
  | zero =>
    intro listed a w _ hr hy hT H
    refine ⟨fun h => (by rw [h] at hr; cases hr), fun j hj => ?_⟩
    by_cases hji : j = i
    · subst hji; exact hy.run hi hT ⟨fun h => .inl h, fun h => h, H⟩
    · have := ready_mono hj hji
      rw [H.1] at this
      cases this
  | succ fuel ih =>
    intro listed a w hfree hr hy hT H
    refine ⟨fun h => (by rw [h] at hr; cases hr), fun j hj => ?_⟩
    by_cases hji : j = i
    · subst hji; exact hy.run hi hT ⟨fun h => .inl h, fun h => h, H⟩
    · have h1 := H.2 j (ready_mono hj hji)
      obtain ⟨hjun, oj, hoj, hall⟩ := mem_ready.1 hj
      have hnot : ∀ e ∈ oj.after, Region.binds .any e = true → e.on ≠ i := fun e he hb heq => by
        have h1 := hall e he hb
        have h0 := (mem_ready.1 hr).1
        rw [heq] at h1
        rcases Nat.lt_or_ge i listed.size with h' | h'
        · simp [h'] at h0 h1; rw [h0] at h1; cases h1
        · simp [Array.getElem?_eq_none h'] at h1
      have h2 := wpOp_put_quiet (S := fun w => S w ∨ (wk oi = true ∧ S2 w)) hoj (hfree j oj hoj hji hjun hnot) (fun cs b => hsel i oi cs b hi) (fun cs b => hsel j oj cs b hoj) hQ hy h1
      have hfree' : ∀ k ok, ops[k]? = some ok → k ≠ i → (listed.setIfInBounds j true).getD k true = false →
          (∀ e ∈ ok.after, Region.binds .any e = true → e.on ≠ i) → oi.apart ops ok = true := fun k ok hk hki hun hno => by
        refine hfree k ok hk hki ?_ hno
        by_cases hjk : j = k
        · subst hjk; exact hjun
        · rw [getD_set_ne true hjk] at hun; exact hun
      refine wpOp_mono (fun a' w' h3 => ?_) h2
      have hnext : S w' ∨ (wk oi = true ∧ S2 w') := by
        rcases hT with hS | ⟨hc, h2⟩
        · rcases h3.2.1 hS with h | ⟨⟨o, ho, hl⟩, h2⟩
          · exact .inl h
          · obtain rfl := Option.some.inj (hoj.symm.trans ho)
            rcases lastO_spec hl i hi with h | h | ⟨e, he, hb, hon⟩
            · exact .inr ⟨h, h2⟩
            · rw [hns] at h; cases h
            · exact absurd hon (hnot e he hb)
        · exact .inr ⟨hc, h3.2.2.1 h2⟩
      refine ⟨h3.2.1, h3.2.2.1, ih (listed.setIfInBounds j true) a' w' hfree' (ready_mono hr (Ne.symm hji)) h3.1 hnext ?_⟩
      rw [Array.setIfInBounds_comm _ _ hji]
      exact h3.2.2.2

/-- The operation yields v in w and leaves w alone. -/
def stillUponV (P : Program) (w : World) (v : Value) : Result Next → Prop
  | .ok (.value u) w' => w' = w ∧ u = v
  | .ok .skip w' => w' = w ∧ undef = v
  | .ok (.enter f args) w' => w' = w ∧ Calls P f args w (fun e w'' => e = .returned v ∧ w'' = w)
  | _ => False
def stillV (P : Program) (o : Oper) (a : Act) (w : World) (v : Value) : Prop := stillUponV P w v ((execOp a.eval o).run P w)
theorem stillUponV_value (w : World) (u v : Value) : stillUponV P w v (.ok (.value u) w) = (u = v) := by simp [stillUponV]
theorem stillUponV_skip (w : World) (v : Value) : stillUponV P w v (.ok .skip w) = (undef = v) := by simp [stillUponV]
theorem stillUponV_enter (w : World) (v : Value) (f : FuncId) (args : Array Value) : stillUponV P w v (.ok (.enter f args) w) = Calls P f args w (fun e w'' => e = .returned v ∧ w'' = w) := by simp [stillUponV]
attribute [go_sem] stillV stillUponV_value stillUponV_skip stillUponV_enter

/-- What is left is quiet and weak. -/
def restCalm (wk : Oper → Bool) (l : List (Bool × Oper)) : Bool := l.all fun x => !x.1 && wk x.2
/-- The walk along a plan: (false: quiet | true: loud, the operation). -/
def wpPlan (P : Program) (ops : Array Oper) (wk : Oper → Bool) (S S2 : World → Prop) (Q : Exit → Act → World → Prop) : List (Bool × Oper) → Act → World → Prop
  | [], a, w => Q .normal a w
  | (false, o) :: rest, a, w => ∃ v, (∀ w', (S w' ∨ (wk o = true ∧ S2 w')) → if Region.wanted o (yielded ops a.tmps) then stillV P o a w' v else undef = v) ∧ wpPlan P ops wk S S2 Q rest (a.put o.dst v) w
  | (true, o) :: rest, a, w => if Region.wanted o (yielded ops a.tmps) then o.wp P a w (fun a' w' => (S w' ∨ (restCalm wk rest = true ∧ lastO wk ops o = true ∧ S2 w')) ∧ wpPlan P ops wk S S2 Q rest a' w') Q ∨ (o.asks P a w ∧ LetsOut Q)
      else (S w ∨ (restCalm wk rest = true ∧ lastO wk ops o = true ∧ S2 w)) ∧ wpPlan P ops wk S S2 Q rest (a.put o.dst undef) w

theorem plan_quiet {o : Oper} {rest : List (Bool × Oper)} {a : Act} {w : World} {v : Value} (hg : o.guard = none) (hc : wk o = false)
    (h : ∀ w', S w' → stillV P o a w' v) (hr : wpPlan P ops wk S S2 Q rest (a.put o.dst v) w) :
    wpPlan P ops wk S S2 Q ((false, o) :: rest) a w := ⟨v, fun w' hw' => by rw [if_pos (by simp [Region.wanted, hg])]; exact h w' (by rcases hw' with h | h; exact h; rw [hc] at h; cases h.1), hr⟩
theorem plan_quiet_guarded {o : Oper} {rest : List (Bool × Oper)} {a : Act} {w : World} {v : Value} (hc : wk o = false)
    (h : ∀ w', S w' → if Region.wanted o (yielded ops a.tmps) then stillV P o a w' v else undef = v) (hr : wpPlan P ops wk S S2 Q rest (a.put o.dst v) w) :
    wpPlan P ops wk S S2 Q ((false, o) :: rest) a w := ⟨v, fun w' hw' => h w' (by rcases hw' with h | h; exact h; rw [hc] at h; cases h.1), hr⟩
theorem plan_calm {o : Oper} {rest : List (Bool × Oper)} {a : Act} {w : World} {v : Value} (hS2 : ∀ w, S w → S2 w) (hg : o.guard = none)
    (h : ∀ w', S2 w' → stillV P o a w' v) (hr : wpPlan P ops wk S S2 Q rest (a.put o.dst v) w) :
    wpPlan P ops wk S S2 Q ((false, o) :: rest) a w := ⟨v, fun w' hw' => by rw [if_pos (by simp [Region.wanted, hg])]; exact h w' (hw'.elim (hS2 w') fun h => h.2), hr⟩
theorem plan_calm_guarded {o : Oper} {rest : List (Bool × Oper)} {a : Act} {w : World} {v : Value} (hS2 : ∀ w, S w → S2 w)
    (h : ∀ w', S2 w' → if Region.wanted o (yielded ops a.tmps) then stillV P o a w' v else undef = v) (hr : wpPlan P ops wk S S2 Q rest (a.put o.dst v) w) :
    wpPlan P ops wk S S2 Q ((false, o) :: rest) a w := ⟨v, fun w' hw' => h w' (hw'.elim (hS2 w') fun h => h.2), hr⟩
theorem plan_loud {o : Oper} {rest : List (Bool × Oper)} {a : Act} {w : World} (hg : o.guard = none)
    (h : ∀ K : Act → World → Prop, (∀ a' w', S w' → wpPlan P ops wk S S2 Q rest a' w' → K a' w') → o.wp P a w K Q) : wpPlan P ops wk S S2 Q ((true, o) :: rest) a w := by
  unfold wpPlan
  rw [if_pos (by simp [Region.wanted, hg])]
  exact .inl (h _ fun _ _ h1 h2 => ⟨.inl h1, h2⟩)
/-- A loud operation that waits for all others but the weak ones: S need not stay, S2 does. -/
theorem plan_last {o : Oper} {rest : List (Bool × Oper)} {a : Act} {w : World} (hg : o.guard = none) (hl : lastO wk ops o = true) (hrc : restCalm wk rest = true)
    (h : ∀ K : Act → World → Prop, (∀ a' w', S2 w' → wpPlan P ops wk S S2 Q rest a' w' → K a' w') → o.wp P a w K Q) : wpPlan P ops wk S S2 Q ((true, o) :: rest) a w := by
  unfold wpPlan
  rw [if_pos (by simp [Region.wanted, hg])]
  exact .inl (h _ fun _ _ h1 h2 => ⟨.inr ⟨hrc, hl, h1⟩, h2⟩)
theorem plan_loud_guarded {o : Oper} {rest : List (Bool × Oper)} {a : Act} {w : World}
    (h : ∀ K : Act → World → Prop, (∀ a' w', S w' → wpPlan P ops wk S S2 Q rest a' w' → K a' w') → if Region.wanted o (yielded ops a.tmps) then o.wp P a w K Q else K (a.put o.dst undef) w) :
    wpPlan P ops wk S S2 Q ((true, o) :: rest) a w := by
  have := h (fun a' w' => (S w' ∨ (restCalm wk rest = true ∧ lastO wk ops o = true ∧ S2 w')) ∧ wpPlan P ops wk S S2 Q rest a' w') (fun _ _ h1 h2 => ⟨.inl h1, h2⟩)
  unfold wpPlan
  split
  · rename_i hw; rw [if_pos hw] at this; exact .inl this
  · rename_i hw; rw [if_neg hw] at this; exact this
theorem plan_nil {a : Act} {w : World} (h : Q .normal a w) : wpPlan P ops wk S S2 Q [] a w := h

/-- Each step of the plan is let: a quiet one is ready and apart from all that may still come ahead of it; a loud one alone is ready. -/
def planFrom (ops : Array Oper) : List (Bool × Nat) → Array Bool → Bool
  | [], listed => (Region.ready .any ops listed).isEmpty
  | (false, i) :: r, listed => (Region.ready .any ops listed).contains i && Region.free .any ops listed i && (match ops[i]? with | some o => !isStore o | none => false) && planFrom ops r (listed.setIfInBounds i true)
  | (true, i) :: r, listed => decide (Region.ready .any ops listed = [i]) && planFrom ops r (listed.setIfInBounds i true)
def planB (ops : Array Oper) (plan : List (Bool × Nat)) : Bool :=
  Region.noSelect ops && decide (plan.length = ops.size) && plan.all (fun x => decide (x.2 < ops.size)) && planFrom ops plan (Array.replicate ops.size false)

theorem yieldsAt_of {o : Oper} {a : Act} {w : World} {v : Value} (h : if Region.wanted o (yielded ops a.tmps) then stillV P o a w v else undef = v) :
    YieldsAt P ops w o v a := by
  by_cases hw : Region.wanted o (yielded ops a.tmps) = true
  · rw [if_pos hw] at h
    unfold stillV at h
    generalize hr : (execOp a.eval o).run P w = r at h
    cases r with
    | ok n w' =>
      cases n <;> simp only [stillUponV] at h
      case value u => obtain ⟨rfl, rfl⟩ := h; exact .inl ⟨hw, .inl hr⟩
      case skip => obtain ⟨rfl, rfl⟩ := h; exact .inl ⟨hw, .inr (.inl ⟨hr, rfl⟩)⟩
      case enter f args => obtain ⟨rfl, hc⟩ := h; exact .inl ⟨hw, .inr (.inr ⟨f, args, hr, hc⟩)⟩
    | halt x w' => simp only [stillUponV] at h
  · rw [if_neg hw] at h
    exact .inr ⟨by simpa using hw, h.symm⟩

theorem anyI_of_plan (hS2 : ∀ w, S w → S2 w) (hs : Region.noSelect ops = true) (hQ : ∀ c d v a w, Q (.panic c) (Act.put a d v) w → Q (.panic c) a w) :
    ∀ (plan : List (Bool × Nat)) (l : List (Bool × Oper)) (listed : Array Bool) (a : Act) (w : World), l.length = plan.length →
      (∀ (k : Nat) (b : Bool) (i : Nat), plan[k]? = some (b, i) → ∃ o, ops[i]? = some o ∧ l[k]? = some (b, o)) → (S w ∨ (restCalm wk l = true ∧ S2 w)) →
      planFrom ops plan listed = true → wpPlan P ops wk S S2 Q l a w → anyI P ops wk S S2 Q plan.length listed a w
  | [], [], listed, a, w, _, _, _, hB, h => ⟨by simpa [planFrom] using hB, h⟩
  | [], _ :: _, _, _, _, hl, _, _, _, _ => by simp at hl
  | _ :: _, [], _, _, _, hl, _, _, _, _ => by simp at hl
  | (b, i) :: plan, (b', o) :: l, listed, a, w, hl, hat, hS, hB, h => by
    obtain ⟨o', ho, he⟩ := hat 0 b i rfl
    simp only [List.getElem?_cons_zero, Option.some.injEq, Prod.mk.injEq] at he
    obtain ⟨rfl, rfl⟩ := he
    have hat' : ∀ (k : Nat) (b : Bool) (i : Nat), plan[k]? = some (b, i) → ∃ o, ops[i]? = some o ∧ l[k]? = some (b, o) := fun k b i hk => by
      have := hat (k + 1) b i (by simpa using hk)
      simpa using this
    have hl' : l.length = plan.length := by simpa using hl
    cases b' with
    | false =>
      simp only [planFrom, Bool.and_eq_true] at hB
      obtain ⟨⟨⟨hr, hf⟩, hns⟩, hB'⟩ := hB
      have hns' : isStore o = false := by simpa [ho] using hns
      obtain ⟨v, hX, hrest⟩ := h
      have k2 : S w ∨ (wk o = true ∧ S2 w) := hS.imp id fun h => by simp [restCalm] at h; exact ⟨h.1.1, h.2⟩
      have k3 : S w ∨ (restCalm wk l = true ∧ S2 w) := hS.imp id fun h => by simp [restCalm] at h ⊢; exact ⟨h.1.2, h.2⟩
      exact anyI_first hns' ho (Region.noSelect_spec hs) (fun c a w => hQ c o.dst v a w) plan.length listed a w (Region.free_spec ho hf) (by simpa using hr) (fun w' hw' => yieldsAt_of (hX w' hw')) k2
        (anyI_of_plan hS2 hs hQ plan l _ _ w hl' hat' k3 hB' hrest)
    | true =>
      simp only [planFrom, Bool.and_eq_true, decide_eq_true_eq] at hB
      obtain ⟨hr, hB'⟩ := hB
      refine ⟨(fun h0 => by rw [hr] at h0; cases h0), fun j hj => ?_⟩
      rw [hr] at hj
      have : j = i := by simpa using hj
      subst this
      unfold wpPlan at h
      unfold wpOp
      simp only [ho]
      split
      · rename_i hw
        rw [if_pos hw] at h
        rcases h with h | h
        · exact .inl (Oper.wp_mono (fun a' w' hh => ⟨fun _ => hh.1.imp id fun h => ⟨⟨o, rfl, h.2.1⟩, h.2.2⟩, fun _ => hh.1.elim (hS2 _) (fun h => h.2.2), anyI_of_plan hS2 hs hQ plan l _ a' w' hl' hat' (hh.1.imp id fun h => ⟨h.1, h.2.2⟩) hB' hh.2⟩) h)
        · exact .inr h
      · rename_i hw
        rw [if_neg hw] at h
        exact ⟨fun _ => h.1.imp id fun h => ⟨⟨o, rfl, h.2.1⟩, h.2.2⟩, fun _ => h.1.elim (hS2 _) (fun h => h.2.2), anyI_of_plan hS2 hs hQ plan l _ _ w hl' hat' (h.1.imp id fun h => ⟨h.1, h.2.2⟩) hB' h.2⟩

/-- Q, but nothing at a panic: the region is shown not to panic. -/
def NoP (Q : Exit → Act → World → Prop) : Exit → Act → World → Prop
  | .panic _, _, _ => False
  | e, a, w => Q e a w
theorem NoP.le : ∀ (e : Exit) (a : Act) (w : World), NoP Q e a w → Q e a w := fun e a w h => by
  cases e <;> first | exact h | exact (h : False).elim
theorem plan_end {a : Act} {w : World} (h : Q .normal a w) : wpPlan P ops wk S S2 (NoP Q) [] a w := h

/-- The operations of a plan. -/
def planOps (l : List Oper) (plan : List (Bool × Nat)) : List (Bool × Oper) := plan.map fun x => (x.1, l.getD x.2 default)

theorem wp_region_plan2 {id : Nat} {a : Act} {w : World} {l : List Oper} (wk : Oper → Bool) (S S2 : World → Prop) (hS2 : ∀ w, S w → S2 w) (plan : List (Bool × Nat)) (hm : P.follows .mixedOrders = true) (hB : planB l.toArray plan = true)
    (hS : S w.drew) (h : wpPlan P l.toArray wk S S2 (NoP Q) (planOps l plan) a w.drew) : (Code.region id l.toArray true).wp P Q a w := by
  refine Code.wp_mono NoP.le ?_
  simp only [planB, Bool.and_eq_true, decide_eq_true_eq] at hB
  obtain ⟨⟨⟨hs, hlen⟩, hall⟩, hp⟩ := hB
  refine wp_region_any hm (wpAny_of_anyI (wk := wk) (S := S) (S2 := S2) _ _ _ _ ?_)
  rw [← hlen]
  refine anyI_of_plan hS2 hs (fun _ _ _ _ _ h => h) plan (planOps l plan) _ a _ (by simp [planOps]) (fun k b i hk => ?_) (.inl hS) (by rw [hlen]; exact hp) h
  have hi : i < l.length := by
    have := List.all_eq_true.1 hall (b, i) (List.mem_of_getElem? hk)
    simpa using this
  refine ⟨l[i], by simp [hi], ?_⟩
  simp [planOps, hk, hi]
/-- The usual one: only what looks at no world is weak. -/
def tt : World → Prop := fun _ => True
theorem tt_of {S : World → Prop} : ∀ w, S w → tt w := fun _ _ => trivial
theorem wp_region_plan {id : Nat} {a : Act} {w : World} {l : List Oper} (S : World → Prop) (plan : List (Bool × Nat)) (hm : P.follows .mixedOrders = true) (hB : planB l.toArray plan = true)
    (hS : S w.drew) (h : wpPlan P l.toArray calm S tt (NoP Q) (planOps l plan) a w.drew) : (Code.region id l.toArray true).wp P Q a w := wp_region_plan2 calm S tt tt_of plan hm hB hS h
/-- Weak: what looks at no world, and what writes these slots. -/
def wkD (l : List Nat) (o : Oper) : Bool := calm o || (match o.dst with | some d => l.contains d | none => false)
end
end Go.Proofs.YtpheifdpjcppdaaGreatDoor
namespace Go.Proofs.YtpheifdpjcppdaaGreatDoor
open Go
/-- A tree of orders: a quiet operation, a loud one that alone can come, two loud ones that can come. -/
inductive Tr where
  | nil
  | q (i : Nat) (r : Tr)
  | l (i : Nat) (r : Tr)
  | f (i : Nat) (r : Tr) (j : Nat) (s : Tr)
def Tr.size : Tr → Nat
  | .nil => 0
  | .q _ r => r.size + 1
  | .l _ r => r.size + 1
  | .f _ r _ _ => r.size + 1
section
variable {P : Program} {ops : Array Oper} {Q : Exit → Act → World → Prop} {S : World → Prop}
def wpLoud (P : Program) (ops : Array Oper) (S : World → Prop) (Q : Exit → Act → World → Prop) (i : Nat) (k : Act → World → Prop) (a : Act) (w : World) : Prop := ∃ o, ops[i]? = some o ∧
  if Region.wanted o (yielded ops a.tmps) then o.wp P a w (fun a' w' => S w' ∧ k a' w') Q ∨ (o.asks P a w ∧ LetsOut Q) else S w ∧ k (a.put o.dst undef) w
def wpTree (P : Program) (ops : Array Oper) (S : World → Prop) (Q : Exit → Act → World → Prop) : Tr → Act → World → Prop
  | .nil, a, w => Q .normal a w
  | .q i r, a, w => ∃ o v, ops[i]? = some o ∧ (∀ w', S w' → if Region.wanted o (yielded ops a.tmps) then stillV P o a w' v else undef = v) ∧ wpTree P ops S Q r (a.put o.dst v) w
  | .l i r, a, w => wpLoud P ops S Q i (wpTree P ops S Q r) a w
  | .f i r j s, a, w => wpLoud P ops S Q i (wpTree P ops S Q r) a w ∧ wpLoud P ops S Q j (wpTree P ops S Q s) a w
theorem tree_q {i : Nat} {o : Oper} {r : Tr} {a : Act} {w : World} {v : Value} (ho : ops[i]? = some o) (hg : o.guard = none) (h : ∀ w', S w' → stillV P o a w' v) (hr : wpTree P ops S Q r (a.put o.dst v) w) : wpTree P ops S Q (.q i r) a w :=
  ⟨o, v, ho, fun w' hw' => by rw [if_pos (by simp [Region.wanted, hg])]; exact h w' hw', hr⟩
theorem loud_of {i : Nat} {o : Oper} {k : Act → World → Prop} {a : Act} {w : World} (ho : ops[i]? = some o) (hg : o.guard = none)
    (h : ∀ K : Act → World → Prop, (∀ a' w', S w' → k a' w' → K a' w') → o.wp P a w K Q) : wpLoud P ops S Q i k a w :=
  ⟨o, ho, by rw [if_pos (by simp [Region.wanted, hg])]; exact .inl (h _ fun _ _ h1 h2 => ⟨h1, h2⟩)⟩
theorem tree_l {i : Nat} {o : Oper} {r : Tr} {a : Act} {w : World} (ho : ops[i]? = some o) (hg : o.guard = none)
    (h : ∀ K : Act → World → Prop, (∀ a' w', S w' → wpTree P ops S Q r a' w' → K a' w') → o.wp P a w K Q) : wpTree P ops S Q (.l i r) a w := loud_of ho hg h
theorem tree_f {i j : Nat} {o u : Oper} {r s : Tr} {a : Act} {w : World} (ho : ops[i]? = some o) (hg : o.guard = none)
    (h : ∀ K : Act → World → Prop, (∀ a' w', S w' → wpTree P ops S Q r a' w' → K a' w') → o.wp P a w K Q) (hu : ops[j]? = some u) (hgu : u.guard = none)
    (h2 : ∀ K : Act → World → Prop, (∀ a' w', S w' → wpTree P ops S Q s a' w' → K a' w') → u.wp P a w K Q) : wpTree P ops S Q (.f i r j s) a w := ⟨loud_of ho hg h, loud_of hu hgu h2⟩
theorem tree_end {a : Act} {w : World} (h : Q .normal a w) : wpTree P ops S (NoP Q) .nil a w := h
/-- Each step of the tree is let. -/
def treeFrom (ops : Array Oper) : Tr → Array Bool → Bool
  | .nil, listed => (Region.ready .any ops listed).isEmpty
  | .q i r, listed => (Region.ready .any ops listed).contains i && Region.free .any ops listed i && (match ops[i]? with | some o => !isStore o | none => false) && treeFrom ops r (listed.setIfInBounds i true)
  | .l i r, listed => decide (Region.ready .any ops listed = [i]) && treeFrom ops r (listed.setIfInBounds i true)
  | .f i r j s, listed => decide (Region.ready .any ops listed = [i, j]) && decide (r.size = s.size) && treeFrom ops r (listed.setIfInBounds i true) && treeFrom ops s (listed.setIfInBounds j true)
def nope : Oper → Bool := fun _ => false
theorem loud_any {i n : Nat} {listed : Array Bool} {k : Act → World → Prop} {a : Act} {w : World} (h : wpLoud P ops S Q i k a w)
    (hk : ∀ a' w', S w' → k a' w' → anyI P ops nope S tt Q n listed a' w') :
    wpOp P ops Q i (fun a' w' => (S w → S w' ∨ ((∃ o, ops[i]? = some o ∧ lastO nope ops o = true) ∧ tt w')) ∧ (tt w → tt w') ∧ anyI P ops nope S tt Q n listed a' w') a w := by
  obtain ⟨o, ho, h⟩ := h
  unfold wpOp
  simp only [ho]
  split
  · rename_i hw
    rw [if_pos hw] at h
    rcases h with h | h
    · exact .inl (Oper.wp_mono (fun a' w' hh => ⟨fun _ => .inl hh.1, fun _ => trivial, hk a' w' hh.1 hh.2⟩) h)
    · exact .inr h
  · rename_i hw
    rw [if_neg hw] at h
    exact ⟨fun _ => .inl h.1, fun _ => trivial, hk _ w h.1 h.2⟩
theorem anyI_of_tree (hs : Region.noSelect ops = true) (hQ : ∀ c d v a w, Q (.panic c) (Act.put a d v) w → Q (.panic c) a w) :
    ∀ (t : Tr) (listed : Array Bool) (a : Act) (w : World), S w → treeFrom ops t listed = true → wpTree P ops S Q t a w → anyI P ops nope S tt Q t.size listed a w
  | .nil, listed, a, w, _, hB, h => ⟨by simpa [treeFrom] using hB, h⟩
  | .q i r, listed, a, w, hS, hB, h => by
    simp only [treeFrom, Bool.and_eq_true] at hB
    obtain ⟨⟨⟨hr, hf⟩, hns⟩, hB'⟩ := hB
    obtain ⟨o, v, ho, hX, hrest⟩ := h
    have hns' : isStore o = false := by simpa [ho] using hns
    exact anyI_first hns' ho (Region.noSelect_spec hs) (fun c a w => hQ c o.dst v a w) r.size listed a w (Region.free_spec ho hf) (by simpa using hr) (fun w' hw' => yieldsAt_of (hX w' (by rcases hw' with h | h; exact h; cases h.1))) (.inl hS)
      (anyI_of_tree hs hQ r _ _ w hS hB' hrest)
  | .l i r, listed, a, w, hS, hB, h => by
    simp only [treeFrom, Bool.and_eq_true, decide_eq_true_eq] at hB
    obtain ⟨hr, hB'⟩ := hB
    refine ⟨(fun h0 => by rw [hr] at h0; cases h0), fun j hj => ?_⟩
    rw [hr] at hj
    obtain rfl : j = i := by simpa using hj
    exact loud_any h fun a' w' h1 h2 => anyI_of_tree hs hQ r _ a' w' h1 hB' h2
  | .f i r j s, listed, a, w, hS, hB, h => by
    simp only [treeFrom, Bool.and_eq_true, decide_eq_true_eq] at hB
    obtain ⟨⟨⟨hr, hsz⟩, hB1⟩, hB2⟩ := hB
    refine ⟨(fun h0 => by rw [hr] at h0; cases h0), fun k hk => ?_⟩
    rw [hr] at hk
    rcases List.mem_cons.1 hk with rfl | hk
    · exact loud_any h.1 fun a' w' h1 h2 => anyI_of_tree hs hQ r _ a' w' h1 hB1 h2
    · obtain rfl : k = j := by simpa using hk
      have := loud_any h.2 (n := s.size) (listed := listed.setIfInBounds k true) fun a' w' h1 h2 => anyI_of_tree hs hQ s _ a' w' h1 hB2 h2
      rw [← hsz] at this
      exact this
def treeB (ops : Array Oper) (t : Tr) : Bool := Region.noSelect ops && decide (t.size = ops.size) && treeFrom ops t (Array.replicate ops.size false)
theorem wp_region_tree {id : Nat} {a : Act} {w : World} {l : List Oper} (S : World → Prop) (t : Tr) (hm : P.follows .mixedOrders = true) (hB : treeB l.toArray t = true)
    (hS : S w.drew) (h : wpTree P l.toArray S (NoP Q) t a w.drew) : (Code.region id l.toArray true).wp P Q a w := by
  refine Code.wp_mono NoP.le ?_
  simp only [treeB, Bool.and_eq_true, decide_eq_true_eq] at hB
  obtain ⟨⟨hs, hlen⟩, hp⟩ := hB
  refine wp_region_any hm (wpAny_of_anyI (wk := nope) (S := S) (S2 := tt) _ _ _ _ ?_)
  rw [← hlen]
  exact anyI_of_tree hs (fun _ _ _ _ _ h => h) t _ a _ hS (by rw [hlen]; exact hp) h
end
end Go.Proofs.YtpheifdpjcppdaaGreatDoor
