/- Calls: what our run gives the world's run gives. -/
import Derived.Test.YtplnfkihbffeeaaGreatDoorAmBk
namespace Go.Am
variable {P : Program} {G : Cfg} {m : Mu} {s : St} {w : World} {n : Nat} {e : Env} {o : Oper} {v : Value}

theorem envOf_at : ∀ (l : List Value) (i t : Nat) (e : Env), (envOf i l e).at t = if i ≤ t ∧ t < i + l.length then (l[t - i]?).getD undef else e.at t
  | [], i, t, e => by
    simp only [envOf, List.length_nil, Nat.add_zero]
    rw [if_neg (by omega)]
  | v :: l, i, t, e => by
    simp only [envOf]
    rw [envOf_at l (i + 1) t]
    by_cases h1 : i + 1 ≤ t ∧ t < i + 1 + l.length
    · rw [if_pos h1, if_pos (by simp; omega)]
      have : t - i = (t - (i + 1)) + 1 := by omega
      rw [this]; simp
    · rw [if_neg h1]
      unfold Env.at
      rw [Tr.get_set]
      by_cases h2 : t = i
      · subst h2
        rw [if_pos rfl, if_pos (by simp)]
        simp
      · rw [if_neg h2, if_neg (by simp; omega)]

theorem nil_at (t : Nat) : Env.at (Tr.nil : Env) t = undef := rfl

theorem args_rel {args args' : List Value} (h : VRels m args args') {n : Nat} (hn : args.length ≤ n) :
    ERel m n (envOf 0 args .nil) ((⟨args'⟩ : Array Value) ++ Array.replicate (n - args'.length) undef) := by
  have hl := h.length
  refine ⟨by simp; omega, fun t => ?_⟩
  rw [envOf_at]
  by_cases ht : t < args.length
  · rw [if_pos (by omega)]
    have h1 : args[t]? = some args[t] := List.getElem?_eq_getElem ht
    obtain ⟨v', h2, h3⟩ := h.get t _ h1
    have ht' : t < args'.length := by omega
    have h4 : ((⟨args'⟩ : Array Value) ++ Array.replicate (n - args'.length) undef).getD t undef = v' := by
      simp only [Array.getD_eq_getD_getElem?]
      rw [Array.getElem?_append_left (by simpa using ht')]
      simp [h2]
    rw [h4]
    simp only [Nat.sub_zero, h1, Option.getD_some]
    exact h3
  · rw [if_neg (by omega), nil_at]
    have h4 : ((⟨args'⟩ : Array Value) ++ Array.replicate (n - args'.length) undef).getD t undef = undef := by
      simp only [Array.getD_eq_getD_getElem?]
      rw [Array.getElem?_append_right (by simp; omega)]
      simp only [Array.getElem?_replicate]
      split <;> rfl
    rw [h4]
    exact VRel.undef

theorem mapM_run {α β : Type} {f : α → Sem β} {g : α → β} {w : World} : ∀ (l : List α), (∀ x ∈ l, (f x).run P w = .ok (g x) w) → (l.mapM f).run P w = .ok (l.map g) w
  | [], _ => by simp [List.mapM_nil]
  | x :: l, h => by
    have ih := mapM_run (f := f) (g := g) (w := w) l fun y hy => h y (by simp [hy])
    rw [List.mapM_cons]
    simp [h x (by simp), ih]

theorem amapM_run {α β : Type} {f : α → Sem β} {g : α → β} {w : World} (l : Array α) (h : ∀ x ∈ l.toList, (f x).run P w = .ok (g x) w) : (l.mapM f).run P w = .ok ⟨l.toList.map g⟩ w := by
  rw [Array.mapM_eq_mapM_toList]
  simp [mapM_run l.toList h]

theorem vload1 (r : Rel G m s w) {t : Nat} {a : Array Value} (ht : VRel m (e.at t) (a.getD t undef)) {ty : TypeId} {d : TypeDesc} (hd : P.underlying ty = some d) (hag : isAggD d = false)
    (h : loadOf e s (.load1 (.t t)) = some v) : ∃ v', VRel m v v' ∧ (do loadVar ty (← asAddr (a.getD t undef)) : Sem Value).run P w = .ok v' w := by
  simp only [loadOf, Opd.ev] at h
  split at h
  · rename_i b off hb
    rw [hb] at ht
    obtain ⟨l, hl, ha'⟩ := ht.ptr_eq
    split at h
    · rename_i x hx0
      obtain ⟨hx, hC⟩ := St.cel_spec hx0
      obtain ⟨v', h1, h2⟩ := (r.blk _ _ _ hx hl).cell hC h
      refine ⟨v', h2, ?_⟩
      rw [ha']
      simp [asAddr, loadVar, isAgg_run hd, hag, h1]
    · cases h
  · cases h

theorem vloadN (r : Rel G m s w) {t k : Nat} {a : Array Value} (ht : VRel m (e.at t) (a.getD t undef)) {ty : TypeId} {d : TypeDesc} (hd : P.underlying ty = some d) (hag : isAggD d = true) (hk : sizeP P ty = some k)
    (h : loadOf e s (.loadN (.t t) k) = some v) : ∃ v', VRel m v v' ∧ (do loadVar ty (← asAddr (a.getD t undef)) : Sem Value).run P w = .ok v' w := by
  simp only [loadOf, Opd.ev] at h
  split at h
  · rename_i b off hb
    rw [hb] at ht
    obtain ⟨l, hl, ha'⟩ := ht.ptr_eq
    split at h
    · rename_i x hx0
      obtain ⟨hx, hC⟩ := St.cel_spec hx0
      simp only [Option.map_eq_some_iff] at h
      obtain ⟨vs, hvs, rfl⟩ := h
      obtain ⟨vs', h1, h2, h3⟩ := (r.blk _ _ _ hx hl).take hC hvs
      refine ⟨.agg ⟨vs'⟩, .agg h2, ?_⟩
      rw [ha']
      simp [asAddr, loadVar, isAgg_run hd, hag, sizeOf_run hk, loadN_run h1 h3]
    · cases h
  · cases h

def rvGet (a : Array Value) : ResultVar → Sem Value
  | .tmp t => pure (a.getD t undef)
  | .cell x t => do loadVar t (← asAddr (a.getD x undef))

theorem rvs_run (r : Rel G m s w) {n : Nat} {a : Array Value} (he : ERel m n e a) : ∀ (l : List ResultVar) (rl : List RV) (vs : List Value), resTmps P l = some rl → rvs e s rl = some vs →
    ∃ vs', VRels m vs vs' ∧ (l.mapM (rvGet a) : Sem (List Value)).run P w = .ok vs' w
  | [], rl, vs, h, h2 => by
    simp only [resTmps, Option.some.injEq] at h; subst h
    simp only [rvs, Option.some.injEq] at h2; subst h2
    exact ⟨[], .nil, by simp [List.mapM_nil]⟩
  | x :: l, rl, vs, h, h2 => by
    have cons : ∀ (q : RV) (rl' : List RV), resTmps P l = some rl' → rl = q :: rl' → (∀ v, q.of e s = some v → ∃ v', VRel m v v' ∧ (rvGet a x).run P w = .ok v' w) →
        ∃ vs', VRels m vs vs' ∧ ((x :: l).mapM (rvGet a) : Sem (List Value)).run P w = .ok vs' w := by
      intro q rl' h3 h4 h5
      subst h4
      simp only [rvs] at h2
      split at h2
      · rename_i v vs1 hv hvs
        simp only [Option.some.injEq] at h2; subst h2
        obtain ⟨vs', k1, k2⟩ := rvs_run r he l rl' vs1 h3 hvs
        obtain ⟨v', k3, k4⟩ := h5 v hv
        refine ⟨v' :: vs', .cons k3 k1, ?_⟩
        rw [List.mapM_cons]
        simp [k4, k2]
      · cases h2
    cases x with
    | tmp t =>
      simp only [resTmps, Option.bind_eq_bind, Option.bind_eq_some_iff, Option.some.injEq] at h
      obtain ⟨rl', h1, h3⟩ := h
      refine cons _ rl' h1 h3.symm fun v hv => ?_
      simp only [RV.of, Option.some.injEq] at hv; subst hv
      exact ⟨_, he.2 t, rfl⟩
    | cell y t =>
      simp only [resTmps, Option.bind_eq_bind, Option.bind_eq_some_iff] at h
      obtain ⟨d, hd, h⟩ := h
      split at h
      · rename_i hag
        simp only [Option.bind_eq_some_iff, Option.some.injEq] at h
        obtain ⟨k, hk, rl', h1, h3⟩ := h
        exact cons _ rl' h1 h3.symm fun v hv => vloadN r (he.2 y) hd hag hk hv
      · rename_i hag
        simp only [Option.bind_eq_some_iff, Option.some.injEq] at h
        obtain ⟨rl', h1, h3⟩ := h
        exact cons _ rl' h1 h3.symm fun v hv => vload1 r (he.2 y) hd hag hv

theorem results_run {fn : Func} {rl : List RV} {a : Array Value} (h : resTmps P fn.results.toList = some rl) (r : Rel G m s w) {n : Nat} (he : ERel m n e a) (hv : resOf e s rl = some v) :
    ∃ v', VRel m v v' ∧ (results fn a).run P w = .ok v' w := by
  unfold resOf at hv
  cases hvs : rvs e s rl with
  | none => simp [hvs] at hv
  | some vs =>
    obtain ⟨vs', h1, h2⟩ := rvs_run r he _ _ _ h hvs
    have h3 : (fn.results.mapM (rvGet a) : Sem (Array Value)).run P w = .ok ⟨vs'⟩ w := by
      rw [Array.mapM_eq_mapM_toList]
      simp [h2]
    have h4 : results fn a = (do
        let vs ← fn.results.mapM (rvGet a)
        pure (if h : vs.size = 1 then vs[0] else .tuple vs)) := rfl
    rw [h4, Sem.run_bind, h3, Result.andThen_ok]
    rw [hvs] at hv
    cases h1 with
    | nil => simp only [Option.some.injEq] at hv; subst hv; exact ⟨_, .tuple .nil, rfl⟩
    | cons q1 k1 => cases k1 with
      | nil => simp only [Option.some.injEq] at hv; subst hv; exact ⟨_, q1, rfl⟩
      | cons q2 k2 => simp only [Option.some.injEq] at hv; subst hv; exact ⟨_, .tuple (.cons q1 (.cons q2 k2)), by simp⟩

/-- Numbers are used up, and not used again. -/
def Grow (s s' : St) : Prop := s.next ≤ s'.next ∧ ∀ b, b < s.next → s.get b = none → s'.get b = none
def GrowX (id : Nat) (s s' : St) : Prop := s.next ≤ s'.next ∧ ∀ b, b < s.next → b ≠ id → s.get b = none → s'.get b = none

theorem Grow.trans {a b c : St} (h : Grow a b) (k : Grow b c) : Grow a c := ⟨Nat.le_trans h.1 k.1, fun x hx hn => k.2 x (Nat.lt_of_lt_of_le hx h.1) (h.2 x hx hn)⟩
theorem Grow.refl (s : St) : Grow s s := ⟨Nat.le_refl _, fun _ _ h => h⟩
theorem GrowX.refl (id : Nat) (s : St) : GrowX id s s := ⟨Nat.le_refl _, fun _ _ _ h => h⟩
theorem Grow.x {s s' : St} (id : Nat) (h : Grow s s') : GrowX id s s' := ⟨h.1, fun b hb _ => h.2 b hb⟩

theorem growX_own (id : Nat) (s : St) (x : Blk) : GrowX id s (s.own id x) := by
  refine ⟨by rw [St.next_own]; omega, fun b _ hb hn => ?_⟩
  rw [St.get_own, if_neg hb]; exact hn
theorem grow_put {s : St} {b : Nat} {x : Blk} (h : s.get b = some x) (y : Option Blk) : Grow s (s.put b y) := by
  refine ⟨Nat.le_refl _, fun c _ hn => ?_⟩
  rw [St.get_put]
  split
  · rename_i e1; rw [e1, h] at hn; cases hn
  · exact hn

theorem append_grow_st {s s' : St} {id : Nat} {v x v' : Value} {el : TypeId} {z : List Value} {by' : Nat} (h : appendA s id v x el z by' = some (v', s')) : GrowX id s s' := by
  unfold appendA at h
  simp only at h
  split at h
  · cases h
  split at h
  · cases h
  split at h
  · cases h
  split at h
  · split at h
    · cases h
    split at h
    · simp only [Option.some.injEq, Prod.mk.injEq] at h; obtain ⟨-, rfl⟩ := h; exact GrowX.refl _ _
    · split at h
      · simp only [Option.some.injEq, Prod.mk.injEq] at h; obtain ⟨-, rfl⟩ := h; exact growX_own _ _ _
      · cases h
  · split at h
    · simp only [Option.some.injEq, Prod.mk.injEq] at h; obtain ⟨-, rfl⟩ := h; exact GrowX.refl _ _
    · split at h
      · cases h
      rename_i blk hblk0
      have hblk := (St.cel_spec hblk0).1
      split at h
      · cases h
      split at h
      · split at h
        · split at h
          · simp only [Option.some.injEq, Prod.mk.injEq] at h; obtain ⟨-, rfl⟩ := h; exact (grow_put hblk _).x _
          · cases h
        · split at h
          · cases h
          · simp only [Option.some.injEq, Prod.mk.injEq] at h; obtain ⟨-, rfl⟩ := h; exact growX_own _ _ _
      · split at h
        · cases h
        split at h
        · simp only [Option.some.injEq, Prod.mk.injEq] at h; obtain ⟨-, rfl⟩ := h; exact (grow_put hblk _).x _
        · split at h
          · cases h
          split at h
          · cases h
          · simp only [Option.some.injEq, Prod.mk.injEq] at h; obtain ⟨-, rfl⟩ := h
            have h1 := grow_put hblk none
            exact ⟨Nat.le_trans h1.1 (growX_own id _ _).1, fun b hb hi hn => (growX_own id _ _).2 b (Nat.lt_of_lt_of_le hb h1.1) hi (h1.2 b hb hn)⟩
  · cases h

theorem actX_grow {s s' : St} {id : Nat} {e : Env} {k : XA} {r : ARes} (h : actX P e s id k = some (r, s')) : GrowX id s s' := by
  unfold actX at h
  split at h
  · split at h
    · simp only [Option.some.injEq, Prod.mk.injEq] at h; obtain ⟨-, rfl⟩ := h; exact growX_own _ _ _
    · cases h
  · split at h
    · split at h
      · rename_i blk hblk
        split at h
        · rw [Bool.cond_eq_ite] at h
          split at h
          · rw [Bool.cond_eq_ite] at h
            split at h
            · simp only [Option.some.injEq, Prod.mk.injEq] at h; obtain ⟨-, rfl⟩ := h; exact (grow_put hblk _).x _
            · simp only [Option.some.injEq, Prod.mk.injEq] at h; obtain ⟨-, rfl⟩ := h; exact GrowX.refl _ _
          · cases h
        · cases h
      · cases h
    · cases h
  · simp only [Option.some.injEq, Prod.mk.injEq] at h; obtain ⟨-, rfl⟩ := h; exact GrowX.refl _ _
  · split at h
    · rw [Bool.cond_eq_ite] at h
      split at h
      · simp only [Option.some.injEq, Prod.mk.injEq] at h; obtain ⟨-, rfl⟩ := h; exact growX_own _ _ _
      · cases h
    · cases h
  · split at h
    · rw [Bool.cond_eq_ite] at h
      split at h
      · simp only [Option.some.injEq, Prod.mk.injEq] at h; obtain ⟨-, rfl⟩ := h; exact GrowX.refl _ _
      · cases h
    · rw [Bool.cond_eq_ite] at h
      split at h
      · simp only [Option.some.injEq, Prod.mk.injEq] at h; obtain ⟨-, rfl⟩ := h; exact GrowX.refl _ _
      · split at h
        · cases h
        · rename_i blk hblk0
          have hblk := (St.cel_spec hblk0).1
          split at h
          · cases h
          · split at h
            · cases h
            · rw [Bool.cond_eq_ite] at h
              split at h
              · simp only [Option.some.injEq, Prod.mk.injEq] at h; obtain ⟨-, rfl⟩ := h; exact (grow_put hblk _).x _
              · cases h
    · cases h
  · split at h
    · split at h
      · rw [Bool.cond_eq_ite] at h
        split at h
        · simp only [Option.some.injEq, Prod.mk.injEq] at h; obtain ⟨-, rfl⟩ := h; exact GrowX.refl _ _
        · cases h
      · cases h
    · cases h
  · split at h
    · split at h
      · split at h
        · rw [Bool.cond_eq_ite] at h
          split at h
          · simp only [Option.some.injEq, Prod.mk.injEq] at h; obtain ⟨-, rfl⟩ := h; exact GrowX.refl _ _
          · cases h
        · cases h
      · cases h
    · cases h
  · split at h
    · split at h
      · simp only [Option.some.injEq, Prod.mk.injEq] at h; obtain ⟨-, rfl⟩ := h; exact GrowX.refl _ _
      · cases h
    · cases h

theorem act_grow {s s' : St} {id : Nat} {e : Env} {op : AOp} {r : ARes} (h : actOf P e s id op = some (r, s')) : GrowX id s s' := by
  unfold actOf at h
  split at h
  · split at h
    · split at h
      · rename_i hblk0
        have hblk := (St.cel_spec hblk0).1
        dsimp only at h
        split at h
        · simp only [Option.some.injEq, Prod.mk.injEq] at h; obtain ⟨-, rfl⟩ := h; exact (grow_put hblk _).x _
        · cases h
      · cases h
    · cases h
  · simp only [Option.map_eq_some_iff, Prod.mk.injEq] at h
    obtain ⟨⟨v, s1⟩, h1, -, rfl⟩ := h
    exact append_grow_st h1
  · split at h
    · split at h
      · rw [Bool.cond_eq_ite] at h
        split at h
        · simp only [Option.some.injEq, Prod.mk.injEq] at h; obtain ⟨-, rfl⟩ := h; exact GrowX.refl _ _
        · cases h
      · cases h
    · split at h
      · rename_i hnc hblk0
        have hblk := (St.cel_spec hblk0).1
        dsimp only at h
        split at h
        · simp only [Option.some.injEq, Prod.mk.injEq] at h; obtain ⟨-, rfl⟩ := h; exact (grow_put hblk _).x _
        · cases h
      · cases h
    · cases h
  · simp only [Option.some.injEq, Prod.mk.injEq] at h; obtain ⟨-, rfl⟩ := h; exact GrowX.refl _ _
  · split at h
    · simp only [Option.some.injEq, Prod.mk.injEq] at h; obtain ⟨-, rfl⟩ := h; exact GrowX.refl _ _
    · cases h
  · exact actX_grow h
  · cases h

theorem step_grow {call : CallF} (hg : ∀ f args s v s', call f args s = some (v, s') → Grow s s') {ao : AOper} {id : Nat} {e e' : Env} {s s' : St} (h : step P call ao id e s = some (e', s')) : GrowX id s s' := by
  unfold step at h
  cases hw : wants e ao.guard with
  | false =>
    simp only [hw, cond_false, Option.some.injEq, Prod.mk.injEq] at h
    obtain ⟨-, rfl⟩ := h; exact GrowX.refl _ _
  | true =>
    simp only [hw, cond_true] at h
    have hev : ∀ r s1, evOp P e s id ao.op = some (r, s1) → GrowX id s s1 := by
      intro r s1 hev
      unfold evOp at hev
      split at hev
      · simp only [Option.map_eq_some_iff, Prod.mk.injEq] at hev; obtain ⟨_, -, -, rfl⟩ := hev; exact GrowX.refl _ _
      · simp only [Option.map_eq_some_iff, Prod.mk.injEq] at hev; obtain ⟨⟨_, _⟩, -, -, rfl⟩ := hev; exact growX_own _ _ _
      · simp only [Option.map_eq_some_iff, Prod.mk.injEq] at hev; obtain ⟨_, -, -, rfl⟩ := hev; exact GrowX.refl _ _
      · exact act_grow hev
    split at h
    · rename_i v s1 h1
      simp only [Option.some.injEq, Prod.mk.injEq] at h; obtain ⟨-, rfl⟩ := h
      exact hev _ _ h1
    · rename_i f args s1 h1
      split at h
      · rename_i v s2 h2
        simp only [Option.some.injEq, Prod.mk.injEq] at h; obtain ⟨-, rfl⟩ := h
        have k1 := hev _ _ h1
        have k2 := hg _ _ _ _ _ h2
        exact ⟨Nat.le_trans k1.1 k2.1, fun b hb hi hn => k2.2 b (Nat.lt_of_lt_of_le hb k1.1) (k1.2 b hb hi hn)⟩
      · cases h
    · cases h

theorem evOps_grow {call : CallF} (hg : ∀ f args s v s', call f args s = some (v, s') → Grow s s') : ∀ {l : List AOper} {e e' : Env} {s s' : St}, evOps P call l e s = some (e', s') → Grow s s'
  | [], e, e', s, s', h => by
    simp only [evOps, Option.some.injEq, Prod.mk.injEq] at h; obtain ⟨-, rfl⟩ := h; exact Grow.refl _
  | o :: l, e, e', s, s', h => by
    simp only [evOps] at h
    split at h
    · rename_i e1 s1 h1
      have k1 := step_grow hg h1
      have k2 := evOps_grow hg h
      exact Grow.trans ⟨k1.1, fun b hb hn => k1.2 b hb (by omega) hn⟩ k2
    · cases h

theorem lastS_cons {x y : Env × St} {l : List (Env × St)} : lastS (x :: y :: l) = lastS (y :: l) := rfl

/-- The states of a drawn region, one behind the other. -/
theorem trace_grow {call : CallF} (hg : ∀ f args s v s', call f args s = some (v, s') → Grow s s') (base : Nat) : ∀ {l : List AOper} {i : Nat} {e e' : Env} {s s' : St} {tr : List (Env × St)},
    trace P call base i l e s = some tr → lastS tr = some (e', s') → s.next ≤ s'.next ∧ ∀ b, b < base → b < s.next → s.get b = none → s'.get b = none
  | [], i, e, e', s, s', tr, h, hl => by
    simp only [trace, Option.some.injEq] at h; subst h
    simp only [lastS, Option.some.injEq, Prod.mk.injEq] at hl; obtain ⟨-, rfl⟩ := hl
    exact ⟨Nat.le_refl _, fun _ _ _ h => h⟩
  | o :: l, i, e, e', s, s', tr, h, hl => by
    simp only [trace] at h
    split at h
    · rename_i e1 s1 h1
      simp only [Option.map_eq_some_iff] at h
      obtain ⟨tr', htr, rfl⟩ := h
      have hne : ∃ x r, tr' = x :: r := by
        cases l with
        | nil => simp only [trace, Option.some.injEq] at htr; exact ⟨_, _, htr.symm⟩
        | cons o2 l2 =>
          simp only [trace] at htr
          split at htr
          · simp only [Option.map_eq_some_iff] at htr
            obtain ⟨t2, -, rfl⟩ := htr
            exact ⟨_, _, rfl⟩
          · cases htr
      obtain ⟨x, r, rfl⟩ := hne
      rw [lastS_cons] at hl
      have k1 := step_grow hg h1
      have k2 := trace_grow hg base htr hl
      exact ⟨Nat.le_trans k1.1 k2.1, fun b hb hs hn => k2.2 b hb (Nat.lt_of_lt_of_le hs k1.1) (k1.2 b hs (by omega) hn)⟩
    · cases h

theorem evDraw_grow {call : CallF} (hg : ∀ f args s v s', call f args s = some (v, s') → Grow s s') {l : List AOper} {un : List (List Nat)} {e e' : Env} {s s' : St} (h : evDraw P call l un e s = some (e', s')) : Grow s s' := by
  unfold evDraw at h
  split at h
  · rename_i tr htr
    cases hc : calmAll tr 0 l un with
    | false => simp [hc] at h
    | true =>
      simp only [hc, cond_true] at h
      obtain ⟨k1, k2⟩ := trace_grow hg _ htr h
      simp only at k1 k2
      exact ⟨by omega, fun b hb hn => k2 b hb (by omega) hn⟩
  · cases h

theorem backLoop_grow {round : Nat → St → Option (Ex × St)} (hr : ∀ k s ex s', round k s = some (ex, s') → Grow s s') : ∀ {len : Nat} {s s' : St} {ex : Ex}, backLoop round len s = some (ex, s') → Grow s s'
  | 0, s, s', ex, h => by
    simp only [backLoop, Option.some.injEq, Prod.mk.injEq] at h; obtain ⟨-, rfl⟩ := h; exact Grow.refl _
  | k + 1, s, s', ex, h => by
    simp only [backLoop] at h
    split at h
    · rename_i s1 h1; exact (hr _ _ _ _ h1).trans (backLoop_grow hr h)
    · exact hr _ _ _ _ h

theorem backRound_grow {ev : ACode → Env → St → Option (Ex × Env × St)} (hev : ∀ c ex e e' s s', ev c e s = some (ex, e', s') → Grow s s') {p : Addr} {pi px k : Nat} {as bd : ACode} {e : Env} {s s' : St} {ex : Ex}
    (h : backRound ev p pi px as bd e k s = some (ex, s')) : Grow s s' := by
  unfold backRound at h
  split at h
  · cases h
  split at h
  · rename_i h1
    split at h
    · rename_i h2
      simp only [Option.some.injEq, Prod.mk.injEq] at h; obtain ⟨-, rfl⟩ := h
      exact (hev _ _ _ _ _ _ h1).trans (hev _ _ _ _ _ _ h2)
    · cases h
  · cases h

theorem evC_grow {call : CallF} (hg : ∀ f args s v s', call f args s = some (v, s') → Grow s s') : ∀ (k : Nat) (c : ACode) (ex : Ex) (e e' : Env) (s s' : St), evC P call k c e s = some (ex, e', s') → Grow s s' := by
  intro k
  induction k with
  | zero => intro c ex e e' s s' h; simp [evC] at h
  | succ k ih =>
    intro c ex e e' s s' h
    cases c with
    | skip => simp only [evC, Option.some.injEq, Prod.mk.injEq] at h; obtain ⟨-, -, rfl⟩ := h; exact Grow.refl _
    | ret => simp only [evC, Option.some.injEq, Prod.mk.injEq] at h; obtain ⟨-, -, rfl⟩ := h; exact Grow.refl _
    | exit id => simp only [evC, Option.some.injEq, Prod.mk.injEq] at h; obtain ⟨-, -, rfl⟩ := h; exact Grow.refl _
    | seq a b =>
      simp only [evC] at h
      split at h
      · rename_i h1; exact (ih _ _ _ _ _ _ h1).trans (ih _ _ _ _ _ _ h)
      · exact ih _ _ _ _ _ _ h
    | cond c a b =>
      simp only [evC] at h
      split at h
      · rename_i t ht
        cases t with
        | true => exact ih _ _ _ _ _ _ (by simpa using h)
        | false => exact ih _ _ _ _ _ _ (by simpa using h)
      · cases h
    | block id a =>
      simp only [evC] at h
      split at h
      · rename_i i e1 s1 h1
        have k1 := ih _ _ _ _ _ _ h1
        cases hi : Nat.beq i id with
        | true => simp only [hi, cond_true, Option.some.injEq, Prod.mk.injEq] at h; obtain ⟨-, -, rfl⟩ := h; exact k1
        | false => simp only [hi, cond_false, Option.some.injEq, Prod.mk.injEq] at h; obtain ⟨-, -, rfl⟩ := h; exact k1
      · exact ih _ _ _ _ _ _ h
    | loop a =>
      simp only [evC] at h
      split at h
      · rename_i h1; exact (ih _ _ _ _ _ _ h1).trans (ih _ _ _ _ _ _ h)
      · exact ih _ _ _ _ _ _ h
    | region l =>
      simp only [evC, Option.map_eq_some_iff, Prod.mk.injEq] at h
      obtain ⟨⟨e1, s1⟩, h1, -, rfl, rfl⟩ := h
      exact evOps_grow hg h1
    | draw l un =>
      simp only [evC, Option.map_eq_some_iff, Prod.mk.injEq] at h
      obtain ⟨⟨e1, s1⟩, h1, -, rfl, rfl⟩ := h
      exact evDraw_grow hg h1
    | bad => simp [evC] at h
    | back gs f pi px as bd =>
      simp only [evC] at h
      split at h
      · cases h
      split at h
      · cases h
      rename_i len hlen
      rw [Bool.cond_eq_ite] at h
      split at h
      · split at h
        · rename_i ex1 s1 hb
          simp only [Option.some.injEq, Prod.mk.injEq] at h; obtain ⟨-, -, rfl⟩ := h
          exact backLoop_grow (fun _ _ _ _ h => backRound_grow ih h) hb
        · cases h
      · cases h

theorem evCall_grow {F : FuncId → Option AFunc} : ∀ (k : Nat) f args s v s', evCall P F k f args s = some (v, s') → Grow s s' := by
  intro k
  induction k with
  | zero => intro f args s v s' h; simp [evCall] at h
  | succ k ih =>
    intro f args s v s' h
    simp only [evCall] at h
    split at h
    · cases h
    rename_i af haf
    cases hble : Nat.ble args.length af.ntmps with
    | false => simp [hble] at h
    | true =>
      simp only [hble, cond_true] at h
      split at h
      · rename_i h1
        simp only [Option.map_eq_some_iff, Prod.mk.injEq] at h; obtain ⟨_, -, -, rfl⟩ := h
        exact evC_grow ih _ _ _ _ _ _ _ h1
      · rename_i h1
        simp only [Option.map_eq_some_iff, Prod.mk.injEq] at h; obtain ⟨_, -, -, rfl⟩ := h
        exact evC_grow ih _ _ _ _ _ _ _ h1
      · cases h

theorem evCall_sound {F : FuncId → Option AFunc} (hF : ∀ f af, F f = some af → ∃ fn, P.funcs[f]? = some fn ∧ compF P G fn = some af) (hdraw : ∀ call, CallOk P G call → ∀ n ro nn, DrawOk P G n call ro nn) (hback : ∀ g ∈ G.backs, BackOk P g) :
    ∀ k, CallOk P G (evCall P F k) := by
  intro k
  induction k with
  | zero => intro f args s v s' h; simp [evCall] at h
  | succ k ih =>
    intro f args s v s' h
    have hgrow := evCall_grow (k + 1) f args s v s' h
    simp only [evCall] at h
    split at h
    · cases h
    rename_i af haf
    obtain ⟨fn, hfn, hcf⟩ := hF f af haf
    simp only [compF, Option.bind_eq_bind, Option.bind_eq_some_iff] at hcf
    obtain ⟨c, hc, b, hb, ts, hts, hcf⟩ := hcf
    split at hcf
    · cases hcf
    rename_i hname
    simp only [Option.some.injEq] at hcf; subst hcf
    refine ⟨⟨fn, hfn, by rw [hc]; rfl, hname⟩, hgrow, fun m w args' r hargs => ?_⟩
    cases hble : Nat.ble args.length fn.ntmps with
    | false => simp [hble] at h
    | true =>
      simp only [hble, cond_true] at h
      have hle : args.length ≤ fn.ntmps := Nat.le_of_ble_eq_true hble
      refine (callsIn_wide (n := 0)).1 (callsIn_of_wp_marks (F := Fence.wide) hfn hc trivial ?_)
      have hE := args_rel hargs hle
      have body : ∀ (ex : Ex) (e1 : Env) (s1 : St), evC P (evCall P F k) k b (envOf 0 args .nil) s = some (ex, e1, s1) → (ex = .normal ∨ ex = .ret) → resOf e1 s1 ts = some v → s1 = s' →
          c.wpIn (FR none) 0 P (bodyPostM Fence.wide 0 P fn fun e w' => ∃ v' m', e = .returned v' ∧ VRel m' v v' ∧ Rel G m' s' w' ∧ Ext (Old s) m s w m' s' w')
            { tmps := (⟨args'⟩ : Array Value) ++ Array.replicate (fn.ntmps - (⟨args'⟩ : Array Value).size) undef, defers := [] } w := by
        intro ex e1 s1 hev hex hv hs
        subst hs
        refine (evC_sound (n := fn.ntmps) ih (hdraw _ ih _) (back_sound hback) k).1 none 0 w.heap.size c b ex _ e1 s s1 m w _ _ (.inl rfl) hb hev r hE (Marks.nil (Nat.le_refl _)) ?_
        intro m1 a1 w1 mk1 hr1 he1 hE1
        have fin : LeavesInM Fence.wide 0 P fn a1.tmps (fun e w' => ∃ v' m', e = .returned v' ∧ VRel m' v v' ∧ Rel G m' s1 w' ∧ Ext (Old s) m s w m' s1 w') a1.defers .returning w1 := by
          refine leaves_marks mk1 hr1 rfl he1 fun w' hr' he' => ?_
          obtain ⟨v', hv', hres⟩ := results_run hts hr' hE1 hv
          exact ⟨v', hres, v', m1, rfl, hv', hr', he'⟩
        rcases hex with rfl | rfl
        · exact fin
        · exact fin
      split at h
      · rename_i e1 s1 hev
        simp only [Option.map_eq_some_iff, Prod.mk.injEq] at h
        obtain ⟨_, h1, rfl, h2⟩ := h
        exact body .normal e1 s1 hev (.inl rfl) h1 h2
      · rename_i e1 s1 hev
        simp only [Option.map_eq_some_iff, Prod.mk.injEq] at h
        obtain ⟨_, h1, rfl, h2⟩ := h
        exact body .ret e1 s1 hev (.inr rfl) h1 h2
      · cases h
end Go.Am
