/- Code without drawn orders: what our run gives the world's run gives. -/
import Derived.Test.YtplnfkihbffeeaaGreatDoorAmMk
import Derived.LoopNIn
import Derived.OrdersIn
import Derived.TacticsIn
import Derived.RangeFuncIn
import Derived.OwnWalkIn
namespace Go.Am
variable {P : Program} {G : Cfg} {nn : Nat} {ro : Option Nat} {m : Mu} {s : St} {w : World} {n : Nat} {e : Env} {o : Oper} {v : Value}

/-- All that a fence may be here: none, but for the round. -/
def FR (ro : Option Nat) : Fence := { fn := fun _ => True, depth := none, alive := false, round := ro }

theorem callsFR {ro : Option Nat} {nn : Nat} {f : FuncId} {args : Array Value} {R : Ending → World → Prop} (h : Calls P f args w R) : CallsIn (FR ro) nn P f args w R :=
  have h' : CallsIn Fence.wide nn P f args w R := callsIn_wide.2 h
  h'

theorem no_defer {op : AOp} (hc : compOp P o = some op) (hb : op ≠ .xp .bad) : ∀ c, o.op ≠ .defer c := by
  intro c h
  rcases compOp_cases hc with h1 | h1 | h1
  · simp [compX, h] at h1
  · simp [comp0, h] at h1
  · exact hb h1

/-- Calls as our run has them are so in the world. -/
def CallOk (P : Program) (G : Cfg) (call : CallF) : Prop :=
  ∀ f args s v s', call f args s = some (v, s') →
    (∃ fn, P.funcs[f]? = some fn ∧ fn.body.isSome = true ∧ fn.name ≠ "runtime.NumGoroutine") ∧
    (s.next ≤ s'.next ∧ ∀ b, b < s.next → s.get b = none → s'.get b = none) ∧
    ∀ m w args', Rel G m s w → VRels m args args' →
      Calls P f ⟨args'⟩ w fun e w' => ∃ v' m', e = .returned v' ∧ VRel m' v v' ∧ Rel G m' s' w' ∧ Ext (Old s) m s w m' s' w'

theorem guard_spec {ops : Array Oper} {g' : Option (Nat × Bool)} {a : Act} (h : guardOf ops o.guard = some g') (hn : gOk n g' = true) (he : ERel m n e a.tmps) :
    Region.wanted o (yielded ops a.tmps) = wants e g' := by
  unfold Region.wanted
  generalize o.guard = g at *
  cases g with
  | none => simp only [guardOf, Option.some.injEq] at h; subst h; rfl
  | some p =>
    obtain ⟨j, want⟩ := p
    simp only [guardOf, Option.bind_eq_bind, Option.bind_eq_some_iff, Option.some.injEq] at h
    obtain ⟨q, hq, d, hd, rfl⟩ := h
    simp only [gOk, Nat.blt_eq] at hn
    have hr := he.2 d
    have hlt : d < a.tmps.size := by rw [he.1]; exact hn
    have hy : yielded ops a.tmps j = match a.tmps.getD d undef with | .bool b => some b | _ => none := by
      simp only [yielded, hq, Option.bind_some, hd]
      rw [Array.getElem?_eq_getElem hlt, show a.tmps.getD d undef = a.tmps[d] from by simp [hlt]]
      generalize a.tmps[d] = q
      cases q <;> rfl
    simp only [hy, wants]
    generalize e.at d = x at hr
    generalize a.tmps.getD d undef = y at hr
    cases hr <;> simp

structure OperOk (P : Program) (n : Nat) (G : Cfg) (ops : Array Oper) (o : Oper) (ao : AOper) : Prop where
  op : compOp P o = some ao.op
  dst : o.dst = ao.dst
  guard : guardOf ops o.guard = some ao.guard
  ands : ∀ x ∈ o.op.operands.toList, opOk n G x = true
  dlt : ∀ d, o.dst = some d → d < n
  glt : gOk n ao.guard = true

theorem compOper_ok {ops : Array Oper} {ao : AOper} (h : compOper P n G ops o = some ao) : OperOk P n G ops o ao := by
  unfold compOper at h
  simp only [Option.bind_eq_bind, Option.bind_eq_some_iff] at h
  obtain ⟨a, ha, g, hg, h⟩ := h
  split at h
  · rename_i hc
    simp only [Option.some.injEq] at h; subst h
    simp only [Bool.and_eq_true] at hc
    obtain ⟨⟨h1, h2⟩, h3⟩ := hc
    refine ⟨ha, rfl, hg, List.all_eq_true.1 h1, fun d hd => ?_, h3⟩
    rw [hd] at h2
    simpa [dstOk] using h2
  · cases h

theorem ERel.putO {a : Act} (he : ERel m n e a.tmps) {dst : Option Nat} (hd : ∀ d, dst = some d → d < n) {v v' : Value} (hv : VRel m v v') : ERel m n (e.put dst v) (a.put dst v').tmps := by
  cases dst with
  | none => exact he
  | some d => exact he.put (hd d rfl) hv

theorem put_defers (a : Act) (d : Option Nat) (v : Value) : (a.put d v).defers = a.defers := by cases d <;> rfl

theorem act_func (a : Act) (f : FuncId) : a.eval (.func f) = .func (.func f) #[] #[] := rfl

/-- One operation, by its operands. -/
theorem step_core {call : CallF} (hcall : CallOk P G call) {ops : Array Oper} {ao : AOper} (ok : OperOk P n G ops o ao) {B : Nat → Prop} {id : Nat} {a : Act} {e' : Env} {s' : St}
    (h : step P call ao id e s = some (e', s')) (r : Rel G m s w) (hor : ∀ x ∈ o.op.operands.toList, ORel m e a.eval x) (hw : Region.wanted o (yielded ops a.tmps) = wants e ao.guard)
    (hid : ¬ B id) (hB : ∀ b, B b → Old s b) (hmid : m id = none)
    {K : Act → World → Prop} {Q : Exit → Act → World → Prop}
    (hK : ∀ m' v v' w', e' = e.put ao.dst v → VRel m' v v' → Rel G m' s' w' → Ext B m s w m' s' w' → K (a.put o.dst v') w') :
    if Region.wanted o (yielded ops a.tmps) then o.wpIn (FR ro) nn P a w K Q else (∀ f, o.about P w a.eval = some f → (FR ro).fn f) ∧ K (a.put o.dst undef) w := by
  rw [hw]
  unfold step at h
  cases hwt : wants e ao.guard with
  | false =>
    simp only [hwt, cond_false, Option.some.injEq, Prod.mk.injEq] at h
    obtain ⟨rfl, rfl⟩ := h
    rw [if_neg (by simp)]
    exact ⟨fun _ _ => trivial, hK m undef undef w rfl VRel.undef r (Ext.refl B m s w)⟩
  | true =>
    simp only [hwt, cond_true] at h
    rw [if_pos rfl]
    refine ⟨fun _ _ => trivial, ?_⟩
    have hb : ao.op ≠ .xp .bad := by
      intro hb
      simp [hb, evOp, AOp.cls, pureOf, pureX] at h
    rw [Oper.semAt_plain (FR ro) a.eval o (no_defer ok.op hb)]
    unfold evOp at h
    cases hcl : ao.op.cls with
    | pure =>
      simp only [hcl] at h
      cases hp : pureOf P e ao.op with
      | none => simp [hp] at h
      | some v =>
        simp only [hp, Option.map_some, Option.some.injEq, Prod.mk.injEq] at h
        obtain ⟨rfl, rfl⟩ := h
        obtain ⟨v', hv, hrun⟩ := pure_sound ok.op hcl (act_func a) hor hp
        rw [hrun w, Oper.uponIn_value]
        exact hK m v v' w rfl hv r (Ext.refl B m s w)
    | load =>
      simp only [hcl] at h
      cases hp : loadOf e s ao.op with
      | none => simp [hp] at h
      | some v =>
        simp only [hp, Option.map_some, Option.some.injEq, Prod.mk.injEq] at h
        obtain ⟨rfl, rfl⟩ := h
        obtain ⟨v', hv, hrun⟩ := load_sound ok.op hcl hor hp r
        rw [hrun, Oper.uponIn_value]
        exact hK m v v' w rfl hv r (Ext.refl B m s w)
    | alloc =>
      simp only [hcl] at h
      cases hp : allocOf e id ao.op with
      | none => simp [hp] at h
      | some p =>
        obtain ⟨v, x⟩ := p
        simp only [hp, Option.map_some, Option.some.injEq, Prod.mk.injEq] at h
        obtain ⟨rfl, rfl⟩ := h
        obtain ⟨c, t, f, hvr, hwr, hnew, hrun⟩ := alloc_sound ok.op hcl hor hp
        rw [hrun w, Oper.uponIn_value]
        have hlen := hvr.length
        have hown := r.own hmid (x := x) (c := c) t (by omega) (by rw [hlen, List.take_length]; exact hvr) (by rw [hwr.2]; rfl) (by rw [hwr.2]; rfl) (fun _ => hlen)
        exact hK _ v _ _ rfl (hnew _ _ (by simp [Mu.up])) hown (Ext.own hid hmid s w x c.length _)
    | act =>
      simp only [hcl] at h
      cases hp : actOf P e s id ao.op with
      | none => simp [hp] at h
      | some p =>
        obtain ⟨res, s1⟩ := p
        have hs := act_sound ok.op hcl (act_func a) hor hid hmid hp r
        simp only [hp] at h
        cases res with
        | val v =>
          simp only [Option.some.injEq, Prod.mk.injEq] at h
          obtain ⟨rfl, rfl⟩ := h
          obtain ⟨m', w', v', hr', he', hv', hrun⟩ := hs
          have hfin := hK m' v v' w' rfl hv' hr' he'
          rcases hrun with hrun | ⟨hrun, rfl⟩
          · rw [hrun, Oper.uponIn_value]; exact hfin
          · rw [hrun, Oper.uponIn_skip]; exact hfin
        | call f args =>
          obtain ⟨rfl, args', hargs, hrun⟩ := hs
          simp only at h
          cases hcr : call f args s1 with
          | none => simp [hcr] at h
          | some q =>
            obtain ⟨v, s2⟩ := q
            simp only [hcr, Option.some.injEq, Prod.mk.injEq] at h
            obtain ⟨rfl, rfl⟩ := h
            obtain ⟨⟨fn, hf, hb, hn⟩, -, hcalls⟩ := hcall f args s1 v s2 hcr
            rw [hrun fn hf hb hn, Oper.uponIn_enter]
            refine ⟨fun h => (by cases h), callsFR (Calls.mono (hcalls m w args' r hargs) ?_)⟩
            rintro ed w' ⟨v', m', rfl, hv', hr', he'⟩
            exact hK m' v v' w' rfl hv' hr' (he'.weaken hB)

/-- One operation. -/
theorem step_sound {call : CallF} (hcall : CallOk P G call) {ops : Array Oper} {ao : AOper} (ok : OperOk P n G ops o ao) {a : Act} {e' : Env} {s' : St}
    (h : step P call ao s.next e s = some (e', s')) (r : Rel G m s w) (he : ERel m n e a.tmps)
    {K : Act → World → Prop} {Q : Exit → Act → World → Prop}
    (hK : ∀ m' a' w', a'.defers = a.defers → Rel G m' s' w' → Ext (Old s) m s w m' s' w' → ERel m' n e' a'.tmps → K a' w') :
    if Region.wanted o (yielded ops a.tmps) then o.wpIn (FR ro) nn P a w K Q else (∀ f, o.about P w a.eval = some f → (FR ro).fn f) ∧ K (a.put o.dst undef) w := by
  have hmid : m s.next = none := by
    cases hm : m s.next with
    | none => rfl
    | some l => have := (r.dom _ _ hm).1; omega
  refine step_core hcall ok h r (fun x hx => opd_rel (ok.ands x hx) r he) (guard_spec ok.guard ok.glt he) (by unfold Old; omega) (fun _ h => h) hmid ?_
  intro m' v v' w' hv hvr hr' he'
  refine hK m' _ w' (put_defers _ _ _) hr' he' ?_
  rw [hv, ok.dst]
  exact (he.mono he'.le).putO (by rw [← ok.dst]; exact ok.dlt) hvr

theorem evOps_sound {call : CallF} (hcall : CallOk P G call) {ops : Array Oper} {Q : Exit → Act → World → Prop} : ∀ {l : List Oper} {al : List AOper} {e e' : Env} {s s' : St} {m : Mu} {w : World} {a : Act},
    compOps P n G ops l = some al → evOps P call al e s = some (e', s') → Rel G m s w → ERel m n e a.tmps →
    (∀ m' a' w', a'.defers = a.defers → Rel G m' s' w' → Ext (Old s) m s w m' s' w' → ERel m' n e' a'.tmps → Q .normal a' w') → wpListIn (FR ro) nn P ops Q l a w
  | [], al, e, e', s, s', m, w, a, hc, h, r, he, hQ => by
    simp only [compOps, Option.some.injEq] at hc; subst hc
    simp only [evOps, Option.some.injEq, Prod.mk.injEq] at h
    obtain ⟨rfl, rfl⟩ := h
    exact hQ m a w rfl r (Ext.refl _ m s w) he
  | o :: l, al, e, e', s, s', m, w, a, hc, h, r, he, hQ => by
    simp only [compOps, Option.bind_eq_bind, Option.bind_eq_some_iff, Option.some.injEq] at hc
    obtain ⟨ao, hao, al', hal, rfl⟩ := hc
    simp only [evOps] at h
    split at h
    · rename_i e1 s1 hst
      refine wpListIn_step fun K hK => ?_
      refine step_sound hcall (compOper_ok hao) hst r he ?_
      intro m1 a1 w1 hd hr1 he1 hE1
      refine hK a1 w1 (evOps_sound hcall hal h hr1 hE1 ?_)
      intro m2 a2 w2 hd2 hr2 he2 hE2
      exact hQ m2 a2 w2 (hd2.trans hd) hr2 (he1.trans (he2.weaken fun b hb => Nat.lt_of_lt_of_le hb he1.next)) hE2
    · cases h

def exOf : Ex → Exit
  | .normal => .normal
  | .exit id => .exit id
  | .ret => .ret

/-- What a run's end must meet. -/
def Post (G : Cfg) (n n0 : Nat) (m : Mu) (s : St) (w : World) (Q : Exit → Act → World → Prop) (ex : Ex) (e' : Env) (s' : St) : Prop :=
  ∀ m' a' w', Marks n0 m' w' a'.defers → Rel G m' s' w' → Ext (Old s) m s w m' s' w' → ERel m' n e' a'.tmps → Q (exOf ex) a' w'

/-- Regions that draw their order. -/
def DrawOk (P : Program) (G : Cfg) (n : Nat) (call : CallF) (ro : Option Nat) (nn : Nat) : Prop :=
  ∀ (id : Nat) (ops : Array Oper) (al : List AOper) (un : List (List Nat)) (e e' : Env) (s s' : St) (m : Mu) (w : World) (a : Act) (Q : Exit → Act → World → Prop) (n0 : Nat),
    compC P n G (.region id ops true) = some (.draw al un) → evDraw P call al un e s = some (e', s') → Rel G m s w → ERel m n e a.tmps → Marks n0 m w a.defers →
    Post G n n0 m s w Q .normal e' s' → (Code.region id ops true).wpIn (FR ro) nn P Q a w

theorem nb_l {a b : ACode} {p : Prop} (h : p ∨ (a.noBack && b.noBack) = true) : p ∨ a.noBack = true := h.imp id fun h => by simp only [Bool.and_eq_true] at h; exact h.1
theorem nb_r {a b : ACode} {p : Prop} (h : p ∨ (a.noBack && b.noBack) = true) : p ∨ b.noBack = true := h.imp id fun h => by simp only [Bool.and_eq_true] at h; exact h.2

def CodeOk (P : Program) (G : Cfg) (n : Nat) (call : CallF) (k : Nat) : Prop :=
  ∀ (ro : Option Nat) (nn n0 : Nat) (code : Code) (c : ACode) (ex : Ex) (e e' : Env) (s s' : St) (m : Mu) (w : World) (a : Act) (Q : Exit → Act → World → Prop), (ro = none ∨ c.noBack = true) →
      compC P n G code = some c → evC P call k c e s = some (ex, e', s') → Rel G m s w → ERel m n e a.tmps → Marks n0 m w a.defers → Post G n n0 m s w Q ex e' s' → code.wpIn (FR ro) nn P Q a w

def LoopOk (P : Program) (G : Cfg) (n : Nat) (call : CallF) (k : Nat) : Prop :=
  ∀ (ro : Option Nat) (nn n0 : Nat) (code : Code) (c : ACode) (ex : Ex) (e e' : Env) (s s' : St) (m : Mu) (w : World) (a : Act) (Q : Exit → Act → World → Prop), (ro = none ∨ c.noBack = true) →
      compC P n G code = some c → evC P call k (.loop c) e s = some (ex, e', s') → Rel G m s w → ERel m n e a.tmps → Marks n0 m w a.defers → Post G n n0 m s w Q ex e' s' → Code.roundsIn (FR ro) nn P code Q k a w

/-- A range over slices.Backward. -/
def BackStep (P : Program) (G : Cfg) (n : Nat) (call : CallF) (k : Nat) : Prop :=
  CodeOk P G n call k → ∀ (nn n0 : Nat) (f : Operand) (ps : Array Tmp) (assign body : Code) (gs : List FuncId) (pi px : Nat) (as bd : ACode) (ex : Ex) (e e' : Env) (s s' : St) (m : Mu) (w : World) (a : Act) (Q : Exit → Act → World → Prop),
      compC P n G (.rangeFunc f ps assign body) = some (.back gs (opd f) pi px as bd) → evC P call (k + 1) (.back gs (opd f) pi px as bd) e s = some (ex, e', s') → Rel G m s w → ERel m n e a.tmps → Marks n0 m w a.defers →
      Post G n n0 m s w Q ex e' s' → (Code.rangeFunc f ps assign body).wpIn (FR none) nn P Q a w

theorem evC_sound {call : CallF} (hcall : CallOk P G call) (hdraw : ∀ ro nn, DrawOk P G n call ro nn) (hback : ∀ k, BackStep P G n call k) : ∀ (k : Nat), CodeOk P G n call k ∧ LoopOk P G n call k := by
  intro k
  induction k with
  | zero => exact ⟨fun _ _ _ _ _ _ _ _ _ _ _ _ _ _ _ _ h => by simp [evC] at h, fun _ _ _ _ _ _ _ _ _ _ _ _ _ _ _ _ h => by simp [evC] at h⟩
  | succ k ih =>
    obtain ⟨ih1, ih2⟩ := ih
    have loop : LoopOk P G n call (k + 1) := by
      intro ro nn n0 code c ex e e' s s' m w a Q hnb hc h r he hd hQ
      rw [roundsIn_succ]
      simp only [evC] at h
      split at h
      · rename_i e1 s1 hb
        refine ih1 ro nn n0 code c .normal e e1 s s1 m w a _ hnb hc hb r he hd ?_
        intro m1 a1 w1 hd1 hr1 he1 hE1
        refine ih2 ro nn n0 code c ex e1 e' s1 s' m1 w1 a1 Q hnb hc h hr1 hE1 hd1 ?_
        intro m2 a2 w2 hd2 hr2 he2 hE2
        exact hQ m2 a2 w2 hd2 hr2 (he1.trans (he2.weaken fun b hb => Nat.lt_of_lt_of_le hb he1.next)) hE2
      · rename_i hne
        refine ih1 ro nn n0 code c ex e e' s s' m w a _ hnb hc h r he hd ?_
        intro m1 a1 w1 hd1 hr1 he1 hE1
        have := hQ m1 a1 w1 hd1 hr1 he1 hE1
        cases ex with
        | normal => exact absurd h (hne _ _)
        | exit id => exact this
        | ret => exact this
    refine ⟨?_, loop⟩
    intro ro nn n0 code c ex e e' s s' m w a Q hnb hc h r he hd hQ
    cases code with
    | skip =>
      simp only [compC, Option.some.injEq] at hc; subst hc
      simp only [evC, Option.some.injEq, Prod.mk.injEq] at h
      obtain ⟨rfl, rfl, rfl⟩ := h
      exact wpIn_skip (hQ m a w hd r (Ext.refl _ m s w) he)
    | ret =>
      simp only [compC, Option.some.injEq] at hc; subst hc
      simp only [evC, Option.some.injEq, Prod.mk.injEq] at h
      obtain ⟨rfl, rfl, rfl⟩ := h
      exact wpIn_ret (hQ m a w hd r (Ext.refl _ m s w) he)
    | exit id =>
      simp only [compC, Option.some.injEq] at hc; subst hc
      simp only [evC, Option.some.injEq, Prod.mk.injEq] at h
      obtain ⟨rfl, rfl, rfl⟩ := h
      exact wpIn_exit (hQ m a w hd r (Ext.refl _ m s w) he)
    | seq x y =>
      simp only [compC, Option.bind_eq_bind, Option.bind_eq_some_iff, Option.some.injEq] at hc
      obtain ⟨cx, hcx, cy, hcy, rfl⟩ := hc
      simp only [evC] at h
      split at h
      · rename_i e1 s1 hb
        refine wpIn_seq (ih1 ro nn n0 x cx .normal e e1 s s1 m w a _ (nb_l hnb) hcx hb r he hd ?_)
        intro m1 a1 w1 hd1 hr1 he1 hE1
        refine ih1 ro nn n0 y cy ex e1 e' s1 s' m1 w1 a1 Q (nb_r hnb) hcy h hr1 hE1 hd1 ?_
        intro m2 a2 w2 hd2 hr2 he2 hE2
        exact hQ m2 a2 w2 hd2 hr2 (he1.trans (he2.weaken fun b hb => Nat.lt_of_lt_of_le hb he1.next)) hE2
      · rename_i hne
        refine wpIn_seq (ih1 ro nn n0 x cx ex e e' s s' m w a _ (nb_l hnb) hcx h r he hd ?_)
        intro m1 a1 w1 hd1 hr1 he1 hE1
        have := hQ m1 a1 w1 hd1 hr1 he1 hE1
        cases ex with
        | normal => exact absurd h (hne _ _)
        | exit id => exact this
        | ret => exact this
    | cond cd x y =>
      simp only [compC, Option.bind_eq_bind] at hc
      split at hc
      · rename_i hok
        simp only [Option.bind_eq_some_iff, Option.some.injEq] at hc
        obtain ⟨cx, hcx, cy, hcy, rfl⟩ := hc
        simp only [evC] at h
        have hcd := opd_rel hok r he
        split at h
        · rename_i t ht
          unfold ORel at hcd; rw [ht] at hcd
          have hcd' := hcd.bool_eq
          cases t with
          | true => exact wpIn_cond_true hcd' (ih1 ro nn n0 x cx ex e e' s s' m w a Q (nb_l hnb) hcx (by simpa using h) r he hd hQ)
          | false => exact wpIn_cond_false hcd' (ih1 ro nn n0 y cy ex e e' s s' m w a Q (nb_r hnb) hcy (by simpa using h) r he hd hQ)
        · cases h
      · cases hc
    | block id x =>
      simp only [compC, Option.bind_eq_bind, Option.bind_eq_some_iff, Option.some.injEq] at hc
      obtain ⟨cx, hcx, rfl⟩ := hc
      simp only [evC] at h
      split at h
      · rename_i i e1 s1 hb
        refine wpIn_block (ih1 ro nn n0 x cx (.exit i) e e1 s s1 m w a _ hnb hcx hb r he hd ?_)
        intro m1 a1 w1 hd1 hr1 he1 hE1
        simp only [exOf, Exit.inBlock]
        cases hi : Nat.beq i id with
        | true =>
          simp only [hi, cond_true, Option.some.injEq, Prod.mk.injEq] at h
          obtain ⟨rfl, rfl, rfl⟩ := h
          rw [if_pos (Nat.eq_of_beq_eq_true hi)]
          exact hQ m1 a1 w1 hd1 hr1 he1 hE1
        | false =>
          simp only [hi, cond_false, Option.some.injEq, Prod.mk.injEq] at h
          obtain ⟨rfl, rfl, rfl⟩ := h
          rw [if_neg (by intro e1; rw [e1, Tr.beqS] at hi; cases hi)]
          exact hQ m1 a1 w1 hd1 hr1 he1 hE1
      · rename_i hne
        refine wpIn_block (ih1 ro nn n0 x cx ex e e' s s' m w a _ hnb hcx h r he hd ?_)
        intro m1 a1 w1 hd1 hr1 he1 hE1
        have := hQ m1 a1 w1 hd1 hr1 he1 hE1
        cases ex with
        | normal => exact this
        | exit id => exact absurd h (hne _ _ _)
        | ret => exact this
    | loop x =>
      simp only [compC, Option.bind_eq_bind, Option.bind_eq_some_iff, Option.some.injEq] at hc
      obtain ⟨cx, hcx, rfl⟩ := hc
      exact wpIn_loop_rounds (k + 1) (loop ro nn n0 x cx ex e e' s s' m w a Q hnb hcx h r he hd hQ)
    | region id ops draw =>
      cases draw with
      | false =>
        simp only [compC, Option.map_eq_some_iff] at hc
        obtain ⟨al, hal, rfl⟩ := hc
        simp only [evC, Option.map_eq_some_iff, Prod.mk.injEq] at h
        obtain ⟨⟨e1, s1⟩, hev, rfl, rfl, rfl⟩ := h
        refine wpIn_region_list (evOps_sound hcall hal hev r he ?_)
        intro m1 a1 w1 hd1 hr1 he1 hE1
        exact hQ m1 a1 w1 (by rw [hd1]; exact hd.step he1) hr1 he1 hE1
      | true =>
        have hc0 := hc
        simp only [compC, Option.bind_eq_bind, Option.bind_eq_some_iff] at hc
        obtain ⟨al, hal, hc⟩ := hc
        split at hc
        · simp only [Option.some.injEq] at hc; subst hc
          simp only [evC, Option.map_eq_some_iff, Prod.mk.injEq] at h
          obtain ⟨⟨e1, s1⟩, hev, rfl, rfl, rfl⟩ := h
          exact hdraw ro nn id ops al _ e _ s _ m w a Q n0 hc0 hev r he hd hQ
        · cases hc
    | rangeFunc f ps assign body =>
      have hc0 := hc
      simp only [compC, Option.bind_eq_bind, Option.bind_eq_some_iff] at hc
      obtain ⟨ca, hca, cb, hcb, hc⟩ := hc
      split at hc
      · split at hc
        · simp only [Option.some.injEq] at hc; subst hc
          rcases hnb with rfl | hnb
          · exact hback k ih1 nn n0 f ps assign body _ _ _ _ _ ex e e' s s' m w a Q hc0 h r he hd hQ
          · cases hnb
        · simp only [Option.some.injEq] at hc; subst hc; simp [evC] at h
      · simp only [Option.some.injEq] at hc; subst hc; simp [evC] at h
    | scope => simp only [compC, Option.some.injEq] at hc; subst hc; simp [evC] at h
    | label => simp only [compC, Option.some.injEq] at hc; subst hc; simp [evC] at h
    | goto => simp only [compC, Option.some.injEq] at hc; subst hc; simp [evC] at h
    | refuse => simp only [compC, Option.some.injEq] at hc; subst hc; simp [evC] at h
end Go.Am
