/- Regions that draw their order: in whatever order, what our run has in the text's order. -/
import Derived.Test.YtplnfkihbffeeaaGreatDoorAmO
namespace Go.Am
variable {P : Program} {G : Cfg} {m : Mu} {s : St} {w : World} {n : Nat} {e : Env} {o : Oper} {v : Value}

theorem Rel.restrict {s' : St} (r : Rel G m s w) (hg : ∀ b y, s'.get b = some y → s.get b = some y) (hn : s.next ≤ s'.next) : Rel G m s' w where
  blk := fun b x l h => r.blk b x l (hg b x h)
  apart := fun b x l b' x' l' h1 h2 h3 => r.apart b x l b' x' l' (hg b x h1) h2 (hg b' x' h3)
  next := fun b x h => Nat.lt_of_lt_of_le (r.next b x (hg b x h)) hn
  dom := fun b l h => ⟨Nat.lt_of_lt_of_le (r.dom b l h).1 hn, (r.dom b l h).2⟩
  glob := r.glob

theorem Rel.drew (r : Rel G m s w) : Rel G m s { w with drawn := w.drawn + 1 } := ⟨fun b x l h h' => (r.blk b x l h h').mono (fun _ _ h => h) rfl, r.apart, r.next, r.dom, r.glob⟩

theorem Rel.mat (r : Rel G m s w) {id : Nat} (hm : m id = none) (hid : id < s.next) {x : Blk} (hx : ∀ y, s.get id = some y → y = x) {c : List Value} (t : TypeId) (hv : VRels m x.cells c) (hk : x.elem = .var t) :
    Rel G (m.up id ⟨w.heap.size, 0, c.length⟩) s (w.alloc (.cells ⟨c⟩ t)) := by
  have hl := hv.length
  have := r.own hm (x := x) (c := c) t (by omega) (by rw [hl, List.take_length]; exact hv) (by rw [hk]; rfl) (by rw [hk]; rfl) (fun _ => hl)
  refine this.restrict ?_ (by rw [St.next_own]; omega)
  intro b y hy
  rw [St.get_own]
  by_cases hb : b = id
  · subst hb; rw [if_pos rfl, hx y hy]
  · rw [if_neg hb]; exact hy

theorem Rel.live (r : Rel G m s w) {id : Nat} {l : Loc} {x : Blk} (hm : m id = some l) (hb : BRel m x l w) (hun : ∀ b y l', s.get b = some y → m b = some l' → l'.blk ≠ l.blk) : Rel G m (s.own id x) w := by
  refine ⟨?_, ?_, ?_, ?_, r.glob⟩
  · intro b y l' hy hl'
    rw [St.get_own] at hy
    by_cases hbi : b = id
    · subst hbi
      rw [if_pos rfl] at hy; injection hy with hy; subst hy
      rw [hm] at hl'; injection hl' with hl'; subst hl'
      exact hb
    · rw [if_neg hbi] at hy; exact r.blk _ _ _ hy hl'
  · intro b y l1 b' y' l2 hy h1 hy' h2 hw he
    rw [St.get_own] at hy hy'
    by_cases hbi : b = id
    · by_cases hbi' : b' = id
      · rw [hbi, hbi']
      · rw [if_neg hbi'] at hy'
        rw [hbi, hm] at h1; injection h1 with h1; subst h1
        exact absurd he.symm (hun _ _ _ hy' h2)
    · rw [if_neg hbi] at hy
      by_cases hbi' : b' = id
      · rw [hbi', hm] at h2; injection h2 with h2; subst h2
        exact absurd he (hun _ _ _ hy h1)
      · rw [if_neg hbi'] at hy'
        exact r.apart _ _ _ _ _ _ hy h1 hy' h2 hw he
  · intro b y hy
    rw [St.next_own]
    rw [St.get_own] at hy
    by_cases hbi : b = id
    · omega
    · rw [if_neg hbi] at hy
      have := r.next _ _ hy; omega
  · intro b l' hl'
    rw [St.next_own]
    have := r.dom _ _ hl'
    omega

theorem Rel.ghostOwn (r : Rel G m s w) {id : Nat} {x : Blk} (hm : m id = none) : Rel G m (s.own id x) w := by
  have key : ∀ b y l, (s.own id x).get b = some y → m b = some l → s.get b = some y := by
    intro b y l hy hl
    rw [St.get_own] at hy
    by_cases hbi : b = id
    · rw [hbi, hm] at hl; cases hl
    · rwa [if_neg hbi] at hy
  refine ⟨fun b y l hy hl => r.blk _ _ _ (key b y l hy hl) hl, fun b y l1 b' y' l2 hy h1 hy' h2 => r.apart _ _ _ _ _ _ (key _ _ _ hy h1) h1 (key _ _ _ hy' h2) h2, ?_, ?_, r.glob⟩
  · intro b y hy
    rw [St.next_own]
    rw [St.get_own] at hy
    by_cases hbi : b = id
    · omega
    · rw [if_neg hbi] at hy
      have := r.next _ _ hy; omega
  · intro b l' hl'
    rw [St.next_own]
    have := r.dom _ _ hl'
    omega

theorem Ext.mat {B : Nat → Prop} {id : Nat} (hid : ¬ B id) (hm : m id = none) (s : St) (w : World) (k : Nat) (ob : Obj) : Ext B m s w (m.up id ⟨w.heap.size, 0, k⟩) s (w.alloc ob) := by
  refine ⟨Mu.le_up _ hm, Nat.le_refl _, ?_, fun b l y _ hy => ⟨y, hy, fun h => h⟩, by rw [World.size_alloc]; omega, fun q hq _ => heap_alloc_lt hq, ?_, rfl, rfl, rfl⟩
  · intro b hb h1
    have : b ≠ id := by rintro rfl; exact hid hb
    exact ⟨by simp only [Mu.up, if_neg this]; exact h1, rfl⟩
  · intro b l h1 h2
    by_cases hb : b = id
    · subst hb
      simp only [Mu.up, if_true, Option.some.injEq] at h2; subst h2
      exact .inl (Nat.le_refl _)
    · simp only [Mu.up, if_neg hb] at h2
      rw [h1] at h2; cases h2

theorem Ext.ownS {B : Nat → Prop} {id : Nat} {m' : Mu} {s' : St} {w' : World} (h : Ext B m s w m' s' w') (hid : ¬ B id) (hm : m id = none) (x : Blk) : Ext B m s w m' (s'.own id x) w' := by
  refine ⟨h.le, by rw [St.next_own]; have := h.next; omega, ?_, ?_, h.size, h.keep, h.new, h.os, h.tape, h.output⟩
  · intro b hb h1
    have : b ≠ id := by rintro rfl; exact hid hb
    rw [St.get_own, if_neg this]
    exact h.ghost b hb h1
  · intro b l y hb hy
    have : b ≠ id := by intro e1; rw [e1, hm] at hb; cases hb
    rw [St.get_own, if_neg this] at hy
    exact h.dead b l y hb hy

theorem same_eq {a b : Value} (h : same a b = true) : a = b := by
  unfold same at h
  split at h
  · simp at h; rw [h]
  · simp only [Bool.and_eq_true, decide_eq_true_eq, eqI_eq, beq_iff_eq] at h; rw [h.1, h.2]
  · rename_i x y
    simp only [decide_eq_true_eq] at h
    congr 1
    exact ByteArray.ext (Array.ext' h)
  · rfl
  · simp at h; rw [h]
  · simp only [Bool.and_eq_true] at h; rw [Nat.eq_of_beq_eq_true h.1, Nat.eq_of_beq_eq_true h.2]
  · simp only [Bool.and_eq_true, decide_eq_true_eq] at h; rw [h.1.1, Nat.eq_of_beq_eq_true h.1.2, Nat.eq_of_beq_eq_true h.2]
  · rfl
  · rfl
  · cases h

theorem sames_eq : ∀ {a b : List Value}, sames a b = true → a = b
  | [], [], _ => rfl
  | [], _ :: _, h => by simp [sames] at h
  | _ :: _, [], h => by simp [sames] at h
  | x :: a, y :: b, h => by
    simp only [sames, Bool.and_eq_true] at h
    rw [same_eq h.1, sames_eq h.2]

theorem sameV_eq {a b : Value} (h : sameV a b = true) : a = b := by
  unfold sameV at h
  split at h
  · rw [Array.ext' (sames_eq h)]
  · exact same_eq h

/-- What a step leaves in its slot, and the state behind it. -/
def stepV (P : Program) (call : CallF) (o : AOper) (id : Nat) (e : Env) (s : St) : Option (Value × St) :=
  bif wants e o.guard then
    match evOp P e s id o.op with
    | some (.val v, s') => some (v, s')
    | some (.call f args, s') => call f args s'
    | none => none
  else some (undef, s)

theorem step_eq {call : CallF} (o : AOper) (id : Nat) (e : Env) (s : St) : step P call o id e s = (stepV P call o id e s).map fun p => (e.put o.dst p.1, p.2) := by
  unfold step stepV
  cases wants e o.guard with
  | false => rfl
  | true =>
    simp only [cond_true]
    split
    · rename_i h; simp [h]
    · rename_i f args s' h
      rw [h]
      dsimp only
      cases call f args s' with
      | none => rfl
      | some q => rfl
    · rename_i h; simp [h]

/-- A drawn region and our run of it in the text's order. -/
structure Cx (P : Program) (G : Cfg) (n : Nat) (call : CallF) where
  ops : Array Oper
  al : List AOper
  base : Nat
  E : Nat → Env
  S : Nat → St
  V : Nat → Value
  ds : List Deferred
  hcall : CallOk P G call
  ok : ∀ (i : Nat) (o : Oper), ops[i]? = some o → ∃ ao : AOper, al[i]? = some ao ∧ OperOk P n G ops o ao
  len : al.length = ops.size
  step : ∀ (i : Nat) (ao : AOper), al[i]? = some ao → stepV P call ao (base + i) (E i) (S i) = some (V i, S (i + 1))
  put : ∀ (i : Nat) (ao : AOper), al[i]? = some ao → E (i + 1) = (E i).put ao.dst (V i)
  edge : ∀ (i : Nat) (o : Oper), ops[i]? = some o → ∀ q ∈ edges o, q < i
  pairs : ∀ (i j : Nat) (a b : Oper) (x y : AOper), i < j → ops[i]? = some a → ops[j]? = some b → al[i]? = some x → al[j]? = some y →
    ((aheads ops.toList []).getD j 0).testBit i = true ∨ freeOf ops a b x y = true
  calm : ∀ (i : Nat) (ao : AOper), al[i]? = some ao → wants (E i) ao.guard = true → ao.op.cls = .load → ∀ (q : Nat) (aq : AOper), al[q]? = some aq → aq.op.cls = .act → q ≠ i →
    ((aheads ops.toList []).getD i 0).testBit q = false → ((aheads ops.toList []).getD q 0).testBit i = false →
    loadOf (E i) (S q) ao.op = some (V i) ∧ loadOf (E i) (S (q + 1)) ao.op = some (V i)
  start : (S 0).next = base + ops.size
  fresh0 : ∀ b, base ≤ b → (S 0).get b = none

namespace Cx
variable {call : CallF} (X : Cx P G n call)

def N : Nat := X.ops.size
def ah (i j : Nat) : Bool := ((aheads X.ops.toList []).getD j 0).testBit i
def dst (i : Nat) : Option Nat := (X.al[i]?).bind (·.dst)

theorem at' {i : Nat} (h : i < X.N) : ∃ o ao, X.ops[i]? = some o ∧ X.al[i]? = some ao ∧ OperOk P n G X.ops o ao := by
  have h' : i < X.ops.size := h
  have ho : X.ops[i]? = some X.ops[i] := Array.getElem?_eq_getElem h'
  obtain ⟨ao, h1, h2⟩ := X.ok i _ ho
  exact ⟨_, ao, ho, h1, h2⟩

theorem lt_of_al {i : Nat} {ao : AOper} (h : X.al[i]? = some ao) : i < X.N := by
  have := (List.getElem?_eq_some_iff.1 h).1
  rw [X.len] at this; exact this

theorem grow {i : Nat} (h : i < X.N) : GrowX (X.base + i) (X.S i) (X.S (i + 1)) := by
  obtain ⟨o, ao, ho, hao, -⟩ := X.at' h
  have hs := X.step i ao hao
  have : Am.step P call ao (X.base + i) (X.E i) (X.S i) = some ((X.E i).put ao.dst (X.V i), X.S (i + 1)) := by rw [step_eq, hs]; rfl
  exact step_grow (fun f args s v s' hc => (X.hcall f args s v s' hc).2.1) this

theorem nxt : ∀ (i : Nat), i ≤ X.N → X.base + X.N ≤ (X.S i).next
  | 0, _ => by rw [X.start]; exact Nat.le_refl _
  | i + 1, h => Nat.le_trans (nxt i (by omega)) (X.grow (by omega)).1

theorem fresh : ∀ (i : Nat), i ≤ X.N → ∀ (q : Nat), i ≤ q → q < X.N → (X.S i).get (X.base + q) = none
  | 0, _, q, _, _ => X.fresh0 _ (by omega)
  | i + 1, h, q, hq, hqn => by
    have h1 := fresh i (by omega) q (by omega) hqn
    have h2 := X.nxt i (by omega)
    exact (X.grow (by omega)).2 _ (by omega) (by omega) h1

theorem E_at : ∀ (j : Nat), j ≤ X.N → ∀ (t : Nat), (X.E j).at t = scan X.dst X.V (fun _ => true) (X.E 0) j t
  | 0, _, t => rfl
  | j + 1, h, t => by
    obtain ⟨o, ao, ho, hao, -⟩ := X.at' (i := j) (by omega)
    rw [X.put j ao hao, put_at, E_at j (by omega) t]
    simp only [scan, true_and, dst, hao, Option.bind_some]

/-- Does an operation make a block, and which? -/
def Makes (i : Nat) (x : Blk) : Prop := ∃ ao, X.al[i]? = some ao ∧ wants (X.E i) ao.guard = true ∧ ao.op.cls = .alloc ∧ allocOf (X.E i) (X.base + i) ao.op = some (X.V i, x)

theorem Makes.next {X : Cx P G n call} {i : Nat} {x : Blk} (h : X.Makes i x) : X.S (i + 1) = (X.S i).own (X.base + i) x := by
  obtain ⟨ao, h1, h2, h3, h4⟩ := h
  have := X.step i ao h1
  simp only [stepV, h2, cond_true, evOp, h3, h4, Option.map_some, Option.some.injEq, Prod.mk.injEq] at this
  exact this.2.symm

/-- What holds when some operations are done: those that act up to c are. -/
structure Inv (m0 : Mu) (w0 : World) (D : Nat → Bool) (c : Nat) (μ : Mu) (a : Act) (w : World) : Prop where
  cle : c ≤ X.N
  acts : ∀ (i : Nat) (ao : AOper), X.al[i]? = some ao → ao.op.cls = .act → (D i = true ↔ i < c)
  rel : Rel G μ (X.S c) w
  ext : Ext (· < X.base) m0 (X.S 0) w0 μ (X.S c) w
  size : a.tmps.size = n
  defers : a.defers = X.ds
  env : ∀ t, VRel μ (scan X.dst X.V D (X.E 0) X.N t) (a.tmps.getD t undef)
  nope : ∀ i, i < X.N → D i = false → μ (X.base + i) = none
  ghost : ∀ i x, i < c → D i = false → X.Makes i x → (X.S c).get (X.base + i) = some x
  pend : ∀ i x, c ≤ i → D i = true → X.Makes i x → ∃ l, μ (X.base + i) = some l ∧ BRel μ x l w ∧
    (∀ b y l', (X.S c).get b = some y → μ b = some l' → l'.blk ≠ l.blk) ∧
    (∀ i' x' l', c ≤ i' → D i' = true → X.Makes i' x' → i' ≠ i → μ (X.base + i') = some l' → l'.blk ≠ l.blk)
  closed : ∀ i, i < X.N → D i = true → ∀ q, X.ah q i = true → D q = true
  m0none : ∀ b, X.base ≤ b → m0 b = none

theorem makes_uniq {X : Cx P G n call} {i : Nat} {x y : Blk} (h : X.Makes i x) (k : X.Makes i y) : x = y := by
  obtain ⟨ao, h1, h2, h3, h4⟩ := h
  obtain ⟨ao', k1, k2, k3, k4⟩ := k
  rw [h1] at k1; injection k1 with k1; subst k1
  rw [h4] at k4
  simp only [Option.some.injEq, Prod.mk.injEq] at k4
  exact k4.2

/-- The state is the same behind an operation that neither acts nor makes. -/
theorem quiet_next {i : Nat} {ao : AOper} (h : X.al[i]? = some ao) (ha : ao.op.cls ≠ .act ∨ wants (X.E i) ao.guard = false) (hm : ∀ x, ¬ X.Makes i x) : X.S (i + 1) = X.S i := by
  have hs := X.step i ao h
  unfold stepV at hs
  cases hw : wants (X.E i) ao.guard with
  | false =>
    simp only [hw, cond_false, Option.some.injEq, Prod.mk.injEq] at hs
    exact hs.2.symm
  | true =>
    have ha' : ao.op.cls ≠ .act := by
      rcases ha with h1 | h1
      · exact h1
      · rw [hw] at h1; cases h1
    simp only [hw, cond_true, evOp] at hs
    cases hcl : ao.op.cls with
    | pure =>
      simp only [hcl] at hs
      cases hp : pureOf P (X.E i) ao.op with
      | none => simp [hp] at hs
      | some v => simp only [hp, Option.map_some, Option.some.injEq, Prod.mk.injEq] at hs; exact hs.2.symm
    | load =>
      simp only [hcl] at hs
      cases hp : loadOf (X.E i) (X.S i) ao.op with
      | none => simp [hp] at hs
      | some v => simp only [hp, Option.map_some, Option.some.injEq, Prod.mk.injEq] at hs; exact hs.2.symm
    | alloc =>
      simp only [hcl] at hs
      cases hp : allocOf (X.E i) (X.base + i) ao.op with
      | none => simp [hp] at hs
      | some p =>
        obtain ⟨v, x⟩ := p
        simp only [hp, Option.map_some, Option.some.injEq, Prod.mk.injEq] at hs
        exact absurd ⟨ao, h, hw, hcl, by rw [hp, hs.1]⟩ (hm x)
    | act => exact absurd hcl ha'

theorem Inv.base_none {X : Cx P G n call} {m0 : Mu} {w0 : World} {D : Nat → Bool} {c : Nat} {μ : Mu} {a : Act} (I : X.Inv m0 w0 D c μ a w) (i : Nat) : m0 (X.base + i) = none := I.m0none _ (by omega)

/-- The cut goes on past what doesn't act. -/
theorem Inv.move {X : Cx P G n call} {m0 : Mu} {w0 : World} {D : Nat → Bool} {c : Nat} {μ : Mu} {a : Act} (I : X.Inv m0 w0 D c μ a w) (hc : c < X.N) {ao : AOper} (hao : X.al[c]? = some ao) (hna : ao.op.cls ≠ .act) :
    X.Inv m0 w0 D (c + 1) μ a w := by
  have hacts : ∀ (i : Nat) (ao : AOper), X.al[i]? = some ao → ao.op.cls = .act → (D i = true ↔ i < c + 1) := by
    intro i ai hai hact
    have : i ≠ c := by rintro rfl; rw [hao] at hai; injection hai with hai; subst hai; exact hna hact
    rw [I.acts i ai hai hact]; omega
  by_cases hmk : ∃ x, X.Makes c x
  · obtain ⟨x, hx⟩ := hmk
    have hS := hx.next
    cases hD : D c with
    | true =>
      obtain ⟨l, h1, h2, h3, h4⟩ := I.pend c x (Nat.le_refl _) hD hx
      refine ⟨by omega, hacts, ?_, ?_, I.size, I.defers, I.env, I.nope, ?_, ?_, I.closed, I.m0none⟩
      · rw [hS]; exact I.rel.live h1 h2 h3
      · rw [hS]; exact I.ext.ownS (by omega) (I.base_none c) x
      · intro i y hi hDi hy
        have hne : i ≠ c := by rintro rfl; rw [hD] at hDi; cases hDi
        rw [hS, St.get_own, if_neg (by omega)]
        exact I.ghost i y (by omega) hDi hy
      · intro i y hi hDi hy
        obtain ⟨l1, q1, q2, q3, q4⟩ := I.pend i y (by omega) hDi hy
        refine ⟨l1, q1, q2, ?_, fun i' x' l' hi' => q4 i' x' l' (by omega)⟩
        intro b z l' hz hl'
        rw [hS, St.get_own] at hz
        by_cases hb : b = X.base + c
        · subst hb
          exact q4 c x l' (Nat.le_refl _) hD hx (by omega) hl'
        · rw [if_neg hb] at hz
          exact q3 b z l' hz hl'
    | false =>
      have hn := I.nope c hc hD
      refine ⟨by omega, hacts, ?_, ?_, I.size, I.defers, I.env, I.nope, ?_, ?_, I.closed, I.m0none⟩
      · rw [hS]; exact I.rel.ghostOwn hn
      · rw [hS]; exact I.ext.ownS (by omega) (I.base_none c) x
      · intro i y hi hDi hy
        rw [hS, St.get_own]
        by_cases hic : i = c
        · subst hic
          rw [if_pos rfl, makes_uniq hx hy]
        · rw [if_neg (by omega)]
          exact I.ghost i y (by omega) hDi hy
      · intro i y hi hDi hy
        obtain ⟨l1, q1, q2, q3, q4⟩ := I.pend i y (by omega) hDi hy
        refine ⟨l1, q1, q2, ?_, fun i' x' l' hi' => q4 i' x' l' (by omega)⟩
        intro b z l' hz hl'
        rw [hS, St.get_own] at hz
        by_cases hb : b = X.base + c
        · subst hb; rw [hn] at hl'; cases hl'
        · rw [if_neg hb] at hz
          exact q3 b z l' hz hl'
  · have hS := X.quiet_next hao (.inl hna) (fun x hx => hmk ⟨x, hx⟩)
    refine ⟨by omega, hacts, by rw [hS]; exact I.rel, by rw [hS]; exact I.ext, I.size, I.defers, I.env, I.nope, ?_, ?_, I.closed, I.m0none⟩
    · intro i y hi hDi hy
      have : i ≠ c := by rintro rfl; exact hmk ⟨y, hy⟩
      rw [hS]; exact I.ghost i y (by omega) hDi hy
    · intro i y hi hDi hy
      obtain ⟨l1, q1, q2, q3, q4⟩ := I.pend i y (by omega) hDi hy
      exact ⟨l1, q1, q2, by rw [hS]; exact q3, fun i' x' l' hi' => q4 i' x' l' (by omega)⟩

/-- .. up to the next one that acts. -/
theorem Inv.moves {X : Cx P G n call} {m0 : Mu} {w0 : World} {D : Nat → Bool} {μ : Mu} {a : Act} : ∀ (k c : Nat), X.N - c = k → X.Inv m0 w0 D c μ a w →
    ∃ c', c ≤ c' ∧ X.Inv m0 w0 D c' μ a w ∧ (c' = X.N ∨ ∃ ao, X.al[c']? = some ao ∧ ao.op.cls = .act)
  | 0, c, hk, I => ⟨c, Nat.le_refl _, I, .inl (by have := I.cle; omega)⟩
  | k + 1, c, hk, I => by
    have hc : c < X.N := by omega
    obtain ⟨o, ao, ho, hao, -⟩ := X.at' hc
    by_cases hact : ao.op.cls = .act
    · exact ⟨c, Nat.le_refl _, I, .inr ⟨ao, hao, hact⟩⟩
    · obtain ⟨c', h1, h2, h3⟩ := Inv.moves k (c + 1) (by omega) (I.move hc hao hact)
      exact ⟨c', by omega, h2, h3⟩
end Cx
end Go.Am
