/- How the machine of our own stands to the world: places of its blocks, values, memory; what a step may turn. -/
import Derived.Test.YtplnfkihbffeeaaGreatDoorAmA
namespace Go.Am

/-- Where a block of ours lies: in which block of the world, from which cell on, how many cells that one has. -/
structure Loc where
  blk : Nat
  shift : Nat
  size : Nat

abbrev Mu := Nat → Option Loc

mutual
/-- A value of ours, and the world's. -/
inductive VRel (m : Mu) : Value → Value → Prop
  | bool (b : Bool) : VRel m (.bool b) (.bool b)
  | int (k : IntKind) (n : Int) : VRel m (.int k n) (.int k n)
  | float (k : FloatKind) (n : Nat) : VRel m (.float k n) (.float k n)
  | string (s : ByteArray) : VRel m (.string s) (.string s)
  | nilPtr : VRel m (.pointer none) (.pointer none)
  | ptr {b : Nat} {l : Loc} (o : Nat) : m b = some l → VRel m (.pointer (some ⟨b, o, none⟩)) (.pointer (some ⟨l.blk, l.shift + o, none⟩))
  | nilSlice (n c : Nat) : c < U → n ≤ c → VRel m (.slice none n c) (.slice none n c)
  | slice {b : Nat} {l : Loc} (o o' n c : Nat) : m b = some l → c < U → (o' = l.shift + o ∨ c = 0) → n ≤ c → VRel m (.slice (some ⟨b, o, none⟩) n c) (.slice (some ⟨l.blk, o', none⟩) n c)
  | sliceU {b : Nat} {l : Loc} (o o' n c es : Nat) : m b = some l → n ≤ c → l.shift + o + c * es = l.size → (o' = l.shift + o ∨ c = 0) →
      VRel m (.slice (some ⟨b, o, none⟩) n (U + es)) (.slice (some ⟨l.blk, o', none⟩) n c)
  | nilFunc : VRel m .nilFunc .nilFunc
  | nilMap : VRel m (.map none) (.map none)
  | map (a b : Nat) : VRel m (.map (some a)) (.map (some b))
  | nilChan : VRel m (.chan none) (.chan none)
  | nilIface : VRel m .nilIface .nilIface
  | func (f : Fn) {a a' b b' : List Value} : VRels m a a' → VRels m b b' → VRel m (.func f ⟨a⟩ ⟨b⟩) (.func f ⟨a'⟩ ⟨b'⟩)
  | iface (t : TypeId) {v v' : Value} : VRel m v v' → VRel m (.iface t v) (.iface t v')
  | agg {a a' : List Value} : VRels m a a' → VRel m (.agg ⟨a⟩) (.agg ⟨a'⟩)
  | tuple {a a' : List Value} : VRels m a a' → VRel m (.tuple ⟨a⟩) (.tuple ⟨a'⟩)
inductive VRels (m : Mu) : List Value → List Value → Prop
  | nil : VRels m [] []
  | cons {v v' : Value} {l l' : List Value} : VRel m v v' → VRels m l l' → VRels m (v :: l) (v' :: l')
end

def Mu.le (m m' : Mu) : Prop := ∀ b l, m b = some l → m' b = some l

mutual
theorem VRel.mono {m m' : Mu} (h : m.le m') : ∀ {v v' : Value}, VRel m v v' → VRel m' v v'
  | _, _, .bool b => .bool b
  | _, _, .int k n => .int k n
  | _, _, .float k n => .float k n
  | _, _, .string s => .string s
  | _, _, .nilPtr => .nilPtr
  | _, _, .ptr o e => .ptr o (h _ _ e)
  | _, _, .nilSlice n c e f => .nilSlice n c e f
  | _, _, .slice o o' n c e a b d => .slice o o' n c (h _ _ e) a b d
  | _, _, .sliceU o o' n c es e a b d => .sliceU o o' n c es (h _ _ e) a b d
  | _, _, .nilFunc => .nilFunc
  | _, _, .nilMap => .nilMap
  | _, _, .map a b => .map a b
  | _, _, .nilChan => .nilChan
  | _, _, .nilIface => .nilIface
  | _, _, .func f x y => .func f (VRels.mono h x) (VRels.mono h y)
  | _, _, .iface t x => .iface t (VRel.mono h x)
  | _, _, .agg x => .agg (VRels.mono h x)
  | _, _, .tuple x => .tuple (VRels.mono h x)
theorem VRels.mono {m m' : Mu} (h : m.le m') : ∀ {v v' : List Value}, VRels m v v' → VRels m' v v'
  | _, _, .nil => .nil
  | _, _, .cons a b => .cons (VRel.mono h a) (VRels.mono h b)
end

theorem VRels.length {m : Mu} : ∀ {l l' : List Value}, VRels m l l' → l.length = l'.length
  | _, _, .nil => rfl
  | _, _, .cons _ h => by simp [VRels.length h]

theorem VRels.get {m : Mu} : ∀ {l l' : List Value}, VRels m l l' → ∀ (i : Nat) (v : Value), l[i]? = some v → ∃ v', l'[i]? = some v' ∧ VRel m v v'
  | _, _, .nil, i, v, h => by simp at h
  | _, _, .cons a h, i, v, e => by
    cases i with
    | zero => simp at e; subst e; exact ⟨_, by simp, a⟩
    | succ i => simp at e; obtain ⟨v', h1, h2⟩ := VRels.get h i v e; exact ⟨v', by simpa using h1, h2⟩

theorem VRels.of {m : Mu} : ∀ {l l' : List Value}, l.length = l'.length → (∀ (i : Nat) (v v' : Value), l[i]? = some v → l'[i]? = some v' → VRel m v v') → VRels m l l'
  | [], [], _, _ => .nil
  | [], _ :: _, h, _ => by simp at h
  | _ :: _, [], h, _ => by simp at h
  | a :: l, b :: r, h, f => .cons (f 0 a b (by simp) (by simp)) (VRels.of (by simpa using h) fun i v v' e e' => f (i + 1) v v' (by simpa using e) (by simpa using e'))

theorem VRels.append {m : Mu} : ∀ {a a' b b' : List Value}, VRels m a a' → VRels m b b' → VRels m (a ++ b) (a' ++ b')
  | _, _, _, _, .nil, h => h
  | _, _, _, _, .cons x h, k => .cons x (VRels.append h k)

theorem VRels.take {m : Mu} : ∀ {a a' : List Value} (n : Nat), VRels m a a' → VRels m (a.take n) (a'.take n)
  | _, _, 0, _ => by simp; exact .nil
  | _, _, _ + 1, .nil => by simp; exact .nil
  | _, _, n + 1, .cons x h => by simp; exact .cons x (VRels.take n h)

theorem VRels.drop {m : Mu} : ∀ {a a' : List Value} (n : Nat), VRels m a a' → VRels m (a.drop n) (a'.drop n)
  | _, _, 0, h => by simpa using h
  | _, _, _ + 1, .nil => by simp; exact .nil
  | _, _, n + 1, .cons _ h => by simp; exact VRels.drop n h

theorem putAt_length : ∀ (l : List Value) (n : Nat) (vs : List Value), (putAt l n vs).length = l.length
  | [], _, _ => rfl
  | _ :: _, 0, [] => rfl
  | _ :: l, 0, v :: vs => by simp [putAt, putAt_length l 0 vs]
  | _ :: l, n + 1, vs => by simp [putAt, putAt_length l n vs]

theorem putAt_eq : ∀ (l : List Value) (n : Nat) (vs : List Value), n + vs.length ≤ l.length → putAt l n vs = l.take n ++ vs ++ l.drop (n + vs.length)
  | [], n, vs, h => by
    have : vs = [] := List.eq_nil_of_length_eq_zero (by have : n + vs.length ≤ 0 := h; omega)
    subst this; simp [putAt]
  | x :: l, 0, [], _ => by simp [putAt]
  | x :: l, 0, v :: vs, h => by
    simp only [putAt]
    rw [putAt_eq l 0 vs (by simp at h; omega)]
    simp
  | x :: l, n + 1, vs, h => by
    simp only [putAt]
    rw [putAt_eq l n vs (by simp at h; omega)]
    simp [show n + 1 + vs.length = n + vs.length + 1 by omega]

theorem VRels.putAt {m : Mu} : ∀ {a a' : List Value} (n : Nat) {v v' : List Value}, VRels m a a' → VRels m v v' → VRels m (putAt a n v) (putAt a' n v')
  | _, _, _, _, _, .nil, _ => .nil
  | _, _, 0, _, _, .cons x h, .nil => .cons x h
  | _, _, 0, _, _, .cons _ h, .cons y k => .cons y (VRels.putAt 0 h k)
  | _, _, n + 1, _, _, .cons x h, k => .cons x (VRels.putAt n h k)

/-- The cells of a value. -/
theorem cellsOf_eq (v : Value) : v.cells.toList = cellsOf v := by cases v <;> rfl

theorem VRel.cells {m : Mu} {v v' : Value} (h : VRel m v v') : VRels m (cellsOf v) (cellsOf v') := by
  cases h <;> simp only [cellsOf] <;> first | assumption | (refine .cons ?_ .nil; constructor <;> assumption) | exact .cons (.bool _) .nil

theorem VRel.one {m : Mu} {v v' : Value} (h : VRel m v v') : Am.one v' = Am.one v := by cases h <;> rfl

theorem VRels.ones {m : Mu} : ∀ {l l' : List Value}, VRels m l l' → l'.all Am.one = l.all Am.one
  | _, _, .nil => rfl
  | _, _, .cons a h => by simp [VRel.one a, VRels.ones h]

theorem one_oneCell {v : Value} (h : one v = true) : v.oneCell' = true := by cases v <;> simp_all [one, Value.oneCell']

/-- A value without addresses is itself. -/
theorem VRel.scalar_eq {m : Mu} {v v' : Value} (hf : scalar v = true) (h : VRel m v v') : v' = v := by
  cases h <;> first | rfl | (simp [scalar] at hf)

theorem VRels.flat_eq {m : Mu} : ∀ {l l' : List Value}, l.all scalar = true → VRels m l l' → l' = l
  | _, _, _, .nil => rfl
  | _, _, h, .cons a k => by
    simp only [List.all_cons, Bool.and_eq_true] at h
    rw [VRels.flat_eq h.2 k, VRel.scalar_eq h.1 a]

theorem VRel.flat_eq {m : Mu} {v v' : Value} (hf : flat v = true) (h : VRel m v v') : v' = v := by
  cases h <;> first | rfl | (simp [flat, scalar] at hf; done) | skip
  rename_i a a' h
  rw [VRels.flat_eq (by simpa only [flat] using hf) h]

theorem VRel.scalar_refl {m : Mu} {v : Value} (hf : scalar v = true) : VRel m v v := by
  cases v <;> first | (simp [scalar] at hf; done) | constructor

theorem VRels.flat_refl {m : Mu} : ∀ {l : List Value}, l.all scalar = true → VRels m l l
  | [], _ => .nil
  | a :: l, h => by
    simp only [List.all_cons, Bool.and_eq_true] at h
    exact .cons (VRel.scalar_refl h.1) (VRels.flat_refl h.2)

theorem VRel.flat_refl {m : Mu} {v : Value} (hf : flat v = true) : VRel m v v := by
  cases v with
  | agg cs => exact .agg (a := cs.toList) (a' := cs.toList) (VRels.flat_refl (by simpa only [flat] using hf))
  | _ => exact VRel.scalar_refl hf

/-- A block of ours, at its place. -/
def CRel (m : Mu) (x : Blk) (l : Loc) (w : World) : Prop :=
  ∃ c t fr, w.heap[l.blk]? = some (.cells c t fr) ∧ c.size = l.size ∧ (x.wr = true → fr = (0, 0)) ∧
    l.shift + x.cells.length ≤ c.size ∧ VRels m x.cells ((c.toList.drop l.shift).take x.cells.length) ∧ x.elem.ty = some t ∧
    (x.elem = .var t → l.shift = 0 ∧ c.size = x.cells.length)

structure BRel (m : Mu) (x : Blk) (l : Loc) (w : World) : Prop where
  iter : ∀ b p, x.elem = .iter b p → w.heap[l.blk]? = some (.stringIter b p) ∧ l.shift = 0
  cells : x.elem.isC = true → CRel m x l w

theorem St.cel_spec {s : St} {b : Nat} {x : Blk} (h : s.cel b = some x) : s.get b = some x ∧ x.elem.isC = true := by
  unfold St.cel at h
  split at h
  · rename_i y hy
    cases hc : y.elem.isC with
    | false => simp [hc] at h
    | true => simp only [hc, cond_true, Option.some.injEq] at h; subst h; exact ⟨hy, hc⟩
  · cases h

theorem Kind.is_spec {k : Kind} {t : TypeId} (h : k.is t = true) : k.isC = true ∧ k.ty = some t := by
  cases k with
  | var u => have := Nat.eq_of_beq_eq_true h; subst this; exact ⟨rfl, rfl⟩
  | row u => have := Nat.eq_of_beq_eq_true h; subst this; exact ⟨rfl, rfl⟩
  | iter _ _ => simp [Kind.is] at h

structure Rel (G : Cfg) (m : Mu) (s : St) (w : World) : Prop where
  blk : ∀ b x l, s.get b = some x → m b = some l → BRel m x l w
  apart : ∀ b x l b' x' l', s.get b = some x → m b = some l → s.get b' = some x' → m b' = some l' → x.wr = true → l.blk = l'.blk → b = b'
  next : ∀ b x, s.get b = some x → b < s.next
  dom : ∀ b l, m b = some l → b < s.next ∧ l.blk < w.heap.size
  glob : ∀ g, g < G.n → ∃ l, m g = some l ∧ l.blk = g ∧ l.shift = 0

/-- Does the run own a block of the world? -/
def Owns (m : Mu) (s : St) (r : Nat) : Prop := ∃ b x l, s.get b = some x ∧ m b = some l ∧ l.blk = r ∧ x.wr = true

/-- What a step may turn; blocks of B that have no place stay so. -/
structure Ext (B : Nat → Prop) (m : Mu) (s : St) (w : World) (m' : Mu) (s' : St) (w' : World) : Prop where
  le : m.le m'
  next : s.next ≤ s'.next
  ghost : ∀ b, B b → m b = none → m' b = none ∧ s'.get b = s.get b
  dead : ∀ b l x, m b = some l → s'.get b = some x → ∃ y, s.get b = some y ∧ (x.wr = true → y.wr = true)
  size : w.heap.size ≤ w'.heap.size
  keep : ∀ r, r < w.heap.size → ¬ Owns m s r → w'.heap[r]? = w.heap[r]?
  new : ∀ b l, m b = none → m' b = some l → w.heap.size ≤ l.blk ∨ Owns m s l.blk
  os : w'.os = w.os
  tape : w'.tape = w.tape
  output : w'.output = w.output

theorem Ext.refl (B : Nat → Prop) (m : Mu) (s : St) (w : World) : Ext B m s w m s w where
  le := fun _ _ h => h
  next := Nat.le_refl _
  ghost := fun _ _ h => ⟨h, rfl⟩
  dead := fun _ _ x _ h => ⟨x, h, fun h => h⟩
  size := Nat.le_refl _
  keep := fun _ _ _ => rfl
  new := fun b l h h' => by rw [h] at h'; cases h'
  os := rfl
  tape := rfl
  output := rfl

theorem Ext.weaken {B B' : Nat → Prop} {m m' : Mu} {s s' : St} {w w' : World} (h : Ext B m s w m' s' w') (hB : ∀ b, B' b → B b) : Ext B' m s w m' s' w' :=
  { h with ghost := fun b hb => h.ghost b (hB b hb) }

/-- Numbers that are used up. -/
def Old (s : St) (b : Nat) : Prop := b < s.next

theorem Ext.trans {B : Nat → Prop} {m m1 m2 : Mu} {s s1 s2 : St} {w w1 w2 : World} (h : Ext B m s w m1 s1 w1) (k : Ext B m1 s1 w1 m2 s2 w2) : Ext B m s w m2 s2 w2 := by
  have own : ∀ q, q < w.heap.size → Owns m1 s1 q → Owns m s q := by
    rintro q hq ⟨b, x, l, hb, hm, rfl, hx⟩
    cases hmb : m b with
    | some l0 =>
      have e := h.le _ _ hmb
      rw [hm] at e; injection e with e; subst e
      obtain ⟨y, hy, hyx⟩ := h.dead b _ x hmb hb
      exact ⟨b, y, l, hy, hmb, rfl, hyx hx⟩
    | none =>
      rcases h.new b l hmb hm with h1 | h1
      · omega
      · exact h1
  refine ⟨fun b l e => k.le _ _ (h.le _ _ e), Nat.le_trans h.next k.next, ?_, ?_, Nat.le_trans h.size k.size, ?_, ?_, k.os.trans h.os, k.tape.trans h.tape, k.output.trans h.output⟩
  · intro b hb hm
    obtain ⟨h1, h2⟩ := h.ghost b hb hm
    obtain ⟨h3, h4⟩ := k.ghost b hb h1
    exact ⟨h3, h4.trans h2⟩
  · intro b l x hm hx
    obtain ⟨y, hy, e⟩ := k.dead b l x (h.le _ _ hm) hx
    obtain ⟨z, hz, e'⟩ := h.dead b l y hm hy
    exact ⟨z, hz, fun h => e' (e h)⟩
  · intro q hq hno
    rw [k.keep q (Nat.lt_of_lt_of_le hq h.size) (fun ho => hno (own q hq ho)), h.keep q hq hno]
  · intro b l hm hm2
    cases hm1 : m1 b with
    | some l1 =>
      have e := k.le _ _ hm1
      rw [hm2] at e; injection e with e; subst e
      exact h.new b l hm hm1
    | none =>
      rcases k.new b l hm1 hm2 with h1 | h1
      · exact .inl (Nat.le_trans h.size h1)
      · by_cases hq : l.blk < w.heap.size
        · exact .inr (own _ hq h1)
        · exact .inl (by omega)

/-- A value's fact is kept by a step. -/
theorem Ext.val {B : Nat → Prop} {m m' : Mu} {s s' : St} {w w' : World} (h : Ext B m s w m' s' w') {v v' : Value} (hv : VRel m v v') : VRel m' v v' := hv.mono h.le

/-- The frame's temporaries. -/
def ERel (m : Mu) (n : Nat) (e : Env) (a : Array Value) : Prop := a.size = n ∧ ∀ t, VRel m (e.at t) (a.getD t undef)

theorem VRel.undef {m : Mu} : VRel m undef undef := .tuple .nil

theorem ERel.mono {m m' : Mu} {n : Nat} {e : Env} {a : Array Value} (h : ERel m n e a) (hm : m.le m') : ERel m' n e a := ⟨h.1, fun t => (h.2 t).mono hm⟩

theorem ERel.put {m : Mu} {n : Nat} {e : Env} {a : Array Value} (h : ERel m n e a) {d : Nat} (hd : d < n) {v v' : Value} (hv : VRel m v v') :
    ERel m n (Tr.set e d (some v)) (a.setIfInBounds d v') := by
  refine ⟨by simp [h.1], fun t => ?_⟩
  unfold Env.at
  rw [Tr.get_set]
  by_cases e1 : t = d
  · subst e1
    simp [h.1, hd, hv]
  · have := h.2 t
    unfold Env.at at this
    simpa [e1, Array.getElem?_setIfInBounds, Ne.symm e1] using this
end Go.Am
