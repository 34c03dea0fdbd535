/- Operations that read, write and make blocks. -/
import Derived.Test.YtplnfkihbffeeaaGreatDoorAmJ
namespace Go.Am
variable {P : Program} {G : Cfg} {m : Mu} {s : St} {w : World} {n : Nat} {e : Env} {ρ : Operand → Value} {o : Oper} {v : Value}

theorem BRel.cell {x : Blk} {l : Loc} (hb : BRel m x l w) (hC : x.elem.isC = true) {i : Nat} {v : Value} (hv : x.cells[i]? = some v) : ∃ v', w.cell? ⟨l.blk, l.shift + i, none⟩ = some v' ∧ VRel m v v' := by
  obtain ⟨c, t, fr, hg, -, -, hle, hr, -, -⟩ := hb.cells hC
  obtain ⟨v', h1, h2⟩ := hr.get _ _ hv
  refine ⟨v', ?_, h2⟩
  have hi : i < x.cells.length := (List.getElem?_eq_some_iff.1 hv).1
  rw [List.getElem?_take, if_pos hi, List.getElem?_drop] at h1
  simpa [World.cell?, hg] using h1

theorem BRel.take {x : Blk} {l : Loc} (hb : BRel m x l w) (hC : x.elem.isC = true) {i k : Nat} {vs : List Value} (hv : Am.take x.cells i k = some vs) :
    ∃ vs', (∀ j v, vs'[j]? = some v → w.cell? ((⟨l.blk, l.shift + i, none⟩ : Addr).add j) = some v) ∧ VRels m vs vs' ∧ vs'.length = k := by
  obtain ⟨c, t, fr, hg, -, -, hle, hr, -, -⟩ := hb.cells hC
  obtain ⟨vs', h1, h2⟩ := take_rel hv hr
  obtain ⟨h3, rfl⟩ := take_spec h1
  refine ⟨_, ?_, h2, ?_⟩
  · intro j v hj
    have hjk : j < k := by
      have := (List.getElem?_eq_some_iff.1 hj).1
      simp at this; omega
    rw [List.getElem?_take, if_pos hjk, List.getElem?_drop, List.getElem?_take] at hj
    split at hj
    · rw [List.getElem?_drop] at hj
      rw [add_none]
      simpa [World.cell?, hg, Nat.add_assoc] using hj
    · cases hj
  · simp at h3 ⊢; omega

theorem loadN_run {a : Addr} {vs : List Value} {k : Nat} (h : ∀ j v, vs[j]? = some v → w.cell? (a.add j) = some v) (hk : vs.length = k) : (loadCells a k).run P w = .ok ⟨vs⟩ w := by
  subst hk; exact run_loadCells_list w a vs h

/-- Which loaded operation one of ours comes from. -/
def From (o : Oper) (op : AOp) : Prop :=
  match op.cls with
  | .pure => True
  | .load => ∃ t a, o.op = .load t a
  | .alloc => (∃ t, o.op = .alloc t) ∨ (∃ t x, o.op = .box t x) ∨ (∃ t k ps, o.op = .buildSlice t k ps) ∨ (∃ t l c, o.op = .makeSlice t l c)
  | .act => (∃ t a x, o.op = .store t a x) ∨ ∃ c, o.op = .call c

theorem plainOf_from {l : List Operand} {op : AOp} (h : plainOf o l = some op) : From o op := by
  unfold plainOf at h
  split at h
  · simp only [Option.some.injEq] at h; subst h; trivial
  · cases h

theorem comp_from {op : AOp} (hc : comp0 P o = some op) : From o op := by
  unfold comp0 at hc
  split at hc
  · simp only [Option.some.injEq] at hc; subst hc; trivial
  · simp only [Option.some.injEq] at hc; subst hc; trivial
  · simp only [Option.some.injEq] at hc; subst hc; trivial
  · rename_i hop
    simp only [Option.bind_eq_bind, Option.bind_eq_some_iff, Option.some.injEq] at hc
    obtain ⟨z, -, rfl⟩ := hc
    exact .inl ⟨_, hop⟩
  · rename_i hop
    simp only [Option.some.injEq] at hc; subst hc
    exact .inr (.inl ⟨_, _, hop⟩)
  · simp only [Option.bind_eq_bind, Option.bind_eq_some_iff] at hc
    obtain ⟨z, hz, d, hd, hc⟩ := hc
    split at hc
    · split at hc
      · simp only [Option.map_eq_some_iff] at hc
        obtain ⟨pl, hpl, rfl⟩ := hc; trivial
      · cases hc
    · simp only [Option.bind_eq_some_iff, Option.map_eq_some_iff] at hc
      obtain ⟨y, hy, pl, hpl, rfl⟩ := hc; trivial
    · cases hc
  · rename_i hop
    simp only [Option.bind_eq_bind, Option.bind_eq_some_iff] at hc
    obtain ⟨⟨el, i⟩, -, z, -, hc⟩ := hc
    split at hc
    · simp only [Option.map_eq_some_iff] at hc
      obtain ⟨pl, -, rfl⟩ := hc
      exact .inr (.inr (.inl ⟨_, _, _, hop⟩))
    · cases hc
  · rename_i hop
    simp only [Option.bind_eq_bind, Option.bind_eq_some_iff] at hc
    obtain ⟨d, -, hc⟩ := hc
    split at hc
    · simp only [Option.bind_eq_some_iff, Option.some.injEq] at hc
      obtain ⟨k, -, rfl⟩ := hc
      exact ⟨_, _, hop⟩
    · simp only [Option.some.injEq] at hc; subst hc
      exact ⟨_, _, hop⟩
  · rename_i hop
    simp only [Option.bind_eq_bind, Option.bind_eq_some_iff, Option.some.injEq] at hc
    obtain ⟨z, -, rfl⟩ := hc
    exact .inl ⟨_, _, _, hop⟩
  · simp only [Option.some.injEq] at hc; subst hc; trivial
  · simp only [Option.bind_eq_bind, Option.bind_eq_some_iff] at hc
    obtain ⟨d, hd, hc⟩ := hc
    split at hc <;> first | exact plainOf_from hc | (simp only [Option.some.injEq] at hc; subst hc; trivial)
  · exact plainOf_from hc
  · exact plainOf_from hc
  · simp only [Option.bind_eq_bind, Option.bind_eq_some_iff] at hc
    obtain ⟨d, hd, hc⟩ := hc
    split at hc
    · simp only [Option.bind_eq_some_iff] at hc
      obtain ⟨f, hf, d2, hd2, hc⟩ := hc
      split at hc
      · simp only [Option.bind_eq_some_iff, Option.some.injEq] at hc
        obtain ⟨z, hz, rfl⟩ := hc; trivial
      · simp only [Option.some.injEq] at hc; subst hc; trivial
    · cases hc
  · simp only [Option.bind_eq_bind, Option.bind_eq_some_iff] at hc
    obtain ⟨d, hd, hc⟩ := hc
    split at hc
    · simp only [Option.bind_eq_some_iff] at hc
      obtain ⟨f, hf, z, hz, hc⟩ := hc
      split at hc
      · simp only [Option.some.injEq] at hc; subst hc; trivial
      · cases hc
    · cases hc
  · simp only [Option.bind_eq_bind, Option.bind_eq_some_iff] at hc
    obtain ⟨d, hd, hc⟩ := hc
    split at hc
    · simp only [Option.bind_eq_some_iff, Option.some.injEq] at hc
      obtain ⟨z, hz, rfl⟩ := hc; trivial
    · simp only [Option.bind_eq_some_iff, Option.some.injEq] at hc
      obtain ⟨z, hz, rfl⟩ := hc; trivial
    · cases hc
  · simp only [Option.bind_eq_bind, Option.bind_eq_some_iff] at hc
    obtain ⟨d, hd, hc⟩ := hc
    split at hc
    · simp only [Option.bind_eq_some_iff] at hc
      obtain ⟨z, hz, d2, hd2, hc⟩ := hc
      split at hc
      · simp only [Option.some.injEq] at hc; subst hc; trivial
      · split at hc
        · simp only [Option.some.injEq] at hc; subst hc; trivial
        · cases hc
    · simp only [Option.some.injEq] at hc; subst hc; trivial
    · cases hc
  · simp only [Option.bind_eq_bind, Option.bind_eq_some_iff] at hc
    obtain ⟨d, hd, hc⟩ := hc
    split at hc
    · split at hc
      · simp only [Option.some.injEq] at hc; subst hc; trivial
      · cases hc
    · simp only [Option.bind_eq_some_iff] at hc
      obtain ⟨z, hz, hc⟩ := hc
      split at hc
      · simp only [Option.some.injEq] at hc; subst hc; trivial
      · cases hc
    · simp only [Option.bind_eq_some_iff, Option.some.injEq] at hc
      obtain ⟨z, hz, rfl⟩ := hc; trivial
    · cases hc
  · rename_i hop
    simp only [Option.bind_eq_bind, Option.bind_eq_some_iff] at hc
    obtain ⟨⟨el, i⟩, -, z, -, hc⟩ := hc
    split at hc
    · simp only [Option.some.injEq] at hc; subst hc
      exact .inr (.inr (.inr ⟨_, _, _, hop⟩))
    · cases hc
  · simp only [Option.some.injEq] at hc; subst hc; trivial
  · simp only [Option.some.injEq] at hc; subst hc; trivial
  · rename_i c hop
    split at hc
    · exact plainOf_from hc
    · exact plainOf_from hc
    · unfold compCall at hc
      split at hc
      · simp only [Option.some.injEq] at hc; subst hc; exact .inr ⟨_, hop⟩
      · simp only [Option.some.injEq] at hc; subst hc; exact .inr ⟨_, hop⟩
      · simp only [Option.bind_eq_bind, Option.bind_eq_some_iff] at hc
        obtain ⟨t, ht, x, hx, d, hd, hc⟩ := hc
        split at hc
        · simp only [Option.some.injEq] at hc; subst hc; trivial
        · simp only [Option.some.injEq] at hc; subst hc; trivial
        · simp only [Option.some.injEq] at hc; subst hc; trivial
        · cases hc
      · simp only [Option.bind_eq_bind] at hc
        split at hc
        · simp only [Option.bind_eq_some_iff] at hc
          obtain ⟨⟨el, i⟩, -, z, -, d, -, hc⟩ := hc
          split at hc
          · simp only [Option.some.injEq] at hc; subst hc; exact .inr ⟨_, hop⟩
          · simp only [Option.some.injEq] at hc; subst hc; exact .inr ⟨_, hop⟩
          · cases hc
        · cases hc
      · simp only [Option.bind_eq_bind] at hc
        split at hc
        · simp only [Option.bind_eq_some_iff] at hc
          obtain ⟨⟨el, i⟩, -, hc⟩ := hc
          simp only [Option.some.injEq] at hc; subst hc; exact .inr ⟨_, hop⟩
        · cases hc
      · cases hc
  · cases hc

theorem load_sound0 {op : AOp} (hc : comp0 P o = some op) (hcl : op.cls = .load) (ho : ∀ x ∈ o.op.operands.toList, ORel m e ρ x)
    (h : loadOf e s op = some v) (r : Rel G m s w) : ∃ v', VRel m v v' ∧ (execOp ρ o).run P w = .ok (.value v') w := by
  have hf := comp_from hc
  unfold From at hf
  rw [hcl] at hf
  obtain ⟨t, a, hop⟩ := hf
  have ha : ORel m e ρ a := ho a (by simp [hop, Op.operands])
  unfold ORel at ha
  simp only [comp0, hop, Option.bind_eq_bind, Option.bind_eq_some_iff] at hc
  obtain ⟨d, hd, hc⟩ := hc
  split at hc
  · rename_i hag
    simp only [Option.bind_eq_some_iff, Option.some.injEq] at hc
    obtain ⟨k, hk, rfl⟩ := hc
    simp only [loadOf] at h
    split at h
    · rename_i b off hb
      rw [hb] at ha
      obtain ⟨l, hl, ha'⟩ := ha.ptr_eq
      split at h
      · rename_i x hx0
        obtain ⟨hx, hC⟩ := St.cel_spec hx0
        simp only [Option.map_eq_some_iff] at h
        obtain ⟨vs, hvs, rfl⟩ := h
        obtain ⟨vs', h1, h2, h3⟩ := (r.blk _ _ _ hx hl).take hC hvs
        refine ⟨.agg ⟨vs'⟩, .agg h2, ?_⟩
        simp [execOp, hop, Instr.loadAt, ha', Instr.sureAddr, loadVar, isAgg_run hd, hag, sizeOf_run hk, loadN_run h1 h3]
      · cases h
    · cases h
  · rename_i hag
    simp only [Option.some.injEq] at hc; subst hc
    simp only [loadOf] at h
    split at h
    · rename_i b off hb
      rw [hb] at ha
      obtain ⟨l, hl, ha'⟩ := ha.ptr_eq
      split at h
      · rename_i x hx0
        obtain ⟨hx, hC⟩ := St.cel_spec hx0
        obtain ⟨v', h1, h2⟩ := (r.blk _ _ _ hx hl).cell hC h
        refine ⟨v', h2, ?_⟩
        simp [execOp, hop, Instr.loadAt, ha', Instr.sureAddr, loadVar, isAgg_run hd, hag, h1]
      · cases h
    · cases h

def Mu.up (m : Mu) (id : Nat) (l : Loc) : Mu := fun b => if b = id then some l else m b

theorem Mu.le_up {m : Mu} {id : Nat} (l : Loc) (h : m id = none) : m.le (m.up id l) := by
  intro b l' hb
  unfold Mu.up
  split
  · rename_i e1; subst e1; rw [h] at hb; cases hb
  · exact hb

theorem BRel.mono {m' : Mu} {x : Blk} {l : Loc} {w' : World} (h : BRel m x l w) (hm : m.le m') (hw : w'.heap[l.blk]? = w.heap[l.blk]?) : BRel m' x l w' := by
  refine ⟨fun b p e1 => by rw [hw]; exact h.iter b p e1, fun hC => ?_⟩
  obtain ⟨c, t, fr, hg, h1, h2, h3, h4, h5, h6⟩ := h.cells hC
  exact ⟨c, t, fr, by rw [hw]; exact hg, h1, h2, h3, h4.mono hm, h5, h6⟩

theorem St.next_own (s : St) (id : Nat) (x : Blk) : (s.own id x).next = max s.next (id + 1) := by
  unfold St.own
  cases h : Nat.blt id s.next with
  | true => rw [Nat.blt_eq] at h; simp; omega
  | false =>
    have : ¬ id < s.next := by rw [← Nat.blt_eq, h]; simp
    simp; omega

theorem heap_alloc_lt {w : World} {ob : Obj} {k : Nat} (h : k < w.heap.size) : (w.alloc ob).heap[k]? = w.heap[k]? := by
  show (w.heap.push ob)[k]? = _
  rw [Array.getElem?_push, if_neg (by omega)]
theorem heap_alloc_at {w : World} {ob : Obj} : (w.alloc ob).heap[w.heap.size]? = some ob := by
  show (w.heap.push ob)[w.heap.size]? = _
  simp

/-- A new block. -/
theorem Rel.own (r : Rel G m s w) {id : Nat} (hm : m id = none) {x : Blk} {c : List Value} (t : TypeId) (hxl : x.cells.length ≤ c.length) (hv : VRels m x.cells (c.take x.cells.length))
    (hC : x.elem.isC = true) (ht : x.elem.ty = some t) (hfull : x.elem = .var t → x.cells.length = c.length) :
    Rel G (m.up id ⟨w.heap.size, 0, c.length⟩) (s.own id x) (w.alloc (.cells ⟨c⟩ t)) := by
  have hle := Mu.le_up ⟨w.heap.size, 0, c.length⟩ hm
  have old : ∀ b l, b ≠ id → m.up id ⟨w.heap.size, 0, c.length⟩ b = some l → m b = some l ∧ l.blk < w.heap.size := by
    intro b l hb h
    unfold Mu.up at h
    rw [if_neg hb] at h
    exact ⟨h, (r.dom _ _ h).2⟩
  refine ⟨?_, ?_, ?_, ?_, ?_⟩
  · intro b y l hy hl
    rw [St.get_own] at hy
    by_cases hb : b = id
    · subst hb
      simp only [if_true, Option.some.injEq] at hy; subst hy
      simp only [Mu.up, if_true, Option.some.injEq] at hl; subst hl
      refine ⟨fun b p e1 => (by rw [e1] at hC; cases hC), fun _ => ⟨⟨c⟩, t, (0, 0), heap_alloc_at, rfl, fun _ => rfl, ?_, ?_, ht, fun e1 => ⟨rfl, (hfull e1).symm⟩⟩⟩
      · simp; exact hxl
      · simp only [List.drop_zero]
        exact hv.mono hle
    · rw [if_neg hb] at hy
      obtain ⟨h1, h2⟩ := old _ _ hb hl
      exact (r.blk _ _ _ hy h1).mono hle (heap_alloc_lt h2)
  · intro b y l b' y' l' hy hl hy' hl' hwr heq
    rw [St.get_own] at hy hy'
    by_cases hb : b = id
    · by_cases hb' : b' = id
      · rw [hb, hb']
      · rw [if_neg hb'] at hy'
        obtain ⟨h1, h2⟩ := old _ _ hb' hl'
        subst hb
        simp only [Mu.up, if_true, Option.some.injEq] at hl; subst hl
        simp only at heq; omega
    · rw [if_neg hb] at hy
      obtain ⟨h1, h2⟩ := old _ _ hb hl
      by_cases hb' : b' = id
      · subst hb'
        simp only [Mu.up, if_true, Option.some.injEq] at hl'; subst hl'
        simp only at heq; omega
      · rw [if_neg hb'] at hy'
        obtain ⟨h3, h4⟩ := old _ _ hb' hl'
        exact r.apart _ _ _ _ _ _ hy h1 hy' h3 hwr heq
  · intro b y hy
    rw [St.get_own] at hy
    rw [St.next_own]
    by_cases hb : b = id
    · omega
    · rw [if_neg hb] at hy
      have := r.next _ _ hy
      omega
  · intro b l hl
    rw [St.next_own, World.size_alloc]
    by_cases hb : b = id
    · subst hb
      simp only [Mu.up, if_true, Option.some.injEq] at hl; subst hl
      simp only; omega
    · obtain ⟨h1, h2⟩ := old _ _ hb hl
      have := (r.dom _ _ h1).1
      omega
  · intro g hg
    obtain ⟨l, h1, h2⟩ := r.glob g hg
    exact ⟨l, hle _ _ h1, h2⟩

theorem Ext.own {B : Nat → Prop} {id : Nat} (hid : ¬ B id) (hm : m id = none) (s : St) (w : World) (x : Blk) (k : Nat) (ob : Obj) :
    Ext B m s w (m.up id ⟨w.heap.size, 0, k⟩) (s.own id x) (w.alloc ob) := by
  refine ⟨Mu.le_up _ hm, ?_, ?_, ?_, ?_, ?_, ?_, rfl, rfl, rfl⟩
  · rw [St.next_own]; omega
  · intro b hb h1
    have : b ≠ id := by rintro rfl; exact hid hb
    exact ⟨by simp only [Mu.up, if_neg this]; exact h1, by rw [St.get_own, if_neg this]⟩
  · intro b l y hb hy
    have : b ≠ id := by intro e1; rw [e1, hm] at hb; cases hb
    rw [St.get_own, if_neg this] at hy
    exact ⟨y, hy, fun h => h⟩
  · rw [World.size_alloc]; omega
  · intro q hq _
    exact heap_alloc_lt hq
  · intro b l h1 h2
    by_cases hb : b = id
    · subst hb
      simp only [Mu.up, if_true, Option.some.injEq] at h2; subst h2
      exact .inl (Nat.le_refl _)
    · simp only [Mu.up, if_neg hb] at h2
      rw [h1] at h2; cases h2

theorem rep_length (z : List Value) : ∀ n, (rep z n).length = n * z.length
  | 0 => by simp [rep]
  | n + 1 => by simp [rep, rep_length z n, Nat.succ_mul, Nat.add_comm]

theorem rep_get (z : List Value) : ∀ (n i : Nat), i < n * z.length → (rep z n)[i]? = z[i % z.length]?
  | 0, i, h => by simp at h
  | n + 1, i, h => by
    simp only [rep]
    by_cases hi : i < z.length
    · rw [List.getElem?_append_left hi, Nat.mod_eq_of_lt hi]
    · rw [List.getElem?_append_right (by omega), rep_get z n (i - z.length) (by rw [Nat.succ_mul] at h; omega)]
      rw [← Nat.mod_eq_sub_mod (by omega)]

theorem rep_eq (z : Array Value) (n : Nat) : ((Array.range (n * z.size)).map (fun i => z[i % z.size]!)).toList = rep z.toList n := by
  apply List.ext_getElem?
  intro i
  by_cases hi : i < n * z.size
  · have hz : 0 < z.size := by
      rcases Nat.eq_zero_or_pos z.size with h | h
      · rw [h] at hi; simp at hi
      · exact h
    have hm : i % z.size < z.size := Nat.mod_lt _ hz
    have := rep_get z.toList n i (by simpa using hi)
    rw [this]
    simp [hi, hm]
  · rw [List.getElem?_eq_none (by simp; omega), List.getElem?_eq_none (by rw [rep_length]; simp; omega)]

/-- A new block's value. -/
def NewAt (v : Value) (f : Nat → Value) (id k : Nat) : Prop := ∀ (m' : Mu) (r : Nat), m' id = some ⟨r, 0, k⟩ → VRel m' v (f r)

theorem newAt_ptr (id k : Nat) : NewAt (.pointer (some ⟨id, 0, none⟩)) (fun r => .pointer (some ⟨r, 0, none⟩)) id k := fun _ _ h => by
  have := VRel.ptr 0 h
  simpa using this

theorem newAt_slice (id k a b : Nat) (hb : b < U) (hab : a ≤ b) : NewAt (.slice (some ⟨id, 0, none⟩) a b) (fun r => .slice (some ⟨r, 0, none⟩) a b) id k := fun _ _ h =>
  VRel.slice _ _ _ _ h hb (.inl rfl) hab

theorem alloc_sound0 {op : AOp} {id : Nat} {x : Blk} (hc : comp0 P o = some op) (hcl : op.cls = .alloc) (ho : ∀ x ∈ o.op.operands.toList, ORel m e ρ x)
    (h : allocOf e id op = some (v, x)) :
    ∃ (c : List Value) (t : TypeId) (f : Nat → Value), VRels m x.cells c ∧ (x.wr = true ∧ x.elem = .var t) ∧ NewAt v f id c.length ∧
      ∀ w, (execOp ρ o).run P w = .ok (.value (f w.heap.size)) (w.alloc (.cells ⟨c⟩ t)) := by
  have hf := comp_from hc
  unfold From at hf
  rw [hcl] at hf
  rcases hf with ⟨t, hop⟩ | ⟨t, y, hop⟩ | ⟨t, k, ps, hop⟩ | ⟨t, l, cp, hop⟩
  · simp only [comp0, hop, Option.bind_eq_bind, Option.bind_eq_some_iff, Option.some.injEq] at hc
    obtain ⟨z, hz, rfl⟩ := hc
    simp only [allocOf, Option.some.injEq, Prod.mk.injEq] at h
    obtain ⟨rfl, rfl⟩ := h
    obtain ⟨i, zv, hi, hv, hvz, hst, hlen⟩ := zeroP_spec hz
    refine ⟨z, t, _, stills_refl hst, ⟨rfl, rfl⟩, newAt_ptr _ _, fun w => ?_⟩
    have : zv.cells = ⟨z⟩ := by apply Array.ext'; rw [cellsOf_eq, hvz]
    simp [execOp, hop, Instr.alloc, zeroValue_run hi hv, newVar, newRow, this]
  · simp only [comp0, hop, Option.some.injEq] at hc; subst hc
    simp only [allocOf, Option.some.injEq, Prod.mk.injEq] at h
    obtain ⟨rfl, rfl⟩ := h
    have hy : ORel m e ρ y := ho y (by simp [hop, Op.operands])
    refine ⟨cellsOf (ρ y), t, _, VRel.cells hy, ⟨rfl, rfl⟩, newAt_ptr _ _, fun w => ?_⟩
    have : (ρ y).cells = ⟨cellsOf (ρ y)⟩ := by apply Array.ext'; rw [cellsOf_eq]
    simp [execOp, hop, Instr.box, newVar, newRow, this]
  · simp only [comp0, hop, Option.bind_eq_bind, Option.bind_eq_some_iff] at hc
    obtain ⟨⟨el, i⟩, hsl, z, hz, hc⟩ := hc
    split at hc
    · rename_i hcond
      simp only [Option.map_eq_some_iff] at hc
      obtain ⟨pl, hpl, rfl⟩ := hc
      simp only [allocOf, Option.map_eq_some_iff, Prod.mk.injEq] at h
      obtain ⟨cs, hcs, rfl, rfl⟩ := h
      simp only [sliceElem, Option.bind_eq_bind, Option.bind_eq_some_iff] at hsl
      obtain ⟨d, hd, hsl⟩ := hsl
      split at hsl
      · rename_i el'
        simp only [Option.bind_eq_some_iff, Option.some.injEq, Prod.mk.injEq] at hsl
        obtain ⟨i', hi', rfl, rfl⟩ := hsl
        obtain ⟨i2, zv, hi, hv, hvz, hst, hlen⟩ := zeroP_spec hz
        rw [hi] at hi'; simp only [Option.some.injEq] at hi'; subst hi'
        dsimp only at hi hz hcond
        have hps : ∀ p ∈ ps.toList, ORel m e ρ p.2 := fun p hp => ho p.2 (by
          simp only [hop, Op.operands]
          simpa using ⟨p.1, by simpa using hp⟩)
        have hzs : zv.cells.size = i2.size := by rw [← Array.length_toList, cellsOf_eq, hvz, hlen]
        have hrep : ((Array.range (k * i2.size)).map (fun j => zv.cells[j % zv.cells.size]!)).toList = rep z k := by
          rw [← hzs, rep_eq, cellsOf_eq, hvz]
        have hzz : VRels m (rep z k) ((Array.range (k * i2.size)).map (fun j => zv.cells[j % zv.cells.size]!)).toList := by
          rw [hrep]
          refine stills_refl ?_
          rw [List.all_eq_true] at hst ⊢
          intro q hq
          obtain ⟨j, hj⟩ := List.getElem?_of_mem hq
          have hj2 := (List.getElem?_eq_some_iff.1 hj).1
          rw [rep_length] at hj2
          rw [rep_get z k j hj2] at hj
          exact hst q (List.mem_of_getElem? hj)
        obtain ⟨c', h1, h2⟩ := fill_rel hpl hcs hzz hps
        have hU : k < U := by
          have : k * 1 ≤ k * i2.size := Nat.mul_le_mul_left _ hcond.1
          unfold U; omega
        refine ⟨c'.toList, el', _, h2, ⟨rfl, rfl⟩, newAt_slice _ _ _ _ hU (Nat.le_refl _), fun w => ?_⟩
        have hs : sizeP P el' = some i2.size := by simp [sizeP, hi]
        have hno : ¬ (16777216 < k * i2.size) := by omega
        by_cases hk : k = 0
        · subst hk
          have e1 : (Array.range (0 * i2.size)).map (fun j => zv.cells[j % zv.cells.size]!) = #[] := by simp
          rw [e1] at h1
          have e2 : Array.range 0 = #[] := rfl
          simp [execOp, hop, Instr.buildSlice, run_underlying hd, sizeOf_run hs, h1, newRow, e2]
        · have hne : ¬ k * i2.size = 0 := Nat.mul_ne_zero hk (by omega)
          simp [execOp, hop, Instr.buildSlice, run_underlying hd, sizeOf_run hs, hno, hne, zeroValue_run hi hv, h1, newRow]
      · cases hsl
    · cases hc
  · simp only [comp0, hop, Option.bind_eq_bind, Option.bind_eq_some_iff] at hc
    obtain ⟨⟨el, i⟩, hsl, z, hz, hc⟩ := hc
    split at hc
    · rename_i hcond
      simp only [Option.some.injEq] at hc; subst hc
      simp only [allocOf] at h
      split at h
      · rename_i k1 a k2 b ha hb
        split at h
        · rename_i hab
          simp only [Option.some.injEq, Prod.mk.injEq] at h
          obtain ⟨rfl, rfl⟩ := h
          simp only [sliceElem, Option.bind_eq_bind, Option.bind_eq_some_iff] at hsl
          obtain ⟨d, hd, hsl⟩ := hsl
          split at hsl
          · rename_i el'
            simp only [Option.bind_eq_some_iff, Option.some.injEq, Prod.mk.injEq] at hsl
            obtain ⟨i', hi', rfl, rfl⟩ := hsl
            obtain ⟨i2, zv, hi, hv, hvz, hst, hlen⟩ := zeroP_spec hz
            rw [hi] at hi'; simp only [Option.some.injEq] at hi'; subst hi'
            dsimp only at hi hz hcond hab ⊢
            have hl : ORel m e ρ l := ho l (by simp [hop, Op.operands])
            have hcp : ORel m e ρ cp := ho cp (by simp [hop, Op.operands])
            unfold ORel at hl hcp
            rw [ha] at hl; rw [hb] at hcp
            have hl' := hl.int_eq
            have hcp' := hcp.int_eq
            have hzs : zv.cells.size = i2.size := by rw [← Array.length_toList, cellsOf_eq, hvz, hlen]
            have hrep : (Array.range (b * i2.size)).map (fun j => zv.cells[j % zv.cells.size]!) = ⟨rep z b⟩ := by
              apply Array.ext'
              rw [← hzs, rep_eq, cellsOf_eq, hvz]
            have hstr : VRels m (rep z b) (rep z b) := by
              refine stills_refl ?_
              rw [List.all_eq_true] at hst ⊢
              intro q hq
              obtain ⟨j, hj⟩ := List.getElem?_of_mem hq
              have hj2 := (List.getElem?_eq_some_iff.1 hj).1
              rw [rep_length] at hj2
              rw [rep_get z b j hj2] at hj
              exact hst q (List.mem_of_getElem? hj)
            refine ⟨rep z b, el', _, hstr, ⟨rfl, rfl⟩, newAt_slice _ _ _ _ (by unfold U; omega) hab.1, fun w => ?_⟩
            have hs : sizeP P el' = some i2.size := by simp [sizeP, hi]
            have w1 : IntKind.i64.wrap (a : Int) = a := by rw [IntKind.wrap_i64]; omega
            have w2 : IntKind.i64.wrap (b : Int) = b := by rw [IntKind.wrap_i64]; omega
            have hmul : (i2.bytes : Int) * (b : Int) = ((i2.bytes * b : Nat) : Int) := by simp
            by_cases hb0 : b * i2.size = 0
            · have hr0 : rep z b = [] := List.eq_nil_of_length_eq_zero (by rw [rep_length, hlen]; exact hb0)
              have e2 : Array.range 0 = #[] := rfl
              simp only [execOp, hop, Instr.makeSlice, Sem.run_bind, run_underlying hd, Result.andThen_ok, hl', hcp']
              simp [asInt, asIntOf, typeInfo, hi, w1, w2, sizeOf_run hs, hb0, newRow, hr0, e2]
              intro hx
              exfalso
              rw [hmul] at hx
              omega
            · simp only [execOp, hop, Instr.makeSlice, Sem.run_bind, run_underlying hd, Result.andThen_ok, hl', hcp']
              simp [asInt, asIntOf, typeInfo, hi, w1, w2, sizeOf_run hs, hb0, newRow, zeroValue_run hi hv, hrep]
              intro hx
              exfalso
              rw [hmul] at hx
              omega
          · cases hsl
        · cases h
      · cases h
    · cases hc
end Go.Am
