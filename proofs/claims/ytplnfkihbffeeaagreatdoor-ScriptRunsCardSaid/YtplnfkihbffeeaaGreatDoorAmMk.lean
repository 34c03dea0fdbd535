/- Marks on deferred blocks, private blocks. -/
import Derived.Test.YtplnfkihbffeeaaGreatDoorAmX4
import Derived.RangeFuncRecord
import Derived.RangeFuncLeaves
namespace Go.Am
variable {P : Program} {G : Cfg} {m m' : Mu} {s s' : St} {w w' : World}

/-- No place of ours lies in the block. -/
def Priv (m : Mu) (r : Nat) : Prop := ∀ b l, m b = some l → l.blk ≠ r

theorem Priv.no {r : Nat} (h : Priv m r) : ¬ Owns m s r := by
  rintro ⟨b, x, l, -, hm, hr, -⟩
  exact h b l hm hr

theorem Priv.step {B : Nat → Prop} {r : Nat} (h : Priv m r) (hr : r < w.heap.size) (e : Ext B m s w m' s' w') : Priv m' r ∧ w'.heap[r]? = w.heap[r]? := by
  refine ⟨fun b l hb he => ?_, e.keep r hr h.no⟩
  cases hm : m b with
  | some l0 =>
    have h1 := e.le _ _ hm
    rw [hb] at h1; injection h1 with h1; subst h1
    exact h b l hm he
  | none =>
    rcases e.new b l hm hb with h1 | h1
    · omega
    · rw [he] at h1; exact h.no h1

theorem putObj_other {r k : Nat} (o : Obj) (h : k ≠ r) : (w.putObj r o).heap[k]? = w.heap[k]? := World.putObj_heap_other h

theorem Rel.putPriv (r : Rel G m s w) {k : Nat} (h : Priv m k) (o : Obj) : Rel G m s (w.putObj k o) :=
  ⟨fun b x l hb hl => (r.blk b x l hb hl).mono (fun _ _ h => h) (putObj_other o (h b l hl)), r.apart, r.next, fun b l hl => ⟨(r.dom b l hl).1, by rw [World.putObj_size]; exact (r.dom b l hl).2⟩, r.glob⟩

theorem Ext.putPriv {B : Nat → Prop} (e : Ext B m s w m' s' w') {k : Nat} (hk : w.heap.size ≤ k) (o : Obj) : Ext B m s w m' s' (w'.putObj k o) :=
  ⟨e.le, e.next, e.ghost, e.dead, by rw [World.putObj_size]; exact e.size, fun r hr hno => by rw [putObj_other o (by omega)]; exact e.keep r hr hno, e.new, e.os, e.tape, e.output⟩

/-- The activation's deferred calls: marks on blocks that are open, private, and were laid since its call began. -/
def Marks (n0 : Nat) (m : Mu) (w : World) (ds : List Deferred) : Prop :=
  n0 ≤ w.heap.size ∧ ∃ rs : List Nat, ds = rs.map (fun r => { target := .collected r, args := #[] }) ∧ rs.Nodup ∧ ∀ r ∈ rs, n0 ≤ r ∧ w.heap[r]? = some (.deferred (some [])) ∧ Priv m r

theorem lt_of_get {r : Nat} {o : Obj} (h : w.heap[r]? = some o) : r < w.heap.size := (Array.getElem?_eq_some_iff.1 h).1

theorem Marks.step {B : Nat → Prop} {n0 : Nat} {ds : List Deferred} (h : Marks n0 m w ds) (e : Ext B m s w m' s' w') : Marks n0 m' w' ds := by
  obtain ⟨h0, rs, rfl, hn, hr⟩ := h
  refine ⟨Nat.le_trans h0 e.size, rs, rfl, hn, fun r hm => ?_⟩
  obtain ⟨h1, h2, h3⟩ := hr r hm
  obtain ⟨p1, p2⟩ := h3.step (lt_of_get h2) e
  exact ⟨h1, by rw [p2]; exact h2, p1⟩

theorem Marks.nil {n0 : Nat} (h : n0 ≤ w.heap.size) : Marks n0 m w [] := ⟨h, [], rfl, List.nodup_nil, fun _ h => by cases h⟩

theorem Marks.put {n0 k : Nat} {ds : List Deferred} {o o' : Obj} (h : Marks n0 m w ds) (hk : w.heap[k]? = some o) (ho : o ≠ .deferred (some [])) : Marks n0 m (w.putObj k o') ds := by
  obtain ⟨h0, rs, rfl, hn, hr⟩ := h
  refine ⟨by rw [World.putObj_size]; exact h0, rs, rfl, hn, fun r hm => ?_⟩
  obtain ⟨h1, h2, h3⟩ := hr r hm
  refine ⟨h1, ?_, h3⟩
  rw [putObj_other]
  · exact h2
  · rintro rfl; rw [hk] at h2; injection h2 with h2; exact ho h2

/-- Out of a function by its marks. -/
theorem leaves_marks {nn : Nat} {fn : Func} {tmps : Array Value} {R : Ending → World → Prop} {n0 : Nat} {ds : List Deferred} (h : Marks n0 m w ds) (r : Rel G m s w) {B : Nat → Prop} {m0 : Mu} {s0 : St} {w0 : World} (hw0 : w0.heap.size = n0)
    (e : Ext B m0 s0 w0 m s w) (hfin : ∀ w', Rel G m s w' → Ext B m0 s0 w0 m s w' → ∃ v, (results fn tmps).run P w' = .ok v w' ∧ R (.returned v) w') :
    LeavesInM Fence.wide nn P fn tmps R ds .returning w := by
  obtain ⟨h0, rs, rfl, hn, hr⟩ := h
  induction rs generalizing w with
  | nil =>
    obtain ⟨v, h1, h2⟩ := hfin w r e
    exact ⟨v, h1, h2⟩
  | cons k rs ih =>
    obtain ⟨h1, h2, h3⟩ := hr k (by simp)
    refine ⟨by simp, .inl ⟨k, _, rfl, run_takeDeferred h2, ?_⟩⟩
    refine ih (r.putPriv h3 _) (e.putPriv (by omega) _) (by rw [World.putObj_size]; exact h0) (List.nodup_cons.1 hn).2 fun q hq => ?_
    obtain ⟨g1, g2, g3⟩ := hr q (List.mem_cons_of_mem _ hq)
    refine ⟨g1, ?_, g3⟩
    rw [putObj_other]
    · exact g2
    · rintro rfl; exact (List.nodup_cons.1 hn).1 hq
end Go.Am
