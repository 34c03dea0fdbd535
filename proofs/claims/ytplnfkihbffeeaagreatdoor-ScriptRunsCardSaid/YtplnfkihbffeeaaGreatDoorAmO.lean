/- Regions that draw their order: plain facts on orders and slots. -/
import Derived.Test.YtplnfkihbffeeaaGreatDoorAmN
namespace Go.Am
variable {P : Program} {G : Cfg} {nn : Nat} {ro : Option Nat} {m : Mu} {s : St} {w : World} {n : Nat} {e : Env} {o : Oper} {v : Value}

theorem mask_spec (acc : List Nat) : ∀ (l : List Nat) (s i : Nat), (mask acc l s).testBit i = true → s.testBit i = true ∨ i ∈ l ∨ ∃ q ∈ l, (acc.getD q 0).testBit i = true
  | [], s, i, h => .inl h
  | j :: r, s, i, h => by
    simp only [mask] at h
    rcases mask_spec acc r _ i h with h1 | h1 | ⟨q, hq, h1⟩
    · simp only [Nat.testBit_or, Bool.or_eq_true, Nat.testBit_two_pow, decide_eq_true_eq] at h1
      rcases h1 with (h1 | h1) | h1
      · exact .inl h1
      · exact .inr (.inl (by simp [h1]))
      · exact .inr (.inr ⟨j, by simp, h1⟩)
    · exact .inr (.inl (by simp [h1]))
    · exact .inr (.inr ⟨q, by simp [hq], h1⟩)

theorem aheads_pre : ∀ (l : List Oper) (acc : List Nat) (k : Nat), k < acc.length → (aheads l acc)[k]? = acc[k]?
  | [], _, _, _ => rfl
  | o :: l, acc, k, h => by
    simp only [aheads]
    rw [aheads_pre l _ k (by simp; omega), List.getElem?_append_left h]

theorem aheads_at : ∀ (l : List Oper) (acc : List Nat) (t : Nat) (o : Oper), l[t]? = some o →
    ∃ acc' : List Nat, acc'.length = acc.length + t ∧ (∀ k, k < acc'.length → (aheads l acc)[k]? = acc'[k]?) ∧ (aheads l acc)[acc.length + t]? = some (mask acc' (edges o) 0)
  | [], _, _, _, h => by simp at h
  | o :: l, acc, 0, o', h => by
    simp only [List.getElem?_cons_zero, Option.some.injEq] at h; subst h
    refine ⟨acc, rfl, fun k hk => aheads_pre _ _ k hk, ?_⟩
    simp only [aheads, Nat.add_zero]
    rw [aheads_pre _ _ _ (by simp)]
    simp
  | o :: l, acc, t + 1, o', h => by
    simp only [List.getElem?_cons_succ] at h
    obtain ⟨acc', h1, h2, h3⟩ := aheads_at l (acc ++ [mask acc (edges o) 0]) t o' h
    simp only [List.length_append, List.length_cons, List.length_nil] at h1 h3
    refine ⟨acc', by omega, h2, ?_⟩
    simp only [aheads]
    rw [show acc.length + (t + 1) = acc.length + (0 + 1) + t by omega]
    exact h3

/-- What stands ahead stands ahead by an edge. -/
theorem aheads_spec {ops : Array Oper} {j : Nat} {o : Oper} (ho : ops[j]? = some o) (he : ∀ q ∈ edges o, q < j) {i : Nat} (h : ((aheads ops.toList []).getD j 0).testBit i = true) :
    i ∈ edges o ∨ ∃ q ∈ edges o, ((aheads ops.toList []).getD q 0).testBit i = true := by
  obtain ⟨acc', h1, h2, h3⟩ := aheads_at ops.toList [] j o (by simpa using ho)
  simp only [List.length_nil, Nat.zero_add] at h1 h3
  rw [List.getD, h3, Option.getD_some] at h
  rcases mask_spec acc' _ _ i h with h4 | h4 | ⟨q, hq, h4⟩
  · simp at h4
  · exact .inl h4
  · refine .inr ⟨q, hq, ?_⟩
    rw [List.getD, h2 q (by rw [h1]; exact he q hq)]
    exact h4

/-- One more that is done. -/
def upD (D : Nat → Bool) (j : Nat) : Nat → Bool := fun i => if i = j then true else D i

theorem edges_mem {o : Oper} {q : Nat} : q ∈ edges o ↔ ∃ ed ∈ o.after.toList, Region.binds .any ed = true ∧ ed.on = q := by
  simp only [edges, List.mem_map, List.mem_filter]
  constructor
  · rintro ⟨ed, ⟨h1, h2⟩, h3⟩; exact ⟨ed, h1, h2, h3⟩
  · rintro ⟨ed, h1, h2, h3⟩; exact ⟨ed, ⟨h1, h2⟩, h3⟩

theorem ready_iff {ops : Array Oper} {listed : Array Bool} {i : Nat} : i ∈ Region.ready .any ops listed ↔
    i < ops.size ∧ listed.getD i true = false ∧ ∃ o, ops[i]? = some o ∧ ∀ q ∈ edges o, listed.getD q false = true := by
  unfold Region.ready
  simp only [List.mem_filter, List.mem_range, Bool.and_eq_true, Bool.not_eq_true']
  constructor
  · rintro ⟨h1, h2, h3⟩
    refine ⟨h1, h2, ?_⟩
    cases ho : ops[i]? with
    | none => simp [ho] at h3
    | some o =>
      refine ⟨o, rfl, fun q hq => ?_⟩
      simp only [ho, Option.map_some, Option.getD_some, Array.all_eq_true_iff_forall_mem] at h3
      obtain ⟨ed, he1, he2, rfl⟩ := edges_mem.1 hq
      have := h3 ed (by simpa using he1)
      simpa [he2] using this
  · rintro ⟨h1, h2, o, ho, h3⟩
    refine ⟨h1, h2, ?_⟩
    simp only [ho, Option.map_some, Option.getD_some, Array.all_eq_true_iff_forall_mem]
    intro ed hed
    cases hb : Region.binds .any ed with
    | false => rfl
    | true => simpa using h3 ed.on (edges_mem.2 ⟨ed, by simpa using hed, hb, rfl⟩)

/-- A region in whatever order, by what holds when some are done. -/
theorem wpAnyIn_inv {ops : Array Oper} {Q : Exit → Act → World → Prop} (Inv : (Nat → Bool) → Act → World → Prop)
    (hed : ∀ i o, ops[i]? = some o → ∀ q ∈ edges o, q < i)
    (hstep : ∀ D a w i o, Inv D a w → ops[i]? = some o → D i = false → (∀ q ∈ edges o, D q = true) → wpOpIn (FR ro) nn P ops Q i (fun a' w' => Inv (upD D i) a' w') a w)
    (hfin : ∀ D a w, Inv D a w → (∀ i, i < ops.size → D i = true) → Q .normal a w) :
    ∀ (fuel : Nat) (listed : Array Bool) (a : Act) (w : World), listed.size = ops.size → listed.toList.countP (fun b => !b) ≤ fuel → Inv (fun i => listed.getD i false) a w → wpAnyIn (FR ro) nn P .any ops Q fuel listed a w := by
  have done : ∀ (listed : Array Bool), listed.size = ops.size → Region.ready .any ops listed = [] → ∀ i, i < ops.size → listed.getD i false = true := by
    intro listed hsz hr i
    induction i using Nat.strongRecOn with
    | _ i ih =>
      intro hi
      cases hl : listed.getD i false with
      | true => rfl
      | false =>
        have hi' : i < listed.size := by omega
        have ho : ops[i]? = some ops[i] := Array.getElem?_eq_getElem hi
        have : i ∈ Region.ready .any ops listed := ready_iff.2 ⟨hi, by simp [hi'] at hl ⊢; exact hl, _, ho, fun q hq => ih q (hed i _ ho q hq) (Nat.lt_trans (hed i _ ho q hq) hi)⟩
        rw [hr] at this; cases this
  intro fuel
  induction fuel with
  | zero =>
    intro listed a w hsz hc hI
    have hall : ∀ i, i < ops.size → listed.getD i false = true := by
      intro i hi
      have hi' : i < listed.size := by omega
      have h0 : listed.toList.countP (fun b => !b) = 0 := by omega
      rw [List.countP_eq_zero] at h0
      have := h0 listed[i] (by simp)
      simp [hi']
      simpa using this
    refine ⟨?_, hfin _ a w hI hall⟩
    apply List.eq_nil_iff_forall_not_mem.2
    intro i hi
    obtain ⟨h1, h2, -⟩ := ready_iff.1 hi
    have h3 := hall i h1
    have hi' : i < listed.size := by omega
    simp [hi'] at h2 h3
    rw [h2] at h3; cases h3
  | succ fuel ih =>
    intro listed a w hsz hc hI
    refine ⟨fun hr => hfin _ a w hI (done listed hsz hr), fun i hi => ?_⟩
    obtain ⟨h1, h2, o, ho, h3⟩ := ready_iff.1 hi
    have hi' : i < listed.size := by omega
    have hfalse : listed[i] = false := by simpa [hi'] using h2
    refine wpOpIn_mono ?_ (hstep _ a w i o hI ho (by simp [hi', hfalse]) h3)
    intro a' w' hI'
    refine ih _ a' w' (by simpa using hsz) ?_ ?_
    · rw [Array.toList_setIfInBounds]
      rw [List.countP_set (by simpa using hi')]
      have : listed.toList[i]'(by simpa using hi') = false := by simpa using hfalse
      rw [this]
      simp only [Bool.not_false, ↓reduceIte, Bool.not_true, Bool.false_eq_true]
      omega
    · have : (fun k => (listed.setIfInBounds i true).getD k false) = upD (fun k => listed.getD k false) i := by
        funext k
        unfold upD
        by_cases hk : k = i
        · subst hk; simp [hi']
        · simp [hk, Ne.symm hk]
      rw [this]; exact hI'

/-- What stands in a slot when some are done. -/
def scan (dst : Nat → Option Nat) (V : Nat → Value) (D : Nat → Bool) (e : Env) : Nat → Nat → Value
  | 0, t => e.at t
  | k + 1, t => if D k = true ∧ dst k = some t then V k else scan dst V D e k t

theorem scan_eq {dst : Nat → Option Nat} {V : Nat → Value} {D : Nat → Bool} {e : Env} {t : Nat} : ∀ (k j : Nat), j ≤ k → (∀ i, i < k → dst i = some t → (D i = true ↔ i < j)) →
    scan dst V D e k t = scan dst V (fun _ => true) e j t
  | 0, j, hj, _ => by have : j = 0 := by omega
                      subst this; rfl
  | k + 1, j, hj, h => by
    by_cases hjk : j = k + 1
    · subst hjk
      simp only [scan, true_and]
      have ih := scan_eq (V := V) (e := e) k k (Nat.le_refl _) (fun i hi hd => ⟨fun _ => hi, fun _ => (h i (by omega) hd).2 (by omega)⟩)
      by_cases hd : dst k = some t
      · rw [if_pos ⟨(h k (by omega) hd).2 (by omega), hd⟩, if_pos hd]
      · rw [if_neg (fun hh => hd hh.2), if_neg hd, ih]
    · have ih := scan_eq (V := V) (e := e) k j (by omega) (fun i hi hd => h i (by omega) hd)
      simp only [scan]
      rw [if_neg, ih]
      rintro ⟨h1, h2⟩
      have := (h k (by omega) h2).1 h1
      omega

theorem scan_other {dst : Nat → Option Nat} {V : Nat → Value} {D : Nat → Bool} {e : Env} {t j : Nat} (hd : dst j ≠ some t) : ∀ k, scan dst V (upD D j) e k t = scan dst V D e k t
  | 0 => rfl
  | k + 1 => by
    simp only [scan, scan_other hd k]
    by_cases hk : k = j
    · subst hk
      rw [if_neg (fun h => hd h.2), if_neg (fun h => hd h.2)]
    · simp only [upD, if_neg hk]

theorem scan_mine {dst : Nat → Option Nat} {V : Nat → Value} {D : Nat → Bool} {e : Env} {t j : Nat} (hd : dst j = some t) : ∀ k, j < k → (∀ i, j < i → i < k → dst i = some t → D i = false) → scan dst V (upD D j) e k t = V j
  | 0, h, _ => by omega
  | k + 1, h, hl => by
    simp only [scan]
    by_cases hk : k = j
    · subst hk
      rw [if_pos ⟨by simp [upD], hd⟩]
    · rw [if_neg, scan_mine hd k (by omega) (fun i h1 h2 => hl i h1 (by omega))]
      rintro ⟨h1, h2⟩
      simp only [upD, if_neg hk] at h1
      rw [hl k (by omega) (by omega) h2] at h1
      cases h1

theorem put_at (e : Env) (d : Option Nat) (v : Value) (t : Nat) : (e.put d v).at t = if d = some t then v else e.at t := by
  cases d with
  | none => simp [Env.put]
  | some d =>
    simp only [Env.put, Env.at, Tr.get_set, Option.some.injEq]
    by_cases h : t = d
    · simp [h]
    · simp [h, Ne.symm h]
end Go.Am
