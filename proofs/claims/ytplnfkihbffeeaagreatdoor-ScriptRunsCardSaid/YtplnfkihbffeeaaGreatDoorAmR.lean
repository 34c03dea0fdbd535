/- Regions that draw their order: each operation keeps what holds. -/
import Derived.Test.YtplnfkihbffeeaaGreatDoorAmQ
namespace Go.Am
variable {P : Program} {G : Cfg} {nn : Nat} {ro : Option Nat} {m : Mu} {s : St} {w : World} {n : Nat} {e : Env} {o : Oper} {v : Value}

theorem opd_rel' {a : Act} {x : Operand} (h : opOk n G x = true) (r : Rel G m s w) (ht : ∀ t, x = .tmp t → VRel m (e.at t) (a.tmps.getD t undef)) : ORel m e a.eval x := by
  cases x with
  | tmp t => exact ht t rfl
  | const v => exact still_refl h
  | global g =>
    obtain ⟨l, h1, h2, h3⟩ := r.glob g (by simpa [opOk] using h)
    have := VRel.ptr (m := m) 0 h1
    rw [h2, h3] at this
    exact this
  | func f => exact .func _ .nil .nil

theorem guard_spec' {ops : Array Oper} {g' : Option (Nat × Bool)} {a : Act} (h : guardOf ops o.guard = some g') (hn : gOk n g' = true) (hsz : a.tmps.size = n)
    (ht : ∀ d wt, g' = some (d, wt) → VRel m (e.at d) (a.tmps.getD d undef)) : Region.wanted o (yielded ops a.tmps) = wants e g' := by
  unfold Region.wanted
  generalize o.guard = g at *
  cases g with
  | none => simp only [guardOf, Option.some.injEq] at h; subst h; rfl
  | some p =>
    obtain ⟨j, want⟩ := p
    simp only [guardOf, Option.bind_eq_bind, Option.bind_eq_some_iff, Option.some.injEq] at h
    obtain ⟨q, hq, d, hd, rfl⟩ := h
    simp only [gOk, Nat.blt_eq] at hn
    have hr := ht d want rfl
    have hlt : d < a.tmps.size := by rw [hsz]; exact hn
    have hy : yielded ops a.tmps j = match a.tmps.getD d undef with | .bool b => some b | _ => none := by
      simp only [yielded, hq, Option.bind_some, hd]
      rw [Array.getElem?_eq_getElem hlt, show a.tmps.getD d undef = a.tmps[d] from by simp [hlt]]
      generalize a.tmps[d] = q
      cases q <;> rfl
    simp only [hy, wants]
    generalize e.at d = x at hr
    generalize a.tmps.getD d undef = y at hr
    cases hr <;> simp

theorem load_keep {op : AOp} {id : Nat} {x : Blk} (h : loadOf e s op = some v) (hf : s.get id = none) : loadOf e (s.own id x) op = some v := by
  have key : ∀ b y, s.cel b = some y → (s.own id x).cel b = some y := by
    intro b y hy
    have hy0 := (St.cel_spec hy).1
    have e1 : (s.own id x).get b = s.get b := by
      rw [St.get_own, if_neg]
      rintro rfl; rw [hf] at hy0; cases hy0
    unfold St.cel at hy ⊢
    rw [e1]
    exact hy
  unfold loadOf at h ⊢
  split at h
  · split at h
    · split at h
      · rename_i hb; rw [key _ _ hb]; exact h
      · cases h
    · cases h
  · split at h
    · split at h
      · rename_i hb; rw [key _ _ hb]; exact h
      · cases h
    · cases h
  · cases h

namespace Cx
variable {call : CallF} {X : Cx P G n call} {m0 : Mu} {w0 : World} {D : Nat → Bool} {c : Nat} {μ : Mu} {a : Act}

theorem ah_lt : ∀ (i q : Nat), i < X.N → X.ah q i = true → q < i := by
  intro i
  induction i using Nat.strongRecOn with
  | _ i ih =>
    intro q hi h
    obtain ⟨o, ao, ho, -, -⟩ := X.at' hi
    rcases aheads_spec ho (X.edge i o ho) h with h1 | ⟨q', h1, h2⟩
    · exact X.edge i o ho q h1
    · have := X.edge i o ho q' h1
      have h3 := ih q' this q (by omega) h2
      omega

theorem Inv.ahD (I : X.Inv m0 w0 D c μ a w) {j : Nat} {o : Oper} (ho : X.ops[j]? = some o) (hed : ∀ q ∈ edges o, D q = true) {q : Nat} (h : X.ah q j = true) : D q = true := by
  have hj : j < X.N := (Array.getElem?_eq_some_iff.1 ho).1
  rcases aheads_spec ho (X.edge j o ho) h with h1 | ⟨q', h1, h2⟩
  · exact hed q h1
  · have hq' := X.edge j o ho q' h1
    exact I.closed q' (by omega) (hed q' h1) q h2

theorem dst_eq {i : Nat} {o : Oper} {ao : AOper} (hao : X.al[i]? = some ao) (ok : OperOk P n G X.ops o ao) : X.dst i = o.dst := by
  simp only [dst, hao, Option.bind_some, ok.dst]

theorem free_apart {ops : Array Oper} {x y : Oper} {p q : AOper} (h : freeOf ops x y p q = true) : Oper.apart ops x y = true := by
  unfold freeOf at h
  simp only [Bool.and_eq_true] at h
  exact h.1

theorem free_acts {ops : Array Oper} {x y : Oper} {p q : AOper} (h : freeOf ops x y p q = true) (hp : p.op.cls = .act) (hq : q.op.cls = .act) : False := by
  unfold freeOf at h
  simp only [Bool.and_eq_true, hp, hq] at h
  simp at h

/-- What an operation looks at stands there as it did in the text's order. -/
theorem Inv.slot (I : X.Inv m0 w0 D c μ a w) {j : Nat} {o : Oper} (ho : X.ops[j]? = some o) (hD : D j = false) (hed : ∀ q ∈ edges o, D q = true) {t : Nat} (ht : t ∈ o.looksAt X.ops) :
    (X.E j).at t = scan X.dst X.V D (X.E 0) X.N t := by
  have hj : j < X.N := (Array.getElem?_eq_some_iff.1 ho).1
  rw [X.E_at j (by omega)]
  refine (scan_eq X.N j (by omega) ?_).symm
  intro i hi hd
  obtain ⟨oi, ai, hoi, hai, oki⟩ := X.at' hi
  obtain ⟨oj, aj, hoj, haj, okj⟩ := X.at' hj
  rw [ho] at hoj; injection hoj with hoj; subst hoj
  rw [dst_eq hai oki] at hd
  rcases Nat.lt_trichotomy i j with hij | hij | hij
  · refine ⟨fun _ => hij, fun _ => ?_⟩
    rcases X.pairs i j oi o ai aj hij hoi ho hai haj with h1 | h1
    · exact I.ahD ho hed h1
    · exact absurd ht ((Oper.apart_spec (free_apart h1)).1 t hd)
  · subst hij
    simp [hD]
  · refine ⟨fun hDi => ?_, fun h => by omega⟩
    rcases X.pairs j i o oi aj ai hij ho hoi haj hai with h1 | h1
    · have := I.closed i hi hDi j h1
      rw [hD] at this; cases this
    · exact absurd ht ((Oper.apart_spec (free_apart h1)).2.2 t hd)

theorem Inv.later (I : X.Inv m0 w0 D c μ a w) {j : Nat} {o : Oper} (ho : X.ops[j]? = some o) (hD : D j = false) {t : Nat} (ht : X.dst j = some t) :
    ∀ i, j < i → i < X.N → X.dst i = some t → D i = false := by
  intro i hji hi hd
  have hj : j < X.N := (Array.getElem?_eq_some_iff.1 ho).1
  obtain ⟨oi, ai, hoi, hai, oki⟩ := X.at' hi
  obtain ⟨oj, aj, hoj, haj, okj⟩ := X.at' hj
  rw [ho] at hoj; injection hoj with hoj; subst hoj
  rw [dst_eq hai oki] at hd
  rw [dst_eq haj okj] at ht
  cases hDi : D i with
  | false => rfl
  | true =>
    rcases X.pairs j i o oi aj ai hji ho hoi haj hai with h1 | h1
    · have := I.closed i hi hDi j h1
      rw [hD] at this; cases this
    · exact absurd hd ((Oper.apart_spec (free_apart h1)).2.1 t ht)

theorem Inv.envUp (I : X.Inv m0 w0 D c μ a w) {μ' : Mu} (hle : μ.le μ') {j : Nat} {o : Oper} {ao : AOper} (ho : X.ops[j]? = some o) (hao : X.al[j]? = some ao) (ok : OperOk P n G X.ops o ao) (hD : D j = false) {v' : Value} (hv : ∀ t, X.dst j = some t → VRel μ' (X.V j) v') :
    ∀ t, VRel μ' (scan X.dst X.V (upD D j) (X.E 0) X.N t) ((a.put o.dst v').tmps.getD t undef) := by
  intro t
  have hj : j < X.N := (Array.getElem?_eq_some_iff.1 ho).1
  have hdj := dst_eq hao ok
  by_cases hd : X.dst j = some t
  · rw [scan_mine hd X.N hj (I.later ho hD hd)]
    have hv := hv t hd
    rw [hdj] at hd
    have hlt : t < a.tmps.size := by rw [I.size]; exact ok.dlt t hd
    have : (a.put o.dst v').tmps.getD t undef = v' := by
      rw [hd]; simp [Act.put, hlt]
    rw [this]; exact hv
  · rw [scan_other hd]
    have : (a.put o.dst v').tmps.getD t undef = a.tmps.getD t undef := by
      cases hod : o.dst with
      | none => rfl
      | some d =>
        have hne : d ≠ t := by rintro rfl; exact hd (by rw [hdj, hod])
        simp [Act.put, hne]
    rw [this]; exact (I.env t).mono hle

theorem Inv.closedUp (I : X.Inv m0 w0 D c μ a w) {j : Nat} {o : Oper} (ho : X.ops[j]? = some o) (hed : ∀ q ∈ edges o, D q = true) :
    ∀ i, i < X.N → upD D j i = true → ∀ q, X.ah q i = true → upD D j q = true := by
  intro i hi hDi q hq
  unfold upD at hDi ⊢
  by_cases hqj : q = j
  · rw [if_pos hqj]
  · rw [if_neg hqj]
    by_cases hij : i = j
    · subst hij; exact I.ahD ho hed hq
    · rw [if_neg hij] at hDi
      exact I.closed i hi hDi q hq

theorem put_size (a : Act) (d : Option Nat) (v : Value) : (a.put d v).tmps.size = a.tmps.size := by cases d <;> simp [Act.put]

theorem upD_false {D : Nat → Bool} {i j : Nat} (h : upD D j i = false) : i ≠ j ∧ D i = false := by
  unfold upD at h
  split at h
  · cases h
  · exact ⟨by assumption, h⟩

/-- A load gives what it gave. -/
theorem Inv.load (I : X.Inv m0 w0 D c μ a w) (hc : c = X.N ∨ ∃ ac, X.al[c]? = some ac ∧ ac.op.cls = .act) {j : Nat} {o : Oper} {ao : AOper} (ho : X.ops[j]? = some o) (hao : X.al[j]? = some ao)
    (hD : D j = false) (hed : ∀ q ∈ edges o, D q = true) (hw : wants (X.E j) ao.guard = true) (hcl : ao.op.cls = .load) : loadOf (X.E j) (X.S c) ao.op = some (X.V j) := by
  have hj : j < X.N := (Array.getElem?_eq_some_iff.1 ho).1
  have base : loadOf (X.E j) (X.S j) ao.op = some (X.V j) := by
    have hs := X.step j ao hao
    simp only [stepV, hw, cond_true, evOp, hcl] at hs
    cases hp : loadOf (X.E j) (X.S j) ao.op with
    | none => simp [hp] at hs
    | some v => simp only [hp, Option.map_some, Option.some.injEq, Prod.mk.injEq] at hs; rw [hs.1]
  by_cases hcj : c ≤ j
  · rcases hc with hc | ⟨ac, hac, hact⟩
    · omega
    · have hDc : D c = false := by
        cases h : D c with
        | false => rfl
        | true => have := (I.acts c ac hac hact).1 h; omega
      have hne : c ≠ j := by rintro rfl; rw [hao] at hac; injection hac with hac; subst hac; rw [hcl] at hact; cases hact
      have h1 : X.ah c j = false := by
        cases h : X.ah c j with
        | false => rfl
        | true => have := I.ahD ho hed h; rw [hDc] at this; cases this
      have h2 : X.ah j c = false := by
        cases h : X.ah j c with
        | false => rfl
        | true => have := ah_lt c j (by omega) h; omega
      exact (X.calm j ao hao hw hcl c ac hac hact hne h1 h2).1
  · have key : ∀ k, j + k ≤ c → loadOf (X.E j) (X.S (j + k)) ao.op = some (X.V j) := by
      intro k
      induction k with
      | zero => intro _; exact base
      | succ k ih =>
        intro hk
        have ih' := ih (by omega)
        have hlt : j + k < X.N := by have := I.cle; omega
        obtain ⟨oi, ai, hoi, hai, -⟩ := X.at' hlt
        rw [show j + (k + 1) = j + k + 1 by omega]
        by_cases hact : ai.op.cls = .act
        · have hne : j + k ≠ j := by
            intro h; rw [h, hao] at hai; injection hai with hai; subst hai; rw [hcl] at hact; cases hact
          have hDi := (I.acts (j + k) ai hai hact).2 (by omega)
          have h1 : X.ah (j + k) j = false := by
            cases h : X.ah (j + k) j with
            | false => rfl
            | true => have := ah_lt j (j + k) hj h; omega
          have h2 : X.ah j (j + k) = false := by
            cases h : X.ah j (j + k) with
            | false => rfl
            | true => have := I.closed (j + k) hlt hDi j h; rw [hD] at this; cases this
          exact (X.calm j ao hao hw hcl (j + k) ai hai hact hne h1 h2).2
        · by_cases hmk : ∃ x, X.Makes (j + k) x
          · obtain ⟨x, hx⟩ := hmk
            rw [hx.next]
            exact load_keep ih' (X.fresh _ (by omega) _ (Nat.le_refl _) hlt)
          · rw [X.quiet_next hai (.inl hact) (fun x hx => hmk ⟨x, hx⟩)]
            exact ih'
    have := key (c - j) (by omega)
    rwa [show j + (c - j) = c by omega] at this

/-- One more is done. -/
theorem Inv.exec (I0 : X.Inv m0 w0 D c μ a w) {j : Nat} {o : Oper} (ho : X.ops[j]? = some o) (hD : D j = false) (hed : ∀ q ∈ edges o, D q = true) {Q : Exit → Act → World → Prop} :
    wpOpIn (FR ro) nn P X.ops Q j (fun a' w' => ∃ c' μ', X.Inv m0 w0 (upD D j) c' μ' a' w') a w := by
  obtain ⟨c, -, I, hc⟩ := Inv.moves (X.N - c) c rfl I0
  clear I0
  have hj : j < X.N := (Array.getElem?_eq_some_iff.1 ho).1
  obtain ⟨o', ao, ho', hao, ok⟩ := X.at' hj
  rw [ho] at ho'; injection ho' with ho'; subst ho'
  have hsl : ∀ t, t ∈ o.looksAt X.ops → VRel μ ((X.E j).at t) (a.tmps.getD t undef) := by
    intro t ht; rw [I.slot ho hD hed ht]; exact I.env t
  have hor : ∀ x ∈ o.op.operands.toList, ORel μ (X.E j) a.eval x := by
    intro x hx
    refine opd_rel' (ok.ands x hx) I.rel fun t ht => hsl t ?_
    subst ht
    unfold Oper.looksAt
    refine List.mem_append.2 (.inl ?_)
    exact List.mem_filterMap.2 ⟨.tmp t, hx, rfl⟩
  have hwt : Region.wanted o (yielded X.ops a.tmps) = wants (X.E j) ao.guard := by
    refine guard_spec' ok.guard ok.glt I.size fun d wt hg => hsl d ?_
    have hg' := ok.guard
    rw [hg] at hg'
    unfold Oper.looksAt
    refine List.mem_append.2 (.inr ?_)
    cases hog : o.guard with
    | none => rw [hog] at hg'; simp [guardOf] at hg'
    | some p =>
      obtain ⟨q, wq⟩ := p
      rw [hog] at hg'
      simp only [guardOf, Option.bind_eq_bind, Option.bind_eq_some_iff, Option.some.injEq, Prod.mk.injEq] at hg'
      obtain ⟨oq, hoq, d', hd', h1, h2⟩ := hg'
      simp [hoq, hd', h1]
  have hmid := I.nope j hj hD
  have goal : ∀ K : Act → World → Prop, (if Region.wanted o (yielded X.ops a.tmps) then o.wpIn (FR ro) nn P a w K Q else (∀ f, o.about P w a.eval = some f → (FR ro).fn f) ∧ K (a.put o.dst undef) w) → wpOpIn (FR ro) nn P X.ops Q j K a w := by
    intro K h
    unfold wpOpIn
    rw [ho]
    simp only
    split
    · rename_i h1; rw [if_pos h1] at h; exact h
    · rename_i h1; rw [if_neg h1] at h; exact h
  have hstep := X.step j ao hao
  -- where the world stays
  have quiet : ∀ v', VRel μ (X.V j) v' → (ao.op.cls = .act → j = c ∧ X.S (c + 1) = X.S c) → (∀ x, ¬ X.Makes j x) → ∃ c' μ', X.Inv m0 w0 (upD D j) c' μ' (a.put o.dst v') w := by
    intro v' hv hact hnm
    have henv := I.envUp (fun _ _ h => h) ho hao ok hD (fun _ _ => hv)
    have hcl := I.closedUp ho hed
    by_cases hca : ao.op.cls = .act
    · obtain ⟨rfl, hS⟩ := hact hca
      refine ⟨j + 1, μ, by omega, ?_, by rw [hS]; exact I.rel, by rw [hS]; exact I.ext, by rw [put_size]; exact I.size, by rw [put_defers]; exact I.defers, henv, ?_, ?_, ?_, hcl, I.m0none⟩
      · intro i ai hai hai2
        unfold upD
        by_cases hij : i = j
        · simp [hij]
        · rw [if_neg hij, I.acts i ai hai hai2]; omega
      · intro i hi hDi
        exact I.nope i hi (upD_false hDi).2
      · intro i x hi hDi hx
        obtain ⟨h1, h2⟩ := upD_false hDi
        rw [hS]; exact I.ghost i x (by omega) h2 hx
      · intro i x hi hDi hx
        have hij : i ≠ j := by omega
        simp only [upD, if_neg hij] at hDi
        obtain ⟨l1, q1, q2, q3, q4⟩ := I.pend i x (by omega) hDi hx
        refine ⟨l1, q1, q2, by rw [hS]; exact q3, fun i' x' l' hi' hDi' => q4 i' x' l' (by omega) ?_⟩
        simpa only [upD, if_neg (show i' ≠ j by omega)] using hDi'
    · refine ⟨c, μ, I.cle, ?_, I.rel, I.ext, by rw [put_size]; exact I.size, by rw [put_defers]; exact I.defers, henv, ?_, ?_, ?_, hcl, I.m0none⟩
      · intro i ai hai hai2
        have hij : i ≠ j := by rintro rfl; rw [hao] at hai; injection hai with hai; subst hai; exact hca hai2
        simp only [upD, if_neg hij]
        exact I.acts i ai hai hai2
      · intro i hi hDi
        exact I.nope i hi (upD_false hDi).2
      · intro i x hi hDi hx
        exact I.ghost i x hi (upD_false hDi).2 hx
      · intro i x hi hDi hx
        have hij : i ≠ j := by rintro rfl; exact hnm x hx
        simp only [upD, if_neg hij] at hDi
        obtain ⟨l1, q1, q2, q3, q4⟩ := I.pend i x hi hDi hx
        refine ⟨l1, q1, q2, q3, fun i' x' l' hi' hDi' hx' => q4 i' x' l' hi' ?_ hx'⟩
        have hij' : i' ≠ j := by rintro rfl; exact hnm x' hx'
        simpa only [upD, if_neg hij'] using hDi'
  -- what acts is next
  have actc : ao.op.cls = .act → j = c := by
    intro hca
    have h1 : c ≤ j := by
      have := I.acts j ao hao hca
      rw [hD] at this
      have : ¬ j < c := fun h => by have := this.2 h; cases this
      omega
    rcases hc with hc | ⟨ac, hac, hact⟩
    · omega
    · by_cases hcj : c = j
      · exact hcj.symm
      · exfalso
        have hDc : D c = false := by
          cases h : D c with
          | false => rfl
          | true => have := (I.acts c ac hac hact).1 h; omega
        obtain ⟨oc, ac', hoc, hac', -⟩ := X.at' (i := c) (by omega)
        rw [hac] at hac'; injection hac' with hac'; subst hac'
        rcases X.pairs c j oc o ac ao (by omega) hoc ho hac hao with h2 | h2
        · have := I.ahD ho hed h2; rw [hDc] at this; cases this
        · exact free_acts h2 hact hca
  refine goal _ ?_
  cases hw : wants (X.E j) ao.guard with
  | false =>
    rw [if_neg (by rw [hwt, hw]; simp)]
    have hV : X.V j = undef := by
      simp only [stepV, hw, cond_false, Option.some.injEq, Prod.mk.injEq] at hstep
      exact hstep.1.symm
    have hS : X.S (j + 1) = X.S j := by
      simp only [stepV, hw, cond_false, Option.some.injEq, Prod.mk.injEq] at hstep
      exact hstep.2.symm
    refine ⟨fun _ _ => trivial, quiet undef (by rw [hV]; exact VRel.undef) (fun h => ?_) (fun x hx => ?_)⟩
    · have := actc h; subst this; exact ⟨rfl, hS⟩
    · obtain ⟨ao', h1, h2, -⟩ := hx
      rw [hao] at h1; injection h1 with h1; subst h1
      rw [hw] at h2; cases h2
  | true =>
    rw [if_pos (by rw [hwt, hw])]
    refine ⟨fun _ _ => trivial, ?_⟩
    have hbad : ao.op ≠ .xp .bad := by
      intro hb
      simp [stepV, hw, evOp, hb, AOp.cls, pureOf, pureX] at hstep
    rw [Oper.semAt_plain (FR ro) a.eval o (no_defer ok.op hbad)]
    have nomk : ao.op.cls ≠ .alloc → ∀ x, ¬ X.Makes j x := by
      rintro hna x ⟨ao', h1, -, h3, -⟩
      rw [hao] at h1; injection h1 with h1; subst h1
      exact hna h3
    cases hcl : ao.op.cls with
    | pure =>
      simp only [stepV, hw, cond_true, evOp, hcl] at hstep
      cases hp : pureOf P (X.E j) ao.op with
      | none => simp [hp] at hstep
      | some v =>
        simp only [hp, Option.map_some, Option.some.injEq, Prod.mk.injEq] at hstep
        obtain ⟨v', hv, hrun⟩ := pure_sound ok.op hcl (act_func a) hor hp
        rw [hrun w, Oper.uponIn_value]
        exact quiet v' (by rw [← hstep.1]; exact hv) (fun h => by rw [hcl] at h; cases h) (nomk (by rw [hcl]; simp))
    | load =>
      have hl := I.load hc ho hao hD hed hw hcl
      obtain ⟨v', hv, hrun⟩ := load_sound ok.op hcl hor hl I.rel
      rw [hrun, Oper.uponIn_value]
      exact quiet v' hv (fun h => by rw [hcl] at h; cases h) (nomk (by rw [hcl]; simp))
    | alloc =>
      simp only [stepV, hw, cond_true, evOp, hcl] at hstep
      cases hp : allocOf (X.E j) (X.base + j) ao.op with
      | none => simp [hp] at hstep
      | some p =>
        obtain ⟨v, x⟩ := p
        simp only [hp, Option.map_some, Option.some.injEq, Prod.mk.injEq] at hstep
        obtain ⟨hv, hS⟩ := hstep
        have hmk : X.Makes j x := ⟨ao, hao, hw, hcl, by rw [hp, hv]⟩
        obtain ⟨cl, t, f, hvr, hwr, hnew, hrun⟩ := alloc_sound ok.op hcl hor hp
        rw [hrun w, Oper.uponIn_value]
        have hnext : X.base + j < (X.S c).next := by have := X.nxt c I.cle; omega
        have hxg : ∀ y, (X.S c).get (X.base + j) = some y → y = x := by
          intro y hy
          by_cases hjc : j < c
          · rw [I.ghost j x hjc hD hmk] at hy; injection hy with hy; exact hy.symm
          · rw [X.fresh c I.cle j (by omega) hj] at hy; cases hy
        have hrel := I.rel.mat hmid hnext hxg t hvr hwr.2
        have hle : μ.le (μ.up (X.base + j) ⟨w.heap.size, 0, cl.length⟩) := Mu.le_up _ hmid
        have hup : (μ.up (X.base + j) ⟨w.heap.size, 0, cl.length⟩) (X.base + j) = some ⟨w.heap.size, 0, cl.length⟩ := by simp [Mu.up]
        have hne : ∀ i, i ≠ j → (μ.up (X.base + j) ⟨w.heap.size, 0, cl.length⟩) (X.base + i) = μ (X.base + i) := by
          intro i hi; simp only [Mu.up]; rw [if_neg (by omega)]
        refine ⟨c, _, I.cle, ?_, hrel, I.ext.trans (Ext.mat (by omega) hmid _ _ _ _), by rw [put_size]; exact I.size, by rw [put_defers]; exact I.defers,
          I.envUp hle ho hao ok hD (fun _ _ => by rw [← hv]; exact hnew _ _ hup), ?_, ?_, ?_, I.closedUp ho hed, I.m0none⟩
        · intro i ai hai hai2
          have hij : i ≠ j := by rintro rfl; rw [hao] at hai; injection hai with hai; subst hai; rw [hcl] at hai2; cases hai2
          simp only [upD, if_neg hij]
          exact I.acts i ai hai hai2
        · intro i hi hDi
          obtain ⟨h1, h2⟩ := upD_false hDi
          rw [hne i h1]; exact I.nope i hi h2
        · intro i y hi hDi hy
          exact I.ghost i y hi (upD_false hDi).2 hy
        · -- the old ones
          have old : ∀ i y, c ≤ i → i ≠ j → upD D j i = true → X.Makes i y → ∃ l, μ (X.base + i) = some l ∧ l.blk < w.heap.size ∧ BRel (μ.up (X.base + j) ⟨w.heap.size, 0, cl.length⟩) y l (w.alloc (.cells ⟨cl⟩ t)) ∧
              (∀ b z l', (X.S c).get b = some z → (μ.up (X.base + j) ⟨w.heap.size, 0, cl.length⟩) b = some l' → l'.blk ≠ l.blk) := by
            intro i y hi hij hDi hy
            simp only [upD, if_neg hij] at hDi
            obtain ⟨l1, q1, q2, q3, q4⟩ := I.pend i y hi hDi hy
            have hlt := (I.rel.dom _ _ q1).2
            refine ⟨l1, q1, hlt, q2.mono hle (heap_alloc_lt hlt), ?_⟩
            intro b z l' hz hl'
            by_cases hb : b = X.base + j
            · subst hb; rw [hup] at hl'; injection hl' with hl'; subst hl'; simp only; omega
            · simp only [Mu.up, if_neg hb] at hl'
              exact q3 b z l' hz hl'
          intro i y hi hDi hy
          by_cases hij : i = j
          · subst hij
            have hyx : y = x := makes_uniq hy hmk
            subst hyx
            refine ⟨_, hup, ⟨fun b' p' e1 => (by rw [hwr.2] at e1; cases e1), fun _ => ⟨⟨cl⟩, t, (0, 0), heap_alloc_at, rfl, fun _ => rfl, by simp [hvr.length], ?_, by rw [hwr.2]; rfl, fun _ => ⟨rfl, hvr.length.symm⟩⟩⟩, ?_, ?_⟩
            · simp only [List.drop_zero]
              rw [hvr.length, List.take_length]
              exact hvr.mono hle
            · intro b z l' hz hl'
              by_cases hb : b = X.base + i
              · subst hb
                rw [X.fresh c I.cle i hi hj] at hz; cases hz
              · simp only [Mu.up, if_neg hb] at hl'
                have := (I.rel.dom _ _ hl').2
                simp only; omega
            · intro i' x' l' hi' hDi' hx' hne' hl'
              obtain ⟨l1, q1, q2, -, -⟩ := old i' x' hi' hne' hDi' hx'
              rw [hne i' hne', q1] at hl'; injection hl' with hl'; subst hl'
              simp only; omega
          · obtain ⟨l1, q1, q2, q3, q4⟩ := old i y hi hij hDi hy
            refine ⟨l1, by rw [hne i hij]; exact q1, q3, q4, ?_⟩
            intro i' x' l' hi' hDi' hx' hne' hl'
            by_cases hij' : i' = j
            · subst hij'
              rw [hup] at hl'; injection hl' with hl'; subst hl'
              simp only; omega
            · rw [hne i' hij'] at hl'
              simp only [upD, if_neg hij] at hDi
              simp only [upD, if_neg hij'] at hDi'
              obtain ⟨l2, p1, -, -, p4⟩ := I.pend i y hi hDi hy
              rw [q1] at p1; injection p1 with p1; subst p1
              exact p4 i' x' l' hi' hDi' hx' hne' hl'
    | act =>
      have hjc := actc hcl
      subst hjc
      have hst : Am.step P call ao (X.base + j) (X.E j) (X.S j) = some ((X.E j).put ao.dst (X.V j), X.S (j + 1)) := by rw [step_eq, hstep]; rfl
      have hnext := X.nxt j I.cle
      have core := step_core (ro := ro) (nn := nn) (B := fun b => Old (X.S j) b ∧ b ≠ X.base + j) X.hcall ok hst I.rel hor hwt (fun h => h.2 rfl) (fun b h => h.1) hmid
        (K := fun a' w' => ∃ c' μ', X.Inv m0 w0 (upD D j) c' μ' a' w') (Q := Q) ?_
      · rw [if_pos (by rw [hwt, hw])] at core
        have core2 := core.2
        rw [Oper.semAt_plain (FR ro) a.eval o (no_defer ok.op hbad)] at core2
        exact core2
      · intro μ' v v' w' hput hv hrel hext
        have hVv : ∀ t, X.dst j = some t → VRel μ' (X.V j) v' := by
          intro t hd
          rw [dst_eq hao ok, ok.dst] at hd
          have h1 := congrArg (fun e => Env.at e t) hput
          simp only [put_at, hd, if_true] at h1
          rw [h1]; exact hv
        have hkeep : ∀ i, i < X.N → i ≠ j → μ (X.base + i) = none → μ' (X.base + i) = none ∧ (X.S (j + 1)).get (X.base + i) = (X.S j).get (X.base + i) :=
          fun i hi hij hn => hext.ghost _ ⟨by unfold Old; omega, by omega⟩ hn
        refine ⟨j + 1, μ', by omega, ?_, hrel, I.ext.trans (hext.weaken fun b hb => ⟨by unfold Old; omega, by omega⟩), by rw [put_size]; exact I.size, by rw [put_defers]; exact I.defers,
          I.envUp hext.le ho hao ok hD hVv, ?_, ?_, ?_, I.closedUp ho hed, I.m0none⟩
        · intro i ai hai hai2
          unfold upD
          by_cases hij : i = j
          · simp [hij]
          · rw [if_neg hij, I.acts i ai hai hai2]; omega
        · intro i hi hDi
          obtain ⟨h1, h2⟩ := upD_false hDi
          exact (hkeep i hi h1 (I.nope i hi h2)).1
        · intro i y hi hDi hy
          obtain ⟨h1, h2⟩ := upD_false hDi
          have hiN : i < X.N := by omega
          rw [(hkeep i hiN h1 (I.nope i hiN h2)).2]
          exact I.ghost i y (by omega) h2 hy
        · intro i y hi hDi hy
          have hij : i ≠ j := by omega
          simp only [upD, if_neg hij] at hDi
          obtain ⟨l1, q1, q2, q3, q4⟩ := I.pend i y (by omega) hDi hy
          have hlt := (I.rel.dom _ _ q1).2
          have hno : ¬ Owns μ (X.S j) l1.blk := by
            rintro ⟨b, z, l', h1, h2, h3, -⟩
            exact q3 b z l' h1 h2 h3
          refine ⟨l1, hext.le _ _ q1, q2.mono hext.le (hext.keep _ hlt hno), ?_, ?_⟩
          · intro b z l' hz hl'
            cases hb : μ b with
            | some l2 =>
              have h2 := hext.le _ _ hb
              rw [hl'] at h2; injection h2 with h2; subst h2
              obtain ⟨z', hz', -⟩ := hext.dead b l' z hb hz
              exact q3 b z' l' hz' hb
            | none =>
              rcases hext.new b l' hb hl' with h1 | h1
              · omega
              · intro he; rw [he] at h1; exact hno h1
          · intro i' x' l' hi' hDi' hx' hne' hl'
            have hij' : i' ≠ j := by omega
            simp only [upD, if_neg hij'] at hDi'
            obtain ⟨l2, p1, -, -, -⟩ := I.pend i' x' (by omega) hDi' hx'
            have h2 := hext.le _ _ p1
            rw [hl'] at h2; injection h2 with h2; subst h2
            exact q4 i' x' l' (by omega) hDi' hx' hne' p1

/-- In the end all is as our run has it. -/
theorem Inv.fin (I : X.Inv m0 w0 D c μ a w) (hall : ∀ i, i < X.N → D i = true) :
    Rel G μ (X.S X.N) w ∧ Ext (· < X.base) m0 (X.S 0) w0 μ (X.S X.N) w ∧ a.defers = X.ds ∧ ERel μ n (X.E X.N) a.tmps := by
  obtain ⟨c, -, I, hc⟩ := Inv.moves (X.N - c) c rfl I
  have hcN : c = X.N := by
    rcases hc with hc | ⟨ac, hac, hact⟩
    · exact hc
    · have hlt := X.lt_of_al hac
      have := (I.acts c ac hac hact).1 (hall c hlt)
      omega
  subst hcN
  refine ⟨I.rel, I.ext, I.defers, I.size, fun t => ?_⟩
  rw [X.E_at X.N (Nat.le_refl _)]
  rw [← scan_eq (D := D) X.N X.N (Nat.le_refl _) (fun i hi _ => by simp [hall i hi, hi])]
  exact I.env t
end Cx

theorem compOps_at {ops : Array Oper} : ∀ {l : List Oper} {al : List AOper}, compOps P n G ops l = some al → al.length = l.length ∧ ∀ (i : Nat) (o : Oper), l[i]? = some o → ∃ ao : AOper, al[i]? = some ao ∧ compOper P n G ops o = some ao
  | [], al, h => by
    simp only [compOps, Option.some.injEq] at h; subst h
    exact ⟨rfl, fun i o h => by simp at h⟩
  | o :: l, al, h => by
    simp only [compOps, Option.bind_eq_bind, Option.bind_eq_some_iff, Option.some.injEq] at h
    obtain ⟨ao, hao, al', hal, rfl⟩ := h
    obtain ⟨h1, h2⟩ := compOps_at hal
    refine ⟨by simp [h1], fun i q hq => ?_⟩
    cases i with
    | zero => simp only [List.getElem?_cons_zero, Option.some.injEq] at hq; subst hq; exact ⟨ao, rfl, hao⟩
    | succ i => exact h2 i q (by simpa using hq)

theorem trace_at {call : CallF} {base : Nat} : ∀ {l : List AOper} {k : Nat} {e : Env} {s : St} {tr : List (Env × St)}, trace P call base k l e s = some tr →
    tr[0]? = some (e, s) ∧ tr.length = l.length + 1 ∧ lastS tr = tr[l.length]? ∧
    ∀ (i : Nat) (ao : AOper), l[i]? = some ao → ∃ (e1 : Env) (s1 : St) (e2 : Env) (s2 : St), tr[i]? = some (e1, s1) ∧ tr[i + 1]? = some (e2, s2) ∧ step P call ao (base + (k + i)) e1 s1 = some (e2, s2)
  | [], k, e, s, tr, h => by
    simp only [trace, Option.some.injEq] at h; subst h
    exact ⟨rfl, rfl, rfl, fun i ao h => by simp at h⟩
  | o :: l, k, e, s, tr, h => by
    simp only [trace] at h
    split at h
    · rename_i e' s' hst
      simp only [Option.map_eq_some_iff] at h
      obtain ⟨tr', htr, rfl⟩ := h
      obtain ⟨h1, h2, h3, h4⟩ := trace_at htr
      refine ⟨rfl, by simp [h2], ?_, ?_⟩
      · cases tr' with
        | nil => simp at h1
        | cons x r => rw [lastS_cons, h3]; rfl
      · intro i ao hi
        cases i with
        | zero =>
          simp only [List.getElem?_cons_zero, Option.some.injEq] at hi; subst hi
          exact ⟨e, s, e', s', rfl, by simpa using h1, by simpa using hst⟩
        | succ i =>
          obtain ⟨e1, s1, e2, s2, q1, q2, q3⟩ := h4 i ao (by simpa using hi)
          exact ⟨e1, s1, e2, s2, by simpa using q1, by simpa using q2, by rw [show k + (i + 1) = k + 1 + i by omega]; exact q3⟩
    · cases h

theorem calmAll_at {tr : List (Env × St)} : ∀ {l : List AOper} {k : Nat} {un : List (List Nat)}, calmAll tr k l un = true → ∀ (i : Nat) (ao : AOper), l[i]? = some ao → calm tr ao (k + i) (un.getD i []) = true
  | [], _, _, _, i, ao, h => by simp at h
  | o :: l, k, un, hc, i, ao, h => by
    simp only [calmAll, Bool.and_eq_true] at hc
    cases i with
    | zero =>
      simp only [List.getElem?_cons_zero, Option.some.injEq] at h; subst h
      cases un with
      | nil => simpa using hc.1
      | cons u r => simpa using hc.1
    | succ i =>
      have := calmAll_at hc.2 i ao (by simpa using h)
      rw [show k + (i + 1) = k + 1 + i by omega]
      cases un with
      | nil => simpa using this
      | cons u r => simpa using this

theorem isAct_of {al : List AOper} {q : Nat} {aq : AOper} (h : al[q]? = some aq) (ha : aq.op.cls = .act) : isAct al[q]? = true := by
  simp only [isAct, h, ha]

set_option maxHeartbeats 400000 in
theorem draw_ok {call : CallF} (hcall : CallOk P G call) (hmix : P.follows .mixedOrders = true) (n : Nat) : DrawOk P G n call ro nn := by
  intro id ops al un e e' s s' m w a Q n0 hc h r he hd hQ
  simp only [compC, Option.bind_eq_bind, Option.bind_eq_some_iff] at hc
  obtain ⟨al', hal, hc⟩ := hc
  split at hc
  case isFalse => cases hc
  rename_i hcond
  simp only [Option.some.injEq, ACode.draw.injEq] at hc
  obtain ⟨rfl, rfl⟩ := hc
  simp only [Bool.and_eq_true] at hcond
  obtain ⟨hedge, hpairs⟩ := hcond
  obtain ⟨hlen, hat⟩ := compOps_at hal
  have hlen' : al'.length = ops.size := by simpa using hlen
  unfold evDraw at h
  split at h
  case h_2 => cases h
  rename_i tr htr
  cases hcalm : calmAll tr 0 al' (unOf ops (aheads ops.toList []) al') with
  | false => simp [hcalm] at h
  | true =>
  simp only [hcalm, cond_true] at h
  obtain ⟨ht0, htl, htlast, htat⟩ := trace_at htr
  rw [h] at htlast
  -- the states and values of our run
  let Es : Nat → Env := fun i => ((tr[i]?).map (·.1)).getD .nil
  let Ss : Nat → St := fun i => ((tr[i]?).map (·.2)).getD s
  let Vs : Nat → Value := fun i => match al'[i]? with
    | some ao => match stepV P call ao (s.next + i) (Es i) (Ss i) with
      | some p => p.1
      | none => undef
    | none => undef
  have hstep : ∀ (i : Nat) (ao : AOper), al'[i]? = some ao → stepV P call ao (s.next + i) (Es i) (Ss i) = some (Vs i, Ss (i + 1)) ∧ Es (i + 1) = (Es i).put ao.dst (Vs i) := by
    intro i ao hao
    obtain ⟨e1, s1, e2, s2, q1, q2, q3⟩ := htat i ao hao
    have hE : Es i = e1 := by simp only [Es, q1]; rfl
    have hS : Ss i = s1 := by simp only [Ss, q1]; rfl
    have hE2 : Es (i + 1) = e2 := by simp only [Es, q2]; rfl
    have hS2 : Ss (i + 1) = s2 := by simp only [Ss, q2]; rfl
    rw [Nat.zero_add, step_eq] at q3
    simp only [Option.map_eq_some_iff, Prod.mk.injEq] at q3
    obtain ⟨p, hp, h1, h2⟩ := q3
    have hV : Vs i = p.1 := by simp only [Vs, hao, hE, hS, hp]
    rw [hE, hS, hE2, hS2, hV, hp]
    exact ⟨by rw [← h2], h1.symm⟩
  have hE0 : Es 0 = e := by simp only [Es, ht0]; rfl
  have hS0 : Ss 0 = { s with next := s.next + al'.length } := by simp only [Ss, ht0]; rfl
  have hEN : Es ops.size = e' := by rw [← hlen']; simp only [Es, ← htlast]; rfl
  have hSN : Ss ops.size = s' := by rw [← hlen']; simp only [Ss, ← htlast]; rfl
  let X : Cx P G n call :=
    { ops := ops, al := al', base := s.next, E := Es, S := Ss, V := Vs, ds := a.defers, hcall := hcall
      ok := fun i o ho => by
        obtain ⟨ao, h1, h2⟩ := hat i o (by simpa using ho)
        exact ⟨ao, h1, compOper_ok h2⟩
      len := hlen'
      step := fun i ao hao => (hstep i ao hao).1
      put := fun i ao hao => (hstep i ao hao).2
      edge := fun i o ho q hq => by
        have h1 := List.all_eq_true.1 hedge (o, i) (by
          rw [List.mem_zipIdx_iff_getElem?]; simpa using ho)
        have h2 := List.all_eq_true.1 h1 q hq
        simpa using h2
      pairs := fun i j a b x y hij ha hb hx hy => by
        have hj : j < ops.size := (Array.getElem?_eq_some_iff.1 hb).1
        unfold pairsOk at hpairs
        have h1 := List.all_eq_true.1 hpairs j (by simpa using hj)
        have h2 := List.all_eq_true.1 h1 i (by simpa using hij)
        simp only [ha, hb, hx, hy, Bool.or_eq_true] at h2
        exact h2
      calm := fun i ao hao hw hcl q aq haq hact hne h1 h2 => by
        have hc := calmAll_at hcalm i ao hao
        have hi : i < ops.size := by have := (List.getElem?_eq_some_iff.1 hao).1; omega
        have hq : q < ops.size := by have := (List.getElem?_eq_some_iff.1 haq).1; omega
        have hmem : q ∈ (unOf ops (aheads ops.toList []) al').getD i [] := by
          unfold unOf
          rw [List.getD, List.getElem?_map, List.getElem?_range hi]
          simp only [Option.map_some, Option.getD_some, List.mem_filter, List.mem_range]
          refine ⟨hq, ?_⟩
          have h3 := isAct_of haq hact
          rw [h3, h1, h2, Tr.beqN (fun h => hne h.symm)]
          rfl
        rw [Nat.zero_add] at hc
        obtain ⟨e1, s1, e2, s2, q1, q2, q3⟩ := htat i ao hao
        obtain ⟨e3, s3, e4, s4, p1, p2, p3⟩ := htat q aq haq
        have hEi : Es i = e1 := by simp only [Es, q1]; rfl
        have hSi : Ss i = s1 := by simp only [Ss, q1]; rfl
        have hSq : Ss q = s3 := by simp only [Ss, p1]; rfl
        have hSq2 : Ss (q + 1) = s4 := by simp only [Ss, p2]; rfl
        have hst := (hstep i ao hao).1
        simp only [stepV, hw, cond_true, evOp, hcl] at hst
        cases hp : loadOf (Es i) (Ss i) ao.op with
        | none => simp [hp] at hst
        | some v =>
        simp only [hp, Option.map_some, Option.some.injEq, Prod.mk.injEq] at hst
        unfold calm at hc
        split at hc
        · rename_i hun; rw [hun] at hmem; cases hmem
        simp only [nthS, q1] at hc
        rw [← hEi] at hc
        simp only [hw, cond_true, hcl] at hc
        rw [← hSi, hp] at hc
        simp only at hc
        have hcq := List.all_eq_true.1 hc q hmem
        simp only [p1, p2] at hcq
        rw [hSq, hSq2]
        cases l1 : loadOf (Es i) s3 ao.op with
        | none => simp [l1] at hcq
        | some v1 => cases l2 : loadOf (Es i) s4 ao.op with
          | none => simp [l1, l2] at hcq
          | some v2 =>
            simp only [l1, l2, Bool.and_eq_true] at hcq
            have g1 := sameV_eq hcq.1
            have g2 := sameV_eq hcq.2
            exact ⟨by rw [← hst.1, g1], by rw [← hst.1, g2]⟩
      start := by rw [hS0]; simp [hlen']
      fresh0 := fun b hb => by
        rw [hS0]
        cases hg : s.get b with
        | none => exact hg
        | some x => have := r.next _ _ hg; omega }
  have hXN : X.N = ops.size := rfl
  refine wpIn_region_any hmix ?_
  refine wpAnyIn_inv (fun D a' w' => ∃ c μ, X.Inv m { w with drawn := w.drawn + 1 } D c μ a' w') X.edge ?_ ?_ _ _ _ _ (by simp [X]) ?_ ?_
  · rintro D a' w' i o ⟨c, μ, I⟩ ho hDi hed
    exact I.exec ho hDi hed
  · rintro D a' w' ⟨c, μ, I⟩ hall
    obtain ⟨h1, h2, h3, h4⟩ := I.fin hall
    have e1 : X.S X.N = s' := hSN
    have e2 : X.E X.N = e' := hEN
    rw [e1] at h1 h2
    rw [e2] at h4
    have hn := h2.next
    have e3 : X.S 0 = { s with next := s.next + al'.length } := hS0
    rw [e3] at h2 hn
    have hE : Ext (Old s) m s w μ s' w' := ⟨h2.le, by simp only at hn; omega, fun b hb hn => h2.ghost b hb hn, fun b l x h => h2.dead b l x h, h2.size, fun q hq ho => h2.keep q hq ho, fun b l h h' => h2.new b l h h', h2.os, h2.tape, h2.output⟩
    exact hQ μ a' w' (by rw [h3]; exact hd.step hE) h1 hE h4
  · simp
    exact Nat.le_of_eq (by simp [List.countP_replicate])
  · have hDf : (fun i => (Array.replicate ops.size false).getD i false) = fun _ => false := by
      funext i
      simp only [Array.getD_eq_getD_getElem?, Array.getElem?_replicate]
      split <;> rfl
    rw [hDf]
    have e3 : X.S 0 = { s with next := s.next + al'.length } := hS0
    have hm0 : ∀ b, s.next ≤ b → m b = none := by
      intro b hb
      cases hm : m b with
      | none => rfl
      | some l => have := (r.dom _ _ hm).1; omega
    refine ⟨0, m, Nat.zero_le _, fun i ao _ _ => by simp, ?_, Ext.refl _ _ _ _, he.1, rfl, ?_, fun i _ _ => hm0 _ (by show s.next ≤ s.next + i; omega), fun i x hi => by omega, (fun i x _ h => by cases h), (fun i _ h => by cases h), hm0⟩
    · rw [e3]
      exact r.drew.restrict (fun b y h => h) (by simp)
    · intro t
      rw [scan_eq (D := fun _ => false) X.N 0 (Nat.zero_le _) (fun i hi _ => by simp)]
      have e4 : X.E 0 = e := hE0
      simp only [scan]
      rw [e4]
      exact he.2 t
end Go.Am
