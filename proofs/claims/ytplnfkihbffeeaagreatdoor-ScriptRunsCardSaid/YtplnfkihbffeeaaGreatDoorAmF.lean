/- Operations that touch no memory, each, more of them. -/
import Derived.Test.YtplnfkihbffeeaaGreatDoorAmE
namespace Go.Am
variable {P : Program} {G : Cfg} {m : Mu} {s : St} {w : World} {n : Nat} {e : Env} {ρ : Operand → Value} {o : Oper} {v : Value}

theorem g_arith {op : BinOp} {t yt : TypeId} {x y : Operand} (ho : o.op = .binOp op t x y yt) (hx : ORel m e ρ x) (hy : ORel m e ρ y)
    (h : pureOf P e (.arith op (opd x) (opd y)) = some v) : Gives P m ρ o v := by
  simp only [pureOf] at h
  split at h
  · rename_i k a k' b ha hb
    cases hc : (isShift op || decide (k = k')) with
    | false => simp [hc] at h
    | true =>
      simp only [hc, cond_true] at h
      unfold ORel at hx hy
      rw [ha] at hx; rw [hb] at hy
      have hr := fun w => arith_run (P := P) t hc h w
      refine ⟨v, VRel.flat_refl (hr default).2, fun w => ?_⟩
      have := (hr w).1
      simp only [execOp, ho, hx.int_eq, hy.int_eq, eqGuard]
      cases op <;> simp [this]
  · cases h

theorem flat_at {x : Operand} (hx : ORel m e ρ x) (hf : flat ((opd x).ev e) = true) : ρ x = (opd x).ev e := VRel.flat_eq hf hx

theorem g_plain {l : List Operand} (ho : ∀ ρ', (∀ x ∈ l, ρ' x = ρ x) → execOp ρ' o = execOp ρ o) (hk : ∀ x ∈ l, ∀ g, x ≠ .global g ∧ x ≠ .func g) (hx : ∀ x ∈ l, ORel m e ρ x)
    (h : pureOf P e (.plain o (l.map opd)) = some v) : Gives P m ρ o v := by
  simp only [pureOf] at h
  split at h
  · rename_i hc
    split at h
    · rename_i v' hp
      split at h
      · rename_i hf
        simp only [Option.some.injEq] at h; subst h
        refine ⟨v', VRel.flat_refl hf, fun w => ?_⟩
        have hr := prun_run hp w
        rw [← ho _ ?_]
        · exact hr
        · intro x hxl
          have hfx : flat ((opd x).ev e) = true := by
            rw [List.all_map, List.all_eq_true] at hc
            exact hc x hxl
          rw [flat_at (hx x hxl) hfx]
          cases x with
          | tmp t => rfl
          | const v => rfl
          | global g => exact absurd rfl (hk _ hxl g).1
          | func g => exact absurd rfl (hk _ hxl g).2
      · cases h
    · cases h
  · cases h

theorem isNone_eq_nil {a : Option Addr} {b : Value} (h : VRel m (.pointer a) b) : ∃ a', b = .pointer a' ∧ a'.isNone = a.isNone := by
  cases h with
  | nilPtr => exact ⟨none, rfl, rfl⟩
  | ptr o h => exact ⟨_, rfl, rfl⟩

theorem slice_nil {a : Option Addr} {n c : Nat} {b : Value} (h : VRel m (.slice a n c) b) : ∃ a' c', b = .slice a' n c' ∧ a'.isNone = a.isNone := by
  cases h with
  | nilSlice _ _ h _ => exact ⟨none, _, rfl, rfl⟩
  | slice o o' _ _ h1 h2 h3 h4 => exact ⟨_, _, rfl, rfl⟩
  | sliceU o o' _ c es h1 h2 h3 h4 => exact ⟨_, _, rfl, rfl⟩

theorem eqIn_ptrN {t el : TypeId} (ht : P.underlying t = some (.pointer el)) (d : Nat) (b : Option Addr) (w : World) : (Op.equalIn (d + 1) t (.pointer none) (.pointer b)).run P w = .ok b.isNone w := by
  simp [Op.equalIn, run_underlying ht]
theorem eqIn_ptrS {t el : TypeId} (ht : P.underlying t = some (.pointer el)) (d : Nat) (a : Addr) (w : World) : (Op.equalIn (d + 1) t (.pointer (some a)) (.pointer none)).run P w = .ok false w := by
  simp [Op.equalIn, run_underlying ht]
theorem eqIn_sliceN {t el : TypeId} (ht : P.underlying t = some (.slice el)) (d : Nat) (b : Option Addr) (n c n' c' : Nat) (w : World) : (Op.equalIn (d + 1) t (.slice none n c) (.slice b n' c')).run P w = .ok b.isNone w := by
  simp [Op.equalIn, run_underlying ht]
theorem eqIn_sliceS {t el : TypeId} (ht : P.underlying t = some (.slice el)) (d : Nat) (a : Addr) (n c n' c' : Nat) (w : World) : (Op.equalIn (d + 1) t (.slice (some a) n c) (.slice none n' c')).run P w = .ok false w := by
  simp [Op.equalIn, run_underlying ht]

theorem eq_key {op : BinOp} {t yt : TypeId} {x y : Operand} {neg bb : Bool} (ho : o.op = .binOp op t x y yt) (hop : (op = .eql ∧ neg = false) ∨ (op = .neq ∧ neg = true))
    (he : ∀ w, (Op.equalIn (9999 + 1) t (ρ x) (ρ y)).run P w = .ok bb w)
    (hv : (∃ a b, ρ x = .pointer a ∧ ρ y = .pointer b ∧ (a = none ∨ b = none)) ∨ (∃ a b n c n' c', ρ x = .slice a n c ∧ ρ y = .slice b n' c')) :
    Gives P m ρ o (.bool (bb != neg)) := by
  refine ⟨_, .bool _, fun w => ?_⟩
  have he' : ∀ w, (Op.equal t (ρ x) (ρ y)).run P w = .ok bb w := he
  have hg : (eqGuard op t x y (ρ x) (ρ y)).run P w = .ok () w := by
    rcases hv with ⟨a, b, h1, h2, h3⟩ | ⟨a, b, n, c, n', c', h1, h2⟩
    · rw [h1, h2]; rcases hop with ⟨rfl, rfl⟩ | ⟨rfl, rfl⟩ <;> simp [eqGuard]
    · rw [h1, h2]; rcases hop with ⟨rfl, rfl⟩ | ⟨rfl, rfl⟩ <;> simp [eqGuard]
  have hb : (binOp op t (ρ x) (ρ y)).run P w = .ok (.bool (bb != neg)) w := by
    rcases hv with ⟨a, b, h1, h2, h3⟩ | ⟨a, b, n, c, n', c', h1, h2⟩
    · rw [h1, h2] at he' ⊢
      rcases hop with ⟨rfl, rfl⟩ | ⟨rfl, rfl⟩ <;> simp [binOp, he']
    · rw [h1, h2] at he' ⊢
      rcases hop with ⟨rfl, rfl⟩ | ⟨rfl, rfl⟩ <;> simp [binOp, he']
  simp [execOp, ho, hg, hb]

theorem g_nilP {op : BinOp} {t yt el : TypeId} {x y : Operand} {neg : Bool} (ho : o.op = .binOp op t x y yt) (hop : (op = .eql ∧ neg = false) ∨ (op = .neq ∧ neg = true))
    (ht : P.underlying t = some (.pointer el)) (hx : ORel m e ρ x) (hy : ORel m e ρ y) (h : pureOf P e (.nilP neg (opd x) (opd y)) = some v) : Gives P m ρ o v := by
  unfold ORel at hx hy
  simp only [pureOf] at h
  split at h
  · rename_i a ha hb
    simp only [Option.some.injEq] at h; subst h
    rw [ha] at hx; rw [hb] at hy
    obtain ⟨a', hy', hn⟩ := isNone_eq_nil hy
    have hx' : ρ x = .pointer none := by generalize ρ x = z at *; cases hx; rfl
    rw [← hn]
    exact eq_key ho hop (fun w => by rw [hx', hy']; exact eqIn_ptrN ht _ _ w) (.inl ⟨_, _, hx', hy', .inl rfl⟩)
  · rename_i a ha hb
    simp only [Option.some.injEq] at h; subst h
    rw [ha] at hx; rw [hb] at hy
    obtain ⟨a', hx', hn⟩ := isNone_eq_nil hx
    have hy' : ρ y = .pointer none := by generalize ρ y = z at *; cases hy; rfl
    cases a' with
    | none => simp at hn
    | some a' =>
      have := eq_key (m := m) (bb := false) ho hop (fun w => by rw [hx', hy']; exact eqIn_ptrS ht _ _ w) (.inl ⟨_, _, hx', hy', .inr rfl⟩)
      simpa using this
  · cases h

theorem g_nilS {op : BinOp} {t yt el : TypeId} {x y : Operand} {neg : Bool} (ho : o.op = .binOp op t x y yt) (hop : (op = .eql ∧ neg = false) ∨ (op = .neq ∧ neg = true))
    (ht : P.underlying t = some (.slice el)) (hx : ORel m e ρ x) (hy : ORel m e ρ y) (h : pureOf P e (.nilS neg (opd x) (opd y)) = some v) : Gives P m ρ o v := by
  unfold ORel at hx hy
  simp only [pureOf] at h
  split at h
  · rename_i ha hb
    simp only [Option.some.injEq] at h; subst h
    rw [ha] at hx; rw [hb] at hy
    obtain ⟨a', c', hx', hn'⟩ := slice_nil hx
    obtain ⟨b', d', hy', hn⟩ := slice_nil hy
    cases a' with
    | some _ => simp at hn'
    | none =>
      rw [← hn]
      exact eq_key ho hop (fun w => by rw [hx', hy']; exact eqIn_sliceN ht _ _ _ _ _ _ w) (.inr ⟨_, _, _, _, _, _, hx', hy'⟩)
  · rename_i ha hb
    simp only [Option.some.injEq] at h; subst h
    rw [ha] at hx; rw [hb] at hy
    obtain ⟨a', c', hx', hn'⟩ := slice_nil hx
    obtain ⟨b', d', hy', hn⟩ := slice_nil hy
    cases a' with
    | none => simp at hn'
    | some a' => cases b' with
      | some _ => simp at hn
      | none =>
        have := eq_key (m := m) (bb := false) ho hop (fun w => by rw [hx', hy']; exact eqIn_sliceS ht _ _ _ _ _ _ w) (.inr ⟨_, _, _, _, _, _, hx', hy'⟩)
        simpa using this
  · cases h
end Go.Am
