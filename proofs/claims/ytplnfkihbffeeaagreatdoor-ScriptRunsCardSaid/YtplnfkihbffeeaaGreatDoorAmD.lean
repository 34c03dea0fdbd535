/- Operations that touch no memory: what the loaded one gives is what ours gives. -/
import Derived.Test.YtplnfkihbffeeaaGreatDoorAmC
namespace Go.Am
variable {P : Program} {G : Cfg} {m : Mu} {s : St} {w : World} {n : Nat} {e : Env}

theorem still1_refl {m : Mu} {v : Value} (h : still1 v = true) : VRel m v v := by
  cases v with
  | pointer a => cases a with
    | none => exact .nilPtr
    | some a => simp [still1] at h
  | slice a n c => cases a with
    | none =>
      simp only [still1, Option.isNone_none, Bool.true_and, Bool.and_eq_true, Nat.blt_eq] at h
      exact .nilSlice n c h.1 (Nat.le_of_ble_eq_true h.2)
    | some a => simp [still1] at h
  | nilFunc => exact .nilFunc
  | nilIface => exact .nilIface
  | map a => cases a with
    | none => exact .nilMap
    | some a => simp [still1] at h
  | chan a => cases a with
    | none => exact .nilChan
    | some a => simp [still1] at h
  | float k b => exact .float k b
  | _ => exact VRel.scalar_refl h

theorem still1s_refl {m : Mu} : ∀ {l : List Value}, l.all still1 = true → VRels m l l
  | [], _ => .nil
  | a :: l, h => by
    simp only [List.all_cons, Bool.and_eq_true] at h
    exact .cons (still1_refl h.1) (still1s_refl h.2)

theorem still_refl {m : Mu} {v : Value} (h : still v = true) : VRel m v v := by
  cases v with
  | agg cs => exact .agg (a := cs.toList) (a' := cs.toList) (still1s_refl h)
  | tuple cs =>
    obtain ⟨l⟩ := cs
    cases l with
    | nil => exact .tuple .nil
    | cons x l => simp [still] at h
  | func f a b =>
    cases f with
    | func f =>
      obtain ⟨a⟩ := a; obtain ⟨b⟩ := b
      cases a with
      | nil => cases b with
        | nil => exact .func _ .nil .nil
        | cons x l => simp [still] at h
      | cons x l => simp [still] at h
    | _ => simp [still, still1, scalar] at h
  | _ => exact still1_refl (by simpa only [still] using h)

theorem stills_refl {m : Mu} : ∀ {l : List Value}, l.all still = true → VRels m l l
  | [], _ => .nil
  | a :: l, h => by
    simp only [List.all_cons, Bool.and_eq_true] at h
    exact .cons (still_refl h.1) (stills_refl h.2)

/-- What two evaluations of operands have to do with one another. -/
def ORel (m : Mu) (e : Env) (ρ : Operand → Value) (x : Operand) : Prop := VRel m ((opd x).ev e) (ρ x)

theorem opd_rel {a : Act} {x : Operand} (h : opOk n G x = true) (r : Rel G m s w) (he : ERel m n e a.tmps) : ORel m e a.eval x := by
  cases x with
  | tmp t => exact he.2 t
  | const v => exact still_refl h
  | global g =>
    obtain ⟨l, h1, h2, h3⟩ := r.glob g (by simpa [opOk] using h)
    have := VRel.ptr (m := m) 0 h1
    rw [h2, h3] at this
    exact this
  | func f => exact .func _ .nil .nil

theorem prun_run {α : Type} {P : Program} : ∀ {x : Sem α} {v : α}, prun P x = some v → ∀ w, x.run P w = .ok v w
  | .pure a, v, h, w => by simp only [prun, Option.some.injEq] at h; subst h; rfl
  | .program k, v, h, w => prun_run (x := k P) (by simpa [prun] using h) w
  | .load .., _, h, _ => by simp [prun] at h
  | .store .., _, h, _ => by simp [prun] at h
  | .new .., _, h, _ => by simp [prun] at h
  | .shape .., _, h, _ => by simp [prun] at h
  | .freeze .., _, h, _ => by simp [prun] at h
  | .frozen .., _, h, _ => by simp [prun] at h
  | .getObj .., _, h, _ => by simp [prun] at h
  | .setObj .., _, h, _ => by simp [prun] at h
  | .choose .., _, h, _ => by simp [prun] at h
  | .sys .., _, h, _ => by simp [prun] at h
  | .mark .., _, h, _ => by simp [prun] at h
  | .halt .., _, h, _ => by simp [prun] at h

theorem wrapF_eq (k : IntKind) (n : Int) : wrapF k n = k.wrap n := by
  unfold wrapF
  split
  · rename_i m
    cases h : Nat.blt m 9223372036854775808 with
    | false => rw [cond_false]
    | true =>
      have h' : m < 9223372036854775808 := by rw [Nat.blt_eq] at h; exact h
      rw [cond_true, IntKind.wrap_i64]
      simp only [Int.ofNat_eq_natCast]
      omega
  · rename_i m
    cases h : Nat.blt m 9223372036854775808 with
    | false => rw [cond_false]
    | true =>
      have h' : m < 9223372036854775808 := by rw [Nat.blt_eq] at h; exact h
      have e := Int.negSucc_eq m
      rw [cond_true, IntKind.wrap_i64]
      generalize Int.negSucc m = x at *
      omega
  · rw [IntKind.wrap_u64]; simp only [Int.ofNat_eq_natCast]; omega
  · rw [IntKind.wrap_u8]; simp only [Int.ofNat_eq_natCast]; omega
  · rfl

theorem ltI_eq (a b : Int) : ltI a b = decide (a < b) := by
  cases a <;> cases b <;> simp only [ltI] <;> rw [Bool.eq_iff_iff] <;> simp <;> omega
theorem eqI_eq (a b : Int) : eqI a b = (a == b) := by
  cases a <;> cases b <;> simp only [eqI] <;> rw [Bool.eq_iff_iff] <;> simp <;> omega

theorem arith_run {op : BinOp} {k k' : IntKind} {a b : Int} {v : Value} (ty : TypeId)
    (hk : (isShift op || decide (k = k')) = true) (h : arithA op k a b = some v) (w : World) :
    (binOp op ty (.int k a) (.int k' b)).run P w = .ok v w ∧ flat v = true := by
  have hkk : isShift op = false → k = k' := by intro h0; rw [h0] at hk; simpa using hk
  cases op <;> simp only [arithA, wrapF_eq, ltI_eq, eqI_eq, reduceCtorEq] at h
  case shl =>
    split at h
    · cases h
    · injection h with h; subst h
      rename_i h0
      refine ⟨?_, rfl⟩
      simp [binOp, Op.shift, h0]
  case shr =>
    split at h
    · cases h
    · injection h with h; subst h
      rename_i h0
      refine ⟨?_, rfl⟩
      simp [binOp, Op.shift, h0]
  case quo =>
    have := hkk rfl; subst this
    split at h
    · cases h
    · injection h with h; subst h
      rename_i h0
      exact ⟨by simp [binOp, Op.intDiv, h0], rfl⟩
  case rem =>
    have := hkk rfl; subst this
    split at h
    · cases h
    · injection h with h; subst h
      rename_i h0
      exact ⟨by simp [binOp, Op.intDiv, h0], rfl⟩
  case leq =>
    have := hkk rfl; subst this
    injection h with h; subst h
    refine ⟨?_, rfl⟩
    have : (!decide (b < a)) = decide (a ≤ b) := by rw [Bool.eq_iff_iff]; simp
    simp [binOp, Op.intCmp, this]
  case geq =>
    have := hkk rfl; subst this
    injection h with h; subst h
    refine ⟨?_, rfl⟩
    have : (!decide (a < b)) = decide (b ≤ a) := by rw [Bool.eq_iff_iff]; simp
    simp [binOp, Op.intCmp, this]
  all_goals
    have := hkk rfl; subst this
    injection h with h; subst h
    refine ⟨?_, rfl⟩
    simp [binOp, Op.intArith, Op.intCmp, bne]
end Go.Am
