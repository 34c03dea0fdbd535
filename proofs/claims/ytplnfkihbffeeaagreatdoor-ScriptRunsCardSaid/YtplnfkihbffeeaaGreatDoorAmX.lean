/- The younger operations; all operations. -/
import Derived.Test.YtplnfkihbffeeaaGreatDoorAmL
import Derived.Laws.Externs
namespace Go.Am
variable {P : Program} {G : Cfg} {m : Mu} {s : St} {w : World} {n : Nat} {e : Env} {ρ : Operand → Value} {o : Oper} {v : Value}

theorem look_none {α : Type} {l : List (String × α)} {a b : String} (h1 : l.lookup a = none) (h2 : l.lookup b = none) {β : Type} (f : α → β) :
    ((l.lookup a).map f <|> (l.lookup b).map f) = none := by rw [h1, h2]; rfl

theorem no_next {fn : Func} {a : String} (h1 : fn.name = a) (h2 : fn.origin = "") (ha : Extern.allNextRows.lookup a = none) : Extern.findNext fn = none := by
  have h0 : Extern.allNextRows.lookup "" = none := by kernel_rfl
  unfold Extern.findNext
  rw [h1, h2]
  exact look_none ha h0 _

theorem find_plain {fn : Func} {a : String} {r : Array Value → Sem Value} (h1 : fn.name = a) (ha : Extern.allGenericRows.lookup a = none) (hb : Extern.allTypedRows.lookup a = none)
    (hc : Extern.allRows.lookup a = some r) : Extern.find fn = some r := by
  simp [Extern.find, h1, ha, hb, hc]

theorem find_typed {fn : Func} {a : String} {r : Array TypeId → Array TypeId → Array Value → Sem Value} (h1 : fn.name = a) (ha : Extern.allGenericRows.lookup a = none) (hb : Extern.allTypedRows.lookup a = some r) :
    Extern.find fn = some (r fn.params fn.resultTypes) := by
  simp [Extern.find, h1, ha, hb]

/-- A call of a function without a body that the machine knows. -/
theorem ext_run {f : FuncId} {fn : Func} {c : Call} {r : Array Value → Sem Value} {v : Value} {w' : World} (hop : o.op = .call c) (hc : c.callee = .value (.func f)) (hρ : ∀ f, ρ (.func f) = .func (.func f) #[] #[])
    (hf : P.funcs[f]? = some fn) (hb : fn.body.isNone = true) (hn : Extern.findNext fn = none) (he : Extern.find fn = some r) (hm : fn.name ≠ "runtime.NumGoroutine")
    (h : (r (c.args.map ρ)).run P w = .ok v w') : (execOp ρ o).run P w = .ok (.value v) w' := by
  have h1 := run_callFunc_extern hf (by simpa using hm) hb hn he (c.args.map ρ) w
  rw [h] at h1
  simp [execOp, hop, resolve, hc, hρ, Deferred.ofValue, invoke, h1]

theorem args_one {c : Call} {x : Operand} (h : c.args.toList = [x]) : c.args = #[x] := by apply Array.ext'; simpa using h
theorem args_two {c : Call} {x y : Operand} (h : c.args.toList = [x, y]) : c.args = #[x, y] := by apply Array.ext'; simpa using h

theorem compExt_spec {f : FuncId} {args : List Operand} {op : AOp} (h : compExt P f args = some op) : ∃ fn, P.funcs[f]? = some fn ∧ fn.body.isNone = true ∧ fn.origin = "" ∧
    ((∃ x, args = [x] ∧ fn.name = "internal/abi.NoEscape" ∧ op = .mov (opd x)) ∨
     (∃ x t el, args = [x] ∧ fn.name = "internal/bytealg.MakeNoZero" ∧ fn.resultTypes = #[t] ∧ P.underlying t = some (.slice el) ∧ op = .xa (.noZero (opd x) el)) ∨
     (∃ x y, args = [x, y] ∧ fn.name = "internal/bytealg.IndexByteString" ∧ op = .xp (.index (opd x) (opd y))) ∨
     (∃ x y, args = [x, y] ∧ fn.name = "internal/bytealg.CountString" ∧ op = .xp (.count (opd x) (opd y)))) := by
  unfold compExt at h
  simp only [Option.bind_eq_bind, Option.bind_eq_some_iff] at h
  obtain ⟨fn, hf, h⟩ := h
  split at h
  · rename_i hc
    simp only [Bool.and_eq_true, beq_iff_eq] at hc
    refine ⟨fn, hf, hc.1, hc.2, ?_⟩
    split at h
    · rename_i x
      split at h
      · rename_i hn
        simp only [Option.some.injEq] at h
        exact .inl ⟨x, rfl, by simpa using hn, h.symm⟩
      · split at h
        · rename_i hn
          simp only [Option.bind_eq_some_iff] at h
          obtain ⟨t, ht, d, hd, h⟩ := h
          split at h
          · rename_i el
            split at h
            · rename_i hl
              simp only [Option.some.injEq] at h
              refine .inr (.inl ⟨x, t, el, rfl, by simpa using hn, ?_, hd, h.symm⟩)
              apply Array.ext'
              generalize fn.resultTypes.toList = l at *
              cases l with
              | nil => simp at hl
              | cons a r => cases r with
                | nil => simp at ht; simp [ht]
                | cons b r => simp at hl
            · cases h
          · cases h
        · cases h
    · rename_i x y
      split at h
      · rename_i hn
        simp only [Option.some.injEq] at h
        exact .inr (.inr (.inl ⟨x, y, rfl, by simpa using hn, h.symm⟩))
      · split at h
        · rename_i hn
          simp only [Option.some.injEq] at h
          exact .inr (.inr (.inr ⟨x, y, rfl, by simpa using hn, h.symm⟩))
        · cases h
    · cases h
  · cases h
end Go.Am
