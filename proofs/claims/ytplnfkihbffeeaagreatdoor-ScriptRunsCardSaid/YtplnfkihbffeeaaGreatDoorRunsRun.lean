/- ScriptRuns' run, evaluated by the kernel on a machine of our own. -/
import Derived.Test.YtplnfkihbffeeaaGreatDoorBk
import Derived.KernelRfl
namespace Go.Proofs.YtplnfkihbffeeaaGreatDoor.Runs
open Go Go.Am

/-- The functions, made ready for our machine. -/
def codeOf (P : Program) (G : Cfg) (f : FuncId) : Option AFunc := match P.funcs[f]? with
  | some fn => compF P G fn
  | none => none
theorem codeOf_spec (P : Program) (G : Cfg) : ∀ f af, codeOf P G f = some af → ∃ fn, P.funcs[f]? = some fn ∧ compF P G fn = some af := by
  intro f af h
  unfold codeOf at h
  split at h
  · rename_i fn hfn; exact ⟨fn, hfn, h⟩
  · cases h

/-- Is it the answer true? -/
def yes : Option (Value × St) → Bool
  | some (.bool b, _) => b
  | _ => false
theorem yes_spec {r : Option (Value × St)} (h : yes r = true) : ∃ s, r = some (.bool true, s) := by
  unfold yes at h
  split at h
  · subst h; exact ⟨_, rfl⟩
  · cases h

def cfg : Cfg := ⟨6, [281]⟩
theorem backs : ∀ g ∈ cfg.backs, BackOk Tryz.prog g := by
  intro g hg
  obtain rfl : g = 281 := by simpa [cfg] using hg
  exact back281
theorem mixed : Tryz.prog.follows .mixedOrders = true := by kernel_rfl

/-- ████ THE RUN, BY THE KERNEL ████ -/
theorem run3 : yes (evCall Tryz.prog (codeOf Tryz.prog cfg) 400 3 [] (St.mk .nil 6)) = true := by kernel_rfl

end Go.Proofs.YtplnfkihbffeeaaGreatDoor.Runs
