/- The run of our own machine is the world's, all in one. -/
import Derived.Test.YtplnfkihbffeeaaGreatDoorAmR
namespace Go.Am
variable {P : Program} {G : Cfg}

theorem evCall_calls {F : FuncId → Option AFunc} (hF : ∀ f af, F f = some af → ∃ fn, P.funcs[f]? = some fn ∧ compF P G fn = some af) (hmix : P.follows .mixedOrders = true) (hback : ∀ g ∈ G.backs, BackOk P g) {k : Nat} {f : FuncId} {args : List Value} {s s' : St} {v : Value}
    (h : evCall P F k f args s = some (v, s')) {m : Mu} {w : World} {args' : List Value} (r : Rel G m s w) (ha : VRels m args args') :
    Calls P f ⟨args'⟩ w fun e w' => ∃ v' m', e = .returned v' ∧ VRel m' v v' ∧ Rel G m' s' w' ∧ Ext (Old s) m s w m' s' w' :=
  (evCall_sound hF (fun _ hc n ro nn => draw_ok hc hmix n) hback k f args s v s' h).2.2 m w args' r ha
end Go.Am
#print axioms Go.Am.evCall_calls
