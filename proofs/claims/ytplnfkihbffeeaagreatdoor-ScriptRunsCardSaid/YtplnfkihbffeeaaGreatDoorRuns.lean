/- ScriptRuns answers true: its run, evaluated by a machine of our own that is proved sound, carried over to every world; the listed variables are never read but as the row lays them. -/
import Derived.Test.YtplnfkihbffeeaaGreatDoorCards
import Derived.Test.YtplnfkihbffeeaaGreatDoorTie
import Derived.Test.YtplnfkihbffeeaaGreatDoorRunsRun
import Derived.WalkKit
import Derived.ProofKit
import Derived.OpenShut
import Derived.Deep.DeepHandedRow
import Derived.Lib.LaidTab
namespace Go.Proofs.YtplnfkihbffeeaaGreatDoor.Runs
open Go Go.ChangeShapes Go.WideShapes Go.ChangeAt Go.RowKit Go.Am

theorem glob5 : (((begin Tryz.prog (fun _ _ => 0) default).world.heap[5]?).bind Obj.row?).isSome = true := by kernel_rfl
theorem globs : Tryz.prog.globals.size = 6 := by kernel_rfl
theorem size6 {W : World} (h : W.ShapedOpen Tryz.prog) : 6 ≤ W.heap.size := by
  obtain ⟨h1, -⟩ := h
  obtain ⟨⟨zero, t⟩, hx⟩ := Option.isSome_iff_exists.1 glob5
  obtain ⟨cs, h2, -⟩ := h1 5 zero t (by rw [globs]; decide) hx
  exact (Array.getElem?_eq_some_iff.1 h2).1

/-- The variables' places. -/
def mu0 : Mu := fun g => if g < 6 then some ⟨g, 0, 0⟩ else none
theorem rel0 {W : World} (h : 6 ≤ W.heap.size) : Rel cfg mu0 (St.mk .nil 6) W where
  blk := fun b x l hb => by cases hb
  apart := fun b x l b' x' l' hb => by cases hb
  next := fun b x hb => by cases hb
  dom := fun b l hb => by
    unfold mu0 at hb
    split at hb
    · rename_i hlt
      injection hb with hb; subst hb
      exact ⟨hlt, Nat.lt_of_lt_of_le hlt h⟩
    · cases hb
  glob := fun g hg => ⟨⟨g, 0, 0⟩, if_pos hg, rfl, rfl⟩

theorem no_own (m : Mu) (k r : Nat) : ¬ Owns m (St.mk .nil k) r := by
  rintro ⟨b, x, l, hb, -⟩
  cases hb

theorem below {m m' : Mu} {k : Nat} {s' : St} {W W' : World} {B : Nat → Prop} (h : Ext B m (St.mk .nil k) W m' s' W') : Below W.heap.size W W' :=
  ⟨h.os, h.tape, h.output, h.size, fun r hr => h.keep r hr (no_own m k r)⟩

theorem keptBut_of_below {W W' : World} {may : MemPlace → Prop} (h : Below W.heap.size W W') : W.keptBut W' may := by
  refine ⟨h.os, h.output, fun i hi => ?_⟩
  rw [h.block i hi]
  cases hx : W.heap[i]? with
  | none => trivial
  | some o => cases o <;> first | exact ⟨rfl, rfl, rfl, fun _ _ => rfl⟩ | exact .inr ⟨rfl, rfl⟩ | rfl

theorem walk {W : World} (hs : 6 ≤ W.heap.size) : Calls Tryz.prog 3 #[] W fun e W' => e = .returned (.bool true) ∧ Below W.heap.size W W' := by
  obtain ⟨s, hr⟩ := yes_spec run3
  refine (evCall_calls (codeOf_spec _ _) mixed backs hr (rel0 hs) .nil).mono ?_
  rintro e W' ⟨v', m', rfl, hv, -, hx⟩
  cases hv
  exact ⟨rfl, below hx⟩

theorem own : ownKnob Tryz.prog.godebug = none := by kernel_rfl

/-- WHAT THE RUN GIVES, FOR EVERY WORLD. -/
theorem contract (H : Type) (enc : TypeId × Value → H) (W : World) (args : Array Value) (ds gs : List (DataW H)) (before : List MemPlace)
    (hW : DataW.Whole enc Tryz.prog Tryz.f3.params.toList Rows.scriptRunsSpec.vars false W args.toList ds gs before) (hs : W.ShapedOpen Tryz.prog) :
    Calls Tryz.prog 3 args W fun e W' => ∃ v, e = .returned v ∧ Rows.scriptRunsSpec.post enc Tryz.prog Tryz.f3 false true false false W args v W' := by
  have hW' := hW
  obtain ⟨p, q, hA0, hV, rfl, hfz, hnd⟩ := hW
  have hA : DataW.TrodAll enc Tryz.prog W 0 (fun _ => true) true Tryz.f3.params.toList args.toList ds p := hA0
  rw [Tryz.params3] at hA
  obtain ⟨hargs, rfl, rfl⟩ := trodAll_nil hA
  obtain rfl : args = #[] := by cases args; simp_all
  obtain ⟨rfl, rfl⟩ := trodVars_none hV
  refine (walk (size6 hs)).mono fun e W' ⟨he, hb⟩ => ?_
  subst he
  exact ⟨_, rfl, _, _, _, [], [], [], hW', trodAll_mk1 (shut_bool Tryz.underlying4 true), trodAll_mk0, rfl, keptBut_of_below hb, fun h => by cases h⟩

mutual
/-- The cells of a table that is laid. -/
def flat1 : DataW Unit → List Value
  | .lit (.int k n) => [.int k n]
  | .agg ds => flats ds
  | _ => []
def flats : List (DataW Unit) → List Value
  | [] => []
  | d :: r => flat1 d ++ flats r
end
/-- A WORLD FOR THE WITNESS: the tables hold what their initialisers lay. -/
noncomputable def laid1 (o : Obj) (d : DataW Unit) : Obj := match o with
  | .cells _ t frozen => .cells ⟨flat1 d⟩ t frozen
  | o => o
noncomputable def laidWorld (os : Os) : World :=
  { World.holding Tryz.prog os ⟨#[], #[], []⟩ with heap := (((((World.holding Tryz.prog os ⟨#[], #[], []⟩).heap.modify 1 fun o => laid1 o Rows.laid_internal_strconv_uint64pow10).modify 2 fun o => laid1 o Rows.laid_unicode_utf8_first).modify 3 fun o =>
      laid1 o Rows.laid_unicode_utf8_acceptRanges).modify 4 fun o => laid1 o Rows.laid_math_bits_deBruijn32tab).modify 5 fun o => laid1 o Rows.laid_math_bits_deBruijn64tab }
theorem laid_met (os : Os) : laidMet Tryz.prog Rows.scriptRunsRow.laid ((laidWorld os).forCall (fun _ _ => 0) ⟨#[], #[], []⟩).memory :=
  laidMet_of_run' 8 (by kernel_rfl) (by kernel_rfl)
theorem reads (os : Os) {H : Type} (enc : TypeId × Value → H) : ∃ places, DataW.whole enc Tryz.prog ((laidWorld os).forCall (fun _ _ => 0) ⟨#[], #[], []⟩).memory Tryz.f3.params.toList Rows.scriptRunsSpec.vars false (#[] : Array Value).toList 8 = some ([], [], places) :=
  ⟨[], by kernel_rfl⟩

set_option maxRecDepth 100000 in
theorem lifted (os : Os) (started : os.Started) (H : Type) (enc : TypeId × Value → H) (F : Stop.Interp) :
    ReturnsInHanded {} Tryz.checked os 3 .any ((OpenSpec.ofChange Rows.scriptRunsSpec).preRow enc Tryz.prog Tryz.f3 Rows.scriptRunsRow.domain false Rows.scriptRunsRow.laid) (((OpenSpec.ofChange Rows.scriptRunsSpec).at F).post enc Tryz.prog Tryz.f3 false true false false) := by
  obtain ⟨places, hx⟩ := reads os enc
  refine returnsInHanded_of_row (C := Tryz.checked) (s := OpenSpec.ofChange Rows.scriptRunsSpec) own started (by kernel_rfl) Tryz.func3
    (witness_row_at (enc := enc) (C := Tryz.checked) false (laidWorld os) #[] rfl (by kernel_rfl) (by kernel_rfl) (by kernel_rfl)
      (OpenSpec.preRow_of_cond 8 hx (by kernel_rfl) (fun k hk => by cases hk) (by kernel_rfl) (laid_met os))) ?_
  intro W base args ds gs before hval hW _ _ _ hL hS _
  exact contract H enc W args ds gs before hW hS

/-- What the row says of the text that the law can come to. -/
theorem inPlace3 : Tryz.prog.inPlace 3 = Rows.scriptRunsRow.inPlace := by kernel_rfl
theorem recurses3 : Tryz.prog.recurses 3 = Rows.scriptRunsRow.recurses := by kernel_rfl
theorem varsNamed3 : Tryz.prog.varsNamed 3 = Rows.scriptRunsRow.named := by kernel_rfl
theorem unfollowed3 : Tryz.prog.unfollowed 3 = Rows.scriptRunsRow.unfollowed := by kernel_rfl
theorem facts3 : joinedFacts Tryz.prog 3 Tryz.f3 (OpenSpec.ofChange Rows.scriptRunsSpec).bare Rows.scriptRunsRow = true := by
  unfold joinedFacts
  rw [inPlace3, recurses3, varsNamed3, unfollowed3]
  kernel_rfl
theorem noGo : Tryz.prog.funcs.toList.all (fun f => !f.goes) = true := by kernel_rfl
theorem goes_no (P : Program) (hall : P.funcs.toList.all (fun f => !f.goes) = true) (f : FuncId) : P.goes f = false := by
  have h : ∀ g ∈ P.funcs, g.goes = false := fun g hg => by
    have := List.all_eq_true.1 hall g (by simpa using hg)
    simpa using this
  have h1 : P.funcs.any Func.goes = false := by
    cases hx : P.funcs.any Func.goes with
    | false => rfl
    | true =>
      rw [Array.any_eq_true] at hx
      obtain ⟨i, hi, hg⟩ := hx
      rw [h _ (Array.getElem_mem hi)] at hg; cases hg
  unfold Program.goes
  rw [h1, Bool.and_false, Bool.or_false]
  cases hx : (P.closure f).any fun g => (P.funcs[g]?).any Func.goes with
  | false => rfl
  | true =>
    obtain ⟨g, -, hg⟩ := List.any_eq_true.1 hx
    cases hf : P.funcs[g]? with
    | none => simp [hf] at hg
    | some fn =>
      rw [hf, Option.any_some, h fn (Array.mem_of_getElem? hf)] at hg; cases hg
theorem goesBy_no (P : Program) (hall : P.funcs.toList.all (fun f => !f.goes) = true) (c : OpenClaim) (hc : c.start = .entering) : false = c.goesBy P := by
  unfold OpenClaim.goesBy Program.goesAt Program.goesFrom
  rw [hc]
  cases P.funcNamed c.func with
  | none => rfl
  | some f => simp [goes_no P hall f]

theorem said : Rows.ScriptRunsSaid :=
  OpenClaim.holds_of_cond 3 Tryz.f3 rfl rfl rfl rfl rfl rfl rfl ⟨rfl, rfl, rfl, rfl, rfl⟩ rfl rfl rfl rfl rfl (by kernel_rfl) Tryz.func3 facts3
    (of_decide_eq_true (by kernel_rfl)) (by unfold Func.isWrapper; rw [if_neg (of_decide_eq_false (by kernel_rfl))]; exact ⟨rfl, rfl⟩)
    (fun os started H enc _ F => by rw [OpenClaim.pre_eq_preRow]; exact lifted os started H enc F)

theorem plain (f : FuncId) (fn : Func) (hf : Tryz.pinned.checked.prog.funcNamed "quietus/quietuslaw31.ScriptRuns" = some f) (hfn : Tryz.pinned.checked.prog.funcs[f]? = some fn) :
    true = Tryz.pinned.checked.prog.looks [] ∧ ∀ (j : Nat) t, fn.params[j]? = some t → Tryz.pinned.checked.prog.wantsStandIn t = false := by
  obtain rfl : f = 3 := Option.some.inj ((show Tryz.prog.funcNamed "quietus/quietuslaw31.ScriptRuns" = some 3 by kernel_rfl).symm.trans hf) |>.symm
  obtain rfl : fn = Tryz.f3 := (Option.some.inj (Tryz.func3.symm.trans hfn)).symm
  refine ⟨by kernel_rfl, fun j t ht => ?_⟩
  rw [Tryz.params3] at ht
  simp at ht

/-- ████ THE CARD ████ -/
theorem card : Rows.ScriptRunsCardSaid :=
  Claim7.holds_tied_plain_at .later [] _ _ _ _ said (fun _ h => by cases h) (by kernel_rfl) (fun _ h => by cases h) scriptRuns_row_tie rfl ⟨rfl, rfl⟩ (by kernel_rfl) rfl plain (goesBy_no _ noGo _ rfl)
end Go.Proofs.YtplnfkihbffeeaaGreatDoor.Runs
namespace Go.Proofs.YtplnfkihbffeeaaGreatDoor
/-- ScriptRuns answers true: in every world that the row speaks of. -/
theorem scriptRuns_card : Rows.ScriptRunsCardSaid := Runs.card
end Go.Proofs.YtplnfkihbffeeaaGreatDoor
