/- The closure that slices.Backward hands back: what it promises a range over it. -/
import Derived.Test.YtplnfkihbffeeaaGreatDoorAmS
import Derived.Test.YtplnfkihbffeeaaGreatDoorProg
import Derived.TacticsIn
import Derived.LoopIn
import Derived.WalkKit
namespace Go.Proofs
open Go Go.Am

set_option maxRecDepth 100000 in
set_option maxHeartbeats 1000000 in
theorem back281_in (F : Fence) (hro : F.round = none) (hfn : ∀ f, F.fn f) (hdp : F.depth = none) (nn l : Nat) (p : Addr) (W : World) (J : Nat → World → Prop) (R : World → Prop) (a : Option Addr) (len cap : Nat)
    (hcell : W.cell? p = some (.slice a len cap)) (hlen : len ≤ 1000000) (h0 : J len W)
    (hY : ∀ k W1, k < len → J (k + 1) W1 → ∃ b o len' cap' v, W1.cell? p = some (.slice (some ⟨b, o, none⟩) len' cap') ∧ k < len' ∧ W1.cell? ⟨b, o + k, none⟩ = some v ∧
      ∀ nn', YieldAt F nn' Tryz.prog l #[.int .i64 k, v] W1 fun e W' => (e = .returned (.bool true) ∧ J k W') ∨ (e = .returned (.bool false) ∧ R W'))
    (hend : ∀ W1, J 0 W1 → R W1) :
    CallsIn F nn Tryz.prog 281 #[.func (.yield l) #[] #[], .pointer (some p)] W fun e W' => (∃ v, e = .returned v) ∧ R W' := by
  have h281 := hfn 281
  refine callsIn_of_wp Tryz.func281 rfl h281 ?_ hro
  simp only [Tryz.ntmps281, List.size_toArray, List.length_cons, List.length_nil, Nat.reduceAdd, Nat.reduceSub, Array.replicate_succ, Array.replicate_zero, List.push_toArray, List.append_toArray, List.nil_append, List.cons_append]
  gi_wp2
  gi_loopw [3] (fun v3 wr => ∃ j : Nat, j ≤ len ∧ v3 = .int .i64 ((j : Int) - 1) ∧ J j wr) (fun v3 wr => match v3 with | .int _ n => (n + 1).toNat | _ => 0)
  case atStart => exact ⟨len, Nat.le_refl _, rfl, h0⟩
  case round =>
    obtain ⟨j, hj, rfl, hJ⟩ := hrel
    cases j with
    | zero =>
      have := hend _ hJ
      gi_wp2
      go_end0
      exact ⟨⟨_, rfl⟩, this⟩
    | succ k =>
      obtain ⟨b, o, len', cap', v, hc1, hc2, hc3, hy⟩ := hY k wr (by omega) hJ
      obtain ⟨fn, tmps, assign, body, hy1, hR⟩ := hy (nn - 1)
      have e1 : ((k + 1 : Nat) : Int) - 1 = (k : Int) := by omega
      rw [e1]
      gi_wp2
      refine hR.mono ?_
      rintro e W3 (⟨rfl, hJ3⟩ | ⟨rfl, hR3⟩)
      · gi_wp2
        go_roundw
        case rel => exact ⟨k, by omega, rfl, hJ3⟩
        case measure => simp
      · gi_wp2
        refine bodyPost_ret (results_none rfl _ _ _) rfl ?_
        exact ⟨⟨_, rfl⟩, hR3⟩

theorem back281 : BackOk Tryz.prog 281 := ⟨fun _ _ => Tryz.call281 .., fun nn l p W J R a len cap hcell hlen h0 hY hend =>
  back281_in (FR none) rfl (fun _ => trivial) rfl nn l p W J R a len cap hcell hlen h0 hY hend⟩
#print axioms back281
end Go.Proofs
