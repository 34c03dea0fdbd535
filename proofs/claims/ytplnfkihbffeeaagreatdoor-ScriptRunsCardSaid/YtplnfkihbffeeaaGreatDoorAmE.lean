/- Operations that touch no memory, each. -/
import Derived.Test.YtplnfkihbffeeaaGreatDoorAmD
namespace Go.Am
variable {P : Program} {G : Cfg} {m : Mu} {s : St} {w : World} {n : Nat} {e : Env} {ρ : Operand → Value}

theorem putAt_step : ∀ (cs : List Value) (n : Nat) (v : Value) (vs : List Value), putAt (cs.set n v) (n + 1) vs = putAt cs n (v :: vs)
  | [], _, _, _ => by simp [putAt]
  | x :: l, 0, v, vs => by simp [putAt]
  | x :: l, n + 1, v, vs => by simp [putAt, putAt_step l n v vs]

theorem putAt_none : ∀ (cs : List Value) (n : Nat), putAt cs n [] = cs
  | [], _ => rfl
  | _ :: _, 0 => rfl
  | x :: l, n + 1 => by simp [putAt, putAt_none l n]

theorem foldl_put (off : Nat) : ∀ (l : List Value) (k : Nat) (cells : Array Value),
    ((l.zipIdx k).foldl (fun (cs : Array Value) (p : Value × Nat) => cs.setIfInBounds (off + p.2) p.1) cells).toList = putAt cells.toList (off + k) l
  | [], k, cells => by simp [putAt_none]
  | v :: l, k, cells => by
    simp only [List.zipIdx_cons, List.foldl_cons]
    rw [foldl_put off l (k + 1), Array.toList_setIfInBounds, show off + (k + 1) = (off + k) + 1 by omega, putAt_step]

theorem fill_rel {f : Nat → Option (Nat × Nat)} : ∀ {ps : List (Nat × Operand)} {pl : List (Nat × Nat × Opd)} {cs cs' : List Value} {c : Array Value},
    parts f ps = some pl → fillL e cs pl = some cs' → VRels m cs c.toList → (∀ p ∈ ps, ORel m e ρ p.2) →
    ∃ c', Instr.fill f c (ps.map fun p => (p.1, ρ p.2)) = some c' ∧ VRels m cs' c'.toList
  | [], pl, cs, cs', c, h, h2, hr, _ => by
    simp only [parts, Option.some.injEq] at h; subst h
    simp only [fillL, Option.some.injEq] at h2; subst h2
    exact ⟨c, rfl, hr⟩
  | (i, x) :: r, pl, cs, cs', c, h, h2, hr, ho => by
    simp only [parts, Option.bind_eq_bind, Option.bind_eq_some_iff] at h
    obtain ⟨⟨o, z⟩, hf, l, hl, h⟩ := h
    simp only [Option.some.injEq] at h; subst h
    simp only [fillL] at h2
    split at h2
    · rename_i hc
      have hx : ORel m e ρ x := ho (i, x) (by simp)
      have hcx := VRel.cells hx
      have hlen : ((ρ x).cells).size = z := by
        rw [← Array.length_toList, cellsOf_eq, ← VRels.length hcx]; exact hc.1
      have hcl : c.size = cs.length := by rw [← Array.length_toList]; exact (VRels.length hr).symm
      have hput := foldl_put o (ρ x).cells.toList 0 c
      have key : VRels m (putAt cs o (cellsOf ((opd x).ev e))) ((ρ x).cells.zipIdx.foldl (fun cs (p : Value × Nat) => cs.setIfInBounds (o + p.2) p.1) c).toList := by
        have e1 : ((ρ x).cells.zipIdx.foldl (fun cs (p : Value × Nat) => cs.setIfInBounds (o + p.2) p.1) c).toList = putAt c.toList o (ρ x).cells.toList := by
          rw [← Array.foldl_toList, Array.toList_zipIdx]; simpa using hput
        rw [e1, cellsOf_eq]
        exact VRels.putAt o hr hcx
      obtain ⟨c', h3, h4⟩ := fill_rel (ps := r) hl h2 key (fun p hp => ho p (by simp [hp]))
      refine ⟨c', ?_, h4⟩
      simp only [List.map_cons, Instr.fill, hf]
      have : ¬ ((decide ((ρ x).cells.size ≠ z) || decide (o + (ρ x).cells.size > c.size)) = true) := by
        rw [hlen, hcl]; simp; omega
      simp only [this]
      exact h3
    · cases h2

theorem sizeOf_run {t : TypeId} {z : Nat} (h : sizeP P t = some z) (w : World) : (sizeOf t).run P w = .ok z w := by
  unfold sizeP at h
  cases hi : P.info? t with
  | none => simp [hi] at h
  | some i => simp [hi] at h; simp [sizeOf, typeInfo, hi, h]

theorem zeroP_spec {t : TypeId} {z : List Value} (h : zeroP P t = some z) : ∃ i v, P.info? t = some i ∧ i.zero = some v ∧ cellsOf v = z ∧ z.all still = true ∧ z.length = i.size := by
  unfold zeroP at h
  simp only [Option.bind_eq_bind, Option.bind_eq_some_iff] at h
  obtain ⟨i, hi, v, hv, h⟩ := h
  split at h
  · rename_i hc
    simp only [Option.some.injEq] at h; subst h
    exact ⟨i, v, hi, hv, rfl, hc.1, hc.2⟩
  · cases h

theorem zeroValue_run {t : TypeId} {i : TypeInfo} {v : Value} (hi : P.info? t = some i) (hv : i.zero = some v) (w : World) : (zeroValue t).run P w = .ok v w := by
  simp [zeroValue, typeInfo, hi, hv]

theorem places_run : ∀ (fs : List Field) (w : World), (fs.all fun f => (P.info? f.type).isSome) = true →
    (fs.mapM fun f => do pure (f.offset, ← sizeOf f.type) : Sem (List (Nat × Nat))).run P w = .ok (fs.map fun f => (f.offset, (sizeP P f.type).getD 0)) w
  | [], w, _ => by simp [List.mapM_nil]
  | f :: fs, w, h => by
    simp only [List.all_cons, Bool.and_eq_true] at h
    have ih := places_run fs w h.2
    obtain ⟨i, hi⟩ := Option.isSome_iff_exists.1 h.1
    have hs : sizeP P f.type = some i.size := by simp [sizeP, hi]
    rw [List.mapM_cons]
    simp only [bind_pure_comp] at ih
    simp [sizeOf_run hs, ih, hs]

theorem fieldP_eq {fs : Array Field} (h : (fs.toList.all fun f => (P.info? f.type).isSome) = true) (i : Nat) :
    fieldP P fs i = (fs[i]?).map fun f => (f.offset, (sizeP P f.type).getD 0) := by
  simp only [fieldP]
  cases hf : fs[i]? with
  | none => simp
  | some f =>
    have h1 : fs.toList[i]? = some f := by simpa using hf
    have hm : f ∈ fs.toList := List.mem_of_getElem? h1
    have := List.all_eq_true.1 h f hm
    obtain ⟨j, hj⟩ := Option.isSome_iff_exists.1 this
    simp [sizeP, hj]

theorem build_run {t : TypeId} {ps : Array (Nat × Operand)} {z : List Value} {pl : List (Nat × Nat × Opd)} {cs : List Value}
    (hz : zeroP P t = some z)
    (hp : (∃ fs, P.underlying t = some (.struct fs) ∧ (fs.toList.all fun f => (P.info? f.type).isSome) = true ∧ parts (fieldP P fs) ps.toList = some pl) ∨
      (∃ k el y, P.underlying t = some (.array k el) ∧ sizeP P el = some y ∧ parts (fun i => some (i * y, y)) ps.toList = some pl))
    (hf : fillL e z pl = some cs) (ho : ∀ p ∈ ps.toList, ORel m e ρ p.2) :
    ∃ c : List Value, VRels m cs c ∧ ∀ w, (Instr.build t (ps.map fun (i, x) => (i, ρ x))).run P w = .ok (.agg ⟨c⟩) w := by
  obtain ⟨i, v, hi, hv, hvz, hst, hlen⟩ := zeroP_spec hz
  have hzz : VRels m z v.cells.toList := by rw [cellsOf_eq, hvz]; exact stills_refl hst
  have hmap : (ps.map fun (i, x) => (i, ρ x)).toList = ps.toList.map fun p => (p.1, ρ p.2) := by simp
  rcases hp with ⟨fs, hu, hall, hp⟩ | ⟨k, el, y, hu, hy, hp⟩
  · obtain ⟨c', h1, h2⟩ := fill_rel hp hf hzz ho
    refine ⟨c'.toList, h2, fun w => ?_⟩
    have hpl := places_run (P := P) fs.toList w hall
    simp only [bind_pure_comp] at hpl
    have hfe : fieldP P fs = (fun x => (fs[x]?).map fun f => (f.offset, (sizeP P f.type).getD 0)) := funext fun i => fieldP_eq hall i
    rw [hfe] at h1
    simp only [Instr.build, Sem.run_bind, zeroValue_run hi hv, Result.andThen_ok, run_underlying hu, hmap]
    simp [Array.mapM_eq_mapM_toList, hpl, h1]
  · obtain ⟨c', h1, h2⟩ := fill_rel hp hf hzz ho
    refine ⟨c'.toList, h2, fun w => ?_⟩
    simp only [Instr.build, Sem.run_bind, zeroValue_run hi hv, Result.andThen_ok, run_underlying hu, hmap, sizeOf_run hy]
    simp [h1]
theorem zeroP_size {t : TypeId} {z : List Value} (h : zeroP P t = some z) : sizeP P t = some z.length := by
  obtain ⟨i, v, hi, _, _, _, hl⟩ := zeroP_spec h
  simp [sizeP, hi, hl]

theorem isAgg_run {t : TypeId} {d : TypeDesc} (h : P.underlying t = some d) (w : World) : (isAgg t).run P w = .ok (isAggD d) w := by
  simp only [isAgg, Sem.run_bind, run_underlying h, Result.andThen_ok]
  cases d <;> rfl

theorem take_spec {cs l : List Value} {o n : Nat} (h : take cs o n = some l) : o + n ≤ cs.length ∧ l = (cs.drop o).take n := by
  unfold take at h
  split at h
  · rename_i hc; simp only [Option.some.injEq] at h; exact ⟨hc, h.symm⟩
  · cases h

theorem take_rel {cs cs' l : List Value} {o n : Nat} (h : take cs o n = some l) (hr : VRels m cs cs') : ∃ l', take cs' o n = some l' ∧ VRels m l l' := by
  obtain ⟨h1, rfl⟩ := take_spec h
  refine ⟨(cs'.drop o).take n, ?_, (hr.drop o).take n⟩
  simp [take, ← hr.length, h1]

theorem take_extract {cs l : List Value} {o n : Nat} (h : take cs o n = some l) : (⟨cs⟩ : Array Value).extract o (o + n) = ⟨l⟩ := by
  obtain ⟨h1, rfl⟩ := take_spec h
  apply Array.ext'
  simp

theorem evIdx_spec {x : Value} {len k : Nat} (h : evIdx x len = some k) : ∃ kd, x = .int kd (k : Int) ∧ k < len := by
  unfold evIdx at h
  split at h
  · rename_i kd i
    cases hb : Nat.blt i len with
    | false => simp [hb] at h
    | true =>
      simp only [hb, cond_true, Option.some.injEq] at h; subst h
      rw [Nat.blt_eq] at hb
      exact ⟨kd, rfl, hb⟩
  · cases h

theorem VRel.int_eq {k : IntKind} {i : Int} {v : Value} (h : VRel m (.int k i) v) : v = .int k i := by cases h; rfl
theorem VRel.bool_eq {b : Bool} {v : Value} (h : VRel m (.bool b) v) : v = .bool b := by cases h; rfl
theorem VRel.string_eq {b : ByteArray} {v : Value} (h : VRel m (.string b) v) : v = .string b := by cases h; rfl

/-- What a pure operation gives: the same of both. -/
def Gives (P : Program) (m : Mu) (ρ : Operand → Value) (o : Oper) (v : Value) : Prop :=
  ∃ v', VRel m v v' ∧ ∀ w, (execOp ρ o).run P w = .ok (.value v') w

section
variable {o : Oper} {v : Value}

theorem g_mov {x : Operand} (ho : o.op = .move x ∨ o.op = .assign x) (hx : ORel m e ρ x) (h : pureOf P e (.mov (opd x)) = some v) : Gives P m ρ o v := by
  simp only [pureOf, Option.some.injEq] at h; subst h
  exact ⟨ρ x, hx, fun w => by rcases ho with ho | ho <;> simp [execOp, ho]⟩

theorem g_pick {c a b : Operand} (ho : o.op = .pick c a b) (hc : ORel m e ρ c) (ha : ORel m e ρ a) (hb : ORel m e ρ b)
    (h : pureOf P e (.pick (opd c) (opd a) (opd b)) = some v) : Gives P m ρ o v := by
  simp only [pureOf] at h
  split at h
  · rename_i t ht
    simp only [Option.some.injEq] at h; subst h
    have hc' := hc; unfold ORel at hc'; rw [ht] at hc'
    cases t with
    | true => exact ⟨ρ a, ha, fun w => by simp [execOp, ho, hc'.bool_eq, asBool]⟩
    | false => exact ⟨ρ b, hb, fun w => by simp [execOp, ho, hc'.bool_eq, asBool]⟩
  · cases h

theorem g_nilCheck {x : Operand} (ho : o.op = .nilCheck x) (hx : ORel m e ρ x) (h : pureOf P e (.nilCheck (opd x)) = some v) : Gives P m ρ o v := by
  simp only [pureOf] at h
  split at h
  · rename_i a ha
    simp only [Option.some.injEq] at h; subst h
    have hx' := hx; unfold ORel at hx'; rw [ha] at hx'
    refine ⟨ρ x, hx', fun w => ?_⟩
    generalize hy : ρ x = y at *
    cases hx'
    simp [execOp, ho, hy]
  · rename_i f a b ha
    simp only [Option.some.injEq] at h; subst h
    have hx' := hx; unfold ORel at hx'; rw [ha] at hx'
    refine ⟨ρ x, hx', fun w => ?_⟩
    generalize hy : ρ x = y at *
    cases hx'
    simp [execOp, ho, hy]
  · cases h
end
end Go.Am
