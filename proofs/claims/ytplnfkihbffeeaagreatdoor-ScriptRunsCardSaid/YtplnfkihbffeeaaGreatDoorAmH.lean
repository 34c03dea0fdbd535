/- Operations that touch no memory: fields, indexes, slices. -/
import Derived.Test.YtplnfkihbffeeaaGreatDoorAmF
namespace Go.Am
variable {P : Program} {G : Cfg} {m : Mu} {s : St} {w : World} {n : Nat} {e : Env} {ρ : Operand → Value} {o : Oper} {v : Value}

theorem VRel.agg_eq {cs : Array Value} {v : Value} (h : VRel m (.agg cs) v) : ∃ c' : List Value, v = .agg ⟨c'⟩ ∧ VRels m cs.toList c' := by
  cases h with
  | agg h => exact ⟨_, rfl, h⟩
theorem VRel.tuple_eq {cs : Array Value} {v : Value} (h : VRel m (.tuple cs) v) : ∃ c' : List Value, v = .tuple ⟨c'⟩ ∧ VRels m cs.toList c' := by
  cases h with
  | tuple h => exact ⟨_, rfl, h⟩
theorem VRel.ptr_eq {b o : Nat} {v : Value} (h : VRel m (.pointer (some ⟨b, o, none⟩)) v) : ∃ l, m b = some l ∧ v = .pointer (some ⟨l.blk, l.shift + o, none⟩) := by
  cases h with
  | ptr o h => exact ⟨_, h, rfl⟩

theorem g_field1 {t : TypeId} {x : Operand} {i : Nat} {fs : Array Field} {f : Field} {d : TypeDesc} (ho : o.op = .field t x i) (ht : P.underlying t = some (.struct fs)) (hf : fs[i]? = some f)
    (hd : P.underlying f.type = some d) (hag : isAggD d = false) (hx : ORel m e ρ x) (h : pureOf P e (.field1 (opd x) f.offset) = some v) : Gives P m ρ o v := by
  unfold ORel at hx
  simp only [pureOf] at h
  split at h
  · rename_i cs hc
    rw [hc] at hx
    obtain ⟨c', hx', hr⟩ := hx.agg_eq
    obtain ⟨v', h1, h2⟩ := hr.get _ _ h
    refine ⟨v', h2, fun w => ?_⟩
    simp [execOp, ho, Instr.field, run_underlying ht, hf, hx', asAgg, part, isAgg_run hd, hag, h1]
  · cases h

theorem g_fieldN {t : TypeId} {x : Operand} {i z : Nat} {fs : Array Field} {f : Field} {d : TypeDesc} (ho : o.op = .field t x i) (ht : P.underlying t = some (.struct fs)) (hf : fs[i]? = some f)
    (hd : P.underlying f.type = some d) (hag : isAggD d = true) (hz : sizeP P f.type = some z) (hx : ORel m e ρ x) (h : pureOf P e (.fieldN (opd x) f.offset z) = some v) : Gives P m ρ o v := by
  unfold ORel at hx
  simp only [pureOf] at h
  split at h
  · rename_i cs hc
    rw [hc] at hx
    obtain ⟨c', hx', hr⟩ := hx.agg_eq
    simp only [Option.map_eq_some_iff] at h
    obtain ⟨l, hl, rfl⟩ := h
    obtain ⟨l', h1, h2⟩ := take_rel hl hr
    refine ⟨.agg ⟨l'⟩, .agg h2, fun w => ?_⟩
    have := (take_spec h1).2.symm
    simp [execOp, ho, Instr.field, run_underlying ht, hf, hx', asAgg, part, isAgg_run hd, hag, sizeOf_run hz, this]
  · cases h

theorem add_none (b o k : Nat) : (⟨b, o, none⟩ : Addr).add k = ⟨b, o + k, none⟩ := by
  unfold Addr.add
  split
  · rename_i h; subst h; rfl
  · rfl

theorem g_fieldAddr {t : TypeId} {x : Operand} {i z : Nat} {fs : Array Field} {f : Field} (ho : o.op = .fieldAddr t x i) (ht : P.underlying t = some (.struct fs)) (hf : fs[i]? = some f)
    (hz : sizeP P f.type = some z) (hz0 : 0 < z) (hx : ORel m e ρ x) (h : pureOf P e (.fieldAddr (opd x) f.offset) = some v) : Gives P m ρ o v := by
  unfold ORel at hx
  simp only [pureOf] at h
  split at h
  · rename_i b off hc
    simp only [Option.some.injEq] at h; subst h
    rw [hc] at hx
    obtain ⟨l, hl, hx'⟩ := hx.ptr_eq
    refine ⟨_, .ptr _ hl, fun w => ?_⟩
    have : ¬ z = 0 := by omega
    simp [execOp, ho, Instr.fieldAt, run_underlying ht, hf, hx', Instr.sureAddr, fieldPlace, sizeOf_run hz, this, add_none, Nat.add_assoc]
  · cases h

theorem g_indexRow {t el : TypeId} {x i : Operand} {z : Nat} (ho : o.op = .indexAddr t x i) (ht : P.underlying t = some (.slice el)) (hz : sizeP P el = some z)
    (hx : ORel m e ρ x) (hi : ORel m e ρ i) (h : pureOf P e (.indexRow (opd x) (opd i) z) = some v) : Gives P m ρ o v := by
  unfold ORel at hx hi
  simp only [pureOf] at h
  split at h
  · rename_i b off len cap hc
    simp only [Option.map_eq_some_iff] at h
    obtain ⟨k, hk, rfl⟩ := h
    obtain ⟨kd, hki, hlt⟩ := evIdx_spec hk
    rw [hki] at hi; rw [hc] at hx
    have hi' := hi.int_eq
    have key : ∀ (l : Loc) (o' c : Nat), m b = some l → len ≤ c → (o' = l.shift + off ∨ c = 0) → ρ x = .slice (some ⟨l.blk, o', none⟩) len c → Gives P m ρ o (.pointer (some ⟨b, off + k * z, none⟩)) := by
      intro l o' c hl h1 h2 h3
      have e2 : o' = l.shift + off := by omega
      subst e2
      refine ⟨_, .ptr _ hl, fun w => ?_⟩
      have h0 : ¬ len ≤ k := by omega
      simp [execOp, ho, Instr.indexAt, run_underlying ht, h3, hi', asIntOf, h0, sizeOf_run hz, add_none, Nat.add_assoc]
    generalize hy : ρ x = y at *
    cases hx with
    | slice o o' n c h1 h2 h3 h4 => exact key _ _ _ h1 h4 h3 rfl
    | sliceU o o' n c es h1 h2 h3 h4 => exact key _ _ _ h1 h2 h4 rfl
  · cases h

theorem g_indexArr {t el : TypeId} {x i : Operand} {z len : Nat} (ho : o.op = .indexAddr t x i) (ht : P.underlying t = some (.array len el)) (hz : sizeP P el = some z)
    (hx : ORel m e ρ x) (hi : ORel m e ρ i) (h : pureOf P e (.indexArr (opd x) (opd i) len z) = some v) : Gives P m ρ o v := by
  unfold ORel at hx hi
  simp only [pureOf] at h
  split at h
  · rename_i b off hc
    simp only [Option.map_eq_some_iff] at h
    obtain ⟨k, hk, rfl⟩ := h
    obtain ⟨kd, hki, hlt⟩ := evIdx_spec hk
    rw [hki] at hi; rw [hc] at hx
    have hi' := hi.int_eq
    obtain ⟨l, hl, hx'⟩ := hx.ptr_eq
    refine ⟨_, .ptr _ hl, fun w => ?_⟩
    have h0 : ¬ len ≤ k := by omega
    simp [execOp, ho, Instr.indexAt, run_underlying ht, hx', hi', asIntOf, Instr.sureAddr, h0, sizeOf_run hz, add_none, Nat.add_assoc]
  · cases h

theorem g_index1 {t el : TypeId} {x i : Operand} {len : Nat} {d : TypeDesc} (ho : o.op = .index t x i) (ht : P.underlying t = some (.array len el)) (hz : sizeP P el = some 1)
    (hd : P.underlying el = some d) (hag : isAggD d = false)
    (hx : ORel m e ρ x) (hi : ORel m e ρ i) (h : pureOf P e (.index1 (opd x) (opd i) len) = some v) : Gives P m ρ o v := by
  unfold ORel at hx hi
  simp only [pureOf] at h
  split at h
  · rename_i cs hc
    split at h
    · rename_i k hk
      obtain ⟨kd, hki, hlt⟩ := evIdx_spec hk
      rw [hki] at hi; rw [hc] at hx
      have hi' := hi.int_eq
      obtain ⟨c', hx', hr⟩ := hx.agg_eq
      obtain ⟨v', h1, h2⟩ := hr.get _ _ h
      refine ⟨v', h2, fun w => ?_⟩
      have h0 : ¬ len ≤ k := by omega
      simp [execOp, ho, Instr.index, run_underlying ht, hx', hi', asIntOf, h0, sizeOf_run hz, part, isAgg_run hd, hag, h1]
    · cases h
  · cases h

theorem g_indexN {t el : TypeId} {x i : Operand} {len z : Nat} {d : TypeDesc} (ho : o.op = .index t x i) (ht : P.underlying t = some (.array len el)) (hz : sizeP P el = some z)
    (hd : P.underlying el = some d) (hag : isAggD d = true)
    (hx : ORel m e ρ x) (hi : ORel m e ρ i) (h : pureOf P e (.indexN (opd x) (opd i) len z) = some v) : Gives P m ρ o v := by
  unfold ORel at hx hi
  simp only [pureOf] at h
  split at h
  · rename_i cs hc
    split at h
    · rename_i k hk
      obtain ⟨kd, hki, hlt⟩ := evIdx_spec hk
      rw [hki] at hi; rw [hc] at hx
      have hi' := hi.int_eq
      obtain ⟨c', hx', hr⟩ := hx.agg_eq
      simp only [Option.map_eq_some_iff] at h
      obtain ⟨l, hl, rfl⟩ := h
      obtain ⟨l', h1, h2⟩ := take_rel hl hr
      refine ⟨.agg ⟨l'⟩, .agg h2, fun w => ?_⟩
      have h0 : ¬ len ≤ k := by omega
      have h3 := (take_spec h1).2.symm
      simp [execOp, ho, Instr.index, run_underlying ht, hx', hi', asIntOf, h0, sizeOf_run hz, part, isAgg_run hd, hag, h3]
    · cases h
  · cases h

theorem g_indexStr {t : TypeId} {x i : Operand} (ho : o.op = .index t x i) (ht : P.underlying t = some .string)
    (hx : ORel m e ρ x) (hi : ORel m e ρ i) (h : pureOf P e (.indexStr (opd x) (opd i)) = some v) : Gives P m ρ o v := by
  unfold ORel at hx hi
  simp only [pureOf] at h
  split at h
  · rename_i b kd k hb hk
    simp only [Option.map_eq_some_iff] at h
    obtain ⟨c, hc, rfl⟩ := h
    rw [hk] at hi; rw [hb] at hx
    have hi' := hi.int_eq
    have hx' := hx.string_eq
    refine ⟨_, .int _ _, fun w => ?_⟩
    have hb' : b[k]? = some c := by
      have hlt : k < b.data.toList.length := (List.getElem?_eq_some_iff.1 hc).1
      have hlt' : k < b.size := by simpa using hlt
      rw [getElem?_pos b k hlt']
      have := (List.getElem?_eq_some_iff.1 hc).2
      simp only [Array.getElem_toList] at this
      rw [← this]; rfl
    simp [execOp, ho, Instr.index, run_underlying ht, hx', hi', asIntOf, hb']
  · cases h

theorem g_extract {x : Operand} {i : Nat} (ho : o.op = .extract x i) (hx : ORel m e ρ x) (h : pureOf P e (.extract (opd x) i) = some v) : Gives P m ρ o v := by
  unfold ORel at hx
  simp only [pureOf] at h
  split at h
  · rename_i vs hc
    rw [hc] at hx
    obtain ⟨c', hx', hr⟩ := hx.tuple_eq
    obtain ⟨v', h1, h2⟩ := hr.get _ _ h
    exact ⟨v', h2, fun w => by simp [execOp, ho, Instr.extract, hx', h1]⟩
  · cases h

theorem VRels.map_op : ∀ {l : List Operand}, (∀ x ∈ l, ORel m e ρ x) → VRels m (l.map fun x => (opd x).ev e) (l.map ρ)
  | [], _ => .nil
  | a :: l, h => .cons (h a (by simp)) (VRels.map_op fun x hx => h x (by simp [hx]))

theorem g_makeFunc {f : FuncId} {first captured : Array Operand} (ho : o.op = .makeFunc (.func f) first captured)
    (hx : ∀ x ∈ first.toList, ORel m e ρ x) (hy : ∀ x ∈ captured.toList, ORel m e ρ x) (h : pureOf P e (.makeFunc f (first.toList.map opd) (captured.toList.map opd)) = some v) : Gives P m ρ o v := by
  simp only [pureOf, Option.some.injEq, List.map_map] at h; subst h
  refine ⟨.func (.func f) ⟨first.toList.map ρ⟩ ⟨captured.toList.map ρ⟩, .func _ (VRels.map_op hx) (VRels.map_op hy), fun w => ?_⟩
  have e1 : (⟨first.toList.map ρ⟩ : Array Value) = first.map ρ := by apply Array.ext'; simp
  have e2 : (⟨captured.toList.map ρ⟩ : Array Value) = captured.map ρ := by apply Array.ext'; simp
  simp [execOp, ho, Instr.makeFunc, e1, e2]

theorem g_build {t : TypeId} {ps : Array (Nat × Operand)} {z : List Value} {pl : List (Nat × Nat × Opd)} (ho : o.op = .build t ps) (hz : zeroP P t = some z)
    (hp : (∃ fs, P.underlying t = some (.struct fs) ∧ (fs.toList.all fun f => (P.info? f.type).isSome) = true ∧ parts (fieldP P fs) ps.toList = some pl) ∨
      (∃ k el y, P.underlying t = some (.array k el) ∧ sizeP P el = some y ∧ parts (fun i => some (i * y, y)) ps.toList = some pl))
    (hx : ∀ p ∈ ps.toList, ORel m e ρ p.2) (h : pureOf P e (.build z pl) = some v) : Gives P m ρ o v := by
  simp only [pureOf, Option.map_eq_some_iff] at h
  obtain ⟨cs, hf, rfl⟩ := h
  obtain ⟨c, h1, h2⟩ := build_run hz hp hf hx
  refine ⟨.agg ⟨c⟩, .agg h1, fun w => ?_⟩
  have := h2 w
  simp only [execOp, ho, Sem.run_bind, this]
  rfl
end Go.Am
