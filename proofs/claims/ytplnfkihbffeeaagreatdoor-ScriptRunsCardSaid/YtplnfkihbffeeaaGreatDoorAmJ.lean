/- Operations that touch no memory: the rest, and all of them. -/
import Derived.Test.YtplnfkihbffeeaaGreatDoorAmI
namespace Go.Am
variable {P : Program} {G : Cfg} {m : Mu} {s : St} {w : World} {n : Nat} {e : Env} {ρ : Operand → Value} {o : Oper} {v : Value}

theorem g_sliceStr {t : TypeId} {x : Operand} {lo hi mx : Option Operand} (ho : o.op = .slice t x lo hi mx) (hmx : mx = none) (ht : P.underlying t = some .string)
    (hx : ORel m e ρ x) (h1 : ORelO m e ρ lo) (h2 : ORelO m e ρ hi)
    (h : pureOf P e (.sliceStr (opd x) (lo.map opd) (hi.map opd)) = some v) : Gives P m ρ o v := by
  subst hmx
  unfold ORel at hx
  simp only [pureOf] at h
  split at h
  · rename_i b hc
    rw [hc] at hx
    have hx' := hx.string_eq
    simp only [Option.map_eq_some_iff] at h
    obtain ⟨⟨l, hh, k⟩, hbd, rfl⟩ := h
    have hr := fun w => bounds_run (P := P) (ρ := ρ) (mx := none) false hbd h1 h2 (fun _ h => by cases h) (Nat.le_refl _) (Nat.le_refl _) w
    refine ⟨_, .string _, fun w => ?_⟩
    have hw := (hr w).1
    simp only [Option.map_none] at hw
    have hxt : b.extract l hh = ⟨⟨(b.data.toList.drop l).take (hh - l)⟩⟩ := by
      apply ByteArray.ext
      apply Array.ext'
      simp [ByteArray.data_extract]
    simp [execOp, ho, Instr.sliceAt, run_underlying ht, Instr.slice, hx', hw, hxt]
  · cases h

theorem g_sliceArr {t el : TypeId} {x : Operand} {lo hi mx : Option Operand} {len z : Nat} (ho : o.op = .slice t x lo hi mx) (ht : P.underlying t = some (.array len el)) (hz : sizeP P el = some z) (hU : len < U)
    (hx : ORel m e ρ x) (h1 : ORelO m e ρ lo) (h2 : ORelO m e ρ hi) (h3 : ORelO m e ρ mx)
    (h : pureOf P e (.sliceArr (opd x) (lo.map opd) (hi.map opd) (mx.map opd) len z) = some v) : Gives P m ρ o v := by
  unfold ORel at hx
  simp only [pureOf] at h
  split at h
  · rename_i b off hc
    rw [hc] at hx
    obtain ⟨lc, hl, hx'⟩ := hx.ptr_eq
    simp only [Option.map_eq_some_iff] at h
    obtain ⟨⟨l, hh, k⟩, hbd, rfl⟩ := h
    have hr := fun w => bounds_run (P := P) (ρ := ρ) false hbd h1 h2 h3 (Nat.le_refl _) (Nat.le_refl _) w
    obtain ⟨-, hl1, hl2, hl3, hl4⟩ := hr default
    have hk : (if mx.isSome then k else len) = k := by cases mx with
      | none => simpa using (hl4 rfl).symm
      | some _ => rfl
    show Gives P m ρ o (.slice (some ⟨b, bif Nat.beq k l then off else off + l * z, none⟩) (hh - l) (k - l))
    refine ⟨.slice (some ⟨lc.blk, if k = l then lc.shift + off else lc.shift + off + l * z, none⟩) (hh - l) (k - l), .slice _ _ _ _ hl (by omega) ?_ (by omega), fun w => ?_⟩
    · by_cases e1 : k = l
      · right; omega
      · rw [Tr.beqN e1, cond_false, if_neg e1]; omega
    · have hw := (hr w).1
      rw [hk] at hw
      by_cases e1 : k = l
      · simp [execOp, ho, Instr.sliceAt, run_underlying ht, hx', Instr.sureAddr, hw, sizeOf_run hz, e1]
      · simp [execOp, ho, Instr.sliceAt, run_underlying ht, hx', Instr.sureAddr, hw, sizeOf_run hz, e1, add_none]
  · cases h

theorem len_run {c : Call} {r : Int} (ho : o.op = .call c) (hc : c.callee = .builtin .len) (w : World)
    (h : ∀ ty, (Builtin.len_ c.argTypes ty (c.args.map ρ)).run P w = .ok (goInt r) w) : (execOp ρ o).run P w = .ok (.value (.int .i64 r)) w := by
  simp only [execOp, ho, resolve, hc]
  simp [invoke, builtin, h, goInt]

theorem toList_get {α : Type} {a : Array α} {x : α} {l : List α} (h : a.toList = x :: l) : a[0]? = some x := by
  rw [← Array.getElem?_toList, h]; rfl

theorem g_lenStr {c : Call} {t : TypeId} {x : Operand} {tx : List TypeId} {xs : List Operand} (ho : o.op = .call c) (hc : c.callee = .builtin .len) (ht : c.argTypes.toList = t :: tx) (hxs : c.args.toList = x :: xs)
    (hu : P.underlying t = some .string) (hx : ORel m e ρ x) (h : pureOf P e (.lenStr (opd x)) = some v) : Gives P m ρ o v := by
  unfold ORel at hx
  simp only [pureOf] at h
  split at h
  · rename_i b hb
    rw [hb] at hx
    simp only [Option.some.injEq] at h; subst h
    refine ⟨_, .int _ _, fun w => len_run ho hc w fun ty => ?_⟩
    have e1 := toList_get ht
    have e2 := toList_get hxs
    simp [Builtin.len_, e1, e2, run_underlying hu, hx.string_eq]
  · cases h

theorem g_lenRow {c : Call} {t el : TypeId} {x : Operand} {tx : List TypeId} {xs : List Operand} (ho : o.op = .call c) (hc : c.callee = .builtin .len) (ht : c.argTypes.toList = t :: tx) (hxs : c.args.toList = x :: xs)
    (hu : P.underlying t = some (.slice el)) (hx : ORel m e ρ x) (h : pureOf P e (.lenRow (opd x)) = some v) : Gives P m ρ o v := by
  unfold ORel at hx
  simp only [pureOf] at h
  split at h
  · rename_i a n0 c0 hb
    rw [hb] at hx
    simp only [Option.some.injEq] at h; subst h
    obtain ⟨a', c', hx', -⟩ := slice_nil hx
    refine ⟨_, .int _ _, fun w => len_run ho hc w fun ty => ?_⟩
    have e1 := toList_get ht
    have e2 := toList_get hxs
    simp [Builtin.len_, e1, e2, run_underlying hu, hx']
  · cases h

theorem g_lenArr {c : Call} {t el : TypeId} {x : Operand} {k : Nat} {tx : List TypeId} {xs : List Operand} (ho : o.op = .call c) (hc : c.callee = .builtin .len) (ht : c.argTypes.toList = t :: tx) (hxs : c.args.toList = x :: xs)
    (hu : P.underlying t = some (.array k el)) (h : pureOf P e (.lenArr k) = some v) : Gives P m ρ o v := by
  simp only [pureOf, Option.some.injEq] at h; subst h
  refine ⟨_, .int _ _, fun w => len_run ho hc w fun ty => ?_⟩
  have e1 := toList_get ht
  have e2 := toList_get hxs
  simp [Builtin.len_, e1, e2, run_underlying hu]

theorem ops_flat : ∀ {op : Op} {x : Operand}, x ∈ op.operands.toList → x ∈ op.operands := fun h => by simpa using h

theorem ORels (ho : ∀ x ∈ o.op.operands.toList, ORel m e ρ x) {x : Operand} (hx : x ∈ o.op.operands) : ORel m e ρ x := ho x (by simpa using hx)

theorem head_eq {α : Type} {l : List α} {x : α} (h : l[0]? = some x) : ∃ r, l = x :: r := by
  cases l with
  | nil => simp at h
  | cons a r => simp at h; exact ⟨r, by rw [h]⟩

/-- An operation by which nothing but its operands' values counts. -/
theorem plain_congr {l : List Operand} (hl : o.op.operands.toList = l) (hs : ∀ cs b, o.op ≠ .select cs b) :
    ∀ ρ', (∀ x ∈ l, ρ' x = ρ x) → execOp ρ' o = execOp ρ o := by
  intro ρ' h
  refine execOp_congr o hs fun x hx => ?_
  exact h x (by rw [← hl]; simpa using hx)

theorem g_plainOf {l : List Operand} {op : AOp} (hl : o.op.operands.toList = l) (hs : ∀ cs b, o.op ≠ .select cs b) (hc : plainOf o l = some op) (ho : ∀ x ∈ o.op.operands.toList, ORel m e ρ x)
    (h : pureOf P e op = some v) : Gives P m ρ o v := by
  unfold plainOf at hc
  split at hc
  · rename_i hall
    simp only [Option.some.injEq] at hc; subst hc
    refine g_plain (plain_congr hl hs) ?_ (by rw [hl] at ho; exact ho) h
    intro x hx g
    have := List.all_eq_true.1 hall x hx
    cases x <;> simp [isTC] at this ⊢
  · cases hc

set_option maxHeartbeats 1000000 in
theorem pure_sound0 {op : AOp} (hc : comp0 P o = some op) (hcl : op.cls = .pure) (ho : ∀ x ∈ o.op.operands.toList, ORel m e ρ x)
    (h : pureOf P e op = some v) : Gives P m ρ o v := by
  unfold comp0 at hc
  split at hc
  · rename_i x hop
    simp only [Option.some.injEq] at hc; subst hc
    exact g_mov (.inl hop) (ho x (by simp [hop, Op.operands])) h
  · rename_i x hop
    simp only [Option.some.injEq] at hc; subst hc
    exact g_mov (.inr hop) (ho x (by simp [hop, Op.operands])) h
  · rename_i c a b hop
    simp only [Option.some.injEq] at hc; subst hc
    exact g_pick hop (ho c (by simp [hop, Op.operands])) (ho a (by simp [hop, Op.operands])) (ho b (by simp [hop, Op.operands])) h
  · -- alloc
    simp only [Option.bind_eq_bind, Option.bind_eq_some_iff, Option.some.injEq] at hc
    obtain ⟨z, -, rfl⟩ := hc
    simp [AOp.cls] at hcl
  · -- box
    simp only [Option.some.injEq] at hc; subst hc
    simp [AOp.cls] at hcl
  · -- build
    rename_i t ps hop
    simp only [Option.bind_eq_bind, Option.bind_eq_some_iff] at hc
    obtain ⟨z, hz, d, hd, hc⟩ := hc
    have hps : ∀ p ∈ ps.toList, ORel m e ρ p.2 := fun p hp => ho p.2 (by
      simp only [hop, Op.operands]
      simpa using ⟨p.1, by simpa using hp⟩)
    split at hc
    · rename_i fs
      split at hc
      · rename_i hall
        simp only [Option.map_eq_some_iff] at hc
        obtain ⟨pl, hpl, rfl⟩ := hc
        exact g_build hop hz (.inl ⟨fs, hd, hall, hpl⟩) hps h
      · cases hc
    · rename_i k el
      simp only [Option.bind_eq_some_iff, Option.map_eq_some_iff] at hc
      obtain ⟨y, hy, pl, hpl, rfl⟩ := hc
      exact g_build hop hz (.inr ⟨k, el, y, hd, hy, hpl⟩) hps h
    · cases hc
  · -- buildSlice
    simp only [Option.bind_eq_bind, Option.bind_eq_some_iff] at hc
    obtain ⟨⟨el, i⟩, -, z, -, hc⟩ := hc
    split at hc
    · simp only [Option.map_eq_some_iff] at hc
      obtain ⟨pl, -, rfl⟩ := hc
      simp [AOp.cls] at hcl
    · cases hc
  · -- load
    simp only [Option.bind_eq_bind, Option.bind_eq_some_iff] at hc
    obtain ⟨d, -, hc⟩ := hc
    split at hc
    · simp only [Option.bind_eq_some_iff, Option.some.injEq] at hc
      obtain ⟨k, -, rfl⟩ := hc
      simp [AOp.cls] at hcl
    · simp only [Option.some.injEq] at hc; subst hc
      simp [AOp.cls] at hcl
  · -- store
    simp only [Option.bind_eq_bind, Option.bind_eq_some_iff, Option.some.injEq] at hc
    obtain ⟨z, -, rfl⟩ := hc
    simp [AOp.cls] at hcl
  · rename_i x hop
    simp only [Option.some.injEq] at hc; subst hc
    exact g_nilCheck hop (ho x (by simp [hop, Op.operands])) h
  · -- binOp
    rename_i bop t x y yt hop
    have hx : ORel m e ρ x := ho x (by simp [hop, Op.operands])
    have hy : ORel m e ρ y := ho y (by simp [hop, Op.operands])
    have hl : o.op.operands.toList = [x, y] := by simp [hop, Op.operands]
    have hs : ∀ cs b, o.op ≠ .select cs b := by intro cs b; rw [hop]; simp
    simp only [Option.bind_eq_bind, Option.bind_eq_some_iff] at hc
    obtain ⟨d, hd, hc⟩ := hc
    split at hc
    case h_5 => simp only [Option.some.injEq] at hc; subst hc; exact g_arith hop hx hy h
    case h_6 => simp only [Option.some.injEq] at hc; subst hc; exact g_nilP hop (.inl ⟨rfl, rfl⟩) hd hx hy h
    case h_7 => simp only [Option.some.injEq] at hc; subst hc; exact g_nilP hop (.inr ⟨rfl, rfl⟩) hd hx hy h
    case h_8 => simp only [Option.some.injEq] at hc; subst hc; exact g_nilS hop (.inl ⟨rfl, rfl⟩) hd hx hy h
    case h_9 => simp only [Option.some.injEq] at hc; subst hc; exact g_nilS hop (.inr ⟨rfl, rfl⟩) hd hx hy h
    all_goals exact g_plainOf hl hs hc ho h
  · -- unOp
    rename_i x hop
    exact g_plainOf (l := [x]) (by simp [hop, Op.operands]) (by intro cs b; rw [hop]; simp) hc ho h
  · rename_i x hop
    exact g_plainOf (l := [x]) (by simp [hop, Op.operands]) (by intro cs b; rw [hop]; simp) hc ho h
  · -- field
    rename_i t x i hop
    have hx : ORel m e ρ x := ho x (by simp [hop, Op.operands])
    simp only [Option.bind_eq_bind, Option.bind_eq_some_iff] at hc
    obtain ⟨d, hd, hc⟩ := hc
    split at hc
    · rename_i fs
      simp only [Option.bind_eq_some_iff] at hc
      obtain ⟨f, hf, d2, hd2, hc⟩ := hc
      split at hc
      · rename_i hag
        simp only [Option.bind_eq_some_iff, Option.some.injEq] at hc
        obtain ⟨z, hz, rfl⟩ := hc
        exact g_fieldN hop hd hf hd2 hag hz hx h
      · rename_i hag
        simp only [Option.some.injEq] at hc; subst hc
        exact g_field1 hop hd hf hd2 hag hx h
    · cases hc
  · -- fieldAddr
    rename_i t x i hop
    have hx : ORel m e ρ x := ho x (by simp [hop, Op.operands])
    simp only [Option.bind_eq_bind, Option.bind_eq_some_iff] at hc
    obtain ⟨d, hd, hc⟩ := hc
    split at hc
    · rename_i fs
      simp only [Option.bind_eq_some_iff] at hc
      obtain ⟨f, hf, z, hz, hc⟩ := hc
      split at hc
      · rename_i hz0
        simp only [Option.some.injEq] at hc; subst hc
        exact g_fieldAddr hop hd hf hz hz0 hx h
      · cases hc
    · cases hc
  · -- indexAddr
    rename_i t x i hop
    have hx : ORel m e ρ x := ho x (by simp [hop, Op.operands])
    have hi : ORel m e ρ i := ho i (by simp [hop, Op.operands])
    simp only [Option.bind_eq_bind, Option.bind_eq_some_iff] at hc
    obtain ⟨d, hd, hc⟩ := hc
    split at hc
    · simp only [Option.bind_eq_some_iff, Option.some.injEq] at hc
      obtain ⟨z, hz, rfl⟩ := hc
      exact g_indexArr hop hd hz hx hi h
    · simp only [Option.bind_eq_some_iff, Option.some.injEq] at hc
      obtain ⟨z, hz, rfl⟩ := hc
      exact g_indexRow hop hd hz hx hi h
    · cases hc
  · -- index
    rename_i t x i hop
    have hx : ORel m e ρ x := ho x (by simp [hop, Op.operands])
    have hi : ORel m e ρ i := ho i (by simp [hop, Op.operands])
    simp only [Option.bind_eq_bind, Option.bind_eq_some_iff] at hc
    obtain ⟨d, hd, hc⟩ := hc
    split at hc
    · simp only [Option.bind_eq_some_iff] at hc
      obtain ⟨z, hz, d2, hd2, hc⟩ := hc
      split at hc
      · rename_i hag
        simp only [Option.some.injEq] at hc; subst hc
        exact g_indexN hop hd hz hd2 hag hx hi h
      · rename_i hag
        split at hc
        · rename_i hz1; subst hz1
          simp only [Option.some.injEq] at hc; subst hc
          exact g_index1 hop hd hz hd2 hag hx hi h
        · cases hc
    · simp only [Option.some.injEq] at hc; subst hc
      exact g_indexStr hop hd hx hi h
    · cases hc
  · -- slice
    rename_i t x lo hi mx hop
    have hx : ORel m e ρ x := ho x (by simp [hop, Op.operands])
    have h1 : ORelO m e ρ lo := fun y hy => ho y (by simp [hop, Op.operands, hy])
    have h2 : ORelO m e ρ hi := fun y hy => ho y (by simp [hop, Op.operands, hy])
    have h3 : ORelO m e ρ mx := fun y hy => ho y (by simp [hop, Op.operands, hy])
    simp only [Option.bind_eq_bind, Option.bind_eq_some_iff] at hc
    obtain ⟨d, hd, hc⟩ := hc
    split at hc
    · split at hc
      · rename_i hmx
        simp only [Option.some.injEq] at hc; subst hc
        exact g_sliceStr hop (by simpa using hmx) hd hx h1 h2 h
      · cases hc
    · simp only [Option.bind_eq_some_iff] at hc
      obtain ⟨z, hz, hc⟩ := hc
      split at hc
      · rename_i hU
        simp only [Option.some.injEq] at hc; subst hc
        exact g_sliceArr hop hd hz hU hx h1 h2 h3 h
      · cases hc
    · simp only [Option.bind_eq_some_iff, Option.some.injEq] at hc
      obtain ⟨z, hz, rfl⟩ := hc
      exact g_slice hop hd hz hx h1 h2 h3 h
    · cases hc
  · -- makeSlice
    simp only [Option.bind_eq_bind, Option.bind_eq_some_iff] at hc
    obtain ⟨⟨el, i⟩, -, z, -, hc⟩ := hc
    split at hc
    · simp only [Option.some.injEq] at hc; subst hc
      simp [AOp.cls] at hcl
    · cases hc
  · rename_i x i hop
    simp only [Option.some.injEq] at hc; subst hc
    exact g_extract hop (ho x (by simp [hop, Op.operands])) h
  · rename_i f first captured hop
    simp only [Option.some.injEq] at hc; subst hc
    exact g_makeFunc hop (fun x hx => ho x (by simp only [hop, Op.operands]; simp at hx ⊢; exact .inl hx)) (fun x hx => ho x (by simp only [hop, Op.operands]; simp at hx ⊢; exact .inr hx)) h
  · -- call
    rename_i c hop
    have hs : ∀ cs b, o.op ≠ .select cs b := by intro cs b; rw [hop]; simp
    split at hc
    · rename_i hcal
      exact g_plainOf (l := c.args.toList) (by simp [hop, Op.operands, Call.operands, hcal]) hs hc ho h
    · rename_i hcal
      exact g_plainOf (l := c.args.toList) (by simp [hop, Op.operands, Call.operands, hcal]) hs hc ho h
    · unfold compCall at hc
      split at hc
      · simp only [Option.some.injEq] at hc; subst hc
        simp [AOp.cls] at hcl
      · simp only [Option.some.injEq] at hc; subst hc
        simp [AOp.cls] at hcl
      · rename_i hcal
        simp only [Option.bind_eq_bind, Option.bind_eq_some_iff] at hc
        obtain ⟨t, ht, x, hx, d, hd, hc⟩ := hc
        obtain ⟨tr, htl⟩ := head_eq ht
        obtain ⟨xr, hxl⟩ := head_eq hx
        have hmx : x ∈ c.args.toList := by rw [hxl]; simp
        have hox : ORel m e ρ x := ho x (by simp [hop, Op.operands, Call.operands, hcal]; simpa using hmx)
        split at hc
        · simp only [Option.some.injEq] at hc; subst hc
          exact g_lenStr hop hcal htl hxl hd hox h
        · simp only [Option.some.injEq] at hc; subst hc
          exact g_lenRow hop hcal htl hxl hd hox h
        · simp only [Option.some.injEq] at hc; subst hc
          exact g_lenArr hop hcal htl hxl hd h
        · cases hc
      · simp only [Option.bind_eq_bind] at hc
        split at hc
        · simp only [Option.bind_eq_some_iff] at hc
          obtain ⟨⟨el, i⟩, -, z, -, d, -, hc⟩ := hc
          split at hc
          · simp only [Option.some.injEq] at hc; subst hc
            simp [AOp.cls] at hcl
          · simp only [Option.some.injEq] at hc; subst hc
            simp [AOp.cls] at hcl
          · cases hc
        · cases hc
      · simp only [Option.bind_eq_bind] at hc
        split at hc
        · simp only [Option.bind_eq_some_iff] at hc
          obtain ⟨⟨el, i⟩, -, hc⟩ := hc
          simp only [Option.some.injEq] at hc; subst hc
          simp [AOp.cls] at hcl
        · cases hc
      · cases hc
  · cases hc
end Go.Am
