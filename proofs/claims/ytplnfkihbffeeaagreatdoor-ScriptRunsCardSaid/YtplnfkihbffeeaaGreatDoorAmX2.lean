/- The younger operations that touch no memory. -/
import Derived.Test.YtplnfkihbffeeaaGreatDoorAmX
namespace Go.Am
variable {P : Program} {G : Cfg} {m : Mu} {s : St} {w : World} {n : Nat} {e : Env} {ρ : Operand → Value} {o : Oper} {v : Value}

theorem iface_inv {t : TypeId} {v y : Value} (h : VRel m (.iface t v) y) : ∃ v', y = .iface t v' ∧ VRel m v v' := by
  cases h with
  | iface _ h => exact ⟨_, rfl, h⟩

theorem run_info {t : TypeId} {i : TypeInfo} (h : P.info? t = some i) (w : World) : (typeInfo t).run P w = .ok i w := by simp [typeInfo, h]

theorem gx_iface {t : TypeId} {x : Operand} {d : TypeDesc} (hop : o.op = .makeInterface t x) (hd : P.underlying t = some d) (hno : ∀ q, d ≠ .interface q) (hx : ORel m e ρ x) : Gives P m ρ o (.iface t ((opd x).ev e)) := by
  refine ⟨.iface t (ρ x), .iface t hx, fun w => ?_⟩
  cases d <;> first | exact absurd rfl (hno _) | simp [execOp, hop, Instr.makeInterface, run_underlying hd]

theorem gx_assert {x : Operand} {xt t : TypeId} {d : TypeDesc} {i : TypeInfo} {z : Value} (hop : o.op = .typeAssert x xt t true) (hd : P.underlying t = some d) (hno : ∀ q, d ≠ .interface q)
    (hi : P.info? t = some i) (hz : i.zero = some z) (hst : still z = true) (hx : ORel m e ρ x) (h : pureX e (.assert (opd x) t z) = some v) : Gives P m ρ o v := by
  unfold ORel at hx
  simp only [pureX] at h
  have key : ∀ y r, ρ x = y → (∀ w, (Instr.typeAssert y xt t true).run P w = .ok r w) → ∀ w, (execOp ρ o).run P w = .ok (.value r) w := by
    intro y r hy hr w
    simp [execOp, hop, hy, hr]
  split at h
  · rename_i u v1 hv
    rw [hv] at hx
    obtain ⟨v', hy, hv'⟩ := iface_inv hx
    cases hb : Nat.beq u t with
    | true =>
      simp only [hb, cond_true, Option.some.injEq] at h; subst h
      have hut : u = t := Nat.eq_of_beq_eq_true hb
      subst hut
      refine ⟨.tuple ⟨[v', .bool true]⟩, .tuple (.cons hv' (.cons (.bool _) .nil)), key _ _ hy fun w => ?_⟩
      cases d <;> first | exact absurd rfl (hno _) | simp [Instr.typeAssert, run_underlying hd]
    | false =>
      simp only [hb, cond_false, Option.some.injEq] at h; subst h
      have hut : u ≠ t := fun e1 => by rw [e1, Tr.beqS] at hb; cases hb
      refine ⟨.tuple ⟨[z, .bool false]⟩, .tuple (.cons (still_refl hst) (.cons (.bool _) .nil)), key _ _ hy fun w => ?_⟩
      cases d <;> first | exact absurd rfl (hno _) | simp [Instr.typeAssert, run_underlying hd, hut, zeroValue_run hi hz]
  · rename_i hv
    rw [hv] at hx
    simp only [Option.some.injEq] at h; subst h
    have hy : ρ x = .nilIface := by
      generalize ρ x = y at *
      cases hx; rfl
    refine ⟨.tuple ⟨[z, .bool false]⟩, .tuple (.cons (still_refl hst) (.cons (.bool _) .nil)), key _ _ hy fun w => ?_⟩
    cases d <;> first | exact absurd rfl (hno _) | simp [Instr.typeAssert, run_underlying hd, zeroValue_run hi hz]
  · cases h

theorem gx_cap {c : Call} {t el : TypeId} {x : Operand} {tx : List TypeId} {xs : List Operand} (ho : o.op = .call c) (hc : c.callee = .builtin .cap) (ht : c.argTypes.toList = t :: tx) (hxs : c.args.toList = x :: xs)
    (hu : P.underlying t = some (.slice el)) (hx : ORel m e ρ x) (h : pureX e (.cap (opd x)) = some v) : Gives P m ρ o v := by
  unfold ORel at hx
  simp only [pureX] at h
  split at h
  · rename_i a n0 c0 hb
    rw [hb] at hx
    cases hU : Nat.blt c0 U with
    | false => simp [hU] at h
    | true =>
      simp only [hU, cond_true, Option.some.injEq] at h; subst h
      rw [Nat.blt_eq] at hU
      have hx' : ∃ a', ρ x = .slice a' n0 c0 := by
        cases a with
        | none => exact ⟨none, (nilSlice_eq hx).1⟩
        | some a =>
          obtain ⟨b, off, sp⟩ := a
          cases sp with
          | some q => cases hx
          | none =>
            obtain ⟨l, o', c', -, h2, -, -, h5⟩ := slice_inv hx
            rcases h5 with ⟨-, rfl⟩ | ⟨es, h5, -⟩
            · exact ⟨_, h2⟩
            · omega
      obtain ⟨a', hx'⟩ := hx'
      refine ⟨_, .int _ _, fun w => ?_⟩
      have e1 := toList_get ht
      have e2 := toList_get hxs
      simp only [execOp, ho, resolve, hc]
      simp [invoke, builtin, Builtin.cap_, e1, e2, run_underlying hu, hx', goInt]
  · cases h

theorem gx_data {c : Call} {x : Operand} (ho : o.op = .call c) (hc : c.callee = .builtin .unsafeSliceData) (hxs : c.args.toList = [x])
    (hx : ORel m e ρ x) (h : pureX e (.data (opd x)) = some v) : Gives P m ρ o v := by
  unfold ORel at hx
  simp only [pureX] at h
  have hargs := args_one hxs
  split at h
  · rename_i n0 c0 hb
    rw [hb] at hx
    simp only [Option.some.injEq] at h; subst h
    obtain ⟨hx', -, -⟩ := nilSlice_eq hx
    refine ⟨_, .nilPtr, fun w => ?_⟩
    simp only [execOp, ho, resolve, hc]
    simp [invoke, builtin, hargs, hx', Lib.run_unsafeSliceData_nil]
  · rename_i b off n0 c0 hb
    rw [hb] at hx
    cases hn : Nat.beq n0 0 with
    | true => simp [hn] at h
    | false =>
      simp only [hn, cond_false, Option.some.injEq] at h; subst h
      have hn0 : n0 ≠ 0 := fun e1 => by rw [e1] at hn; cases hn
      obtain ⟨l, o', c', h1, h2, h3, h4, -⟩ := slice_inv hx
      have hc0 : c' ≠ 0 := by omega
      have ho' : o' = l.shift + off := h4.resolve_right hc0
      subst ho'
      refine ⟨_, .ptr off h1, fun w => ?_⟩
      simp only [execOp, ho, resolve, hc]
      simp [invoke, builtin, hargs, h2, Lib.run_unsafeSliceData_row _ _ _ _ _ _ hc0]
  · cases h

theorem gx_index {f : FuncId} {fn : Func} {c : Call} {x y : Operand} (ho : o.op = .call c) (hc : c.callee = .value (.func f)) (hρ : ∀ f, ρ (.func f) = .func (.func f) #[] #[]) (hxs : c.args.toList = [x, y])
    (hf : P.funcs[f]? = some fn) (hb : fn.body.isNone = true) (hor : fn.origin = "") (hn : fn.name = "internal/bytealg.IndexByteString") (hx : ORel m e ρ x) (hy : ORel m e ρ y)
    (h : pureX e (.index (opd x) (opd y)) = some v) : Gives P m ρ o v := by
  unfold ORel at hx hy
  simp only [pureX] at h
  split at h
  · rename_i b k h1 h2
    rw [h1] at hx; rw [h2] at hy
    simp only [Option.some.injEq] at h; subst h
    refine ⟨_, .int _ _, fun w => ext_run ho hc hρ hf hb (no_next hn hor (by kernel_rfl)) (find_plain (r := Extern.BytealgIndexByte.indexByte) hn (by kernel_rfl) (by kernel_rfl) (by kernel_rfl)) (by rw [hn]; decide) ?_⟩
    rw [args_two hxs]
    simp only [List.map_toArray, List.map_cons, List.map_nil, hx.string_eq, hy.int_eq]
    exact Lib.run_indexByteString b k w
  · cases h

theorem gx_count {f : FuncId} {fn : Func} {c : Call} {x y : Operand} (ho : o.op = .call c) (hc : c.callee = .value (.func f)) (hρ : ∀ f, ρ (.func f) = .func (.func f) #[] #[]) (hxs : c.args.toList = [x, y])
    (hf : P.funcs[f]? = some fn) (hb : fn.body.isNone = true) (hor : fn.origin = "") (hn : fn.name = "internal/bytealg.CountString") (hx : ORel m e ρ x) (hy : ORel m e ρ y)
    (h : pureX e (.count (opd x) (opd y)) = some v) : Gives P m ρ o v := by
  unfold ORel at hx hy
  simp only [pureX] at h
  split at h
  · rename_i b k h1 h2
    rw [h1] at hx; rw [h2] at hy
    simp only [Option.some.injEq] at h; subst h
    refine ⟨_, .int _ _, fun w => ext_run ho hc hρ hf hb (no_next hn hor (by kernel_rfl)) (find_plain (r := Extern.BytealgCount.count) hn (by kernel_rfl) (by kernel_rfl) (by kernel_rfl)) (by rw [hn]; decide) ?_⟩
    rw [args_two hxs]
    simp only [List.map_toArray, List.map_cons, List.map_nil, hx.string_eq, hy.int_eq]
    exact Lib.run_countString b k w
  · cases h

theorem gx_noEscape {f : FuncId} {fn : Func} {c : Call} {x : Operand} (ho : o.op = .call c) (hc : c.callee = .value (.func f)) (hρ : ∀ f, ρ (.func f) = .func (.func f) #[] #[]) (hxs : c.args.toList = [x])
    (hf : P.funcs[f]? = some fn) (hb : fn.body.isNone = true) (hor : fn.origin = "") (hn : fn.name = "internal/abi.NoEscape") (hx : ORel m e ρ x) : Gives P m ρ o ((opd x).ev e) := by
  refine ⟨ρ x, hx, fun w => ext_run ho hc hρ hf hb (no_next hn hor (by kernel_rfl)) (find_plain (r := Extern.AbiNoEscape.same) hn (by kernel_rfl) (by kernel_rfl) (by kernel_rfl)) (by rw [hn]; decide) ?_⟩
  rw [args_one hxs]
  simp only [List.map_toArray, List.map_cons, List.map_nil]
  rfl

theorem run_ptr_eq {tp te : TypeId} {j : TypeInfo} (a : Addr) (hp : P.underlying tp = some (.pointer te)) (hte : P.info? te = some j) (w : World) :
    (Op.equal tp (.pointer (some a)) (.pointer (some a))).run P w = .ok true w := by
  have h : ∀ d : Nat, (Op.equalIn (d + 1) tp (.pointer (some a)) (.pointer (some a))).run P w = .ok true w := fun d => by
    simp [Op.equalIn, run_underlying hp, sizeOf, typeInfo, hte, run_sameAddr_same]
  simp [Op.equal, Op.maxDepth, h 9999]

theorem gx_ptrEq {op : BinOp} {neg : Bool} {t el yt : TypeId} {j : TypeInfo} {x y : Operand} (ho : o.op = .binOp op t x y yt) (hcase : (op = .eql ∧ neg = false) ∨ (op = .neq ∧ neg = true)) (hp : P.underlying t = some (.pointer el))
    (hte : P.info? el = some j) (hx : ORel m e ρ x) (hy : ORel m e ρ y) (h : pureX e (.ptrEq neg (opd x) (opd y)) = some v) : Gives P m ρ o v := by
  unfold ORel at hx hy
  simp only [pureX] at h
  have key : ∀ (a b : Option Addr) (r : Bool), ρ x = .pointer a → ρ y = .pointer b → (∀ w, (Op.equal t (.pointer a) (.pointer b)).run P w = .ok r w) → Gives P m ρ o (.bool (r != neg)) := by
    intro a b r ha hb hr
    refine ⟨_, .bool _, fun w => ?_⟩
    rcases hcase with ⟨rfl, rfl⟩ | ⟨rfl, rfl⟩
    · simp [execOp, ho, ha, hb, eqGuard, binOp, hr]
    · simp [execOp, ho, ha, hb, eqGuard, binOp, hr]
  have eqn : ∀ (a b : Value) (r : Bool), (∀ d w, (Op.equalIn (d + 1) t a b).run P w = .ok r w) → ∀ w, (Op.equal t a b).run P w = .ok r w := by
    intro a b r hr w
    simp [Op.equal, Op.maxDepth, hr 9999]
  split at h
  · rename_i a h1 h2
    rw [h1] at hx; rw [h2] at hy
    simp only [Option.some.injEq] at h; subst h
    obtain ⟨a', hy', hn⟩ := isNone_eq_nil hy
    obtain ⟨q, hx', hq⟩ := isNone_eq_nil hx
    have hq0 : q = none := by cases q <;> simp_all
    subst hq0
    rw [← hn]
    exact key _ _ _ hx' hy' (eqn _ _ _ fun d w => by simp [Op.equalIn, run_underlying hp])
  · rename_i a h1 h2
    rw [h1] at hx; rw [h2] at hy
    simp only [Option.some.injEq] at h; subst h
    obtain ⟨a', hy', hn⟩ := isNone_eq_nil hy
    obtain ⟨q, hx', hq⟩ := isNone_eq_nil hx
    have hq0 : a' = none := by cases a' <;> simp_all
    subst hq0
    have := key _ _ false hx' hy' (eqn _ _ _ fun d w => by
      cases q with
      | none => simp at hq
      | some q => simp [Op.equalIn, run_underlying hp])
    simpa using this
  · rename_i a b h1 h2
    rw [h1] at hx; rw [h2] at hy
    split at h
    · rename_i hab
      subst hab
      simp only [Option.some.injEq] at h; subst h
      obtain ⟨k, off, sp⟩ := a
      cases sp with
      | some q => cases hx
      | none =>
        obtain ⟨l, hl, hx'⟩ := hx.ptr_eq
        obtain ⟨l2, hl2, hy'⟩ := hy.ptr_eq
        rw [hl] at hl2; injection hl2 with hl2; subst hl2
        have := key _ _ true hx' hy' (run_ptr_eq _ hp hte)
        simpa using this
    · cases h
  · cases h

set_option maxHeartbeats 1000000 in
theorem pureX_sound {op : AOp} (hc : compX P o = some op) (hcl : op.cls = .pure) (hρ : ∀ f, ρ (.func f) = .func (.func f) #[] #[]) (ho : ∀ x ∈ o.op.operands.toList, ORel m e ρ x)
    (h : pureOf P e op = some v) : Gives P m ρ o v := by
  unfold compX at hc
  split at hc
  · rename_i t x hop
    have hx : ORel m e ρ x := ho x (by simp [hop, Op.operands])
    simp only [Option.bind_eq_bind, Option.bind_eq_some_iff] at hc
    obtain ⟨d, hd, hc⟩ := hc
    split at hc
    · cases hc
    · rename_i hno
      simp only [Option.some.injEq] at hc; subst hc
      simp only [pureOf, pureX, Option.some.injEq] at h; subst h
      exact gx_iface hop hd (fun q hq => hno q hq) hx
  · rename_i x xt t hop
    have hx : ORel m e ρ x := ho x (by simp [hop, Op.operands])
    simp only [Option.bind_eq_bind, Option.bind_eq_some_iff] at hc
    obtain ⟨d, hd, hc⟩ := hc
    split at hc
    · cases hc
    · rename_i hno
      simp only [Option.bind_eq_some_iff] at hc
      obtain ⟨i, hi, z, hz, hc⟩ := hc
      split at hc
      · rename_i hst
        simp only [Option.some.injEq] at hc; subst hc
        exact gx_assert hop hd (fun q hq => hno q hq) hi hz hst hx h
      · cases hc
  · simp only [Option.bind_eq_bind, Option.bind_eq_some_iff] at hc
    obtain ⟨d, hd, hc⟩ := hc
    split at hc
    · simp only [Option.some.injEq] at hc; subst hc; simp [AOp.cls] at hcl
    · cases hc
  · simp only [Option.some.injEq] at hc; subst hc; simp [AOp.cls] at hcl
  · simp only [Option.some.injEq] at hc; subst hc; simp [AOp.cls] at hcl
  · rename_i bop t x y yt hop
    have hx : ORel m e ρ x := ho x (by simp [hop, Op.operands])
    have hy : ORel m e ρ y := ho y (by simp [hop, Op.operands])
    simp only [Option.bind_eq_bind, Option.bind_eq_some_iff] at hc
    obtain ⟨d, hd, hc⟩ := hc
    split at hc
    · rename_i el
      simp only [Option.bind_eq_some_iff] at hc
      obtain ⟨k, hk, hc⟩ := hc
      simp only [sizeP, Option.map_eq_some_iff] at hk
      obtain ⟨j, hj, rfl⟩ := hk
      split at hc
      · split at hc
        · simp only [Option.some.injEq] at hc; subst hc
          exact gx_ptrEq hop (.inl ⟨rfl, rfl⟩) hd hj hx hy h
        · simp only [Option.some.injEq] at hc; subst hc
          exact gx_ptrEq hop (.inr ⟨rfl, rfl⟩) hd hj hx hy h
        · cases hc
      · cases hc
    · cases hc
  · simp only [Option.bind_eq_bind, Option.bind_eq_some_iff] at hc
    obtain ⟨d, hd, hc⟩ := hc
    split at hc
    · simp only [Option.bind_eq_some_iff] at hc
      obtain ⟨d2, hd2, hc⟩ := hc
      split at hc
      · simp only [Option.bind_eq_some_iff] at hc
        obtain ⟨k, hk, hc⟩ := hc
        split at hc
        · simp only [Option.some.injEq] at hc; subst hc; simp [AOp.cls] at hcl
        · cases hc
      · cases hc
    · simp only [Option.bind_eq_some_iff] at hc
      obtain ⟨d2, hd2, hc⟩ := hc
      split at hc
      · simp only [Option.bind_eq_some_iff] at hc
        obtain ⟨k, hk, hc⟩ := hc
        simp only [Option.some.injEq] at hc; subst hc; simp [AOp.cls] at hcl
      · cases hc
    · cases hc
  · rename_i c hop
    split at hc
    · rename_i hcal
      simp only [Option.bind_eq_bind, Option.bind_eq_some_iff] at hc
      obtain ⟨t, ht, x, hx, d, hd, hc⟩ := hc
      obtain ⟨tr, htl⟩ := head_eq ht
      obtain ⟨xr, hxl⟩ := head_eq hx
      have hmx : x ∈ c.args.toList := by rw [hxl]; simp
      have hox : ORel m e ρ x := ho x (by simp [hop, Op.operands, Call.operands, hcal]; simpa using hmx)
      split at hc
      · simp only [Option.some.injEq] at hc; subst hc
        exact gx_cap hop hcal htl hxl hd hox h
      · cases hc
    · rename_i hcal
      split at hc
      · rename_i x hxl
        simp only [Option.some.injEq] at hc; subst hc
        have hmx : x ∈ c.args.toList := by rw [hxl]; simp
        exact gx_data hop hcal hxl (ho x (by simp [hop, Op.operands, Call.operands, hcal]; simpa using hmx)) h
      · cases hc
    · split at hc
      · simp only [Option.bind_eq_bind, Option.bind_eq_some_iff] at hc
        obtain ⟨d, hd, hc⟩ := hc
        split at hc
        · split at hc
          · simp only [Option.some.injEq] at hc; subst hc; simp [AOp.cls] at hcl
          · cases hc
        · cases hc
      · cases hc
    · rename_i f hcal
      have hargs : ∀ x ∈ c.args.toList, ORel m e ρ x := fun x hx => ho x (by
        simp only [hop, Op.operands, Call.operands, Array.toList_append, List.mem_append]; exact .inr hx)
      obtain ⟨fn, hf, hb, hor, hcs⟩ := compExt_spec hc
      rcases hcs with ⟨x, hl, hn, rfl⟩ | ⟨x, t, el, hl, hn, -, -, rfl⟩ | ⟨x, y, hl, hn, rfl⟩ | ⟨x, y, hl, hn, rfl⟩
      · simp only [pureOf, Option.some.injEq] at h; subst h
        exact gx_noEscape hop hcal hρ hl hf hb hor hn (hargs x (by rw [hl]; simp))
      · simp [AOp.cls] at hcl
      · exact gx_index hop hcal hρ hl hf hb hor hn (hargs x (by rw [hl]; simp)) (hargs y (by rw [hl]; simp)) h
      · exact gx_count hop hcal hρ hl hf hb hor hn (hargs x (by rw [hl]; simp)) (hargs y (by rw [hl]; simp)) h
    · simp only [Option.some.injEq] at hc; subst hc; simp [AOp.cls] at hcl
    · cases hc
  · cases hc
end Go.Am
