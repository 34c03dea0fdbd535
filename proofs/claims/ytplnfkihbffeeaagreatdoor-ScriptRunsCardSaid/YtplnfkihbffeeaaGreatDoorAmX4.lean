/- All operations. -/
import Derived.Test.YtplnfkihbffeeaaGreatDoorAmX3
namespace Go.Am
variable {P : Program} {G : Cfg} {m : Mu} {s : St} {w : World} {n : Nat} {e : Env} {ρ : Operand → Value} {o : Oper} {v : Value}

/-- What class a younger operation is of. -/
theorem compX_cls {op : AOp} (hc : compX P o = some op) : op.cls = .pure ∨ op.cls = .act := by
  unfold compX at hc
  split at hc
  · simp only [Option.bind_eq_bind, Option.bind_eq_some_iff] at hc
    obtain ⟨d, hd, hc⟩ := hc
    split at hc
    · cases hc
    · simp only [Option.some.injEq] at hc; subst hc; exact .inl rfl
  · simp only [Option.bind_eq_bind, Option.bind_eq_some_iff] at hc
    obtain ⟨d, hd, hc⟩ := hc
    split at hc
    · cases hc
    · simp only [Option.bind_eq_some_iff] at hc
      obtain ⟨i, hi, z, hz, hc⟩ := hc
      split at hc
      · simp only [Option.some.injEq] at hc; subst hc; exact .inl rfl
      · cases hc
  · simp only [Option.bind_eq_bind, Option.bind_eq_some_iff] at hc
    obtain ⟨d, hd, hc⟩ := hc
    split at hc
    · simp only [Option.some.injEq] at hc; subst hc; exact .inr rfl
    · cases hc
  · simp only [Option.some.injEq] at hc; subst hc; exact .inr rfl
  · simp only [Option.some.injEq] at hc; subst hc; exact .inr rfl
  · simp only [Option.bind_eq_bind, Option.bind_eq_some_iff] at hc
    obtain ⟨d, hd, hc⟩ := hc
    split at hc
    · simp only [Option.bind_eq_some_iff] at hc
      obtain ⟨k, hk, hc⟩ := hc
      split at hc
      · split at hc
        · simp only [Option.some.injEq] at hc; subst hc; exact .inl rfl
        · simp only [Option.some.injEq] at hc; subst hc; exact .inl rfl
        · cases hc
      · cases hc
    · cases hc
  · simp only [Option.bind_eq_bind, Option.bind_eq_some_iff] at hc
    obtain ⟨d, hd, hc⟩ := hc
    split at hc
    · simp only [Option.bind_eq_some_iff] at hc
      obtain ⟨d2, hd2, hc⟩ := hc
      split at hc
      · simp only [Option.bind_eq_some_iff] at hc
        obtain ⟨k, hk, hc⟩ := hc
        split at hc
        · simp only [Option.some.injEq] at hc; subst hc; exact .inr rfl
        · cases hc
      · cases hc
    · simp only [Option.bind_eq_some_iff] at hc
      obtain ⟨d2, hd2, hc⟩ := hc
      split at hc
      · simp only [Option.bind_eq_some_iff] at hc
        obtain ⟨k, hk, hc⟩ := hc
        simp only [Option.some.injEq] at hc; subst hc; exact .inr rfl
      · cases hc
    · cases hc
  · rename_i c hop
    split at hc
    · simp only [Option.bind_eq_bind, Option.bind_eq_some_iff] at hc
      obtain ⟨t, ht, x, hx, d, hd, hc⟩ := hc
      split at hc
      · simp only [Option.some.injEq] at hc; subst hc; exact .inl rfl
      · cases hc
    · split at hc
      · simp only [Option.some.injEq] at hc; subst hc; exact .inl rfl
      · cases hc
    · split at hc
      · simp only [Option.bind_eq_bind, Option.bind_eq_some_iff] at hc
        obtain ⟨d, hd, hc⟩ := hc
        split at hc
        · split at hc
          · simp only [Option.some.injEq] at hc; subst hc; exact .inr rfl
          · cases hc
        · cases hc
      · cases hc
    · obtain ⟨fn, hf, hb, hor, hcs⟩ := compExt_spec hc
      rcases hcs with ⟨x, hl, hn, rfl⟩ | ⟨x, t, el, hl, hn, -, -, rfl⟩ | ⟨x, y, hl, hn, rfl⟩ | ⟨x, y, hl, hn, rfl⟩
      · exact .inl rfl
      · exact .inr rfl
      · exact .inl rfl
      · exact .inl rfl
    · simp only [Option.some.injEq] at hc; subst hc; exact .inr rfl
    · cases hc
  · cases hc

theorem actX_sound {B : Nat → Prop} {id : Nat} {op : AOp} {res : ARes} {s' : St} (hc : compX P o = some op) (hcl : op.cls = .act) (hρ : ∀ f, ρ (.func f) = .func (.func f) #[] #[]) (ho : ∀ x ∈ o.op.operands.toList, ORel m e ρ x)
    (hid : ¬ B id) (hmid : m id = none) (h : actOf P e s id op = some (res, s')) (r : Rel G m s w) : Acts P G B m s w ρ o res s' := by
  unfold compX at hc
  split at hc
  · simp only [Option.bind_eq_bind, Option.bind_eq_some_iff] at hc
    obtain ⟨d, hd, hc⟩ := hc
    split at hc
    · cases hc
    · simp only [Option.some.injEq] at hc; subst hc; simp [AOp.cls] at hcl
  · simp only [Option.bind_eq_bind, Option.bind_eq_some_iff] at hc
    obtain ⟨d, hd, hc⟩ := hc
    split at hc
    · cases hc
    · simp only [Option.bind_eq_some_iff] at hc
      obtain ⟨i, hi, z, hz, hc⟩ := hc
      split at hc
      · simp only [Option.some.injEq] at hc; subst hc; simp [AOp.cls] at hcl
      · cases hc
  · rename_i t x hop
    have hx : ORel m e ρ x := ho x (by simp [hop, Op.operands])
    simp only [Option.bind_eq_bind, Option.bind_eq_some_iff] at hc
    obtain ⟨d, hd, hc⟩ := hc
    split at hc
    · simp only [Option.some.injEq] at hc; subst hc
      exact ax_range hop hd hx hid hmid h r
    · cases hc
  · rename_i x hop
    have hx : ORel m e ρ x := ho x (by simp [hop, Op.operands])
    simp only [Option.some.injEq] at hc; subst hc
    exact ax_next (id := id) hop hx h r
  · rename_i t hop
    simp only [Option.some.injEq] at hc; subst hc
    exact ax_newMap (id := id) (e := e) hop h r
  · simp only [Option.bind_eq_bind, Option.bind_eq_some_iff] at hc
    obtain ⟨d, hd, hc⟩ := hc
    split at hc
    · simp only [Option.bind_eq_some_iff] at hc
      obtain ⟨k, hk, hc⟩ := hc
      split at hc
      · split at hc
        · simp only [Option.some.injEq] at hc; subst hc; simp [AOp.cls] at hcl
        · simp only [Option.some.injEq] at hc; subst hc; simp [AOp.cls] at hcl
        · cases hc
      · cases hc
    · cases hc
  · rename_i src dst x hop
    have hx : ORel m e ρ x := ho x (by simp [hop, Op.operands])
    simp only [Option.bind_eq_bind, Option.bind_eq_some_iff] at hc
    obtain ⟨d, hd, hc⟩ := hc
    split at hc
    · simp only [Option.bind_eq_some_iff] at hc
      obtain ⟨d2, hd2, hc⟩ := hc
      split at hc
      · simp only [Option.bind_eq_some_iff] at hc
        obtain ⟨k, hk, hc⟩ := hc
        simp only [sizeP, Option.map_eq_some_iff] at hk
        obtain ⟨i, hi, rfl⟩ := hk
        split at hc
        · rename_i hk0
          simp only [Option.some.injEq] at hc; subst hc
          exact ax_toU (id := id) hop hd hd2 hi (by omega) hx h r
        · cases hc
      · cases hc
    · simp only [Option.bind_eq_some_iff] at hc
      obtain ⟨d2, hd2, hc⟩ := hc
      split at hc
      · simp only [Option.bind_eq_some_iff] at hc
        obtain ⟨i, hi, hc⟩ := hc
        simp only [Option.some.injEq] at hc; subst hc
        exact ax_fromU (id := id) hop hd hd2 hi hx h r
      · cases hc
    · cases hc
  · rename_i c hop
    have hargs : ∀ x ∈ c.args.toList, ORel m e ρ x := fun x hx => ho x (by
      simp only [hop, Op.operands, Call.operands, Array.toList_append, List.mem_append]; exact .inr hx)
    split at hc
    · simp only [Option.bind_eq_bind, Option.bind_eq_some_iff] at hc
      obtain ⟨t, ht, x, hx, d, hd, hc⟩ := hc
      split at hc
      · simp only [Option.some.injEq] at hc; subst hc; simp [AOp.cls] at hcl
      · cases hc
    · split at hc
      · simp only [Option.some.injEq] at hc; subst hc; simp [AOp.cls] at hcl
      · cases hc
    · rename_i hcal
      split at hc
      · rename_i p x pt it hl hts
        simp only [Option.bind_eq_bind, Option.bind_eq_some_iff] at hc
        obtain ⟨d, hd, hc⟩ := hc
        split at hc
        · split at hc
          · rename_i hone
            simp only [Option.some.injEq] at hc; subst hc
            exact ax_str (id := id) hop hcal hl hts hd hone (hargs p (by rw [hl]; simp)) (hargs x (by rw [hl]; simp)) h r
          · cases hc
        · cases hc
      · cases hc
    · rename_i f hcal
      obtain ⟨fn, hf, hb, hor, hcs⟩ := compExt_spec hc
      rcases hcs with ⟨x, hl, hn, rfl⟩ | ⟨x, t, el, hl, hn, ht, hd, rfl⟩ | ⟨x, y, hl, hn, rfl⟩ | ⟨x, y, hl, hn, rfl⟩
      · simp [AOp.cls] at hcl
      · exact ax_noZero hop hcal hρ hl hf hb hor hn ht hd (hargs x (by rw [hl]; simp)) hid hmid h r
      · simp [AOp.cls] at hcl
      · simp [AOp.cls] at hcl
    · rename_i x name hcal
      simp only [Option.some.injEq] at hc; subst hc
      exact ax_invoke (id := id) hop hcal (ho x (by simp [hop, Op.operands, Call.operands, hcal])) hargs h
    · cases hc
  · cases hc

theorem compOp_cases {op : AOp} (hc : compOp P o = some op) : compX P o = some op ∨ comp0 P o = some op ∨ op = .xp .bad := by
  unfold compOp at hc
  split at hc
  · rename_i a h1; simp only [Option.some.injEq] at hc; subst hc; exact .inl h1
  · split at hc
    · rename_i a h1; simp only [Option.some.injEq] at hc; subst hc; exact .inr (.inl h1)
    · simp only [Option.some.injEq] at hc; exact .inr (.inr hc.symm)

theorem pure_sound {op : AOp} (hc : compOp P o = some op) (hcl : op.cls = .pure) (hρ : ∀ f, ρ (.func f) = .func (.func f) #[] #[]) (ho : ∀ x ∈ o.op.operands.toList, ORel m e ρ x)
    (h : pureOf P e op = some v) : Gives P m ρ o v := by
  rcases compOp_cases hc with h1 | h1 | rfl
  · exact pureX_sound h1 hcl hρ ho h
  · exact pure_sound0 h1 hcl ho h
  · simp [pureOf, pureX] at h

theorem load_sound {op : AOp} (hc : compOp P o = some op) (hcl : op.cls = .load) (ho : ∀ x ∈ o.op.operands.toList, ORel m e ρ x)
    (h : loadOf e s op = some v) (r : Rel G m s w) : ∃ v', VRel m v v' ∧ (execOp ρ o).run P w = .ok (.value v') w := by
  rcases compOp_cases hc with h1 | h1 | rfl
  · rcases compX_cls h1 with h2 | h2 <;> rw [h2] at hcl <;> cases hcl
  · exact load_sound0 h1 hcl ho h r
  · cases hcl

theorem alloc_sound {op : AOp} {id : Nat} {x : Blk} (hc : compOp P o = some op) (hcl : op.cls = .alloc) (ho : ∀ x ∈ o.op.operands.toList, ORel m e ρ x)
    (h : allocOf e id op = some (v, x)) :
    ∃ (c : List Value) (t : TypeId) (f : Nat → Value), VRels m x.cells c ∧ (x.wr = true ∧ x.elem = .var t) ∧ NewAt v f id c.length ∧
      ∀ w, (execOp ρ o).run P w = .ok (.value (f w.heap.size)) (w.alloc (.cells ⟨c⟩ t)) := by
  rcases compOp_cases hc with h1 | h1 | rfl
  · rcases compX_cls h1 with h2 | h2 <;> rw [h2] at hcl <;> cases hcl
  · exact alloc_sound0 h1 hcl ho h
  · cases hcl

theorem act_sound {B : Nat → Prop} {id : Nat} {op : AOp} {res : ARes} {s' : St} (hc : compOp P o = some op) (hcl : op.cls = .act) (hρ : ∀ f, ρ (.func f) = .func (.func f) #[] #[]) (ho : ∀ x ∈ o.op.operands.toList, ORel m e ρ x)
    (hid : ¬ B id) (hmid : m id = none) (h : actOf P e s id op = some (res, s')) (r : Rel G m s w) : Acts P G B m s w ρ o res s' := by
  rcases compOp_cases hc with h1 | h1 | rfl
  · exact actX_sound h1 hcl hρ ho hid hmid h r
  · exact act_sound0 h1 hcl hρ ho hid hmid h r
  · cases hcl
end Go.Am
