/- Operations that act: a store, append, copy, calls. -/
import Derived.Test.YtplnfkihbffeeaaGreatDoorAmK
namespace Go.Am
variable {P : Program} {G : Cfg} {m : Mu} {s : St} {w : World} {n : Nat} {e : Env} {ρ : Operand → Value} {o : Oper} {v : Value}

theorem putAt_drop : ∀ (l : List Value) (k n : Nat) (vs : List Value), (putAt l (k + n) vs).drop k = putAt (l.drop k) n vs
  | l, 0, n, vs => by simp
  | [], k + 1, n, vs => by simp [putAt]
  | x :: l, k + 1, n, vs => by
    rw [show k + 1 + n = (k + n) + 1 by omega]
    simp only [putAt, List.drop_succ_cons]
    exact putAt_drop l k n vs

theorem putAt_take : ∀ (l : List Value) (k n : Nat) (vs : List Value), (putAt l n vs).take k = putAt (l.take k) n vs
  | [], k, n, vs => by simp [putAt]
  | x :: l, 0, n, vs => by simp [putAt]
  | x :: l, k + 1, 0, [] => by simp [putAt]
  | x :: l, k + 1, 0, v :: vs => by simp [putAt, putAt_take l k 0 vs]
  | x :: l, k + 1, n + 1, vs => by simp [putAt, putAt_take l k n vs]

theorem setRow_size' (w : World) (g : Nat) (c : Array Value) : (w.setRow g c).heap.size = w.heap.size := by simp

/-- A write into a block of ours. -/
theorem Rel.write (B : Nat → Prop) (r : Rel G m s w) {b off : Nat} {x : Blk} {l : Loc} (hx : s.get b = some x) (hC : x.elem.isC = true) (hl : m b = some l) (hw : x.wr = true) {vs vs' : List Value} (hv : VRels m vs vs')
    (hlen : off + vs.length ≤ x.cells.length) (h1 : vs.all one = true) :
    ∃ w', (storeCells ⟨l.blk, l.shift + off, none⟩ vs' 0).run P w = .ok () w' ∧ Rel G m (s.put b (some { x with cells := putAt x.cells off vs })) w' ∧
      Ext B m s w m (s.put b (some { x with cells := putAt x.cells off vs })) w' := by
  obtain ⟨c, t, fr, hg, hsz, hfr, hle, hr, hty, hfull⟩ := (r.blk _ _ _ hx hl).cells hC
  have hfr0 := hfr hw
  subst hfr0
  have hl2 := hv.length
  have hone : ∀ v ∈ vs', v.oneCell' = true := by
    intro v hvm
    have := hv.ones
    rw [h1] at this
    exact one_oneCell (List.all_eq_true.1 this v hvm)
  have hst := run_storeCells_at P l.blk (l.shift + off) t vs' 0 c w hg (by omega) hone
  simp only [Nat.add_zero] at hst
  have hput : c.toList.take (l.shift + off) ++ vs' ++ c.toList.drop (l.shift + off + vs'.length) = putAt c.toList (l.shift + off) vs' := by
    rw [putAt_eq]; simp; omega
  rw [hput] at hst
  have hown : Owns m s l.blk := ⟨b, x, l, hx, hl, rfl, hw⟩
  refine ⟨_, hst, ⟨?_, ?_, ?_, ?_, ?_⟩, ?_⟩
  · intro b' y l' hy hl'
    rw [St.get_put] at hy
    by_cases hb : b' = b
    · subst hb
      rw [hl] at hl'; injection hl' with hl'; subst hl'
      simp only [if_true, Option.some.injEq] at hy; subst hy
      refine ⟨fun b p e1 => (by simp only at e1; rw [e1] at hC; cases hC), fun _ => ⟨_, t, (0, 0), setRow_heap w l.blk c _ t _ hg, ?_, fun _ => rfl, ?_, ?_, hty, ?_⟩⟩
      · simp [putAt_length, hsz]
      · simp only [putAt_length]; simp [putAt_length]; exact hle
      · simp only [putAt_length]
        rw [putAt_drop, putAt_take]
        exact VRels.putAt off hr hv
      · intro e1
        obtain ⟨q1, q2⟩ := hfull e1
        exact ⟨q1, by simp [putAt_length]; exact q2⟩
    · rw [if_neg hb] at hy
      have hne : l'.blk ≠ l.blk := fun he => hb (r.apart _ _ _ _ _ _ hx hl hy hl' hw he.symm).symm
      exact (r.blk _ _ _ hy hl').mono (fun _ _ h => h) (setRow_other w l.blk l'.blk _ hne)
  · intro b1 y1 l1 b2 y2 l2 hy1 hl1 hy2 hl2 hw1 he
    rw [St.get_put] at hy1 hy2
    have g1 : ∃ z, s.get b1 = some z ∧ z.wr = y1.wr := by
      by_cases hb : b1 = b
      · rw [if_pos hb] at hy1; injection hy1 with hy1; subst hy1; exact ⟨x, by rw [hb]; exact hx, rfl⟩
      · rw [if_neg hb] at hy1; exact ⟨y1, hy1, rfl⟩
    have g2 : ∃ z, s.get b2 = some z := by
      by_cases hb : b2 = b
      · exact ⟨x, by rw [hb]; exact hx⟩
      · rw [if_neg hb] at hy2; exact ⟨y2, hy2⟩
    obtain ⟨z1, h1', h2'⟩ := g1
    obtain ⟨z2, h3'⟩ := g2
    exact r.apart _ _ _ _ _ _ h1' hl1 h3' hl2 (by rw [h2']; exact hw1) he
  · intro b' y hy
    rw [St.get_put] at hy
    by_cases hb : b' = b
    · rw [hb]; exact r.next _ _ hx
    · rw [if_neg hb] at hy; exact r.next _ _ hy
  · intro b' l' hl'
    rw [setRow_size']
    exact r.dom _ _ hl'
  · exact r.glob
  · refine ⟨fun _ _ h => h, Nat.le_refl _, ?_, ?_, by rw [setRow_size']; exact Nat.le_refl _, ?_, ?_, rfl, rfl, rfl⟩
    · intro b' hb hn
      refine ⟨hn, ?_⟩
      rw [St.get_put, if_neg]
      intro he; rw [he, hl] at hn; cases hn
    · intro b' l' y hb hy
      rw [St.get_put] at hy
      by_cases hbb : b' = b
      · rw [if_pos hbb] at hy; injection hy with hy; subst hy; exact ⟨x, by rw [hbb]; exact hx, fun h => h⟩
      · rw [if_neg hbb] at hy; exact ⟨y, hy, fun h => h⟩
    · intro q hq hno
      refine setRow_other w l.blk q _ ?_
      intro he; rw [he] at hno; exact hno hown
    · intro b' l' hn hs
      rw [hn] at hs; cases hs

/-- A block is given up. -/
theorem Rel.drop (r : Rel G m s w) (b : Nat) : Rel G m (s.put b none) w := by
  have g : ∀ c x, (s.put b none).get c = some x → s.get c = some x := by
    intro c x h
    rw [St.get_put] at h
    split at h
    · cases h
    · exact h
  exact ⟨fun c x l h => r.blk c x l (g c x h), fun c x l c' x' l' h1 h2 h3 => r.apart c x l c' x' l' (g c x h1) h2 (g c' x' h3), fun c x h => r.next c x (g c x h), r.dom, r.glob⟩

theorem Ext.drop (B : Nat → Prop) {b : Nat} {l : Loc} (hl : m b = some l) (s : St) (w : World) : Ext B m s w m (s.put b none) w := by
  refine ⟨fun _ _ h => h, Nat.le_refl _, ?_, ?_, Nat.le_refl _, fun _ _ _ => rfl, ?_, rfl, rfl, rfl⟩
  · intro c _ hn
    refine ⟨hn, ?_⟩
    rw [St.get_put, if_neg]
    intro e1; rw [e1, hl] at hn; cases hn
  · intro c l' x _ hx
    rw [St.get_put] at hx
    split at hx
    · cases hx
    · exact ⟨x, hx, fun h => h⟩
  · intro c l' h h'; rw [h] at h'; cases h'

/-- A row that grows in its own room: it goes on under a new number. -/
theorem Rel.inplace (B : Nat → Prop) (t : TypeId) (r : Rel G m s w) {b off a id : Nat} {x : Blk} {l : Loc} (hx : s.get b = some x) (hC : x.elem.isC = true) (htx : x.elem.ty = some t) (hl : m b = some l) (hw : x.wr = true) {old news news' : List Value}
    (hold : Am.take x.cells off a = some old) (hv : VRels m news news') (h1 : news.all one = true) (hfit : l.shift + off + a + news.length ≤ l.size) (hid : ¬ B id) (hmid : m id = none) :
    ∃ w', (storeCells ⟨l.blk, l.shift + off + a, none⟩ news' 0).run P w = .ok () w' ∧
      Rel G (m.up id ⟨l.blk, l.shift + off, l.size⟩) ((s.put b none).own id ⟨old ++ news, .row t, true⟩) w' ∧
      Ext B m s w (m.up id ⟨l.blk, l.shift + off, l.size⟩) ((s.put b none).own id ⟨old ++ news, .row t, true⟩) w' := by
  obtain ⟨c, ct, fr, hg, hsz, hfr, hle, hr, hty, -⟩ := (r.blk _ _ _ hx hl).cells hC
  have hfr0 := hfr hw
  subst hfr0
  have hl2 := hv.length
  have hbid : b ≠ id := by intro e1; rw [e1, hmid] at hl; cases hl
  have hone : ∀ v ∈ news', v.oneCell' = true := by
    intro v hvm
    have := hv.ones
    rw [h1] at this
    exact one_oneCell (List.all_eq_true.1 this v hvm)
  have hst := run_storeCells_at P l.blk (l.shift + off + a) ct news' 0 c w hg (by omega) hone
  simp only [Nat.add_zero] at hst
  have hput : c.toList.take (l.shift + off + a) ++ news' ++ c.toList.drop (l.shift + off + a + news'.length) = putAt c.toList (l.shift + off + a) news' := by
    rw [putAt_eq]; simp; omega
  rw [hput] at hst
  have hown : Owns m s l.blk := ⟨b, x, l, hx, hl, rfl, hw⟩
  have hle2 := Mu.le_up ⟨l.blk, l.shift + off, l.size⟩ hmid
  obtain ⟨old', ho1, ho2⟩ := take_rel hold hr
  obtain ⟨ho3, ho4⟩ := take_spec ho1
  have hol : old.length = a := by
    obtain ⟨q1, q2⟩ := take_spec hold
    rw [q2]; simp; omega
  have hxa : off + a ≤ x.cells.length := (take_spec hold).1
  -- a block that stays lies elsewhere
  have other : ∀ b' y l', b' ≠ id → ((s.put b none).own id ⟨old ++ news, .row t, true⟩).get b' = some y → (m.up id ⟨l.blk, l.shift + off, l.size⟩) b' = some l' →
      s.get b' = some y ∧ m b' = some l' ∧ b' ≠ b ∧ l'.blk ≠ l.blk := by
    intro b' y l' hb hy hl'
    rw [St.get_own, if_neg hb, St.get_put] at hy
    simp only [Mu.up, if_neg hb] at hl'
    by_cases hbb : b' = b
    · rw [if_pos hbb] at hy; cases hy
    · rw [if_neg hbb] at hy
      exact ⟨hy, hl', hbb, fun he => hbb (r.apart _ _ _ _ _ _ hx hl hy hl' hw he.symm).symm⟩
  have mine : ∀ y l', ((s.put b none).own id ⟨old ++ news, .row t, true⟩).get id = some y → (m.up id ⟨l.blk, l.shift + off, l.size⟩) id = some l' →
      y = ⟨old ++ news, .row t, true⟩ ∧ l' = ⟨l.blk, l.shift + off, l.size⟩ := by
    intro y l' hy hl'
    rw [St.get_own, if_pos rfl] at hy
    simp only [Mu.up, if_true] at hl'
    exact ⟨by injection hy with hy; exact hy.symm, by injection hl' with hl'; exact hl'.symm⟩
  refine ⟨_, hst, ⟨?_, ?_, ?_, ?_, ?_⟩, ?_⟩
  · intro b' y l' hy hl'
    by_cases hb : b' = id
    · subst hb
      obtain ⟨rfl, rfl⟩ := mine _ _ hy hl'
      refine ⟨fun b p e1 => (by cases e1), fun _ => ⟨_, ct, (0, 0), setRow_heap w l.blk c _ ct _ hg, ?_, fun _ => rfl, ?_, ?_, (by rw [← hty, htx]; rfl), fun e1 => (by cases e1)⟩⟩
      · simp [putAt_length, hsz]
      · simp only [List.size_toArray, putAt_length, List.length_append, hol]
        simp only [Array.length_toList, hsz]
        omega
      · simp only
        rw [putAt_drop, putAt_take]
        have e1 : ((c.toList.drop (l.shift + off)).take (old ++ news).length) = old' ++ ((c.toList.drop (l.shift + off)).take (old ++ news).length).drop a := by
          have : old' = ((c.toList.drop (l.shift + off)).take (old ++ news).length).take a := by
            rw [ho4, List.take_take, List.drop_take, List.drop_drop, List.take_take]
            congr 1
            simp [hol]; omega
          rw [this, List.take_append_drop]
        have e2 : (((c.toList.drop (l.shift + off)).take (old ++ news).length).drop a).length = news'.length := by
          simp only [List.length_drop, List.length_take, List.length_append, hol, Array.length_toList, hsz]
          omega
        rw [e1]
        have e3 : putAt (old' ++ ((c.toList.drop (l.shift + off)).take (old ++ news).length).drop a) a news' = old' ++ news' := by
          have hol' : old'.length = a := by rw [← ho2.length, hol]
          rw [putAt_eq _ _ _ (by rw [List.length_append, e2, hol']; exact Nat.le_refl _), List.take_left' hol', ← hol', List.drop_append]
          simp [hol']
          omega
        rw [e3]
        exact (ho2.append hv).mono hle2
    · obtain ⟨g1, g2, g3, g4⟩ := other _ _ _ hb hy hl'
      exact (r.blk _ _ _ g1 g2).mono hle2 (setRow_other w l.blk l'.blk _ g4)
  · intro b1 y1 l1 b2 y2 l2 hy1 hl1 hy2 hl2' hw1 he
    by_cases e1 : b1 = id
    · by_cases e2 : b2 = id
      · rw [e1, e2]
      · subst e1
        obtain ⟨rfl, rfl⟩ := mine _ _ hy1 hl1
        obtain ⟨g1, g2, g3, g4⟩ := other _ _ _ e2 hy2 hl2'
        exact absurd he.symm g4
    · obtain ⟨g1, g2, g3, g4⟩ := other _ _ _ e1 hy1 hl1
      by_cases e2 : b2 = id
      · subst e2
        obtain ⟨rfl, rfl⟩ := mine _ _ hy2 hl2'
        exact absurd he g4
      · obtain ⟨k1, k2, k3, k4⟩ := other _ _ _ e2 hy2 hl2'
        exact r.apart _ _ _ _ _ _ g1 g2 k1 k2 hw1 he
  · intro b' y hy
    rw [St.next_own, St.next_put]
    by_cases hb : b' = id
    · omega
    · rw [St.get_own, if_neg hb, St.get_put] at hy
      split at hy
      · cases hy
      · have := r.next _ _ hy; omega
  · intro b' l' hl'
    rw [setRow_size', St.next_own, St.next_put]
    by_cases hb : b' = id
    · subst hb
      simp only [Mu.up, if_true, Option.some.injEq] at hl'; subst hl'
      have := (r.dom _ _ hl).2
      simp only; omega
    · simp only [Mu.up, if_neg hb] at hl'
      have := r.dom _ _ hl'
      omega
  · intro g hg
    obtain ⟨l', q1, q2⟩ := r.glob g hg
    exact ⟨l', hle2 _ _ q1, q2⟩
  · refine ⟨hle2, ?_, ?_, ?_, by rw [setRow_size']; exact Nat.le_refl _, ?_, ?_, rfl, rfl, rfl⟩
    · rw [St.next_own, St.next_put]; omega
    · intro b' hb hn
      have h3 : b' ≠ id := by rintro rfl; exact hid hb
      have h4 : b' ≠ b := by intro e1; rw [e1, hl] at hn; cases hn
      exact ⟨by simp only [Mu.up, if_neg h3]; exact hn, by rw [St.get_own, if_neg h3, St.get_put, if_neg h4]⟩
    · intro b' l' y hb hy
      have h3 : b' ≠ id := by intro e1; rw [e1, hmid] at hb; cases hb
      rw [St.get_own, if_neg h3, St.get_put] at hy
      split at hy
      · cases hy
      · exact ⟨y, hy, fun h => h⟩
    · intro q hq hno
      refine setRow_other w l.blk q _ ?_
      intro he; rw [he] at hno; exact hno hown
    · intro b' l' hn hs
      by_cases hb : b' = id
      · subst hb
        simp only [Mu.up, if_true, Option.some.injEq] at hs; subst hs
        exact .inr hown
      · simp only [Mu.up, if_neg hb] at hs
        rw [hn] at hs; cases hs

/-- What an operation that acts comes to; new blocks from B on. -/
def Acts (P : Program) (G : Cfg) (B : Nat → Prop) (m : Mu) (s : St) (w : World) (ρ : Operand → Value) (o : Oper) (r : ARes) (s' : St) : Prop :=
  match r with
  | .val v => ∃ m' w' v', Rel G m' s' w' ∧ Ext B m s w m' s' w' ∧ VRel m' v v' ∧
      ((execOp ρ o).run P w = .ok (.value v') w' ∨ ((execOp ρ o).run P w = .ok .skip w' ∧ v' = undef))
  | .call f args => s' = s ∧ ∃ args', VRels m args args' ∧
      ∀ fn, P.funcs[f]? = some fn → fn.body.isSome = true → fn.name ≠ "runtime.NumGoroutine" → (execOp ρ o).run P w = .ok (.enter f ⟨args'⟩) w

theorem act_store {B : Nat → Prop} {t : TypeId} {a x : Operand} {z : Nat} {id : Nat} {res : ARes} {s' : St} (hop : o.op = .store t a x) (hz : sizeP P t = some z) (ha : ORel m e ρ a) (hx : ORel m e ρ x)
    (h : actOf P e s id (.store (opd a) (opd x) z) = some (res, s')) (r : Rel G m s w) : Acts P G B m s w ρ o res s' := by
  unfold ORel at ha
  simp only [actOf] at h
  split at h
  · rename_i b off hb
    rw [hb] at ha
    obtain ⟨l, hl, ha'⟩ := ha.ptr_eq
    split at h
    · rename_i blk hblk0
      obtain ⟨hblk, hC⟩ := St.cel_spec hblk0
      split at h
      · rename_i hc
        simp only [Bool.and_eq_true, decide_eq_true_eq] at hc
        obtain ⟨⟨⟨h1, h2⟩, h3⟩, h4⟩ := hc
        simp only [Option.some.injEq, Prod.mk.injEq] at h
        obtain ⟨rfl, rfl⟩ := h
        have hcx := VRel.cells hx
        obtain ⟨w', hst, hr', he'⟩ := r.write (P := P) B (off := off) hblk hC hl h1 hcx (by omega) h3
        refine ⟨m, w', undef, hr', he', VRel.undef, .inr ⟨?_, rfl⟩⟩
        have hsz : (ρ x).cells.size = z := by rw [← Array.length_toList, cellsOf_eq, ← hcx.length]; exact h2
        have hcl : (ρ x).cells.toList = cellsOf (ρ x) := cellsOf_eq _
        simp [execOp, hop, Instr.storeAt, ha', Instr.sureAddr, storeVar, sizeOf_run hz, hsz, hcl, hst]
      · cases h
    · cases h
  · cases h

theorem act_call {B : Nat → Prop} {c : Call} {f : FuncId} {id : Nat} {res : ARes} {s' : St} (hop : o.op = .call c) (hc : c.callee = .value (.func f)) (hρ : ∀ f, ρ (.func f) = .func (.func f) #[] #[]) (ho : ∀ x ∈ c.args.toList, ORel m e ρ x)
    (h : actOf P e s id (.call f (c.args.toList.map opd)) = some (res, s')) : Acts P G B m s w ρ o res s' := by
  simp only [actOf, Option.some.injEq, Prod.mk.injEq, List.map_map] at h
  obtain ⟨rfl, rfl⟩ := h
  refine ⟨rfl, c.args.toList.map ρ, VRels.map_op ho, fun fn hf hb hn => ?_⟩
  have e1 : (⟨c.args.toList.map ρ⟩ : Array Value) = c.args.map ρ := by apply Array.ext'; simp
  obtain ⟨body, hbody⟩ := Option.isSome_iff_exists.1 hb
  simp [execOp, hop, resolve, hc, hρ, Deferred.ofValue, invoke, callFunc, hf, hn, hbody, e1]

theorem act_callv {B : Nat → Prop} {c : Call} {f : Operand} {id : Nat} {res : ARes} {s' : St} (hop : o.op = .call c) (hc : c.callee = .value f) (hf : ORel m e ρ f) (ho : ∀ x ∈ c.args.toList, ORel m e ρ x)
    (h : actOf P e s id (.callv (opd f) (c.args.toList.map opd)) = some (res, s')) : Acts P G B m s w ρ o res s' := by
  unfold ORel at hf
  simp only [actOf] at h
  split at h
  · rename_i g first captured hg
    simp only [Option.some.injEq, Prod.mk.injEq, List.map_map] at h
    obtain ⟨rfl, rfl⟩ := h
    rw [hg] at hf
    generalize hy : ρ f = y at *
    cases hf with
    | func _ ha hb =>
      rename_i a a' b b'
      refine ⟨rfl, a' ++ c.args.toList.map ρ ++ b', (ha.append (VRels.map_op ho)).append hb, fun fn hf hbo hn => ?_⟩
      obtain ⟨body, hbody⟩ := Option.isSome_iff_exists.1 hbo
      have e1 : (⟨a' ++ c.args.toList.map ρ ++ b'⟩ : Array Value) = (⟨a'⟩ : Array Value) ++ c.args.map ρ ++ (⟨b'⟩ : Array Value) := by apply Array.ext'; simp
      rw [e1]
      simp [execOp, hop, resolve, hc, hy, Deferred.ofValue, invoke, callFunc, hf, hn, hbody]
  · cases h

/-- The cells that an append or a copy takes. -/
theorem newCells_spec {es k : Nat} {x xv : Value} {news : List Value} (h : newCells s es x = some (k, news)) (hx : VRel m x xv) (r : Rel G m s w) :
    news.length = k * es ∧ ∃ news', VRels m news news' ∧ (∀ w, (Builtin.lenOf xv).run P w = .ok k w) ∧
      (∀ (j : Nat) (w1 : World), j ≤ k → (∀ a, w1.cell? a = w.cell? a) → (Builtin.firstCells es j xv).run P w1 = .ok ⟨news'.take (j * es)⟩ w1) := by
  unfold newCells at h
  split at h
  · rename_i n c
    cases hn : Nat.beq n 0 with
    | false => simp [hn] at h
    | true =>
      have hn0 : n = 0 := Nat.eq_of_beq_eq_true hn
      subst hn0
      simp only [hn, cond_true, Option.some.injEq, Prod.mk.injEq] at h
      obtain ⟨rfl, rfl⟩ := h
      obtain ⟨rfl, -, -⟩ := nilSlice_eq hx
      refine ⟨by simp, [], .nil, fun w => by simp [Builtin.lenOf], fun j w1 hj _ => ?_⟩
      simp [Builtin.firstCells]
  · rename_i b off n c
    simp only [Option.bind_eq_bind, Option.bind_eq_some_iff, Option.some.injEq, Prod.mk.injEq] at h
    obtain ⟨blk, hblk0, l, hl, rfl, rfl⟩ := h
    obtain ⟨hblk, hC⟩ := St.cel_spec hblk0
    obtain ⟨lc, o', c', a1, a2, a3, a4, a5⟩ := slice_inv hx
    subst a2
    obtain ⟨vs', h1, h2, h3⟩ := (r.blk _ _ _ hblk a1).take hC hl
    have hlen : l.length = n * es := by rw [h2.length, h3]
    refine ⟨hlen, vs', h2, fun w => by simp [Builtin.lenOf], fun j w1 hj hw => ?_⟩
    simp only [Builtin.firstCells]
    refine loadN_run ?_ ?_
    · intro q v hq
      have hqj : q < j * es := by
        have := (List.getElem?_eq_some_iff.1 hq).1
        simp at this; omega
      rw [List.getElem?_take, if_pos hqj] at hq
      rw [hw]
      have hn : 0 < n := by
        rcases Nat.eq_zero_or_pos n with h0 | h0
        · subst h0
          have : j = 0 := by omega
          subst this; simp at hqj
        · exact h0
      have ho' : o' = lc.shift + off := a4.resolve_right (by intro h0; rw [h0] at a3; exact absurd (Nat.lt_of_lt_of_le hn a3) (Nat.lt_irrefl 0))
      rw [ho']
      exact h1 q v hq
    · rw [List.length_take, h3]
      have : j * es ≤ n * es := Nat.mul_le_mul_right _ hj
      omega
  · rename_i b
    cases hn : Nat.beq es 1 with
    | false => simp [hn] at h
    | true =>
      have hes : es = 1 := Nat.eq_of_beq_eq_true hn
      subst hes
      simp only [hn, cond_true, Option.some.injEq, Prod.mk.injEq] at h
      obtain ⟨rfl, rfl⟩ := h
      have hxv := hx.string_eq
      subst hxv
      refine ⟨by simp, _, VRels.flat_refl (l := b.data.toList.map fun b => .int .u8 b.toNat) ?_, fun w => by simp [Builtin.lenOf], fun j w1 hj _ => ?_⟩
      · rw [List.all_eq_true]
        intro v hv
        obtain ⟨c, _, rfl⟩ := List.mem_map.1 hv
        rfl
      · simp only [Builtin.firstCells]
        have : ((b.extract 0 j).data.map fun b => Value.int .u8 b.toNat) = ⟨(b.data.toList.map fun b => Value.int .u8 b.toNat).take (j * 1)⟩ := by
          apply Array.ext'
          simp [ByteArray.data_extract]
        rw [this]; rfl
  · cases h

theorem sliceElem_spec {t el : TypeId} {i : TypeInfo} (h : sliceElem P t = some (el, i)) : P.underlying t = some (.slice el) ∧ P.info? el = some i := by
  simp only [sliceElem, Option.bind_eq_bind, Option.bind_eq_some_iff] at h
  obtain ⟨d, hd, h⟩ := h
  split at h
  · simp only [Option.bind_eq_some_iff, Option.some.injEq, Prod.mk.injEq] at h
    obtain ⟨i', hi', rfl, rfl⟩ := h
    exact ⟨hd, hi'⟩
  · cases h

theorem drew_cell (w : World) (a : Addr) : w.drew.cell? a = w.cell? a := rfl

theorem zeroCells_size (z : Array Value) (n : Nat) : (Builtin.zeroCells z n).size = n * z.size := by simp [Builtin.zeroCells]

/-- append's arm where there is no room. -/
theorem append_grow {t u ty el : TypeId} {i : TypeInfo} {z : Value} {d : TypeDesc} (ht : P.underlying t = some (.slice el)) (hu : P.underlying u = some d) (hd : d = .string ∨ ∃ q, d = .slice q) (hi : P.info? el = some i) (hz : i.zero = some z)
    {a : Option Addr} {sLen sCap k : Nat} {xv : Value} {olds news : List Value} (hlen : ∀ w, (Builtin.lenOf xv).run P w = .ok k w)
    (hold : (Builtin.firstCells i.size sLen (.slice a sLen sCap)).run P w.drew = .ok ⟨olds⟩ w.drew) (hnew : (Builtin.firstCells i.size k xv).run P w.drew = .ok ⟨news⟩ w.drew)
    (hg : sCap < sLen + k) (h63 : sLen + k ≤ 9223372036854775807) (hb : (sLen + k) * i.bytes ≤ 140737488355328) :
    (Builtin.append_ #[t, u] ty #[.slice a sLen sCap, xv]).run P w =
      .ok (.slice (some ⟨w.heap.size, 0, none⟩) (sLen + k) (grownCap w (sLen + k) sCap el))
        (w.drew.alloc (.cells ⟨olds ++ news ++ (Builtin.zeroCells z.cells (grownCap w (sLen + k) sCap el - (sLen + k))).toList⟩ el)) := by
  have hn : ¬ (sLen + k ≤ sCap) := by omega
  have h63' : ¬ (9223372036854775807 < ((sLen : Int) + (k : Int))) := by omega
  have hfit := growslice_fits hg hb
  have h48' : ¬ (281474976710656 < Builtin.nextslicecap (sLen + k) sCap * i.bytes) := by omega
  rcases hd with rfl | ⟨q, rfl⟩
  · simp [Builtin.append_, run_underlying ht, run_underlying hu, sizeOf, typeInfo, zeroValue, hi, hz, hlen, hn, h63', h48', Question.forced, hold, hnew, newRow, grownCap]
    congr 2
    apply Array.ext'
    simp
  · simp [Builtin.append_, run_underlying ht, run_underlying hu, sizeOf, typeInfo, zeroValue, hi, hz, hlen, hn, h63', h48', Question.forced, hold, hnew, newRow, grownCap]
    congr 2
    apply Array.ext'
    simp

/-- append's arm where there is room. -/
theorem append_room {t u ty el : TypeId} {i : TypeInfo} {d : TypeDesc} (ht : P.underlying t = some (.slice el)) (hu : P.underlying u = some d) (hd : d = .string ∨ ∃ q, d = .slice q) (hi : P.info? el = some i)
    {a : Addr} {sLen sCap k : Nat} {xv : Value} {news : List Value} (hlen : ∀ w, (Builtin.lenOf xv).run P w = .ok k w)
    (hnew : (Builtin.firstCells i.size k xv).run P w = .ok ⟨news⟩ w) (hg : sLen + k ≤ sCap) {w' : World} (hst : (storeCells (a.add (sLen * i.size)) news 0).run P w = .ok () w') :
    (Builtin.append_ #[t, u] ty #[.slice (some a) sLen sCap, xv]).run P w = .ok (.slice (some a) (sLen + k) sCap) w' := by
  rcases hd with rfl | ⟨q, rfl⟩
  · simp [Builtin.append_, run_underlying ht, run_underlying hu, sizeOf, typeInfo, hi, hlen, hg, hnew, hst]
  · simp [Builtin.append_, run_underlying ht, run_underlying hu, sizeOf, typeInfo, hi, hlen, hg, hnew, hst]

/-- nothing onto nil. -/
theorem append_nil0 {t u ty el : TypeId} {i : TypeInfo} {d : TypeDesc} (ht : P.underlying t = some (.slice el)) (hu : P.underlying u = some d) (hd : d = .string ∨ ∃ q, d = .slice q) (hi : P.info? el = some i)
    {xv : Value} {news : List Value} (hlen : ∀ w, (Builtin.lenOf xv).run P w = .ok 0 w) (hnew : (Builtin.firstCells i.size 0 xv).run P w = .ok ⟨news⟩ w) :
    (Builtin.append_ #[t, u] ty #[.slice none 0 0, xv]).run P w = .ok (.slice none 0 0) w := by
  rcases hd with rfl | ⟨q, rfl⟩
  · simp [Builtin.append_, run_underlying ht, run_underlying hu, sizeOf, typeInfo, hi, hlen, hnew]
  · simp [Builtin.append_, run_underlying ht, run_underlying hu, sizeOf, typeInfo, hi, hlen, hnew]

theorem exec_append {c : Call} {t u : TypeId} {s x : Operand} {v : Value} {w' : World} (hop : o.op = .call c) (hc : c.callee = .builtin .append) (ht : c.argTypes.toList = [t, u]) (hx : c.args.toList = [s, x])
    (h : (Builtin.append_ #[t, u] o.type #[ρ s, ρ x]).run P w = .ok v w') : (execOp ρ o).run P w = .ok (.value v) w' := by
  have e1 : c.argTypes = #[t, u] := by apply Array.ext'; simpa using ht
  have e2 : c.args = #[s, x] := by apply Array.ext'; simpa using hx
  simp [execOp, hop, resolve, hc, invoke, builtin, e1, e2, h]

set_option maxHeartbeats 1000000 in
theorem act_append {B : Nat → Prop} {id : Nat} {c : Call} {t u el : TypeId} {sl x : Operand} {i : TypeInfo} {d : TypeDesc} {z : List Value} {res : ARes} {s' : St} (hop : o.op = .call c) (hc : c.callee = .builtin .append)
    (ht : c.argTypes.toList = [t, u]) (hx : c.args.toList = [sl, x]) (hsl : sliceElem P t = some (el, i)) (hz : zeroP P el = some z) (hu : P.underlying u = some d) (hd : d = .string ∨ ∃ q, d = .slice q)
    (hos : ORel m e ρ sl) (hox : ORel m e ρ x) (hid : ¬ B id) (hmid : m id = none)
    (h : actOf P e s id (.append (opd sl) (opd x) el z i.bytes) = some (res, s')) (r : Rel G m s w) : Acts P G B m s w ρ o res s' := by
  obtain ⟨htu, hi⟩ := sliceElem_spec hsl
  obtain ⟨i2, zv, hi2, hzv, hvz, hst, hlen⟩ := zeroP_spec hz
  rw [hi] at hi2; injection hi2 with hi2; subst hi2
  have hzsz : zv.cells.size = i.size := by rw [← Array.length_toList, cellsOf_eq, hvz, hlen]
  simp only [actOf, Option.map_eq_some_iff] at h
  obtain ⟨⟨v, s1⟩, h, heq⟩ := h
  simp only [Prod.mk.injEq] at heq
  obtain ⟨rfl, rfl⟩ := heq
  unfold appendA at h
  simp only at h
  split at h
  · cases h
  rename_i hes
  split at h
  · cases h
  rename_i k news hnc
  split at h
  · cases h
  rename_i hone
  have hone' : news.all one = true := by simpa using hone
  obtain ⟨hnl, news', hnr, hlenOf, hfirst⟩ := newCells_spec (P := P) hnc hox r
  rw [hlen] at hnl hfirst h hes
  have htk : news'.take (k * i.size) = news' := by rw [List.take_of_length_le]; rw [← hnr.length, hnl]; exact Nat.le_refl _
  have hfull : ∀ w1 : World, (∀ a, w1.cell? a = w.cell? a) → (Builtin.firstCells i.size k (ρ x)).run P w1 = .ok ⟨news'⟩ w1 := by
    intro w1 hw1
    have := hfirst k w1 (Nat.le_refl _) hw1
    rwa [htk] at this
  unfold ORel at hos
  -- where a new row is made
  have grow : ∀ (a : Option Addr) (n cc : Nat) (olds olds' : List Value) (s0 : St), ρ sl = .slice a n cc → VRels m olds olds' → olds.length = n * i.size →
      (Builtin.firstCells i.size n (.slice a n cc)).run P w.drew = .ok ⟨olds'⟩ w.drew → cc < n + k → n + k ≤ 9223372036854775807 → (n + k) * i.bytes ≤ 140737488355328 →
      Rel G m s0 w → Ext B m s w m s0 w →
      Acts P G B m s w ρ o (.val (.slice (some ⟨id, 0, none⟩) (n + k) (U + i.size))) (s0.own id ⟨olds ++ news, .row el, true⟩) := by
    intro a n cc olds olds' s0 hρ ho holen hold hg h63 hb r0 e0
    have hrun := append_grow (ty := o.type) htu hu hd hi hzv hlenOf hold (hfull w.drew (fun _ => rfl)) hg h63 hb
    rw [← hρ] at hrun
    have hge := grownCap_ge w (n + k) cc el
    generalize hcap : grownCap w (n + k) cc el = cap at *
    generalize htl : (Builtin.zeroCells zv.cells (cap - (n + k))).toList = tl at *
    have htll : tl.length = (cap - (n + k)) * i.size := by rw [← htl, Array.length_toList, zeroCells_size, hzsz]
    have hall : VRels m (olds ++ news) (olds' ++ news') := ho.append hnr
    have hr1 : Rel G m s0 w.drew := ⟨fun b x l h h' => (r0.blk b x l h h').mono (fun _ _ h => h) rfl, r0.apart, r0.next, r0.dom, r0.glob⟩
    have hx1 : VRels m (olds ++ news) ((olds' ++ news' ++ tl).take (olds ++ news).length) := by
      rw [hall.length, List.take_left]; exact hall
    have hown := hr1.own hmid (x := ⟨olds ++ news, .row el, true⟩) (c := olds' ++ news' ++ tl) el (by simp [ho.length, hnr.length]) hx1 rfl rfl (fun e1 => by cases e1)
    refine ⟨_, _, .slice (some ⟨w.heap.size, 0, none⟩) (n + k) cap, hown, ?_, ?_, .inl (exec_append hop hc ht hx hrun)⟩
    · have e1 := Ext.own hid hmid s0 w.drew ⟨olds ++ news, .row el, true⟩ (olds' ++ news' ++ tl).length (.cells ⟨olds' ++ news' ++ tl⟩ el)
      have e2 : Ext B m s0 w m s0 w.drew := ⟨fun _ _ h => h, Nat.le_refl _, fun _ _ h => ⟨h, rfl⟩, fun _ _ y _ h => ⟨y, h, fun h => h⟩, Nat.le_refl _, fun _ _ _ => rfl, (fun b l h h' => by rw [h] at h'; cases h'), rfl, rfl, rfl⟩
      exact e0.trans (e2.trans e1)
    · refine VRel.sliceU (l := ⟨w.heap.size, 0, (olds' ++ news' ++ tl).length⟩) 0 0 (n + k) cap i.size ?_ hge ?_ (.inl rfl)
      · simp [Mu.up]
      · simp only [List.length_append, htll, ← ho.length, ← hnr.length, holen, hnl, Nat.zero_add]
        rw [← Nat.add_mul, ← Nat.add_mul]
        congr 1
        omega
  split at h
  · -- onto nil
    rename_i n0 c0 hv
    rw [hv] at hos
    obtain ⟨hρ, -, -⟩ := nilSlice_eq hos
    split at h
    · cases h
    rename_i hnc0
    have hn0 : n0 = 0 ∧ c0 = 0 := by omega
    obtain ⟨rfl, rfl⟩ := hn0
    split at h
    · rename_i hk0
      subst hk0
      simp only [Option.some.injEq, Prod.mk.injEq] at h
      obtain ⟨rfl, rfl⟩ := h
      refine ⟨m, w, .slice none 0 0, r, Ext.refl B m s w, by rw [hv]; rw [hρ] at hos; exact hos, .inl (exec_append hop hc ht hx ?_)⟩
      rw [hρ]
      exact append_nil0 htu hu hd hi hlenOf (hfull w fun _ => rfl)
    · rename_i hk0
      split at h
      · rename_i hb
        simp only [Option.some.injEq, Prod.mk.injEq] at h
        obtain ⟨rfl, rfl⟩ := h
        have := grow none 0 0 [] [] s hρ .nil (by simp) (by simp [Builtin.firstCells]) (by omega) (by omega) (by simpa using hb.1) r (Ext.refl B m s w)
        simpa using this
      · cases h
  · -- onto a row
    rename_i b off n0 c0 hv
    rw [hv] at hos
    obtain ⟨lc, o', cc, hl, hρ, hncc, ho', hcase⟩ := slice_inv hos
    split at h
    · rename_i hk0
      subst hk0
      simp only [Option.some.injEq, Prod.mk.injEq] at h
      obtain ⟨rfl, rfl⟩ := h
      have hn' : news' = [] := List.eq_nil_of_length_eq_zero (by rw [← hnr.length, hnl]; simp)
      refine ⟨m, w, _, r, Ext.refl B m s w, hos, .inl (exec_append hop hc ht hx ?_)⟩
      rw [hρ]
      have := append_room (P := P) (w := w) (ty := o.type) (a := ⟨lc.blk, o', none⟩) (sLen := n0) (sCap := cc) (k := 0) htu hu hd hi hlenOf (hfull w fun _ => rfl) (by omega) (w' := w) (by rw [hn']; rfl)
      simpa using this
    · rename_i hk0
      split at h
      · cases h
      rename_i blk hblk0
      obtain ⟨hblk, hC⟩ := St.cel_spec hblk0
      split at h
      · cases h
      rename_i hcond
      simp only [Bool.not_eq_false, Bool.and_eq_true, decide_eq_true_eq, Bool.not_eq_eq_eq_not, Bool.not_true] at hcond
      have hcond' : (blk.wr = true ∧ n0 + k ≤ 9223372036854775807) ∧ (n0 + k) * i.bytes ≤ 140737488355328 := by simpa using hcond
      obtain ⟨⟨hwr, h63⟩, hby⟩ := hcond'
      -- in the row that there is
      have room : n0 + k ≤ cc → off + (n0 + k) * i.size ≤ blk.cells.length → VRel m (.slice (some ⟨b, off, none⟩) (n0 + k) c0) (.slice (some ⟨lc.blk, o', none⟩) (n0 + k) cc) →
          Acts P G B m s w ρ o (.val (.slice (some ⟨b, off, none⟩) (n0 + k) c0)) (s.put b (some { blk with cells := putAt blk.cells (off + n0 * i.size) news })) := by
        intro hfit hkn hvr
        have hoo : o' = lc.shift + off := ho'.resolve_right (by intro h0; rw [h0] at hfit; exact hk0 (by omega))
        have hm : (n0 + k) * i.size = n0 * i.size + k * i.size := Nat.add_mul _ _ _
        obtain ⟨w', hstore, hr', he'⟩ := r.write (P := P) B (off := off + n0 * i.size) hblk hC hl hwr hnr (by rw [hnl]; omega) hone'
        refine ⟨m, w', _, hr', he', hvr, .inl (exec_append hop hc ht hx ?_)⟩
        rw [hρ]
        refine append_room htu hu hd hi hlenOf (hfull w fun _ => rfl) hfit ?_
        rw [add_none, hoo, Nat.add_assoc]
        exact hstore
      -- in a new row
      have newRow : ∀ old s0, Am.take blk.cells off (n0 * i.size) = some old → cc < n0 + k → Rel G m s0 w → Ext B m s w m s0 w →
          Acts P G B m s w ρ o (.val (.slice (some ⟨id, 0, none⟩) (n0 + k) (U + i.size))) (s0.own id ⟨old ++ news, .row el, true⟩) := by
        intro old s0 hold hg r0 e0
        obtain ⟨old', q1, q2, q3⟩ := (r.blk _ _ _ hblk hl).take hC hold
        refine grow (some ⟨lc.blk, o', none⟩) n0 cc old old' s0 hρ q2 (by rw [q2.length, q3]) ?_ hg h63 hby r0 e0
        simp only [Builtin.firstCells]
        refine loadN_run (w := w.drew) ?_ q3
        intro j v hj
        rw [drew_cell]
        have hjl := (List.getElem?_eq_some_iff.1 hj).1
        have hn0 : 0 < n0 := by
          rcases Nat.eq_zero_or_pos n0 with h0 | h0
          · subst h0; simp at q3; rw [q3] at hjl; simp at hjl
          · exact h0
        have hoo : o' = lc.shift + off := ho'.resolve_right (by intro h0; rw [h0] at hncc; exact absurd (Nat.lt_of_lt_of_le hn0 hncc) (Nat.lt_irrefl 0))
        rw [hoo]
        exact q1 j v hj
      split at h
      · rename_i hcU
        have hcc : cc = c0 := by
          rcases hcase with ⟨-, h1⟩ | ⟨es, h1, -⟩
          · exact h1
          · omega
        split at h
        · rename_i hfit
          split at h
          · rename_i hkn
            simp only [Option.some.injEq, Prod.mk.injEq] at h
            obtain ⟨rfl, rfl⟩ := h
            refine room (by omega) hkn ?_
            rw [← hcc]
            exact VRel.slice _ _ _ _ hl (by omega) ho' (by omega)
          · cases h
        · rename_i hfit
          split at h
          · cases h
          rename_i old hold
          simp only [Option.some.injEq, Prod.mk.injEq] at h
          obtain ⟨rfl, rfl⟩ := h
          exact newRow old s hold (by omega) r (Ext.refl B m s w)
      · rename_i hcU
        split at h
        · cases h
        rename_i hce
        have hce' : c0 = U + i.size := by omega
        have hend : lc.shift + off + cc * i.size = lc.size := by
          rcases hcase with ⟨h1, -⟩ | ⟨es, h1, h2⟩
          · omega
          · have : es = i.size := by omega
            subst this; exact h2
        clear hcase
        obtain ⟨cw, tw, frw, hgw, hszw, hfrw, hlew, hrw, -, -⟩ := (r.blk _ _ _ hblk hl).cells hC
        split at h
        · rename_i hkn
          simp only [Option.some.injEq, Prod.mk.injEq] at h
          obtain ⟨rfl, rfl⟩ := h
          have hle2 : (n0 + k) * i.size ≤ cc * i.size := by omega
          have hfit : n0 + k ≤ cc := Nat.le_of_mul_le_mul_right hle2 (by omega)
          refine room hfit hkn ?_
          rw [hce']
          exact VRel.sliceU _ _ _ _ _ hl (by omega) hend ho'
        · rename_i hkn
          split at h
          · cases h
          rename_i hisn
          have his : blk.elem.is el = true := by simpa using hisn
          split at h
          · cases h
          rename_i old hold
          simp only [Option.some.injEq, Prod.mk.injEq] at h
          obtain ⟨rfl, rfl⟩ := h
          by_cases hfit : n0 + k ≤ cc
          · have hoo : o' = lc.shift + off := ho'.resolve_right (by intro h0; omega)
            have hm1 : (n0 + k) * i.size = n0 * i.size + k * i.size := Nat.add_mul _ _ _
            have hm2 : (n0 + k) * i.size ≤ cc * i.size := Nat.mul_le_mul_right _ hfit
            obtain ⟨w', hstore, hr', he'⟩ := r.inplace (P := P) B el hblk hC (Kind.is_spec his).2 hl hwr hold hnr hone' (by rw [hnl]; omega) hid hmid
            refine ⟨_, w', .slice (some ⟨lc.blk, o', none⟩) (n0 + k) cc, hr', he', ?_, .inl (exec_append hop hc ht hx ?_)⟩
            · refine VRel.sliceU (l := ⟨lc.blk, lc.shift + off, lc.size⟩) 0 o' (n0 + k) cc i.size ?_ hfit ?_ (.inl ?_)
              · simp [Mu.up]
              · simpa using hend
              · simpa using hoo
            · rw [hρ]
              refine append_room htu hu hd hi hlenOf (hfull w fun _ => rfl) hfit ?_
              rw [add_none, hoo]
              exact hstore
          · exact newRow old (s.put b none) hold (by omega) (r.drop b) (Ext.drop B hl s w)
  · cases h

theorem exec_copy {c : Call} {t : TypeId} {tr : List TypeId} {d x : Operand} {v : Value} {w' : World} (hop : o.op = .call c) (hc : c.callee = .builtin .copy) (ht : c.argTypes.toList = t :: tr) (hx : c.args.toList = [d, x])
    (h : ∀ ts : Array TypeId, ts[0]? = some t → (Builtin.copy_ ts o.type #[ρ d, ρ x]).run P w = .ok v w') : (execOp ρ o).run P w = .ok (.value v) w' := by
  have e2 : c.args = #[d, x] := by apply Array.ext'; simpa using hx
  have := h c.argTypes (toList_get ht)
  simp [execOp, hop, resolve, hc, invoke, builtin, e2, this]

theorem act_copy {B : Nat → Prop} {id : Nat} {c : Call} {t el : TypeId} {tr : List TypeId} {dl x : Operand} {i : TypeInfo} {res : ARes} {s' : St} (hop : o.op = .call c) (hc : c.callee = .builtin .copy)
    (ht : c.argTypes.toList = t :: tr) (hx : c.args.toList = [dl, x]) (hsl : sliceElem P t = some (el, i))
    (hod : ORel m e ρ dl) (hox : ORel m e ρ x)
    (h : actOf P e s id (.copy (opd dl) (opd x) i.size) = some (res, s')) (r : Rel G m s w) : Acts P G B m s w ρ o res s' := by
  obtain ⟨htu, hi⟩ := sliceElem_spec hsl
  have hsz : sizeP P el = some i.size := by simp [sizeP, hi]
  unfold ORel at hod
  simp only [actOf] at h
  split at h
  · rename_i n0 c0 hv
    rw [hv] at hod
    obtain ⟨hρ, -, -⟩ := nilSlice_eq hod
    split at h
    · rename_i a1 k1 c1 hxv
      cases hb : (Nat.beq n0 0 || Nat.beq k1 0) with
      | false => simp [hb] at h
      | true =>
        simp only [hb, cond_true, Option.some.injEq, Prod.mk.injEq] at h
        obtain ⟨rfl, rfl⟩ := h
        unfold ORel at hox
        rw [hxv] at hox
        obtain ⟨a', c', hρx, -⟩ := slice_nil hox
        have hmin : Nat.min k1 n0 = 0 := by
          simp only [Bool.or_eq_true] at hb
          rcases hb with hb | hb
          · rw [Nat.eq_of_beq_eq_true hb]; exact Nat.min_zero k1
          · rw [Nat.eq_of_beq_eq_true hb]; exact Nat.zero_min n0
        refine ⟨m, w, .int .i64 0, r, Ext.refl B m s w, .int _ _, .inl (exec_copy hop hc ht hx fun ts hts => ?_)⟩
        rw [hρ, hρx]
        cases a' with
        | none => simp [Builtin.copy_, hts, run_underlying htu, Builtin.lenOf, hmin, sizeOf_run hsz, Builtin.firstCells, goInt]
        | some a' =>
          have : (loadCells a' (0 * i.size)).run P w = .ok #[] w := by simp [loadCells, loadCellsFrom]
          simp only [Nat.zero_mul] at this
          simp [Builtin.copy_, hts, run_underlying htu, Builtin.lenOf, hmin, sizeOf_run hsz, Builtin.firstCells, goInt, this]
    · cases h
  · rename_i b off n0 c0 hv
    rw [hv] at hod
    obtain ⟨lc, o', cc, hl, hρ, hncc, ho', -⟩ := slice_inv hod
    split at h
    · rename_i k news blk hnc hblk0
      obtain ⟨hblk, hC⟩ := St.cel_spec hblk0
      split at h
      · rename_i hcond
        simp only [Bool.and_eq_true, decide_eq_true_eq] at hcond
        obtain ⟨⟨hwr, hone⟩, hle⟩ := hcond
        simp only [Option.some.injEq, Prod.mk.injEq] at h
        obtain ⟨rfl, rfl⟩ := h
        obtain ⟨hnl, news', hnr, hlenOf, hfirst⟩ := newCells_spec (P := P) hnc hox r
        have hkm : (news.take (min k n0 * i.size)).length = min k n0 * i.size := by
          rw [List.length_take, hnl]
          have : min k n0 * i.size ≤ k * i.size := Nat.mul_le_mul_right _ (Nat.min_le_left _ _)
          omega
        obtain ⟨w', hstore, hr', he'⟩ := r.write (P := P) B (off := off) hblk hC hl hwr (hnr.take (min k n0 * i.size)) (by rw [hkm]; exact hle) hone
        have hst : (storeCells ⟨lc.blk, o', none⟩ (news'.take (min k n0 * i.size)) 0).run P w = .ok () w' := by
          rcases ho' with ho' | hc0
          · rw [ho']; exact hstore
          · have hn0 : n0 = 0 := by omega
            subst hn0
            simp only [Nat.min_zero, Nat.zero_mul, List.take_zero] at hstore ⊢
            exact hstore
        refine ⟨m, w', .int .i64 (min k n0 : Nat), hr', he', .int _ _, .inl (exec_copy hop hc ht hx fun ts hts => ?_)⟩
        rw [hρ]
        have hf := hfirst (min k n0) w (Nat.min_le_left _ _) (fun _ => rfl)
        have hmin : Nat.min k n0 = min k n0 := rfl
        simp [Builtin.copy_, hts, run_underlying htu, hlenOf, hmin, sizeOf_run hsz, hf, goInt, hst]
      · cases h
    · cases h
  · cases h

theorem act_sound0 {B : Nat → Prop} {id : Nat} {op : AOp} {res : ARes} {s' : St} (hc : comp0 P o = some op) (hcl : op.cls = .act) (hρ : ∀ f, ρ (.func f) = .func (.func f) #[] #[]) (ho : ∀ x ∈ o.op.operands.toList, ORel m e ρ x)
    (hid : ¬ B id) (hmid : m id = none) (h : actOf P e s id op = some (res, s')) (r : Rel G m s w) : Acts P G B m s w ρ o res s' := by
  have hf := comp_from hc
  unfold From at hf
  rw [hcl] at hf
  rcases hf with ⟨t, a, x, hop⟩ | ⟨c, hop⟩
  · simp only [comp0, hop, Option.bind_eq_bind, Option.bind_eq_some_iff, Option.some.injEq] at hc
    obtain ⟨z, hz, rfl⟩ := hc
    exact act_store hop hz (ho a (by simp [hop, Op.operands])) (ho x (by simp [hop, Op.operands])) h r
  · have hargs : ∀ x ∈ c.args.toList, ORel m e ρ x := fun x hx => ho x (by
      simp only [hop, Op.operands, Call.operands, Array.toList_append, List.mem_append]; exact .inr hx)
    unfold comp0 at hc
    rw [hop] at hc
    simp only at hc
    split at hc
    · unfold plainOf at hc
      split at hc
      · simp only [Option.some.injEq] at hc; subst hc; simp [AOp.cls] at hcl
      · cases hc
    · unfold plainOf at hc
      split at hc
      · simp only [Option.some.injEq] at hc; subst hc; simp [AOp.cls] at hcl
      · cases hc
    · unfold compCall at hc
      split at hc
      · rename_i f hcal
        simp only [Option.some.injEq] at hc; subst hc
        exact act_call hop hcal hρ hargs h
      · rename_i f hcal
        simp only [Option.some.injEq] at hc; subst hc
        exact act_callv (f := .tmp f) hop hcal (ho _ (by simp [hop, Op.operands, Call.operands, hcal])) hargs h
      · simp only [Option.bind_eq_bind, Option.bind_eq_some_iff] at hc
        obtain ⟨t, ht, x, hx, d, hd, hc⟩ := hc
        split at hc
        · simp only [Option.some.injEq] at hc; subst hc; simp [AOp.cls] at hcl
        · simp only [Option.some.injEq] at hc; subst hc; simp [AOp.cls] at hcl
        · simp only [Option.some.injEq] at hc; subst hc; simp [AOp.cls] at hcl
        · cases hc
      · rename_i hcal
        simp only [Option.bind_eq_bind] at hc
        split at hc
        · rename_i t u sl x ht hx
          simp only [Option.bind_eq_some_iff] at hc
          obtain ⟨⟨el, i⟩, hsl, z, hz, d, hd, hc⟩ := hc
          split at hc
          · simp only [Option.some.injEq] at hc; subst hc
            exact act_append hop hcal ht hx hsl hz hd (.inr ⟨_, rfl⟩) (hargs _ (by rw [hx]; simp)) (hargs _ (by rw [hx]; simp)) hid hmid h r
          · simp only [Option.some.injEq] at hc; subst hc
            exact act_append hop hcal ht hx hsl hz hd (.inl rfl) (hargs _ (by rw [hx]; simp)) (hargs _ (by rw [hx]; simp)) hid hmid h r
          · cases hc
        · cases hc
      · rename_i hcal
        simp only [Option.bind_eq_bind] at hc
        split at hc
        · rename_i t tr d x ht hx
          simp only [Option.bind_eq_some_iff, Option.some.injEq] at hc
          obtain ⟨⟨el, i⟩, hsl, rfl⟩ := hc
          exact act_copy hop hcal ht hx hsl (hargs _ (by rw [hx]; simp)) (hargs _ (by rw [hx]; simp)) h r
        · cases hc
      · cases hc
end Go.Am
