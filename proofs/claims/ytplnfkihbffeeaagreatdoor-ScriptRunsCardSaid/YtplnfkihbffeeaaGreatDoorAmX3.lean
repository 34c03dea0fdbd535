/- The younger operations that act. -/
import Derived.Test.YtplnfkihbffeeaaGreatDoorAmX2
namespace Go.Am
variable {P : Program} {G : Cfg} {m : Mu} {s : St} {w : World} {n : Nat} {e : Env} {ρ : Operand → Value} {o : Oper} {v : Value}

/-- A new block of whatever kind. -/
theorem Rel.ownAny (r : Rel G m s w) {id k : Nat} (hm : m id = none) {x : Blk} {ob : Obj} (hb : BRel (m.up id ⟨w.heap.size, 0, k⟩) x ⟨w.heap.size, 0, k⟩ (w.alloc ob)) :
    Rel G (m.up id ⟨w.heap.size, 0, k⟩) (s.own id x) (w.alloc ob) := by
  have hle := Mu.le_up ⟨w.heap.size, 0, k⟩ hm
  have old : ∀ b l, b ≠ id → m.up id ⟨w.heap.size, 0, k⟩ b = some l → m b = some l ∧ l.blk < w.heap.size := by
    intro b l hb h
    unfold Mu.up at h
    rw [if_neg hb] at h
    exact ⟨h, (r.dom _ _ h).2⟩
  refine ⟨?_, ?_, ?_, ?_, ?_⟩
  · intro b y l hy hl
    rw [St.get_own] at hy
    by_cases hbi : b = id
    · subst hbi
      simp only [if_true, Option.some.injEq] at hy; subst hy
      simp only [Mu.up, if_true, Option.some.injEq] at hl; subst hl
      exact hb
    · rw [if_neg hbi] at hy
      obtain ⟨h1, h2⟩ := old _ _ hbi hl
      exact (r.blk _ _ _ hy h1).mono hle (heap_alloc_lt h2)
  · intro b y l b' y' l' hy hl hy' hl' hwr heq
    rw [St.get_own] at hy hy'
    by_cases hb : b = id
    · by_cases hb' : b' = id
      · rw [hb, hb']
      · rw [if_neg hb'] at hy'
        obtain ⟨h1, h2⟩ := old _ _ hb' hl'
        subst hb
        simp only [Mu.up, if_true, Option.some.injEq] at hl; subst hl
        simp only at heq; omega
    · rw [if_neg hb] at hy
      obtain ⟨h1, h2⟩ := old _ _ hb hl
      by_cases hb' : b' = id
      · subst hb'
        simp only [Mu.up, if_true, Option.some.injEq] at hl'; subst hl'
        simp only at heq; omega
      · rw [if_neg hb'] at hy'
        obtain ⟨h3, h4⟩ := old _ _ hb' hl'
        exact r.apart _ _ _ _ _ _ hy h1 hy' h3 hwr heq
  · intro b y hy
    rw [St.get_own] at hy
    rw [St.next_own]
    by_cases hb : b = id
    · omega
    · rw [if_neg hb] at hy
      have := r.next _ _ hy
      omega
  · intro b l hl
    rw [St.next_own, World.size_alloc]
    by_cases hb : b = id
    · subst hb
      simp only [Mu.up, if_true, Option.some.injEq] at hl; subst hl
      simp only; omega
    · obtain ⟨h1, h2⟩ := old _ _ hb hl
      have := (r.dom _ _ h1).1
      omega
  · intro g hg
    obtain ⟨l, h1, h2⟩ := r.glob g hg
    exact ⟨l, hle _ _ h1, h2⟩

/-- A block of the world that is none of ours. -/
theorem Rel.allocAny (r : Rel G m s w) (ob : Obj) : Rel G m s (w.alloc ob) := by
  refine ⟨fun b x l h h' => (r.blk b x l h h').mono (fun _ _ h => h) (heap_alloc_lt (r.dom _ _ h').2), r.apart, r.next, fun b l h => ⟨(r.dom b l h).1, ?_⟩, r.glob⟩
  rw [World.size_alloc]
  have := (r.dom b l h).2
  omega

theorem Ext.allocAny (B : Nat → Prop) (m : Mu) (s : St) (w : World) (ob : Obj) : Ext B m s w m s (w.alloc ob) :=
  ⟨fun _ _ h => h, Nat.le_refl _, fun _ _ h => ⟨h, rfl⟩, fun _ _ y _ h => ⟨y, h, fun h => h⟩, by rw [World.size_alloc]; omega, fun q hq _ => heap_alloc_lt hq, (fun b l h h' => by rw [h] at h'; cases h'), rfl, rfl, rfl⟩

theorem Rel.drewW (r : Rel G m s w) : Rel G m s w.drew := ⟨fun b x l h h' => (r.blk b x l h h').mono (fun _ _ h => h) rfl, r.apart, r.next, r.dom, r.glob⟩
theorem Ext.drewW (B : Nat → Prop) (m : Mu) (s : St) (w : World) : Ext B m s w m s w.drew :=
  ⟨fun _ _ h => h, Nat.le_refl _, fun _ _ h => ⟨h, rfl⟩, fun _ _ y _ h => ⟨y, h, fun h => h⟩, Nat.le_refl _, fun _ _ _ => rfl, (fun b l h h' => by rw [h] at h'; cases h'), rfl, rfl, rfl⟩

/-- A block of ours turns, at its place. -/
theorem Rel.turn (B : Nat → Prop) (r : Rel G m s w) {b : Nat} {x x' : Blk} {l : Loc} {w' : World} (hx : s.get b = some x) (hl : m b = some l) (hw : x.wr = true)
    (hsz : w'.heap.size = w.heap.size) (hoth : ∀ q, q ≠ l.blk → w'.heap[q]? = w.heap[q]?) (hb : BRel m x' l w') (hos : w'.os = w.os) (htape : w'.tape = w.tape) (hout : w'.output = w.output) :
    Rel G m (s.put b (some x')) w' ∧ Ext B m s w m (s.put b (some x')) w' := by
  have hown : Owns m s l.blk := ⟨b, x, l, hx, hl, rfl, hw⟩
  refine ⟨⟨?_, ?_, ?_, ?_, r.glob⟩, ?_⟩
  · intro b' y l' hy hl'
    rw [St.get_put] at hy
    by_cases hbb : b' = b
    · subst hbb
      rw [hl] at hl'; injection hl' with hl'; subst hl'
      simp only [if_true, Option.some.injEq] at hy; subst hy
      exact hb
    · rw [if_neg hbb] at hy
      have hne : l'.blk ≠ l.blk := fun he => hbb (r.apart _ _ _ _ _ _ hx hl hy hl' hw he.symm).symm
      exact (r.blk _ _ _ hy hl').mono (fun _ _ h => h) (hoth _ hne)
  · intro b1 y1 l1 b2 y2 l2 hy1 hl1 hy2 hl2 hw1 he
    rw [St.get_put] at hy1 hy2
    have g1 : ∃ z, s.get b1 = some z ∧ z.wr = true := by
      by_cases hbb : b1 = b
      · exact ⟨x, by rw [hbb]; exact hx, hw⟩
      · rw [if_neg hbb] at hy1; exact ⟨y1, hy1, hw1⟩
    have g2 : ∃ z, s.get b2 = some z := by
      by_cases hbb : b2 = b
      · exact ⟨x, by rw [hbb]; exact hx⟩
      · rw [if_neg hbb] at hy2; exact ⟨y2, hy2⟩
    obtain ⟨z1, h1', h2'⟩ := g1
    obtain ⟨z2, h3'⟩ := g2
    exact r.apart _ _ _ _ _ _ h1' hl1 h3' hl2 h2' he
  · intro b' y hy
    rw [St.get_put] at hy
    by_cases hbb : b' = b
    · rw [hbb]; exact r.next _ _ hx
    · rw [if_neg hbb] at hy; exact r.next _ _ hy
  · intro b' l' hl'
    rw [hsz]
    exact r.dom _ _ hl'
  · refine ⟨fun _ _ h => h, Nat.le_refl _, ?_, ?_, by rw [hsz]; exact Nat.le_refl _, ?_, ?_, hos, htape, hout⟩
    · intro b' _ hn
      refine ⟨hn, ?_⟩
      rw [St.get_put, if_neg]
      intro he; rw [he, hl] at hn; cases hn
    · intro b' l' y _ hy
      rw [St.get_put] at hy
      by_cases hbb : b' = b
      · rw [if_pos hbb] at hy; injection hy with hy; subst hy; exact ⟨x, by rw [hbb]; exact hx, fun _ => hw⟩
      · rw [if_neg hbb] at hy; exact ⟨y, hy, fun h => h⟩
    · intro q _ hno
      refine hoth q ?_
      intro he; rw [he] at hno; exact hno hown
    · intro b' l' hn hs
      rw [hn] at hs; cases hs

theorem ax_range {B : Nat → Prop} {id : Nat} {t : TypeId} {x : Operand} {res : ARes} {s' : St} (hop : o.op = .range t x) (hd : P.underlying t = some .string) (hx : ORel m e ρ x) (hid : ¬ B id) (hmid : m id = none)
    (h : actX P e s id (.range (opd x)) = some (res, s')) (r : Rel G m s w) : Acts P G B m s w ρ o res s' := by
  unfold ORel at hx
  simp only [actX] at h
  split at h
  · rename_i b hb
    rw [hb] at hx
    simp only [Option.some.injEq, Prod.mk.injEq] at h
    obtain ⟨rfl, rfl⟩ := h
    refine ⟨m.up id ⟨w.heap.size, 0, 0⟩, w.alloc (.stringIter b 0), .pointer (some ⟨w.heap.size, 0, none⟩), r.ownAny hmid ⟨?_, ?_⟩, Ext.own hid hmid s w _ _ _, ?_, .inl ?_⟩
    · intro b' p' e1
      injection e1 with e1 e2; subst e1; subst e2
      exact ⟨heap_alloc_at, rfl⟩
    · intro e1; cases e1
    · have := VRel.ptr (m := m.up id ⟨w.heap.size, 0, 0⟩) (b := id) (l := ⟨w.heap.size, 0, 0⟩) 0 (by simp [Mu.up])
      simpa using this
    · have := run_range_string (P := P) w t b hd
      simp [execOp, hop, hx.string_eq, this, World.iter]
  · cases h

theorem ax_next {B : Nat → Prop} {id : Nat} {x : Operand} {res : ARes} {s' : St} (hop : o.op = .next x true) (hx : ORel m e ρ x)
    (h : actX P e s id (.next (opd x)) = some (res, s')) (r : Rel G m s w) : Acts P G B m s w ρ o res s' := by
  unfold ORel at hx
  simp only [actX] at h
  split at h
  · rename_i b hb
    rw [hb] at hx
    obtain ⟨l, hl, hx'⟩ := hx.ptr_eq
    split at h
    · rename_i blk hblk
      split at h
      · rename_i t pos hk
        obtain ⟨hheap, hsh⟩ := (r.blk _ _ _ hblk hl).iter t pos hk
        rw [hsh] at hx'
        have hlt : l.blk < w.heap.size := (r.dom _ _ hl).2
        cases hwr : blk.wr with
        | false => simp [hwr] at h
        | true =>
          simp only [hwr, cond_true] at h
          cases hp : Nat.blt pos t.size with
          | true =>
            simp only [hp, cond_true, Option.some.injEq, Prod.mk.injEq] at h
            obtain ⟨rfl, rfl⟩ := h
            rw [Nat.blt_eq] at hp
            have hnew : ({ w with heap := w.heap.setIfInBounds l.blk (.stringIter t (pos + (Utf8.decode t pos).2)) } : World).heap[l.blk]? = some (.stringIter t (pos + (Utf8.decode t pos).2)) := by
              simp [hlt]
            obtain ⟨h1, h2⟩ := r.turn (x' := ⟨[], .iter t (pos + (Utf8.decode t pos).2), true⟩) (w' := { w with heap := w.heap.setIfInBounds l.blk (.stringIter t (pos + (Utf8.decode t pos).2)) }) B hblk hl hwr
              (by simp) (fun q hq => by simp [Array.getElem?_setIfInBounds_ne (Ne.symm hq)])
              ⟨fun b' p' e1 => by injection e1 with e1 e2; subst e1; subst e2; exact ⟨hnew, hsh⟩, fun e1 => by cases e1⟩ rfl rfl rfl
            refine ⟨m, _, .tuple ⟨[.bool true, .int .i64 pos, .int .i32 (Utf8.decode t pos).1]⟩, h1, h2, .tuple (.cons (.bool _) (.cons (.int _ _) (.cons (.int _ _) .nil))), .inl ?_⟩
            simp [execOp, hop, hx', Instr.next, getObj, setObj, Sem.run, hheap, hp, goInt]
          | false =>
            simp only [hp, cond_false, Option.some.injEq, Prod.mk.injEq] at h
            obtain ⟨rfl, rfl⟩ := h
            have hp' : ¬ pos < t.size := by intro h; rw [← Nat.blt_eq, hp] at h; cases h
            refine ⟨m, w, .tuple ⟨[.bool false]⟩, r, Ext.refl B m s w, .tuple (.cons (.bool _) .nil), .inl ?_⟩
            simp [execOp, hop, hx', Instr.next, getObj, Sem.run, hheap, hp']
      · cases h
    · cases h
  · cases h

theorem ax_newMap {B : Nat → Prop} {id : Nat} {t : TypeId} {res : ARes} {s' : St} (hop : o.op = .makeMap t none)
    (h : actX P e s id .newMap = some (res, s')) (r : Rel G m s w) : Acts P G B m s w ρ o res s' := by
  simp only [actX, Option.some.injEq, Prod.mk.injEq] at h
  obtain ⟨rfl, rfl⟩ := h
  refine ⟨m, w.alloc (.map #[] 0), .map (some w.heap.size), r.allocAny _, Ext.allocAny B m s w _, .map _ _, .inl ?_⟩
  simp [execOp, hop, Instr.makeMap]

theorem ax_noZero {B : Nat → Prop} {id : Nat} {f : FuncId} {fn : Func} {c : Call} {x : Operand} {t el : TypeId} {res : ARes} {s' : St} (hop : o.op = .call c) (hc : c.callee = .value (.func f)) (hρ : ∀ f, ρ (.func f) = .func (.func f) #[] #[])
    (hxs : c.args.toList = [x]) (hf : P.funcs[f]? = some fn) (hb : fn.body.isNone = true) (hor : fn.origin = "") (hn : fn.name = "internal/bytealg.MakeNoZero") (ht : fn.resultTypes = #[t]) (hd : P.underlying t = some (.slice el))
    (hx : ORel m e ρ x) (hid : ¬ B id) (hmid : m id = none)
    (h : actX P e s id (.noZero (opd x) el) = some (res, s')) (r : Rel G m s w) : Acts P G B m s w ρ o res s' := by
  unfold ORel at hx
  simp only [actX] at h
  split at h
  · rename_i k hk
    rw [hk] at hx
    cases hle : Nat.ble k 281474976710656 with
    | false => simp [hle] at h
    | true =>
      simp only [hle, cond_true, Option.some.injEq, Prod.mk.injEq] at h
      obtain ⟨rfl, rfl⟩ := h
      have hk48 := Nat.le_of_ble_eq_true hle
      obtain ⟨cs, hrun, hge, -⟩ := Lib.run_makeNoZero (P := P) w fn.params t el hd k hk48
      have r2 : Rel G m s w.drew.drew := r.drewW.drewW
      have e2 : Ext B m s w m s w.drew.drew := (Ext.drewW B m s w).trans (Ext.drewW B m s w.drew)
      have hown := r2.own hmid (x := ⟨[], .row el, true⟩) (c := cs.toList) el (Nat.zero_le _) .nil rfl rfl (fun e1 => by cases e1)
      refine ⟨_, _, .slice (some ⟨w.heap.size, 0, none⟩) k cs.size, hown, e2.trans (Ext.own hid hmid s w.drew.drew _ _ _), ?_, .inl ?_⟩
      · exact VRel.sliceU (l := ⟨w.heap.size, 0, cs.toList.length⟩) 0 0 k cs.size 1 (by simp [Mu.up]) hge (by simp) (.inl rfl)
      · refine ext_run hop hc hρ hf hb (no_next hn hor (by kernel_rfl)) (find_typed (r := Extern.BytealgMakeNoZero.makeNoZero) hn (by kernel_rfl) (by kernel_rfl)) (by rw [hn]; decide) ?_
        rw [args_one hxs, ht]
        simp only [List.map_toArray, List.map_cons, List.map_nil, hx.int_eq]
        exact hrun
  · cases h

/-- In a row of bytes. -/
theorem liesAt_off {el : TypeId} (hc : P.cellsOf el = 1) (count off k : Nat) (hk : off + k ≤ count) : liesAt P P.depth el count off el k = true := by
  have hd : P.depth = (2 * (P.types.size + Made.depth) + 1) + 1 := rfl
  rw [hd]
  simp only [liesAt, Bool.or_eq_true]
  left
  rw [hd]
  simp [rowAt, hc, hk, sameLayout, Nat.mod_one]

theorem unsafeString_at (pt it ty el : TypeId) (hp : P.underlying pt = some (.pointer el)) (hc : P.cellsOf el = 1) (a : Addr) (cells : Nat) (hsh : w.shape? a.block = some (el, cells)) (l : List UInt8) (h0 : l ≠ []) (hn : a.off + l.length ≤ cells) (h63 : l.length ≤ 9223372036854775807)
    (hcell : ∀ j x, l[j]? = some x → w.cell? (a.add j) = some (.int .u8 x.toNat)) :
    (Builtin.unsafeString_ #[pt, it] ty #[.pointer (some a), .int .i64 l.length]).run P w = .ok (.string ⟨l.toArray⟩) (w.freeze a l.length) := by
  have hl : l.length ≠ 0 := by simpa using h0
  have hlb := Lib.run_loadBytes (P := P) w l a .empty hcell
  have hlies := liesAt_off (P := P) hc (cells / P.cellsOf el) a.off l.length (by rw [hc]; simpa using hn)
  have h63' : ¬ (9223372036854775807 : Int) < (l.length : Int) := by omega
  have hdef : Builtin.unsafeString_ #[pt, it] ty #[.pointer (some a), .int .i64 l.length] =
      (do
        let n ← asInt (.int .i64 l.length)
        if n < 0 then runtimePanic (.error "unsafe.String: len out of range")
        if n > IntKind.i64.max then unsupported (.unsafePointer "String: a length above the largest int")
        if n = 0 then pure (.string .empty)
        else if ← variablesAt a (← elemOf pt) n.toNat then do
          let s ← loadBytes a .empty n.toNat
          freeze a n.toNat
          pure (.string s)
        else unsupported (.unsafePointer "String: not so many bytes at ptr")) := rfl
  rw [hdef]
  have hmax : IntKind.i64.max = 9223372036854775807 := rfl
  have hneg : ¬ (l.length : Int) < 0 := by omega
  simp [asInt, asIntOf, hmax, h63', hneg, hl, variablesAt, hsh, elemOf, run_underlying hp, hlies, hlb]

theorem bytesL_spec : ∀ {l : List Value} {bs : List UInt8}, bytesL l = some bs → l = bs.map (fun x => .int .u8 x.toNat)
  | [], bs, h => by simp only [bytesL, Option.some.injEq] at h; subst h; rfl
  | v :: l, bs, h => by
    unfold bytesL at h
    split at h
    · rename_i e1; cases e1
    · rename_i k l' e1
      injection e1 with e1 e2; subst e1; subst e2
      cases hk : Nat.blt k 256 with
      | false => simp [hk] at h
      | true =>
        simp only [hk, cond_true, Option.map_eq_some_iff] at h
        obtain ⟨r, hr, rfl⟩ := h
        rw [bytesL_spec hr]
        rw [Nat.blt_eq] at hk
        simp only [List.map_cons, List.cons.injEq, Value.int.injEq, true_and, and_true]
        have : k.toUInt8.toNat = k := by simp [Nat.toUInt8]; omega
        rw [this]; rfl
    · cases h

theorem freeze_at {a : Addr} {k : Nat} (hk : k ≠ 0) {c : Array Value} {t : TypeId} {fr : Nat × Nat} (h : w.heap[a.block]? = some (.cells c t fr)) :
    (∃ fr', (w.freeze a k).heap[a.block]? = some (.cells c t fr')) ∧ (∀ q, q ≠ a.block → (w.freeze a k).heap[q]? = w.heap[q]?) ∧ (w.freeze a k).heap.size = w.heap.size ∧
      (w.freeze a k).os = w.os ∧ (w.freeze a k).tape = w.tape ∧ (w.freeze a k).output = w.output := by
  obtain ⟨lo, hi⟩ := fr
  unfold World.freeze
  rw [if_neg hk]
  refine ⟨⟨_, by simp [Array.getElem?_modify, h]; rfl⟩, fun q hq => ?_, by simp, rfl, rfl, rfl⟩
  simp [Array.getElem?_modify, Ne.symm hq]

theorem ax_str {B : Nat → Prop} {id : Nat} {c : Call} {p x : Operand} {pt it el : TypeId} {res : ARes} {s' : St} (hop : o.op = .call c) (hc : c.callee = .builtin .unsafeString)
    (hxs : c.args.toList = [p, x]) (hts : c.argTypes.toList = [pt, it]) (hd : P.underlying pt = some (.pointer el)) (hone : P.cellsOf el = 1) (hp : ORel m e ρ p) (hx : ORel m e ρ x)
    (h : actX P e s id (.str (opd p) (opd x) el) = some (res, s')) (r : Rel G m s w) : Acts P G B m s w ρ o res s' := by
  unfold ORel at hx hp
  have hargs := args_two hxs
  have htys : c.argTypes = #[pt, it] := by apply Array.ext'; simpa using hts
  have key : ∀ y w', (Builtin.unsafeString_ #[pt, it] o.type #[ρ p, ρ x]).run P w = .ok y w' → (execOp ρ o).run P w = .ok (.value y) w' := by
    intro y w' hy
    simp [execOp, hop, resolve, hc, invoke, builtin, hargs, htys, hy]
  have zero : ∀ (q : Option Addr), ρ p = .pointer q → ρ x = .int .i64 0 → Acts P G B m s w ρ o (.val (.string ⟨⟨[]⟩⟩)) s := by
    intro q hq hx0
    refine ⟨m, w, .string .empty, r, Ext.refl B m s w, .string _, .inl (key _ _ ?_)⟩
    rw [hq, hx0]
    exact Lib.run_unsafeString_none w pt it _ q
  simp only [actX] at h
  split at h
  · rename_i k h1 h2
    rw [h1] at hp; rw [h2] at hx
    cases hk : Nat.beq k 0 with
    | false => simp [hk] at h
    | true =>
      simp only [hk, cond_true, Option.some.injEq, Prod.mk.injEq] at h
      obtain ⟨rfl, rfl⟩ := h
      have hk0 := Nat.eq_of_beq_eq_true hk
      subst hk0
      obtain ⟨q, hq, -⟩ := isNone_eq_nil hp
      exact zero q hq hx.int_eq
  · rename_i b off k h1 h2
    rw [h1] at hp; rw [h2] at hx
    obtain ⟨l, hl, hp'⟩ := hp.ptr_eq
    cases hk : Nat.beq k 0 with
    | true =>
      simp only [hk, cond_true, Option.some.injEq, Prod.mk.injEq] at h
      obtain ⟨rfl, rfl⟩ := h
      have hk0 := Nat.eq_of_beq_eq_true hk
      subst hk0
      exact zero _ hp' hx.int_eq
    | false =>
      have hk0 : k ≠ 0 := fun e1 => by rw [e1] at hk; cases hk
      simp only [hk, cond_false] at h
      split at h
      · cases h
      rename_i blk hblk0
      obtain ⟨hblk, hC⟩ := St.cel_spec hblk0
      split at h
      · cases h
      rename_i cl hcl
      split at h
      · cases h
      rename_i bs hbs
      cases hcond : (blk.wr && blk.elem.is el && Nat.ble k 9223372036854775807) with
      | false => simp [hcond] at h
      | true =>
        simp only [hcond, cond_true, Option.some.injEq, Prod.mk.injEq] at h
        obtain ⟨rfl, rfl⟩ := h
        simp only [Bool.and_eq_true] at hcond
        obtain ⟨⟨hwr, his⟩, h63⟩ := hcond
        have h63' := Nat.le_of_ble_eq_true h63
        have hb0 := r.blk _ _ _ hblk hl
        obtain ⟨cs, t, fr, hg, hsz, hfr, hle, hvr, hty, hfull⟩ := hb0.cells hC
        have htel : t = el := by
          have := (Kind.is_spec his).2
          rw [hty] at this; injection this
        subst htel
        obtain ⟨vs', q1, q2, q3⟩ := hb0.take hC hcl
        have hclb := bytesL_spec hbs
        have hflat : cl.all scalar = true := by
          rw [hclb, List.all_eq_true]
          intro y hy
          obtain ⟨z, -, rfl⟩ := List.mem_map.1 hy
          rfl
        have hveq := VRels.flat_eq hflat q2
        rw [hveq] at q1 q3
        have hblen : bs.length = k := by rw [← q3, hclb]; simp
        have hne : bs ≠ [] := by intro e1; rw [e1] at hblen; exact hk0 hblen.symm
        have hfit : l.shift + off + bs.length ≤ cs.size := by
          obtain ⟨z1, -⟩ := take_spec hcl
          omega
        have hrun := unsafeString_at (P := P) (w := w) pt it o.type t hd hone ⟨l.blk, l.shift + off, none⟩ cs.size (by simp [World.shape?, hg]) bs hne hfit (by omega) (by
          intro j y hj
          refine q1 j _ ?_
          rw [hclb, List.getElem?_map, hj]; rfl)
        have hbl0 : bs.length ≠ 0 := by omega
        obtain ⟨⟨fr', f1⟩, f2, f3, f4, f5, f6⟩ := freeze_at (w := w) (a := ⟨l.blk, l.shift + off, none⟩) hbl0 hg
        obtain ⟨g1, g2⟩ := r.turn (x' := { blk with wr := false }) (w' := w.freeze ⟨l.blk, l.shift + off, none⟩ bs.length) B hblk hl hwr f3 f2
          ⟨fun b' p' e1 => (by simp only at e1; rw [e1] at hC; cases hC), fun _ => ⟨cs, t, fr', f1, hsz, (fun e1 => by cases e1), hle, hvr, hty, hfull⟩⟩ f4 f5 f6
        refine ⟨m, _, .string ⟨bs.toArray⟩, g1, g2, .string _, .inl (key _ _ ?_)⟩
        rw [hp', hx.int_eq]
        have e1 : (Int.ofNat k) = (bs.length : Int) := by rw [hblen]; rfl
        rw [e1]
        exact hrun
  · cases h

theorem ax_toU {B : Nat → Prop} {id : Nat} {src dst t : TypeId} {i : TypeInfo} {x : Operand} {res : ARes} {s' : St} (hop : o.op = .convert src dst x) (hs : P.underlying src = some (.pointer t)) (hd : P.underlying dst = some .unsafePointer)
    (hi : P.info? t = some i) (hi0 : i.size ≠ 0) (hx : ORel m e ρ x) (h : actX P e s id (.toU (opd x)) = some (res, s')) (r : Rel G m s w) : Acts P G B m s w ρ o res s' := by
  unfold ORel at hx
  simp only [actX] at h
  split at h
  · rename_i b off hb
    rw [hb] at hx
    obtain ⟨l, hl, hx'⟩ := hx.ptr_eq
    split at h
    · rename_i blk hblk0
      obtain ⟨hblk, hC⟩ := St.cel_spec hblk0
      cases hlt : Nat.blt off blk.cells.length with
      | false => simp [hlt] at h
      | true =>
        simp only [hlt, cond_true, Option.some.injEq, Prod.mk.injEq] at h
        obtain ⟨rfl, rfl⟩ := h
        rw [Nat.blt_eq] at hlt
        obtain ⟨cs, ct, fr, hg, hsz, hfr, hle, hvr, hty, hfull⟩ := (r.blk _ _ _ hblk hl).cells hC
        refine ⟨m, w, .pointer (some ⟨l.blk, l.shift + off, none⟩), r, Ext.refl B m s w, .ptr off hl, .inl ?_⟩
        have := Lib.run_to_unsafe (P := P) w (e := ct) (cells := cs.size) ⟨l.blk, l.shift + off, none⟩ hs hd hi hi0 (by simp [World.shape?, hg]) (by simp only; omega)
        simp [execOp, hop, hx', this]
    · cases h
  · cases h

theorem ax_fromU {B : Nat → Prop} {id : Nat} {src dst u : TypeId} {i : TypeInfo} {x : Operand} {res : ARes} {s' : St} (hop : o.op = .convert src dst x) (hs : P.underlying src = some .unsafePointer) (hd : P.underlying dst = some (.pointer u))
    (hi : P.info? u = some i) (hx : ORel m e ρ x) (h : actX P e s id (.fromU (opd x) u) = some (res, s')) (r : Rel G m s w) : Acts P G B m s w ρ o res s' := by
  unfold ORel at hx
  simp only [actX] at h
  split at h
  · rename_i b off hb
    rw [hb] at hx
    obtain ⟨l, hl, hx'⟩ := hx.ptr_eq
    split at h
    · rename_i blk hblk0
      obtain ⟨hblk, hC⟩ := St.cel_spec hblk0
      split at h
      · rename_i t hk
        cases hlt : liesAt P P.depth t (blk.cells.length / P.cellsOf t) off u 1 with
        | false => simp [hlt] at h
        | true =>
          simp only [hlt, cond_true, Option.some.injEq, Prod.mk.injEq] at h
          obtain ⟨rfl, rfl⟩ := h
          obtain ⟨cs, ct, fr, hg, hsz, hfr, hle, hvr, hty, hfull⟩ := (r.blk _ _ _ hblk hl).cells hC
          have hct : t = ct := by rw [hk] at hty; injection hty
          subst hct
          obtain ⟨z1, z2⟩ := hfull hk
          refine ⟨m, w, .pointer (some ⟨l.blk, l.shift + off, none⟩), r, Ext.refl B m s w, .ptr off hl, .inl ?_⟩
          have := Lib.run_from_unsafe (P := P) w (e := t) (cells := cs.size) ⟨l.blk, l.shift + off, none⟩ hs hd hi (by simp [World.shape?, hg]) (by simp only [z1, z2, Nat.zero_add]; exact hlt)
          simp [execOp, hop, hx', this]
      · cases h
    · cases h
  · cases h

theorem methodA_run {t : TypeId} {name : String} {f : FuncId} (h : methodA P t name = some f) (v : Value) (k : Nat) (w : World) : (method (k + 1) t v name).run P w = .ok (f, v) w := by
  unfold methodA at h
  split at h
  · cases h
  rename_i i hi
  split at h
  · cases h
  rename_i mt hmt
  cases hp : mt.path.toList.isEmpty with
  | false => simp [hp] at h
  | true =>
    simp only [hp, cond_true] at h
    have hpl : mt.path.toList = [] := by simpa using hp
    have hpe : mt.path.isEmpty = true := by simpa using hpl
    have hmt' : i.methods.find? (fun x => x.name == name) = some mt := hmt
    split at h
    · cases h
    · rename_i f' hf
      split at h
      · rename_i d hd
        simp only [Option.some.injEq] at h; subst h
        simp [method, run_info hi, hmt', hpl, follow, hf, receiverAt, run_underlying hd, Place.get]
      · cases h
    · rename_i f' hf
      split at h
      · cases h
      · rename_i d hno hd
        simp only [Option.some.injEq] at h; subst h
        cases d <;> first | (exact absurd rfl (hno _); done) | simp [method, run_info hi, hmt', hpl, follow, hf, receiverAt, run_underlying hd, Place.get]
      · cases h

theorem ax_invoke {B : Nat → Prop} {id : Nat} {c : Call} {x : Operand} {name : String} {res : ARes} {s' : St} (hop : o.op = .call c) (hc : c.callee = .invoke x name)
    (hx : ORel m e ρ x) (ho : ∀ x ∈ c.args.toList, ORel m e ρ x)
    (h : actX P e s id (.invoke (opd x) name (c.args.toList.map opd)) = some (res, s')) : Acts P G B m s w ρ o res s' := by
  unfold ORel at hx
  simp only [actX] at h
  split at h
  · rename_i t y hy
    rw [hy] at hx
    obtain ⟨y', hx', hyr⟩ := iface_inv hx
    split at h
    · rename_i f hf
      simp only [Option.some.injEq, Prod.mk.injEq, List.map_map] at h
      obtain ⟨rfl, rfl⟩ := h
      refine ⟨rfl, y' :: c.args.toList.map ρ, .cons hyr (VRels.map_op ho), fun fn hfn hb hn => ?_⟩
      obtain ⟨body, hbody⟩ := Option.isSome_iff_exists.1 hb
      have e1 : (⟨y' :: c.args.toList.map ρ⟩ : Array Value) = #[y'] ++ c.args.map ρ := by apply Array.ext'; simp
      have hm := methodA_run hf y' (P.types.size + Made.depth - 1) w
      have hd : P.types.size + Made.depth - 1 + 1 = P.types.size + Made.depth := by
        have : 0 < Made.depth := by decide
        omega
      rw [hd] at hm
      rw [e1]
      have hex : (#[ρ x] ++ c.args.map ρ).extract 1 (#[ρ x] ++ c.args.map ρ).size = c.args.map ρ := by
        apply Array.ext'; simp; exact List.take_of_length_le (by simp)
      have hg0 : (#[ρ x] ++ c.args.map ρ)[0]? = some (ρ x) := by
        rw [← Array.getElem?_toList, Array.toList_append]; rfl
      have hcm : (callMethod (.iface t y') name (c.args.map ρ)).run P w = .ok (.enter f (#[y'] ++ c.args.map ρ)) w := by
        simp [callMethod, hm, callFunc, hfn, hn, hbody]
      have hinv : (invoke (.fn (.method name) #[]) (#[ρ x] ++ c.args.map ρ)).run P w = .ok (.enter f (#[y'] ++ c.args.map ρ)) w := by
        have : invoke (.fn (.method name) #[]) (#[ρ x] ++ c.args.map ρ) = (do
          let some recv := (#[ρ x] ++ c.args.map ρ)[0]? | stuck "call: a method without a receiver"
          callMethod recv name ((#[ρ x] ++ c.args.map ρ).extract 1 (#[ρ x] ++ c.args.map ρ).size)) := rfl
        rw [this, hg0, hex, hx']
        exact hcm
      have hres : ∀ ty, (resolve ρ c ty) = pure { target := .fn (.method name) #[], args := #[ρ x] ++ c.args.map ρ } := by
        intro ty
        simp only [resolve, hc]
      have hx2 : execOp ρ o = (do let d ← resolve ρ c o.type; invoke d.target d.args) := by
        unfold execOp; rw [hop]
      rw [hx2, hres]
      exact hinv
    · cases h
  · cases h
end Go.Am
