/- A range over slices.Backward: its rounds, out of what its closure promises. -/
import Derived.Test.YtplnfkihbffeeaaGreatDoorAmM
import Derived.RangeFuncSeq
namespace Go.Am
open Go.RowKit
variable {P : Program} {G : Cfg} {n : Nat}

/-- What slices.Backward's closure promises: it calls yield with each place and element of the row that a variable holds, from the last one down, till yield says no; it turns nothing itself. -/
def BackOk (P : Program) (g : FuncId) : Prop :=
  (∀ args w, (callFunc g args).run P w = .ok (.enter g args) w) ∧
  ∀ (nn l : Nat) (p : Addr) (W : World) (J : Nat → World → Prop) (R : World → Prop) (a : Option Addr) (len cap : Nat),
    W.cell? p = some (.slice a len cap) → len ≤ 1000000 → J len W →
    (∀ k W1, k < len → J (k + 1) W1 → ∃ b o len' cap' v, W1.cell? p = some (.slice (some ⟨b, o, none⟩) len' cap') ∧ k < len' ∧ W1.cell? ⟨b, o + k, none⟩ = some v ∧
      ∀ nn', YieldAt (FR none) nn' P l #[.int .i64 k, v] W1 fun e W' => (e = .returned (.bool true) ∧ J k W') ∨ (e = .returned (.bool false) ∧ R W')) →
    (∀ W1, J 0 W1 → R W1) →
    CallsIn (FR none) nn P g #[.func (.yield l) #[] #[], .pointer (some p)] W fun e W' => (∃ v, e = .returned v) ∧ R W'

theorem backAt_spec {gs : List FuncId} {v : Value} {p : Addr} (h : backAt gs v = some p) : ∃ g, g ∈ gs ∧ v = .func (.func g) ⟨[]⟩ ⟨[.pointer (some p)]⟩ := by
  unfold backAt at h
  split at h
  · rename_i g q
    rw [Bool.cond_eq_ite] at h
    split at h
    · rename_i hc
      simp only [Option.some.injEq] at h; subst h
      exact ⟨g, by simpa using hc, rfl⟩
    · cases h
  · cases h

def jumpOf : Ex → Option Code
  | .normal => none
  | .ret => some .ret
  | .exit id => some (.exit id)

theorem backLen_spec {m : Mu} {s : St} {w : World} (r : Rel G m s w) {b o len : Nat} {l : Loc} (hl : m b = some l) (h : backLen s ⟨b, o, none⟩ = some len) :
    ∃ a cap, w.cell? ⟨l.blk, l.shift + o, none⟩ = some (.slice a len cap) := by
  simp only [backLen] at h
  split at h
  · rename_i x hx0
    obtain ⟨hx, hC⟩ := St.cel_spec hx0
    split at h
    · rename_i a0 n0 c0 hv
      simp only [Option.some.injEq] at h; subst h
      obtain ⟨v', h1, h2⟩ := (r.blk _ _ _ hx hl).cell hC hv
      cases h2 <;> exact ⟨_, _, h1⟩
    · cases h
  · cases h

theorem backElem_spec {m : Mu} {s : St} {w : World} (r : Rel G m s w) {b o k : Nat} {l : Loc} {x : Value} (hl : m b = some l) (h : backElem s ⟨b, o, none⟩ k = some x) :
    ∃ b' o' len' cap' v, w.cell? ⟨l.blk, l.shift + o, none⟩ = some (.slice (some ⟨b', o', none⟩) len' cap') ∧ k < len' ∧ w.cell? ⟨b', o' + k, none⟩ = some v ∧ VRel m x v := by
  simp only [backElem] at h
  split at h
  · rename_i y hy0
    obtain ⟨hy, hC⟩ := St.cel_spec hy0
    split at h
    · rename_i c q len cap hv
      rw [Bool.cond_eq_ite] at h
      split at h
      · rename_i hk
        have hk' : k < len := by simpa using hk
        split at h
        · rename_i z hz0
          obtain ⟨hz, hCz⟩ := St.cel_spec hz0
          obtain ⟨v', h1, h2⟩ := (r.blk _ _ _ hy hl).cell hC hv
          cases h2 with
          | slice o1 o1' n1 c1 hm1 hc1 ho1 hle1 =>
            obtain ⟨v2, h3, h4⟩ := (r.blk _ _ _ hz hm1).cell hCz h
            rcases ho1 with ho1 | ho1
            · subst ho1
              exact ⟨_, _, _, _, v2, h1, hk', by rw [Nat.add_assoc]; exact h3, h4⟩
            · omega
          | sliceU o1 o1' n1 c1 es1 hm1 hle1 hsz1 ho1 =>
            obtain ⟨v2, h3, h4⟩ := (r.blk _ _ _ hz hm1).cell hCz h
            rcases ho1 with ho1 | ho1
            · subst ho1
              exact ⟨_, _, _, _, v2, h1, hk', by rw [Nat.add_assoc]; exact h3, h4⟩
            · omega
        · cases h
      · cases h
    · cases h
  · cases h

/-- The loop's record. -/
def recOf (fn : FuncId) (tmps : Array Value) (ps : Array Tmp) (assign body : Code) (D : Nat) (st : LoopState) (pe : Option Code) : Loop :=
  { state := st, pending := pe, fn, tmps, params := ps, assign, body, defers := D }

/-- All that stands between two rounds, but how far they have come. -/
structure BkInv (G : Cfg) (m : Mu) (s : St) (w : World) (rec : Loop) (m1 : Mu) (s1 : St) (W : World) : Prop where
  rel : Rel G m1 s1 W
  ext : Ext (Old s) m s w m1 s1 W
  pd : Priv m1 w.heap.size
  pl : Priv m1 (w.heap.size + 1)
  hl : W.heap[w.heap.size + 1]? = some (.loop rec)
  hd : W.heap[w.heap.size]? = some (.deferred (some []))

theorem BkInv.put {m m1 : Mu} {s s1 : St} {w W : World} {rec rec' : Loop} (h : BkInv G m s w rec m1 s1 W) : BkInv G m s w rec' m1 s1 (W.putObj (w.heap.size + 1) (.loop rec')) where
  rel := h.rel.putPriv h.pl _
  ext := h.ext.putPriv (by omega) _
  pd := h.pd
  pl := h.pl
  hl := World.putObj_heap_same (lt_of_get h.hl)
  hd := by rw [putObj_other _ (by omega)]; exact h.hd

theorem BkInv.step {m m1 m2 : Mu} {s s1 s2 : St} {w W W2 : World} {rec : Loop} (h : BkInv G m s w rec m1 s1 W) (r : Rel G m2 s2 W2) (e : Ext (Old s1) m1 s1 W m2 s2 W2) : BkInv G m s w rec m2 s2 W2 := by
  obtain ⟨p1, q1⟩ := h.pd.step (lt_of_get h.hd) e
  obtain ⟨p2, q2⟩ := h.pl.step (lt_of_get h.hl) e
  exact ⟨r, h.ext.trans (e.weaken fun b hb => Nat.lt_of_lt_of_le hb h.ext.next), p1, p2, by rw [q2]; exact h.hl, by rw [q1]; exact h.hd⟩

theorem BkInv.marks {m m1 : Mu} {s s1 : St} {w W : World} {rec : Loop} (h : BkInv G m s w rec m1 s1 W) {n0 : Nat} {ds : List Deferred} (hm : Marks n0 m w ds) :
    Marks n0 m1 W ({ target := .collected w.heap.size, args := #[] } :: ds) := by
  have hle := hm.1
  obtain ⟨h0, rs, hds, hn, hr⟩ := hm.step h.ext
  refine ⟨h0, w.heap.size :: rs, by rw [hds]; rfl, List.nodup_cons.2 ⟨fun hin => ?_, hn⟩, fun r hr1 => ?_⟩
  · obtain ⟨h00, rs0, hds0, hn0, hr0⟩ := hm
    have : w.heap.size ∈ rs0 := by
      have hmap : rs0.map (fun r => ({ target := .collected r, args := #[] } : Deferred)) = rs.map (fun r => ({ target := .collected r, args := #[] } : Deferred)) := by rw [← hds0, ← hds]
      have inj : ∀ (a b : List Nat), a.map (fun r => ({ target := .collected r, args := #[] } : Deferred)) = b.map (fun r => ({ target := .collected r, args := #[] } : Deferred)) → a = b := by
        intro a
        induction a with
        | nil => intro b hb; cases b with
          | nil => rfl
          | cons y b => simp at hb
        | cons x a ih => intro b hb; cases b with
          | nil => simp at hb
          | cons y b =>
            simp only [List.map_cons, List.cons.injEq, Deferred.mk.injEq, Target.collected.injEq, and_true] at hb
            rw [hb.1, ih b hb.2]
      rw [inj _ _ hmap]; exact hin
    have := lt_of_get (hr0 _ this).2.1
    omega
  · rcases List.mem_cons.1 hr1 with rfl | hr1
    · exact ⟨hle, h.hd, h.pd⟩
    · exact hr r hr1

theorem back_sound {call : CallF} (hb : ∀ g ∈ G.backs, BackOk P g) (k : Nat) : BackStep P G n call k := by
  intro hcode nn n0 f ps assign body gs pi px as bd ex e e' s s' m w a Q hc h r he hmk hQ
  simp only [compC, Option.bind_eq_bind, Option.bind_eq_some_iff] at hc
  obtain ⟨as', has, bd', hbd, hc⟩ := hc
  split at hc
  · rename_i pi' px' hps
    split at hc
    · rename_i hif
      simp only [Bool.and_eq_true, Nat.blt_eq] at hif
      obtain ⟨⟨⟨⟨⟨hof, hpi⟩, hpx⟩, hna⟩, hnb⟩, hne⟩ := hif
      simp only [Option.some.injEq, ACode.back.injEq] at hc
      obtain ⟨rfl, -, q1, q2, q3, q4⟩ := hc
      have q1 := q1.symm; have q2 := q2.symm; have q3 := q3.symm; have q4 := q4.symm
      subst q1; subst q2; subst q3; subst q4
      simp only [evC] at h
      split at h
      · cases h
      rename_i p hp
      split at h
      · cases h
      rename_i len hlen
      rw [Bool.cond_eq_ite] at h
      split at h
      · rename_i hble
        have hble' : len ≤ 1000000 := by simpa using hble
        split at h
        · rename_i ex1 s1 hbl
          simp only [Option.some.injEq, Prod.mk.injEq] at h
          obtain ⟨q1, rfl, q2⟩ := h
          have q1 := q1.symm; have q2 := q2.symm
          subst q1; subst q2
          obtain ⟨g, hg, hfv⟩ := backAt_spec hp
          have hor := opd_rel hof r he
          unfold ORel at hor
          rw [hfv] at hor
          obtain ⟨b, o, l, rfl, hml, haf⟩ : ∃ b o l, p = ⟨b, o, none⟩ ∧ m b = some l ∧ a.eval f = .func (.func g) #[] #[.pointer (some ⟨l.blk, l.shift + o, none⟩)] := by
            generalize a.eval f = fv at hor
            cases hor with
            | func f' h1 h2 =>
              cases h1
              cases h2 with
              | cons h3 h4 =>
                cases h4
                cases h3 with
                | ptr o hm => exact ⟨_, o, _, rfl, hm, rfl⟩
          obtain ⟨hgc, hgo⟩ := hb g hg
          refine wpIn_rangeFunc fun fn _ => ?_
          have hW1 : BkInv G m s w (recOf fn a.tmps ps assign body w.heap.size .ready none) m s ((w.alloc (.deferred (some []))).alloc (.loop (recOf fn a.tmps ps assign body w.heap.size .ready none))) := by
            refine ⟨(r.allocAny _).allocAny _, (Ext.allocAny _ m s w _).trans (Ext.allocAny _ m s _ _), ?_, ?_, ?_, ?_⟩
            · intro b' l' h1 h2; have := (r.dom _ _ h1).2; omega
            · intro b' l' h1 h2; have := (r.dom _ _ h1).2; omega
            · have := World.alloc_heap_new (w.alloc (.deferred (some []))) (.loop (recOf fn a.tmps ps assign body w.heap.size .ready none)); rwa [World.size_alloc] at this
            · exact (Below.heap_alloc _ _ _ (by simp)).trans (World.alloc_heap_new w _)
          generalize hWe : (w.alloc (.deferred (some []))).alloc (.loop (recOf fn a.tmps ps assign body w.heap.size .ready none)) = W1 at hW1
          refine ⟨w.heap.size + 1, [{ target := .collected w.heap.size, args := #[] }], W1, { target := .fn (.func g) #[.pointer (some ⟨l.blk, l.shift + o, none⟩)], args := #[.func (.yield (w.heap.size + 1)) #[] #[]] }, W1, g,
            #[.func (.yield (w.heap.size + 1)) #[] #[], .pointer (some ⟨l.blk, l.shift + o, none⟩)], W1, ?_, ?_, ?_, ?_, ?_, ?_⟩
          · rw [← hWe]; exact run_enterLoop_outer _ _ _ _ _
          · simp only [resolve, haf]
            simp [go_sem]
          · intro f' hf'; trivial
          · simp [invoke, go_sem, hgc]
          · intro h; cases h
          · obtain ⟨a0, cap0, hcell0⟩ := backLen_spec hW1.rel hml hlen
            refine (hgo (nn - 1) (w.heap.size + 1) ⟨l.blk, l.shift + o, none⟩ W1
              (fun kk W => ∃ m1 s1, BkInv G m s w (recOf fn a.tmps ps assign body w.heap.size .ready none) m1 s1 W ∧ backLoop (backRound (evC P call k) ⟨b, o, none⟩ pi px as bd e) kk s1 = some (ex, s'))
              (fun W => ∃ m1 st, st ≠ LoopState.busy ∧ BkInv G m s w (recOf fn a.tmps ps assign body w.heap.size st (jumpOf ex)) m1 s' W) a0 len cap0 hcell0 hble' ⟨m, s, hW1, hbl⟩ ?_ ?_).mono ?_
            · intro kk W2 hkk ⟨m1, s1, hI, hbl1⟩
              have hround : ∃ ex2 s2, backRound (evC P call k) ⟨b, o, none⟩ pi px as bd e kk s1 = some (ex2, s2) ∧
                  ((ex2 = .normal ∧ backLoop (backRound (evC P call k) ⟨b, o, none⟩ pi px as bd e) kk s2 = some (ex, s')) ∨ (ex2 ≠ .normal ∧ ex2 = ex ∧ s2 = s')) := by
                simp only [backLoop] at hbl1
                split at hbl1
                · rename_i s2 h1; exact ⟨_, _, h1, .inl ⟨rfl, hbl1⟩⟩
                · rename_i hno
                  refine ⟨_, _, hbl1, .inr ⟨?_, rfl, rfl⟩⟩
                  rintro rfl
                  exact hno _ hbl1
              obtain ⟨ex2, s2, hbr, hcase⟩ := hround
              unfold backRound at hbr
              split at hbr
              · cases hbr
              rename_i x hx
              split at hbr
              rotate_left
              · cases hbr
              rename_i e1 s1a hev1
              split at hbr
              rotate_left
              · cases hbr
              rename_i exb e2 s2b hev2
              simp only [Option.some.injEq, Prod.mk.injEq] at hbr
              obtain ⟨q3, q4⟩ := hbr
              subst ex2; subst s2
              obtain ⟨b', o', len', cap', v, hc1, hc2, hc3, hc4⟩ := backElem_spec hI.rel (hI.ext.le _ _ hml) hx
              refine ⟨b', o', len', cap', v, hc1, hc2, hc3, fun nn' => ?_⟩
              have hpsz : ps.size = 2 := by rw [← Array.length_toList, hps]; rfl
              refine ⟨fn, _, assign, body, run_yield hI.hl (by show 2 = ps.size; omega), ?_⟩
              have hE : ERel m1 n (Tr.set (Tr.set e pi (some (.int .i64 kk))) px (some x)) ((ps.zip #[.int .i64 kk, v]).foldl (fun tmps (t, a) => tmps.setIfInBounds t a) a.tmps) := by
                have hpe : ps = #[pi, px] := by
                  cases ps with | mk l => simp only at hps; rw [hps]
                rw [hpe, ← Array.foldl_toList, Array.toList_zip]
                exact ((he.mono hI.ext.le).put hpi (.int _ _)).put hpx hc4
              refine roundIn_of_wpIn (F := FR none) trivial ?_
              refine hcode (some (w.heap.size + 1)) nn' W2.heap.size assign as .normal _ e1 s1 s1a m1 W2 _ _ (.inr hna) has hev1 hI.rel hE (Marks.nil (Nat.le_refl _)) ?_
              intro m2 a2 W3 mk2 r2 ext2 hE2
              have hI2 := hI.step r2 ext2
              refine ⟨_, run_beginRound hI2.hl rfl, ?_⟩
              have hI3 := hI2.put (rec' := recOf fn a.tmps ps assign body w.heap.size .busy none)
              refine hcode (some (w.heap.size + 1)) nn' W2.heap.size body bd exb e1 e2 s1a s2b m2 _ a2 _ (.inr hnb) hbd hev2 hI3.rel hE2 (mk2.put hI2.hl (by simp)) ?_
              intro m3 a3 W4 mk3 r3 ext3 hE3
              have hI4 := hI3.step r3 ext3
              cases exb with
              | normal =>
                refine ⟨_, _, run_endRound none hI4.hl, ?_⟩
                rcases hcase with ⟨-, hbl2⟩ | ⟨h1, -, -⟩
                · exact .inl ⟨rfl, m3, s2b, hI4.put, hbl2⟩
                · exact absurd rfl h1
              | ret =>
                refine ⟨_, _, run_endRound (some .ret) hI4.hl, ?_⟩
                rcases hcase with ⟨h1, -⟩ | ⟨-, rfl, rfl⟩
                · cases h1
                · exact .inr ⟨rfl, m3, .done, by simp, hI4.put⟩
              | exit id =>
                refine ⟨_, _, run_endRound (some (.exit id)) hI4.hl, ?_⟩
                rcases hcase with ⟨h1, -⟩ | ⟨-, rfl, rfl⟩
                · cases h1
                · exact .inr ⟨rfl, m3, .done, by simp, hI4.put⟩
            · intro W2 ⟨m1, s1, hI, hbl1⟩
              simp only [backLoop, Option.some.injEq, Prod.mk.injEq] at hbl1
              obtain ⟨rfl, rfl⟩ := hbl1
              exact ⟨m1, .ready, by simp, hI⟩
            · rintro ed W2 ⟨⟨v, rfl⟩, m1, st, hst, hI⟩
              have hfin : ∀ rec', Marks n0 m1 (W2.putObj (w.heap.size + 1) (.loop rec')) ({ target := .collected w.heap.size, args := #[] } :: a.defers) ∧ Rel G m1 s' (W2.putObj (w.heap.size + 1) (.loop rec')) ∧
                  Ext (Old s) m s w m1 s' (W2.putObj (w.heap.size + 1) (.loop rec')) ∧ ERel m1 n e a.tmps := by
                intro rec'
                have hI' := hI.put (rec' := rec')
                exact ⟨hI'.marks hmk, hI'.rel, hI'.ext, he.mono hI'.ext.le⟩
              refine ⟨_, _, run_endLoop hI.hl hst, ?_⟩
              obtain ⟨f1, f2, f3, f4⟩ := hfin { recOf fn a.tmps ps assign body w.heap.size st (jumpOf ex) with state := .exhausted }
              have hq := hQ m1 { a with defers := { target := .collected w.heap.size, args := #[] } :: a.defers } _ f1 f2 f3 f4
              cases ex with
              | normal => exact hq
              | ret => exact wpIn_ret hq
              | exit id => exact wpIn_exit hq
        · cases h
      · cases h
    · simp at hc
  · simp at hc
end Go.Am
