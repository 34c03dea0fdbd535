/- Operations that touch no memory: slices of slices, lengths; all of them. -/
import Derived.Test.YtplnfkihbffeeaaGreatDoorAmH
namespace Go.Am
variable {P : Program} {G : Cfg} {m : Mu} {s : St} {w : World} {n : Nat} {e : Env} {ρ : Operand → Value} {o : Oper} {v : Value}

theorem evBound_spec {x : Value} {y k : Nat} (h : evBound x y = some k) : ∃ kd, x = .int kd (k : Int) ∧ k ≤ y := by
  unfold evBound at h
  split at h
  · rename_i kd i
    cases hb : Nat.ble i y with
    | false => simp [hb] at h
    | true =>
      simp only [hb, cond_true, Option.some.injEq] at h; subst h
      exact ⟨kd, rfl, Nat.le_of_ble_eq_true hb⟩
  · cases h

theorem bound_run {x : Operand} {y y' k : Nat} (c : BoundsCode) (h : evBound ((opd x).ev e) y = some k) (hx : ORel m e ρ x) (hy : y ≤ y') (w : World) :
    (Instr.sliceBound (ρ x) y' c).run P w = .ok k w := by
  obtain ⟨kd, hk, hle⟩ := evBound_spec h
  unfold ORel at hx; rw [hk] at hx
  have : k ≤ y' := by omega
  simp [Instr.sliceBound, hx.int_eq, asIntOf, this]

def ORelO (m : Mu) (e : Env) (ρ : Operand → Value) (x : Option Operand) : Prop := ∀ y, x = some y → ORel m e ρ y

theorem bounds_run {len cap cap' l h k : Nat} {lo hi mx : Option Operand} (isS : Bool)
    (hb : bounds e len cap (lo.map opd) (hi.map opd) (mx.map opd) = some (l, h, k)) (h1 : ORelO m e ρ lo) (h2 : ORelO m e ρ hi) (h3 : ORelO m e ρ mx) (hc : cap ≤ cap') (hlen : len ≤ cap) (w : World) :
    (Instr.sliceBounds isS len cap' (lo.map ρ) (hi.map ρ) (mx.map ρ)).run P w = .ok (l, h, if mx.isSome then k else cap') w ∧ l ≤ h ∧ h ≤ k ∧ k ≤ cap ∧ (mx = none → k = cap) := by
  unfold bounds at hb
  split at hb
  · cases hb
  rename_i m0 hm
  split at hb
  · cases hb
  rename_i h0 hh
  split at hb
  · cases hb
  rename_i l0 hl
  simp only [Option.some.injEq, Prod.mk.injEq] at hb
  obtain ⟨rfl, rfl, rfl⟩ := hb
  have hmle : m0 ≤ cap ∧ (mx = none → m0 = cap) := by
    cases mx with
    | none => simp [mxOf] at hm; subst hm; exact ⟨Nat.le_refl _, fun _ => rfl⟩
    | some x => simp [mxOf] at hm; exact ⟨(evBound_spec hm).choose_spec.2, fun h => by cases h⟩
  have hhle : h0 ≤ m0 := by
    cases hi with
    | none => cases mx with
      | none => simp [mxOf, hiOf] at hh hm; omega
      | some x => simp [hiOf] at hh
    | some x => simp [hiOf] at hh; exact (evBound_spec hh).choose_spec.2
  have hlle : l0 ≤ h0 := by
    cases lo with
    | none => simp [loOf] at hl; omega
    | some x => simp [loOf] at hl; exact (evBound_spec hl).choose_spec.2
  refine ⟨?_, hlle, hhle, hmle.1, hmle.2⟩
  have r3 : ∀ x, lo = some x → ∀ c w, (Instr.sliceBound (ρ x) h0 c).run P w = .ok l0 w := by
    intro x hx c w; subst hx; simp [loOf] at hl; exact bound_run c hl (h1 _ rfl) (Nat.le_refl _) w
  cases mx with
  | none =>
    have r2 : ∀ x, hi = some x → ∀ c w, (Instr.sliceBound (ρ x) cap' c).run P w = .ok h0 w := by
      intro x hx c w; subst hx; simp [mxOf, hiOf] at hh hm; subst hm; exact bound_run c hh (h2 _ rfl) hc w
    cases hi with
    | none =>
      simp [hiOf] at hh; subst hh
      cases lo with
      | none => simp [loOf] at hl; subst hl; simp [Instr.sliceBounds]
      | some x => simp [Instr.sliceBounds, r3 x rfl]
    | some y => cases lo with
      | none => simp [loOf] at hl; subst hl; simp [Instr.sliceBounds, r2 y rfl]
      | some x => simp [Instr.sliceBounds, r3 x rfl, r2 y rfl]
  | some z =>
    have r1 : ∀ c w, (Instr.sliceBound (ρ z) cap' c).run P w = .ok m0 w := by
      intro c w; simp [mxOf] at hm; exact bound_run c hm (h3 _ rfl) hc w
    cases hi with
    | none => simp [hiOf] at hh
    | some y =>
      have r2 : ∀ c w, (Instr.sliceBound (ρ y) m0 c).run P w = .ok h0 w := by
        intro c w; simp [hiOf] at hh; exact bound_run c hh (h2 _ rfl) (Nat.le_refl _) w
      cases lo with
      | none => simp [loOf] at hl; subst hl; simp [Instr.sliceBounds, r1, r2]
      | some x => simp [Instr.sliceBounds, r3 x rfl, r2, r1]

theorem nilSlice_eq {n c : Nat} {v : Value} (h : VRel m (.slice none n c) v) : v = .slice none n c ∧ c < U ∧ n ≤ c := by
  cases h
  exact ⟨rfl, by assumption, by assumption⟩

theorem slice_inv {b off n c0 : Nat} {v : Value} (h : VRel m (.slice (some ⟨b, off, none⟩) n c0) v) :
    ∃ l o' c, m b = some l ∧ v = .slice (some ⟨l.blk, o', none⟩) n c ∧ n ≤ c ∧ (o' = l.shift + off ∨ c = 0) ∧ ((c0 < U ∧ c = c0) ∨ ∃ es, c0 = U + es ∧ l.shift + off + c * es = l.size) := by
  cases h with
  | slice o o' n c a1 a2 a3 a4 => exact ⟨_, _, _, a1, rfl, a4, a3, .inl ⟨a2, rfl⟩⟩
  | sliceU o o' n c es a1 a2 a3 a4 => exact ⟨_, _, _, a1, rfl, a2, a4, .inr ⟨es, rfl, a3⟩⟩

theorem g_slice {t el : TypeId} {x : Operand} {lo hi mx : Option Operand} {z : Nat} (ho : o.op = .slice t x lo hi mx) (ht : P.underlying t = some (.slice el)) (hz : sizeP P el = some z)
    (hx : ORel m e ρ x) (h1 : ORelO m e ρ lo) (h2 : ORelO m e ρ hi) (h3 : ORelO m e ρ mx)
    (h : pureOf P e (.slice (opd x) (lo.map opd) (hi.map opd) (mx.map opd) z) = some v) : Gives P m ρ o v := by
  unfold ORel at hx
  simp only [pureOf] at h
  have ex : ∀ (a : Option Addr) (len cap l hh k : Nat), ρ x = .slice a len cap → (∀ w, (Instr.sliceBounds true len cap (lo.map ρ) (hi.map ρ) (mx.map ρ)).run P w = .ok (l, hh, k) w) →
      ∀ w, (execOp ρ o).run P w = .ok (.value (.slice (if k = l then a else a.map (·.add (l * z))) (hh - l) (k - l))) w := by
    intro a len cap l hh k hr hb w
    simp [execOp, ho, Instr.sliceAt, run_underlying ht, Instr.slice, hr, hb, sizeOf_run hz]
  split at h
  · rename_i len cap hc
    cases hb : Nat.blt cap U with
    | false => simp [hb] at h
    | true =>
      simp only [hb, cond_true, Option.map_eq_some_iff] at h
      obtain ⟨⟨l, hh, k⟩, hbd, rfl⟩ := h
      rw [hc] at hx
      rw [Nat.blt_eq] at hb
      obtain ⟨hx', hcU, hlen⟩ := nilSlice_eq hx
      have hr := fun w => bounds_run (P := P) (ρ := ρ) true hbd h1 h2 h3 (Nat.le_refl cap) hlen w
      obtain ⟨-, hl1, hl2, hl3, hl4⟩ := hr default
      have hk : (if mx.isSome then k else cap) = k := by cases mx with
        | none => simpa using (hl4 rfl).symm
        | some _ => rfl
      refine ⟨_, .nilSlice (hh - l) (k - l) (by omega) (by omega), fun w => ?_⟩
      rw [ex none len cap l hh k hx' (fun w => by have := (hr w).1; rwa [hk] at this) w]
      split <;> rfl
  · rename_i b off len cap hc
    rw [hc] at hx
    cases hb : Nat.blt cap U with
    | true =>
      simp only [hb, cond_true, Option.map_eq_some_iff] at h
      obtain ⟨⟨l, hh, k⟩, hbd, rfl⟩ := h
      rw [Nat.blt_eq] at hb
      have key : ∀ (lc : Loc) (o' : Nat), m b = some lc → (o' = lc.shift + off ∨ cap = 0) → len ≤ cap → ρ x = .slice (some ⟨lc.blk, o', none⟩) len cap →
          Gives P m ρ o (.slice (some ⟨b, bif Nat.beq k l then off else off + l * z, none⟩) (hh - l) (k - l)) := by
        intro lc o' hl ho' hlen hx'
        have hr := fun w => bounds_run (P := P) (ρ := ρ) true hbd h1 h2 h3 (Nat.le_refl cap) hlen w
        obtain ⟨-, hl1, hl2, hl3, hl4⟩ := hr default
        have hk : (if mx.isSome then k else cap) = k := by cases mx with
          | none => simpa using (hl4 rfl).symm
          | some _ => rfl
        refine ⟨.slice (some ⟨lc.blk, if k = l then o' else o' + l * z, none⟩) (hh - l) (k - l), .slice _ _ _ _ hl (by omega) ?_ (by omega), fun w => ?_⟩
        · by_cases e1 : k = l
          · right; omega
          · rw [Tr.beqN e1, cond_false, if_neg e1]; omega
        · rw [ex _ len cap l hh k hx' (fun w => by have := (hr w).1; rwa [hk] at this) w]
          by_cases e1 : k = l
          · simp [e1]
          · simp [e1, add_none]
      obtain ⟨lc, o', c, a1, a2, a3, a4, a5⟩ := slice_inv hx
      rcases a5 with ⟨a5, rfl⟩ | ⟨es, a5, a6⟩
      · exact key _ _ a1 a4 a3 a2
      · omega
    | false =>
      simp only [hb, cond_false] at h
      cases hb2 : Nat.beq cap (U + z) with
      | false => simp [hb2] at h
      | true =>
        have hcap : cap = U + z := Nat.eq_of_beq_eq_true hb2
        simp only [hb2, cond_true] at h
        subst hcap
        have key : ∀ (lc : Loc) (o' c l hh k : Nat), m b = some lc → len ≤ c → lc.shift + off + c * z = lc.size → (o' = lc.shift + off ∨ c = 0) → ρ x = .slice (some ⟨lc.blk, o', none⟩) len c →
            bounds e len len (lo.map opd) (hi.map opd) (mx.map opd) = some (l, hh, k) → (mx.isSome → len < U) →
            Gives P m ρ o (match mx with
              | none => .slice (some ⟨b, off + l * z, none⟩) (hh - l) (U + z)
              | some _ => .slice (some ⟨b, bif Nat.beq k l then off else off + l * z, none⟩) (hh - l) (k - l)) := by
          intro lc o' c l hh k hl hlen hsz ho' hx' hbd hlU
          have hr := fun w => bounds_run (P := P) (ρ := ρ) (cap' := c) true hbd h1 h2 h3 hlen (Nat.le_refl len) w
          obtain ⟨-, hl1, hl2, hl3, hl4⟩ := hr default
          cases mx with
          | none =>
            have hm := hl4 rfl
            refine ⟨.slice (some ⟨lc.blk, if c = l then o' else o' + l * z, none⟩) (hh - l) (c - l), .sliceU _ _ _ _ _ hl (by omega) ?_ ?_, fun w => ?_⟩
            · rw [← hsz, Nat.sub_mul, Nat.add_assoc lc.shift off, Nat.add_assoc lc.shift]
              have : l * z ≤ c * z := Nat.mul_le_mul_right _ (by omega)
              omega
            · by_cases e1 : c = l
              · right; omega
              · rw [if_neg e1]; omega
            · rw [ex _ len c l hh c hx' (fun w => by have := (hr w).1; simpa using this) w]
              by_cases e1 : c = l
              · simp [e1]
              · simp [e1, add_none]
          | some q =>
            refine ⟨.slice (some ⟨lc.blk, if k = l then o' else o' + l * z, none⟩) (hh - l) (k - l), .slice _ _ _ _ hl ?_ ?_ (by omega), fun w => ?_⟩
            · have := hlU rfl; omega
            · by_cases e1 : k = l
              · right; omega
              · rw [Tr.beqN e1, cond_false, if_neg e1]; omega
            · rw [ex _ len c l hh k hx' (fun w => by have := (hr w).1; simpa using this) w]
              by_cases e1 : k = l
              · simp [e1]
              · simp [e1, add_none]
        obtain ⟨lc, o', c, a1, a2, a3, a4, a5⟩ := slice_inv hx
        rcases a5 with ⟨a5, rfl⟩ | ⟨es, a5, a6⟩
        · omega
        · have hes : es = z := by omega
          subst hes
          cases mx with
          | none =>
            simp only [Option.map_none, Option.map_eq_some_iff] at h
            obtain ⟨⟨l, hh, k⟩, hbd, rfl⟩ := h
            exact key _ _ _ l hh k a1 a3 a6 a4 a2 (by simpa using hbd) (fun h => by cases h)
          | some q =>
            simp only [Option.map_some] at h
            cases hb3 : Nat.blt len U with
            | false => simp [hb3] at h
            | true =>
              simp only [hb3, cond_true, Option.map_eq_some_iff] at h
              obtain ⟨⟨l, hh, k⟩, hbd, rfl⟩ := h
              rw [Nat.blt_eq] at hb3
              exact key _ _ _ l hh k a1 a3 a6 a4 a2 (by simpa using hbd) (fun _ => hb3)
  · cases h
end Go.Am
