/- Bridges: a single answer told anew; what a rewriting shows of a run; where a range over a map begins. -/
import Derived.Test.YtcjfijmbdoiaiaaGreatDoorRbAi31
set_option linter.unusedSimpArgs false
set_option linter.unusedVariables false
namespace Go.Ai

section
variable {P : Program} {μ : Mu} {s s' : AS} {w w' : World} {r : AV} {e : Ending}

theorem CallPost.gc {r₂ : AV} {s₂ : AS} (hR : Rel μ s w) (h : CallPost μ s w r s' e w') (ρ : Nat → Nat) (hn : s.nx ≤ s₂.nx)
    (hid : ∀ b, b < s.nx → ρ b = b)
    (hr : r = r₂.ren ρ) (hrb : r₂.lo s₂.nx)
    (hs : ∀ b o, s₂.get b = some o → b < s₂.nx ∧ o.lo s₂.nx ∧ s'.get (ρ b) = some (o.ren ρ))
    (hinj : ∀ b b', s₂.get b ≠ none → s₂.get b' ≠ none → ρ b = ρ b' → b = b') : CallPost μ s w r₂ s₂ e w' := by
  obtain ⟨μ₁, v, rfl, hvr, hS⟩ := h
  refine ⟨μ₁.via ρ s₂.nx, v, rfl, VR.via ρ _ _ _ (hr ▸ hvr) hrb, ?_⟩
  have hWS : ∀ c, WS (μ₁.via ρ s₂.nx) s₂ c → WS μ₁ s' c := by
    rintro c ⟨b, o, i, h1, h2, h3, h4⟩
    exact ⟨ρ b, _, i, (hs b o h1).2.2, (Mu.via_some h2).2, h3, h4⟩
  have hUS : ∀ c, US (μ₁.via ρ s₂.nx) s₂ c → US μ₁ s' c := by
    rintro c ⟨b, o, i, h1, h2, h4⟩
    exact ⟨ρ b, _, i, (hs b o h1).2.2, (Mu.via_some h2).2, h4⟩
  exact {
    ext := fun b i hb => by
      have hlt := hR.fresh b i hb
      rw [Mu.via_of (Nat.lt_of_lt_of_le hlt hn), hid b hlt]
      exact hS.ext b i hb
    rel := {
      blk := fun b o hb => by
        obtain ⟨k1, k2, k3⟩ := hs b o hb
        obtain ⟨i, h1, h2⟩ := hS.rel.blk _ _ k3
        exact ⟨i, by rw [Mu.via_of k1]; exact h1, BR.via ρ _ h2 k2⟩
      sep := fun b b' o o' i i' h1 h2 h3 h4 h5 h6 => hinj b b' (by rw [h1]; simp) (by rw [h2]; simp)
        (hS.rel.sep _ _ _ _ i i' (hs b o h1).2.2 (hs b' o' h2).2.2 (Mu.via_some h3).2 (Mu.via_some h4).2 h5 h6)
      fresh := fun b i hb => (Mu.via_some hb).1 }
    keep := hS.keep
    ws := fun c hc => hS.ws c (hWS c hc)
    us := fun c hc => hS.us c (hUS c hc)
    mnew := fun b hb hlt => by
      rw [Mu.via_of (Nat.lt_of_lt_of_le hlt hn), hid b hlt]
      exact hS.mnew b hb hlt
    dom := fun b hb => by
      by_cases hlt : b < s.nx
      · left
        cases ho : s₂.get b with
        | none => exact absurd ho hb
        | some o =>
          have h3 := (hs b o ho).2.2
          rw [hid b hlt] at h3
          rcases hS.dom b (by rw [h3]; simp) with h4 | h4
          · exact h4
          · omega
      · exact .inr (by omega)
    nx := hn
    size := hS.size
    os := hS.os
    out := hS.out
    tape := hS.tape }

theorem aexec_of_wpK {call : ACall} {N : Nat} {c : AC} {tm : Tm} {s : AS} {E : AE → Tm → AS → Prop} (h : wpK call N [.code c] tm s E) : ∃ e tm' s', aexec call N c tm s = some (e, tm', s') ∧ E e tm' s' := by
  unfold wpK at h
  simp only [krun] at h
  cases he : aexec call N c tm s with
  | none => rw [he] at h; exact h.elim
  | some p =>
    obtain ⟨e, t1, s1⟩ := p
    rw [he] at h
    refine ⟨e, t1, s1, rfl, ?_⟩
    cases e <;> exact h

theorem aops_of_wpK {call : ACall} {N : Nat} {l : List AOper} {tm : Tm} {s : AS} {E : AE → Tm → AS → Prop} (h : wpK call N [.ops l] tm s E) : ∃ tm' s', aops call l tm s = some (tm', s') ∧ E .normal tm' s' := by
  unfold wpK at h
  simp only [krun] at h
  cases he : aops call l tm s with
  | none => rw [he] at h; exact h.elim
  | some p =>
    obtain ⟨t1, s1⟩ := p
    rw [he] at h
    exact ⟨t1, s1, rfl, h⟩

/-- A range over a map begins. -/
theorem RI.start {μ₀ : Mu} {s₀ : AS} {w₀ : World} {n tM tI : Nat} {tm : Tm} {a : Act} {wm : Nat} {es : List (AV × AV)} (hI : Inv P μ₀ s₀ w₀ n tm s a w) (hm : tm.at tM = .map (some wm)) (hg : s.get wm = some (.map es)) (hd : tI < n)
    {T kt et : TypeId} (hu : P.underlying T = some (.map kt et)) {o : Oper} (ho : o.op = .range T (.tmp tM)) :
    ∃ mb ees clock μ, (execOp a.eval o).run P w = .ok (.value (.pointer (some ⟨w.heap.size, 0, none⟩))) (w.alloc (.mapIter (some mb) clock #[] clock)) ∧
      RI P μ₀ s₀ w₀ n tI s.nx w.heap.size mb es ees clock [] #[] μ (tm.put (some tI) (.ptr (some (s.nx, 0)))) ((s.kill wm).bump 1) (a.put (some tI) (.pointer (some ⟨w.heap.size, 0, none⟩))) (w.alloc (.mapIter (some mb) clock #[] clock)) := by
  obtain ⟨hsz, hdf, μ, hT, hS⟩ := hI
  have hv := hT tM
  rw [hm] at hv
  obtain ⟨bi, hbv, hbi⟩ := hv.map_inv
  obtain ⟨hro, ees, clock, hh, hms, hst⟩ := hS.rel.map hg hbi
  have hev : a.eval (.tmp tM) = .map (some bi.blk) := hbv
  let i : BI := ⟨w.heap.size, 0, 0, 0, 0, false, false⟩
  have hnone := hS.rel.none_nx
  have hle := Mu.le_upd i hnone
  have hmbl : bi.blk < w.heap.size := hS.rel.inb hg hbi
  have hget : ∀ c, c < w.heap.size → (w.alloc (.mapIter (some bi.blk) clock #[] clock)).heap[c]? = w.heap[c]? := fun c hc => by
    show (w.heap.push _)[c]? = _
    rw [Array.getElem?_push]
    simp; intro hh; omega
  refine ⟨bi.blk, ees, clock, μ.upd s.nx i, ?_, ?_⟩
  · simp only [execOp, ho, hev, Instr.range, Sem.run_bind, run_underlying hu, Result.andThen_ok, run_getObj_map hh, Sem.run_pure]
    rfl
  · have hrel : Rel (μ.upd s.nx i) ((s.kill wm).bump 1) (w.alloc (.mapIter (some bi.blk) clock #[] clock)) := {
      blk := fun b o hb => by
        rw [get_bump] at hb
        have hb' := s.kill_sub wm b o hb
        obtain ⟨j, h1, h2⟩ := hS.rel.blk b o hb'
        exact ⟨j, hle b j h1, (h2.mono hle).of_heap (hget _ (hS.rel.inb hb' h1))⟩
      sep := fun b b' o o' j j' h1 h2 h3 h4 h5 h6 => by
        rw [get_bump] at h1 h2
        have k1 := s.kill_sub wm b o h1
        have k2 := s.kill_sub wm b' o' h2
        have l1 := hS.rel.wf.lt k1
        have l2 := hS.rel.wf.lt k2
        have e1 : μ b = some j := by unfold Mu.upd at h3; rw [if_neg (by omega)] at h3; exact h3
        have e2 : μ b' = some j' := by unfold Mu.upd at h4; rw [if_neg (by omega)] at h4; exact h4
        exact hS.rel.sep b b' o o' j j' k1 k2 e1 e2 h5 h6
      fresh := fun b j hj => by
        unfold Mu.upd at hj
        show b < s.nx + 1
        split at hj
        · omega
        · have := hS.rel.fresh b j hj; omega }
    have hus : ∀ c, US (μ.upd s.nx i) ((s.kill wm).bump 1) c → US μ s c ∧ c ≠ bi.blk ∧ c < w.heap.size := by
      rintro c ⟨b, o, j, h1, h2, h4⟩
      rw [get_bump] at h1
      have k1 := s.kill_sub wm b o h1
      have l1 := hS.rel.wf.lt k1
      have e1 : μ b = some j := by unfold Mu.upd at h2; rw [if_neg (by omega)] at h2; exact h2
      refine ⟨⟨b, o, j, k1, e1, h4⟩, fun he => ?_, by rw [← h4]; exact hS.rel.inb k1 e1⟩
      have := hS.rel.sep wm b (.map es) o bi j hg k1 hbi e1 (by rw [h4, he]) hro
      subst this
      rw [AS.get_kill, if_pos rfl] at h1
      cases h1
    have hws : ∀ c, WS (μ.upd s.nx i) ((s.kill wm).bump 1) c → WS μ s c := by
      rintro c ⟨b, o, j, h1, h2, h3, h4⟩
      rw [get_bump] at h1
      have k1 := s.kill_sub wm b o h1
      have l1 := hS.rel.wf.lt k1
      have e1 : μ b = some j := by unfold Mu.upd at h2; rw [if_neg (by omega)] at h2; exact h2
      exact ⟨b, o, j, k1, e1, h3, h4⟩
    have hstp : Stp μ s w (μ.upd s.nx i) ((s.kill wm).bump 1) (w.alloc (.mapIter (some bi.blk) clock #[] clock)) := {
      ext := hle
      rel := hrel
      keep := fun c hc _ => hget c hc
      ws := fun c hc => .inl (hws c hc)
      us := fun c hc => .inl (hus c hc).1
      mnew := fun b hb hlt => by unfold Mu.upd; rw [if_neg (by omega)]; exact hb
      dom := fun b hb => by
        rw [get_bump] at hb
        cases ho : (s.kill wm).get b with
        | none => exact absurd ho hb
        | some o => exact .inl (by rw [s.kill_sub wm b o ho]; simp)
      nx := Nat.le_succ _
      size := by show _ ≤ (w.heap.push _).size; rw [Array.size_push]; omega
      os := rfl
      out := rfl
      tape := rfl }
    exact {
      size := by rw [put_size]; exact hsz
      defers := by rw [put_defers]; exact hdf
      tr := by
        rw [put_tmps]
        exact (hT.mono hle).put (some tI) (fun t ht => by cases ht; rw [hsz]; exact hd) (.ptr s.nx 0 i (Mu.upd_same _ _ _))
      stp := hS.trans hstp
      its := by rw [at_put, if_pos rfl]
      ite := ⟨i, Mu.upd_same _ _ _, rfl, rfl⟩
      itl := by show _ < (w.heap.push _).size; rw [Array.size_push]; omega
      mbl := by show _ < (w.heap.push _).size; rw [Array.size_push]; omega
      ith := by show (w.heap.push _)[w.heap.size]? = _; simp
      mbh := by rw [hget _ hmbl]; exact hh
      itu := fun hc => by have := (hus _ hc).2.2; omega
      mbu := fun hc => (hus _ hc).2.1 rfl
      ne := by omega
      ent := hms.mono hle
      stm := hst
      idn := .nil
      idl := fun i hi => by cases hi
      sn := fun x => by simp }

end
end Go.Ai
