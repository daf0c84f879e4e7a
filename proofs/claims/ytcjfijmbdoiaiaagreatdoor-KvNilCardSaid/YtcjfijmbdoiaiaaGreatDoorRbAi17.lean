/- A region that does not draw its order: the abstract interpreter's is the model's. -/
import Derived.Test.YtcjfijmbdoiaiaaGreatDoorRbAi16
import Derived.LoopN
set_option linter.unusedSimpArgs false
set_option linter.unusedVariables false
namespace Go.Ai

section
variable {P : Program} {μ : Mu} {s : AS} {w : World} {tm : Tm} {a : Act} {o : Oper}

/-- How an operation was read. -/
def CopOK (P : Program) (o : Oper) (ao : AOp) : Prop :=
  cop P o.op = some ao ∨ (∃ x nm ax, o.op = .nilCheck x ∧ cx P x = some ax ∧ ao = .nilckM nm (methodTbl P nm) ax) ∨ ao = .bad

theorem copH_ok {P : Program} {ops : Array Oper} {o : Oper} : CopOK P o (copH P ops o.op) := by
  unfold copH
  cases hc : chint P ops o.op with
  | some ao =>
    right; left
    unfold chint at hc
    split at hc
    · rename_i t ho
      split at hc
      · rename_i nm hf
        simp only [Option.some.injEq] at hc
        exact ⟨_, nm, .tmp t, ho, rfl, hc.symm⟩
      · cases hc
    · cases hc
  | none =>
    simp only []
    cases hp : cop P o.op with
    | some ao => left; simp [hp]
    | none => right; right; rfl

theorem methodTbl_any {name : String} {t : TypeId} (h : (methodTbl P name).any (·.1 == t) = true) : ∃ f, methodAt P name t = some f := by
  rw [List.any_eq_true] at h
  obtain ⟨⟨t', f⟩, hm, he⟩ := h
  simp only [beq_iff_eq] at he
  subst he
  exact ⟨f, methodTbl_mem hm⟩

theorem run_nilAhead {name : String} {t : TypeId} {f : FuncId} (h : methodAt P name t = some f) {v : Value} (n : Nat) (w : World) : (nilAhead (n + 1) t v name).run P w = .ok (some false) w := by
  unfold methodAt at h
  split at h
  · rename_i i d hi hd
    split at h
    · rename_i m hm
      split at h
      · rename_i f' b hf
        split at h
        · rename_i hcond
          cases h
          obtain ⟨hpath, rfl⟩ := hcond
          have hfol : (followBlind m.path.toList t (some v)).run P w = .ok (.ok (t, some v)) w := by rw [hpath]; rfl
          unfold nilAhead
          simp only [Sem.run_bind, typeInfo, run_program, hi, Result.andThen_ok, Sem.run_pure, hm, hfol, hf]
          cases d with
          | pointer e => rfl
          | _ => simp only [isPtrD, Sem.run_bind, run_underlying hd, Result.andThen_ok]; rfl
        · cases h
      · cases h
    · cases h
  · cases h

theorem ok_nilckM (hg : GOK P μ) (hT : TR μ tm a.tmps) (hR : Rel μ s w) {x : Operand} (ho : o.op = .nilCheck x) {nm : String} {ax : AX} (hx : cx P x = some ax) {v : AV} {s' : AS} (h : aop tm s (.nilckM nm (methodTbl P nm) ax) = some (v, s')) :
    Good μ s w ((execOp a.eval o).run P w) v s' := by
  have h1 := cx_ok hg hT hx
  simp only [aop] at h
  split at h
  · rename_i n t u caps he
    split at h
    · rename_i hc
      obtain ⟨rfl, hc⟩ := hc
      simp only [Option.some.injEq, Prod.mk.injEq] at h
      obtain ⟨rfl, rfl⟩ := h
      obtain ⟨f, hf⟩ := methodTbl_any hc
      rw [he] at h1
      obtain ⟨fc, cc, e1, hfc⟩ : ∃ fc cc, a.eval x = .func (.method n) fc cc ∧ VRs μ [.iface t u] fc.toList := by
        generalize a.eval x = xv at h1
        cases h1; exact ⟨_, _, rfl, by assumption⟩
      obtain ⟨u', e2, _⟩ := hfc.get (n := 0) (v := .iface t u) rfl
      have e3 : ∃ u'', u' = .iface t u'' := by
        obtain ⟨u1, k1, k2⟩ := hfc.get (n := 0) (v := .iface t u) rfl
        rw [e2] at k1
        cases k1
        cases k2
        exact ⟨_, rfl⟩
      obtain ⟨u'', rfl⟩ := e3
      have e4 : fc[0]? = some (.iface t u'') := by rw [← Array.getElem?_toList]; exact e2
      have hsz : P.types.size + Made.depth = (P.types.size + Made.depth - 1) + 1 := by
        have : 0 < Made.depth := by decide
        omega
      have : (execOp a.eval o).run P w = .ok (.value (a.eval x)) w := by
        simp only [execOp, ho, e1, e4, Sem.run_bind, run_program, Result.andThen_ok]
        rw [hsz, run_nilAhead hf]
        rfl
      rw [this]
      refine .value hR ?_
      rw [he] at *
      exact h1
    · cases h
  · cases h

theorem aoper_wp' {call : ACall} (hcall : CallOK P call) (hg : GOK P μ) (hT : TR μ tm a.tmps) (hR : Rel μ s w) {ao : AOp} (hc : CopOK P o ao) {v : AV} {s' : AS} (h : aoper call tm s ao = some (v, s'))
    {K : Act → World → Prop} {Q : Exit → Act → World → Prop} (hK : ∀ μ' v' w', VR μ' v v' → Stp μ s w μ' s' w' → K (a.put o.dst v') w') : o.wp P a w K Q := by
  rcases hc with hc | ⟨x, nm, ax, h1, h2, rfl⟩ | rfl
  · exact aoper_wp hcall hg hT hR hc h hK
  · have h3 : aop tm s (.nilckM nm (methodTbl P nm) ax) = some (v, s') := h
    obtain ⟨μ', v', w', k1, k2, k3⟩ := ok_nilckM hg hT hR h1 h2 h3
    unfold Oper.wp
    rcases k1 with k1 | ⟨k1, rfl⟩
    · rw [k1]; exact hK _ _ _ k2 k3
    · rw [k1]; exact hK _ _ _ k2 k3
  · cases h

/-- How an operation of a region was read. -/
theorem coper_inv {n : Nat} {ops : Array Oper} {ao : AOper} (h : coper P n ops o = some ao) :
    (∀ d, o.dst = some d → d < n) ∧ ao.dst = o.dst ∧ CopOK P o ao.op ∧
    ((o.guard = none ∧ ao.guard = none) ∨ ∃ g d want, o.guard = some (g, want) ∧ (ops[g]?).bind (·.dst) = some d ∧ ao.guard = some (d, want)) := by
  unfold coper at h
  have key : ∀ (hd : ∀ d, o.dst = some d → d < n), (match o.guard with
      | none => some (⟨o.dst, copH P ops o.op, none⟩ : AOper)
      | some (g, want) =>
        match (ops[g]?).bind (·.dst) with
        | some d => some ⟨o.dst, copH P ops o.op, some (d, want)⟩
        | none => none) = some ao → (∀ d, o.dst = some d → d < n) ∧ ao.dst = o.dst ∧ CopOK P o ao.op ∧
    ((o.guard = none ∧ ao.guard = none) ∨ ∃ g d want, o.guard = some (g, want) ∧ (ops[g]?).bind (·.dst) = some d ∧ ao.guard = some (d, want)) := by
    intro hd' h
    split at h
    · rename_i hgd
      cases h
      exact ⟨hd', rfl, copH_ok, .inl ⟨hgd, rfl⟩⟩
    · rename_i g want hgd
      split at h
      · rename_i d hdd
        cases h
        exact ⟨hd', rfl, copH_ok, .inr ⟨g, d, want, hgd, hdd, rfl⟩⟩
      · cases h
  cases hd : o.dst with
  | none =>
    rw [hd] at h key
    simp only [if_true] at h
    exact key (fun d hd => by cases hd) h
  | some d =>
    rw [hd] at h key
    simp only [decide_eq_true_eq] at h
    split at h
    · rename_i hlt
      exact key (fun e he => by cases he; exact hlt) h
    · cases h

theorem wanted_ok {tmps : Array Value} {n : Nat} {ops : Array Oper} {ao : AOper} (h : coper P n ops o = some ao) (hT : TR μ tm tmps) : Region.wanted o (yielded ops tmps) = ao.wanted tm := by
  obtain ⟨_, _, _, hgd⟩ := coper_inv h
  unfold Region.wanted AOper.wanted
  rcases hgd with ⟨h1, h2⟩ | ⟨g, d, want, h1, h2, h3⟩
  · rw [h1, h2]
  · rw [h1, h3]
    simp only [yielded, h2, Option.bind_some]
    have hv := hT d
    generalize tm.at d = u at hv
    cases ht : tmps[d]? with
    | none =>
      rw [Array.getD_eq_getD_getElem?, ht, Option.getD_none] at hv
      cases hv; rfl
    | some y =>
      rw [Array.getD_eq_getD_getElem?, ht, Option.getD_some] at hv
      cases hv <;> rfl

theorem Tm.put_at (tm : Tm) (d : Option Nat) (v : AV) (t : Nat) : (tm.put d v).at t = if d = some t then v else tm.at t := by
  cases d with
  | none => simp [Tm.put]
  | some d =>
    simp only [Tm.put, Tm.at, PT.get_set, Option.some.injEq]
    by_cases h : t = d
    · subst h; simp
    · have : ¬ d = t := fun e => h e.symm
      simp [h, this]

def putT (tmps : Array Value) (d : Option Nat) (v : Value) : Array Value :=
  match d with
  | some d => tmps.setIfInBounds d v
  | none => tmps

theorem TR.put {tmps : Array Value} (hT : TR μ tm tmps) (d : Option Nat) (hd : ∀ t, d = some t → t < tmps.size) {v : AV} {v' : Value} (hv : VR μ v v') :
    TR μ (tm.put d v) (putT tmps d v') := by
  intro t
  rw [Tm.put_at]
  cases d with
  | none => exact hT t
  | some d =>
    have hlt := hd d rfl
    simp only [Option.some.injEq]
    by_cases h : d = t
    · subst h
      simp only [putT, if_true, Array.getD_eq_getD_getElem?]
      rw [Array.getElem?_setIfInBounds_self_of_lt hlt]
      exact hv
    · simp only [putT, h, if_false, Array.getD_eq_getD_getElem?]
      rw [Array.getElem?_setIfInBounds_ne h]
      have := hT t
      rwa [Array.getD_eq_getD_getElem?] at this

theorem put_tmps (a : Act) (d : Option Nat) (v : Value) : (a.put d v).tmps = putT a.tmps d v := by cases d <;> rfl
theorem put_size (a : Act) (d : Option Nat) (v : Value) : (a.put d v).tmps.size = a.tmps.size := by cases d <;> simp [Act.put]
theorem put_defers (a : Act) (d : Option Nat) (v : Value) : (a.put d v).defers = a.defers := by cases d <;> rfl

/-- What holds between the two sides in the midst of a function. -/
structure Inv (P : Program) (μ₀ : Mu) (s₀ : AS) (w₀ : World) (n : Nat) (tm : Tm) (s : AS) (a : Act) (w : World) : Prop where
  size : a.tmps.size = n
  defers : a.defers = []
  ex : ∃ μ, TR μ tm a.tmps ∧ Stp μ₀ s₀ w₀ μ s w

theorem aops_ok {call : ACall} (hcall : CallOK P call) {μ₀ : Mu} {s₀ : AS} {w₀ : World} {n : Nat} (hg : GOK P μ₀) {ops : Array Oper} {Q : Exit → Act → World → Prop} :
    ∀ (l : List AOper) (k : Nat) (ol : List Oper), (∀ i, ol[i]? = ops[k + i]?) → ol.mapM (coper P n ops) = some l → ∀ (tm : Tm) (s : AS) (a : Act) (w : World) (tm' : Tm) (s' : AS), Inv P μ₀ s₀ w₀ n tm s a w → aops call l tm s = some (tm', s') →
      (∀ a' w', Inv P μ₀ s₀ w₀ n tm' s' a' w' → Q .normal a' w') → wpOps P ops Q (List.range' k ol.length) a w := by
  intro l
  induction l with
  | nil =>
    intro k ol hix hm tm s a w tm' s' hI h hQ
    have : ol = [] := by
      cases ol with
      | nil => rfl
      | cons o r => obtain ⟨_, _, _, _, h3⟩ := mapM_cons_some hm; cases h3
    subst this
    simp only [aops, Option.some.injEq, Prod.mk.injEq] at h
    obtain ⟨rfl, rfl⟩ := h
    exact hQ _ _ hI
  | cons ao l ih =>
    intro k ol hix hm tm s a w tm' s' hI h hQ
    cases ol with
    | nil => have := mapM_nil_some hm; cases this
    | cons o r =>
      obtain ⟨ao', l', h1, h2, h3⟩ := mapM_cons_some hm
      cases h3
      have ho : ops[k]? = some o := by have := hix 0; simpa using this.symm
      obtain ⟨hdlt, hdst, hcop, _⟩ := coper_inv h1
      obtain ⟨hsz, hdf, μ, hT, hS⟩ := hI
      simp only [List.length_cons, List.range'_succ]
      rw [wpOps_cons]
      unfold wpOp
      simp only [ho]
      rw [wanted_ok h1 hT]
      simp only [aops] at h
      have next : ∀ (s1 : AS) (v : AV) (μ1 : Mu) (v' : Value) (w1 : World), aops call l (tm.put ao.dst v) s1 = some (tm', s') → VR μ1 v v' → Stp μ s w μ1 s1 w1 → wpOps P ops Q (List.range' (k + 1) r.length) (a.put o.dst v') w1 := by
        intro s1 v μ1 v' w1 hh hv hst
        refine ih (k + 1) r (fun i => ?_) h2 (tm.put ao.dst v) s1 _ w1 tm' s' ?_ hh hQ
        · have := hix (i + 1)
          simp only [List.getElem?_cons_succ] at this
          rw [this]; congr 1; omega
        · refine ⟨by rw [put_size]; exact hsz, by rw [put_defers]; exact hdf, μ1, ?_, hS.trans hst⟩
          rw [put_tmps, hdst]
          exact (hT.mono hst.ext).put o.dst (fun t ht => by rw [hsz]; exact hdlt t ht) hv
      split at h
      · rename_i hw
        rw [if_pos hw]
        split at h
        · rename_i v s1 hv
          left
          refine aoper_wp' hcall (hg.mono hS.ext) hT hS.rel hcop hv fun μ' v' w' h5 h6 => ?_
          exact next s1 v μ' v' w' h h5 h6
        · cases h
      · rename_i hw
        rw [if_neg hw]
        exact next s AV.undef μ Go.undef w h VR.undef (Stp.refl hS.rel)

end
end Go.Ai
