/- The abstract interpreter's calls, and a region that does not draw, are the model's. -/
import Derived.Test.YtcjfijmbdoiaiaaGreatDoorRbAi14
set_option linter.unusedSimpArgs false
set_option linter.unusedVariables false
namespace Go.Ai

section
variable {P : Program} {μ : Mu} {s : AS} {w : World} {tm : Tm} {a : Act} {o : Oper}

/-- What a call's answer means. -/
def CallPost (μ : Mu) (s : AS) (w : World) (r : AV) (s' : AS) (e : Ending) (w' : World) : Prop :=
  ∃ μ' v, e = .returned v ∧ VR μ' r v ∧ Stp μ s w μ' s' w'

def CallOK (P : Program) (call : ACall) : Prop :=
  ∀ f args s r s', call f args s = some (r, s') → goBody P f = true ∧
    ∀ μ w (args' : Array Value), GOK P μ → VRs μ args args'.toList → Rel μ s w → Calls P f args' w (CallPost μ s w r s')

theorem run_callFunc {f : FuncId} (h : goBody P f = true) (args : Array Value) (w : World) : (callFunc f args).run P w = .ok (.enter f args) w := by
  unfold goBody at h
  split at h
  · rename_i fn hf
    simp only [Bool.and_eq_true, bne_iff_ne, ne_eq] at h
    have h2 : fn.body.isNone = false := by cases hb : fn.body with
      | none => rw [hb] at h; simp at h
      | some _ => rfl
    simp only [callFunc, Sem.run_bind, run_program, Result.andThen_ok, hf, beq_iff_eq, h.1, if_false, h2, Bool.false_eq_true]
    rfl
  · cases h

theorem find_mem {l : List (TypeId × FuncId)} {t : TypeId} {x : TypeId × FuncId} (h : l.find? (·.1 == t) = some x) : x ∈ l ∧ x.1 = t :=
  ⟨List.mem_of_find?_eq_some h, by simpa using List.find?_some h⟩

theorem methodTbl_mem {name : String} {t : TypeId} {f : FuncId} (h : (t, f) ∈ methodTbl P name) : methodAt P name t = some f := by
  unfold methodTbl at h
  rw [List.mem_filterMap] at h
  obtain ⟨t', _, h2⟩ := h
  rw [Option.map_eq_some_iff] at h2
  obtain ⟨f', h3, h4⟩ := h2
  cases h4
  exact h3

theorem run_method {name : String} {t : TypeId} {f : FuncId} (h : methodAt P name t = some f) (v : Value) (n : Nat) (w : World) : (method (n + 1) t v name).run P w = .ok (f, v) w := by
  unfold methodAt at h
  split at h
  · rename_i i d hi hd
    split at h
    · rename_i m hm
      split at h
      · rename_i f' b hf
        split at h
        · rename_i hp
          cases h
          obtain ⟨hp, rfl⟩ := hp
          have hrecv : ∀ nm, (receiverAt t (.val v) (isPtrD d) nm).run P w = .ok v w := by
            intro nm
            unfold receiverAt
            simp only [Sem.run_bind, run_underlying hd, Result.andThen_ok]
            cases d <;> rfl
          have hfol : (follow m.path.toList t (.val v)).run P w = .ok (t, .val v) w := by rw [hp]; rfl
          unfold method
          simp only [Sem.run_bind, typeInfo, run_program, hi, Result.andThen_ok, Sem.run_pure, hm, hfol, hf, hrecv]
        · cases h
      · cases h
    · cases h
  · cases h

/-- Whom the model calls. -/
theorem callee_ok (hg : GOK P μ) (hT : TR μ tm a.tmps) {ao : AOp} (hc : cop P o.op = some ao) {f : FuncId} {args : List AV} (h : acallee tm ao = some (f, args)) (hb : goBody P f = true) (w : World) :
    ∃ args' : Array Value, (execOp a.eval o).run P w = .ok (.enter f args') w ∧ VRs μ args args'.toList := by
  cases ho : o.op with
  | call c =>
    rw [ho] at hc
    simp only [cop, ccall] at hc
    split at hc
    · cases hc
    · rename_i aargs hargs
      have hav := cxs_ok hg hT hargs
      split at hc
      · rename_i f' hcal
        cases hc
        simp only [acallee, Option.some.injEq, Prod.mk.injEq] at h
        obtain ⟨rfl, rfl⟩ := h
        refine ⟨c.args.map a.eval, ?_, hav⟩
        simp only [execOp, ho, resolve, hcal, Act.eval, Deferred.ofValue, Sem.run_bind, Sem.run_pure, Result.andThen_ok, invoke]
        simp only [Array.append_empty, Array.empty_append]
        exact run_callFunc hb _ w
      · rename_i x hx' hcal
        simp only [Option.map_eq_some_iff] at hc
        obtain ⟨ax, hx, rfl⟩ := hc
        have hxv := cx_ok hg hT hx
        simp only [acallee] at h
        split at h
        · rename_i f1 first caps ev
          simp only [Option.some.injEq, Prod.mk.injEq] at h
          obtain ⟨rfl, rfl⟩ := h
          rw [ev] at hxv
          obtain ⟨fc, cc, hv, h1, h2⟩ : ∃ fc cc, a.eval x = .func (.func f1) fc cc ∧ VRs μ first fc.toList ∧ VRs μ caps cc.toList := by
            generalize a.eval x = xv at hxv
            cases hxv; exact ⟨_, _, rfl, by assumption, by assumption⟩
          refine ⟨fc ++ c.args.map a.eval ++ cc, ?_, by simp only [Array.toList_append]; exact (h1.append hav).append h2⟩
          simp only [execOp, ho, resolve, hcal, hv, Deferred.ofValue, Sem.run_bind, Sem.run_pure, Result.andThen_ok, invoke]
          exact run_callFunc hb _ w
        · cases h
      · rename_i r name hcal
        simp only [Option.map_eq_some_iff] at hc
        obtain ⟨ax, hx, rfl⟩ := hc
        have hxv := cx_ok hg hT hx
        simp only [acallee] at h
        split at h
        · rename_i t v ev
          rw [ev] at hxv
          obtain ⟨v', hv, hvv⟩ : ∃ v', a.eval r = .iface t v' ∧ VR μ v v' := by
            generalize a.eval r = xv at hxv
            cases hxv; exact ⟨_, rfl, by assumption⟩
          split at h
          · rename_i t' f1 hfind
            simp only [Option.some.injEq, Prod.mk.injEq] at h
            obtain ⟨rfl, rfl⟩ := h
            obtain ⟨hmem, rfl⟩ := find_mem hfind
            have hm := methodTbl_mem hmem
            refine ⟨#[v'] ++ c.args.map a.eval, ?_, by simp only [Array.toList_append]; exact .cons _ _ _ _ hvv hav⟩
            have hsz : P.types.size + Made.depth = (P.types.size + Made.depth - 1) + 1 := by
              have : 0 < Made.depth := by decide
              omega
            have hext : ((#[Value.iface t' v'] ++ c.args.map a.eval).extract 1 (#[Value.iface t' v'] ++ c.args.map a.eval).size) = c.args.map a.eval := by
              apply Array.ext'
              simp only [Array.toList_extract, Array.toList_append, List.extract_eq_take_drop]
              simp
              exact List.take_of_length_le (by simp)
            simp only [execOp, ho, resolve, hcal, hv, Sem.run_bind, Sem.run_pure, Result.andThen_ok, invoke]
            have h0 : (#[Value.iface t' v'] ++ c.args.map a.eval)[0]? = some (.iface t' v') := by rw [Array.getElem?_append_left (by simp)]; rfl
            simp only [h0, hext, callMethod, Sem.run_bind, run_program, Result.andThen_ok]
            rw [hsz, run_method hm]
            simp only [Result.andThen_ok]
            exact run_callFunc hb _ w
          · cases h
        · cases h
      · exfalso
        repeat' (split at hc)
        all_goals first
          | (cases hc; done)
          | (cases hc; cases h; done)
          | (simp only [Option.map_eq_some_iff] at hc; obtain ⟨_, _, rfl⟩ := hc; cases h; done)
  | _ =>
    rw [ho] at hc
    exfalso
    try simp only [cop, cbin] at hc
    repeat' (split at hc)
    all_goals first
      | (rename_i he; cases he; done)
      | (cases hc; done)
      | (cases hc; cases h; done)
      | (simp only [Option.map_eq_some_iff] at hc; obtain ⟨_, _, rfl⟩ := hc; cases h; done)

theorem aoper_cases {call : ACall} {ao : AOp} {v : AV} {s' : AS} (h : aoper call tm s ao = some (v, s')) :
    (∃ f args, acallee tm ao = some (f, args) ∧ call f args s = some (v, s')) ∨ (∃ blk mk, aalloc tm ao = some (blk, mk) ∧ v = mk s.nx ∧ s' = s.new blk) ∨ aop tm s ao = some (v, s') := by
  unfold aoper at h
  split at h
  · rename_i f vs hf
    exact .inl ⟨f, vs, hf, h⟩
  · split at h
    · rename_i blk mk hb
      simp only [Option.some.injEq, Prod.mk.injEq] at h
      exact .inr (.inl ⟨blk, mk, hb, h.1.symm, h.2.symm⟩)
    · exact .inr (.inr h)

/-- An operation: what the abstract interpreter makes of it, the model makes of it. -/
theorem aoper_wp {call : ACall} (hcall : CallOK P call) (hg : GOK P μ) (hT : TR μ tm a.tmps) (hR : Rel μ s w) {ao : AOp} (hc : cop P o.op = some ao) {v : AV} {s' : AS} (h : aoper call tm s ao = some (v, s'))
    {K : Act → World → Prop} {Q : Exit → Act → World → Prop} (hK : ∀ μ' v' w', VR μ' v v' → Stp μ s w μ' s' w' → K (a.put o.dst v') w') : o.wp P a w K Q := by
  have good : Good μ s w ((execOp a.eval o).run P w) v s' → o.wp P a w K Q := by
    rintro ⟨μ', v', w', h1, h2, h3⟩
    unfold Oper.wp
    rcases h1 with h1 | ⟨h1, rfl⟩
    · rw [h1]; exact hK _ _ _ h2 h3
    · rw [h1]; exact hK _ _ _ h2 h3
  rcases aoper_cases h with ⟨f, args, h1, h2⟩ | ⟨blk, mk, h1, rfl, rfl⟩ | h1
  · obtain ⟨hb, hcl⟩ := hcall f args s v s' h2
    obtain ⟨args', h3, h4⟩ := callee_ok hg hT hc h1 hb w
    unfold Oper.wp
    rw [h3, Oper.upon_enter]
    refine (hcl μ w args' hg h4 hR).mono fun e w' hp => ?_
    obtain ⟨μ', v', rfl, h5, h6⟩ := hp
    exact hK _ _ _ h5 h6
  · exact good ((calloc_ok hg hT w hc h1).good hR)
  · exact good (cop_ok hg hT hR hc h1)

end
end Go.Ai
