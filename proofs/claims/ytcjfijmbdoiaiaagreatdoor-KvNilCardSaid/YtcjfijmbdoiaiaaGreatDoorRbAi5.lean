/- The abstract interpreter's operations are the model's: equality, parts of values, addresses. -/
import Derived.Test.YtcjfijmbdoiaiaaGreatDoorRbAi4
set_option linter.unusedSimpArgs false
set_option linter.unusedVariables false
namespace Go.Ai

section
variable {P : Program} {μ : Mu} {s : AS} {w : World} {tm : Tm} {a : Act} {o : Oper}

theorem equal_step {t : TypeId} {x y : Value} {b : Bool} (h : ∀ d, (Op.equalIn (d + 1) t x y).run P w = .ok b w) : (Op.equal t x y).run P w = .ok b w := h 9999

/-- Equality of two bools. -/
theorem ok_bbin (hg : GOK P μ) (hT : TR μ tm a.tmps) (hR : Rel μ s w) {op : BinOp} {neg : Bool} (hop : (op = .eql ∧ neg = false) ∨ (op = .neq ∧ neg = true)) {t yt : TypeId} (hu : P.underlying t = some .bool)
    {x y : Operand} (ho : o.op = .binOp op t x y yt) {ax ay : AX} (hx : cx P x = some ax) (hy : cx P y = some ay)
    {v : AV} {s' : AS} (h : aop tm s (.bbin neg ax ay) = some (v, s')) : Good μ s w ((execOp a.eval o).run P w) v s' := by
  have h1 := cx_ok hg hT hx
  have h2 := cx_ok hg hT hy
  simp only [aop] at h
  split at h
  · rename_i b c e1 e2
    rw [e1] at h1
    rw [e2] at h2
    simp only [Option.some.injEq, Prod.mk.injEq] at h
    obtain ⟨rfl, rfl⟩ := h
    have he : (Op.equal t (.bool b) (.bool c)).run P w = .ok (b == c) w := equal_step fun d => by simp [Op.equalIn, run_underlying hu]
    rcases hop with ⟨rfl, rfl⟩ | ⟨rfl, rfl⟩
    · exact ok_bin hR ho h2.bool_inv (by rw [h1.bool_inv, eqGuard_at_bool]; rfl) (by rw [h1.bool_inv]; simp only [binOp, Sem.run_bind, he, Result.andThen_ok, Sem.run_pure]; rfl) (.bool _)
    · exact ok_bin hR ho h2.bool_inv (by rw [h1.bool_inv, eqGuard_at_bool]; rfl) (by rw [h1.bool_inv]; simp only [binOp, Sem.run_bind, he, Result.andThen_ok, Sem.run_pure]; rfl) (.bool _)
  · cases h

/-- The types whose equality asks for nil. -/
def nilDesc (P : Program) : NK → TypeDesc → Prop
  | .ptr, .pointer e => ∃ i, P.info? e = some i ∧ i.size ≠ 0
  | .sl, .slice _ => True
  | .mp, .map _ _ => True
  | .fn, .func _ _ _ => True
  | .ifc, .interface _ => True
  | _, _ => False

theorem nileq_equal {t : TypeId} {d : TypeDesc} {k : NK} (hu : P.underlying t = some d) (hd : nilDesc P k d) {x y : AV} {b : Bool} (h : nileqX k x y = some b) {x' y' : Value} (hx : VR μ x x') (hy : VR μ y y') :
    (Op.equal t x' y').run P w = .ok b w := by
  refine equal_step fun n => ?_
  unfold nileqX at h
  split at h
  case h_1 =>
    simp only [Option.some.injEq] at h; subst h
    cases d <;> first | (exfalso; simp [nilDesc] at hd; done) | skip
    cases hx; cases hy <;> simp [Op.equalIn, run_underlying hu]
  case h_2 =>
    simp only [Option.some.injEq] at h; subst h
    cases d <;> first | (exfalso; simp [nilDesc] at hd; done) | skip
    cases hx; cases hy; simp [Op.equalIn, run_underlying hu]
  case h_3 =>
    cases d <;> first | (exfalso; simp [nilDesc] at hd; done) | skip
    obtain ⟨j, hj, hne⟩ := hd
    split at h
    · rename_i b1 o1 b2 o2 he
      simp only [Option.some.injEq] at h; subst h; subst he
      obtain ⟨i, rfl, hi⟩ := hx.ptr_inv
      obtain ⟨i', rfl, hi'⟩ := hy.ptr_inv
      rw [hi] at hi'; cases hi'
      simp only [Op.equalIn, Sem.run_bind, run_underlying hu, Result.andThen_ok, sizeOf, typeInfo, run_program, hj, Sem.run_pure, ne_eq, hne, not_false_eq_true, if_true, Sem.run_ite, sameAddr, beq_self_eq_true]
      congr 1
      rw [Bool.eq_iff_iff, beq_iff_eq, beq_iff_eq]
      constructor
      · intro hh; simp only [Addr.mk.injEq] at hh; omega
      · rintro rfl; rfl
    · cases h
  case h_4 =>
    simp only [Option.some.injEq] at h; subst h
    cases d <;> first | (exfalso; simp [nilDesc] at hd; done) | skip
    cases hx; cases hy <;> simp [Op.equalIn, run_underlying hu]
  case h_5 =>
    simp only [Option.some.injEq] at h; subst h
    cases d <;> first | (exfalso; simp [nilDesc] at hd; done) | skip
    cases hx <;> cases hy <;> simp [Op.equalIn, run_underlying hu]
  case h_6 =>
    simp only [Option.some.injEq] at h; subst h
    cases d <;> first | (exfalso; simp [nilDesc] at hd; done) | skip
    cases hx; cases hy <;> simp [Op.equalIn, run_underlying hu]
  case h_7 =>
    simp only [Option.some.injEq] at h; subst h
    cases d <;> first | (exfalso; simp [nilDesc] at hd; done) | skip
    cases hx <;> cases hy <;> simp [Op.equalIn, run_underlying hu]
  case h_14 => cases h
  all_goals
    simp only [Option.some.injEq] at h; subst h
    cases d <;> first | (exfalso; simp [nilDesc] at hd; done) | skip
    cases hx <;> cases hy <;> simp [Op.equalIn, run_underlying hu]

theorem isC_const {x : Operand} (h : isC x = true) : ∃ c, x = .const c := by cases x <;> first | exact ⟨_, rfl⟩ | cases h

theorem ok_nileq (hg : GOK P μ) (hT : TR μ tm a.tmps) (hR : Rel μ s w) {op : BinOp} {neg : Bool} (hop : (op = .eql ∧ neg = false) ∨ (op = .neq ∧ neg = true)) {t yt : TypeId} {d : TypeDesc} {k : NK}
    (hu : P.underlying t = some d) (hd : nilDesc P k d)
    {x y : Operand} (hc : k = .ifc → isC x = true ∨ isC y = true) (ho : o.op = .binOp op t x y yt) {ax ay : AX} (hx : cx P x = some ax) (hy : cx P y = some ay)
    {v : AV} {s' : AS} (h : aop tm s (.nileq k neg ax ay) = some (v, s')) : Good μ s w ((execOp a.eval o).run P w) v s' := by
  have h1 := cx_ok hg hT hx
  have h2 := cx_ok hg hT hy
  simp only [aop, Option.map_eq_some_iff, Prod.mk.injEq] at h
  obtain ⟨b, hb, rfl, rfl⟩ := h
  have he := nileq_equal (w := w) hu hd hb h1 h2
  have hgd : (eqGuard op t x y (a.eval x) (a.eval y)).run P w = .ok () w := by
    generalize ax.ev tm = u at h1 hb
    generalize ay.ev tm = u' at h2 hb
    generalize a.eval x = xv at h1
    generalize a.eval y = yv at h2
    cases k <;> cases h1 <;> first
      | (exfalso; simp [nileqX] at hb; done)
      | (simp [eqGuard_at_pointer]; done)
      | (simp [eqGuard_at_slice]; done)
      | (simp [eqGuard_at_map]; done)
      | (simp [eqGuard_at_func]; done)
      | (simp [eqGuard_at_nilFunc]; done)
      | (simp [eqGuard_at_iface]; done)
      | (cases h2 <;> first
          | (exfalso; simp [nileqX] at hb; done)
          | (simp [eqGuard_nil_iface]; done)
          | (rcases hc rfl with hh | hh <;> obtain ⟨c, rfl⟩ := isC_const hh <;> first | (rw [eqGuard_nil_constL]; rfl) | (rw [eqGuard_nil_constR]; rfl)))
  have hbin : (binOp op t (a.eval x) (a.eval y)).run P w = .ok (.bool (if neg then !b else b)) w := by
    generalize ax.ev tm = u at h1 hb
    generalize ay.ev tm = u' at h2 hb
    generalize a.eval x = xv at h1 he
    generalize a.eval y = yv at h2 he
    rcases hop with ⟨rfl, rfl⟩ | ⟨rfl, rfl⟩ <;> cases k <;> cases h1 <;> first
      | (exfalso; simp [nileqX] at hb; done)
      | (cases h2 <;> first
          | (exfalso; simp [nileqX] at hb; done)
          | (simp only [binOp, Sem.run_bind, he, Result.andThen_ok, Sem.run_pure]; rfl))
  exact ok_bin hR ho rfl hgd hbin (.bool _)

end
end Go.Ai
