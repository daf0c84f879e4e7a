/- The abstract interpreter's operations are the model's: bounds, slices, addresses of parts, parts, lengths. -/
import Derived.Test.YtcjfijmbdoiaiaaGreatDoorRbAi8
set_option linter.unusedSimpArgs false
set_option linter.unusedVariables false
namespace Go.Ai

section
variable {P : Program} {μ : Mu} {s : AS} {w : World} {tm : Tm} {a : Act} {o : Oper}

theorem cxo_ok (hg : GOK P μ) (hT : TR μ tm a.tmps) {x : Option Operand} {ax : Option AX} (h : cxo P x = some ax) :
    (x = none ∧ ax = none) ∨ ∃ y ay, x = some y ∧ ax = some ay ∧ VR μ (ay.ev tm) (a.eval y) := by
  cases x with
  | none => simp [cxo] at h; exact .inl ⟨rfl, h.symm⟩
  | some y =>
    simp only [cxo, Option.map_eq_some_iff] at h
    obtain ⟨ay, hy, rfl⟩ := h
    exact .inr ⟨y, ay, rfl, rfl, cx_ok hg hT hy⟩

theorem bound_ok {x : AV} {v : Value} (hv : VR μ x v) {y y' n : Nat} (h : bound x y = some n) (hy : y ≤ y') (code : BoundsCode) : (Instr.sliceBound v y' code).run P w = .ok n w ∧ n ≤ y := by
  unfold bound at h
  split at h
  · rename_i k i
    split at h
    · rename_i hc
      simp only [Option.some.injEq] at h; subst h
      rw [hv.int_inv]
      refine ⟨?_, by omega⟩
      have : 0 ≤ i ∧ i ≤ (y' : Int) := ⟨hc.1, by omega⟩
      simp [Instr.sliceBound, asIntOf, this]
    · cases h
  · cases h

/-- The bounds of a slice expression. -/
theorem bounds_ok (hg : GOK P μ) (hT : TR μ tm a.tmps) {lo hi mx : Option Operand} {alo ahi amx : Option AX} (hlo : cxo P lo = some alo) (hhi : cxo P hi = some ahi) (hmx : cxo P mx = some amx)
    {len cap cap' l h m : Nat} (hc : cap ≤ cap') (hlen : len ≤ cap) (hb : bounds len cap (alo.map (AX.ev tm)) (ahi.map (AX.ev tm)) (amx.map (AX.ev tm)) = some (l, h, m)) (isS : Bool) :
    ∃ m', (Instr.sliceBounds isS len cap' (lo.map a.eval) (hi.map a.eval) (mx.map a.eval)).run P w = .ok (l, h, m') w ∧ l ≤ h ∧ h ≤ m ∧ m ≤ cap ∧ ((mx = none ∧ m = cap ∧ m' = cap') ∨ m' = m) := by
  unfold bounds at hb
  split at hb
  · cases hb
  · rename_i m0 hm0
    split at hb
    · cases hb
    · rename_i h0 hh0
      split at hb
      · cases hb
      · rename_i l0 hl0
        simp only [Option.some.injEq, Prod.mk.injEq] at hb
        obtain ⟨rfl, rfl, rfl⟩ := hb
        rcases cxo_ok hg hT hmx with ⟨rfl, rfl⟩ | ⟨ym, am, rfl, rfl, hvm⟩
        · simp only [Option.map_none, Option.some.injEq] at hm0
          subst hm0
          refine ⟨cap', ?_, ?_⟩
          · rcases cxo_ok hg hT hhi with ⟨rfl, rfl⟩ | ⟨yh, ah, rfl, rfl, hvh⟩
            · simp only [Option.map_none, Option.some.injEq] at hh0
              subst hh0
              rcases cxo_ok hg hT hlo with ⟨rfl, rfl⟩ | ⟨yl, al, rfl, rfl, hvl⟩
              · simp only [Option.map_none, Option.some.injEq] at hl0
                subst hl0
                simp [Instr.sliceBounds]
              · simp only [Option.map_some] at hl0
                have e1 := fun code => (bound_ok (P := P) (w := w) hvl hl0 (Nat.le_refl _) code).1
                simp [Instr.sliceBounds, e1]
            · simp only [Option.map_some] at hh0
              have e2 := fun code => (bound_ok (P := P) (w := w) hvh hh0 hc code).1
              rcases cxo_ok hg hT hlo with ⟨rfl, rfl⟩ | ⟨yl, al, rfl, rfl, hvl⟩
              · simp only [Option.map_none, Option.some.injEq] at hl0
                subst hl0
                simp [Instr.sliceBounds, e2]
              · simp only [Option.map_some] at hl0
                have e1 := fun code => (bound_ok (P := P) (w := w) hvl hl0 (Nat.le_refl _) code).1
                simp [Instr.sliceBounds, e1, e2]
          · have hh : h0 ≤ cap := by
              rcases cxo_ok hg hT hhi with ⟨rfl, rfl⟩ | ⟨yh, ah, rfl, rfl, hvh⟩
              · simp only [Option.map_none, Option.some.injEq] at hh0; omega
              · simp only [Option.map_some] at hh0
                exact (bound_ok (P := P) (w := w) hvh hh0 (Nat.le_refl _) .index).2
            have hl : l0 ≤ h0 := by
              rcases cxo_ok hg hT hlo with ⟨rfl, rfl⟩ | ⟨yl, al, rfl, rfl, hvl⟩
              · simp only [Option.map_none, Option.some.injEq] at hl0; omega
              · simp only [Option.map_some] at hl0
                exact (bound_ok (P := P) (w := w) hvl hl0 (Nat.le_refl _) .index).2
            exact ⟨hl, hh, Nat.le_refl _, .inl ⟨rfl, rfl, rfl⟩⟩
        · simp only [Option.map_some] at hm0
          have e3 := fun code => (bound_ok (P := P) (w := w) hvm hm0 hc code).1
          have hmc := (bound_ok (P := P) (w := w) hvm hm0 (Nat.le_refl _) .index).2
          rcases cxo_ok hg hT hhi with ⟨rfl, rfl⟩ | ⟨yh, ah, rfl, rfl, hvh⟩
          · simp at hh0
          · simp only [Option.map_some] at hh0
            have e2 := fun code => (bound_ok (P := P) (w := w) hvh hh0 (Nat.le_refl _) code).1
            have hh := (bound_ok (P := P) (w := w) hvh hh0 (Nat.le_refl _) .index).2
            rcases cxo_ok hg hT hlo with ⟨rfl, rfl⟩ | ⟨yl, al, rfl, rfl, hvl⟩
            · simp only [Option.map_none, Option.some.injEq] at hl0
              subst hl0
              exact ⟨m0, by simp [Instr.sliceBounds, e2, e3], by omega, hh, hmc, .inr rfl⟩
            · simp only [Option.map_some] at hl0
              have e1 := fun code => (bound_ok (P := P) (w := w) hvl hl0 (Nat.le_refl _) code).1
              exact ⟨m0, by simp [Instr.sliceBounds, e1, e2, e3], (bound_ok (P := P) (w := w) hvl hl0 (Nat.le_refl _) .index).2, hh, hmc, .inr rfl⟩

theorem ok_slS (hg : GOK P μ) (hT : TR μ tm a.tmps) (hR : Rel μ s w) {t : TypeId} {x : Operand} {lo hi : Option Operand} (ho : o.op = .slice t x lo hi none) (hu : P.underlying t = some .string) {ax : AX} {alo ahi : Option AX}
    (hx : cx P x = some ax) (hlo : cxo P lo = some alo) (hhi : cxo P hi = some ahi) {v : AV} {s' : AS} (h : aop tm s (.slS ax alo ahi) = some (v, s')) : Good μ s w ((execOp a.eval o).run P w) v s' := by
  have h1 := cx_ok hg hT hx
  simp only [aop] at h
  split at h
  · rename_i t' e
    rw [e] at h1
    obtain ⟨bs, hbs, hd⟩ := h1.str_inv
    split at h
    · rename_i l h0 m hb
      simp only [Option.some.injEq, Prod.mk.injEq] at h
      obtain ⟨rfl, rfl⟩ := h
      have hsz := sz_data hd
      obtain ⟨m', e1, e2, e3, e4, _⟩ := bounds_ok (P := P) (w := w) hg hT hlo hhi (mx := none) (amx := none) rfl (cap' := t'.length) (Nat.le_refl _) (Nat.le_refl _) hb false
      have : (execOp a.eval o).run P w = .ok (.value (.string (bs.extract l h0))) w := by
        rw [← hsz] at e1
        simp only [Option.map_none] at e1
        simp only [execOp, ho, Instr.sliceAt, Sem.run_bind, run_underlying hu, Result.andThen_ok, Instr.slice, hbs, Option.map_none, Option.isSome_none, Bool.false_eq_true, if_false, e1, Sem.run_pure]
      rw [this]
      exact .value hR (.str _ _ (by rw [Lib.extract_data, hd]))
    · cases h
  · cases h

theorem ok_slV (hg : GOK P μ) (hT : TR μ tm a.tmps) (hR : Rel μ s w) {t e : TypeId} {x : Operand} {lo hi mx : Option Operand} (ho : o.op = .slice t x lo hi mx) (hu : P.underlying t = some (.slice e)) {j : TypeInfo} (hj : P.info? e = some j)
    {ax : AX} {alo ahi amx : Option AX} (hx : cx P x = some ax) (hlo : cxo P lo = some alo) (hhi : cxo P hi = some ahi) (hmx : cxo P mx = some amx)
    {v : AV} {s' : AS} (h : aop tm s (.slV j.size ax alo ahi amx) = some (v, s')) : Good μ s w ((execOp a.eval o).run P w) v s' := by
  have h1 := cx_ok hg hT hx
  simp only [aop] at h
  split at h
  · rename_i ba len cap ev
    rw [ev] at h1
    split at h
    · rename_i l h0 m hb
      split at h
      · simp only [Option.some.injEq, Prod.mk.injEq] at h
        obtain ⟨rfl, rfl⟩ := h
        obtain ⟨rfl, rfl, hv⟩ := h1.nilslice_inv
        obtain ⟨m', e1, e2, e3, e4, e5⟩ := bounds_ok (P := P) (w := w) hg hT hlo hhi hmx (Nat.le_refl 0) (Nat.le_refl 0) hb true
        have hm' : m' = 0 := by rcases e5 with ⟨_, _, h⟩ | h <;> omega
        have hl0 : l = 0 := by omega
        have hh0 : h0 = 0 := by omega
        have hm0 : m = 0 := by omega
        subst hm' hl0 hh0 hm0
        have : (execOp a.eval o).run P w = .ok (.value (.slice none 0 0)) w := by
          simp only [execOp, ho, Instr.sliceAt, Sem.run_bind, run_underlying hu, Result.andThen_ok, Instr.slice, hv, e1, run_sizeOf hj, Sem.run_pure]
          rfl
        rw [this]; exact .value hR .nilslice
      · rename_i b f
        split at h
        · rename_i cs esz' ex ro hgb
          split at h
          · rename_i hex
            simp only [Option.some.injEq, Prod.mk.injEq] at h
            obtain ⟨rfl, rfl⟩ := h
            obtain ⟨i, hi, hlc, hcase⟩ := h1.slice_inv
            obtain ⟨i', hi', hb1, hb2, hb3, hb4, _⟩ := hR.blk b _ hgb
            rw [hi] at hi'; cases hi'
            rcases hcase with ⟨c', hv, hcap⟩ | ⟨rfl, rfl, f', hv⟩
            · have hcc : cap ≤ c' := by rcases hcap with rfl | ⟨_, _, h, _⟩ <;> omega
              obtain ⟨m', e1, e2, e3, e4, e5⟩ := bounds_ok (P := P) (w := w) hg hT hlo hhi hmx hcc hlc hb true
              have : (execOp a.eval o).run P w = .ok (.value (.slice (if m' = l then some ⟨i.blk, i.del + f, none⟩ else some ⟨i.blk, i.del + f + l * j.size, none⟩) (h0 - l) (m' - l))) w := by
                simp only [execOp, ho, Instr.sliceAt, Sem.run_bind, run_underlying hu, Result.andThen_ok, Instr.slice, hv, e1, run_sizeOf hj, Sem.run_pure, Option.map_some, Addr.add_lit]
              rw [this]
              have plain : m' = m → VR μ (.slice (some (b, f + l * j.size)) (h0 - l) (m - l)) (.slice (if m' = l then some ⟨i.blk, i.del + f, none⟩ else some ⟨i.blk, i.del + f + l * j.size, none⟩) (h0 - l) (m' - l)) := by
                rintro rfl
                by_cases hml : m' = l
                · rw [if_pos hml, show h0 - l = 0 by omega, show m' - l = 0 by omega]
                  exact .slice0 _ _ _ i hi
                · rw [if_neg hml, Nat.add_assoc]
                  exact .slice b (f + l * j.size) _ _ _ i hi (by omega) (.inl rfl)
              rcases e5 with ⟨_, rfl, rfl⟩ | hm
              · rcases hcap with rfl | ⟨x1, x2, x3, x4⟩
                · exact .value hR (plain rfl)
                · by_cases hne : m' = m
                  · exact .value hR (plain hne)
                  · have hml : ¬ m' = l := by omega
                    rw [if_neg hml, Nat.add_assoc]
                    have hes : i.esz = j.size := by
                      rw [hb3] at x1
                      rw [x1] at hex
                      simp at hex
                      rw [hb2]; exact hex
                    refine .value hR (.slice b (f + l * j.size) _ _ _ i hi (by omega) (.inr ⟨x1, ?_, by omega, ?_⟩))
                    · rw [hes] at x2 ⊢
                      rw [Nat.add_assoc, ← Nat.add_mul, show l + (m - l) = m by omega]; exact x2
                    · rw [hes] at x4 ⊢
                      rw [Nat.add_assoc, Nat.add_assoc, ← Nat.add_mul, show l + (m' - l) = m' by omega, ← Nat.add_assoc]; exact x4
              · exact .value hR (plain hm)
            · obtain ⟨m', e1, e2, e3, e4, e5⟩ := bounds_ok (P := P) (w := w) hg hT hlo hhi hmx (Nat.le_refl 0) (Nat.le_refl 0) hb true
              have hm' : m' = 0 := by rcases e5 with ⟨_, _, h⟩ | h <;> omega
              have hl0 : l = 0 := by omega
              have hh0 : h0 = 0 := by omega
              have hm0 : m = 0 := by omega
              subst hm' hl0 hh0 hm0
              have : (execOp a.eval o).run P w = .ok (.value (.slice (some ⟨i.blk, f', none⟩) 0 0)) w := by
                simp only [execOp, ho, Instr.sliceAt, Sem.run_bind, run_underlying hu, Result.andThen_ok, Instr.slice, hv, e1, run_sizeOf hj, Sem.run_pure]
                rfl
              rw [this]; exact .value hR (.slice0 _ _ _ i hi)
          · cases h
        · cases h
    · cases h
  · cases h

theorem ok_slA (hg : GOK P μ) (hT : TR μ tm a.tmps) (hR : Rel μ s w) {t e : TypeId} {n : Nat} {x : Operand} {lo hi mx : Option Operand} (ho : o.op = .slice t x lo hi mx)
    (hu : P.underlying t = some (.array n e) ∨ ∃ t', P.underlying t = some (.pointer t') ∧ P.underlying t' = some (.array n e)) {j : TypeInfo} (hj : P.info? e = some j)
    {ax : AX} {alo ahi amx : Option AX} (hx : cx P x = some ax) (hlo : cxo P lo = some alo) (hhi : cxo P hi = some ahi) (hmx : cxo P mx = some amx)
    {v : AV} {s' : AS} (h : aop tm s (.slA n j.size ax alo ahi amx) = some (v, s')) : Good μ s w ((execOp a.eval o).run P w) v s' := by
  have h1 := cx_ok hg hT hx
  simp only [aop] at h
  split at h
  · rename_i b f ev
    rw [ev] at h1
    obtain ⟨i, hp, hi⟩ := h1.ptr_inv
    split at h
    · rename_i l h0 m hb
      simp only [Option.some.injEq, Prod.mk.injEq] at h
      obtain ⟨rfl, rfl⟩ := h
      obtain ⟨m', e1, e2, e3, e4, e5⟩ := bounds_ok (P := P) (w := w) hg hT hlo hhi hmx (Nat.le_refl n) (Nat.le_refl n) hb false
      have hm : m' = m := by rcases e5 with ⟨_, h, h'⟩ | h <;> omega
      subst hm
      have : (execOp a.eval o).run P w = .ok (.value (.slice (some (if m' = l then ⟨i.blk, i.del + f, none⟩ else ⟨i.blk, i.del + f + l * j.size, none⟩)) (h0 - l) (m' - l))) w := by
        rcases hu with hu | ⟨t', hu, hu'⟩
        · simp only [execOp, ho, Instr.sliceAt, Sem.run_bind, run_underlying hu, Result.andThen_ok, Instr.sureAddr, hp, e1, run_sizeOf hj, Sem.run_pure, Addr.add_lit]
        · simp only [execOp, ho, Instr.sliceAt, Sem.run_bind, run_underlying hu, Result.andThen_ok, Instr.slice, asAddr, hp, run_underlying hu', e1, run_sizeOf hj, Sem.run_pure, Addr.add_lit]
      rw [this]
      by_cases hml : m' = l
      · rw [if_pos hml, show h0 - l = 0 by omega, show m' - l = 0 by omega]
        exact .value hR (.slice0 _ _ _ i hi)
      · rw [if_neg hml, Nat.add_assoc]
        exact .value hR (.slice b (f + l * j.size) _ _ _ i hi (by omega) (.inl rfl))
    · cases h
  · cases h

end
end Go.Ai
