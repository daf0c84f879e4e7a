/- The abstract interpreter: code, functions, calls are the model's. -/
import Derived.Test.YtcjfijmbdoiaiaaGreatDoorRbAi21
set_option linter.unusedSimpArgs false
set_option linter.unusedVariables false
namespace Go.Ai

section
variable {P : Program} {μ : Mu} {s : AS} {w : World} {tm : Tm} {a : Act}

def AE.exit' : AE → Exit
  | .normal => .normal
  | .exit id => .exit id
  | .ret => .ret

theorem comp_ok {call : ACall} (hcall : CallOK P call) (hmix : P.follows .mixedOrders = true) {μ₀ : Mu} {s₀ : AS} {w₀ : World} {n N : Nat} (hg : GOK P μ₀) :
    ∀ (c : Code) (tm : Tm) (s : AS) (a : Act) (w : World) (e : AE) (tm' : Tm) (s' : AS) (Q : Exit → Act → World → Prop), Inv P μ₀ s₀ w₀ n tm s a w → aexec call N (comp P n c) tm s = some (e, tm', s') →
      (∀ a' w', Inv P μ₀ s₀ w₀ n tm' s' a' w' → Q e.exit' a' w') → c.wp P Q a w := by
  intro c
  induction c with
  | skip =>
    intro tm s a w e tm' s' Q hI h hQ
    simp only [comp, aexec, Option.some.injEq, Prod.mk.injEq] at h
    obtain ⟨rfl, rfl, rfl⟩ := h
    exact wp_skip (hQ _ _ hI)
  | region id ops draw =>
    intro tm s a w e tm' s' Q hI h hQ
    cases draw with
    | false =>
      simp only [comp] at h
      split at h
      · rename_i l hl
        simp only [aexec] at h
        split at h
        · rename_i t1 s1 h1
          simp only [Option.some.injEq, Prod.mk.injEq] at h
          obtain ⟨rfl, rfl, rfl⟩ := h
          refine wp_region ?_
          have := aops_ok hcall hg (ops := ops) (Q := Q) l 0 ops.toList (fun i => by rw [Array.getElem?_toList, Nat.zero_add]) hl tm s a w t1 s1 hI h1 hQ
          rw [Array.length_toList, ← List.range_eq_range'] at this
          exact this
        · cases h
      · cases h
    | true =>
      simp only [comp] at h
      split at h
      · rename_i l hl
        split at h
        · rename_i hc
          rw [Bool.and_eq_true] at hc
          simp only [aexec] at h
          split at h
          · rename_i t1 s1 h1
            simp only [Option.some.injEq, Prod.mk.injEq] at h
            obtain ⟨rfl, rfl, rfl⟩ := h
            exact draw_ok hcall hmix hg hl hc.1 hc.2 hI h1 hQ id
          · cases h
        · cases h
      · cases h
  | seq x y ihx ihy =>
    intro tm s a w e tm' s' Q hI h hQ
    simp only [comp, aexec] at h
    refine wp_seq ?_
    split at h
    · rename_i t1 s1 h1
      exact ihx tm s a w .normal t1 s1 _ hI h1 fun a' w' hI' => ihy t1 s1 a' w' e tm' s' Q hI' h hQ
    · rename_i hn
      refine ihx tm s a w e tm' s' _ hI h fun a' w' hI' => ?_
      cases e with
      | normal => exact absurd h (hn tm' s')
      | exit id => exact hQ a' w' hI'
      | ret => exact hQ a' w' hI'
  | cond c x y ihx ihy =>
    intro tm s a w e tm' s' Q hI h hQ
    simp only [comp] at h
    split at h
    · rename_i ac hc
      simp only [aexec] at h
      obtain ⟨hsz, hdf, μ, hT, hS⟩ := id hI
      have hv := cx_ok (hg.mono hS.ext) hT hc
      split at h
      · rename_i hb
        rw [hb] at hv
        exact wp_cond_true hv.bool_inv (ihx tm s a w e tm' s' Q hI h hQ)
      · rename_i hb
        rw [hb] at hv
        exact wp_cond_false hv.bool_inv (ihy tm s a w e tm' s' Q hI h hQ)
      · cases h
    · cases h
  | block id b ih =>
    intro tm s a w e tm' s' Q hI h hQ
    simp only [comp, aexec] at h
    refine wp_block ?_
    split at h
    · rename_i id' t1 s1 h1
      refine ih tm s a w (.exit id') t1 s1 _ hI h1 fun a' w' hI' => ?_
      show (if id' = id then Q .normal a' w' else Q (.exit id') a' w')
      split at h
      · rename_i he
        simp only [Option.some.injEq, Prod.mk.injEq] at h
        obtain ⟨rfl, rfl, rfl⟩ := h
        rw [if_pos he]
        exact hQ a' w' hI'
      · rename_i he
        simp only [Option.some.injEq, Prod.mk.injEq] at h
        obtain ⟨rfl, rfl, rfl⟩ := h
        rw [if_neg he]
        exact hQ a' w' hI'
    · rename_i hn
      refine ih tm s a w e tm' s' _ hI h fun a' w' hI' => ?_
      cases e with
      | normal => exact hQ a' w' hI'
      | exit id' => exact absurd h (hn id' tm' s')
      | ret => exact hQ a' w' hI'
  | loop b ih =>
    intro tm s a w e tm' s' Q hI h hQ
    simp only [comp, aexec] at h
    refine wp_loop_rounds N ?_
    have key : ∀ (k : Nat) (tm : Tm) (s : AS) (a : Act) (w : World), Inv P μ₀ s₀ w₀ n tm s a w → aloop (aexec call N (comp P n b)) k tm s = some (e, tm', s') → Code.rounds P b Q k a w := by
      intro k
      induction k with
      | zero => intro tm s a w _ h; cases h
      | succ k ihk =>
        intro tm s a w hI h
        rw [rounds_succ]
        simp only [aloop] at h
        split at h
        · rename_i t1 s1 h1
          exact ih tm s a w .normal t1 s1 _ hI h1 fun a' w' hI' => ihk t1 s1 a' w' hI' h
        · rename_i hn
          refine ih tm s a w e tm' s' _ hI h fun a' w' hI' => ?_
          cases e with
          | normal => exact absurd h (hn tm' s')
          | exit id' => exact hQ a' w' hI'
          | ret => exact hQ a' w' hI'
    exact key N tm s a w hI h
  | exit id =>
    intro tm s a w e tm' s' Q hI h hQ
    simp only [comp, aexec, Option.some.injEq, Prod.mk.injEq] at h
    obtain ⟨rfl, rfl, rfl⟩ := h
    exact wp_exit (hQ _ _ hI)
  | ret =>
    intro tm s a w e tm' s' Q hI h hQ
    simp only [comp, aexec, Option.some.injEq, Prod.mk.injEq] at h
    obtain ⟨rfl, rfl, rfl⟩ := h
    exact wp_ret (hQ _ _ hI)
  | _ =>
    intro tm s a w e tm' s' Q hI h hQ
    simp only [comp, aexec] at h
    cases h

/-! ## What a function hands back -/

theorem loadVar_ok (hR : Rel μ s w) {t : TypeId} {n : Nat} {g : Bool} (ht : tsz P t = some (n, g)) {b f : Nat} {bi : BI} (hbi : μ b = some bi) {cs : List AV} (hcs : s.loads b f n = some cs) :
    (g = true → ∃ v', (loadVar t ⟨bi.blk, bi.del + f, none⟩).run P w = .ok v' w ∧ VR μ (.agg cs) v') ∧ (g = false → ∀ v, cs = [v] → ∃ v', (loadVar t ⟨bi.blk, bi.del + f, none⟩).run P w = .ok v' w ∧ VR μ v v') := by
  obtain ⟨i, d, hi, hd, hn, hgd⟩ := tsz_some ht
  obtain ⟨hl, cs', hvs, hc⟩ := hR.loads hcs hbi
  have hlen := hvs.length
  constructor
  · rintro rfl
    refine ⟨.agg cs'.toArray, ?_, .agg _ _ hvs⟩
    unfold loadVar
    simp only [Sem.run_bind, run_isAgg hd, Result.andThen_ok, hgd, if_true, run_sizeOf hi]
    rw [hn, ← hl, ← hlen, run_loadCells_list w _ cs' (fun j v hj => by rw [Addr.add_lit]; exact hc j v hj)]
    rfl
  · rintro rfl v rfl
    obtain ⟨v', e1, e2⟩ := hvs.get (n := 0) rfl
    have := hc 0 v' e1
    simp only [Nat.add_zero] at this
    refine ⟨v', ?_, e2⟩
    unfold loadVar
    simp only [Sem.run_bind, run_isAgg hd, Result.andThen_ok, hgd, Bool.false_eq_true, if_false, run_load, this]

def resultOf (tmps : Array Value) : ResultVar → Sem Value
  | .tmp t => pure (tmps.getD t undef)
  | .cell a t => do loadVar t (← asAddr (tmps.getD a undef))

theorem ares_ok {tmps : Array Value} (hT : TR μ tm tmps) (hR : Rel μ s w) : ∀ (l : List ResultVar) (rs : List AR) (vs : List AV), l.mapM (cres P) = some rs → ares tm s rs = some vs →
    ∃ vs' : List Value, (l.mapM (resultOf tmps)).run P w = .ok vs' w ∧ VRs μ vs vs'
  | [], rs, vs, h, hr => by
    rw [mapM_nil_some h] at hr
    simp only [ares, Option.some.injEq] at hr
    subst hr
    exact ⟨[], rfl, .nil⟩
  | x :: l, rs, vs, h, hr => by
    obtain ⟨y, ys, h1, h2, rfl⟩ := mapM_cons_some h
    cases x with
    | tmp t =>
      simp only [cres, Option.some.injEq] at h1
      subst h1
      simp only [ares, Option.map_eq_some_iff] at hr
      obtain ⟨us, hus, rfl⟩ := hr
      obtain ⟨vs', k1, k2⟩ := ares_ok hT hR l ys us h2 hus
      refine ⟨tmps.getD t undef :: vs', ?_, .cons _ _ _ _ (hT t) k2⟩
      rw [List.mapM_cons]
      simp only [resultOf, Sem.run_bind, Sem.run_pure, Result.andThen_ok, k1]
    | cell c t =>
      simp only [cres, Option.map_eq_some_iff] at h1
      obtain ⟨⟨n, g⟩, ht, rfl⟩ := h1
      simp only [ares] at hr
      split at hr
      · rename_i b o e
        split at hr
        · rename_i cs us hcs hus
          obtain ⟨vs', k1, k2⟩ := ares_ok hT hR l ys us h2 hus
          have hv := hT c
          rw [e] at hv
          obtain ⟨bi, hp, hbi⟩ := hv.ptr_inv
          obtain ⟨m1, m2⟩ := loadVar_ok hR ht hbi hcs
          have go : ∀ (v : AV), (∃ v', (loadVar t ⟨bi.blk, bi.del + o, none⟩).run P w = .ok v' w ∧ VR μ v v') → ∃ vs' : List Value, (((ResultVar.cell c t) :: l).mapM (resultOf tmps)).run P w = .ok vs' w ∧ VRs μ (v :: us) vs' := by
            rintro v ⟨v', n1, n2⟩
            refine ⟨v' :: vs', ?_, .cons _ _ _ _ n2 k2⟩
            rw [List.mapM_cons]
            simp only [resultOf, hp, asAddr, Sem.run_bind, Sem.run_pure, Result.andThen_ok, n1, k1]
          split at hr
          · rename_i hg
            simp only [Option.some.injEq] at hr
            subst hr
            exact go _ (m1 hg)
          · rename_i hg
            split at hr
            · rename_i v
              simp only [Option.some.injEq] at hr
              subst hr
              exact go _ (m2 (by simpa using hg) v rfl)
            · cases hr
        · cases hr
      · cases hr

theorem retV_ok {vs : List AV} {vs' : List Value} (h : VRs μ vs vs') : VR μ (retV vs) (if h : vs'.toArray.size = 1 then vs'.toArray[0] else .tuple vs'.toArray) := by
  cases h with
  | nil => exact .tuple _ _ .nil
  | cons v v' l l' hv hl =>
    cases hl with
    | nil => exact hv
    | cons u u' m m' hu hm =>
      rw [dif_neg (by simp)]
      exact .tuple _ _ (.cons _ _ _ _ hv (.cons _ _ _ _ hu hm))

theorem results_ok {tmps : Array Value} (hT : TR μ tm tmps) (hR : Rel μ s w) {fn : Func} {rs : List AR} {vs : List AV} (h : fn.results.toList.mapM (cres P) = some rs) (hr : ares tm s rs = some vs) :
    ∃ v', (results fn tmps).run P w = .ok v' w ∧ VR μ (retV vs) v' := by
  obtain ⟨vs', k1, k2⟩ := ares_ok hT hR fn.results.toList rs vs h hr
  refine ⟨_, ?_, retV_ok k2⟩
  have e : results fn tmps = (do
      let vs ← fn.results.mapM (resultOf tmps)
      pure (if h : vs.size = 1 then vs[0] else .tuple vs)) := by
    unfold results
    congr 2
  rw [e, Array.mapM_eq_mapM_toList]
  simp only [Sem.run_bind, Sem.run_map, k1, Result.andThen_ok, Sem.run_pure]

theorem initTm_at (x : Nat) : ∀ (l : List AV) (k : Nat) (tm : Tm), (initTm k l tm).at x = if k ≤ x ∧ x < k + l.length then l.getD (x - k) AV.undef else tm.at x
  | [], k, tm => by
    simp only [initTm, List.length_nil, Nat.add_zero]
    rw [if_neg (by omega)]
  | v :: l, k, tm => by
    simp only [initTm]
    rw [initTm_at x l (k + 1), Tm.put_at]
    simp only [List.length_cons]
    by_cases h1 : x = k
    · subst h1
      rw [if_neg (by omega), if_pos rfl, if_pos (by omega)]
      simp
    · rw [if_neg (show ¬ some k = some x by simp; omega)]
      by_cases h2 : k + 1 ≤ x ∧ x < k + 1 + l.length
      · rw [if_pos h2, if_pos (by omega)]
        have : x - k = (x - (k + 1)) + 1 := by omega
        rw [this]
        simp
      · rw [if_neg h2, if_neg (by omega)]

theorem init_ok {args : List AV} {args' : Array Value} (h : VRs μ args args'.toList) (k : Nat) : TR μ (initTm 0 args .leaf) (args' ++ Array.replicate k undef) := by
  intro t
  have hl := h.length
  rw [Array.length_toList] at hl
  rw [initTm_at]
  by_cases ht : t < args.length
  · rw [if_pos (by omega)]
    have := h.getD t
    simp only [Nat.sub_zero]
    rw [Array.getD_eq_getD_getElem?, Array.getElem?_append_left (by omega), ← Array.getElem?_toList, ← List.getD_eq_getElem?_getD]
    exact this
  · rw [if_neg (by omega)]
    have e1 : Tm.at PT.leaf t = AV.undef := by simp [Tm.at, PT.get_leaf]
    have e2 : (args' ++ Array.replicate k undef).getD t undef = undef := by
      rw [Array.getD_eq_getD_getElem?, Array.getElem?_append_right (by omega), Array.getElem?_replicate]
      split <;> rfl
    rw [e1, e2]
    exact VR.undef

theorem afn_ok {call : ACall} (hcall : CallOK P call) (hmix : P.follows .mixedOrders = true) {N : Nat} {f : FuncId} {fn : Func} (hf : P.funcs[f]? = some fn) {af : AFn} (hc : cfn P fn = some af)
    {args : List AV} {r : AV} {s' : AS} (h : afn call N af args s = some (r, s')) {args' : Array Value} (hg : GOK P μ) (hv : VRs μ args args'.toList) (hR : Rel μ s w) : Calls P f args' w (CallPost μ s w r s') := by
  unfold cfn at hc
  split at hc
  · rename_i c rs hb hrs
    cases hc
    unfold afn at h
    split at h
    · cases h
    · rename_i hlt
      have hl := hv.length
      rw [Array.length_toList] at hl
      refine calls_of_wp hf hb ?_
      have hI : Inv P μ s w fn.ntmps (initTm 0 args .leaf) s { tmps := args' ++ Array.replicate (fn.ntmps - args'.size) undef, defers := [] } w :=
        ⟨by simp only [Array.size_append, Array.size_replicate]; simp only at hlt; omega, rfl, μ, init_ok hv _, Stp.refl hR⟩
      have fin : ∀ (tm1 : Tm) (s1 : AS), (ares tm1 s1 rs).map (fun vs => (retV vs, s1)) = some (r, s') → ∀ a' w', Inv P μ s w fn.ntmps tm1 s1 a' w' →
          a'.defers = [] ∧ ∃ v, (results fn a'.tmps).run P w' = .ok v w' ∧ CallPost μ s w r s' (.returned v) w' := by
        intro tm1 s1 hr a' w' hI'
        obtain ⟨_, hdf, μ', hT, hS⟩ := hI'
        simp only [Option.map_eq_some_iff, Prod.mk.injEq] at hr
        obtain ⟨vs, hvs, rfl, rfl⟩ := hr
        obtain ⟨v', k1, k2⟩ := results_ok hT hS.rel hrs hvs
        exact ⟨hdf, v', k1, μ', v', rfl, k2, hS⟩
      split at h
      · rename_i tm1 s1 h1
        exact comp_ok hcall hmix hg c _ _ _ _ .normal tm1 s1 _ hI h1 fun a' w' hI' => fin tm1 s1 h a' w' hI'
      · rename_i tm1 s1 h1
        exact comp_ok hcall hmix hg c _ _ _ _ .ret tm1 s1 _ hI h1 fun a' w' hI' => fin tm1 s1 h a' w' hI'
      · cases h
  · cases hc

/-- What is said of a function is so. -/
def SumOK (P : Program) (f : FuncId) (g : ASum) : Prop :=
  ∀ args s r s', g args s = some (r, s') → goBody P f = true ∧
    ∀ μ w (args' : Array Value), GOK P μ → VRs μ args args'.toList → Rel μ s w → Calls P f args' w (CallPost μ s w r s')

/-- The functions' texts are the program's. -/
def FnOK (P : Program) (F : FuncId → Option AFn) : Prop :=
  ∀ f af, F f = some af → goBody P f = true ∧ ∃ fn, P.funcs[f]? = some fn ∧ cfn P fn = some af

theorem acall_ok (hmix : P.follows .mixedOrders = true) {F : FuncId → Option AFn} {S : FuncId → Option ASum} (hF : FnOK P F) (hS : ∀ f g, S f = some g → SumOK P f g) (N : Nat) : ∀ k, CallOK P (acall F S N k)
  | 0 => fun _ _ _ _ _ h => by cases h
  | k + 1 => fun f args s r s' h => by
    simp only [acall] at h
    split at h
    · rename_i g hg
      exact hS f g hg args s r s' h
    · split at h
      · rename_i af haf
        obtain ⟨hb, fn, hf, hc⟩ := hF f af haf
        exact ⟨hb, fun μ w args' hg hv hR => afn_ok (acall_ok hmix hF hS N k) hmix hf hc h hg hv hR⟩
      · cases h

end
end Go.Ai
