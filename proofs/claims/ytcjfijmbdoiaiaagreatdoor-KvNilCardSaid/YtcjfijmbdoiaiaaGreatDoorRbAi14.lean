/- The abstract interpreter's operations are the model's: all of them in one law. -/
import Derived.Test.YtcjfijmbdoiaiaaGreatDoorRbAi13b
set_option linter.unusedSimpArgs false
set_option linter.unusedVariables false
namespace Go.Ai

section
variable {P : Program} {μ : Mu} {s : AS} {w : World} {tm : Tm} {a : Act} {o : Oper}

theorem cbin_ok (hg : GOK P μ) (hT : TR μ tm a.tmps) (hR : Rel μ s w) {op : BinOp} {t yt : TypeId} {x y : Operand} (ho : o.op = .binOp op t x y yt) {ao : AOp} (hc : cbin P op t x y = some ao)
    {v : AV} {s' : AS} (h : aop tm s ao = some (v, s')) : Good μ s w ((execOp a.eval o).run P w) v s' := by
  unfold cbin at hc
  split at hc
  · rename_i ax ay d hx hy hd
    split at hc
    · cases hc; exact ok_ibin hg hT hR ho hx hy h
    · cases hc; exact ok_sbin hg hT hR ho hx hy h
    · rename_i d' n1 n2
      split at hc
      · cases hc
      · rename_i neg hneg
        have hop : (op = .eql ∧ neg = false) ∨ (op = .neq ∧ neg = true) := by
          cases op <;> first | (cases hneg; done) | (cases hneg; exact .inl ⟨rfl, rfl⟩) | (cases hneg; exact .inr ⟨rfl, rfl⟩)
        split at hc
        · cases hc; exact ok_bbin hg hT hR hop hd ho hx hy h
        · rename_i e
          split at hc
          · rename_i i hi
            split at hc
            · cases hc
            · rename_i h0
              cases hc
              exact ok_nileq hg hT hR hop (k := .ptr) hd ⟨i, hi, h0⟩ (fun hk => by cases hk) ho hx hy h
          · cases hc
        · cases hc; exact ok_nileq hg hT hR hop (k := .sl) hd trivial (fun hk => by cases hk) ho hx hy h
        · cases hc; exact ok_nileq hg hT hR hop (k := .mp) hd trivial (fun hk => by cases hk) ho hx hy h
        · cases hc; exact ok_nileq hg hT hR hop (k := .fn) hd trivial (fun hk => by cases hk) ho hx hy h
        · split at hc
          · rename_i hcc
            cases hc
            exact ok_nileq hg hT hR hop (k := .ifc) hd trivial (fun _ => by simpa using hcc) ho hx hy h
          · cases hc
        · split at hc
          · rename_i ks hks
            split at hc
            · rename_i hcc
              cases hc
              exact ok_aggeq hg hT hR hop hd hcc.1 hcc.2 hks ho hx hy h
            · cases hc
          · cases hc
        · cases hc
  · cases hc

theorem cxs_one {xs : Array Operand} {x : AX} (h : cxs P xs = some [x]) : ∃ y, xs = #[y] ∧ cx P y = some x := by
  unfold cxs at h
  obtain ⟨l⟩ := xs
  cases l with
  | nil => have := mapM_nil_some h; cases this
  | cons y l =>
    obtain ⟨z, zs, h1, h2, h3⟩ := mapM_cons_some h
    cases h3
    cases l with
    | nil => exact ⟨y, rfl, h1⟩
    | cons q l => obtain ⟨_, _, _, _, h4⟩ := mapM_cons_some h2; cases h4

theorem cxs_two {xs : Array Operand} {x y : AX} (h : cxs P xs = some [x, y]) : ∃ p q, xs = #[p, q] ∧ cx P p = some x ∧ cx P q = some y := by
  unfold cxs at h
  obtain ⟨l⟩ := xs
  cases l with
  | nil => have := mapM_nil_some h; cases this
  | cons p l =>
    obtain ⟨z, zs, h1, h2, h3⟩ := mapM_cons_some h
    cases h3
    cases l with
    | nil => have := mapM_nil_some h2; cases this
    | cons q l =>
      obtain ⟨z, zs, h4, h5, h6⟩ := mapM_cons_some h2
      cases h6
      cases l with
      | nil => exact ⟨p, q, rfl, h1, h4⟩
      | cons r l => obtain ⟨_, _, _, _, h7⟩ := mapM_cons_some h5; cases h7

theorem bind_und {o : Option TypeId} {d : TypeDesc} (h : o.bind P.underlying = some d) : ∃ t, o = some t ∧ P.underlying t = some d := by
  cases o with
  | none => cases h
  | some t => exact ⟨t, rfl, h⟩

theorem argTypes_two {A : Array TypeId} {t u : TypeId} (hs : A.size = 2) (h0 : A[0]? = some t) (h1 : A[1]? = some u) : A = #[t, u] := by
  obtain ⟨l⟩ := A
  match l, hs with
  | [x, y], _ => cases h0; cases h1; rfl

theorem ccall_ok (hg : GOK P μ) (hT : TR μ tm a.tmps) (hR : Rel μ s w) {c : Call} (ho : o.op = .call c) {ao : AOp} (hc : ccall P c = some ao)
    {v : AV} {s' : AS} (h : aop tm s ao = some (v, s')) : Good μ s w ((execOp a.eval o).run P w) v s' := by
  unfold ccall at hc
  split at hc
  · cases hc
  · rename_i args hargs
    split at hc
    · cases hc; cases h
    · simp only [Option.map_eq_some_iff] at hc
      obtain ⟨_, _, rfl⟩ := hc
      cases h
    · simp only [Option.map_eq_some_iff] at hc
      obtain ⟨_, _, rfl⟩ := hc
      cases h
    · rename_i b hcal
      split at hc
      · rename_i x
        obtain ⟨y, hy, hx⟩ := cxs_one hargs
        split at hc
        · rename_i n hu
          obtain ⟨t, ht, hu⟩ := bind_und hu
          cases hc
          simp only [aop, Option.some.injEq, Prod.mk.injEq] at h
          obtain ⟨rfl, rfl⟩ := h
          exact ok_lenC hR ho hcal hy ht (.inl ⟨_, hu⟩)
        · rename_i hu
          obtain ⟨t, ht, hu⟩ := bind_und hu
          cases hc
          exact ok_len hg hT hR (k := .str) ho hcal hy ht hu trivial hx h
        · rename_i hu
          obtain ⟨t, ht, hu⟩ := bind_und hu
          cases hc
          exact ok_len hg hT hR (k := .sl) ho hcal hy ht hu trivial hx h
        · rename_i hu
          obtain ⟨t, ht, hu⟩ := bind_und hu
          cases hc
          exact ok_len hg hT hR (k := .mp) ho hcal hy ht hu trivial hx h
        · rename_i p hu
          obtain ⟨t, ht, hu⟩ := bind_und hu
          split at hc
          · rename_i hp
            cases hc
            simp only [aop, Option.some.injEq, Prod.mk.injEq] at h
            obtain ⟨rfl, rfl⟩ := h
            exact ok_lenC hR ho hcal hy ht (.inr ⟨_, _, hu, hp⟩)
          · cases hc
        · cases hc
      · rename_i x
        obtain ⟨y, hy, hx⟩ := cxs_one hargs
        split at hc
        · rename_i hu
          obtain ⟨t, ht, hu⟩ := bind_und hu
          cases hc
          exact ok_cap hg hT hR ho hcal hy ht hu hx h
        · cases hc
      · rename_i x y
        obtain ⟨p, q, hpq, hx, hy⟩ := cxs_two hargs
        split at hc
        · rename_i e d hu hu'
          obtain ⟨t, ht, hu⟩ := bind_und hu
          obtain ⟨t', ht', hu'⟩ := bind_und hu'
          split at hc
          · rename_i i hk hi
            split at hc
            · rename_i hcond
              obtain ⟨c1, c2, c3⟩ := hcond
              cases hc
              simp only [Option.map_eq_some_iff] at c3
              obtain ⟨z, hz, hzl⟩ := c3
              have hk' : (∃ e', P.underlying t' = some (.slice e')) ∨ P.underlying t' = some .string := by
                rw [hu']
                cases d <;> first | (exfalso; simp at hk; done) | (exact .inl ⟨_, rfl⟩) | (exact .inr rfl)
              exact ok_app hg hT hR ho hcal hpq (argTypes_two c1 ht ht') hu hk' hi hz hzl hx hy h
            · cases hc
          · cases hc
        · cases hc
      · rename_i x y
        obtain ⟨p, q, hpq, hx, hy⟩ := cxs_two hargs
        split at hc
        · rename_i e hu
          obtain ⟨t, ht, hu⟩ := bind_und hu
          split at hc
          · rename_i i hi
            cases hc
            exact ok_copy hg hT hR ho hcal hpq ht hu hi hx hy h
          · cases hc
        · cases hc
      · cases hc
        exact ok_mnmx hg hT hR ho (mx := false) hcal hargs h
      · cases hc
        exact ok_mnmx hg hT hR ho (mx := true) hcal hargs h
      · rename_i x
        obtain ⟨y, hy, hx⟩ := cxs_one hargs
        split at hc
        · rename_i hu
          obtain ⟨t, ht, hu⟩ := bind_und hu
          cases hc
          exact ok_clrM hg hT hR ho hcal hy ht hu hx h
        · rename_i e hu
          obtain ⟨t, ht, hu⟩ := bind_und hu
          split at hc
          · rename_i z hz
            split at hc
            · rename_i hz1
              cases hc
              exact ok_clrS hg hT hR ho hcal hy ht hu hz hz1 hx h
            · cases hc
          · cases hc
        · cases hc
      · rename_i m k
        obtain ⟨p, q, hpq, hx, hy⟩ := cxs_two hargs
        split at hc
        · rename_i kt e hu
          obtain ⟨t, ht, hu⟩ := bind_und hu
          split at hc
          · rename_i d hd
            simp only [Option.map_eq_some_iff] at hc
            obtain ⟨kk, hkk, rfl⟩ := hc
            exact ok_del hg hT hR ho hcal hpq ht hu hd hkk hx hy h
          · cases hc
        · cases hc
      · rename_i x
        obtain ⟨y, hy, hx⟩ := cxs_one hargs
        cases hc
        exact ok_usd hg hT hR ho hcal hy hx h
      · rename_i x y
        obtain ⟨p, q, hpq, hx, hy⟩ := cxs_two hargs
        split at hc
        · rename_i e hu
          obtain ⟨t, ht, hu⟩ := bind_und hu
          split at hc
          · rename_i he
            cases hc
            exact ok_ustr hg hT hR ho hcal hpq ht hu he hx hy h
          · cases hc
        · cases hc
      · cases hc

/-- EVERY OPERATION THAT CALLS NOTHING: what the abstract interpreter makes of it, the model makes of it. -/
theorem cop_ok (hg : GOK P μ) (hT : TR μ tm a.tmps) (hR : Rel μ s w) {ao : AOp} (hc : cop P o.op = some ao) {v : AV} {s' : AS} (h : aop tm s ao = some (v, s')) : Good μ s w ((execOp a.eval o).run P w) v s' := by
  cases ho : o.op with
  | move x =>
    rw [ho] at hc
    simp only [cop, Option.map_eq_some_iff] at hc
    obtain ⟨ax, hx, rfl⟩ := hc
    simp only [aop, Option.some.injEq, Prod.mk.injEq] at h
    obtain ⟨rfl, rfl⟩ := h
    exact ok_move hg hT hR (.inl ho) hx
  | assign x =>
    rw [ho] at hc
    simp only [cop, Option.map_eq_some_iff] at hc
    obtain ⟨ax, hx, rfl⟩ := hc
    simp only [aop, Option.some.injEq, Prod.mk.injEq] at h
    obtain ⟨rfl, rfl⟩ := h
    exact ok_move hg hT hR (.inr ho) hx
  | pick c x y =>
    rw [ho] at hc
    simp only [cop] at hc
    split at hc
    · rename_i ac ax ay e1 e2 e3
      cases hc
      simp only [aop] at h
      split at h
      · rename_i t ht
        simp only [Option.some.injEq, Prod.mk.injEq] at h
        obtain ⟨rfl, rfl⟩ := h
        exact ok_pick hg hT hR ho e1 e2 e3 ht
      · cases h
    · cases hc
  | alloc e =>
    rw [ho] at hc
    simp only [cop] at hc
    split at hc
    · cases hc; cases h
    · cases hc
  | box e x =>
    rw [ho] at hc
    simp only [cop] at hc
    split at hc
    · cases hc; cases h
    · cases hc
  | build t ps =>
    rw [ho] at hc
    simp only [cop] at hc
    split at hc
    · rename_i z fs hz hu
      split at hc
      · rename_i pl hpl
        simp only [Option.map_eq_some_iff] at hc
        obtain ⟨aps, hps, rfl⟩ := hc
        exact ok_build hg hT hR ho hz hps (.inl ⟨fs, pl, hu, hpl, rfl⟩) h
      · cases hc
    · rename_i z n e hz hu
      split at hc
      · rename_i i hi
        simp only [Option.map_eq_some_iff] at hc
        obtain ⟨aps, hps, rfl⟩ := hc
        exact ok_build hg hT hR ho hz hps (.inr ⟨n, e, i, hu, hi, rfl⟩) h
      · cases hc
    · cases hc
  | buildSlice t len ps =>
    rw [ho] at hc
    simp only [cop] at hc
    split at hc
    · split at hc
      · split at hc
        · simp only [Option.map_eq_some_iff] at hc
          obtain ⟨aps, hps, rfl⟩ := hc
          cases h
        · cases hc
      · cases hc
    · cases hc
  | load t x =>
    rw [ho] at hc
    simp only [cop] at hc
    split at hc
    · rename_i n g ax e1 e2
      split at hc
      · rename_i hcond
        cases hc
        exact ok_load hg hT hR ho e1 hcond e2 h
      · cases hc
    · cases hc
  | store t p x =>
    rw [ho] at hc
    simp only [cop] at hc
    split at hc
    · rename_i n g ap ax e1 e2 e3
      cases hc
      exact ok_store hg hT hR ho e1 e2 e3 h
    · cases hc
  | nilCheck x =>
    rw [ho] at hc
    simp only [cop, Option.map_eq_some_iff] at hc
    obtain ⟨ax, hx, rfl⟩ := hc
    exact ok_nilck hg hT hR ho hx h
  | binOp op t x y yt =>
    rw [ho] at hc
    simp only [cop] at hc
    split at hc
    · split at hc
      · rename_i ax ay e1 e2
        cases hc
        exact ok_ibin hg hT hR ho e1 e2 h
      · cases hc
    · split at hc
      · rename_i ax ay e1 e2
        cases hc
        exact ok_ibin hg hT hR ho e1 e2 h
      · cases hc
    · exact cbin_ok hg hT hR ho hc h
  | unOp op t x =>
    rw [ho] at hc
    simp only [cop, Option.map_eq_some_iff] at hc
    obtain ⟨ax, hx, rfl⟩ := hc
    exact ok_un hg hT hR ho hx h
  | convert src dst x =>
    rw [ho] at hc
    simp only [cop] at hc
    split at hc
    · rename_i ax j k e1 e2 e3
      cases hc
      exact ok_conv hg hT hR ho e2 e3 e1 h
    · rename_i ax e1 e2 e3
      cases hc
      simp only [aop] at h
      split at h
      · rename_i l hl
        simp only [Option.some.injEq, Prod.mk.injEq] at h
        obtain ⟨rfl, rfl⟩ := h
        have := ok_convStr hg hT hR ho e2 e3 e1 hl
        rwa [hl] at this
      · cases h
    · rename_i ax e e1 e2 e3
      split at hc
      · cases hc; cases h
      · cases hc
    · rename_i ax e e1 e2 e3
      split at hc
      · rename_i he
        cases hc
        exact ok_b2s hg hT hR ho e2 e3 he e1 h
      · cases hc
    · cases hc
  | makeInterface t x =>
    rw [ho] at hc
    simp only [cop] at hc
    split at hc
    · cases hc
    · rename_i ax d e1 e2 e3
      cases hc
      simp only [aop, Option.some.injEq, Prod.mk.injEq] at h
      obtain ⟨rfl, rfl⟩ := h
      exact ok_mkI hg hT hR ho e3 (fun ms hd => e1 ms hd) e2
    · cases hc
  | makeFunc fn first caps =>
    rw [ho] at hc
    simp only [cop] at hc
    split at hc
    · rename_i af ac e1 e2
      cases hc
      simp only [aop, Option.some.injEq, Prod.mk.injEq] at h
      obtain ⟨rfl, rfl⟩ := h
      exact ok_mkF hg hT hR ho e1 e2
    · cases hc
  | makeMap t r =>
    rw [ho] at hc
    cases r with
    | some _ => cases hc
    | none =>
      simp only [cop, Option.some.injEq] at hc
      subst hc
      cases h
  | makeSlice t x y =>
    rw [ho] at hc
    simp only [cop] at hc
    split at hc
    · rename_i e hu
      split at hc
      · rename_i i z ax ay e1 e2 e3 e4
        split at hc
        · cases hc; cases h
        · cases hc
      · cases hc
    · cases hc
  | slice t x lo hi mx =>
    rw [ho] at hc
    simp only [cop] at hc
    split at hc
    · rename_i ax alo ahi amx e1 e2 e3 e4
      split at hc
      · rename_i hu
        split at hc
        · cases hc
          have : mx = none := by cases mx with | none => rfl | some y => simp [cxo] at e4
          subst this
          exact ok_slS hg hT hR ho hu e1 e2 e3 h
        · cases hc
      · rename_i e hu
        simp only [Option.map_eq_some_iff] at hc
        obtain ⟨i, hi, rfl⟩ := hc
        exact ok_slV hg hT hR ho hu hi e1 e2 e3 e4 h
      · rename_i n e hu
        simp only [Option.map_eq_some_iff] at hc
        obtain ⟨i, hi, rfl⟩ := hc
        exact ok_slA hg hT hR ho (.inl hu) hi e1 e2 e3 e4 h
      · rename_i t' hu
        split at hc
        · rename_i n e hu'
          simp only [Option.map_eq_some_iff] at hc
          obtain ⟨i, hi, rfl⟩ := hc
          exact ok_slA hg hT hR ho (.inr ⟨t', hu, hu'⟩) hi e1 e2 e3 e4 h
        · cases hc
      · cases hc
    · cases hc
  | fieldAddr t x k =>
    rw [ho] at hc
    simp only [cop] at hc
    split at hc
    · rename_i fs ax e1 e2
      split at hc
      · rename_i f hf
        split at hc
        · rename_i j hj
          split at hc
          · cases hc
          · rename_i h0
            cases hc
            exact ok_fadr hg hT hR ho e1 hf hj h0 e2 h
        · cases hc
      · cases hc
    · cases hc
  | field t x k =>
    rw [ho] at hc
    simp only [cop] at hc
    split at hc
    · rename_i fs ax e1 e2
      split at hc
      · rename_i f hf
        simp only [Option.map_eq_some_iff] at hc
        obtain ⟨⟨n, g⟩, hn, rfl⟩ := hc
        exact ok_fld hg hT hR ho e1 hf hn e2 h
      · cases hc
    · cases hc
  | indexAddr t x i =>
    rw [ho] at hc
    simp only [cop] at hc
    split at hc
    · rename_i n e ax ai e1 e2 e3
      simp only [Option.map_eq_some_iff] at hc
      obtain ⟨j, hj, rfl⟩ := hc
      exact ok_iadrA hg hT hR ho e1 hj e2 e3 h
    · rename_i e ax ai e1 e2 e3
      simp only [Option.map_eq_some_iff] at hc
      obtain ⟨j, hj, rfl⟩ := hc
      exact ok_iadrS hg hT hR ho e1 hj e2 e3 h
    · cases hc
  | index t x i =>
    rw [ho] at hc
    simp only [cop] at hc
    split at hc
    · rename_i n e ax ai e1 e2 e3
      simp only [Option.map_eq_some_iff] at hc
      obtain ⟨⟨sz, g⟩, hn, rfl⟩ := hc
      exact ok_ixA hg hT hR ho e1 hn e2 e3 h
    · rename_i ax ai e1 e2 e3
      cases hc
      exact ok_ixS hg hT hR ho e1 e2 e3 h
    · cases hc
  | lookup t m k ok =>
    rw [ho] at hc
    simp only [cop] at hc
    split at hc
    · rename_i kt e am ak e1 e2 e3
      split at hc
      · rename_i kk z hk hz
        cases hc
        obtain ⟨d, hd, hkk⟩ := Option.bind_eq_some_iff.1 hk
        exact ok_look hg hT hR ho e1 hd hkk hz e2 e3 h
      · cases hc
    · cases hc
  | mapUpdate t m k x =>
    rw [ho] at hc
    simp only [cop] at hc
    split at hc
    · rename_i kt e am ak ax e1 e2 e3 e4
      split at hc
      · rename_i kk hk
        cases hc
        obtain ⟨d, hd, hkk⟩ := Option.bind_eq_some_iff.1 hk
        exact ok_mupd hg hT hR (.inl ho) e1 hd hkk e2 e3 e4 h
      · cases hc
    · cases hc
  | insert t m k x =>
    rw [ho] at hc
    simp only [cop] at hc
    split at hc
    · rename_i kt e am ak ax e1 e2 e3 e4
      split at hc
      · rename_i kk hk
        cases hc
        obtain ⟨d, hd, hkk⟩ := Option.bind_eq_some_iff.1 hk
        exact ok_mupd hg hT hR (.inr ho) e1 hd hkk e2 e3 e4 h
      · cases hc
    · cases hc
  | extract x i =>
    rw [ho] at hc
    simp only [cop, Option.map_eq_some_iff] at hc
    obtain ⟨ax, hx, rfl⟩ := hc
    exact ok_extr hg hT hR ho hx h
  | call c => rw [ho] at hc; exact ccall_ok hg hT hR ho hc h
  | _ => rw [ho] at hc; cases hc

theorem calloc_ok (hg : GOK P μ) (hT : TR μ tm a.tmps) (w : World) {ao : AOp} (hc : cop P o.op = some ao) {blk : ABlk} {mk : Nat → AV} (h : aalloc tm ao = some (blk, mk)) : GoodA μ w ((execOp a.eval o).run P w) blk mk := by
  cases ho : o.op with
  | alloc e =>
    rw [ho] at hc
    simp only [cop] at hc
    split at hc
    · rename_i z n g e1 e2
      cases hc
      simp only [aalloc, Option.some.injEq, Prod.mk.injEq] at h
      obtain ⟨rfl, rfl⟩ := h
      exact ok_alloc μ w ho e1 n
    · cases hc
  | box e x =>
    rw [ho] at hc
    simp only [cop] at hc
    split at hc
    · rename_i ax n g e1 e2
      cases hc
      simp only [aalloc, Option.some.injEq, Prod.mk.injEq] at h
      obtain ⟨rfl, rfl⟩ := h
      exact ok_box hg hT w ho e1 n
    · cases hc
  | buildSlice t len ps =>
    rw [ho] at hc
    simp only [cop] at hc
    split at hc
    · rename_i e hu
      split at hc
      · rename_i i z hi hz
        split at hc
        · rename_i hcond
          simp only [Option.map_eq_some_iff] at hc
          obtain ⟨aps, hps, rfl⟩ := hc
          simp only [aalloc, Option.map_eq_some_iff, Prod.mk.injEq] at h
          obtain ⟨cs, hcs, rfl, rfl⟩ := h
          exact ok_buildSl hg hT w ho hu hi hz hcond.1 hcond.2.1 hcond.2.2 hps hcs
        · cases hc
      · cases hc
    · cases hc
  | convert src dst x =>
    rw [ho] at hc
    simp only [cop] at hc
    split at hc
    · cases hc; cases h
    · cases hc; cases h
    · rename_i ax e e1 e2 e3
      split at hc
      · rename_i he
        cases hc
        simp only [aalloc] at h
        split at h
        · rename_i l hl
          split at h
          · simp only [Option.some.injEq, Prod.mk.injEq] at h
            obtain ⟨rfl, rfl⟩ := h
            exact ok_s2b hg hT w ho e2 e3 he e1 hl
          · cases h
        · cases h
      · cases hc
    · split at hc
      · cases hc; cases h
      · cases hc
    · cases hc
  | makeMap t r =>
    rw [ho] at hc
    cases r with
    | some _ => cases hc
    | none =>
      simp only [cop, Option.some.injEq] at hc
      subst hc
      simp only [aalloc, Option.some.injEq, Prod.mk.injEq] at h
      obtain ⟨rfl, rfl⟩ := h
      exact ok_mkM μ w ho
  | makeSlice t x y =>
    rw [ho] at hc
    simp only [cop] at hc
    split at hc
    · rename_i e hu
      split at hc
      · rename_i i z ax ay e1 e2 e3 e4
        split at hc
        · rename_i hcond
          cases hc
          simp only [aalloc] at h
          split at h
          · rename_i l c k1 k2
            split at h
            · rename_i hb
              simp only [Option.some.injEq, Prod.mk.injEq] at h
              obtain ⟨rfl, rfl⟩ := h
              exact ok_mkS hg hT w ho hu e1 e2 hcond.1 hcond.2 e3 e4 k1 k2 hb.1 hb.2.1 hb.2.2.1 hb.2.2.2
            · cases h
          · cases h
        · cases hc
      · cases hc
    · cases hc
  | _ =>
    rw [ho] at hc
    exfalso
    simp only [cop, cbin, ccall] at hc
    repeat' (split at hc)
    all_goals first
      | (cases hc; done)
      | (cases hc; cases h; done)
      | (simp only [Option.map_eq_some_iff] at hc; obtain ⟨_, _, rfl⟩ := hc; cases h; done)

end
end Go.Ai
