/- What a region that draws its order leans on: steps in a part of the heap; operations look at their operands alone. -/
import Derived.Test.YtcjfijmbdoiaiaaGreatDoorRbAi17
set_option linter.unusedSimpArgs false
set_option linter.unusedVariables false
namespace Go.Ai

section
variable {P : Program} {μ μ' μ₀ : Mu} {s s₀ H H' H₀ H₁ : AS} {w w' w₀ : World} {tm tm' : Tm}

theorem Rel.known (hR : Rel μ s w) {b : Nat} {o : ABlk} (hb : s.get b = some o) (hm : Mu.le μ μ') {i : BI} (hi : μ' b = some i) : μ b = some i := by
  obtain ⟨j, h1, _⟩ := hR.blk b o hb
  have := hm b j h1
  rw [hi] at this
  cases this
  exact h1

/-- A step in a part of the heap is a step in all of it. -/
theorem Stp.frame (hR : Rel μ H w) (hsub : H₀.Sub H) (hnx : H₀.nx = H.nx) (h : Stp μ H₀ w μ' H₁ w') (H' : AS) (hn : H'.nx = H₁.nx)
    (hget : ∀ b, H'.get b = H₁.get b ∨ (H'.get b = H.get b ∧ H₀.get b = none)) : Stp μ H w μ' H' w' where
  ext := h.ext
  rel := {
    blk := fun b o hb => by
      rcases hget b with hc | ⟨hc, h0⟩
      · rw [hc] at hb; exact h.rel.blk b o hb
      · rw [hc] at hb
        obtain ⟨i, h1, h2⟩ := hR.blk b o hb
        refine ⟨i, h.ext b i h1, (h2.mono h.ext).of_heap (h.keep _ (hR.inb hb h1) fun hw => ?_)⟩
        obtain ⟨b1, o1, i1, k1, k2, k3, k4⟩ := hw
        have := hR.sep b1 b o1 o i1 i (hsub b1 o1 k1) hb k2 h1 k4 k3
        subst this
        rw [h0] at k1; cases k1
    sep := fun b b' o o' i i' hb hb' hi hi' he hro => by
      rcases hget b with hc | ⟨hc, h0⟩ <;> rcases hget b' with hc' | ⟨hc', h0'⟩
      · rw [hc] at hb; rw [hc'] at hb'
        exact h.rel.sep b b' o o' i i' hb hb' hi hi' he hro
      · rw [hc] at hb; rw [hc'] at hb'
        have hi2 := hR.known hb' h.ext hi'
        rcases h.ws i.blk ⟨b, o, i, hb, hi, hro, rfl⟩ with hw | hw
        · obtain ⟨b1, o1, i1, k1, k2, k3, k4⟩ := hw
          have := hR.sep b1 b' o1 o' i1 i' (hsub b1 o1 k1) hb' k2 hi2 (k4.trans he) k3
          subst this
          rw [h0'] at k1; cases k1
        · have := hR.inb hb' hi2; omega
      · rw [hc] at hb; rw [hc'] at hb'
        have hi2 := hR.known hb h.ext hi
        rcases h.us i'.blk ⟨b', o', i', hb', hi', rfl⟩ with hw | hw
        · obtain ⟨b1, o1, i1, k1, k2, k4⟩ := hw
          have := hR.sep b b1 o o1 i i1 hb (hsub b1 o1 k1) hi2 k2 (he.trans k4.symm) hro
          subst this
          rw [h0] at k1; cases k1
        · have := hR.inb hb hi2; omega
      · rw [hc] at hb; rw [hc'] at hb'
        exact hR.sep b b' o o' i i' hb hb' (hR.known hb h.ext hi) (hR.known hb' h.ext hi') he hro
    fresh := fun b i hb => by rw [hn]; exact h.rel.fresh b i hb
     }
  keep := fun c hc hw => h.keep c hc fun h1 => hw (h1.sub hsub)
  ws := fun c hc => by
    obtain ⟨b, o, i, h1, h2, h3, h4⟩ := hc
    rcases hget b with hc | ⟨hc, h0⟩
    · rw [hc] at h1
      rcases h.ws c ⟨b, o, i, h1, h2, h3, h4⟩ with hw | hw
      · exact .inl (hw.sub hsub)
      · exact .inr hw
    · rw [hc] at h1
      exact .inl ⟨b, o, i, h1, hR.known h1 h.ext h2, h3, h4⟩
  us := fun c hc => by
    obtain ⟨b, o, i, h1, h2, h4⟩ := hc
    rcases hget b with hc | ⟨hc, h0⟩
    · rw [hc] at h1
      rcases h.us c ⟨b, o, i, h1, h2, h4⟩ with hw | hw
      · exact .inl (hw.sub hsub)
      · exact .inr hw
    · rw [hc] at h1
      exact .inl ⟨b, o, i, h1, hR.known h1 h.ext h2, h4⟩
  mnew := fun b hb hlt => h.mnew b hb (by rw [hnx]; exact hlt)
  dom := fun b hb => by
    rcases hget b with hc | ⟨hc, h0⟩
    · rw [hc] at hb
      rcases h.dom b hb with h1 | h1
      · refine .inl ?_
        cases hh : H₀.get b with
        | none => exact absurd hh h1
        | some o => rw [hsub b o hh]; simp
      · exact .inr (by rw [← hnx]; exact h1)
    · rw [hc] at hb; exact .inl hb
  nx := by rw [hn, ← hnx]; exact h.nx
  size := h.size
  os := h.os
  out := h.out
  tape := h.tape

/-- A heap is what it answers. -/
theorem Stp.ext_right (h : Stp μ₀ s₀ w₀ μ H w) (hn : H'.nx = H.nx) (hget : ∀ b, H'.get b = H.get b) : Stp μ₀ s₀ w₀ μ H' w :=
  h.trans (Stp.frame h.rel (fun _ _ h => h) rfl (Stp.refl h.rel) H' hn fun b => .inl (hget b))

theorem Rel.ext_right (h : Rel μ H w) (hn : H'.nx = H.nx) (hget : ∀ b, H'.get b = H.get b) : Rel μ H' w :=
  h.sub (fun b o hb => by rw [← hget]; exact hb) (Nat.le_of_eq hn.symm)

/-- Room for numbers is made. -/
theorem Stp.room (h : Rel μ s w) (n : Nat) : Stp μ s w μ ⟨s.hp, s.nx + n⟩ w where
  ext := .refl μ
  rel := h.sub (fun _ _ h => h) (Nat.le_add_right _ _)
  keep := fun _ _ _ => rfl
  ws := fun _ h => .inl h
  us := fun _ h => .inl h
  mnew := fun _ h _ => h
  dom := fun _ h => .inl h
  nx := Nat.le_add_right _ _
  size := Nat.le_refl _
  os := rfl
  out := rfl
  tape := rfl

/-- A new block, at a number that was kept free. -/
theorem Stp.allocAt (h : Stp μ₀ s₀ w₀ μ H w) {R : Result Next} {blk : ABlk} {mk : Nat → AV} (hA : GoodA μ w R blk mk) {e : Nat} (he : s₀.nx ≤ e) (hlt : e < H.nx) (hnone : μ e = none)
    (hn : H'.nx = H.nx) (hget : ∀ b, H'.get b = if b = e then some blk else H.get b) :
    ∃ i v' w', R = .ok (.value v') w' ∧ VR (μ.upd e i) (mk e) v' ∧ Mu.le μ (μ.upd e i) ∧ Stp μ₀ s₀ w₀ (μ.upd e i) H' w' := by
  obtain ⟨i, v', w', obj, h1, h2, h3, h4, h5, h6, h7, h8⟩ := hA
  obtain ⟨h9, h10⟩ := h8 e hnone
  have hle := Mu.le_upd i hnone
  refine ⟨i, v', w', h1, h10, hle, ?_⟩
  have hR := h.rel
  exact {
    ext := h.ext.trans hle
    rel := {
      blk := fun b o' hg => by
        rw [hget] at hg
        by_cases he : b = e
        · subst he
          simp only [if_true, Option.some.injEq] at hg
          subst hg
          exact ⟨i, Mu.upd_same _ _ _, h9⟩
        · simp only [he, if_false] at hg
          obtain ⟨j, k1, k2⟩ := hR.blk b o' hg
          refine ⟨j, by simp [Mu.upd, he, k1], (k2.mono hle).of_heap ?_⟩
          have := hR.inb hg k1
          rw [h4, Array.getElem?_push]
          simp; intro hh; omega
      sep := fun b b' o₁ o₂ i₁ i₂ k1 k2 k3 k4 k5 k6 => by
        rw [hget] at k1 k2
        unfold Mu.upd at k3 k4
        by_cases e1 : b = e <;> by_cases e2 : b' = e
        · rw [e1, e2]
        · simp only [e1, e2, if_true, if_false] at k2 k3 k4
          cases k3
          have := hR.inb k2 k4
          omega
        · simp only [e1, e2, if_true, if_false] at k1 k3 k4
          cases k4
          have := hR.inb k1 k3
          omega
        · simp only [e1, e2, if_false] at k1 k2 k3 k4
          exact hR.sep b b' o₁ o₂ i₁ i₂ k1 k2 k3 k4 k5 k6
      fresh := fun b j hj => by
        unfold Mu.upd at hj
        rw [hn]
        split at hj
        · omega
        · exact hR.fresh b j hj }
    keep := fun c hc hw => by
      rw [h4, Array.getElem?_push, ← h.keep c hc hw]
      have := h.size
      simp; intro hh; omega
    ws := fun c hc => by
      obtain ⟨b, o', j, k1, k2, k3, k4⟩ := hc
      rw [hget] at k1
      unfold Mu.upd at k2
      by_cases he : b = e
      · simp only [he, if_true] at k2
        cases k2
        have := h.size
        exact .inr (by omega)
      · simp only [he, if_false] at k1 k2
        exact h.ws c ⟨b, o', j, k1, k2, k3, k4⟩
    us := fun c hc => by
      obtain ⟨b, o', j, k1, k2, k4⟩ := hc
      rw [hget] at k1
      unfold Mu.upd at k2
      by_cases he : b = e
      · simp only [he, if_true] at k2
        cases k2
        have := h.size
        exact .inr (by omega)
      · simp only [he, if_false] at k1 k2
        exact h.us c ⟨b, o', j, k1, k2, k4⟩
    mnew := fun b hb hlt => by
      unfold Mu.upd
      rw [if_neg (by omega)]
      exact h.mnew b hb hlt
    dom := fun b hb => by
      rw [hget] at hb
      by_cases he2 : b = e
      · exact .inr (by omega)
      · simp only [he2, if_false] at hb
        exact h.dom b hb
    nx := by rw [hn]; exact h.nx
    size := by rw [h4, Array.size_push]; have := h.size; omega
    os := h5.trans h.os
    out := h6.trans h.out
    tape := h7.trans h.tape }

/-! ## An operation looks at its operands alone -/

/-- Two rows of slots agree where an operation looks. -/
def AOp.Same (tm tm' : Tm) (op : AOp) : Prop := ∀ x ∈ op.xs, x.ev tm = x.ev tm'

theorem fillX_congr : ∀ (ps : List (Nat × Nat × AX)) (cs : List AV), (∀ x ∈ ps.map (·.2.2), x.ev tm = x.ev tm') → fillX tm cs ps = fillX tm' cs ps
  | [], _, _ => rfl
  | (off, sz, x) :: r, cs, h => by
    have hx : x.ev tm = x.ev tm' := h x (by simp)
    simp only [fillX, hx]
    split
    · split
      · exact fillX_congr r _ fun y hy => h y (by simp only [List.map_cons, List.mem_cons]; exact .inr hy)
      · rfl
    · rfl

theorem map_ev_congr {l : List AX} (h : ∀ x ∈ l, x.ev tm = x.ev tm') : l.map (AX.ev tm) = l.map (AX.ev tm') := List.map_congr_left h

theorem omap_ev_congr {l : Option AX} (h : ∀ x ∈ l.toList, x.ev tm = x.ev tm') : l.map (AX.ev tm) = l.map (AX.ev tm') := by
  cases l with
  | none => rfl
  | some x => simp [h x (by simp)]

theorem acallee_congr {op : AOp} (h : op.Same tm tm') : acallee tm op = acallee tm' op := by
  cases op <;> try rfl
  case call f args => simp only [acallee]; rw [map_ev_congr (l := args) fun x hx => h x hx]
  case callV x args =>
    simp only [acallee]
    rw [map_ev_congr (l := args) fun y hy => h y (by simp [AOp.xs, hy]), h x (by simp [AOp.xs])]
  case inv tbl x args =>
    simp only [acallee]
    rw [map_ev_congr (l := args) fun y hy => h y (by simp [AOp.xs, hy]), h x (by simp [AOp.xs])]

theorem aalloc_congr {op : AOp} (h : op.Same tm tm') : aalloc tm op = aalloc tm' op := by
  cases op <;> try rfl
  case box x esz => simp only [aalloc]; rw [h x (by simp [AOp.xs])]
  case buildSl z len esz ps => simp only [aalloc]; rw [fillX_congr ps z fun x hx => h x hx]
  case s2b x => simp only [aalloc]; rw [h x (by simp [AOp.xs])]
  case mkS z esz bytes l c => simp only [aalloc]; rw [h l (by simp [AOp.xs]), h c (by simp [AOp.xs])]

theorem aop_congr {op : AOp} (h : op.Same tm tm') (s : AS) : aop tm s op = aop tm' s op := by
  cases op <;> try rfl
  case build z ps => simp only [aop]; rw [fillX_congr ps z fun x hx => h x hx]
  case mkF fn f c =>
    simp only [aop]
    rw [map_ev_congr (l := f) fun y hy => h y (by simp [AOp.xs, hy]), map_ev_congr (l := c) fun y hy => h y (by simp [AOp.xs, hy])]
  case slS x lo hi =>
    simp only [aop]
    rw [h x (by simp [AOp.xs]), omap_ev_congr (l := lo) fun y hy => h y (by simp only [AOp.xs, List.mem_cons, List.mem_append]; exact .inr (.inl hy)), omap_ev_congr (l := hi) fun y hy => h y (by simp only [AOp.xs, List.mem_cons, List.mem_append]; exact .inr (.inr hy))]
  case slV esz x lo hi mx =>
    simp only [aop]
    rw [h x (by simp [AOp.xs]), omap_ev_congr (l := lo) fun y hy => h y (by simp only [AOp.xs, List.mem_cons, List.mem_append]; exact .inr (.inl (.inl hy))), omap_ev_congr (l := hi) fun y hy => h y (by simp only [AOp.xs, List.mem_cons, List.mem_append]; exact .inr (.inl (.inr hy))),
      omap_ev_congr (l := mx) fun y hy => h y (by simp only [AOp.xs, List.mem_cons, List.mem_append]; exact .inr (.inr hy))]
  case slA n esz x lo hi mx =>
    simp only [aop]
    rw [h x (by simp [AOp.xs]), omap_ev_congr (l := lo) fun y hy => h y (by simp only [AOp.xs, List.mem_cons, List.mem_append]; exact .inr (.inl (.inl hy))), omap_ev_congr (l := hi) fun y hy => h y (by simp only [AOp.xs, List.mem_cons, List.mem_append]; exact .inr (.inl (.inr hy))),
      omap_ev_congr (l := mx) fun y hy => h y (by simp only [AOp.xs, List.mem_cons, List.mem_append]; exact .inr (.inr hy))]
  case mnmx mx x xs =>
    simp only [aop]
    rw [map_ev_congr (l := xs) fun y hy => h y (by simp [AOp.xs, hy]), h x (by simp [AOp.xs])]
  case mov x => simp only [aop]; rw [h x (by simp [AOp.xs])]
  case pick c x y => simp only [aop]; rw [h c (by simp [AOp.xs]), h x (by simp [AOp.xs]), h y (by simp [AOp.xs])]
  case load g n x => simp only [aop]; rw [h x (by simp [AOp.xs])]
  case store n x y => simp only [aop]; rw [h x (by simp [AOp.xs]), h y (by simp [AOp.xs])]
  case nilck x => simp only [aop]; rw [h x (by simp [AOp.xs])]
  case nilckM nm tbl x => simp only [aop]; rw [h x (by simp [AOp.xs])]
  case ibin op x y => simp only [aop]; rw [h x (by simp [AOp.xs]), h y (by simp [AOp.xs])]
  case sbin op x y => simp only [aop]; rw [h x (by simp [AOp.xs]), h y (by simp [AOp.xs])]
  case bbin n x y => simp only [aop]; rw [h x (by simp [AOp.xs]), h y (by simp [AOp.xs])]
  case nileq k n x y => simp only [aop]; rw [h x (by simp [AOp.xs]), h y (by simp [AOp.xs])]
  case aggeq n ks x y => simp only [aop]; rw [h x (by simp [AOp.xs]), h y (by simp [AOp.xs])]
  case un op x => simp only [aop]; rw [h x (by simp [AOp.xs])]
  case conv k x => simp only [aop]; rw [h x (by simp [AOp.xs])]
  case smov x => simp only [aop]; rw [h x (by simp [AOp.xs])]
  case b2s x => simp only [aop]; rw [h x (by simp [AOp.xs])]
  case mkI t x => simp only [aop]; rw [h x (by simp [AOp.xs])]
  case fadr o x => simp only [aop]; rw [h x (by simp [AOp.xs])]
  case fld g o n x => simp only [aop]; rw [h x (by simp [AOp.xs])]
  case iadrA n e x i => simp only [aop]; rw [h x (by simp [AOp.xs]), h i (by simp [AOp.xs])]
  case iadrS e x i => simp only [aop]; rw [h x (by simp [AOp.xs]), h i (by simp [AOp.xs])]
  case ixA n g e x i => simp only [aop]; rw [h x (by simp [AOp.xs]), h i (by simp [AOp.xs])]
  case ixS x i => simp only [aop]; rw [h x (by simp [AOp.xs]), h i (by simp [AOp.xs])]
  case look kk z ok m k => simp only [aop]; rw [h m (by simp [AOp.xs]), h k (by simp [AOp.xs])]
  case mupd kk m k v => simp only [aop]; rw [h m (by simp [AOp.xs]), h k (by simp [AOp.xs]), h v (by simp [AOp.xs])]
  case extr x i => simp only [aop]; rw [h x (by simp [AOp.xs])]
  case len k x => simp only [aop]; rw [h x (by simp [AOp.xs])]
  case cap x => simp only [aop]; rw [h x (by simp [AOp.xs])]
  case app e b x y => simp only [aop]; rw [h x (by simp [AOp.xs]), h y (by simp [AOp.xs])]
  case copy e x y => simp only [aop]; rw [h x (by simp [AOp.xs]), h y (by simp [AOp.xs])]
  case clrM m => simp only [aop]; rw [h m (by simp [AOp.xs])]
  case clrS z x => simp only [aop]; rw [h x (by simp [AOp.xs])]
  case del kk m k => simp only [aop]; rw [h m (by simp [AOp.xs]), h k (by simp [AOp.xs])]
  case usd x => simp only [aop]; rw [h x (by simp [AOp.xs])]
  case ustr e p n => simp only [aop]; rw [h p (by simp [AOp.xs]), h n (by simp [AOp.xs])]

theorem aoper_congr {call : ACall} {op : AOp} (h : op.Same tm tm') (s : AS) : aoper call tm s op = aoper call tm' s op := by
  unfold aoper
  rw [acallee_congr h, aalloc_congr h, aop_congr h]

/-- What is no write leaves the heap; what reads nothing, answers alike in each heap. -/
theorem aop_keeps {op : AOp} (hk : op.kind ≠ .write) {s s' : AS} {v : AV} (h : aop tm s op = some (v, s')) : s' = s := by
  cases op <;> simp only [AOp.kind, ne_eq, reduceCtorEq, not_false_eq_true, not_true_eq_false] at hk <;> simp only [aop] at h <;>
  · repeat' (split at h)
    all_goals first
      | (cases h; done)
      | (cases h; rfl)
      | (simp only [Option.map_eq_some_iff, Prod.mk.injEq] at h; obtain ⟨_, _, _, rfl⟩ := h; rfl)
      | (simp only [Option.bind_eq_some_iff, Option.map_eq_some_iff, Prod.mk.injEq] at h; obtain ⟨_, _, _, _, _, rfl⟩ := h; rfl)

theorem aop_pure {op : AOp} (hk : op.kind = .pure) {s : AS} {v : AV} (h : aop tm s op = some (v, s)) (s' : AS) : aop tm s' op = some (v, s') := by
  have hk1 : (aop tm s op).map (·.1) = (aop tm s' op).map (·.1) := by
    cases op <;> simp only [AOp.kind, reduceCtorEq] at hk <;> simp only [aop] <;>
    · repeat' split
      all_goals first
        | rfl
        | (simp only [Option.map_map]; rfl)
  rw [h] at hk1
  cases h2 : aop tm s' op with
  | none => rw [h2] at hk1; cases hk1
  | some r =>
    obtain ⟨v', s''⟩ := r
    rw [h2] at hk1
    simp only [Option.map_some, Option.some.injEq] at hk1
    subst hk1
    have := aop_keeps (by rw [hk]; simp) h2
    rw [this]

end
end Go.Ai
