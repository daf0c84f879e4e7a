/- The abstract interpreter's operations are the model's: append, copy, make, min and max. -/
import Derived.Test.YtcjfijmbdoiaiaaGreatDoorRbAi10
import Derived.IntWalk
import Derived.Laws.AppendOwn
import Derived.Deep.Upon
set_option linter.unusedSimpArgs false
set_option linter.unusedVariables false
namespace Go.Ai

section
variable {P : Program} {μ : Mu} {s : AS} {w : World} {tm : Tm} {a : Act} {o : Oper}

/-- What is appended, as the model's laws ask for it. -/
theorem src_ok (hR : Rel μ s w) {tx : TypeId} (hk : (∃ e', P.underlying tx = some (.slice e')) ∨ P.underlying tx = some .string) {x : AV} {xv : Value} (hx : VR μ x xv) {n esz : Nat} {news : List AV} (h1 : srcLen x = some n)
    (h2 : srcCells s esz n x = some news) (h3 : (news.length == n * esz && news.all AV.one) = true) : ∃ news' : List Value, VRs μ news news' ∧ Src P esz tx xv n news' w := by
  simp only [Bool.and_eq_true, beq_iff_eq] at h3
  obtain ⟨h3, h4⟩ := h3
  unfold srcLen at h1
  split at h1
  · rename_i ba l c
    simp only [Option.some.injEq] at h1; subst h1
    cases ba with
    | none =>
      obtain ⟨rfl, rfl, rfl⟩ := hx.nilslice_inv
      simp only [srcCells, Option.some.injEq] at h2; subst h2
      exact ⟨[], .nil, hk, fun _ => rfl, run_firstCells_none w esz 0 0 0, run_firstCells_none w.drew esz 0 0 0, by simp, fun _ h => by cases h⟩
    | some bf =>
      obtain ⟨b, f⟩ := bf
      obtain ⟨i, hi, hlc, hcase⟩ := hx.slice_inv
      simp only [srcCells] at h2
      obtain ⟨e1, news', e2, e3⟩ := hR.loads h2 hi
      have hl := e2.length
      rcases hcase with ⟨c', rfl, _⟩ | ⟨rfl, rfl, f', rfl⟩
      · exact ⟨news', e2, hk, fun _ => rfl, run_firstCells_some w esz l _ l c' news' (by omega) (fun j v hj => by rw [Addr.add_lit]; exact e3 j v hj),
          run_firstCells_some w.drew esz l _ l c' news' (by omega) (fun j v hj => by rw [Addr.add_lit]; simpa using e3 j v hj), by omega, e2.one h4⟩
      · have : news' = [] := List.eq_nil_of_length_eq_zero (by simp at h3; omega)
        subst this
        exact ⟨[], e2, hk, fun _ => rfl, run_firstCells_some w esz 0 _ 0 0 [] (by simp) (fun j v hj => by simp at hj), run_firstCells_some w.drew esz 0 _ 0 0 [] (by simp) (fun j v hj => by simp at hj), by simp, fun _ h => by cases h⟩
  · rename_i t
    simp only [Option.some.injEq] at h1; subst h1
    obtain ⟨bs, rfl, hd⟩ := hx.str_inv
    simp only [srcCells] at h2
    split at h2
    · rename_i he
      subst he
      simp only [Option.some.injEq] at h2; subst h2
      have hsz := sz_data hd
      have hb : byteCells bs = t.map fun b => Value.int .u8 b.toNat := by unfold byteCells; rw [hd]
      refine ⟨byteCells bs, ?_, hk, fun _ => by rw [← hsz]; rfl, by rw [← hsz]; exact firstCells_string bs w, by rw [← hsz]; exact firstCells_string bs w.drew, by rw [byteCells_length, hsz, Nat.mul_one], fun u hu => ?_⟩
      · rw [hb, List.take_length]; exact VRs.of_map _ _ _ (fun b _ => .int _ _)
      · obtain ⟨_, _, rfl⟩ := List.mem_map.1 hu; rfl
    · cases h2
  · cases h1

/-- An append in the spare room of a block that nobody else looks at any more. -/
theorem Stp.grown (hR : Rel μ s w) {b : Nat} {i : BI} {cs : List AV} {esz : Nat} {elo el' : Option TypeId} (hg : s.get b = some (.cells cs esz false false elo)) (hel : el' = none ∨ el' = elo) (hi : μ b = some i) {f len : Nat} {olds news : List AV} {news' : List Value}
    (h1 : olds = (cs.drop f).take (len * esz)) (h2 : len * esz ≤ (cs.drop f).length) (hn : VRs μ news news') (hfit : i.del + f + len * esz + news.length ≤ i.csz) :
    Stp μ s w (μ.upd s.nx ⟨i.blk, i.del + f, (olds ++ news).length, i.csz, esz, false, false⟩) ((s.kill b).new (.cells (olds ++ news) esz false false el')) (w.setCells i.blk (i.del + f + len * esz) news') := by
  obtain ⟨i', hi', b1, b2, b3, b4, cc, el, fr, b5, b6, b7, b8, b9⟩ := hR.blk b _ hg
  rw [hi] at hi'; cases hi'
  have hnl := hn.length
  obtain ⟨q1, q2, q3, q4⟩ := setCells_rest i.blk news' (i.del + f + len * esz) w
  have hheap := setCells_heap i.blk news' (i.del + f + len * esz) w cc el fr b5 (by omega)
  have hoth := fun c hc => setCells_other i.blk news' (i.del + f + len * esz) w c hc
  have hle := Mu.le_upd (μ := μ) ⟨i.blk, i.del + f, (olds ++ news).length, i.csz, esz, false, false⟩ hR.none_nx
  have hbn : b ≠ s.nx := fun h => Nat.lt_irrefl _ (h ▸ hR.fresh b i hi)
  have hget : ∀ c o', ((s.kill b).new (.cells (olds ++ news) esz false false el')).get c = some o' → (c = s.nx ∧ o' = .cells (olds ++ news) esz false false el') ∨ (c ≠ s.nx ∧ c ≠ b ∧ s.get c = some o') := by
    intro c o' hc
    rw [AS.get_new] at hc
    by_cases e : c = s.nx
    · rw [if_pos (by rw [e]; rfl)] at hc
      exact .inl ⟨e, (Option.some.inj hc).symm⟩
    · rw [if_neg (by exact e), AS.get_kill] at hc
      by_cases e2 : c = b
      · rw [if_pos e2] at hc; cases hc
      · rw [if_neg e2] at hc; exact .inr ⟨e, e2, hc⟩
  have hblk : ∀ c o' j, c ≠ b → s.get c = some o' → μ c = some j → j.blk ≠ i.blk := fun c o' j hcb hc hj he =>
    hcb (hR.sep b c _ o' i j hg hc hi hj he.symm b4).symm
  refine ⟨hle, ⟨?_, ?_, ?_⟩, ?_, ?_, ?_, ?_, ?_, ?_, ?_, q2, q3, q4⟩
  · intro c o' hc
    rcases hget c o' hc with ⟨rfl, rfl⟩ | ⟨e1, e2, e3⟩
    · refine ⟨_, Mu.upd_same _ _ _, rfl, rfl, rfl, rfl, _, el, fr, hheap, ?_, ?_, ?_, ?_⟩
      · simp; omega
      · subst h1; simp at h2 ⊢; omega
      · refine (VRs.of_get (μ := μ) ?_ ?_).mono hle
        · subst h1; simp at h2 ⊢; omega
        · intro n v v' k1 k2
          have hol : olds.length = len * esz := by rw [h1, List.length_take]; omega
          rw [List.getElem?_take] at k2
          split at k2
          · rename_i hnn
            rw [List.getElem?_drop] at k2
            dsimp only at k2
            simp only [List.length_append] at hnn
            simp at h2
            by_cases c1 : n < len * esz
            · rw [List.getElem?_append_left (by omega), h1, List.getElem?_take, if_pos c1, List.getElem?_drop] at k1
              rw [List.append_assoc, List.getElem?_append_left (by simp; omega), List.getElem?_take, if_pos (by omega)] at k2
              obtain ⟨u', k3, k4⟩ := b8.get k1
              rw [List.getElem?_take, if_pos (by omega), List.getElem?_drop, ← Nat.add_assoc] at k3
              rw [k2] at k3; cases k3; exact k4
            · rw [List.getElem?_append_right (by omega), hol] at k1
              rw [List.append_assoc, List.getElem?_append_right (by simp; omega), List.getElem?_append_left (by simp; omega)] at k2
              simp only [List.length_take, Array.length_toList] at k2
              rw [show i.del + f + n - min (i.del + f + len * esz) cc.size = n - len * esz by omega] at k2
              obtain ⟨u', k3, k4⟩ := hn.get k1
              rw [k2] at k3; cases k3; exact k4
          · cases k2
      · refine ⟨fun _ j hj => b9.1 rfl j (by simp at hj; omega), fun t ht => b9.2.1 t ?_, fun h => by cases h⟩
        rcases hel with h | h
        · rw [h] at ht; cases ht
        · rw [← h]; exact ht
    · obtain ⟨j, k1, k2⟩ := hR.blk c o' e3
      exact ⟨j, hle c j k1, (k2.mono hle).of_heap (hoth _ (hblk c o' j e2 e3 k1))⟩
  · intro c c' o₁ o₂ i₁ i₂ k1 k2 k3 k4 k5 k6
    rcases hget c o₁ k1 with ⟨rfl, _⟩ | ⟨e1, e2, e3⟩ <;> rcases hget c' o₂ k2 with ⟨rfl, _⟩ | ⟨f1, f2, f3⟩
    · rfl
    · rw [Mu.upd_same] at k3; cases k3
      simp only [Mu.upd, f1, if_false] at k4
      exact absurd k5.symm (hblk c' o₂ i₂ f2 f3 k4)
    · rw [Mu.upd_same] at k4; cases k4
      simp only [Mu.upd, e1, if_false] at k3
      exact absurd k5 (hblk c o₁ i₁ e2 e3 k3)
    · simp only [Mu.upd, e1, f1, if_false] at k3 k4
      exact hR.sep c c' o₁ o₂ i₁ i₂ e3 f3 k3 k4 k5 k6
  · intro c j hj
    show c < s.nx + 1
    unfold Mu.upd at hj
    split at hj
    · omega
    · have := hR.fresh c j hj; omega
  · intro c hc hnw
    exact hoth c fun he => hnw ⟨b, _, i, hg, hi, b4, he.symm⟩
  · intro c hc
    obtain ⟨d, o', j, k1, k2, k3, k4⟩ := hc
    rcases hget d o' k1 with ⟨rfl, _⟩ | ⟨e1, e2, e3⟩
    · rw [Mu.upd_same] at k2; cases k2
      exact .inl ⟨b, _, i, hg, hi, b4, k4⟩
    · simp only [Mu.upd, e1, if_false] at k2
      exact .inl ⟨d, o', j, e3, k2, k3, k4⟩
  · intro c hc
    obtain ⟨d, o', j, k1, k2, k4⟩ := hc
    rcases hget d o' k1 with ⟨rfl, _⟩ | ⟨e1, e2, e3⟩
    · rw [Mu.upd_same] at k2; cases k2
      exact .inl ⟨b, _, i, hg, hi, k4⟩
    · simp only [Mu.upd, e1, if_false] at k2
      exact .inl ⟨d, o', j, e3, k2, k4⟩
  · intro c hc hn
    unfold Mu.upd
    rw [if_neg (by omega)]; exact hc
  · intro c hc
    cases ho : ((s.kill b).new (.cells (olds ++ news) esz false false el')).get c with
    | none => exact absurd ho hc
    | some o' =>
      rcases hget c o' ho with ⟨rfl, _⟩ | ⟨e1, e2, e3⟩
      · exact .inr (Nat.le_refl _)
      · exact .inl (by rw [e3]; simp)
  · exact Nat.le_succ _
  · exact Nat.le_of_eq q1.symm

theorem append_run {c : Call} {x y : Operand} (ho : o.op = .call c) (hc : c.callee = .builtin .append) (ha : c.args = #[x, y]) {t tx : TypeId} (hty : c.argTypes = #[t, tx]) {xv : Value} (hv : a.eval x = xv) {R : Result Value}
    (hr : (Builtin.append_ #[t, tx] o.type #[xv, a.eval y]).run P w = R) : (execOp a.eval o).run P w = R.andThen fun v w' => .ok (.value v) w' := by
  subst hv
  simp [execOp, ho, resolve, hc, invoke, builtin, ha, hty, hr]

theorem ok_app (hg : GOK P μ) (hT : TR μ tm a.tmps) (hR : Rel μ s w) {c : Call} {x y : Operand} (ho : o.op = .call c) (hc : c.callee = .builtin .append) (ha : c.args = #[x, y]) {t tx e : TypeId} (hty : c.argTypes = #[t, tx])
    (hu : P.underlying t = some (.slice e)) (hk : (∃ e', P.underlying tx = some (.slice e')) ∨ P.underlying tx = some .string) {i : TypeInfo} (hi : P.info? e = some i) {z : List AV} (hz : tzero P e = some z) (hzl : z.length = i.size)
    {ax ay : AX} (hx : cx P x = some ax) (hy : cx P y = some ay) {v : AV} {s' : AS} (h : aop tm s (.app i.size i.bytes e ax ay) = some (v, s')) : Good μ s w ((execOp a.eval o).run P w) v s' := by
  have hxv := cx_ok hg hT hx
  have hyv := cx_ok hg hT hy
  obtain ⟨i', zv, hi', hzv, hzs⟩ := tzero_some hz
  rw [hi] at hi'; cases hi'
  have hzc : zv.cells.size = i.size := by rw [← hzl, ← (hzs μ).length, Array.length_toList]
  simp only [aop, appX] at h
  split at h
  · rename_i base len cap n ev hsl
    rw [ev] at hxv
    split at h
    · cases h
    · rename_i news hnews
      split at h
      · cases h
      · rename_i hone
        have hone : (news.length == n * i.size && news.all AV.one) = true := by simpa using hone
        obtain ⟨news', hnv, hsrc⟩ := src_ok (P := P) hR hk hyv hsl hnews hone
        have hnl := hnv.length
        have hnl' : news.length = n * i.size := by
          simp only [Bool.and_eq_true, beq_iff_eq] at hone; exact hone.1
        split at h
        · rename_i hroom
          split at h
          · simp only [Option.some.injEq, Prod.mk.injEq] at h
            obtain ⟨rfl, rfl⟩ := h
            obtain ⟨rfl, rfl, hv⟩ := hxv.nilslice_inv
            obtain rfl : n = 0 := by omega
            obtain rfl : news' = [] := List.eq_nil_of_length_eq_zero (by rw [hnl, hnl']; simp)
            have := run_append_nothing (P := P) w t tx o.type e i hu hi none 0 0 (Nat.le_refl 0) (a.eval y) hsrc
            rw [append_run ho hc ha hty hv this]
            exact .value hR .nilslice
          · rename_i b f
            split at h
            · rename_i s1 hs1
              simp only [Option.some.injEq, Prod.mk.injEq] at h
              obtain ⟨rfl, rfl⟩ := h
              obtain ⟨bi, hbi, hlc, hcase⟩ := hxv.slice_inv
              obtain ⟨c1, c2, c3, c4⟩ := hR.stores hs1 hbi hnv
              rcases hcase with ⟨c', hv, hcap⟩ | ⟨rfl, rfl, f', hv⟩
              · have hcc : cap ≤ c' := by rcases hcap with rfl | ⟨_, _, h, _⟩ <;> omega
                have := run_append_room_src (P := P) w t tx o.type e i hu hi bi.blk (bi.del + f) len c' (a.eval y) n news' hsrc (by omega) (by simpa [Nat.add_assoc] using c1) (by simpa [Nat.add_assoc] using c2)
                rw [append_run ho hc ha hty hv this]
                rw [Nat.add_assoc]
                exact ⟨μ, _, _, .inl rfl, .slice b f _ _ _ bi hbi hroom hcap, c4⟩
              · obtain rfl : n = 0 := by omega
                obtain rfl : news' = [] := List.eq_nil_of_length_eq_zero (by rw [hnl, hnl']; simp)
                have := run_append_nothing (P := P) w t tx o.type e i hu hi (some ⟨bi.blk, f', none⟩) 0 0 (Nat.le_refl 0) (a.eval y) hsrc
                rw [append_run ho hc ha hty hv this]
                exact ⟨μ, _, _, .inl rfl, .slice0 b f f' bi hbi, c4⟩
            · cases h
        · rename_i hroom
          split at h
          · rename_i hbig
            have h63 : ((len + n : Nat) : Int) ≤ 9223372036854775807 := by omega
            -- the arm that grows
            have grow : ∀ (bo : Option Addr) (c' : Nat) (olds : List AV) (olds' : List Value), a.eval x = .slice bo len c' → c' < len + n → VRs μ olds olds' → olds.length = len * i.size →
                (Builtin.firstCells i.size len (.slice bo len c')).run P w.drew = .ok olds'.toArray w.drew →
                ∀ (elo : Option TypeId), (∀ t, elo = some t → e = t) → ∀ s₂ : AS, s₂.nx = s.nx → s₂.Sub s → Good μ s w ((execOp a.eval o).run P w) (.slice (some (s.nx, 0)) (len + n) (len + n)) (s₂.new (.cells (olds ++ news) i.size false false elo)) := by
              intro bo c' olds olds' hv hlt hold holl hfc elo helo s₂ hnx hsub
              have hrun := run_append_grow_src (P := P) w t tx o.type e i zv hu hi hzv bo len c' olds' hfc (a.eval y) n news' hsrc hlt h63 (growslice_fits hlt (by omega))
              rw [append_run ho hc ha hty hv hrun]
              have hge := grownCap_ge w (len + n) c' e
              have hR₂ : Rel μ s₂ w := hR.sub hsub (by rw [hnx]; exact Nat.le_refl _)
              have hol' := hold.length
              have hlen : (olds ++ news).length = (len + n) * i.size := by rw [List.length_append, holl, hnl', Nat.add_mul]
              have hlen' : (olds' ++ news').length = (len + n) * i.size := by rw [List.length_append, hol', hnl, ← hlen, List.length_append]
              have hsz : ((olds' ++ news').toArray ++ Builtin.zeroCells zv.cells (grownCap w (len + n) c' e - (len + n))).size = grownCap w (len + n) c' e * i.size := by
                rw [Array.size_append, List.size_toArray, hlen', size_zeroCells, hzc, ← Nat.add_mul]
                congr 1; omega
              obtain ⟨bi, b1, b2, b3, b4, b5, b6, hst⟩ := Stp.newCells hR₂ (w' := w.drew.alloc (.cells ((olds' ++ news').toArray ++ Builtin.zeroCells zv.cells (grownCap w (len + n) c' e - (len + n))) e)) (cs := olds ++ news) i.size false rfl rfl rfl rfl
                (by rw [hsz, hlen]; exact Nat.mul_le_mul_right _ hge)
                (by rw [Array.toList_append, hlen, ← hlen', List.take_append_of_le_length (by simp), List.take_of_length_le (by simp)]; exact hold.append hnv)
                (by simp) elo helo
              have hp := VR.slice (μ := μ.upd s₂.nx bi) s₂.nx 0 (len + n) (len + n) (grownCap w (len + n) c' e) bi (Mu.upd_same _ _ _) (Nat.le_refl _)
                (.inr ⟨b6, by rw [b5, b3, hlen]; simp, hge, by rw [b2, b5, b4, hsz]; simp⟩)
              rw [b1, b2] at hp
              have hst' : Stp μ s w μ s₂ w := {
                ext := .refl μ, rel := hR₂, keep := fun _ _ _ => rfl, ws := fun _ hc => .inl (hc.sub hsub), us := fun _ hc => .inl (hc.sub hsub), mnew := fun _ h _ => h
                dom := fun c hc => by
                  cases hq : s₂.get c with
                  | none => exact absurd hq hc
                  | some q => exact .inl (by rw [hsub c q hq]; simp)
                nx := by rw [hnx]; exact Nat.le_refl _, size := Nat.le_refl _, os := rfl, out := rfl, tape := rfl }
              exact ⟨_, _, _, .inl rfl, hnx ▸ hp, hst'.trans hst⟩
            split at h
            · simp only [Option.some.injEq, Prod.mk.injEq] at h
              obtain ⟨rfl, rfl⟩ := h
              obtain ⟨rfl, rfl, hv⟩ := hxv.nilslice_inv
              exact grow none 0 [] [] hv (by omega) .nil (by simp) (run_firstCells_none w.drew i.size 0 0 0) _ (fun t h => Option.some.inj h) s rfl (fun _ _ h => h)
            · rename_i b f
              obtain ⟨bi, hbi, hlc, hcase⟩ := hxv.slice_inv
              split at h
              · rename_i cs esz' ex ro elo hgb
                obtain ⟨bi', hbi', hb1, hb2, hb3, hb4, _⟩ := hR.blk b _ hgb
                rw [hbi] at hbi'; cases hbi'
                split at h
                · cases h
                · rename_i olds holds
                  obtain ⟨ho1, ho2⟩ := takeX_some holds
                  have hload : s.loads b f (len * i.size) = some olds := by unfold AS.loads; rw [hgb]; exact holds
                  obtain ⟨k1, olds', k2, k3⟩ := hR.loads hload hbi
                  have k2l := k2.length
                  have hfc : ∀ c', (Builtin.firstCells i.size len (.slice (some ⟨bi.blk, bi.del + f, none⟩) len c')).run P w.drew = .ok olds'.toArray w.drew := fun c' =>
                    run_firstCells_some w.drew i.size len _ len c' olds' (by omega) (fun j u hj => by rw [Addr.add_lit]; simpa using k3 j u hj)
                  split at h
                  · rename_i hdef
                    simp only [Option.some.injEq, Prod.mk.injEq] at h
                    obtain ⟨rfl, rfl⟩ := h
                    rcases hcase with ⟨c', hv, hcap⟩ | ⟨rfl, rfl, f', hv⟩
                    · have : c' = cap := by
                        rcases hcap with h | ⟨x1, x2, _, _⟩
                        · exact h
                        · rw [hb3] at x1
                          rw [x1, ← hb2, ← hb1, x2] at hdef
                          simp at hdef
                      subst this
                      exact grow _ c' olds olds' hv (by omega) k2 (by omega) (hfc c') _ (fun t h => Option.some.inj h) s rfl (fun _ _ h => h)
                    · have e0 : olds' = [] := List.eq_nil_of_length_eq_zero (by simp at k1; simp [k2l, k1])
                      subst e0
                      exact grow _ 0 olds [] hv (by omega) k2 (by omega) (run_firstCells_some w.drew i.size 0 _ 0 0 [] (by simp) (fun j u hj => by simp at hj)) _ (fun t h => Option.some.inj h) s rfl (fun _ _ h => h)
                  · rename_i hdef
                    split at h
                    · rename_i hes
                      simp only [Option.some.injEq, Prod.mk.injEq] at h
                      obtain ⟨rfl, rfl⟩ := h
                      simp only [Bool.and_eq_true, beq_iff_eq, Bool.not_eq_true'] at hes
                      obtain ⟨rfl, rfl⟩ := hes
                      simp only [Bool.or_eq_true, Bool.not_eq_true', beq_eq_false_iff_ne, ne_eq, not_or, Decidable.not_not, Bool.not_eq_true] at hdef
                      obtain ⟨rfl, hdef2⟩ := hdef
                      have helo2 : ∀ t, (if elo = some e then elo else none) = some t → e = t := by
                        intro t ht
                        split at ht
                        · rename_i he; rw [he] at ht; exact Option.some.inj ht
                        · cases ht
                      rcases hcase with ⟨c', hv, hcap⟩ | ⟨rfl, rfl, f', hv⟩
                      · by_cases hin : len + n ≤ c'
                        · have hcs : bi.del + f + c' * i.size ≤ bi.csz := by
                            rcases hcap with h | ⟨_, x2, _, x4⟩
                            · omega
                            · rw [hb2] at x4; exact x4
                          have hmul : (len + n) * i.size ≤ c' * i.size := Nat.mul_le_mul_right _ hin
                          rw [Nat.add_mul] at hmul
                          have hst := Stp.grown (el' := if elo = some e then elo else none) hR hgb (by split <;> simp) hbi (f := f) (len := len) (news' := news') ho2 ho1 hnv (by omega)
                          obtain ⟨bi', hbi', _, _, _, _, cc, el, fr, q5, q6, q7, q8, q9⟩ := hR.blk b _ hgb
                          rw [hbi] at hbi'; cases hbi'
                          have := run_append_room_src (P := P) w t tx o.type e i hu hi bi.blk (bi.del + f) len c' (a.eval y) n news' hsrc hin
                            (fun j hj => by simp only [World.cell?, q5]; simp; omega)
                            (fun j hj => by
                              simp only [World.frozen?, q5]
                              have := q9.1 rfl (bi.del + f + len * i.size + j) (by omega)
                              simp only [Bool.and_eq_false_iff, decide_eq_false_iff_not]
                              by_cases h12 : fr.1 ≤ bi.del + f + len * i.size + j
                              · exact .inr (fun h13 => this ⟨h12, h13⟩)
                              · exact .inl h12)
                          rw [append_run ho hc ha hty hv this]
                          have hlen : (olds ++ news).length = (len + n) * i.size := by rw [List.length_append, k1, hnl', Nat.add_mul]
                          exact ⟨_, _, _, .inl rfl, .slice s.nx 0 (len + n) (len + n) c' _ (Mu.upd_same _ _ _) (Nat.le_refl _) (.inr ⟨rfl, by simp [hlen], hin, by simpa using hcs⟩), hst⟩
                        · exact grow _ c' olds olds' hv (by omega) k2 (by omega) (hfc c') _ helo2 (s.kill b) rfl (s.kill_sub b)
                      · have e0 : olds' = [] := List.eq_nil_of_length_eq_zero (by simp at k1; simp [k2l, k1])
                        subst e0
                        exact grow _ 0 olds [] hv (by omega) k2 (by omega) (run_firstCells_some w.drew i.size 0 _ 0 0 [] (by simp) (fun j u hj => by simp at hj)) _ helo2 (s.kill b) rfl (s.kill_sub b)
                    · cases h
              · cases h
          · cases h
  · cases h

end
end Go.Ai
