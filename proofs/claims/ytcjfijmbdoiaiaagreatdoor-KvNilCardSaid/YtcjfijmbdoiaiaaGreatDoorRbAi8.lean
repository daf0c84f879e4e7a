/- The abstract interpreter's operations are the model's: slices, indexes, lengths, capacities. -/
import Derived.Test.YtcjfijmbdoiaiaaGreatDoorRbAi7
set_option linter.unusedSimpArgs false
set_option linter.unusedVariables false
namespace Go.Ai

section
variable {P : Program} {μ : Mu} {s : AS} {w : World} {tm : Tm} {a : Act} {o : Oper}

theorem ok_buildSl (hg : GOK P μ) (hT : TR μ tm a.tmps) (w : World) {t e : TypeId} {len : Nat} {ps : Array (Nat × Operand)} (ho : o.op = .buildSlice t len ps) (hu : P.underlying t = some (.slice e))
    {i : TypeInfo} (hi : P.info? e = some i) {z : List AV} (hz : tzero P e = some z) (h1 : 1 ≤ i.size) (h2 : len * i.size ≤ 16777216) (h3 : z.length = i.size) {aps : List (Nat × Nat × AX)}
    (hps : cparts P (fun j => some (j * i.size, i.size)) ps.toList = some aps) {cs : List AV} (hcs : fillX tm (repX z len) aps = some cs) :
    GoodA μ w ((execOp a.eval o).run P w) (.cells cs i.size true false none) (fun e => .slice (some (e, 0)) len len) := by
  obtain ⟨i', zv, hi', hzv, hzs⟩ := tzero_some hz
  rw [hi] at hi'; cases hi'
  have hzl := (hzs μ).length
  rw [Array.length_toList, h3] at hzl
  have hrep : ∀ n, repX z n = (List.range (n * i.size)).map fun j => z.getD (j % i.size) AV.undef := by
    intro n
    induction n with
    | zero => simp [repX]
    | succ n ih =>
      rw [repX, ih]
      apply List.ext_getElem?
      intro j
      by_cases c1 : j < i.size
      · rw [List.getElem?_append_left (by omega), List.getElem?_map, List.getElem?_range (by rw [Nat.add_mul]; omega)]
        simp [Nat.mod_eq_of_lt c1, List.getElem?_eq_getElem (show j < z.length by omega), List.getD]
      · rw [List.getElem?_append_right (by omega), List.getElem?_map, List.getElem?_map, h3]
        by_cases c2 : j - i.size < n * i.size
        · rw [List.getElem?_range c2, List.getElem?_range (by rw [Nat.add_mul]; omega)]
          simp only [Option.map_some]
          congr 2
          rw [Nat.mod_eq_sub_mod (show j ≥ i.size by omega)]
        · rw [List.getElem?_eq_none (by simp; omega), List.getElem?_eq_none (by rw [List.length_range, Nat.add_mul]; omega)]
  have hzz : VRs μ (repX z len) ((Array.range (len * i.size)).map (fun j => zv.cells[j % zv.cells.size]!)).toList := by
    rw [hrep, Array.toList_map, Array.toList_range]
    refine VRs.of_map _ _ _ (fun j _ => ?_)
    have := (hzs μ).getD (j % i.size)
    rw [hzl]
    have hlt : j % i.size < zv.cells.size := by rw [hzl]; exact Nat.mod_lt _ (by omega)
    rw [getElem!_pos zv.cells _ hlt]
    simpa [List.getD, hlt] using this
  obtain ⟨cc', k1, k2⟩ := fill_ok hg hT hps hcs hzz
  have hm : (ps.map fun (x : Nat × Operand) => (x.1, a.eval x.2)).toList = ps.toList.map fun (x : Nat × Operand) => (x.1, a.eval x.2) := by simp
  have hl := k2.length
  obtain ⟨bi, b1, b2, b3, b4, b5, b6, b7, hb⟩ := newCells (μ := μ) (w := w) (w' := w.alloc (.cells cc' e)) (cc := cc') (el := e) (fr := (0, 0)) i.size true rfl (by rw [← hl, Array.length_toList]; exact Nat.le_refl _) (by rw [← hl, List.take_length]; exact k2) (by simp) (hex := fun _ => by rw [← hl, Array.length_toList])
  refine ⟨bi, .slice (some ⟨w.heap.size, 0, none⟩) len len, w.alloc (.cells cc' e), .cells cc' e, ?_, b1, b7, rfl, rfl, rfl, rfl, fun e he => ⟨hb e he, ?vr⟩⟩
  case vr =>
    have hp := VR.slice (μ := μ.upd e bi) e 0 len len len bi (Mu.upd_same _ _ _) (Nat.le_refl _) (.inl rfl)
    rwa [b1, b2] at hp
  simp only [execOp, ho, Instr.buildSlice, Sem.run_bind, run_underlying hu, Result.andThen_ok, run_sizeOf hi, hm]
  rw [if_neg (by simpa using h2)]
  by_cases h0 : len * i.size = 0
  · have hl0 : len = 0 := by
      rcases Nat.mul_eq_zero.1 h0 with h | h
      · exact h
      · omega
    subst hl0
    simp only [Nat.zero_mul, if_true, Sem.run_pure]
    simp only [Nat.zero_mul] at k1
    rw [Array.range_zero', Array.map_empty] at k1
    simp only [Array.range_zero', Array.map_empty, Sem.run_bind, Sem.run_pure, Result.andThen_ok, k1, newRow, run_newObj]
    rfl
  · rw [if_neg h0]
    simp only [Sem.run_bind, run_zeroValue hi hzv, Result.andThen_ok, Sem.run_pure, k1, newRow, run_newObj]
    rfl

theorem ok_conv (hg : GOK P μ) (hT : TR μ tm a.tmps) (hR : Rel μ s w) {src dst : TypeId} {j k : IntKind} {x : Operand} (ho : o.op = .convert src dst x) (hs : P.underlying src = some (.int j)) (hd : P.underlying dst = some (.int k)) {ax : AX} (hx : cx P x = some ax)
    {v : AV} {s' : AS} (h : aop tm s (.conv k ax) = some (v, s')) : Good μ s w ((execOp a.eval o).run P w) v s' := by
  have h1 := cx_ok hg hT hx
  simp only [aop] at h
  split at h
  · rename_i k' n e
    rw [e] at h1
    simp only [Option.some.injEq, Prod.mk.injEq] at h
    obtain ⟨rfl, rfl⟩ := h
    have : (execOp a.eval o).run P w = .ok (.value (.int k (k.wrap n))) w := by simp [execOp, ho, h1.int_inv, convert, run_underlying hs, run_underlying hd, Conv.intToInt]
    rw [this]; exact .value hR (.int _ _)
  · cases h

theorem ok_convStr (hg : GOK P μ) (hT : TR μ tm a.tmps) (hR : Rel μ s w) {src dst : TypeId} {x : Operand} (ho : o.op = .convert src dst x) (hs : P.underlying src = some .string) (hd : P.underlying dst = some .string) {ax : AX} (hx : cx P x = some ax)
    {l : List UInt8} (hl : ax.ev tm = .str l) : Good μ s w ((execOp a.eval o).run P w) (ax.ev tm) s := by
  have h1 := cx_ok hg hT hx
  rw [hl] at h1 ⊢
  obtain ⟨t, ht, hd'⟩ := h1.str_inv
  have : (execOp a.eval o).run P w = .ok (.value (.string t)) w := by simp [execOp, ho, ht, convert, run_underlying hs, run_underlying hd]
  rw [this]; exact .value hR (.str _ _ hd')

theorem ok_s2b (hg : GOK P μ) (hT : TR μ tm a.tmps) (w : World) {src dst e : TypeId} {x : Operand} (ho : o.op = .convert src dst x) (hs : P.underlying src = some .string) (hd : P.underlying dst = some (.slice e)) (he : P.underlying e = some (.int .u8)) {ax : AX} (hx : cx P x = some ax)
    {l : List UInt8} (hl : ax.ev tm = .str l) : GoodA μ w ((execOp a.eval o).run P w) (.cells (l.map fun b => AV.int .u8 b.toNat) 1 false false none) (fun e => .slice (some (e, 0)) l.length l.length) := by
  have h1 := cx_ok hg hT hx
  rw [hl] at h1
  obtain ⟨t, ht, hdt⟩ := h1.str_inv
  have hrun := run_bytes_of_string (P := P) w src dst e t hs hd he
  have hsz := sz_data hdt
  have hge := grownCap_ge w t.size 0 e
  obtain ⟨bi, b1, b2, b3, b4, b5, b6, b7, hb⟩ := newCells (μ := μ) (w := w) (w' := w.drew.alloc (.cells (bytesRow t (grownCap w t.size 0 e)) e ((bytesRow t (grownCap w t.size 0 e)).size, (bytesRow t (grownCap w t.size 0 e)).size + 1)))
    (cs := l.map fun b => AV.int .u8 b.toNat) 1 false rfl (by simp [bytesRow]; rw [← hsz]; show t.size ≤ t.data.size + _; have : t.data.size = t.size := rfl; omega)
    (by
      have : (bytesRow t (grownCap w t.size 0 e)).toList.take (l.map fun b => AV.int .u8 b.toNat).length = l.map fun b => Value.int .u8 b.toNat := by
        unfold bytesRow
        rw [Array.toList_append, List.take_append_of_le_length (by simp; rw [← hsz]; exact Nat.le_refl _), Array.toList_map, hdt, List.take_of_length_le (by simp)]
      rw [this]
      exact VRs.of_map _ _ _ (fun b _ => .int _ _))
    (by intro j hj; omega)
  refine ⟨bi, .slice (some ⟨w.heap.size, 0, none⟩) t.size (grownCap w t.size 0 e), w.drew.alloc (.cells (bytesRow t (grownCap w t.size 0 e)) e ((bytesRow t (grownCap w t.size 0 e)).size, (bytesRow t (grownCap w t.size 0 e)).size + 1)), .cells (bytesRow t (grownCap w t.size 0 e)) e ((bytesRow t (grownCap w t.size 0 e)).size, (bytesRow t (grownCap w t.size 0 e)).size + 1), ?_, b1, b7, rfl, rfl, rfl, rfl, fun e' he' => ⟨hb e' he', ?_⟩⟩
  · simp only [execOp, ho, ht, Sem.run_bind, hrun, Result.andThen_ok, Sem.run_pure]
  · have hp := VR.slice (μ := μ.upd e' bi) e' 0 l.length l.length (grownCap w t.size 0 e) bi (Mu.upd_same _ _ _) (Nat.le_refl _)
      (.inr ⟨b6, by rw [b5, b3]; simp, by rw [← hsz]; exact hge, by rw [b2, b5, b4]; simp [bytesRow]; have : t.data.size = t.size := rfl; omega⟩)
    rw [b1, b2] at hp
    rw [hsz]
    rwa [hsz] at hp

theorem bytesOf_some : ∀ {l : List AV} {t : List UInt8}, bytesOf l = some t → ∃ ns : List Int, l = ns.map (AV.int .u8) ∧ t = ns.map fun n => UInt8.ofNat n.toNat
  | [], t, h => by simp [bytesOf] at h; exact ⟨[], rfl, h.symm ▸ rfl⟩
  | x :: l, t, h => by
    unfold bytesOf at h
    split at h
    · rename_i he; cases he
    · rename_i n l' he
      cases he
      simp only [Option.map_eq_some_iff] at h
      obtain ⟨t', ht', rfl⟩ := h
      obtain ⟨ns, rfl, rfl⟩ := bytesOf_some ht'
      exact ⟨n :: ns, rfl, rfl⟩
    · cases h

theorem VRs.ints {k : IntKind} {ns : List Int} {l' : List Value} (h : VRs μ (ns.map (AV.int k)) l') : l' = ns.map (Value.int k) := by
  induction ns generalizing l' with
  | nil => cases h; rfl
  | cons n ns ih => cases h with | cons _ _ _ _ hv hl => rw [hv.int_inv, ih hl]; rfl

theorem foldl_push (ns : List Int) : ∀ r : ByteArray, (ns.foldl (fun r n => r.push (UInt8.ofNat n.toNat)) r).data.toList = r.data.toList ++ ns.map fun n => UInt8.ofNat n.toNat := by
  induction ns with
  | nil => intro r; simp
  | cons n ns ih => intro r; rw [List.foldl_cons, ih]; simp [ByteArray.push]

theorem VR.slice_inv {b f l c : Nat} {v : Value} (h : VR μ (.slice (some (b, f)) l c) v) :
    ∃ i, μ b = some i ∧ l ≤ c ∧ ((∃ c', v = .slice (some ⟨i.blk, i.del + f, none⟩) l c' ∧ CapOK i f c c') ∨ (l = 0 ∧ c = 0 ∧ ∃ f', v = .slice (some ⟨i.blk, f', none⟩) 0 0)) := by
  cases h with
  | slice _ _ _ _ c' i h hl hc => exact ⟨i, h, hl, .inl ⟨c', rfl, hc⟩⟩
  | slice0 _ _ f' i h => exact ⟨i, h, Nat.le_refl _, .inr ⟨rfl, rfl, f', rfl⟩⟩

theorem VR.nilslice_inv {l c : Nat} {v : Value} (h : VR μ (.slice none l c) v) : l = 0 ∧ c = 0 ∧ v = .slice none 0 0 := by cases h; exact ⟨rfl, rfl, rfl⟩

theorem ok_b2s (hg : GOK P μ) (hT : TR μ tm a.tmps) (hR : Rel μ s w) {src dst e : TypeId} {x : Operand} (ho : o.op = .convert src dst x) (hs : P.underlying src = some (.slice e)) (hd : P.underlying dst = some .string) (he : P.underlying e = some (.int .u8)) {ax : AX} (hx : cx P x = some ax)
    {v : AV} {s' : AS} (h : aop tm s (.b2s ax) = some (v, s')) : Good μ s w ((execOp a.eval o).run P w) v s' := by
  have h1 := cx_ok hg hT hx
  simp only [aop] at h
  split at h
  · rename_i l c hl
    rw [hl] at h1
    obtain ⟨rfl, rfl, hv⟩ := h1.nilslice_inv
    simp only [Option.some.injEq, Prod.mk.injEq] at h
    obtain ⟨rfl, rfl⟩ := h
    have : (execOp a.eval o).run P w = .ok (.value (.string .empty)) w := by
      simp only [execOp, ho, hv, Sem.run_bind, run_convert_bytes_string w src dst e none 0 0 hs he hd, Conv.bytesToString, Sem.run_pure, Result.andThen_ok]
    rw [this]; exact .value hR (.str _ _ rfl)
  · rename_i b f l c hl
    rw [hl] at h1
    simp only [Option.bind_eq_some_iff, Option.map_eq_some_iff, Prod.mk.injEq] at h
    obtain ⟨cs, hcs, t, ht, rfl, rfl⟩ := h
    obtain ⟨i, hi, hlc, hcase⟩ := h1.slice_inv
    obtain ⟨hlen, cs', hvs, hc⟩ := hR.loads hcs hi
    obtain ⟨ns, rfl, rfl⟩ := bytesOf_some ht
    have hcs' := hvs.ints
    subst hcs'
    have main : ∀ (ad : Addr) (c' : Nat), a.eval x = .slice (some ad) l c' → (loadCells ad l).run P w = .ok (ns.map (Value.int .u8)).toArray w → Good μ s w ((execOp a.eval o).run P w) (.str (ns.map fun n => UInt8.ofNat n.toNat)) s := by
      intro ad c' hv hload
      have hb := run_bytesToString (P := P) w ad l c' ns hload
      have : (execOp a.eval o).run P w = .ok (.value (.string (ns.foldl (fun r n => r.push (UInt8.ofNat n.toNat)) ByteArray.empty))) w := by
        simp only [execOp, ho, hv, Sem.run_bind, run_convert_bytes_string w src dst e (some ad) l c' hs he hd, hb, Sem.run_pure, Result.andThen_ok]
      rw [this]
      exact .value hR (.str _ _ (by rw [foldl_push]; rfl))
    rcases hcase with ⟨c', hv, _⟩ | ⟨rfl, rfl, f', hv⟩
    · refine main _ _ hv ?_
      have := run_loadCells_list (P := P) w ⟨i.blk, i.del + f, none⟩ (ns.map (Value.int .u8)) (fun j v hj => by rw [Addr.add_lit]; exact hc j v hj)
      rwa [show (ns.map (Value.int .u8)).length = l by simpa using hlen] at this
    · refine main _ _ hv ?_
      have : ns = [] := by simpa using hlen
      subst this
      rfl
  · cases h

end
end Go.Ai
