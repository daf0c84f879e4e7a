/- The abstract interpreter's operations are the model's: copy, make, min and max, maps. -/
import Derived.Test.YtcjfijmbdoiaiaaGreatDoorRbAi11
set_option linter.unusedSimpArgs false
set_option linter.unusedVariables false
namespace Go.Ai

section
variable {P : Program} {μ : Mu} {s : AS} {w : World} {tm : Tm} {a : Act} {o : Oper}

/-- What is copied. -/
theorem srcCells_ok (hR : Rel μ s w) {x : AV} {xv : Value} (hx : VR μ x xv) {n sl esz : Nat} {cs : List AV} (h0 : srcLen x = some sl) (hn : n ≤ sl) (h2 : srcCells s esz n x = some cs) (h3 : cs.length = n * esz) :
    (Builtin.lenOf xv).run P w = .ok sl w ∧ ∃ cs' : List Value, VRs μ cs cs' ∧ (Builtin.firstCells esz n xv).run P w = .ok cs'.toArray w := by
  unfold srcLen at h0
  split at h0
  · rename_i ba l c
    simp only [Option.some.injEq] at h0; subst h0
    cases ba with
    | none =>
      obtain ⟨rfl, rfl, rfl⟩ := hx.nilslice_inv
      simp only [srcCells, Option.some.injEq] at h2; subst h2
      exact ⟨rfl, [], .nil, run_firstCells_none w esz n 0 0⟩
    | some bf =>
      obtain ⟨b, f⟩ := bf
      obtain ⟨i, hi, hlc, hcase⟩ := hx.slice_inv
      simp only [srcCells] at h2
      obtain ⟨e1, cs', e2, e3⟩ := hR.loads h2 hi
      have hl := e2.length
      rcases hcase with ⟨c', rfl, _⟩ | ⟨rfl, rfl, f', rfl⟩
      · exact ⟨rfl, cs', e2, run_firstCells_some w esz n _ l c' cs' (by omega) (fun j v hj => by rw [Addr.add_lit]; exact e3 j v hj)⟩
      · obtain rfl : n = 0 := by omega
        obtain rfl : cs' = [] := List.eq_nil_of_length_eq_zero (by rw [hl, e1]; simp)
        exact ⟨rfl, [], e2, run_firstCells_some w esz 0 _ 0 0 [] (by simp) (fun j v hj => by simp at hj)⟩
  · rename_i t
    simp only [Option.some.injEq] at h0; subst h0
    obtain ⟨bs, rfl, hd⟩ := hx.str_inv
    simp only [srcCells] at h2
    split at h2
    · rename_i he
      subst he
      simp only [Option.some.injEq] at h2; subst h2
      have hsz := sz_data hd
      refine ⟨by rw [← hsz]; rfl, (t.take n).map fun b => Value.int .u8 b.toNat, VRs.of_map _ _ _ (fun b _ => .int _ _), ?_⟩
      simp only [Builtin.firstCells, Sem.run_pure]
      congr 1
      apply Array.ext'
      rw [Array.toList_map, Lib.extract_data, hd]
      simp
    · cases h2
  · cases h0

theorem ok_copy (hg : GOK P μ) (hT : TR μ tm a.tmps) (hR : Rel μ s w) {c : Call} {x y : Operand} (ho : o.op = .call c) (hc : c.callee = .builtin .copy) (ha : c.args = #[x, y]) {t e : TypeId} (hty : c.argTypes[0]? = some t)
    (hu : P.underlying t = some (.slice e)) {i : TypeInfo} (hi : P.info? e = some i)
    {ax ay : AX} (hx : cx P x = some ax) (hy : cx P y = some ay) {v : AV} {s' : AS} (h : aop tm s (.copy i.size ax ay) = some (v, s')) : Good μ s w ((execOp a.eval o).run P w) v s' := by
  have hxv := cx_ok hg hT hx
  have hyv := cx_ok hg hT hy
  simp only [aop] at h
  split at h
  · rename_i base dl dc sl ev hsl
    rw [ev] at hxv
    split at h
    · cases h
    · rename_i cs hcs
      split at h
      · cases h
      · rename_i hlen
        have hlen : cs.length = min sl dl * i.size := by simpa using hlen
        obtain ⟨k1, cs', k2, k3⟩ := srcCells_ok (P := P) hR hyv hsl (Nat.min_le_left _ _) hcs hlen
        have k2l := k2.length
        have run : ∀ (bo : Option Addr) (dc' : Nat) (w' : World), a.eval x = .slice bo dl dc' → (match bo with | some ad => (storeCells ad cs').run P w | none => .ok () w) = .ok () w' →
            (execOp a.eval o).run P w = .ok (.value (.int .i64 ↑(min sl dl))) w' := by
          intro bo dc' w' hv hst
          cases bo with
          | none =>
            simp only at hst
            cases hst
            simp [execOp, ho, resolve, hc, invoke, builtin, ha, Builtin.copy_, hty, hv, run_underlying hu, k1, run_sizeOf hi, k3, goInt]
          | some ad =>
            simp only at hst
            simp [execOp, ho, resolve, hc, invoke, builtin, ha, Builtin.copy_, hty, hv, run_underlying hu, k1, run_sizeOf hi, k3, goInt, hst]
        split at h
        · simp only [Option.some.injEq, Prod.mk.injEq] at h
          obtain ⟨rfl, rfl⟩ := h
          obtain ⟨rfl, rfl, hv⟩ := hxv.nilslice_inv
          rw [run none 0 w hv rfl]
          exact .value hR (.int _ _)
        · rename_i b f
          simp only [Option.map_eq_some_iff, Prod.mk.injEq] at h
          obtain ⟨s1, hs1, rfl, rfl⟩ := h
          obtain ⟨bi, hbi, hlc, hcase⟩ := hxv.slice_inv
          obtain ⟨c1, c2, c3, c4⟩ := hR.stores hs1 hbi k2
          rcases hcase with ⟨c', hv, hcap⟩ | ⟨rfl, rfl, f', hv⟩
          · have hst := run_storeCells_cells (P := P) bi.blk (bi.del + f) cs' 0 w (by simpa using c1) (by simpa using c2) c3
            simp only [Nat.add_zero] at hst
            rw [run _ c' _ hv hst]
            exact ⟨μ, _, _, .inl rfl, .int _ _, c4⟩
          · obtain rfl : cs' = [] := List.eq_nil_of_length_eq_zero (by rw [k2l, hlen]; simp)
            rw [run _ 0 w hv rfl]
            exact ⟨μ, _, _, .inl rfl, .int _ _, c4⟩
  · cases h

theorem repX_rep {z : List AV} {zv : Array Value} {n : Nat} (h : VRs μ z zv.toList) (h1 : 1 ≤ z.length) (m : Nat) (hm : m = n * z.length) :
    VRs μ (repX z n) ((Array.range m).map (fun j => zv[j % zv.size]!)).toList := by
  subst hm
  have hzl := h.length
  rw [Array.length_toList] at hzl
  have hrep : ∀ n, repX z n = (List.range (n * z.length)).map fun j => z.getD (j % z.length) AV.undef := by
    intro n
    induction n with
    | zero => simp [repX]
    | succ n ih =>
      rw [repX, ih]
      apply List.ext_getElem?
      intro j
      by_cases c1 : j < z.length
      · rw [List.getElem?_append_left (by omega), List.getElem?_map, List.getElem?_range (by rw [Nat.add_mul]; omega)]
        simp [Nat.mod_eq_of_lt c1, List.getElem?_eq_getElem c1, List.getD]
      · rw [List.getElem?_append_right (by omega), List.getElem?_map, List.getElem?_map]
        by_cases c2 : j - z.length < n * z.length
        · rw [List.getElem?_range c2, List.getElem?_range (by rw [Nat.add_mul]; omega)]
          simp only [Option.map_some]
          congr 2
          rw [Nat.mod_eq_sub_mod (show j ≥ z.length by omega)]
        · rw [List.getElem?_eq_none (by simp; omega), List.getElem?_eq_none (by rw [List.length_range, Nat.add_mul]; omega)]
  rw [hrep, Array.toList_map, Array.toList_range]
  refine VRs.of_map _ _ _ (fun j _ => ?_)
  have := h.getD (j % z.length)
  rw [hzl]
  have hlt : j % z.length < zv.size := by rw [hzl]; exact Nat.mod_lt _ (by omega)
  rw [getElem!_pos zv _ hlt]
  simpa [List.getD, hlt] using this

theorem ok_mkS (hg : GOK P μ) (hT : TR μ tm a.tmps) (w : World) {t e : TypeId} {x y : Operand} (ho : o.op = .makeSlice t x y) (hu : P.underlying t = some (.slice e)) {i : TypeInfo} (hi : P.info? e = some i) {z : List AV} (hz : tzero P e = some z)
    (h1 : 1 ≤ i.size) (hzl : z.length = i.size) {ax ay : AX} (hx : cx P x = some ax) (hy : cx P y = some ay) {l c : Int} (e1 : ax.ev tm = .int .i64 l) (e2 : ay.ev tm = .int .i64 c) (c1 : 0 ≤ l) (c2 : l ≤ c) (c3 : c * i.bytes ≤ 140737488355328) (c4 : c ≤ 140737488355328) :
    GoodA μ w ((execOp a.eval o).run P w) (.cells (repX z c.toNat) i.size true false none) (fun e => .slice (some (e, 0)) l.toNat c.toNat) := by
  have hxv := cx_ok hg hT hx
  have hyv := cx_ok hg hT hy
  rw [e1] at hxv
  rw [e2] at hyv
  obtain ⟨i', zv, hi', hzv, hzs⟩ := tzero_some hz
  rw [hi] at hi'; cases hi'
  have w1 : IntKind.i64.wrap l = l := IntWalk.i64_in l (by omega)
  have w2 : IntKind.i64.wrap c = c := IntWalk.i64_in c (by omega)
  have hrep := repX_rep (μ := μ) (n := c.toNat) (hzs μ) (by omega) (c.toNat * i.size) (by rw [hzl])
  have hrl := hrep.length
  have hbig : ¬ ((281474976710656 : Int) < (i.bytes : Int) * c) := by
    rw [Int.mul_comm]; omega
  obtain ⟨bi, b1, b2, b3, b4, b5, b6, b7, hb⟩ := newCells (μ := μ) (w := w) (w' := w.alloc (.cells ((Array.range (c.toNat * i.size)).map (fun j => zv.cells[j % zv.cells.size]!)) e))
    (cc := (Array.range (c.toNat * i.size)).map (fun j => zv.cells[j % zv.cells.size]!)) (el := e) (fr := (0, 0)) i.size true rfl
    (by rw [← hrl, Array.length_toList]; exact Nat.le_refl _) (by rw [← hrl, List.take_length]; exact hrep) (by simp) (hex := fun _ => by rw [← hrl, Array.length_toList])
  refine ⟨bi, .slice (some ⟨w.heap.size, 0, none⟩) l.toNat c.toNat, w.alloc (.cells ((Array.range (c.toNat * i.size)).map (fun j => zv.cells[j % zv.cells.size]!)) e), .cells ((Array.range (c.toNat * i.size)).map (fun j => zv.cells[j % zv.cells.size]!)) e, ?_, b1, b7, rfl, rfl, rfl, rfl, fun e' he' => ⟨hb e' he', ?vr⟩⟩
  case vr =>
    have hp := VR.slice (μ := μ.upd e' bi) e' 0 l.toNat c.toNat c.toNat bi (Mu.upd_same _ _ _) (by omega) (.inl rfl)
    rwa [b1, b2] at hp
  simp only [execOp, ho, Instr.makeSlice, Sem.run_bind, run_underlying hu, Result.andThen_ok, asInt, hxv.int_inv, hyv.int_inv, asIntOf, Sem.run_pure, typeInfo, run_program, hi, w1, w2]
  rw [if_neg (by simp; omega)]
  simp only [Sem.run_bind, run_askRoom, Result.andThen_ok, run_sizeOf hi]
  by_cases h0 : c.toNat * i.size = 0
  · rw [if_pos h0, h0, Array.range_zero', Array.map_empty]
    simp only [Sem.run_bind, Sem.run_pure, Result.andThen_ok, Array.map_empty, newRow, run_newObj]
    rfl
  · rw [if_neg h0]
    simp only [Sem.run_bind, run_zeroValue hi hzv, Result.andThen_ok, newRow, run_newObj, Sem.run_pure]
    rfl

theorem mnmx_ok {mx : Bool} {x y v : AV} {xv yv : Value} (hx : VR μ x xv) (hy : VR μ y yv) (h : mnmxX mx x y = some v) (w : World) : ∃ v', ((if mx then Builtin.max2 xv yv else Builtin.min2 xv yv)).run P w = .ok v' w ∧ VR μ v v' := by
  unfold mnmxX at h
  split at h
  · simp only [Option.some.injEq] at h; subst h
    rw [hx.int_inv, hy.int_inv]
    cases mx
    · exact ⟨_, rfl, .int _ _⟩
    · exact ⟨_, rfl, .int _ _⟩
  · rename_i l m
    simp only [Option.some.injEq] at h; subst h
    obtain ⟨p, rfl, hp⟩ := hx.str_inv
    obtain ⟨q, rfl, hq⟩ := hy.str_inv
    have e1 : p.toList = l := by rw [ByteArray.toList_eq, hp]
    have e2 : q.toList = m := by rw [ByteArray.toList_eq, hq]
    cases mx
    · refine ⟨.string (if (Op.bytesLess l m || l == m) = true then p else q), by simp [Builtin.min2, Op.stringOp, asBool, e1, e2], .str _ _ ?_⟩
      simp only [Bool.false_eq_true, if_false]
      split <;> assumption
    · refine ⟨.string (if (!Op.bytesLess l m) = true then p else q), by simp [Builtin.max2, Op.stringOp, asBool, e1, e2], .str _ _ ?_⟩
      simp only [if_true]
      cases Op.bytesLess l m <;> simp [hp, hq]
  · cases h

theorem ok_mnmx (hg : GOK P μ) (hT : TR μ tm a.tmps) (hR : Rel μ s w) {c : Call} (ho : o.op = .call c) {mx : Bool} (hc : c.callee = .builtin (if mx then .max else .min)) {x : AX} {xs : List AX} (hxs : cxs P c.args = some (x :: xs))
    {v : AV} {s' : AS} (h : aop tm s (.mnmx mx x xs) = some (v, s')) : Good μ s w ((execOp a.eval o).run P w) v s' := by
  have hv := cxs_ok hg hT hxs
  simp only [aop, Option.map_eq_some_iff, Prod.mk.injEq] at h
  obtain ⟨u, hu, rfl, rfl⟩ := h
  have fold : ∀ (l : List AV) (l' : List Value) (x : AV) (xv : Value) (u : AV), VRs μ l l' → VR μ x xv → foldX mx x l = some u → ∃ u', (l'.foldlM (if mx then Builtin.max2 else Builtin.min2) xv).run P w = .ok u' w ∧ VR μ u u' := by
    intro l
    induction l with
    | nil =>
      intro l' x xv u hl hx hf
      cases hl
      simp only [foldX, Option.some.injEq] at hf; subst hf
      exact ⟨xv, rfl, hx⟩
    | cons y l ih =>
      intro l' x xv u hl hx hf
      cases hl with
      | cons _ yv _ l'' hy hl =>
        simp only [foldX] at hf
        split at hf
        · rename_i q hq
          obtain ⟨q', e1, e2⟩ := mnmx_ok (P := P) hx hy hq w
          obtain ⟨u', e3, e4⟩ := ih l'' q q' u hl e2 hf
          refine ⟨u', ?_, e4⟩
          have e1' : ((if mx then Builtin.max2 else Builtin.min2) xv yv).run P w = .ok q' w := by cases mx <;> exact e1
          rw [List.foldlM_cons]
          simp only [Sem.run_bind, e1', Result.andThen_ok, e3]
        · cases hf
  generalize hl : (c.args.map a.eval).toList = l' at hv
  cases hv with
  | cons _ xv _ l'' hx' hl' =>
    obtain ⟨u', e1, e2⟩ := fold _ _ _ _ _ hl' hx' hu
    rw [Array.toList_map] at hl
    have : (execOp a.eval o).run P w = .ok (.value u') w := by
      cases mx
      · simp only [Bool.false_eq_true, if_false] at e1 hc
        simp [execOp, ho, resolve, hc, invoke, builtin, Builtin.min_, hl, e1]
      · simp only [if_true] at e1 hc
        simp [execOp, ho, resolve, hc, invoke, builtin, Builtin.max_, hl, e1]
    rw [this]; exact .value hR e2

end
end Go.Ai
