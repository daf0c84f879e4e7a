/- The abstract interpreter's operations are the model's: loads, stores, new blocks, addresses, parts. -/
import Derived.Test.YtcjfijmbdoiaiaaGreatDoorRbAi6
set_option linter.unusedSimpArgs false
set_option linter.unusedVariables false
namespace Go.Ai

section
variable {P : Program} {μ : Mu} {s : AS} {w : World} {tm : Tm} {a : Act} {o : Oper}

theorem tsz_some {t : TypeId} {n : Nat} {g : Bool} (h : tsz P t = some (n, g)) : ∃ i d, P.info? t = some i ∧ P.underlying t = some d ∧ i.size = n ∧ isAggD d = g := by
  unfold tsz at h
  split at h
  · rename_i i d h1 h2
    simp only [Option.some.injEq, Prod.mk.injEq] at h
    exact ⟨i, d, h1, h2, h.1, h.2⟩
  · cases h

theorem run_isAgg {t : TypeId} {d : TypeDesc} (hu : P.underlying t = some d) (w : World) : (isAgg t).run P w = .ok (isAggD d) w := by
  unfold isAgg
  simp only [Sem.run_bind, run_underlying hu, Result.andThen_ok]
  cases d <;> rfl

theorem run_sizeOf {t : TypeId} {i : TypeInfo} (h : P.info? t = some i) (w : World) : (sizeOf t).run P w = .ok i.size w := by
  simp [sizeOf, typeInfo, h]

theorem run_zeroValue {t : TypeId} {i : TypeInfo} {z : Value} (h : P.info? t = some i) (hz : i.zero = some z) (w : World) : (zeroValue t).run P w = .ok z w := by
  simp [zeroValue, typeInfo, h, hz]

theorem tzero_some {t : TypeId} {z : List AV} (h : tzero P t = some z) : ∃ i v, P.info? t = some i ∧ i.zero = some v ∧ ∀ μ, VRs μ z v.cells.toList := by
  unfold tzero at h
  split at h
  · rename_i i hi
    split at h
    · rename_i v hv
      refine ⟨i, v, hi, hv, fun μ => ?_⟩
      generalize v.cells.toList = l at h
      clear hv hi
      induction l generalizing z with
      | nil => rw [mapM_nil_some h]; exact .nil
      | cons x l ih =>
        obtain ⟨y, ys, h1, h2, rfl⟩ := mapM_cons_some h
        exact .cons _ _ _ _ (ofV_ok 4 x y h1) (ih h2)
    · cases h
  · cases h

theorem tzeroV_some {t : TypeId} {z : AV} (h : tzeroV P t = some z) : ∃ i v, P.info? t = some i ∧ i.zero = some v ∧ ∀ μ, VR μ z v := by
  unfold tzeroV at h
  split at h
  · rename_i i hi
    split at h
    · rename_i v hv
      exact ⟨i, v, hi, hv, fun μ => ofV_ok 5 v z h⟩
    · cases h
  · cases h

theorem ok_load (hg : GOK P μ) (hT : TR μ tm a.tmps) (hR : Rel μ s w) {t : TypeId} {x : Operand} (ho : o.op = .load t x) {n : Nat} {g : Bool} (ht : tsz P t = some (n, g)) (h1 : (g || n == 1) = true)
    {ax : AX} (hx : cx P x = some ax) {v : AV} {s' : AS} (h : aop tm s (.load g n ax) = some (v, s')) : Good μ s w ((execOp a.eval o).run P w) v s' := by
  have hv := cx_ok hg hT hx
  obtain ⟨i, d, hi, hd, hn, hgd⟩ := tsz_some ht
  simp only [aop] at h
  split at h
  · rename_i b f e
    rw [e] at hv
    obtain ⟨bi, hp, hbi⟩ := hv.ptr_inv
    split at h
    · rename_i cs hcs
      obtain ⟨hl, cs', hvs, hc⟩ := hR.loads hcs hbi
      have hlen := hvs.length
      have hload : (loadVar t ⟨bi.blk, bi.del + f, none⟩).run P w = if g then .ok (.agg cs'.toArray) w else (load ⟨bi.blk, bi.del + f, none⟩).run P w := by
        unfold loadVar
        simp only [Sem.run_bind, run_isAgg hd, Result.andThen_ok, hgd]
        cases g with
        | false => simp
        | true =>
          simp only [if_true, Sem.run_bind, run_sizeOf hi, Result.andThen_ok]
          rw [hn, ← hl, ← hlen, run_loadCells_list w _ cs' (fun j v hj => by rw [Addr.add_lit]; exact hc j v hj)]
          rfl
      have hex : (execOp a.eval o).run P w = (if g then .ok (.agg cs'.toArray) w else (load ⟨bi.blk, bi.del + f, none⟩).run P w : Result Value).andThen fun v w' => .ok (.value v) w' := by
        simp only [execOp, ho, Instr.loadAt, hp, Instr.sureAddr, Sem.run_bind, Sem.run_pure, Result.andThen_ok, hload]
      rw [hex]
      cases g with
      | true =>
        simp only [if_true, Option.some.injEq, Prod.mk.injEq] at h
        obtain ⟨rfl, rfl⟩ := h
        simp only [if_true, Result.andThen_ok]
        exact .value hR (.agg _ _ hvs)
      | false =>
        simp only [Bool.false_eq_true, if_false] at h
        split at h
        · rename_i v0
          simp only [Option.some.injEq, Prod.mk.injEq] at h
          obtain ⟨rfl, rfl⟩ := h
          obtain ⟨v', e1, e2⟩ := hvs.get (n := 0) rfl
          have := hc 0 v' e1
          simp only [Nat.add_zero] at this
          simp only [Bool.false_eq_true, if_false, run_load, this, Result.andThen_ok]
          exact .value hR e2
        · cases h
    · cases h
  · cases h

theorem ok_store (hg : GOK P μ) (hT : TR μ tm a.tmps) (hR : Rel μ s w) {t : TypeId} {p x : Operand} (ho : o.op = .store t p x) {n : Nat} {g : Bool} (ht : tsz P t = some (n, g))
    {ap ax : AX} (hp : cx P p = some ap) (hx : cx P x = some ax) {v : AV} {s' : AS} (h : aop tm s (.store n ap ax) = some (v, s')) : Good μ s w ((execOp a.eval o).run P w) v s' := by
  have hpv := cx_ok hg hT hp
  have hxv := cx_ok hg hT hx
  obtain ⟨i, d, hi, hd, hn, hgd⟩ := tsz_some ht
  simp only [aop] at h
  split at h
  · rename_i b f e
    rw [e] at hpv
    obtain ⟨bi, hpe, hbi⟩ := hpv.ptr_inv
    split at h
    · rename_i hl
      simp only [Option.map_eq_some_iff, Prod.mk.injEq] at h
      obtain ⟨s1, hs1, rfl, rfl⟩ := h
      obtain ⟨c1, c2, c3, c4⟩ := hR.stores hs1 hbi hxv.cells
      have hsz : (a.eval x).cells.size = n := by rw [← Array.length_toList, hxv.cells.length, hl]
      have hst := run_storeCells_cells (P := P) bi.blk (bi.del + f) (a.eval x).cells.toList 0 w (by simpa using c1) (by simpa using c2) c3
      simp only [Nat.add_zero] at hst
      refine ⟨μ, Go.undef, _, .inr ⟨?_, rfl⟩, VR.undef, c4⟩
      simp only [execOp, ho, Instr.storeAt, hpe, Instr.sureAddr, storeVar, Sem.run_bind, Sem.run_pure, Result.andThen_ok, run_sizeOf hi, hsz, hn, ne_eq, not_true, if_false, hst]
    · cases h
  · cases h

/-- What an operation that only makes one new block comes to: the block, and its value by the number that the block is given. -/
def GoodA (μ : Mu) (w : World) (R : Result Next) (blk : ABlk) (mk : Nat → AV) : Prop :=
  ∃ bi v' w' obj, R = .ok (.value v') w' ∧ bi.blk = w.heap.size ∧ bi.ro = false ∧ w'.heap = w.heap.push obj ∧ w'.os = w.os ∧ w'.output = w.output ∧ w'.tape = w.tape ∧
    ∀ e, μ e = none → BR (μ.upd e bi) bi w' blk ∧ VR (μ.upd e bi) (mk e) v'

theorem GoodA.good (hR : Rel μ s w) {R : Result Next} {blk : ABlk} {mk : Nat → AV} (h : GoodA μ w R blk mk) : Good μ s w R (mk s.nx) (s.new blk) := by
  obtain ⟨bi, v', w', obj, h1, h2, h3, h4, h5, h6, h7, h8⟩ := h
  obtain ⟨h9, h10⟩ := h8 s.nx hR.none_nx
  exact ⟨_, v', w', .inl h1, h10, Stp.new hR bi blk obj h2 h4 h5 h6 h7 h9⟩

/-- A new row of cells. -/
theorem newCells {w' : World} {cs : List AV} {cc : Array Value} {el : TypeId} {fr : Nat × Nat} (esz : Nat) (ex : Bool) (hw : w'.heap = w.heap.push (.cells cc el fr))
    (hl : cs.length ≤ cc.size) (hv : VRs μ cs (cc.toList.take cs.length)) (hfr : ∀ j, j < cc.size → ¬ (fr.1 ≤ j ∧ j < fr.2)) (elo : Option TypeId := none) (helo : ∀ t, elo = some t → el = t := by intro t h; cases h) (hex : ex = true → cc.size = cs.length := by intro h; cases h) :
    ∃ i : BI, i.blk = w.heap.size ∧ i.del = 0 ∧ i.sz = cs.length ∧ i.csz = cc.size ∧ i.esz = esz ∧ i.exact = ex ∧ i.ro = false ∧ ∀ e, μ e = none → BR (μ.upd e i) i w' (.cells cs esz ex false elo) := by
  refine ⟨⟨w.heap.size, 0, cs.length, cc.size, esz, ex, false⟩, rfl, rfl, rfl, rfl, rfl, rfl, rfl, fun e he => ?_⟩
  refine ⟨rfl, rfl, rfl, rfl, cc, el, fr, ?_, rfl, by simpa using hl, ?_, fun _ => hfr, helo, fun h => ⟨rfl, hex h⟩⟩
  · rw [hw]; simp
  · rw [List.drop_zero]; exact hv.mono (Mu.le_upd _ he)

theorem Stp.newCells (hR : Rel μ s w) {w' : World} {cs : List AV} {cc : Array Value} {el : TypeId} {fr : Nat × Nat} (esz : Nat) (ex : Bool) (hw : w'.heap = w.heap.push (.cells cc el fr)) (hos : w'.os = w.os) (hout : w'.output = w.output) (htape : w'.tape = w.tape)
    (hl : cs.length ≤ cc.size) (hv : VRs μ cs (cc.toList.take cs.length)) (hfr : ∀ j, j < cc.size → ¬ (fr.1 ≤ j ∧ j < fr.2)) (elo : Option TypeId := none) (helo : ∀ t, elo = some t → el = t := by intro t h; cases h) (hex : ex = true → cc.size = cs.length := by intro h; cases h) :
    ∃ i : BI, i.blk = w.heap.size ∧ i.del = 0 ∧ i.sz = cs.length ∧ i.csz = cc.size ∧ i.esz = esz ∧ i.exact = ex ∧ Stp μ s w (μ.upd s.nx i) (s.new (.cells cs esz ex false elo)) w' := by
  obtain ⟨i, h1, h2, h3, h4, h5, h6, h7, h8⟩ := Go.Ai.newCells (μ := μ) (w := w) esz ex hw hl hv hfr elo helo hex
  exact ⟨i, h1, h2, h3, h4, h5, h6, Stp.new hR i _ _ h1 hw hos hout htape (h8 s.nx hR.none_nx)⟩

theorem ok_alloc (μ : Mu) (w : World) {e : TypeId} (ho : o.op = .alloc e) {z : List AV} (hz : tzero P e = some z) (n : Nat) :
    GoodA μ w ((execOp a.eval o).run P w) (.cells z n true false (some e)) (fun e => .ptr (some (e, 0))) := by
  obtain ⟨i, v, hi, hv, hzs⟩ := tzero_some hz
  have hl := (hzs μ).length
  obtain ⟨bi, b1, b2, _, _, _, _, b7, hb⟩ := newCells (μ := μ) (w := w) (w' := w.alloc (.cells v.cells e)) (cc := v.cells) (el := e) (fr := (0, 0)) n true rfl (by rw [← hl, Array.length_toList]; exact Nat.le_refl _) (by rw [← hl, List.take_length]; exact hzs μ) (by simp) (some e) (fun t h => Option.some.inj h) (fun _ => by rw [← hl, Array.length_toList])
  refine ⟨bi, .pointer (some ⟨w.heap.size, 0, none⟩), w.alloc (.cells v.cells e), .cells v.cells e, ?_, b1, b7, rfl, rfl, rfl, rfl, fun e he => ⟨hb e he, ?_⟩⟩
  · simp [execOp, ho, Instr.alloc, run_zeroValue hi hv, newVar, newRow]
  · have hp := VR.ptr (μ := μ.upd e bi) e 0 bi (Mu.upd_same _ _ _)
    rwa [b1, b2] at hp

theorem ok_box (hg : GOK P μ) (hT : TR μ tm a.tmps) (w : World) {e : TypeId} {x : Operand} (ho : o.op = .box e x) {ax : AX} (hx : cx P x = some ax) (n : Nat) :
    GoodA μ w ((execOp a.eval o).run P w) (.cells (ax.ev tm).cells n true false none) (fun e => .ptr (some (e, 0))) := by
  have hv := (cx_ok hg hT hx).cells
  have hl := hv.length
  obtain ⟨bi, b1, b2, _, _, _, _, b7, hb⟩ := newCells (μ := μ) (w := w) (w' := w.alloc (.cells (a.eval x).cells e)) (cc := (a.eval x).cells) (el := e) (fr := (0, 0)) n true rfl (by rw [← hl, Array.length_toList]; exact Nat.le_refl _) (by rw [← hl, List.take_length]; exact hv) (by simp) (hex := fun _ => by rw [← hl, Array.length_toList])
  refine ⟨bi, .pointer (some ⟨w.heap.size, 0, none⟩), w.alloc (.cells (a.eval x).cells e), .cells (a.eval x).cells e, ?_, b1, b7, rfl, rfl, rfl, rfl, fun e he => ⟨hb e he, ?_⟩⟩
  · simp [execOp, ho, Instr.box, newVar, newRow]
  · have hp := VR.ptr (μ := μ.upd e bi) e 0 bi (Mu.upd_same _ _ _)
    rwa [b1, b2] at hp

/-! ## Parts laid into cells -/

theorem foldl_set (cs : Array Value) (off : Nat) : ∀ (l : List Value) (k : Nat) (acc : Array Value), off + k + l.length ≤ acc.size → 
    ((l.zipIdx k).foldl (fun (cs : Array Value) (x : Value × Nat) => cs.setIfInBounds (off + x.2) x.1) acc).toList = acc.toList.take (off + k) ++ l ++ acc.toList.drop (off + k + l.length)
  | [], k, acc, _ => by simp
  | v :: l, k, acc, h => by
    rw [List.zipIdx_cons, List.foldl_cons, foldl_set cs off l (k + 1) _ (by simp at h ⊢; omega)]
    have := list_seg_step acc.toList (off + k) v l (by simp at h ⊢; omega)
    rw [Array.toList_setIfInBounds]
    simpa [Nat.add_assoc] using this

theorem fill_ok (hg : GOK P μ) (hT : TR μ tm a.tmps) {place : Nat → Option (Nat × Nat)} : ∀ {ps : List (Nat × Operand)} {aps : List (Nat × Nat × AX)} {cs cs' : List AV} {cc : Array Value}, cparts P place ps = some aps →
    fillX tm cs aps = some cs' → VRs μ cs cc.toList → ∃ cc', Instr.fill place cc (ps.map fun (i, x) => (i, a.eval x)) = some cc' ∧ VRs μ cs' cc'.toList
  | [], aps, cs, cs', cc, h1, h2, h3 => by
    simp [cparts] at h1; subst h1
    simp [fillX] at h2; subst h2
    exact ⟨cc, rfl, h3⟩
  | (i, x) :: ps, aps, cs, cs', cc, h1, h2, h3 => by
    simp only [cparts] at h1
    split at h1
    · rename_i off sz ax r hpl hx hr
      simp only [Option.some.injEq] at h1; subst h1
      have hv := (cx_ok hg hT hx).cells
      have hvl := hv.length
      rw [Array.length_toList] at hvl
      simp only [fillX] at h2
      split at h2
      · rename_i hc
        simp only [Bool.and_eq_true, decide_eq_true_eq] at hc
        obtain ⟨e1, e2⟩ := hc
        split at h2
        · rename_i c1 hsp
          have hcl := h3.length
          rw [Array.length_toList] at hcl
          have hsp' := spliceX_of (o := off) (v := (ax.ev tm).cells) (l := cs) (by omega)
          rw [hsp] at hsp'
          simp only [Option.some.injEq] at hsp'
          have key : VRs μ c1 ((a.eval x).cells.zipIdx.foldl (fun cs (c, j) => cs.setIfInBounds (off + j) c) cc).toList := by
            have e3 := foldl_set cc off (a.eval x).cells.toList 0 cc (by simp; omega)
            have e4 : ((a.eval x).cells.zipIdx.foldl (fun cs (c, j) => cs.setIfInBounds (off + j) c) cc) = ((a.eval x).cells.toList.zipIdx 0).foldl (fun (cs : Array Value) (x : Value × Nat) => cs.setIfInBounds (off + x.2) x.1) cc := by
              rw [← Array.foldl_toList]; simp
            rw [e4, e3, hsp']
            simp only [Nat.add_zero]
            rw [show (a.eval x).cells.toList.length = (AX.ev tm ax).cells.length from by rw [Array.length_toList, hvl]]
            exact ((h3.take off).append hv).append (h3.drop _)
          obtain ⟨cc', k1, k2⟩ := fill_ok hg hT hr h2 key
          refine ⟨cc', ?_, k2⟩
          simp only [List.map_cons, Instr.fill, hpl]
          rw [if_neg (by simp; omega)]
          exact k1
        · cases h2
      · cases h2
    · cases h1

theorem fieldPlaces_run {fs : Array Field} {pl : List (Nat × Nat)} (h : fieldPlaces P fs = some pl) (w : World) : (fs.mapM fun f => do pure (f.offset, ← sizeOf f.type) : Sem (Array (Nat × Nat))).run P w = .ok pl.toArray w := by
  unfold fieldPlaces at h
  rw [Array.mapM_eq_mapM_toList]
  generalize fs.toList = l at h
  have : ∀ (l : List Field) (pl : List (Nat × Nat)), (l.mapM fun f => (P.info? f.type).map fun i => (f.offset, i.size)) = some pl → (l.mapM fun f => do pure (f.offset, ← sizeOf f.type) : Sem (List (Nat × Nat))).run P w = .ok pl w := by
    intro l
    induction l with
    | nil => intro pl h; rw [mapM_nil_some h]; rfl
    | cons f l ih =>
      intro pl h
      obtain ⟨y, ys, h1, h2, rfl⟩ := mapM_cons_some h
      simp only [Option.map_eq_some_iff] at h1
      obtain ⟨i, hi, rfl⟩ := h1
      rw [List.mapM_cons]
      simp only [Sem.run_bind, run_sizeOf hi, Result.andThen_ok, Sem.run_pure, ih ys h2]
  have := this l pl h
  simp only [Sem.run_map, this, Result.andThen_ok]

theorem ok_build (hg : GOK P μ) (hT : TR μ tm a.tmps) (hR : Rel μ s w) {t : TypeId} {ps : Array (Nat × Operand)} (ho : o.op = .build t ps) {z : List AV} (hz : tzero P t = some z) {place : Nat → Option (Nat × Nat)} {aps : List (Nat × Nat × AX)}
    (hps : cparts P place ps.toList = some aps)
    (hplace : (∃ fs pl, P.underlying t = some (.struct fs) ∧ fieldPlaces P fs = some pl ∧ place = fun i => pl[i]?) ∨ (∃ n e i, P.underlying t = some (.array n e) ∧ P.info? e = some i ∧ place = fun j => some (j * i.size, i.size)))
    {v : AV} {s' : AS} (h : aop tm s (.build z aps) = some (v, s')) : Good μ s w ((execOp a.eval o).run P w) v s' := by
  simp only [aop, Option.map_eq_some_iff, Prod.mk.injEq] at h
  obtain ⟨cs, hcs, rfl, rfl⟩ := h
  obtain ⟨i, zv, hi, hzv, hzs⟩ := tzero_some hz
  obtain ⟨cc', k1, k2⟩ := fill_ok hg hT hps hcs (hzs μ)
  have hm : (ps.map fun (x : Nat × Operand) => (x.1, a.eval x.2)).toList = ps.toList.map fun (x : Nat × Operand) => (x.1, a.eval x.2) := by simp
  have : (execOp a.eval o).run P w = .ok (.value (.agg cc')) w := by
    rcases hplace with ⟨fs, pl, hu, hpl, rfl⟩ | ⟨n, e, j, hu, hj, rfl⟩
    · have hf := fieldPlaces_run hpl w
      simp only [execOp, ho, Instr.build, Sem.run_bind, run_zeroValue hi hzv, Result.andThen_ok, run_underlying hu, hf, hm]
      rw [show (fun x => pl.toArray[x]? : Nat → Option (Nat × Nat)) = fun i => pl[i]? from by funext i; simp]
      simp only [k1, Sem.run_pure, Result.andThen_ok]
    · simp only [execOp, ho, Instr.build, Sem.run_bind, run_zeroValue hi hzv, Result.andThen_ok, run_underlying hu, run_sizeOf hj, hm]
      simp only [k1, Sem.run_pure, Result.andThen_ok]
  rw [this]
  exact .value hR (.agg _ _ k2)

end
end Go.Ai
