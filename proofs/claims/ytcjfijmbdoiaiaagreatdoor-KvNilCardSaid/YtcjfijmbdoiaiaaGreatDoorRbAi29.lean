/- A range over a map whose round leaves the map alone: each entry comes once, in some order. -/
import Derived.Test.YtcjfijmbdoiaiaaGreatDoorRbAi28
import Derived.Maps.RangeRun
set_option linter.unusedSimpArgs false
set_option linter.unusedVariables false
namespace Go.Ai

section
variable {P : Program}

/-- As 'aops_ok', with operations behind. -/
theorem aops_ok' {call : ACall} (hcall : CallOK P call) {μ₀ : Mu} {s₀ : AS} {w₀ : World} {n : Nat} (hg : GOK P μ₀) {ops : Array Oper} {Q : Exit → Act → World → Prop} (rest : List Nat) :
    ∀ (l : List AOper) (k : Nat) (ol : List Oper), (∀ i, i < ol.length → ol[i]? = ops[k + i]?) → ol.mapM (coper P n ops) = some l → ∀ (tm : Tm) (s : AS) (a : Act) (w : World) (tm' : Tm) (s' : AS), Inv P μ₀ s₀ w₀ n tm s a w → aops call l tm s = some (tm', s') →
      (∀ a' w', Inv P μ₀ s₀ w₀ n tm' s' a' w' → wpOps P ops Q rest a' w') → wpOps P ops Q (List.range' k ol.length ++ rest) a w := by
  intro l
  induction l with
  | nil =>
    intro k ol hix hm tm s a w tm' s' hI h hQ
    have : ol = [] := by
      cases ol with
      | nil => rfl
      | cons o r => obtain ⟨_, _, _, _, h3⟩ := mapM_cons_some hm; cases h3
    subst this
    simp only [aops, Option.some.injEq, Prod.mk.injEq] at h
    obtain ⟨rfl, rfl⟩ := h
    exact hQ _ _ hI
  | cons ao l ih =>
    intro k ol hix hm tm s a w tm' s' hI h hQ
    cases ol with
    | nil => have := mapM_nil_some hm; cases this
    | cons o r =>
      obtain ⟨ao', l', h1, h2, h3⟩ := mapM_cons_some hm
      cases h3
      have ho : ops[k]? = some o := by have := hix 0 (by simp); simpa using this.symm
      obtain ⟨hdlt, hdst, hcop, _⟩ := coper_inv h1
      obtain ⟨hsz, hdf, μ, hT, hS⟩ := hI
      simp only [List.length_cons, List.range'_succ, List.cons_append]
      rw [wpOps_cons]
      unfold wpOp
      simp only [ho]
      rw [wanted_ok h1 hT]
      simp only [aops] at h
      have next : ∀ (s1 : AS) (v : AV) (μ1 : Mu) (v' : Value) (w1 : World), aops call l (tm.put ao.dst v) s1 = some (tm', s') → VR μ1 v v' → Stp μ s w μ1 s1 w1 → wpOps P ops Q (List.range' (k + 1) r.length ++ rest) (a.put o.dst v') w1 := by
        intro s1 v μ1 v' w1 hh hv hst
        refine ih (k + 1) r (fun i hi => ?_) h2 (tm.put ao.dst v) s1 _ w1 tm' s' ?_ hh hQ
        · have := hix (i + 1) (by simp; omega)
          simp only [List.getElem?_cons_succ] at this
          rw [this]; congr 1; omega
        · refine ⟨by rw [put_size]; exact hsz, by rw [put_defers]; exact hdf, μ1, ?_, hS.trans hst⟩
          rw [put_tmps, hdst]
          exact (hT.mono hst.ext).put o.dst (fun t ht => by rw [hsz]; exact hdlt t ht) hv
      split at h
      · rename_i hw
        rw [if_pos hw]
        split at h
        · rename_i v s1 hv
          left
          refine aoper_wp' hcall (hg.mono hS.ext) hT hS.rel hcop hv fun μ' v' w' h5 h6 => ?_
          exact next s1 v μ' v' w' h h5 h6
        · cases h
      · rename_i hw
        rw [if_neg hw]
        exact next s AV.undef μ Go.undef w h VR.undef (Stp.refl hS.rel)

theorem MRs.at {μ : Mu} {l : List (AV × AV)} {l' : List MapEntry} (h : MRs μ l l') : ∀ (i : Nat) (e : MapEntry), l'[i]? = some e → ∃ k v, l[i]? = some (k, v) ∧ VR μ k e.key ∧ VR μ v e.val := by
  induction h with
  | nil => intro i e h; simp at h
  | cons k v e l l' hk hv _ ih =>
    intro i e' h
    cases i with
    | zero => simp at h; subst h; exact ⟨k, v, rfl, hk, hv⟩
    | succ i => simp at h; obtain ⟨k', v', h1, h2⟩ := ih i e' h; exact ⟨k', v', by simpa using h1, h2⟩

theorem MRs.len {μ : Mu} {l : List (AV × AV)} {l' : List MapEntry} (h : MRs μ l l') : l.length = l'.length := by
  induction h with
  | nil => rfl
  | cons k v e l l' hk hv _ ih => simp [ih]

/-- In the midst of a range: the iterator in the block it, the map in the block mb; idx: which entries have come. -/
structure RI (P : Program) (μ₀ : Mu) (s₀ : AS) (w₀ : World) (n tI e it mb : Nat) (es : List (AV × AV)) (ees : Array MapEntry) (clock : Nat) (idx : List Nat) (seen : Array Nat) (μ : Mu) (tm : Tm) (s : AS) (a : Act) (w : World) : Prop where
  size : a.tmps.size = n
  defers : a.defers = []
  tr : TR μ tm a.tmps
  stp : Stp μ₀ s₀ w₀ μ s w
  its : tm.at tI = .ptr (some (e, 0))
  ite : ∃ i, μ e = some i ∧ i.blk = it ∧ i.del = 0
  itl : it < w.heap.size
  mbl : mb < w.heap.size
  ith : w.heap[it]? = some (.mapIter (some mb) clock seen clock)
  mbh : w.heap[mb]? = some (.map ees clock)
  itu : ¬ US μ s it
  mbu : ¬ US μ s mb
  ne : it ≠ mb
  ent : MRs μ es ees.toList
  stm : Stamps ees.toList clock
  idn : idx.Nodup
  idl : ∀ i ∈ idx, i < es.length
  sn : ∀ x, x ∈ seen.toList ↔ ∃ i ∈ idx, ∃ y, ees.toList[i]? = some y ∧ y.born = x

section
variable {μ₀ : Mu} {s₀ : AS} {w₀ : World} {n tI e it mb : Nat} {es : List (AV × AV)} {ees : Array MapEntry} {clock : Nat} {idx : List Nat} {seen : Array Nat} {μ : Mu} {tm : Tm} {s : AS} {a : Act} {w : World}

theorem WS.us {μ : Mu} {s : AS} {c : Nat} (h : WS μ s c) : US μ s c := by
  obtain ⟨b, o, i, h1, h2, _, h4⟩ := h
  exact ⟨b, o, i, h1, h2, h4⟩

/-- Behind steps that begin here. -/
theorem RI.after (h : RI P μ₀ s₀ w₀ n tI e it mb es ees clock idx seen μ tm s a w) {tm' : Tm} {s' : AS} {a' : Act} {w' : World} (hI : Inv P μ s w n tm' s' a' w') (ht : tm'.at tI = .ptr (some (e, 0))) :
    ∃ μ', RI P μ₀ s₀ w₀ n tI e it mb es ees clock idx seen μ' tm' s' a' w' := by
  obtain ⟨h1, h2, μ', h3, h4⟩ := hI
  obtain ⟨i, k1, k2, k3⟩ := h.ite
  exact ⟨μ', {
    size := h1, defers := h2, tr := h3, stp := h.stp.trans h4, its := ht, ite := ⟨i, h4.ext _ _ k1, k2, k3⟩
    itl := Nat.lt_of_lt_of_le h.itl h4.size, mbl := Nat.lt_of_lt_of_le h.mbl h4.size
    ith := by rw [h4.keep it h.itl fun hw => h.itu hw.us]; exact h.ith
    mbh := by rw [h4.keep mb h.mbl fun hw => h.mbu hw.us]; exact h.mbh
    itu := fun hu => by
      rcases h4.us it hu with hu | hu
      · exact h.itu hu
      · have := h.itl; omega
    mbu := fun hu => by
      rcases h4.us mb hu with hu | hu
      · exact h.mbu hu
      · have := h.mbl; omega
    ne := h.ne, ent := h.ent.mono h4.ext, stm := h.stm, idn := h.idn, idl := h.idl, sn := h.sn }⟩

theorem RI.inv (h : RI P μ₀ s₀ w₀ n tI e it mb es ees clock idx seen μ tm s a w) : Inv P μ s w n tm s a w := ⟨h.size, h.defers, μ, h.tr, Stp.refl h.stp.rel⟩

theorem RI.put (h : RI P μ₀ s₀ w₀ n tI e it mb es ees clock idx seen μ tm s a w) (d : Nat) (hd : d < n) (hn : d ≠ tI) {v : AV} {v' : Value} (hv : VR μ v v') :
    RI P μ₀ s₀ w₀ n tI e it mb es ees clock idx seen μ (tm.put (some d) v) s (a.put (some d) v') w :=
  { h with
    size := by rw [put_size]; exact h.size
    defers := by rw [put_defers]; exact h.defers
    tr := by rw [put_tmps]; exact h.tr.put (some d) (fun t ht => by cases ht; rw [h.size]; exact hd) hv
    its := by rw [at_put, if_neg hn]; exact h.its }

theorem RI.eval (h : RI P μ₀ s₀ w₀ n tI e it mb es ees clock idx seen μ tm s a w) : a.eval (.tmp tI) = .pointer (some ⟨it, 0, none⟩) := by
  have := h.tr tI
  rw [h.its] at this
  obtain ⟨i, k1, k2⟩ := this.ptr_inv
  obtain ⟨j, m1, m2, m3⟩ := h.ite
  rw [m1] at k2
  cases k2
  rw [m2, m3] at k1
  exact k1

theorem US.heap {w' : World} (hR : Rel μ s w) (hw : ∀ c, US μ s c → w'.heap[c]? = w.heap[c]?) (hsz : w.heap.size ≤ w'.heap.size) : Rel μ s w' where
  blk := fun b o hb => by
    obtain ⟨i, h1, h2⟩ := hR.blk b o hb
    exact ⟨i, h1, h2.of_heap (hw _ ⟨b, o, i, hb, h1, rfl⟩)⟩
  sep := hR.sep
  fresh := hR.fresh

/-- The iterator steps. -/
theorem RI.step (h : RI P μ₀ s₀ w₀ n tI e it mb es ees clock idx seen μ tm s a w) (hit : w₀.heap.size ≤ it) {y : MapEntry} {j : Nat} (hy : ees.toList[j]? = some y) (hj : j ∉ idx) {w1 : World} (hw1 : w1 = w ∨ w1 = w.drew) :
    RI P μ₀ s₀ w₀ n tI e it mb es ees clock (idx ++ [j]) (seen.push y.born) μ tm s a (ChangeMaps.setBlock w1 it (.mapIter (some mb) clock (seen.push y.born) clock)) := by
  have hheap : w1.heap = w.heap := by rcases hw1 with rfl | rfl <;> rfl
  have hsz : (ChangeMaps.setBlock w1 it (.mapIter (some mb) clock (seen.push y.born) clock)).heap.size = w.heap.size := by
    show (w1.heap.setIfInBounds it _).size = _
    rw [Array.size_setIfInBounds, hheap]
  have hoth : ∀ c, c ≠ it → (ChangeMaps.setBlock w1 it (.mapIter (some mb) clock (seen.push y.born) clock)).heap[c]? = w.heap[c]? := fun c hc => by
    show (w1.heap.setIfInBounds it _)[c]? = _
    rw [Array.getElem?_setIfInBounds_ne (fun h => hc h.symm), hheap]
  have hos : w1.os = w.os ∧ w1.output = w.output ∧ w1.tape = w.tape := by rcases hw1 with rfl | rfl <;> exact ⟨rfl, rfl, rfl⟩
  have hjl : j < es.length := by rw [h.ent.len]; exact (List.getElem?_eq_some_iff.1 hy).1
  exact {
    size := h.size, defers := h.defers, tr := h.tr
    stp := {
      ext := h.stp.ext
      rel := US.heap h.stp.rel (fun c hc => hoth c fun he => h.itu (he ▸ hc)) (Nat.le_of_eq hsz.symm)
      keep := fun c hc hn => by rw [hoth c (by omega)]; exact h.stp.keep c hc hn
      ws := h.stp.ws
      us := h.stp.us
      mnew := h.stp.mnew
      dom := h.stp.dom
      nx := h.stp.nx
      size := by rw [hsz]; exact h.stp.size
      os := hos.1.trans h.stp.os
      out := hos.2.1.trans h.stp.out
      tape := hos.2.2.trans h.stp.tape }
    its := h.its, ite := h.ite
    itl := by rw [hsz]; exact h.itl
    mbl := by rw [hsz]; exact h.mbl
    ith := by
      show (w1.heap.setIfInBounds it _)[it]? = _
      rw [Array.getElem?_setIfInBounds_self_of_lt (by rw [hheap]; exact h.itl)]
    mbh := by rw [hoth mb h.ne.symm]; exact h.mbh
    itu := h.itu, mbu := h.mbu, ne := h.ne, ent := h.ent, stm := h.stm
    idn := by rw [List.nodup_append]; exact ⟨h.idn, by simp, fun x hx z hz => by simp only [List.mem_singleton] at hz; subst hz; intro he; subst he; exact hj hx⟩
    idl := fun i hi => by
      rw [List.mem_append, List.mem_singleton] at hi
      rcases hi with hi | rfl
      · exact h.idl i hi
      · exact hjl
    sn := fun x => by
      rw [Array.toList_push, List.mem_append, List.mem_singleton, h.sn]
      constructor
      · rintro (⟨i, h1, h2⟩ | rfl)
        · exact ⟨i, by simp [h1], h2⟩
        · exact ⟨j, by simp, y, hy, rfl⟩
      · rintro ⟨i, h1, y', h2, h3⟩
        rw [List.mem_append, List.mem_singleton] at h1
        rcases h1 with h1 | rfl
        · exact .inl ⟨i, h1, y', h2, h3⟩
        · rw [hy] at h2; cases h2; exact .inr h3.symm }

theorem born_inj {l : List MapEntry} (h : (l.map (·.born)).Nodup) {i j : Nat} {x y : MapEntry} (hi : l[i]? = some x) (hj : l[j]? = some y) (hb : x.born = y.born) : i = j := by
  have h1 : (l.map (·.born))[i]? = some x.born := by rw [List.getElem?_map, hi]; rfl
  have h2 : (l.map (·.born))[j]? = some x.born := by rw [List.getElem?_map, hj, hb]; rfl
  have l1 := (List.getElem?_eq_some_iff.1 h1).1
  have l2 := (List.getElem?_eq_some_iff.1 h2).1
  have e1 := (List.getElem?_eq_some_iff.1 h1).2
  have e2 := (List.getElem?_eq_some_iff.1 h2).2
  exact (List.getElem_inj (h₀ := l1) (h₁ := l2) h).1 (e1.trans e2.symm)

/-- What is left. -/
theorem RI.left (h : RI P μ₀ s₀ w₀ n tI e it mb es ees clock idx seen μ tm s a w) (y : MapEntry) : y ∈ (leftOf ees seen).toList ↔ ∃ j, ees.toList[j]? = some y ∧ j ∉ idx := by
  unfold leftOf
  simp only [Array.toList_filter, List.mem_filter]
  constructor
  · rintro ⟨h1, h2⟩
    obtain ⟨j, hj⟩ := List.getElem?_of_mem h1
    refine ⟨j, hj, fun hi => ?_⟩
    have : y.born ∈ seen.toList := (h.sn _).2 ⟨j, hi, y, hj, rfl⟩
    simp at h2
    exact h2 (by simpa using this)
  · rintro ⟨j, h1, h2⟩
    refine ⟨List.mem_of_getElem? h1, ?_⟩
    simp only [Bool.not_eq_true', ← Bool.not_eq_true, Array.contains_iff_mem]
    intro hc
    obtain ⟨i, k1, z, k2, k3⟩ := (h.sn y.born).1 (by simpa using hc)
    have := born_inj h.stm.1 k2 h1 k3
    subst this
    exact h2 k1
end

end
end Go.Ai
