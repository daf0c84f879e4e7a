/- The abstract heap's reads and writes are the model's. -/
import Derived.Test.YtcjfijmbdoiaiaaGreatDoorRbAi5
set_option linter.unusedSimpArgs false
set_option linter.unusedVariables false
namespace Go.Ai

theorem takeX_some {α : Type} : ∀ {n : Nat} {l r : List α}, takeX n l = some r → n ≤ l.length ∧ r = l.take n
  | 0, l, r, h => by simp [takeX] at h; subst h; simp
  | n + 1, [], r, h => by simp [takeX] at h
  | n + 1, x :: l, r, h => by
    simp only [takeX, Option.map_eq_some_iff] at h
    obtain ⟨q, hq, rfl⟩ := h
    obtain ⟨h1, rfl⟩ := takeX_some hq
    simp; exact h1

theorem takeX_of {α : Type} : ∀ {n : Nat} {l : List α}, n ≤ l.length → takeX n l = some (l.take n)
  | 0, l, _ => by simp [takeX]
  | n + 1, [], h => by simp at h
  | n + 1, x :: l, h => by simp only [takeX]; rw [takeX_of (by simpa using h)]; rfl

theorem spliceX_some {α : Type} : ∀ {o : Nat} {v l r : List α}, spliceX o v l = some r → (v = [] ∧ r = l) ∨ (o + v.length ≤ l.length ∧ r = l.take o ++ v ++ l.drop (o + v.length))
  | 0, [], l, r, h => by simp [spliceX] at h; exact .inl ⟨rfl, h.symm⟩
  | 0, v :: vs, [], r, h => by simp [spliceX] at h
  | 0, v :: vs, x :: l, r, h => by
    simp only [spliceX, Option.map_eq_some_iff] at h
    obtain ⟨q, hq, rfl⟩ := h
    rcases spliceX_some hq with ⟨rfl, rfl⟩ | ⟨h1, rfl⟩
    · exact .inr ⟨by simp, by simp⟩
    · exact .inr ⟨by simp at h1 ⊢; omega, by simp⟩
  | n + 1, [], l, r, h => by simp [spliceX] at h; exact .inl ⟨rfl, h.symm⟩
  | n + 1, v :: vs, [], r, h => by simp [spliceX] at h
  | n + 1, v :: vs, x :: l, r, h => by
    simp only [spliceX, Option.map_eq_some_iff] at h
    obtain ⟨q, hq, rfl⟩ := h
    rcases spliceX_some hq with ⟨h1, _⟩ | ⟨h1, rfl⟩
    · cases h1
    · refine .inr ⟨by simp at h1 ⊢; omega, ?_⟩
      rw [show n + 1 + (v :: vs).length = (n + (v :: vs).length) + 1 by omega]
      simp

theorem spliceX_len {α : Type} {o : Nat} {v l r : List α} (h : spliceX o v l = some r) : r.length = l.length := by
  rcases spliceX_some h with ⟨_, rfl⟩ | ⟨h1, rfl⟩
  · rfl
  · simp; omega

theorem spliceX_of {α : Type} : ∀ {o : Nat} {v l : List α}, o + v.length ≤ l.length → spliceX o v l = some (l.take o ++ v ++ l.drop (o + v.length))
  | 0, [], l, _ => by simp [spliceX]
  | 0, v :: vs, [], h => by simp at h
  | 0, v :: vs, x :: l, h => by simp only [spliceX]; rw [spliceX_of (by simp at h ⊢; omega)]; simp
  | n + 1, [], l, _ => by simp [spliceX]
  | n + 1, v :: vs, [], h => by simp at h
  | n + 1, v :: vs, x :: l, h => by
    simp only [spliceX]
    rw [spliceX_of (by simp at h ⊢; omega), show n + 1 + (v :: vs).length = (n + (v :: vs).length) + 1 by omega]
    simp

section
variable {P : Program} {μ : Mu} {s : AS} {w : World} {tm : Tm} {a : Act} {o : Oper}

/-- The cells that are read. -/
theorem Rel.loads (hR : Rel μ s w) {b f n : Nat} {cs : List AV} (h : s.loads b f n = some cs) {i : BI} (hi : μ b = some i) :
    cs.length = n ∧ ∃ cs' : List Value, VRs μ cs cs' ∧ ∀ j v, cs'[j]? = some v → w.cell? ⟨i.blk, i.del + f + j, none⟩ = some v := by
  unfold AS.loads at h
  split at h
  · rename_i acs esz ex ro hg
    obtain ⟨h1, rfl⟩ := takeX_some h
    obtain ⟨i', hi', h2, h3, h4, h5, cc, el, fr, h6, h7, h8, h9, h10⟩ := hR.blk b _ hg
    rw [hi] at hi'; cases hi'
    simp at h1
    refine ⟨by simp; omega, _, (h9.drop f).take n, fun j v hj => ?_⟩
    rw [List.getElem?_take] at hj
    split at hj
    · rename_i hjn
      rw [List.getElem?_drop, List.getElem?_take] at hj
      split at hj
      · rw [List.getElem?_drop] at hj
        simp only [World.cell?, h6]
        simp only [Option.isSome_none, Bool.false_eq_true, if_false]
        rw [← Array.getElem?_toList, show i.del + f + j = i.del + (f + j) by omega]
        exact hj
      · cases hj
    · cases hj
  · cases h

/-- A piece laid over a block's cells, one by one. -/
theorem setCells_heap (b : Nat) : ∀ (vs : List Value) (f : Nat) (w : World) (cc : Array Value) (el : TypeId) (fr : Nat × Nat), w.heap[b]? = some (.cells cc el fr) → f + vs.length ≤ cc.size →
    (w.setCells b f vs).heap[b]? = some (.cells (cc.toList.take f ++ vs ++ cc.toList.drop (f + vs.length)).toArray el fr)
  | [], f, w, cc, el, fr, h, _ => by simp [World.setCells, h]
  | v :: r, f, w, cc, el, fr, h, hl => by
    have hf : f < cc.size := by simp at hl; omega
    have h' : (w.setCell ⟨b, f, none⟩ v).heap[b]? = some (.cells (cc.setIfInBounds f v) el fr) := by
      rw [setCell_eq_setRow w b f cc el fr v h]
      exact setRow_heap w b cc _ el fr h
    rw [World.setCells, setCells_heap b r (f + 1) _ _ el fr h' (by simp at hl ⊢; omega)]
    congr 3
    have e := list_seg_step cc.toList f v r (by simp at hl ⊢; omega)
    simpa [Array.toList_setIfInBounds] using e

theorem setCells_other (b : Nat) : ∀ (vs : List Value) (f : Nat) (w : World) (c : Nat), c ≠ b → (w.setCells b f vs).heap[c]? = w.heap[c]?
  | [], _, _, _, _ => rfl
  | v :: r, f, w, c, h => by
    rw [World.setCells, setCells_other b r (f + 1) _ c h]
    simp only [World.setCell, Array.getElem?_modify]
    rw [if_neg (fun e => h e.symm)]

theorem setCells_rest (b : Nat) : ∀ (vs : List Value) (f : Nat) (w : World), (w.setCells b f vs).heap.size = w.heap.size ∧ (w.setCells b f vs).os = w.os ∧ (w.setCells b f vs).output = w.output ∧ (w.setCells b f vs).tape = w.tape
  | [], _, _ => ⟨rfl, rfl, rfl, rfl⟩
  | v :: r, f, w => by
    obtain ⟨h1, h2, h3, h4⟩ := setCells_rest b r (f + 1) (w.setCell ⟨b, f, none⟩ v)
    exact ⟨by rw [World.setCells, h1]; simp, by rw [World.setCells, h2]; rfl, by rw [World.setCells, h3]; rfl, by rw [World.setCells, h4]; rfl⟩

theorem VRs.one {l : List AV} {l' : List Value} (h : VRs μ l l') (h1 : l.all AV.one = true) : ∀ v ∈ l', v.oneCell' = true := by
  induction l generalizing l' with
  | nil => cases h; intro v hv; cases hv
  | cons u l ih =>
    cases h with
    | cons _ u' _ l'' hu hl =>
      simp only [List.all_cons, Bool.and_eq_true] at h1
      intro v hv
      rcases List.mem_cons.1 hv with rfl | hv
      · exact hu.oneCell h1.1
      · exact ih hl h1.2 v hv

/-- The cells that are written. -/
theorem Rel.stores (hR : Rel μ s w) {b f : Nat} {vs : List AV} {s' : AS} (h : s.stores b f vs = some s') {i : BI} (hi : μ b = some i) {vs' : List Value} (hv : VRs μ vs vs') :
    (∀ j, j < vs'.length → (w.cell? ⟨i.blk, i.del + f + j, none⟩).isSome = true) ∧ (∀ j, j < vs'.length → w.frozen? ⟨i.blk, i.del + f + j, none⟩ = false) ∧ (∀ v ∈ vs', v.oneCell' = true) ∧
      Stp μ s w μ s' (w.setCells i.blk (i.del + f) vs') := by
  unfold AS.stores at h
  split at h
  · rename_i acs esz ex elo hg
    split at h
    · rename_i hone
      simp only [Option.map_eq_some_iff] at h
      obtain ⟨acs', hsp, rfl⟩ := h
      obtain ⟨i', hi', h2, h3, h4, h5, cc, el, fr, h6, h7, h8, h9, h10⟩ := hR.blk b _ hg
      rw [hi] at hi'; cases hi'
      have hvl := hv.length
      have hcell : ∀ j, j < vs'.length → i.del + f + j < cc.size := by
        intro j hj
        rcases spliceX_some hsp with ⟨rfl, _⟩ | ⟨h11, _⟩
        · rw [hvl] at hj; simp at hj
        · omega
      refine ⟨fun j hj => ?_, fun j hj => ?_, hv.one hone, ?_⟩
      · simp only [World.cell?, h6]
        simp [hcell j hj]
      · simp only [World.frozen?, h6]
        have := h10.1 rfl _ (hcell j hj)
        simp only [Bool.and_eq_false_iff, decide_eq_false_iff_not]
        by_cases h12 : fr.1 ≤ i.del + f + j
        · exact .inr (fun h13 => this ⟨h12, h13⟩)
        · exact .inl h12
      · obtain ⟨q1, q2, q3, q4⟩ := setCells_rest i.blk vs' (i.del + f) w
        refine Stp.put hR (.cells acs' esz ex false elo) hg hi h5 q1 (fun c hc => setCells_other i.blk vs' _ w c hc) q2 q3 q4 ?_
        rcases spliceX_some hsp with ⟨rfl, rfl⟩ | ⟨h11, rfl⟩
        · have : vs' = [] := List.eq_nil_of_length_eq_zero (by simpa using hvl)
          subst this
          exact ⟨h2, h3, h4, h5, cc, el, fr, h6, h7, h8, h9, h10⟩
        · have hfit : i.del + f + vs'.length ≤ cc.size := by omega
          refine ⟨by rw [h2]; simp; omega, h3, h4, h5, _, el, fr, setCells_heap i.blk vs' (i.del + f) w cc el fr h6 hfit, ?_, ?_, ?_, ?_⟩
          · simp; omega
          · simp; omega
          · refine VRs.of_get ?_ ?_
            · simp; omega
            · intro n v v' e1 e2
              rw [List.getElem?_take] at e2
              split at e2
              · rename_i hn
                rw [List.getElem?_drop] at e2
                by_cases c1 : n < f
                · rw [List.append_assoc, List.getElem?_append_left (by simp; omega), List.getElem?_take, if_pos c1] at e1
                  rw [List.append_assoc, List.getElem?_append_left (by simp; omega), List.getElem?_take, if_pos (by omega)] at e2
                  obtain ⟨u', e3, e4⟩ := h9.get e1
                  rw [List.getElem?_take, if_pos (by omega), List.getElem?_drop] at e3
                  rw [e2] at e3; cases e3; exact e4
                · by_cases c2 : n < f + vs.length
                  · rw [List.append_assoc, List.getElem?_append_right (by simp; omega), List.getElem?_append_left (by simp; omega)] at e1
                    rw [List.append_assoc, List.getElem?_append_right (by simp; omega), List.getElem?_append_left (by simp; omega)] at e2
                    simp only [List.length_take, Array.length_toList] at e1 e2
                    rw [show n - min f acs.length = n - f by omega] at e1
                    rw [show i.del + n - min (i.del + f) cc.size = n - f by omega] at e2
                    obtain ⟨u', e3, e4⟩ := hv.get e1
                    rw [e2] at e3; cases e3; exact e4
                  · rw [List.getElem?_append_right (by simp; omega), List.getElem?_drop] at e1
                    rw [List.getElem?_append_right (by simp; omega), List.getElem?_drop] at e2
                    simp only [List.length_append, List.length_take, Array.length_toList] at e1 e2
                    rw [show f + vs.length + (n - (min f acs.length + vs.length)) = n by omega] at e1
                    rw [show i.del + f + vs'.length + (i.del + n - (min (i.del + f) cc.size + vs'.length)) = i.del + n by omega] at e2
                    obtain ⟨u', e3, e4⟩ := h9.get e1
                    rw [List.getElem?_take, if_pos (by simp at hn; omega), List.getElem?_drop] at e3
                    rw [e2] at e3; cases e3; exact e4
              · cases e2
          · exact ⟨fun hr j hj => h10.1 hr j (by simp at hj; omega), h10.2.1, fun hx => ⟨(h10.2.2 hx).1, by have := (h10.2.2 hx).2; simp; omega⟩⟩
    · cases h
  · cases h

end
end Go.Ai
