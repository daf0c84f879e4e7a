/- A region that draws its order: what the pass in the order of the text has written down. -/
import Derived.Test.YtcjfijmbdoiaiaaGreatDoorRbAi18
set_option linter.unusedSimpArgs false
set_option linter.unusedVariables false
namespace Go.Ai

/-! ## The last of those that are chosen -/

def lastBy {β : Type} (sel : Nat → DRec → Bool) (val : DRec → β) : Nat → List DRec → β → β
  | _, [], c => c
  | p, r :: l, c => lastBy sel val (p + 1) l (if sel p r then val r else c)

theorem lastBy_congr {β : Type} {sel sel' : Nat → DRec → Bool} {val : DRec → β} : ∀ (l : List DRec) (p : Nat) (c : β), (∀ q r, l[q]? = some r → sel (p + q) r = sel' (p + q) r) → lastBy sel val p l c = lastBy sel' val p l c
  | [], _, _, _ => rfl
  | r :: l, p, c, h => by
    have h0 := h 0 r rfl
    simp only [Nat.add_zero] at h0
    simp only [lastBy, h0]
    exact lastBy_congr l (p + 1) _ fun q x hx => by
      have := h (q + 1) x (by simpa using hx)
      have e : p + 1 + q = p + (q + 1) := by omega
      rw [e]; exact this

theorem lastBy_append {β : Type} {sel : Nat → DRec → Bool} {val : DRec → β} : ∀ (l m : List DRec) (p : Nat) (c : β), lastBy sel val p (l ++ m) c = lastBy sel val (p + l.length) m (lastBy sel val p l c)
  | [], _, _, _ => rfl
  | r :: l, m, p, c => by
    simp only [List.cons_append, lastBy, List.length_cons]
    rw [lastBy_append l m (p + 1)]
    have e : p + 1 + l.length = p + (l.length + 1) := by omega
    rw [e]

theorem lastBy_none {β : Type} {sel : Nat → DRec → Bool} {val : DRec → β} : ∀ (l : List DRec) (p : Nat) (c : β), (∀ q r, l[q]? = some r → sel (p + q) r = false) → lastBy sel val p l c = c
  | [], _, _, _ => rfl
  | r :: l, p, c, h => by
    have h0 := h 0 r rfl
    simp only [Nat.add_zero] at h0
    simp only [lastBy, h0, Bool.false_eq_true, if_false]
    exact lastBy_none l (p + 1) c fun q x hx => by
      have := h (q + 1) x (by simpa using hx)
      have e : p + 1 + q = p + (q + 1) := by omega
      rw [e]; exact this

theorem lastBy_at {β : Type} {sel : Nat → DRec → Bool} {val : DRec → β} : ∀ (l : List DRec) (p : Nat) (c : β) (i : Nat) (r : DRec), l[i]? = some r → sel (p + i) r = true → (∀ q x, i < q → l[q]? = some x → sel (p + q) x = false) → lastBy sel val p l c = val r
  | [], _, _, _, _, h, _, _ => by simp at h
  | x :: l, p, c, 0, r, h, hs, hn => by
    simp at h
    subst h
    simp only [Nat.add_zero] at hs
    simp only [lastBy, hs, if_true]
    exact lastBy_none l (p + 1) _ fun q y hy => by
      have := hn (q + 1) y (by omega) (by simpa using hy)
      have e : p + 1 + q = p + (q + 1) := by omega
      rw [e]; exact this
  | x :: l, p, c, i + 1, r, h, hs, hn => by
    simp only [lastBy]
    have e : ∀ q, p + 1 + q = p + (q + 1) := fun q => by omega
    refine lastBy_at l (p + 1) _ i r (by simpa using h) (by rw [e]; exact hs) fun q y hq hy => ?_
    rw [e]
    exact hn (q + 1) y (by omega) (by simpa using hy)

theorem lastBy_cases {β : Type} {sel : Nat → DRec → Bool} {val : DRec → β} : ∀ (l : List DRec) (p : Nat) (c : β),
    (∀ q r, l[q]? = some r → sel (p + q) r = false) ∨ ∃ i r, l[i]? = some r ∧ sel (p + i) r = true ∧ (∀ q x, i < q → l[q]? = some x → sel (p + q) x = false) ∧ lastBy sel val p l c = val r
  | [], _, _ => .inl fun q r h => by simp at h
  | x :: l, p, c => by
    have e : ∀ q, p + 1 + q = p + (q + 1) := fun q => by omega
    rcases lastBy_cases l (p + 1) (if sel p x then val x else c) with h | ⟨i, r, h1, h2, h3, h4⟩
    · cases hx : sel p x with
      | false =>
        left
        intro q r hq
        cases q with
        | zero => simp at hq; subst hq; exact hx
        | succ q => rw [← e]; exact h q r (by simpa using hq)
      | true =>
        right
        refine ⟨0, x, rfl, hx, ?_, ?_⟩
        · intro q y hq hy
          cases q with
          | zero => omega
          | succ q => rw [← e]; exact h q y (by simpa using hy)
        · simp only [lastBy, hx, if_true]
          exact lastBy_none l (p + 1) _ h
    · right
      refine ⟨i + 1, r, by simpa using h1, by rw [← e]; exact h2, ?_, by simp only [lastBy]; exact h4⟩
      intro q y hq hy
      cases q with
      | zero => omega
      | succ q => rw [← e]; exact h3 q y (by omega) (by simpa using hy)

/-! ## The heap, the slots and the pending blocks, by the listed operations -/

def DRec.isW (r : DRec) : Bool := r.want && r.op.op.kind == .write

def chainAt (recs : List DRec) (h₀ : AS) (S : Nat → Bool) : AS := lastBy (fun p r => S p && r.isW) (·.h') 0 recs h₀
def slotAt (recs : List DRec) (tm₀ : Tm) (S : Nat → Bool) (x : Nat) : AV := lastBy (fun p r => S p && r.op.dst == some x) (·.v) 0 recs (tm₀.at x)

def Pend (recs : List DRec) (S : Nat → Bool) (p : Nat) (blk : ABlk) : Prop :=
  ∃ r, recs[p]? = some r ∧ r.al = some blk ∧ S p = true ∧ ∀ q x, recs[q]? = some x → S q = true → x.isW = true → x.bf.testBit p = false

def freeB (recs : List DRec) (S : Nat → Bool) (p : Nat) : Bool := recs.zipIdx.all fun (x, q) => !(S q && x.isW && x.bf.testBit p)
def pendL (recs : List DRec) (S : Nat → Bool) : List (Nat × ABlk) :=
  recs.zipIdx.filterMap fun (r, p) =>
    match r.al with
    | some blk => if S p && freeB recs S p then some (p, blk) else none
    | none => none

theorem mem_zipIdx0 {α : Type} {l : List α} {x : α} {i : Nat} : (x, i) ∈ l.zipIdx ↔ l[i]? = some x := by
  rw [List.mem_zipIdx_iff_getElem?]

theorem mem_pendL {recs : List DRec} {S : Nat → Bool} {p : Nat} {blk : ABlk} : (p, blk) ∈ pendL recs S ↔ Pend recs S p blk := by
  unfold pendL Pend
  rw [List.mem_filterMap]
  constructor
  · rintro ⟨⟨r, p'⟩, h1, h2⟩
    rw [mem_zipIdx0] at h1
    simp only at h2
    split at h2
    · rename_i b hb
      split at h2
      · rename_i hc
        simp only [Option.some.injEq, Prod.mk.injEq] at h2
        obtain ⟨rfl, rfl⟩ := h2
        rw [Bool.and_eq_true] at hc
        refine ⟨r, h1, hb, hc.1, fun q x hq hS hW => ?_⟩
        have := hc.2
        unfold freeB at this
        rw [List.all_eq_true] at this
        have := this (x, q) (mem_zipIdx0.2 hq)
        simp only [hS, hW, Bool.true_and, Bool.not_eq_true'] at this
        exact this
      · cases h2
    · cases h2
  · rintro ⟨r, h1, h2, h3, h4⟩
    refine ⟨(r, p), mem_zipIdx0.2 h1, ?_⟩
    simp only [h2]
    rw [if_pos]
    rw [Bool.and_eq_true]
    refine ⟨h3, ?_⟩
    unfold freeB
    rw [List.all_eq_true]
    rintro ⟨x, q⟩ hx
    rw [mem_zipIdx0] at hx
    cases hS : S q with
    | false => simp [hS]
    | true =>
      cases hW : x.isW with
      | false => simp [hW]
      | true => simp [h4 q x hx hS hW]

theorem absorb_nx (base : Nat) : ∀ (X : List (Nat × ABlk)) (h : AS), (absorb base X h).nx = h.nx
  | [], _ => rfl
  | (p, b) :: X, h => by simp only [absorb]; rw [absorb_nx base X]

theorem absorb_get_not (base : Nat) {b : Nat} : ∀ (X : List (Nat × ABlk)) (h : AS), (∀ p blk, (p, blk) ∈ X → b ≠ base + p) → (absorb base X h).get b = h.get b
  | [], _, _ => rfl
  | (p, o) :: X, h, hn => by
    simp only [absorb]
    rw [absorb_get_not base X _ fun q blk hq => hn q blk (by simp [hq])]
    show PT.get (h.hp.set (base + p) (some o)) b = _
    rw [PT.get_set_ne _ _ (hn p o (by simp))]
    rfl

theorem absorb_get_mem (base : Nat) {p : Nat} {blk : ABlk} : ∀ (X : List (Nat × ABlk)) (h : AS), (∀ q b b', (q, b) ∈ X → (q, b') ∈ X → b = b') → (p, blk) ∈ X → (absorb base X h).get (base + p) = some blk
  | [], _, _, hm => by simp at hm
  | (q, o) :: X, h, hf, hm => by
    simp only [absorb]
    by_cases hin : ∃ b', (p, b') ∈ X
    · obtain ⟨b', hb'⟩ := hin
      rw [hf p blk b' hm (by simp [hb'])]
      exact absorb_get_mem base X _ (fun r b c h1 h2 => hf r b c (by simp [h1]) (by simp [h2])) hb'
    · rw [absorb_get_not base X _ fun r c hr he => by
        have : r = p := by omega
        subst this
        exact hin ⟨c, hr⟩]
      rcases List.mem_cons.1 hm with hm | hm
      · cases hm
        exact PT.get_set_same _ _ _
      · exact absurd ⟨blk, hm⟩ hin

theorem Pend.fn {recs : List DRec} {S : Nat → Bool} {p : Nat} {b b' : ABlk} (h : Pend recs S p b) (h' : Pend recs S p b') : b = b' := by
  obtain ⟨r, h1, h2, _⟩ := h
  obtain ⟨r', h1', h2', _⟩ := h'
  rw [h1] at h1'
  cases h1'
  rw [h2] at h2'
  cases h2'
  rfl

/-- The heap when these are listed. -/
def heapAt (recs : List DRec) (h₀ : AS) (base : Nat) (S : Nat → Bool) : AS := absorb base (pendL recs S) (chainAt recs h₀ S)

theorem heapAt_nx {recs : List DRec} {h₀ : AS} {base : Nat} {S : Nat → Bool} : (heapAt recs h₀ base S).nx = (chainAt recs h₀ S).nx := absorb_nx _ _ _

theorem heapAt_pend {recs : List DRec} {h₀ : AS} {base : Nat} {S : Nat → Bool} {p : Nat} {blk : ABlk} (h : Pend recs S p blk) : (heapAt recs h₀ base S).get (base + p) = some blk :=
  absorb_get_mem base _ _ (fun _ _ _ h1 h2 => (mem_pendL.1 h1).fn (mem_pendL.1 h2)) (mem_pendL.2 h)

theorem heapAt_not {recs : List DRec} {h₀ : AS} {base : Nat} {S : Nat → Bool} {b : Nat} (h : ∀ p blk, Pend recs S p blk → b ≠ base + p) : (heapAt recs h₀ base S).get b = (chainAt recs h₀ S).get b :=
  absorb_get_not base _ _ fun p blk hm => h p blk (mem_pendL.1 hm)

theorem heapAt_congr {recs : List DRec} {h₀ : AS} {base : Nat} {S S' : Nat → Bool} (hc : chainAt recs h₀ S' = chainAt recs h₀ S) (hp : ∀ p blk, Pend recs S' p blk ↔ Pend recs S p blk) (b : Nat) :
    (heapAt recs h₀ base S').get b = (heapAt recs h₀ base S).get b := by
  by_cases h : ∃ p blk, Pend recs S p blk ∧ b = base + p
  · obtain ⟨p, blk, h1, rfl⟩ := h
    rw [heapAt_pend h1, heapAt_pend ((hp p blk).2 h1)]
  · have h1 : ∀ p blk, Pend recs S p blk → b ≠ base + p := fun p blk hp he => h ⟨p, blk, hp, he⟩
    rw [heapAt_not h1, heapAt_not (fun p blk hp' => h1 p blk ((hp p blk).1 hp')), hc]

/-! ## What the pass writes down -/

/-- Those before a place. -/
def bel (i : Nat) : Nat → Bool := fun q => decide (q < i)
def allB : Nat → Bool := fun _ => true

structure Recd (call : ACall) (base : Nat) (h₀ : AS) (tm₀ : Tm) (recs : List DRec) (i : Nat) (r : DRec) : Prop where
  tm : ∀ x, r.tm.at x = slotAt recs tm₀ (bel i) x
  h : r.h = chainAt recs h₀ (bel i)
  want : r.want = r.op.wanted r.tm
  kind : (r.want = false ∧ r.v = AV.undef ∧ r.al = none) ∨
    (r.want = true ∧ r.op.op.kind = .alloc ∧ ∃ blk mk, aalloc r.tm r.op.op = some (blk, mk) ∧ r.v = mk (base + i) ∧ r.al = some blk) ∨
    (r.want = true ∧ r.op.op.kind = .write ∧ r.al = none ∧ ∃ X, aoper call r.tm (absorb base X r.h) r.op.op = some (r.v, r.h') ∧ ∀ p blk, (p, blk) ∈ X ↔ Pend recs (bel i) p blk ∧ r.bf.testBit p = true) ∨
    (r.want = true ∧ (r.op.op.kind = .pure ∨ r.op.op.kind = .read) ∧ r.al = none ∧ ∃ s', aop r.tm r.h r.op.op = some (r.v, s'))

theorem lastBy_pre {β : Type} {f : DRec → Bool} {val : DRec → β} (pre rest : List DRec) (c : β) :
    lastBy (fun q r => bel pre.length q && f r) val 0 (pre ++ rest) c = lastBy (fun q r => allB q && f r) val 0 pre c := by
  rw [lastBy_append]
  rw [lastBy_none rest _ _ fun q r _ => by simp [bel]; intro h; omega]
  refine lastBy_congr pre 0 c fun q r hq => ?_
  have := (List.getElem?_eq_some_iff.1 hq).1
  simp [bel, allB, this]

theorem lastBy_snoc {β : Type} {f : DRec → Bool} {val : DRec → β} (pre : List DRec) (r : DRec) (c : β) :
    lastBy (fun q r => allB q && f r) val 0 (pre ++ [r]) c = if f r then val r else lastBy (fun q r => allB q && f r) val 0 pre c := by
  rw [lastBy_append]
  simp [lastBy, allB]

theorem Pend_pre {pre rest : List DRec} {p : Nat} {blk : ABlk} : Pend (pre ++ rest) (bel pre.length) p blk ↔ Pend pre allB p blk := by
  unfold Pend
  constructor
  · rintro ⟨r, h1, h2, h3, h4⟩
    have hlt : p < pre.length := by simpa [bel] using h3
    rw [List.getElem?_append_left hlt] at h1
    refine ⟨r, h1, h2, rfl, fun q x hq _ hW => ?_⟩
    have hql := (List.getElem?_eq_some_iff.1 hq).1
    exact h4 q x (by rw [List.getElem?_append_left hql]; exact hq) (by simp [bel, hql]) hW
  · rintro ⟨r, h1, h2, h3, h4⟩
    have hlt := (List.getElem?_eq_some_iff.1 h1).1
    refine ⟨r, by rw [List.getElem?_append_left hlt]; exact h1, h2, by simp [bel, hlt], fun q x hq hS hW => ?_⟩
    have hql : q < pre.length := by simpa [bel] using hS
    rw [List.getElem?_append_left hql] at hq
    exact h4 q x hq rfl hW

/-- Those before are before. -/
def BackR (recs : List DRec) : Prop := ∀ (q : Nat) (r : DRec), recs[q]? = some r → ∀ p, r.bf.testBit p = true → p < q

theorem Pend_snoc {pre : List DRec} {r : DRec} (hb : BackR pre) (hal : r.al ≠ none → r.isW = false) {p : Nat} {blk : ABlk} :
    Pend (pre ++ [r]) allB p blk ↔ (Pend pre allB p blk ∧ (r.isW = true → r.bf.testBit p = false)) ∨ (p = pre.length ∧ r.al = some blk) := by
  unfold Pend
  constructor
  · rintro ⟨x, h1, h2, _, h4⟩
    by_cases hlt : p < pre.length
    · rw [List.getElem?_append_left hlt] at h1
      refine .inl ⟨⟨x, h1, h2, rfl, fun q y hq _ hW => ?_⟩, fun hW => h4 pre.length r (by simp) rfl hW⟩
      have hql := (List.getElem?_eq_some_iff.1 hq).1
      exact h4 q y (by rw [List.getElem?_append_left hql]; exact hq) rfl hW
    · have hlt2 := (List.getElem?_eq_some_iff.1 h1).1
      simp at hlt2
      have hp : p = pre.length := by omega
      subst hp
      simp at h1
      subst h1
      exact .inr ⟨rfl, h2⟩
  · rintro (⟨⟨x, h1, h2, _, h4⟩, h5⟩ | ⟨rfl, h2⟩)
    · have hlt := (List.getElem?_eq_some_iff.1 h1).1
      refine ⟨x, by rw [List.getElem?_append_left hlt]; exact h1, h2, rfl, fun q y hq _ hW => ?_⟩
      by_cases hql : q < pre.length
      · rw [List.getElem?_append_left hql] at hq
        exact h4 q y hq rfl hW
      · have hlt2 := (List.getElem?_eq_some_iff.1 hq).1
        simp at hlt2
        have hp : q = pre.length := by omega
        subst hp
        simp at hq
        subst hq
        exact h5 hW
    · refine ⟨r, by simp, h2, rfl, fun q y hq _ hW => ?_⟩
      by_cases hql : q < pre.length
      · rw [List.getElem?_append_left hql] at hq
        cases hbb : y.bf.testBit pre.length with
        | false => rfl
        | true => have := hb q y hq _ hbb; omega
      · have hlt2 := (List.getElem?_eq_some_iff.1 hq).1
        simp at hlt2
        have hp : q = pre.length := by omega
        subst hp
        simp at hq
        subst hq
        rw [hal (by rw [h2]; simp)] at hW
        cases hW

theorem dpass_spec {call : ACall} {base : Nat} {h₀ : AS} {tm₀ : Tm} : ∀ (l : List (AOper × Nat)) (pre : List DRec) (tm : Tm) (h : AS) (pend : List (Nat × ABlk)) (recs : List DRec) (tm' : Tm) (h' : AS) (pend' : List (Nat × ABlk)),
    dpass call base pre.length l tm h pend = some (recs, tm', h', pend') → BackR pre → (∀ q x, l[q]? = some x → ∀ p, x.2.testBit p = true → p < pre.length + q) →
    (∀ x, tm.at x = slotAt pre tm₀ allB x) → h = chainAt pre h₀ allB → (∀ p blk, (p, blk) ∈ pend ↔ Pend pre allB p blk) →
    recs.map (fun r => (r.op, r.bf)) = l ∧ (∀ i r, recs[i]? = some r → Recd call base h₀ tm₀ (pre ++ recs) (pre.length + i) r) ∧
    (∀ x, tm'.at x = slotAt (pre ++ recs) tm₀ allB x) ∧ h' = chainAt (pre ++ recs) h₀ allB ∧ (∀ p blk, (p, blk) ∈ pend' ↔ Pend (pre ++ recs) allB p blk)
  | [], pre, tm, h, pend, recs, tm', h', pend', hd, _, _, htm, hh, hp => by
    simp only [dpass, Option.some.injEq, Prod.mk.injEq] at hd
    obtain ⟨rfl, rfl, rfl, rfl⟩ := hd
    refine ⟨rfl, fun i r hr => by simp at hr, ?_, ?_, ?_⟩ <;> simp only [List.append_nil] <;> assumption
  | (o, bf) :: l, pre, tm, h, pend, recs, tm', h', pend', hd, hb, hbl, htm, hh, hp => by
    -- one record, and the rest
    have go : ∀ (r : DRec) (rest : List DRec) (tm1 : Tm) (h1 : AS) (pend1 : List (Nat × ABlk)), dpass call base (pre.length + 1) l tm1 h1 pend1 = some (rest, tm', h', pend') → recs = r :: rest →
        r.op = o → r.bf = bf → r.tm = tm → r.h = h → tm1 = tm.put o.dst r.v → h1 = (if r.isW then r.h' else h) → (r.al ≠ none → r.isW = false) →
        (∀ p blk, (p, blk) ∈ pend1 ↔ (Pend pre allB p blk ∧ (r.isW = true → r.bf.testBit p = false)) ∨ (p = pre.length ∧ r.al = some blk)) →
        (∀ recs', Recd call base h₀ tm₀ (pre ++ r :: recs') pre.length r) →
        recs.map (fun r => (r.op, r.bf)) = (o, bf) :: l ∧ (∀ i r, recs[i]? = some r → Recd call base h₀ tm₀ (pre ++ recs) (pre.length + i) r) ∧
        (∀ x, tm'.at x = slotAt (pre ++ recs) tm₀ allB x) ∧ h' = chainAt (pre ++ recs) h₀ allB ∧ (∀ p blk, (p, blk) ∈ pend' ↔ Pend (pre ++ recs) allB p blk) := by
      intro r rest tm1 h1 pend1 hd1 hrec e1 e2 e3 e4 e5 e6 hal hpend hR
      have hlen : (pre ++ [r]).length = pre.length + 1 := by simp
      have hb' : BackR (pre ++ [r]) := by
        intro q x hq p hbit
        by_cases hql : q < pre.length
        · rw [List.getElem?_append_left hql] at hq; exact hb q x hq p hbit
        · have hlt2 := (List.getElem?_eq_some_iff.1 hq).1
          simp at hlt2
          have hqe : q = pre.length := by omega
          subst hqe
          simp at hq
          subst hq
          rw [e2] at hbit
          have := hbl 0 (o, bf) rfl p hbit
          omega
      have ih := dpass_spec (call := call) (base := base) (h₀ := h₀) (tm₀ := tm₀) l (pre ++ [r]) tm1 h1 pend1 rest tm' h' pend' (by rw [hlen]; exact hd1) hb'
        (fun q x hq p hbit => by have := hbl (q + 1) x (by simpa using hq) p hbit; rw [hlen]; omega)
        (fun x => by
          rw [e5, Tm.put_at]
          unfold slotAt
          rw [lastBy_snoc (f := fun r => r.op.dst == some x), e1]
          by_cases hx : o.dst = some x
          · simp [hx]
          · rw [if_neg hx, if_neg (by simpa using hx), htm]
            rfl)
        (by
          rw [e6]
          unfold chainAt
          rw [lastBy_snoc (f := fun r => r.isW), hh]
          rfl)
        (fun p blk => by rw [hpend, Pend_snoc hb hal])
      have happ : pre ++ [r] ++ rest = pre ++ recs := by rw [hrec]; simp
      rw [happ] at ih
      obtain ⟨i1, i2, i3, i4, i5⟩ := ih
      refine ⟨by rw [hrec, List.map_cons, i1, e1, e2], fun i x hx => ?_, i3, i4, i5⟩
      cases i with
      | zero =>
        rw [hrec] at hx
        simp at hx
        subst hx
        rw [hrec]
        exact hR rest
      | succ i =>
        rw [hrec] at hx
        have := i2 i x (by simpa using hx)
        rw [hlen] at this
        have e : pre.length + (i + 1) = pre.length + 1 + i := by omega
        rw [e]; exact this
    have base1 : ∀ (r : DRec) (recs' : List DRec), r.tm = tm → ∀ x, r.tm.at x = slotAt (pre ++ r :: recs') tm₀ (bel pre.length) x := by
      intro r recs' hr x
      rw [hr, htm]
      unfold slotAt
      rw [lastBy_pre (f := fun r => r.op.dst == some x)]
    have base2 : ∀ (r : DRec) (recs' : List DRec), r.h = h → r.h = chainAt (pre ++ r :: recs') h₀ (bel pre.length) := by
      intro r recs' hr
      rw [hr, hh]
      unfold chainAt
      rw [lastBy_pre (f := fun r => r.isW)]
    simp only [dpass] at hd
    split at hd
    · rename_i hw
      split at hd
      · rename_i hk
        split at hd
        · rename_i blk mk hal
          split at hd
          · rename_i rest x hd1
            simp only [Option.some.injEq, Prod.mk.injEq] at hd
            obtain ⟨rfl, rfl⟩ := hd
            refine go _ rest _ _ _ hd1 rfl rfl rfl rfl rfl rfl (by simp [DRec.isW, hk]) (fun _ => by simp [DRec.isW, hk]) (fun p b => ?_) fun recs' => ?_
            · simp only [DRec.isW, hk, List.mem_append, hp, List.mem_singleton, Prod.mk.injEq, Option.some.injEq]
              constructor
              · rintro (h1 | ⟨h1, h2⟩)
                · exact .inl ⟨h1, by simp⟩
                · exact .inr ⟨h1, h2.symm⟩
              · rintro (⟨h1, _⟩ | ⟨h1, h2⟩)
                · exact .inl h1
                · exact .inr ⟨h1, h2.symm⟩
            · exact ⟨base1 _ recs' rfl, base2 _ recs' rfl, hw.symm, .inr (.inl ⟨rfl, hk, blk, mk, hal, rfl, rfl⟩)⟩
          · cases hd
        · cases hd
      · rename_i hk
        split at hd
        · rename_i v h1 hao
          split at hd
          · rename_i rest x hd1
            simp only [Option.some.injEq, Prod.mk.injEq] at hd
            obtain ⟨rfl, rfl⟩ := hd
            refine go _ rest _ _ _ hd1 rfl rfl rfl rfl rfl rfl (by simp [DRec.isW, hk]) (fun hne => absurd rfl hne) (fun p b => ?_) fun recs' => ?_
            · simp only [DRec.isW, hk, List.mem_filter, hp, Bool.not_eq_true', reduceCtorEq, and_false, or_false]
              constructor
              · rintro ⟨h1, h2⟩; exact ⟨h1, fun _ => h2⟩
              · rintro ⟨h1, h2⟩; exact ⟨h1, h2 rfl⟩
            · refine ⟨base1 _ recs' rfl, base2 _ recs' rfl, hw.symm, .inr (.inr (.inl ⟨rfl, hk, rfl, _, hao, fun p b => ?_⟩))⟩
              rw [List.mem_filter, hp, Pend_pre]
          · cases hd
        · cases hd
      · rename_i hk1 hk2
        split at hd
        · rename_i v s1 hao
          split at hd
          · rename_i rest x hd1
            simp only [Option.some.injEq, Prod.mk.injEq] at hd
            obtain ⟨rfl, rfl⟩ := hd
            have hnw : (o.op.kind == OK4.write) = false := by
              cases hk : o.op.kind <;> first | rfl | exact absurd hk hk2
            refine go _ rest _ _ _ hd1 rfl rfl rfl rfl rfl rfl (by simp [DRec.isW, hnw]) (fun hne => absurd rfl hne) (fun p b => ?_) fun recs' => ?_
            · simp only [DRec.isW, hnw, hp, reduceCtorEq, and_false, or_false]
              constructor
              · intro h1; exact ⟨h1, by simp⟩
              · rintro ⟨h1, _⟩; exact h1
            · refine ⟨base1 _ recs' rfl, base2 _ recs' rfl, hw.symm, .inr (.inr (.inr ⟨rfl, ?_, rfl, s1, hao⟩))⟩
              cases hk : o.op.kind with
              | pure => exact .inl rfl
              | read => exact .inr rfl
              | alloc => exact absurd hk hk1
              | write => exact absurd hk hk2
          · cases hd
        · cases hd
    · rename_i hw
      split at hd
      · rename_i rest x hd1
        simp only [Option.some.injEq, Prod.mk.injEq] at hd
        obtain ⟨rfl, rfl⟩ := hd
        refine go _ rest _ _ _ hd1 rfl rfl rfl rfl rfl rfl (by simp [DRec.isW]) (fun hne => absurd rfl hne) (fun p b => ?_) fun recs' => ?_
        · simp only [DRec.isW, hp, reduceCtorEq, and_false, or_false]
          constructor
          · intro h1; exact ⟨h1, by simp⟩
          · rintro ⟨h1, _⟩; exact h1
        · exact ⟨base1 _ recs' rfl, base2 _ recs' rfl, by simpa using hw, .inl ⟨rfl, rfl, rfl⟩⟩
      · cases hd

/-! ## The checks -/

theorem dcheck1_spec {p : Nat} {r : DRec} : ∀ (l : List DRec) (q₀ : Nat), dcheck1 p r q₀ l = true → ∀ q x, l[q]? = some x → x.isW = true →
    (q₀ + q < p → r.bf.testBit (q₀ + q) = true ∨ r.reads x.h = true) ∧ (p < q₀ + q → x.bf.testBit p = true ∨ r.reads x.h' = true)
  | [], _, _, q, x, hx, _ => by simp at hx
  | y :: l, q₀, h, q, x, hx, hW => by
    simp only [dcheck1, Bool.and_eq_true] at h
    cases q with
    | zero =>
      simp at hx
      subst hx
      have h1 := h.1
      have hW' : (y.want && y.op.op.kind == OK4.write) = true := hW
      rw [Bool.and_eq_true] at hW'
      rw [if_pos hW'] at h1
      simp only [Nat.add_zero]
      constructor
      · intro hlt
        rw [if_pos hlt] at h1
        simpa using h1
      · intro hlt
        rw [if_neg (by omega), if_pos hlt] at h1
        simpa using h1
    | succ q =>
      have := dcheck1_spec l (q₀ + 1) h.2 q x (by simpa using hx) hW
      have e : q₀ + 1 + q = q₀ + (q + 1) := by omega
      rwa [e] at this

theorem dcheck_spec {all : List DRec} : ∀ (l : List DRec) (p₀ : Nat), dcheck all p₀ l = true → ∀ p r, l[p]? = some r → r.want = true → r.op.op.kind = .read → dcheck1 (p₀ + p) r 0 all = true
  | [], _, _, p, r, hr, _, _ => by simp at hr
  | y :: l, p₀, h, p, r, hr, hw, hk => by
    simp only [dcheck, Bool.and_eq_true] at h
    cases p with
    | zero =>
      simp at hr
      subst hr
      have h1 := h.1
      rw [if_pos (by simp [hw, hk])] at h1
      exact h1
    | succ p =>
      have := dcheck_spec l (p₀ + 1) h.2 p r (by simpa using hr) hw hk
      have e : p₀ + 1 + p = p₀ + (p + 1) := by omega
      rwa [e] at this

theorem reads_spec {r : DRec} {h : AS} (hk : r.op.op.kind = .read) (hr : r.reads h = true) : aop r.tm h r.op.op = some (r.v, h) := by
  unfold DRec.reads at hr
  split at hr
  · rename_i v s' he
    have := aop_keeps (by rw [hk]; simp) he
    subst this
    have hv : v = r.v := by simpa using hr
    rw [he, hv]
  · cases hr

theorem drawOk_spec {l : List AOper} {bef : List Nat} (h : drawOk l bef = true) : bef.length = l.length ∧ ∀ (i j : Nat) (oi oj : AOper) (bj : Nat), i < j → l[i]? = some oi → l[j]? = some oj → bef[j]? = some bj →
    bj.testBit i = true ∨ (¬ (oi.op.kind = .write ∧ oj.op.kind = .write) ∧ (∀ d, oi.dst = some d → d ∉ oj.names) ∧ (∀ d, oj.dst = some d → d ∉ oi.names)) := by
  unfold drawOk at h
  simp only [Bool.and_eq_true, beq_iff_eq] at h
  obtain ⟨hl, h⟩ := h
  refine ⟨hl, fun i j oi oj bj hij hi hj hbj => ?_⟩
  rw [List.all_eq_true] at h
  have hz : (l.zip bef)[j]? = some (oj, bj) := by rw [List.getElem?_zip_eq_some]; exact ⟨hj, hbj⟩
  have h1 := h ((oj, bj), j) (mem_zipIdx0.2 hz)
  simp only at h1
  rw [List.all_eq_true] at h1
  have hilt : i < bef.length := by rw [hl]; exact (List.getElem?_eq_some_iff.1 hi).1
  have hz2 : (l.zip bef)[i]? = some (oi, bef[i]) := by rw [List.getElem?_zip_eq_some]; exact ⟨hi, List.getElem?_eq_getElem hilt⟩
  have h2 := h1 ((oi, bef[i]), i) (mem_zipIdx0.2 hz2)
  simp only [hij, if_true, Bool.or_eq_true, Bool.and_eq_true] at h2
  rcases h2 with h2 | ⟨⟨h2, h3⟩, h4⟩
  · exact .inl h2
  · refine .inr ⟨?_, fun d hd => ?_, fun d hd => ?_⟩
    · rintro ⟨k1, k2⟩
      simp [k1, k2] at h2
    · rw [hd] at h3
      simpa using h3
    · rw [hd] at h4
      simpa using h4

end Go.Ai
