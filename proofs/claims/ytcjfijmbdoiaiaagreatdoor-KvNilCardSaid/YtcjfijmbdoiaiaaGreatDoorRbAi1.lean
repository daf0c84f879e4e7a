/- A deterministic reading of the model's runs ('abstract interpreter'): values, a heap keyed by numbers, and how both relate to the model's values and world. Proved here: the relation's plain laws. -/
import Derived.Orders
import Derived.Laws.World
import Derived.Laws.Cells
import Derived.Deep.AppendSrc
import Derived.Laws.CopyRow
set_option linter.unusedSimpArgs false
set_option linter.unusedVariables false
namespace Go.Ai

/-! ## Tries keyed by numbers -/

inductive PT (α : Type) where
  | leaf
  | node (v : Option α) (l r : PT α)

namespace PT
variable {α : Type}

def get : PT α → Nat → Option α
  | .leaf, _ => none
  | .node v l r, k => if k = 0 then v else if k % 2 = 1 then l.get (k / 2) else r.get (k / 2 - 1)

def setF : Nat → PT α → Nat → Option α → PT α
  | 0, t, _, _ => t
  | f + 1, .leaf, k, v =>
    if k = 0 then .node v .leaf .leaf else if k % 2 = 1 then .node none (setF f .leaf (k / 2) v) .leaf else .node none .leaf (setF f .leaf (k / 2 - 1) v)
  | f + 1, .node w l r, k, v =>
    if k = 0 then .node v l r else if k % 2 = 1 then .node w (setF f l (k / 2) v) r else .node w l (setF f r (k / 2 - 1) v)

def set (t : PT α) (k : Nat) (v : Option α) : PT α := setF (k + 1) t k v

theorem get_leaf (k : Nat) : (PT.leaf : PT α).get k = none := by simp [get]

theorem get_setF : ∀ (f : Nat) (t : PT α) (k : Nat) (v : Option α) (k' : Nat), k < f → (setF f t k v).get k' = if k' = k then v else t.get k'
  | 0, _, _, _, _, h => absurd h (by omega)
  | f + 1, .leaf, k, v, k', h => by
    simp only [setF]
    by_cases h0 : k = 0
    · subst h0
      simp only [if_true, get]
      by_cases h1 : k' = 0
      · simp [h1]
      · simp [h1]
    · simp only [h0, if_false]
      by_cases h1 : k % 2 = 1
      · simp only [h1, if_true, get]
        by_cases h2 : k' = 0
        · have : ¬ k' = k := by omega
          simp [h2]; intro h; omega
        · simp only [h2, if_false]
          by_cases h3 : k' % 2 = 1
          · simp only [h3, if_true]
            rw [get_setF f .leaf (k / 2) v (k' / 2) (by omega)]
            simp only [get]
            by_cases h4 : k' = k
            · simp [h4]
            · have : ¬ k' / 2 = k / 2 := by omega
              simp [h4, this]
          · have : ¬ k' = k := by intro h; rw [h] at h3; exact h3 h1
            simp [h3, this]
      · simp only [h1, if_false, get]
        by_cases h2 : k' = 0
        · simp [h2]; intro h; omega
        · simp only [h2, if_false]
          by_cases h3 : k' % 2 = 1
          · have : ¬ k' = k := by intro h; rw [h] at h3; exact h1 h3
            simp [h3, this]
          · simp only [h3, if_false]
            rw [get_setF f .leaf (k / 2 - 1) v (k' / 2 - 1) (by omega)]
            simp only [get]
            by_cases h4 : k' = k
            · simp [h4]
            · have : ¬ k' / 2 - 1 = k / 2 - 1 := by omega
              simp [h4, this]
  | f + 1, .node w l r, k, v, k', h => by
    simp only [setF]
    by_cases h0 : k = 0
    · subst h0
      simp only [if_true, get]
      by_cases h1 : k' = 0
      · simp [h1]
      · simp [h1]
    · simp only [h0, if_false]
      by_cases h1 : k % 2 = 1
      · simp only [h1, if_true, get]
        by_cases h2 : k' = 0
        · simp [h2]; intro h; omega
        · simp only [h2, if_false]
          by_cases h3 : k' % 2 = 1
          · simp only [h3, if_true]
            rw [get_setF f l (k / 2) v (k' / 2) (by omega)]
            by_cases h4 : k' = k
            · simp [h4]
            · have : ¬ k' / 2 = k / 2 := by omega
              simp [h4, this]
          · have : ¬ k' = k := by intro h; rw [h] at h3; exact h3 h1
            simp [h3, this]
      · simp only [h1, if_false, get]
        by_cases h2 : k' = 0
        · simp [h2]; intro h; omega
        · simp only [h2, if_false]
          by_cases h3 : k' % 2 = 1
          · have : ¬ k' = k := by intro h; rw [h] at h3; exact h1 h3
            simp [h3, this]
          · simp only [h3, if_false]
            rw [get_setF f r (k / 2 - 1) v (k' / 2 - 1) (by omega)]
            by_cases h4 : k' = k
            · simp [h4]
            · have : ¬ k' / 2 - 1 = k / 2 - 1 := by omega
              simp [h4, this]

theorem get_set (t : PT α) (k : Nat) (v : Option α) (k' : Nat) : (t.set k v).get k' = if k' = k then v else t.get k' :=
  get_setF (k + 1) t k v k' (by omega)

theorem get_set_same (t : PT α) (k : Nat) (v : Option α) : (t.set k v).get k = v := by rw [get_set]; simp
theorem get_set_ne (t : PT α) {k k' : Nat} (v : Option α) (h : k' ≠ k) : (t.set k v).get k' = t.get k' := by rw [get_set]; simp [h]
end PT

/-! ## Values -/

inductive AV where
  | bool (b : Bool)
  | int (k : IntKind) (n : Int)
  | str (s : List UInt8)
  | ptr (a : Option (Nat × Nat))
  | slice (a : Option (Nat × Nat)) (len cap : Nat)
  | map (r : Option Nat)
  | func (fn : Fn) (first captured : List AV)
  | nilFunc
  | iface (t : TypeId) (v : AV)
  | nilIface
  | agg (cs : List AV)
  | tuple (vs : List AV)
  deriving Inhabited

def AV.undef : AV := .tuple []

def AV.cells : AV → List AV
  | .agg cs => cs
  | v => [v]

/-- A value that fills one cell. -/
def AV.one : AV → Bool
  | .agg _ | .tuple _ => false
  | _ => true

/-- What a block of the heap is in the model's: its number, where its first cell lies, how many cells are known and how many there are, an element's cells; exact: no spare room; ro: never written. -/
structure BI where
  blk : Nat
  del : Nat
  sz : Nat
  csz : Nat
  esz : Nat
  exact : Bool
  ro : Bool

abbrev Mu := Nat → Option BI

def Mu.le (μ μ' : Mu) : Prop := ∀ b i, μ b = some i → μ' b = some i

theorem Mu.le.refl (μ : Mu) : Mu.le μ μ := fun _ _ h => h
theorem Mu.le.trans {μ μ' μ'' : Mu} (h : Mu.le μ μ') (h' : Mu.le μ' μ'') : Mu.le μ μ'' := fun b i hb => h' b i (h b i hb)

/-- A slice's capacity: as the model has it, or, at the end of a block that was appended to, at least that. -/
def CapOK (i : BI) (o c c' : Nat) : Prop :=
  c' = c ∨ (i.exact = false ∧ o + c * i.esz = i.sz ∧ c ≤ c' ∧ i.del + o + c' * i.esz ≤ i.csz)

mutual
inductive VR (μ : Mu) : AV → Value → Prop where
  | bool (b : Bool) : VR μ (.bool b) (.bool b)
  | int (k : IntKind) (n : Int) : VR μ (.int k n) (.int k n)
  | str (l : List UInt8) (s : ByteArray) (h : s.data.toList = l) : VR μ (.str l) (.string s)
  | nilptr : VR μ (.ptr none) (.pointer none)
  | ptr (b o : Nat) (i : BI) (h : μ b = some i) : VR μ (.ptr (some (b, o))) (.pointer (some ⟨i.blk, i.del + o, none⟩))
  | nilslice : VR μ (.slice none 0 0) (.slice none 0 0)
  | slice (b o l c c' : Nat) (i : BI) (h : μ b = some i) (hl : l ≤ c) (hc : CapOK i o c c') :
      VR μ (.slice (some (b, o)) l c) (.slice (some ⟨i.blk, i.del + o, none⟩) l c')
  | slice0 (b o o' : Nat) (i : BI) (h : μ b = some i) : VR μ (.slice (some (b, o)) 0 0) (.slice (some ⟨i.blk, o', none⟩) 0 0)
  | nilmap : VR μ (.map none) (.map none)
  | map (b : Nat) (i : BI) (h : μ b = some i) : VR μ (.map (some b)) (.map (some i.blk))
  | func (fn : Fn) (fa ca : List AV) (fc cc : Array Value) (hf : VRs μ fa fc.toList) (hc : VRs μ ca cc.toList) : VR μ (.func fn fa ca) (.func fn fc cc)
  | nilFunc : VR μ .nilFunc .nilFunc
  | iface (t : TypeId) (v : AV) (v' : Value) (h : VR μ v v') : VR μ (.iface t v) (.iface t v')
  | nilIface : VR μ .nilIface .nilIface
  | agg (l : List AV) (cs : Array Value) (h : VRs μ l cs.toList) : VR μ (.agg l) (.agg cs)
  | tuple (l : List AV) (cs : Array Value) (h : VRs μ l cs.toList) : VR μ (.tuple l) (.tuple cs)
inductive VRs (μ : Mu) : List AV → List Value → Prop where
  | nil : VRs μ [] []
  | cons (v : AV) (v' : Value) (l : List AV) (l' : List Value) (h : VR μ v v') (hl : VRs μ l l') : VRs μ (v :: l) (v' :: l')
end

mutual
theorem VR.mono {μ μ' : Mu} (hm : Mu.le μ μ') : ∀ {v : AV} {v' : Value}, VR μ v v' → VR μ' v v'
  | _, _, .bool b => .bool b
  | _, _, .int k n => .int k n
  | _, _, .str l s h => .str l s h
  | _, _, .nilptr => .nilptr
  | _, _, .ptr b o i h => .ptr b o i (hm b i h)
  | _, _, .nilslice => .nilslice
  | _, _, .slice b o l c c' i h hl hc => .slice b o l c c' i (hm b i h) hl hc
  | _, _, .slice0 b o o' i h => .slice0 b o o' i (hm b i h)
  | _, _, .nilmap => .nilmap
  | _, _, .map b i h => .map b i (hm b i h)
  | _, _, .func fn fa ca fc cc hf hc => .func fn fa ca fc cc (VRs.mono hm hf) (VRs.mono hm hc)
  | _, _, .nilFunc => .nilFunc
  | _, _, .iface t v v' h => .iface t v v' (VR.mono hm h)
  | _, _, .nilIface => .nilIface
  | _, _, .agg l cs h => .agg l cs (VRs.mono hm h)
  | _, _, .tuple l cs h => .tuple l cs (VRs.mono hm h)
theorem VRs.mono {μ μ' : Mu} (hm : Mu.le μ μ') : ∀ {l : List AV} {l' : List Value}, VRs μ l l' → VRs μ' l l'
  | _, _, .nil => .nil
  | _, _, .cons v v' l l' h hl => .cons v v' l l' (VR.mono hm h) (VRs.mono hm hl)
end

section
variable {μ : Mu}

theorem VR.undef : VR μ AV.undef Go.undef := .tuple [] #[] .nil

theorem VRs.length {l : List AV} {l' : List Value} (h : VRs μ l l') : l'.length = l.length := by
  induction l generalizing l' with
  | nil => cases h; rfl
  | cons v l ih => cases h with | cons _ _ _ _ _ hl => simp [ih hl]

theorem VRs.append {l m : List AV} {l' m' : List Value} (h : VRs μ l l') (hm : VRs μ m m') : VRs μ (l ++ m) (l' ++ m') := by
  induction l generalizing l' with
  | nil => cases h; exact hm
  | cons v l ih => cases h with | cons _ _ _ _ hv hl => exact .cons _ _ _ _ hv (ih hl)

theorem VRs.take {l : List AV} {l' : List Value} (h : VRs μ l l') : ∀ n, VRs μ (l.take n) (l'.take n) := by
  induction l generalizing l' with
  | nil => cases h; intro n; simp; exact .nil
  | cons v l ih =>
    cases h with
    | cons _ _ _ _ hv hl => intro n; cases n with
      | zero => exact .nil
      | succ n => exact .cons _ _ _ _ hv (ih hl n)

theorem VRs.drop {l : List AV} {l' : List Value} (h : VRs μ l l') : ∀ n, VRs μ (l.drop n) (l'.drop n) := by
  induction l generalizing l' with
  | nil => cases h; intro n; simp; exact .nil
  | cons v l ih =>
    cases h with
    | cons _ _ _ _ hv hl => intro n; cases n with
      | zero => exact .cons _ _ _ _ hv hl
      | succ n => exact ih hl n

theorem VRs.get {l : List AV} {l' : List Value} (h : VRs μ l l') : ∀ {n : Nat} {v : AV}, l[n]? = some v → ∃ v', l'[n]? = some v' ∧ VR μ v v' := by
  induction l generalizing l' with
  | nil => intro n v hv; simp at hv
  | cons u l ih =>
    cases h with
    | cons _ u' _ _ hv hl =>
      intro n v hn
      cases n with
      | zero => simp at hn; subst hn; exact ⟨u', rfl, hv⟩
      | succ n => simp at hn; obtain ⟨v', h1, h2⟩ := ih hl hn; exact ⟨v', by simpa using h1, h2⟩

theorem VRs.get' {l : List AV} {l' : List Value} (h : VRs μ l l') : ∀ {n : Nat} {v' : Value}, l'[n]? = some v' → ∃ v, l[n]? = some v ∧ VR μ v v' := by
  intro n v' hv
  have hn : n < l.length := by
    have := (List.getElem?_eq_some_iff.1 hv).1
    rw [h.length] at this; exact this
  obtain ⟨u', h1, h2⟩ := h.get (List.getElem?_eq_getElem hn)
  rw [hv] at h1
  cases h1
  exact ⟨_, List.getElem?_eq_getElem hn, h2⟩

theorem VRs.of_get {l : List AV} : ∀ {l' : List Value}, l'.length = l.length → (∀ (n : Nat) (v : AV) (v' : Value), l[n]? = some v → l'[n]? = some v' → VR μ v v') → VRs μ l l' := by
  induction l with
  | nil => intro l' hl _; cases l' with
    | nil => exact .nil
    | cons _ _ => simp at hl
  | cons v l ih =>
    intro l' hl h
    cases l' with
    | nil => simp at hl
    | cons v' l' => exact .cons _ _ _ _ (h 0 v v' rfl rfl) (ih (by simpa using hl) (fun n u u' h1 h2 => h (n + 1) u u' (by simpa using h1) (by simpa using h2)))

theorem VRs.set {l : List AV} {l' : List Value} (h : VRs μ l l') {v : AV} {v' : Value} (hv : VR μ v v') : ∀ n, VRs μ (l.set n v) (l'.set n v') := by
  induction l generalizing l' with
  | nil => cases h; intro n; exact .nil
  | cons u l ih =>
    cases h with
    | cons _ u' _ _ hu hl => intro n; cases n with
      | zero => exact .cons _ _ _ _ hv hl
      | succ n => exact .cons _ _ _ _ hu (ih hl n)

theorem VRs.reverse {l : List AV} {l' : List Value} (h : VRs μ l l') : VRs μ l.reverse l'.reverse := by
  induction l generalizing l' with
  | nil => cases h; exact .nil
  | cons u l ih =>
    cases h with
    | cons _ u' _ _ hu hl => simp only [List.reverse_cons]; exact (ih hl).append (.cons _ _ _ _ hu .nil)

theorem VRs.getD {l : List AV} {l' : List Value} (h : VRs μ l l') (n : Nat) : VR μ (l.getD n AV.undef) (l'.getD n Go.undef) := by
  by_cases hn : n < l.length
  · obtain ⟨v', h1, h2⟩ := h.get (List.getElem?_eq_getElem hn)
    simp only [List.getD, h1, List.getElem?_eq_getElem hn, Option.getD_some]
    exact h2
  · have h1 : l[n]? = none := List.getElem?_eq_none (by omega)
    have h2 : l'[n]? = none := List.getElem?_eq_none (by rw [h.length]; omega)
    simp only [List.getD, h1, h2, Option.getD_none]
    exact VR.undef

theorem VRs.of_map {α : Type} (f : α → AV) (g : α → Value) : ∀ (l : List α), (∀ x ∈ l, VR μ (f x) (g x)) → VRs μ (l.map f) (l.map g)
  | [], _ => .nil
  | x :: l, h => .cons _ _ _ _ (h x (by simp)) (VRs.of_map f g l (fun y hy => h y (by simp [hy])))

theorem VR.cells {v : AV} {v' : Value} (h : VR μ v v') : VRs μ v.cells v'.cells.toList := by
  cases h with
  | agg l cs h => exact h
  | bool b => exact .cons _ _ _ _ (.bool b) .nil
  | int k n => exact .cons _ _ _ _ (.int k n) .nil
  | str l s h => exact .cons _ _ _ _ (.str l s h) .nil
  | nilptr => exact .cons _ _ _ _ .nilptr .nil
  | ptr b o i h => exact .cons _ _ _ _ (.ptr b o i h) .nil
  | nilslice => exact .cons _ _ _ _ .nilslice .nil
  | slice b o l c c' i h hl hc => exact .cons _ _ _ _ (.slice b o l c c' i h hl hc) .nil
  | slice0 b o o' i h => exact .cons _ _ _ _ (.slice0 b o o' i h) .nil
  | nilmap => exact .cons _ _ _ _ .nilmap .nil
  | map b i h => exact .cons _ _ _ _ (.map b i h) .nil
  | func fn fa ca fc cc hf hc => exact .cons _ _ _ _ (.func fn fa ca fc cc hf hc) .nil
  | nilFunc => exact .cons _ _ _ _ .nilFunc .nil
  | iface t v v' h => exact .cons _ _ _ _ (.iface t v v' h) .nil
  | nilIface => exact .cons _ _ _ _ .nilIface .nil
  | tuple l cs h => exact .cons _ _ _ _ (.tuple l cs h) .nil

theorem VR.oneCell {v : AV} {v' : Value} (h : VR μ v v') (h1 : v.one = true) : v'.oneCell' = true := by
  cases h <;> first | rfl | cases h1
end

/-! ## The heap -/

inductive ABlk where
  | cells (cs : List AV) (esz : Nat) (exact ro : Bool) (el : Option TypeId)
  | map (es : List (AV × AV))
  | buf (s : List UInt8)

def ABlk.ro : ABlk → Bool
  | .cells _ _ _ ro _ => ro
  | _ => false

structure AS where
  hp : PT ABlk
  nx : Nat

def AS.get (s : AS) (b : Nat) : Option ABlk := s.hp.get b
def AS.put (s : AS) (b : Nat) (o : ABlk) : AS := ⟨s.hp.set b (some o), s.nx⟩
def AS.kill (s : AS) (b : Nat) : AS := ⟨s.hp.set b none, s.nx⟩
def AS.new (s : AS) (o : ABlk) : AS := ⟨s.hp.set s.nx (some o), s.nx + 1⟩

theorem AS.get_put (s : AS) (b : Nat) (o : ABlk) (c : Nat) : (s.put b o).get c = if c = b then some o else s.get c := PT.get_set _ _ _ _
theorem AS.get_kill (s : AS) (b : Nat) (c : Nat) : (s.kill b).get c = if c = b then none else s.get c := PT.get_set _ _ _ _
theorem AS.get_new (s : AS) (o : ABlk) (c : Nat) : (s.new o).get c = if c = s.nx then some o else s.get c := PT.get_set _ _ _ _

inductive MRs (μ : Mu) : List (AV × AV) → List MapEntry → Prop where
  | nil : MRs μ [] []
  | cons (k v : AV) (e : MapEntry) (l : List (AV × AV)) (l' : List MapEntry) (hk : VR μ k e.key) (hv : VR μ v e.val) (hl : MRs μ l l') : MRs μ ((k, v) :: l) (e :: l')

theorem MRs.mono {μ μ' : Mu} (hm : Mu.le μ μ') {l : List (AV × AV)} {l' : List MapEntry} (h : MRs μ l l') : MRs μ' l l' := by
  induction h with
  | nil => exact .nil
  | cons k v e l l' hk hv _ ih => exact .cons k v e l l' (hk.mono hm) (hv.mono hm) ih

/-- A map's entries bear stamps below its clock, no two alike. -/
def Stamps (es : List MapEntry) (clock : Nat) : Prop := (es.map (·.born)).Nodup ∧ ∀ e ∈ es, e.born < clock

theorem Stamps.nil (clock : Nat) : Stamps [] clock := ⟨.nil, fun _ h => by cases h⟩

/-- How a block lies in the model's world. -/
def BR (μ : Mu) (i : BI) (w : World) : ABlk → Prop
  | .cells cs esz ex ro elo => i.sz = cs.length ∧ i.esz = esz ∧ i.exact = ex ∧ i.ro = ro ∧
      ∃ cc el fr, w.heap[i.blk]? = some (.cells cc el fr) ∧ cc.size = i.csz ∧ i.del + cs.length ≤ cc.size ∧
        VRs μ cs ((cc.toList.drop i.del).take cs.length) ∧ (ro = false → ∀ j, j < cc.size → ¬ (fr.1 ≤ j ∧ j < fr.2)) ∧ (∀ t, elo = some t → el = t) ∧ (ex = true → i.del = 0 ∧ cc.size = cs.length)
  | .map es => i.ro = false ∧ ∃ ees clock, w.heap[i.blk]? = some (.map ees clock) ∧ MRs μ es ees.toList ∧ Stamps ees.toList clock
  | .buf s => i.sz = s.length ∧ i.esz = 1 ∧ i.exact = false ∧ i.ro = false ∧
      ∃ cc el fr, w.heap[i.blk]? = some (.cells cc el fr) ∧ cc.size = i.csz ∧ i.del + s.length ≤ cc.size ∧
        (cc.toList.drop i.del).take s.length = s.map (fun b => Value.int .u8 b.toNat) ∧ (∀ j, i.del + s.length ≤ j → j < cc.size → ¬ (fr.1 ≤ j ∧ j < fr.2))

theorem BR.mono {μ μ' : Mu} (hm : Mu.le μ μ') {i : BI} {w : World} {o : ABlk} (h : BR μ i w o) : BR μ' i w o := by
  cases o with
  | cells cs esz ex ro elo =>
    obtain ⟨h1, h2, h3, h4, cc, el, fr, h5, h6, h7, h8, h9⟩ := h
    exact ⟨h1, h2, h3, h4, cc, el, fr, h5, h6, h7, h8.mono hm, h9⟩
  | map es =>
    obtain ⟨h1, ees, clock, h2, h3, h4⟩ := h
    exact ⟨h1, ees, clock, h2, h3.mono hm, h4⟩
  | buf s => exact h

theorem BR.of_heap {μ : Mu} {i : BI} {w w' : World} {o : ABlk} (h : BR μ i w o) (hw : w'.heap[i.blk]? = w.heap[i.blk]?) : BR μ i w' o := by
  cases o with
  | cells cs esz ex ro elo =>
    obtain ⟨h1, h2, h3, h4, cc, el, fr, h5, h6⟩ := h
    exact ⟨h1, h2, h3, h4, cc, el, fr, by rw [hw]; exact h5, h6⟩
  | map es =>
    obtain ⟨h1, ees, clock, h2, h3⟩ := h
    exact ⟨h1, ees, clock, by rw [hw]; exact h2, h3⟩
  | buf s =>
    obtain ⟨h1, h2, h3, h4, cc, el, fr, h5, h6⟩ := h
    exact ⟨h1, h2, h3, h4, cc, el, fr, by rw [hw]; exact h5, h6⟩

theorem BR.ro {μ : Mu} {i : BI} {w : World} {o : ABlk} (h : BR μ i w o) : i.ro = o.ro := by
  cases o with
  | cells cs esz ex ro elo => exact h.2.2.2.1
  | map es => exact h.1
  | buf s => exact h.2.2.2.1

/-- The model's world holds the heap. -/
structure Rel (μ : Mu) (s : AS) (w : World) : Prop where
  blk : ∀ b o, s.get b = some o → ∃ i, μ b = some i ∧ BR μ i w o
  sep : ∀ b b' o o' i i', s.get b = some o → s.get b' = some o' → μ b = some i → μ b' = some i' → i.blk = i'.blk → i.ro = false → b = b'
  fresh : ∀ b i, μ b = some i → b < s.nx

theorem BR.lt {μ : Mu} {i : BI} {w : World} {o : ABlk} (h : BR μ i w o) : i.blk < w.heap.size := by
  cases o with
  | cells cs esz ex ro elo =>
    obtain ⟨h1, h2, h3, h4, cc, el, fr, h5, h6⟩ := h
    exact (Array.getElem?_eq_some_iff.1 h5).1
  | map es =>
    obtain ⟨h1, ees, clock, h2, h3⟩ := h
    exact (Array.getElem?_eq_some_iff.1 h2).1
  | buf s =>
    obtain ⟨h1, h2, h3, h4, cc, el, fr, h5, h6⟩ := h
    exact (Array.getElem?_eq_some_iff.1 h5).1

theorem Rel.inb {μ : Mu} {s : AS} {w : World} (h : Rel μ s w) {b : Nat} {o : ABlk} (hb : s.get b = some o) {i : BI} (hi : μ b = some i) : i.blk < w.heap.size := by
  obtain ⟨j, h1, h2⟩ := h.blk b o hb
  rw [hi] at h1
  cases h1
  exact h2.lt

/-- The blocks of the model's heap that may be written. -/
def WS (μ : Mu) (s : AS) (c : Nat) : Prop := ∃ b o i, s.get b = some o ∧ μ b = some i ∧ i.ro = false ∧ i.blk = c

/-- The blocks of the model's heap that are known. -/
def US (μ : Mu) (s : AS) (c : Nat) : Prop := ∃ b o i, s.get b = some o ∧ μ b = some i ∧ i.blk = c

/-- A step on both sides. -/
structure Stp (μ : Mu) (s : AS) (w : World) (μ' : Mu) (s' : AS) (w' : World) : Prop where
  ext : Mu.le μ μ'
  rel : Rel μ' s' w'
  keep : ∀ c, c < w.heap.size → ¬ WS μ s c → w'.heap[c]? = w.heap[c]?
  ws : ∀ c, WS μ' s' c → WS μ s c ∨ w.heap.size ≤ c
  us : ∀ c, US μ' s' c → US μ s c ∨ w.heap.size ≤ c
  mnew : ∀ b, μ b = none → b < s.nx → μ' b = none
  dom : ∀ b, s'.get b ≠ none → s.get b ≠ none ∨ s.nx ≤ b
  nx : s.nx ≤ s'.nx
  size : w.heap.size ≤ w'.heap.size
  os : w'.os = w.os
  out : w'.output = w.output
  tape : w'.tape = w.tape

theorem Stp.refl {μ : Mu} {s : AS} {w : World} (h : Rel μ s w) : Stp μ s w μ s w :=
  ⟨.refl μ, h, fun _ _ _ => rfl, fun _ h => .inl h, fun _ h => .inl h, fun _ h _ => h, fun _ h => .inl h, Nat.le_refl _, Nat.le_refl _, rfl, rfl, rfl⟩

theorem Stp.trans {μ μ₁ μ₂ : Mu} {s s₁ s₂ : AS} {w w₁ w₂ : World} (h : Stp μ s w μ₁ s₁ w₁) (h' : Stp μ₁ s₁ w₁ μ₂ s₂ w₂) : Stp μ s w μ₂ s₂ w₂ where
  ext := h.ext.trans h'.ext
  rel := h'.rel
  keep := fun c hc hn => by
    rw [h'.keep c (Nat.lt_of_lt_of_le hc h.size) (fun hw => ?_), h.keep c hc hn]
    rcases h.ws c hw with h1 | h1
    · exact hn h1
    · omega
  ws := fun c hw => by
    rcases h'.ws c hw with h1 | h1
    · exact h.ws c h1
    · exact .inr (Nat.le_trans h.size h1)
  us := fun c hw => by
    rcases h'.us c hw with h1 | h1
    · exact h.us c h1
    · exact .inr (Nat.le_trans h.size h1)
  mnew := fun b hb hn => h'.mnew b (h.mnew b hb hn) (Nat.lt_of_lt_of_le hn h.nx)
  dom := fun b hb => by
    rcases h'.dom b hb with h1 | h1
    · exact h.dom b h1
    · exact .inr (Nat.le_trans h.nx h1)
  nx := Nat.le_trans h.nx h'.nx
  size := Nat.le_trans h.size h'.size
  os := h'.os.trans h.os
  out := h'.out.trans h.out
  tape := h'.tape.trans h.tape

/-- A part of the heap. -/
def AS.Sub (s₁ s : AS) : Prop := ∀ b o, s₁.get b = some o → s.get b = some o

theorem Rel.sub {μ : Mu} {s s₁ : AS} {w : World} (h : Rel μ s w) (hs : s₁.Sub s) (hn : s.nx ≤ s₁.nx) : Rel μ s₁ w where
  blk := fun b o hb => h.blk b o (hs b o hb)
  sep := fun b b' o o' i i' hb hb' => h.sep b b' o o' i i' (hs b o hb) (hs b' o' hb')
  fresh := fun b i hb => Nat.lt_of_lt_of_le (h.fresh b i hb) hn

theorem AS.kill_sub (s : AS) (b : Nat) : (s.kill b).Sub s := fun c o h => by
  rw [AS.get_kill] at h
  split at h
  · cases h
  · exact h

theorem WS.sub {μ : Mu} {s s₁ : AS} (hs : s₁.Sub s) {c : Nat} (h : WS μ s₁ c) : WS μ s c := by
  obtain ⟨b, o, i, h1, h2⟩ := h
  exact ⟨b, o, i, hs b o h1, h2⟩

theorem US.sub {μ : Mu} {s s₁ : AS} (hs : s₁.Sub s) {c : Nat} (h : US μ s₁ c) : US μ s c := by
  obtain ⟨b, o, i, h1, h2⟩ := h
  exact ⟨b, o, i, hs b o h1, h2⟩

theorem Stp.kill {μ : Mu} {s : AS} {w : World} (h : Rel μ s w) (b : Nat) : Stp μ s w μ (s.kill b) w where
  ext := .refl μ
  rel := h.sub (s.kill_sub b) (Nat.le_refl _)
  keep := fun _ _ _ => rfl
  ws := fun _ hc => .inl (hc.sub (s.kill_sub b))
  us := fun _ hc => .inl (hc.sub (s.kill_sub b))
  mnew := fun _ h _ => h
  dom := fun c hc => by
    cases ho : (s.kill b).get c with
    | none => exact absurd ho hc
    | some o => exact .inl (by rw [s.kill_sub b c o ho]; simp)
  nx := Nat.le_refl _
  size := Nat.le_refl _
  os := rfl
  out := rfl
  tape := rfl

def Mu.upd (μ : Mu) (b : Nat) (i : BI) : Mu := fun c => if c = b then some i else μ c

theorem Mu.upd_same (μ : Mu) (b : Nat) (i : BI) : μ.upd b i b = some i := by simp [Mu.upd]

theorem Rel.none_nx {μ : Mu} {s : AS} {w : World} (h : Rel μ s w) : μ s.nx = none := by
  cases hb : μ s.nx with
  | none => rfl
  | some i => exact absurd (h.fresh _ i hb) (Nat.lt_irrefl _)

theorem Mu.le_upd {μ : Mu} {b : Nat} (i : BI) (h : μ b = none) : Mu.le μ (μ.upd b i) := fun c j hc => by
  unfold Mu.upd
  split
  · rename_i he; subst he; rw [h] at hc; cases hc
  · exact hc

/-- A new block. -/
theorem Stp.new {μ : Mu} {s : AS} {w w' : World} (h : Rel μ s w) (i : BI) (o : ABlk) (obj : Obj) (hi : i.blk = w.heap.size)
    (hw : w'.heap = w.heap.push obj) (hos : w'.os = w.os) (hout : w'.output = w.output) (htape : w'.tape = w.tape)
    (hb : BR (μ.upd s.nx i) i w' o) : Stp μ s w (μ.upd s.nx i) (s.new o) w' where
  ext := Mu.le_upd i h.none_nx
  rel := {
    blk := fun b o' hg => by
      rw [AS.get_new] at hg
      by_cases he : b = s.nx
      · subst he
        simp only [if_true, Option.some.injEq] at hg
        subst hg
        exact ⟨i, Mu.upd_same _ _ _, hb⟩
      · simp only [he, if_false] at hg
        obtain ⟨j, h1, h2⟩ := h.blk b o' hg
        refine ⟨j, by simp [Mu.upd, he, h1], (h2.mono (Mu.le_upd i h.none_nx)).of_heap ?_⟩
        have := h.inb hg h1
        rw [hw, Array.getElem?_push]
        simp; intro hh; omega
    sep := fun b b' o₁ o₂ i₁ i₂ h1 h2 h3 h4 h5 h6 => by
      rw [AS.get_new] at h1 h2
      unfold Mu.upd at h3 h4
      by_cases e1 : b = s.nx <;> by_cases e2 : b' = s.nx
      · rw [e1, e2]
      · simp only [e1, e2, if_true, if_false] at h2 h3 h4
        cases h3
        have := h.inb h2 h4
        omega
      · simp only [e1, e2, if_true, if_false] at h1 h3 h4
        cases h4
        have := h.inb h1 h3
        omega
      · simp only [e1, e2, if_false] at h1 h2 h3 h4
        exact h.sep b b' o₁ o₂ i₁ i₂ h1 h2 h3 h4 h5 h6
    fresh := fun b j hj => by
      unfold Mu.upd at hj
      show b < s.nx + 1
      split at hj
      · omega
      · have := h.fresh b j hj; omega }
  keep := fun c hc _ => by
    rw [hw, Array.getElem?_push]
    simp; intro hh; omega
  ws := fun c hc => by
    obtain ⟨b, o', j, h1, h2, h3, h4⟩ := hc
    rw [AS.get_new] at h1
    unfold Mu.upd at h2
    by_cases he : b = s.nx
    · simp only [he, if_true] at h2
      cases h2
      exact .inr (by omega)
    · simp only [he, if_false] at h1 h2
      exact .inl ⟨b, o', j, h1, h2, h3, h4⟩
  us := fun c hc => by
    obtain ⟨b, o', j, h1, h2, h4⟩ := hc
    rw [AS.get_new] at h1
    unfold Mu.upd at h2
    by_cases he : b = s.nx
    · simp only [he, if_true] at h2
      cases h2
      exact .inr (by omega)
    · simp only [he, if_false] at h1 h2
      exact .inl ⟨b, o', j, h1, h2, h4⟩
  mnew := fun b hb hn => by
    unfold Mu.upd
    rw [if_neg (by omega)]; exact hb
  dom := fun b hb => by
    rw [AS.get_new] at hb
    by_cases he : b = s.nx
    · exact .inr (by omega)
    · simp only [he, if_false] at hb
      exact .inl hb
  nx := Nat.le_succ _
  size := by rw [hw, Array.size_push]; omega
  os := hos
  out := hout
  tape := htape

/-- A block is written. -/
theorem Stp.put {μ : Mu} {s : AS} {w w' : World} (h : Rel μ s w) {b : Nat} {i : BI} {o : ABlk} (o' : ABlk) (hg : s.get b = some o) (hi : μ b = some i) (hro : i.ro = false)
    (hsz : w'.heap.size = w.heap.size) (hw : ∀ c, c ≠ i.blk → w'.heap[c]? = w.heap[c]?) (hos : w'.os = w.os) (hout : w'.output = w.output) (htape : w'.tape = w.tape)
    (hb : BR μ i w' o') : Stp μ s w μ (s.put b o') w' where
  ext := .refl μ
  rel := {
    blk := fun c o₁ hc => by
      rw [AS.get_put] at hc
      by_cases he : c = b
      · subst he
        simp only [if_true, Option.some.injEq] at hc
        subst hc
        exact ⟨i, hi, hb⟩
      · simp only [he, if_false] at hc
        obtain ⟨j, h1, h2⟩ := h.blk c o₁ hc
        refine ⟨j, h1, h2.of_heap (hw _ fun hj => ?_)⟩
        exact he (h.sep b c o o₁ i j hg hc hi h1 hj.symm hro).symm
    sep := fun c c' o₁ o₂ i₁ i₂ h1 h2 h3 h4 h5 h6 => by
      rw [AS.get_put] at h1 h2
      have k1 : ∃ o, s.get c = some o := by
        by_cases e : c = b
        · subst e; exact ⟨o, hg⟩
        · simp only [e, if_false] at h1; exact ⟨_, h1⟩
      have k2 : ∃ o, s.get c' = some o := by
        by_cases e : c' = b
        · subst e; exact ⟨o, hg⟩
        · simp only [e, if_false] at h2; exact ⟨_, h2⟩
      obtain ⟨p, hp⟩ := k1
      obtain ⟨q, hq⟩ := k2
      exact h.sep c c' p q i₁ i₂ hp hq h3 h4 h5 h6
    fresh := h.fresh }
  keep := fun c _ hn => hw c fun he => hn ⟨b, o, i, hg, hi, hro, he.symm⟩
  ws := fun c hc => by
    obtain ⟨d, o₁, j, h1, h2, h3, h4⟩ := hc
    rw [AS.get_put] at h1
    by_cases he : d = b
    · subst he
      exact .inl ⟨d, o, j, hg, h2, h3, h4⟩
    · simp only [he, if_false] at h1
      exact .inl ⟨d, o₁, j, h1, h2, h3, h4⟩
  us := fun c hc => by
    obtain ⟨d, o₁, j, h1, h2, h4⟩ := hc
    rw [AS.get_put] at h1
    by_cases he : d = b
    · subst he
      exact .inl ⟨d, o, j, hg, h2, h4⟩
    · simp only [he, if_false] at h1
      exact .inl ⟨d, o₁, j, h1, h2, h4⟩
  mnew := fun _ h _ => h
  dom := fun c hc => by
    rw [AS.get_put] at hc
    by_cases he : c = b
    · subst he; exact .inl (by rw [hg]; simp)
    · simp only [he, if_false] at hc; exact .inl hc
  nx := Nat.le_refl _
  size := Nat.le_of_eq hsz.symm
  os := hos
  out := hout
  tape := htape

/-- The model alone has moved on, without touching its heap. -/
theorem Stp.same {μ : Mu} {s : AS} {w w' : World} (h : Rel μ s w) (hw : w'.heap = w.heap) (hos : w'.os = w.os) (hout : w'.output = w.output) (htape : w'.tape = w.tape) : Stp μ s w μ s w' where
  ext := .refl μ
  rel := ⟨fun b o hb => let ⟨i, h1, h2⟩ := h.blk b o hb; ⟨i, h1, h2.of_heap (by rw [hw])⟩, h.sep, h.fresh⟩
  keep := fun _ _ _ => by rw [hw]
  ws := fun _ h => .inl h
  us := fun _ h => .inl h
  mnew := fun _ h _ => h
  dom := fun _ h => .inl h
  nx := Nat.le_refl _
  size := by rw [hw]; exact Nat.le_refl _
  os := hos
  out := hout
  tape := htape

end Go.Ai
