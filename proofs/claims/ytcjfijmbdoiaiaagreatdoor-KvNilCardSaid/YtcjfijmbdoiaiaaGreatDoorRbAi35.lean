/- Tables of functions and of summaries, found fast by the kernel. -/
import Derived.Test.YtcjfijmbdoiaiaaGreatDoorRbAi34
set_option linter.unusedSimpArgs false
set_option linter.unusedVariables false
namespace Go.Ai

noncomputable def lookN {α : Type} (l : List (Nat × α)) (f : Nat) : Option α :=
  @List.rec (Nat × α) (fun _ => Option α) none (fun x _ ih => match Nat.beq f x.1 with
    | true => some x.2
    | false => ih) l

theorem lookN_mem {α : Type} : ∀ (l : List (Nat × α)) (f : Nat) (a : α), lookN l f = some a → (f, a) ∈ l
  | [], _, _, h => by cases h
  | x :: l, f, a, h => by
    have h : (match Nat.beq f x.1 with
      | true => some x.2
      | false => lookN l f) = some a := h
    split at h
    · rename_i hb
      have := Nat.eq_of_beq_eq_true hb
      cases h
      subst this
      exact List.mem_cons_self
    · exact List.mem_cons_of_mem _ (lookN_mem l f a h)

/-- The text of each function of a table is the program's. -/
def FnL (P : Program) : List (Nat × AFn) → Prop
  | [] => True
  | x :: l => (goBody P x.1 = true ∧ ∃ fn, P.funcs[x.1]? = some fn ∧ cfn P fn = some x.2) ∧ FnL P l

theorem FnL.ok {P : Program} : ∀ (l : List (Nat × AFn)), FnL P l → ∀ f af, (f, af) ∈ l → goBody P f = true ∧ ∃ fn, P.funcs[f]? = some fn ∧ cfn P fn = some af
  | [], _, _, _, h => by cases h
  | x :: l, h, f, af, hm => by
    rcases List.mem_cons.1 hm with rfl | hm
    · exact h.1
    · exact FnL.ok l h.2 f af hm

theorem FnL.append {P : Program} : ∀ (l m : List (Nat × AFn)), FnL P l → FnL P m → FnL P (l ++ m)
  | [], _, _, h => h
  | _ :: l, m, h, hm => ⟨h.1, FnL.append l m h.2 hm⟩

def SumL (P : Program) : List (Nat × ASum) → Prop
  | [] => True
  | x :: l => SumOK P x.1 x.2 ∧ SumL P l

theorem SumL.ok {P : Program} : ∀ (l : List (Nat × ASum)), SumL P l → ∀ f g, (f, g) ∈ l → SumOK P f g
  | [], _, _, _, h => by cases h
  | x :: l, h, f, g, hm => by
    rcases List.mem_cons.1 hm with rfl | hm
    · exact h.1
    · exact SumL.ok l h.2 f g hm

/-- What the kernel reckons is an answer of the model's. -/
theorem kcall_ev {P : Program} (hmix : P.follows .mixedOrders = true) {F : List (Nat × AFn)} {S : List (Nat × ASum)} (hF : FnL P F) (hS : SumL P S) {N k : Nat} {f : FuncId} {args : List AV} {s : AS} {r : AV} {s' : AS}
    (h : kcall kprims (lookN F) (lookN S) N k f args s = some (r, s')) : Ev P f args s r s' := by
  rw [kcall_eq] at h
  exact acall_ok hmix (fun f af hf => FnL.ok F hF f af (lookN_mem F f af hf)) (fun f g hg => SumL.ok S hS f g (lookN_mem S f g hg)) N k f args s r s' h

def saysTrue : Option (AV × AS) → Bool
  | some (.bool b, _) => b
  | _ => false

theorem saysTrue_some {x : Option (AV × AS)} (h : saysTrue x = true) : ∃ s', x = some (.bool true, s') := by
  unfold saysTrue at h
  split at h
  · rename_i b s'; subst h; exact ⟨s', rfl⟩
  · cases h

end Go.Ai
