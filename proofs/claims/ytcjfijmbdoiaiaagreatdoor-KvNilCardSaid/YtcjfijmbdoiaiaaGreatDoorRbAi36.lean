/- A law's row, by what the interpreter says of it: what lies behind a call that leaves all that was there. -/
import Derived.Test.YtcjfijmbdoiaiaaGreatDoorRbAi35
import Derived.Below
import Derived.ChangeSame
import Derived.OpenShut
import Derived.FnData
set_option linter.unusedSimpArgs false
set_option linter.unusedVariables false
namespace Go.Ai
open Go.RowKit Go.WideShapes Go.ChangeShapes

/-- A table of integers that reads as a known datum has just these. -/
theorem cells_of_laid {P : Program} {w : World} {e t : TypeId} {k : IntKind} {n fuel : Nat} {cs : List Value} {p : List MemPlace} {sp : Nat → Bool} {b : Nat} {hd : Bool} (ht : P.underlying t = some (.array n e)) (he : P.underlying e = some (.int k)) (hc : P.cellsOf e = 1) (hct : P.cellsOf t = n)
    (zs : List Int) (h : DataW.trod (fun _ => ()) P w b sp hd fuel t cs = some (.agg (zs.map fun z => .lit (.int k z)), p)) : cs = zs.map (Value.int k) := by
  obtain ⟨xs, m, rfl, hx, hlen, hn, hel⟩ := DataW.trod_array ht h
  simp only [Prod.mk.injEq, DataW.agg.injEq] at hx
  have hzl : zs.length = n := by
    have := congrArg List.length hx.1
    simpa [hn] using this
  apply List.ext_getElem?
  intro i
  by_cases hi : i < n
  · have h1 := hel i hi
    rw [hc, Nat.mul_one] at h1
    obtain ⟨x, hxi⟩ : ∃ x, xs[i]? = some x := ⟨_, List.getElem?_eq_getElem (by omega)⟩
    rw [hxi] at h1
    obtain ⟨z, e1, e2, _⟩ := DataW.trod_int he h1
    have h2 : (zs.map fun z => (DataW.lit (.int k z) : DataW Unit))[i]? = (xs.map (·.1))[i]? := by rw [hx.1]
    rw [List.getElem?_map, List.getElem?_map, hxi] at h2
    obtain ⟨y, hy⟩ : ∃ y, zs[i]? = some y := ⟨_, List.getElem?_eq_getElem (by omega)⟩
    rw [hy] at h2
    simp only [Option.map_some, Option.some.injEq, e2, DataW.lit.injEq, Lit.int.injEq, true_and] at h2
    rw [List.getElem?_map, hy, Option.map_some, h2]
    have h3 : (List.take 1 (List.drop i cs))[0]? = some (.int k z) := by rw [e1]; rfl
    rw [List.getElem?_take, if_pos (by omega), List.getElem?_drop, Nat.add_zero] at h3
    exact h3
  · rw [List.getElem?_eq_none (by omega), List.getElem?_eq_none (by simp; omega)]

/-- Nothing that was there may be written: all of it stays. -/
theorem Stp.below_of {μ μ' : Mu} {s s' : AS} {w w' : World} (h : Stp μ s w μ' s' w') (hn : ∀ c, ¬ WS μ s c) : Below w.heap.size w w' :=
  ⟨h.os, h.tape, h.out, h.size, fun k hk => h.keep k hk (hn k)⟩

section
variable {H : Type} {enc : TypeId × Value → H} {P : Program}

/-- A row's last step where nothing that was there has turned. -/
theorem post_below {f : Func} {s : ChangeSpec} {apart fresh handsOn again : Bool} {W W' : World} {args : Array Value} {v : Value} {ds gs : List (DataW H)} {before pa pv : List MemPlace}
    (hW : DataW.Whole enc P f.params.toList s.vars apart W args.toList ds gs before)
    (hres : ∀ (b : Nat) (sp : Nat → Bool) (hd : Bool), DataW.TrodAll enc P W' b sp hd f.resultTypes.toList (v.resultList f.resultTypes.size) (s.fn H (ds ++ gs)).results [])
    (hargs : ∀ sp : Nat → Bool, (∀ p ∈ before, sp p.block = true) → DataW.TrodAll enc P W' 0 sp true f.params.toList args.toList (s.fn H (ds ++ gs)).args pa)
    (hvars : ∀ sp : Nat → Bool, (∀ p ∈ before, sp p.block = true) → DataW.TrodVars enc P W' sp s.vars (s.fn H (ds ++ gs)).vars pv)
    (hps : before = pa ++ pv) (hb : Below W.heap.size W W')
    (hok : ∀ (j : Nat) (t : TypeId) (r : Value), f.resultTypes[j]? = some t → (v.resultList f.resultTypes.size)[j]? = some r → Value.okWide P W' .any 0 t r) :
    s.post enc P f apart fresh handsOn again W args v W' := by
  have hin : ∀ p ∈ before, decide (p.block < W.heap.size) = true := fun p hp => by simpa using hW.lt p hp
  refine ⟨ds, gs, before, [], pa, pv, hW, hres _ _ _, hargs _ hin, hvars _ hin, ?_, ?_⟩
  · refine World.keptBut_mono (fun p hp => ⟨hp, ?_⟩) (hb.frame (· ∈ before))
    rw [hps] at hp
    exact .inr (List.mem_append.1 hp)
  · intro _
    obtain ⟨_, _, _, _, _, hz, hn⟩ := hW
    refine ⟨hok, _, _, ([] ++ pa) ++ pv, ⟨[] ++ pa, pv, trodAll_append (hargs _ fun _ _ => rfl) (hres _ _ _), hvars _ fun _ _ => rfl, rfl, ?_, ?_⟩, ?_⟩
    · intro b off hp
      have hp' : MemPlace.cell b off ∈ before := by rw [hps]; simpa using hp
      have hlt : b < W.heap.size := of_decide_eq_true (hin _ hp')
      rw [hb.frozen (p := ⟨b, off, none⟩) hlt]
      exact hz b off hp'
    · intro ha
      have := hn ha
      rw [hps] at this
      simpa using this
    · intro p hp _
      rw [hps]
      simpa using hp
end

end Go.Ai
