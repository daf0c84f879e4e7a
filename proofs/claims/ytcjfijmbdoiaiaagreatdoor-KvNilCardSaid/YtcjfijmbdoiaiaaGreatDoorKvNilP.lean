/- KvNil: for every key the law returns true, and leaves its argument alone. -/
import Derived.Test.YtcjfijmbdoiaiaaGreatDoorKvRun
import Derived.Test.YtcjfijmbdoiaiaaGreatDoorKvNilJ
import Derived.Test.YtcjfijmbdoiaiaaGreatDoorRbAi36
import Derived.Test.YtcjfijmbdoiaiaaGreatDoorRows
import Derived.Test.YtcjfijmbdoiaiaaGreatDoorCards
import Derived.Test.YtcjfijmbdoiaiaaGreatDoorTie
import Derived.ProofKit
import Derived.LaidMore
import Derived.Stop.Joined
import Derived.SevenTiedAt
import Derived.ChangeMaps5
set_option linter.unusedSimpArgs false
set_option linter.unusedVariables false
namespace Go.Proofs.YtcjfijmbdoiaiaaGreatDoor
open Go Go.ChangeShapes Go.WideShapes Go.ChangeAt Go.RowKit Go.Ai

theorem own : ownKnob Tryz.prog.godebug = none := by kernel_rfl
theorem gRow : Tryz.prog.globalNamed "rollbook/crc.row" = some 0 := by kernel_rfl

/-- What the row lists. -/
abbrev laid1 : List (String × DataW Unit) := [("rollbook/crc.row", Rows.laid_rollbook_crc_row)]

theorem door_met (os : Os) (args : Array Value) : laidMetH Tryz.prog laid1 ((World.doorLaid Tryz.prog 400 os).forCall (fun _ _ => 0) ⟨#[], args, []⟩).memory :=
  laidMetH_of_parts3 (fuel := 8) (laidMet_of_run' 8 (by kernel_rfl) (by kernel_rfl)) (by kernel_rfl) (by kernel_rfl)

def rowZs : List Int := [0x00000000, 0x1db71064, 0x3b6e20c8, 0x26d930ac, 0x76dc4190, 0x6b6b51f4, 0x4db26158, 0x5005713c, 0xedb88320, 0xf00f9344, 0xd6d6a3e8, 0xcb61b38c, 0x9b64c2b0, 0x86d3d2d4, 0xa00ae278, 0xbdbdf21c]

/-- Where the table lies. -/
theorem of_laid {W : World} (h : laidMetH Tryz.prog laid1 W) : ∃ cs t fr, W.heap[0]? = some (.cells cs t fr) ∧ cs.toList = rowZs.map (Value.int .u32) := by
  rw [MakeChecks.laidMetH_plain _ _ _ (by kernel_rfl)] at h
  obtain ⟨ps, ⟨g0, t0, cs0, f0, p0, q0, hg0, ht0, hv0, hd0, _, _⟩, _, _⟩ := h
  obtain rfl := Option.some.inj (gRow.symm.trans hg0)
  obtain ⟨cs1, t1, fr, hh, rfl⟩ : ∃ cs1 t1 fr, W.heap[0]? = some (.cells cs1 t1 fr) ∧ cs1 = cs0 := by
    simp only [World.var?, gRow, Option.bind_some] at hv0
    split at hv0
    · rename_i cs t fr hh; cases hv0; exact ⟨_, _, _, hh, rfl⟩
    · cases hv0
  refine ⟨cs1, t1, fr, hh, ?_⟩
  have ht : (Tryz.prog.globals[0]?).map (·.type) = some 231 := by kernel_rfl
  obtain rfl := Option.some.inj (ht.symm.trans ht0)
  exact cells_of_laid Tryz.underlying231 Tryz.underlying81 (by kernel_rfl) (by kernel_rfl) rowZs hd0

theorem kvS0_get {b : Nat} {o : ABlk} (h : kvS0.get b = some o) : b = 0 ∧ o = .cells crcTab 1 true true none := by
  unfold AS.get kvS0 at h
  simp only [PT.get] at h
  split at h
  · rename_i hb; cases h; exact ⟨hb, rfl⟩
  · split at h <;> cases h

/-- The heap of the start is in the world. -/
theorem rel0 {W : World} (h : laidMetH Tryz.prog laid1 W) : ∃ μ, GOK Tryz.prog μ ∧ Rel μ kvS0 W ∧ ∀ c, ¬ WS μ kvS0 c := by
  obtain ⟨cs, t, fr, hh, hcs⟩ := of_laid h
  have hsz : cs.size = 16 := by rw [← Array.length_toList, hcs]; rfl
  have hg4 : Tryz.prog.globals.size = 4 := by kernel_rfl
  refine ⟨fun b => if b < 5 then some ⟨b, 0, 16, 16, 1, true, true⟩ else none, ?_, ?_, ?_⟩
  · intro g hg
    rw [hg4] at hg
    exact ⟨_, if_pos (Nat.lt_succ_of_lt hg), rfl, rfl⟩
  · exact {
      blk := fun b o hb => by
        obtain ⟨rfl, rfl⟩ := kvS0_get hb
        refine ⟨_, if_pos (by omega), rfl, rfl, rfl, rfl, cs, t, fr, hh, hsz, ?_, ?_, (fun h => by cases h), (fun t h => by cases h), fun _ => ⟨rfl, hsz⟩⟩
        · rw [hsz]; exact Nat.le_refl _
        · show VRs _ crcTab ((cs.toList.drop 0).take 16)
          rw [List.drop_zero, List.take_of_length_le (by rw [hcs]; exact Nat.le_refl _), hcs]
          have : crcTab = rowZs.map (AV.int .u32) := rfl
          rw [this]
          exact VRs.of_map _ _ _ fun x _ => .int .u32 x
      sep := fun b b' o o' i i' h1 h2 _ _ _ _ => by rw [(kvS0_get h1).1, (kvS0_get h2).1]
      fresh := fun b i hb => by
        show b < 5
        by_cases h : b < 5
        · exact h
        · have hb : (if b < 5 then some (⟨b, 0, 16, 16, 1, true, true⟩ : BI) else none) = some i := hb
          rw [if_neg h] at hb; cases hb }
  · rintro c ⟨b, o, i, h1, h2, h3, _⟩
    have h2 : (if b < 5 then some (⟨b, 0, 16, 16, 1, true, true⟩ : BI) else none) = some i := h2
    split at h2
    · cases h2; cases h3
    · cases h2

theorem kvNil_calls {W : World} (h : laidMetH Tryz.prog laid1 W) (s : ByteArray) : Calls Tryz.prog 4 #[.string s] W fun e W' => e = .returned (.bool true) ∧ Below W.heap.size W W' := by
  obtain ⟨μ, hg, hR, hn⟩ := rel0 h
  obtain ⟨s', hs'⟩ := saysTrue_some (kvNil_run s.data.toList)
  refine ((kcall_ev mix kvF_ok kvS_ok hs').2 μ W #[.string s] hg (.cons _ _ _ _ (.str _ s rfl) .nil) hR).mono ?_
  rintro e W' ⟨μ', v, rfl, hv, hS⟩
  rw [hv.bool_inv]
  exact ⟨rfl, hS.below_of hn⟩

set_option maxRecDepth 100000 in
theorem lifted (os : Os) (started : os.Started) (H : Type) (enc : TypeId × Value → H) :
    ReturnsInHanded {} Tryz.checked os 4 .any (fun w args => (Rows.kvNilSpec.pre enc Tryz.prog Tryz.f4 [] false w args ∧ laidMetH Tryz.prog laid1 w) ∧ sizedMet enc Tryz.prog Tryz.f4 (OpenSpec.ofChange Rows.kvNilSpec) false w args)
      (Rows.kvNilSpec.post enc Tryz.prog Tryz.f4 false true false false) := by
  refine returnsInHanded_of_change_and (C := Tryz.checked) (X := fun w _ => laidMetH Tryz.prog laid1 w) (fun _ _ _ hh h => h.of_heap hh) own started (by kernel_rfl) Tryz.func4
    (ChangeSpec.witness_shaped (enc := enc) (C := Tryz.checked) (os := os) (X := fun w _ => laidMetH Tryz.prog laid1 w) false (World.doorLaid Tryz.prog 400 os) #[.string ⟨#[]⟩] 8 rfl (World.shaped_of_RefB (by kernel_rfl) (by kernel_rfl)) (by kernel_rfl) (by kernel_rfl) (by kernel_rfl) (door_met os _)) ?_
  intro W base args ds gs before hval0 hW _ _ hL _
  have hval : ∀ (j : Nat) t v, Tryz.f4.params[j]? = some t → args[j]? = some v → Value.okWide Tryz.prog W .any base t v := hval0
  have hW' := hW
  obtain ⟨p, q, hA0, hV, rfl, hfz, hnd⟩ := hW
  have hA : DataW.TrodAll enc Tryz.prog W 0 (fun _ => true) true Tryz.f4.params.toList args.toList ds p := hA0
  rw [Tryz.params4] at hA hval
  obtain ⟨v0, d0, rfl, rfl, h0⟩ := trodAll_one hA
  obtain ⟨rfl, rfl⟩ := trodVars_none hV
  obtain ⟨s, rfl, rfl, rfl, hs⟩ := ChangeMaps.open_string Tryz.underlying9 (hval 0 9 v0 rfl rfl) h0
  clear hA0 hval0
  simp only [List.append_nil] at hW'
  refine (kvNil_calls hL s).mono fun e W' ⟨he, hb⟩ => ?_
  subst he
  exact ⟨_, rfl, post_below (pa := []) (pv := []) hW' (fun _ _ _ => trodAll_mk1 (shut_bool Tryz.underlying4 _)) (fun sp _ => trodAll_mk1 (ChangeMaps.shut_string Tryz.underlying9 hs)) (fun _ _ => rfl) rfl hb
    (ok_one (by kernel_rfl) rfl (okWide_bool_mk Tryz.underlying4 _))⟩

set_option maxRecDepth 100000 in
theorem jnclosed : joinedFacts Tryz.prog 4 Tryz.f4 Rows.kvNilSpec Rows.kvNilRow = true := by
  unfold joinedFacts
  exact (am (am (am (am (am (am (am (am (am (am (am (am (am (am (am (am (am (am (am (am (am (am (am (am (am (am (am (am (am (am (am jn0 jn1) jn2) jn3) jn4) jn5) jn6) jn7) jn8) jn9) jn10) jn11) jn12) jn13) jn14) jn15) jn16) jn17) jn18) jn19) jn20) jn21) jn22) jn23) jn24) jn25) jn26) jn27) jn28) jn29) jn30) jn31)


theorem named4 : Tryz.prog.funcNamed "rollbook/rollbooklaw11.KvNil" = some 4 := by kernel_rfl

theorem hinst4 : Tryz.f4.isInstance Tryz.prog Rows.kvNilRow.origin Rows.kvNilRow.targs := of_decide_eq_true (by kernel_rfl)
theorem hwrap4 : Tryz.f4.isWrapper Tryz.prog Rows.kvNilRow.wrapper Rows.kvNilRow.mainSum := by unfold Func.isWrapper; rw [if_neg (by decide +kernel)]; exact ⟨rfl, rfl⟩

theorem kvNil_holds : Rows.KvNilSaid :=
  OpenClaim.holds_of_wide 4 Tryz.f4 rfl rfl rfl rfl rfl rfl rfl ⟨rfl, rfl, rfl, rfl, rfl⟩ rfl rfl rfl rfl rfl named4 Tryz.func4 jnclosed
    hinst4 hwrap4
    (fun os started H enc _ => lifted os started H enc)

theorem kvNil_card : Rows.KvNilCardSaid :=
  Claim7.holds_tied_plain_at .later [] [.data] true (true, "35a2858626dc605a9634fdda5d8f85dd0ad0e55e6a52906466f6ff4f004c15fa") false
    kvNil_holds (fun _ h => by cases h) (by kernel_rfl) (fun _ h => by cases h) kvNil_row_tie rfl ⟨rfl, rfl⟩ (by kernel_rfl) rfl
    (fun f fn hf hfn => by
      obtain rfl : f = 4 := Option.some.inj (named4.symm.trans hf) |>.symm
      obtain rfl : fn = Tryz.f4 := (Option.some.inj (Tryz.func4.symm.trans hfn)).symm
      exact ⟨by kernel_rfl, fun j t ht => by
        rw [Tryz.params4] at ht
        have hm : t ∈ [9] := by simpa using Array.mem_of_getElem? ht
        have hall : ([9].all fun u => !Tryz.prog.wantsStandIn u) = true := by kernel_rfl
        exact (show Tryz.prog.wantsStandIn t = false by simpa using List.all_eq_true.1 hall t hm)⟩)
    (by kernel_rfl)
#print axioms kvNil_card
end Go.Proofs.YtcjfijmbdoiaiaaGreatDoor
