/- The library's functions by their contracts. -/
import Derived.Test.YtcjfijmbdoiaiaaGreatDoorWkSync
import Derived.Test.YtcjfijmbdoiaiaaGreatDoorRbAi34
import Derived.Test.YtcjfijmbdoiaiaaGreatDoorTryzLayP
set_option linter.unusedSimpArgs false
set_option linter.unusedVariables false
namespace Go.Ai
open Go.RowKit Go.Maps Go.Sort Go.Shelf Go.Proofs

theorem copy_ok : SumOK Go.Proofs.Tryz.prog 244 (sumCopy 300) := sumCopy_ok (by kernel_rfl)
  (fun b w h => Any.Builder_copyCheck_used { Tryz.lays105 with } Tryz.Builder_Extra_105.toX72 b w h)
  (fun b w h0 hsh hfz => Any.Builder_copyCheck_fresh { Tryz.lays105 with } Tryz.Builder_Extra_105.toX72 b w h0 hsh hfz)

theorem repeat_ok : SumOK Go.Proofs.Tryz.prog 231 sumRepeat := sumRepeat_ok (by kernel_rfl) fun t c w h1 h2 => Any.strings_Repeat Tryz.lays105 Tryz.Builder_Extra_105 t c w h1 h2

theorem sorts79 (m : Nat) : AnyZI.SortsIn Tryz.prog Tryz.sorted63_ren Fence.wide m :=
  ⟨fun blk off cap ss W hH hblk hsz => callsIn_wide.2 (AnyM.slices_Sort_int Tryz.sort79 blk off cap ss W hH hblk hsz),
   fun p cap W => callsIn_wide.2 (AnyM.slices_Sort_int_none Tryz.sort79 p cap W)⟩

theorem sorts227 (m : Nat) : AnyZ.SortsIn Tryz.prog Tryz.sorted167_ren Fence.wide m :=
  ⟨fun blk off cap ss W hH hblk hsz => callsIn_wide.2 (AnyM.slices_Sort_string Tryz.sort227 blk off cap ss W hH hblk hsz),
   fun p cap W => callsIn_wide.2 (AnyM.slices_Sort_string_none Tryz.sort227 p cap W)⟩

theorem sorted63_124 : SortedI Tryz.prog 3 63 124 := fun w Bm b nn D0 hlt hm hown hmax hbytes => by
  have hseq : SeqGives Fence.wide 2 Tryz.prog 124 #[.pointer (some ⟨Bm, 0, none⟩)] encZ (fun ss => ss.Perm (intKeys D0)) (Maps.size D0) w :=
    AnyZI.keys_gives (ρ := Tryz.keys64_ren) { Tryz.keys64 with } Fence.wide _ trivial rfl (by omega) Bm b nn D0 _ hlt hm hown
  exact callsIn_wide.1 (AnyZI.sorted_in Tryz.sorted63 Fence.wide 5 trivial trivial trivial trivial rfl (by omega) (sorts79 _) (enters_of Tryz.func79 (by kernel_rfl) rfl) 124 #[.pointer (some ⟨Bm, 0, none⟩)] trivial (enters_of Tryz.func124 (by kernel_rfl) rfl) _ _ hmax hbytes _ hseq)

theorem sorted63_183 : SortedI Tryz.prog 3 63 183 := fun w Bm b nn D0 hlt hm hown hmax hbytes => by
  have hseq : SeqGives Fence.wide 2 Tryz.prog 183 #[.pointer (some ⟨Bm, 0, none⟩)] encZ (fun ss => ss.Perm (intKeys D0)) (Maps.size D0) w :=
    AnyZI.keys_gives (ρ := Tryz.keys131_ren) { Tryz.keys131 with } Fence.wide _ trivial rfl (by omega) Bm b nn D0 _ hlt hm hown
  exact callsIn_wide.1 (AnyZI.sorted_in Tryz.sorted63 Fence.wide 5 trivial trivial trivial trivial rfl (by omega) (sorts79 _) (enters_of Tryz.func79 (by kernel_rfl) rfl) 183 #[.pointer (some ⟨Bm, 0, none⟩)] trivial (enters_of Tryz.func183 (by kernel_rfl) rfl) _ _ hmax hbytes _ hseq)

theorem sorted167_228 : SortedS Tryz.prog 9 167 228 := fun w Bm b nn D0 hlt hm hown hmax hbytes => by
  have hseq : SeqGives Fence.wide 2 Tryz.prog 228 #[.pointer (some ⟨Bm, 0, none⟩)] encStr (fun ss => ss.Perm (strKeys D0)) (Maps.size D0) w :=
    AnyZ.keys_gives (ρ := Tryz.keys168_ren) { Tryz.keys168 with } Fence.wide _ trivial rfl (by omega) Bm b nn D0 _ hlt hm hown
  exact callsIn_wide.1 (AnyZ.sorted_in Tryz.sorted167 Fence.wide 5 trivial trivial trivial trivial rfl (by omega) (sorts227 _) (enters_of Tryz.func227 (by kernel_rfl) rfl) 228 #[.pointer (some ⟨Bm, 0, none⟩)] trivial (enters_of Tryz.func228 (by kernel_rfl) rfl) _ _ hmax hbytes _ hseq)

def sum63 : ASum := fun args s => match sumSortedI 124 args s with
  | some r => some r
  | none => sumSortedI 183 args s

theorem ok63 : SumOK Tryz.prog 63 sum63 := fun args s r s' h => by
  unfold sum63 at h
  split at h
  · rename_i x hx
    cases h
    exact sortedI_ok (by kernel_rfl) (by kernel_rfl) sorted63_124 args s r s' hx
  · exact sortedI_ok (by kernel_rfl) (by kernel_rfl) sorted63_183 args s r s' h

theorem ok167 : SumOK Tryz.prog 167 (sumSortedS 228) := sortedS_ok (by kernel_rfl) (by kernel_rfl) sorted167_228
theorem okPut : SumOK Tryz.prog 160 sumPut := put_ok fn_field_Put mix
theorem okTake : SumOK Tryz.prog 120 sumTake := take_ok fn_field_Take mix
theorem okOn : SumOK Tryz.prog 94 (sumOn 0) := on_ok 0 rfl fn_crc_On mix
theorem okStep : SumOK Tryz.prog 173 sumStep := step_ok fn_dev_Dev_step mix
theorem okSync : SumOK Tryz.prog 116 sumSync := sync_ok okStep
end Go.Ai
