/- The texts of functions, read: part 2. -/
import Derived.Test.YtcjfijmbdoiaiaaGreatDoorWkSum
import Derived.Test.YtcjfijmbdoiaiaaGreatDoorRbAi35
set_option linter.unusedSimpArgs false
set_option linter.unusedVariables false
namespace Go.Ai
/- sort.Search -/
def A_sort_Searchr0 : List AOper := [
    ⟨(some 4), .mov (.const (.int .i64 0)), none⟩]
def A_sort_Searchr1 : List AOper := [
    ⟨(some 8), .mov (.tmp 0), none⟩,
    ⟨(some 5), .mov (.const (.int .i64 0)), none⟩,
    ⟨(some 6), .mov (.tmp 8), none⟩]
def A_sort_Searchr2 : List AOper := [
    ⟨(some 9), .mov (.tmp 5), none⟩,
    ⟨(some 10), .mov (.tmp 6), none⟩,
    ⟨(some 11), .ibin .lss (.tmp 9) (.tmp 10), none⟩]
def A_sort_Searchr3 : List AOper := [
    ⟨(some 12), .mov (.tmp 5), none⟩,
    ⟨(some 13), .mov (.tmp 6), none⟩,
    ⟨(some 14), .ibin .add (.tmp 12) (.tmp 13), none⟩,
    ⟨(some 15), .conv .u64 (.tmp 14), none⟩,
    ⟨(some 16), .ibin .shr (.tmp 15) (.const (.int .u64 1)), none⟩,
    ⟨(some 17), .conv .i64 (.tmp 16), none⟩,
    ⟨(some 7), .mov (.tmp 17), none⟩]
def A_sort_Searchr4 : List AOper := [
    ⟨(some 18), .mov (.tmp 1), none⟩,
    ⟨(some 19), .mov (.tmp 7), none⟩,
    ⟨(some 20), .callV (.tmp 18) [(.tmp 19)], none⟩,
    ⟨(some 21), .un .not (.tmp 20), none⟩]
def A_sort_Searchr5 : List AOper := [
    ⟨(some 22), .mov (.tmp 7), none⟩,
    ⟨(some 23), .ibin .add (.tmp 22) (.const (.int .i64 1)), none⟩,
    ⟨(some 5), .mov (.tmp 23), none⟩]
def A_sort_Searchr6 : List AOper := [
    ⟨(some 24), .mov (.tmp 7), none⟩,
    ⟨(some 6), .mov (.tmp 24), none⟩]
def A_sort_Searchc7 : AC := (.block 1 (.seq (.region A_sort_Searchr3) (.seq (.region A_sort_Searchr4) (.cond (.tmp 21) (.region A_sort_Searchr5) (.region A_sort_Searchr6)))))
def A_sort_Searchl8 : AC := (.seq (.seq (.region A_sort_Searchr2) (.cond (.tmp 11) .skip (.exit 0))) A_sort_Searchc7)
def A_sort_Searchc9 : AC := (.block 0 (.loop A_sort_Searchl8))
def A_sort_Searchr10 : List AOper := [
    ⟨(some 25), .mov (.tmp 5), none⟩,
    ⟨(some 4), .mov (.tmp 25), none⟩]
def A_sort_Search : AFn := ⟨26, 2, [.tmp 4], (.seq (.region A_sort_Searchr0) (.seq (.region A_sort_Searchr1) (.seq A_sort_Searchc9 (.seq (.region A_sort_Searchr10) .ret))))⟩
theorem fn_sort_Search : FnIs Go.Proofs.Tryz.prog 234 A_sort_Search := ⟨by kernel_rfl, Go.Proofs.Tryz.f234, Go.Proofs.Tryz.func234, by kernel_rfl⟩
/- internal/stringslite.HasPrefix -/
def A_internal_stringslite_HasPrefixr0 : List AOper := [
    ⟨(some 4), .mov (.const (.bool false)), none⟩]
def A_internal_stringslite_HasPrefixr1 : List AOper := [
    ⟨(some 5), .mov (.tmp 0), none⟩,
    ⟨(some 6), .len .str (.tmp 5), none⟩,
    ⟨(some 7), .mov (.tmp 1), none⟩,
    ⟨(some 8), .len .str (.tmp 7), none⟩,
    ⟨(some 9), .ibin .geq (.tmp 6) (.tmp 8), none⟩,
    ⟨(some 10), .mov (.tmp 9), none⟩,
    ⟨(some 11), .mov (.tmp 0), (some (10, true))⟩,
    ⟨(some 12), .mov (.tmp 1), (some (10, true))⟩,
    ⟨(some 13), .len .str (.tmp 12), (some (10, true))⟩,
    ⟨(some 14), .slS (.tmp 11) none (some (.tmp 13)), (some (10, true))⟩,
    ⟨(some 15), .mov (.tmp 1), (some (10, true))⟩,
    ⟨(some 16), .sbin .eql (.tmp 14) (.tmp 15), (some (10, true))⟩,
    ⟨(some 17), .pick (.tmp 10) (.tmp 16) (.const (.bool false)), none⟩,
    ⟨(some 4), .mov (.tmp 17), none⟩]
def A_internal_stringslite_HasPrefix : AFn := ⟨18, 2, [.tmp 4], (.seq (.region A_internal_stringslite_HasPrefixr0) (.seq (.region A_internal_stringslite_HasPrefixr1) .ret))⟩
theorem fn_internal_stringslite_HasPrefix : FnIs Go.Proofs.Tryz.prog 246 A_internal_stringslite_HasPrefix := ⟨by kernel_rfl, Go.Proofs.Tryz.f246, Go.Proofs.Tryz.func246, by kernel_rfl⟩
/- rollbook/tree.Put -/
def A_tree_Putr0 : List AOper := [
    ⟨(some 4), .box (.tmp 0) 1, none⟩,
    ⟨(some 6), .box (.tmp 2) 1, none⟩,
    ⟨(some 8), .mov (.const (.int .i64 0)), none⟩,
    ⟨(some 9), .mov (.const (.int .i64 0)), none⟩]
def A_tree_Putr1 : List AOper := [
    ⟨(some 13), .load false 1 (.tmp 6), none⟩,
    ⟨(some 14), .sbin .eql (.tmp 13) (.const (.str [])), none⟩,
    ⟨(some 15), .mov (.tmp 14), none⟩,
    ⟨(some 16), .load false 1 (.tmp 6), (some (15, false))⟩,
    ⟨(some 17), .len .str (.tmp 16), (some (15, false))⟩,
    ⟨(some 18), .ibin .gtr (.tmp 17) (.const (.int .i64 120)), (some (15, false))⟩,
    ⟨(some 19), .pick (.tmp 15) (.const (.bool true)) (.tmp 18), none⟩,
    ⟨(some 12), .mov (.tmp 19), none⟩]
def A_tree_Putr2 : List AOper := [
    ⟨(some 8), .mov (.const (.int .i64 0)), none⟩,
    ⟨(some 9), .mov (.const (.int .i64 1)), none⟩]
def A_tree_Putr3 : List AOper := [
    ⟨(some 21), .mov (.tmp 3), none⟩,
    ⟨(some 22), .len .str (.tmp 21), none⟩,
    ⟨(some 23), .ibin .gtr (.tmp 22) (.const (.int .i64 4000)), none⟩,
    ⟨(some 20), .mov (.tmp 23), none⟩]
def A_tree_Putr4 : List AOper := [
    ⟨(some 8), .mov (.const (.int .i64 0)), none⟩,
    ⟨(some 9), .mov (.const (.int .i64 5)), none⟩]
def A_tree_Putc5 : AC := (.block 0 (.seq (.region A_tree_Putr1) (.cond (.tmp 12) (.seq (.region A_tree_Putr2) .ret) (.seq (.region A_tree_Putr3) (.cond (.tmp 20) (.seq (.region A_tree_Putr4) .ret) .skip)))))
def A_tree_Putr6 : List AOper := [
    ⟨(some 25), .load false 1 (.tmp 4), none⟩,
    ⟨(some 26), .load false 1 (.tmp 6), none⟩,
    ⟨(some 27), .mov (.tmp 3), none⟩,
    ⟨(some 28), .call 103 [(.tmp 25), (.tmp 26), (.tmp 27)], none⟩,
    ⟨(some 24), .mov (.tmp 28), none⟩,
    ⟨(some 29), .extr (.tmp 24) 0, none⟩,
    ⟨(some 30), .extr (.tmp 24) 1, none⟩,
    ⟨(some 10), .alloc [.str [], .str [], .int .i64 0, .int .i64 0, .int .i64 0] 5 170, none⟩,
    ⟨none, .store 5 (.tmp 10) (.tmp 29), none⟩,
    ⟨(some 11), .mov (.tmp 30), none⟩]
def A_tree_Putr7 : List AOper := [
    ⟨(some 31), .mov (.tmp 11), none⟩,
    ⟨(some 32), .ibin .neq (.tmp 31) (.const (.int .i64 0)), none⟩]
def A_tree_Putr8 : List AOper := [
    ⟨(some 33), .mov (.tmp 11), none⟩,
    ⟨(some 8), .mov (.const (.int .i64 0)), none⟩,
    ⟨(some 9), .mov (.tmp 33), none⟩]
def A_tree_Putr9 : List AOper := [
    ⟨(some 34), .load false 1 (.tmp 4), none⟩,
    ⟨(some 35), .mov (.tmp 1), none⟩,
    ⟨(some 36), .load false 1 (.tmp 6), none⟩,
    ⟨(some 37), .mkF (.func 105) [] [(.tmp 6), (.tmp 10), (.tmp 4)], none⟩,
    ⟨(some 38), .call 104 [(.tmp 34), (.tmp 35), (.tmp 36), (.tmp 37)], none⟩,
    ⟨(some 39), .extr (.tmp 38) 0, none⟩,
    ⟨(some 40), .extr (.tmp 38) 1, none⟩,
    ⟨(some 8), .mov (.tmp 39), none⟩,
    ⟨(some 9), .mov (.tmp 40), none⟩]
def A_tree_Put : AFn := ⟨41, 4, [.tmp 8, .tmp 9], (.seq (.region A_tree_Putr0) (.seq A_tree_Putc5 (.seq (.region A_tree_Putr6) (.seq (.seq (.region A_tree_Putr7) (.cond (.tmp 32) (.seq (.region A_tree_Putr8) .ret) .skip)) (.seq (.region A_tree_Putr9) .ret)))))⟩
theorem fn_tree_Put : FnIs Go.Proofs.Tryz.prog 48 A_tree_Put := ⟨by kernel_rfl, Go.Proofs.Tryz.f48, Go.Proofs.Tryz.func48, by kernel_rfl⟩
/- (*rollbook/kv.DB).Meta -/
def A_kv_DB_Metar0 : List AOper := [
    ⟨(some 2), .alloc [.int .i64 0, .int .i64 0, .int .i64 0, .int .i64 0, .int .i64 0] 5 40, none⟩]
def A_kv_DB_Metar1 : List AOper := [
    ⟨(some 3), .mov (.tmp 0), none⟩,
    ⟨(some 4), .nileq .ptr false (.tmp 3) (.const (.ptr none)), none⟩]
def A_kv_DB_Metar2 : List AOper := [
    ⟨(some 5), .build [.int .i64 0, .int .i64 0, .int .i64 0, .int .i64 0, .int .i64 0] [], none⟩,
    ⟨none, .store 5 (.tmp 2) (.tmp 5), none⟩]
def A_kv_DB_Metar3 : List AOper := [
    ⟨(some 6), .mov (.tmp 0), none⟩,
    ⟨(some 7), .nilck (.tmp 6), none⟩,
    ⟨(some 8), .fadr 0 (.tmp 7), none⟩,
    ⟨(some 9), .load false 1 (.tmp 8), none⟩,
    ⟨(some 10), .call 55 [(.tmp 9)], none⟩,
    ⟨none, .store 5 (.tmp 2) (.tmp 10), none⟩]
def A_kv_DB_Meta : AFn := ⟨11, 1, [.cell 2 true 5], (.seq (.region A_kv_DB_Metar0) (.seq (.seq (.region A_kv_DB_Metar1) (.cond (.tmp 4) (.seq (.region A_kv_DB_Metar2) .ret) .skip)) (.seq (.region A_kv_DB_Metar3) .ret)))⟩
theorem fn_kv_DB_Meta : FnIs Go.Proofs.Tryz.prog 14 A_kv_DB_Meta := ⟨by kernel_rfl, Go.Proofs.Tryz.f14, Go.Proofs.Tryz.func14, by kernel_rfl⟩
/- (*rollbook/kv.DB).Snap -/
def A_kv_DB_Snapr0 : List AOper := [
    ⟨(some 2), .mov (.const (.ptr none)), none⟩,
    ⟨(some 3), .mov (.const (.int .i64 0)), none⟩]
def A_kv_DB_Snapr1 : List AOper := [
    ⟨(some 6), .mov (.tmp 0), none⟩,
    ⟨(some 7), .nileq .ptr false (.tmp 6) (.const (.ptr none)), none⟩]
def A_kv_DB_Snapr2 : List AOper := [
    ⟨(some 2), .mov (.const (.ptr none)), none⟩,
    ⟨(some 3), .mov (.const (.int .i64 2)), none⟩]
def A_kv_DB_Snapr3 : List AOper := [
    ⟨(some 9), .mov (.tmp 0), none⟩,
    ⟨(some 10), .nilck (.tmp 9), none⟩,
    ⟨(some 11), .fadr 1 (.tmp 10), none⟩,
    ⟨(some 12), .load false 1 (.tmp 11), none⟩,
    ⟨(some 13), .mov (.tmp 0), none⟩,
    ⟨(some 14), .call 14 [(.tmp 13)], none⟩,
    ⟨(some 15), .fld false 0 1 (.tmp 14), none⟩,
    ⟨(some 16), .call 56 [(.tmp 12), (.tmp 15)], none⟩,
    ⟨(some 8), .mov (.tmp 16), none⟩,
    ⟨(some 17), .extr (.tmp 8) 0, none⟩,
    ⟨(some 18), .extr (.tmp 8) 1, none⟩,
    ⟨(some 4), .mov (.tmp 17), none⟩,
    ⟨(some 5), .mov (.tmp 18), none⟩]
def A_kv_DB_Snapr4 : List AOper := [
    ⟨(some 19), .mov (.tmp 5), none⟩,
    ⟨(some 20), .ibin .neq (.tmp 19) (.const (.int .i64 0)), none⟩]
def A_kv_DB_Snapr5 : List AOper := [
    ⟨(some 21), .mov (.tmp 5), none⟩,
    ⟨(some 2), .mov (.const (.ptr none)), none⟩,
    ⟨(some 3), .mov (.tmp 21), none⟩]
def A_kv_DB_Snapr6 : List AOper := [
    ⟨(some 22), .mov (.tmp 0), none⟩,
    ⟨(some 23), .mov (.tmp 4), none⟩,
    ⟨(some 24), .mov (.tmp 0), none⟩,
    ⟨(some 25), .call 14 [(.tmp 24)], none⟩,
    ⟨(some 26), .mov (.tmp 0), none⟩,
    ⟨(some 27), .nilck (.tmp 26), none⟩,
    ⟨(some 28), .fadr 3 (.tmp 27), none⟩,
    ⟨(some 29), .load false 1 (.tmp 28), none⟩,
    ⟨(some 30), .build [.ptr none, .int .i64 0, .int .i64 0, .int .i64 0, .int .i64 0, .int .i64 0, .int .i64 0, .slice none 0 0, .bool false] [(0, 1, (.tmp 22)), (1, 1, (.tmp 23)), (2, 5, (.tmp 25)), (7, 1, (.tmp 29))], none⟩,
    ⟨(some 31), .box (.tmp 30) 9, none⟩,
    ⟨(some 2), .mov (.tmp 31), none⟩,
    ⟨(some 3), .mov (.const (.int .i64 0)), none⟩]
def A_kv_DB_Snap : AFn := ⟨32, 1, [.tmp 2, .tmp 3], (.seq (.region A_kv_DB_Snapr0) (.seq (.seq (.region A_kv_DB_Snapr1) (.cond (.tmp 7) (.seq (.region A_kv_DB_Snapr2) .ret) .skip)) (.seq (.draw A_kv_DB_Snapr3 [0, 1, 3, 7, 0, 16, 48, 127, 255, 511, 511, 1023, 4095]) (.seq (.seq (.region A_kv_DB_Snapr4) (.cond (.tmp 20) (.seq (.region A_kv_DB_Snapr5) .ret) .skip)) (.seq (.draw A_kv_DB_Snapr6 [0, 0, 0, 4, 0, 16, 48, 112, 255, 511, 1023, 2047]) .ret)))))⟩
theorem fn_kv_DB_Snap : FnIs Go.Proofs.Tryz.prog 15 A_kv_DB_Snap := ⟨by kernel_rfl, Go.Proofs.Tryz.f15, Go.Proofs.Tryz.func15, by kernel_rfl⟩
/- (*rollbook/kv.DB).Begin -/
def A_kv_DB_Beginr0 : List AOper := [
    ⟨(some 2), .mov (.const (.ptr none)), none⟩,
    ⟨(some 3), .mov (.const (.int .i64 0)), none⟩]
def A_kv_DB_Beginr1 : List AOper := [
    ⟨(some 6), .mov (.tmp 0), none⟩,
    ⟨(some 7), .nileq .ptr false (.tmp 6) (.const (.ptr none)), none⟩,
    ⟨(some 5), .mov (.tmp 7), none⟩]
def A_kv_DB_Beginr2 : List AOper := [
    ⟨(some 2), .mov (.const (.ptr none)), none⟩,
    ⟨(some 3), .mov (.const (.int .i64 2)), none⟩]
def A_kv_DB_Beginr3 : List AOper := [
    ⟨(some 9), .mov (.tmp 0), none⟩,
    ⟨(some 10), .nilck (.tmp 9), none⟩,
    ⟨(some 11), .fadr 4 (.tmp 10), none⟩,
    ⟨(some 12), .load false 1 (.tmp 11), none⟩,
    ⟨(some 13), .nileq .ptr true (.tmp 12) (.const (.ptr none)), none⟩,
    ⟨(some 14), .mov (.tmp 13), none⟩,
    ⟨(some 15), .mov (.tmp 0), (some (14, true))⟩,
    ⟨(some 16), .nilck (.tmp 15), (some (14, true))⟩,
    ⟨(some 17), .fadr 4 (.tmp 16), (some (14, true))⟩,
    ⟨(some 18), .load false 1 (.tmp 17), (some (14, true))⟩,
    ⟨(some 19), .nilck (.tmp 18), (some (14, true))⟩,
    ⟨(some 20), .fadr 13 (.tmp 19), (some (14, true))⟩,
    ⟨(some 21), .load false 1 (.tmp 20), (some (14, true))⟩,
    ⟨(some 22), .un .not (.tmp 21), (some (14, true))⟩,
    ⟨(some 23), .pick (.tmp 14) (.tmp 22) (.const (.bool false)), none⟩,
    ⟨(some 8), .mov (.tmp 23), none⟩]
def A_kv_DB_Beginr4 : List AOper := [
    ⟨(some 2), .mov (.const (.ptr none)), none⟩,
    ⟨(some 3), .mov (.const (.int .i64 10)), none⟩]
def A_kv_DB_Beginr5 : List AOper := [
    ⟨(some 25), .mov (.tmp 0), none⟩,
    ⟨(some 26), .call 14 [(.tmp 25)], none⟩,
    ⟨(some 27), .fld false 0 1 (.tmp 26), none⟩,
    ⟨(some 28), .ibin .geq (.tmp 27) (.const (.int .i64 1099511627776)), none⟩,
    ⟨(some 24), .mov (.tmp 28), none⟩]
def A_kv_DB_Beginr6 : List AOper := [
    ⟨(some 2), .mov (.const (.ptr none)), none⟩,
    ⟨(some 3), .mov (.const (.int .i64 12)), none⟩]
def A_kv_DB_Beginc7 : AC := (.block 0 (.seq (.region A_kv_DB_Beginr1) (.cond (.tmp 5) (.seq (.region A_kv_DB_Beginr2) .ret) (.seq (.region A_kv_DB_Beginr3) (.cond (.tmp 8) (.seq (.region A_kv_DB_Beginr4) .ret) (.seq (.region A_kv_DB_Beginr5) (.cond (.tmp 24) (.seq (.region A_kv_DB_Beginr6) .ret) .skip)))))))
def A_kv_DB_Beginr8 : List AOper := [
    ⟨(some 29), .mov (.tmp 0), none⟩,
    ⟨(some 30), .call 14 [(.tmp 29)], none⟩,
    ⟨(some 4), .alloc [.int .i64 0, .int .i64 0, .int .i64 0, .int .i64 0, .int .i64 0] 5 40, none⟩,
    ⟨none, .store 5 (.tmp 4) (.tmp 30), none⟩]
def A_kv_DB_Beginr9 : List AOper := [
    ⟨(some 31), .fadr 0 (.tmp 4), none⟩,
    ⟨(some 32), .load false 1 (.tmp 31), none⟩,
    ⟨(some 33), .ibin .add (.tmp 32) (.const (.int .i64 1)), none⟩,
    ⟨(some 34), .fadr 0 (.tmp 4), none⟩,
    ⟨none, .store 1 (.tmp 34) (.tmp 33), none⟩]
def A_kv_DB_Beginr10 : List AOper := [
    ⟨(some 35), .mov (.tmp 0), none⟩,
    ⟨(some 36), .mov (.tmp 0), none⟩,
    ⟨(some 37), .fadr 0 (.tmp 4), none⟩,
    ⟨(some 38), .load false 1 (.tmp 37), none⟩,
    ⟨(some 39), .load true 5 (.tmp 4), none⟩,
    ⟨(some 40), .mov (.tmp 0), none⟩,
    ⟨(some 41), .nilck (.tmp 40), none⟩,
    ⟨(some 42), .fadr 2 (.tmp 41), none⟩,
    ⟨(some 43), .load false 1 (.tmp 42), none⟩,
    ⟨(some 44), .call 44 [(.tmp 43)], none⟩,
    ⟨(some 45), .mkM, none⟩,
    ⟨(some 46), .mkM, none⟩,
    ⟨(some 47), .build [.ptr none, .int .i64 0, .int .i64 0, .int .i64 0, .int .i64 0, .int .i64 0, .int .i64 0, .ptr none, .map none, .slice none 0 0, .slice none 0 0, .map none, .int .i64 0, .bool false] [(0, 1, (.tmp 36)), (1, 1, (.tmp 38)), (2, 5, (.tmp 39)), (7, 1, (.tmp 44)), (8, 1, (.tmp 45)), (11, 1, (.tmp 46))], none⟩,
    ⟨(some 48), .box (.tmp 47) 14, none⟩,
    ⟨(some 49), .nilck (.tmp 35), none⟩,
    ⟨(some 50), .fadr 4 (.tmp 49), none⟩,
    ⟨none, .store 1 (.tmp 50) (.tmp 48), none⟩]
def A_kv_DB_Beginr11 : List AOper := [
    ⟨(some 51), .mov (.tmp 0), none⟩,
    ⟨(some 52), .nilck (.tmp 51), none⟩,
    ⟨(some 53), .fadr 4 (.tmp 52), none⟩,
    ⟨(some 54), .load false 1 (.tmp 53), none⟩,
    ⟨(some 2), .mov (.tmp 54), none⟩,
    ⟨(some 3), .mov (.const (.int .i64 0)), none⟩]
def A_kv_DB_Begin : AFn := ⟨55, 1, [.tmp 2, .tmp 3], (.seq (.region A_kv_DB_Beginr0) (.seq A_kv_DB_Beginc7 (.seq (.region A_kv_DB_Beginr8) (.seq (.region A_kv_DB_Beginr9) (.seq (.draw A_kv_DB_Beginr10 [0, 0, 0, 4, 0, 0, 32, 96, 224, 480, 0, 0, 4094, 8190, 16383, 32767, 65535]) (.seq (.region A_kv_DB_Beginr11) .ret))))))⟩
theorem fn_kv_DB_Begin : FnIs Go.Proofs.Tryz.prog 11 A_kv_DB_Begin := ⟨by kernel_rfl, Go.Proofs.Tryz.f11, Go.Proofs.Tryz.func11, by kernel_rfl⟩
/- (*rollbook/pager.Pager).Meta -/
def A_pager_Pager_Metar0 : List AOper := [
    ⟨(some 2), .alloc [.int .i64 0, .int .i64 0, .int .i64 0, .int .i64 0, .int .i64 0] 5 40, none⟩]
def A_pager_Pager_Metar1 : List AOper := [
    ⟨(some 3), .mov (.tmp 0), none⟩,
    ⟨(some 4), .nileq .ptr false (.tmp 3) (.const (.ptr none)), none⟩]
def A_pager_Pager_Metar2 : List AOper := [
    ⟨(some 5), .build [.int .i64 0, .int .i64 0, .int .i64 0, .int .i64 0, .int .i64 0] [], none⟩,
    ⟨none, .store 5 (.tmp 2) (.tmp 5), none⟩]
def A_pager_Pager_Metar3 : List AOper := [
    ⟨(some 6), .mov (.tmp 0), none⟩,
    ⟨(some 7), .nilck (.tmp 6), none⟩,
    ⟨(some 8), .fadr 1 (.tmp 7), none⟩,
    ⟨(some 9), .load true 5 (.tmp 8), none⟩,
    ⟨none, .store 5 (.tmp 2) (.tmp 9), none⟩]
def A_pager_Pager_Meta : AFn := ⟨10, 1, [.cell 2 true 5], (.seq (.region A_pager_Pager_Metar0) (.seq (.seq (.region A_pager_Pager_Metar1) (.cond (.tmp 4) (.seq (.region A_pager_Pager_Metar2) .ret) .skip)) (.seq (.region A_pager_Pager_Metar3) .ret)))⟩
theorem fn_pager_Pager_Meta : FnIs Go.Proofs.Tryz.prog 55 A_pager_Pager_Meta := ⟨by kernel_rfl, Go.Proofs.Tryz.f55, Go.Proofs.Tryz.func55, by kernel_rfl⟩
/- rollbook/tree.place -/
def A_tree_placer0 : List AOper := [
    ⟨(some 4), .mov (.const (.int .i64 0)), none⟩,
    ⟨(some 5), .mov (.const (.bool false)), none⟩]
def A_tree_placer1 : List AOper := [
    ⟨(some 6), .mov (.const (.int .i64 0)), none⟩]
def A_tree_placer2 : List AOper := [
    ⟨(some 7), .mov (.tmp 6), none⟩,
    ⟨(some 8), .mov (.tmp 0), none⟩,
    ⟨(some 9), .len .sl (.tmp 8), none⟩,
    ⟨(some 10), .ibin .lss (.tmp 7) (.tmp 9), none⟩,
    ⟨(some 11), .mov (.tmp 10), none⟩,
    ⟨(some 12), .mov (.tmp 0), (some (11, true))⟩,
    ⟨(some 13), .mov (.tmp 6), (some (11, true))⟩,
    ⟨(some 14), .iadrS 5 (.tmp 12) (.tmp 13), (some (11, true))⟩,
    ⟨(some 15), .fadr 0 (.tmp 14), (some (11, true))⟩,
    ⟨(some 16), .load false 1 (.tmp 15), (some (11, true))⟩,
    ⟨(some 17), .mov (.tmp 1), (some (11, true))⟩,
    ⟨(some 18), .sbin .lss (.tmp 16) (.tmp 17), (some (11, true))⟩,
    ⟨(some 19), .pick (.tmp 11) (.tmp 18) (.const (.bool false)), none⟩]
def A_tree_placer3 : List AOper := [
    ⟨(some 20), .mov (.tmp 6), none⟩,
    ⟨(some 21), .ibin .add (.tmp 20) (.const (.int .i64 1)), none⟩,
    ⟨(some 6), .mov (.tmp 21), none⟩]
def A_tree_placec4 : AC := (.block 1 (.region A_tree_placer3))
def A_tree_placel5 : AC := (.seq (.seq (.region A_tree_placer2) (.cond (.tmp 19) .skip (.exit 0))) A_tree_placec4)
def A_tree_placec6 : AC := (.block 0 (.loop A_tree_placel5))
def A_tree_placer7 : List AOper := [
    ⟨(some 22), .mov (.tmp 6), none⟩,
    ⟨(some 23), .mov (.tmp 6), none⟩,
    ⟨(some 24), .mov (.tmp 0), none⟩,
    ⟨(some 25), .len .sl (.tmp 24), none⟩,
    ⟨(some 26), .ibin .lss (.tmp 23) (.tmp 25), none⟩,
    ⟨(some 27), .mov (.tmp 26), none⟩,
    ⟨(some 28), .mov (.tmp 0), (some (27, true))⟩,
    ⟨(some 29), .mov (.tmp 6), (some (27, true))⟩,
    ⟨(some 30), .iadrS 5 (.tmp 28) (.tmp 29), (some (27, true))⟩,
    ⟨(some 31), .fadr 0 (.tmp 30), (some (27, true))⟩,
    ⟨(some 32), .load false 1 (.tmp 31), (some (27, true))⟩,
    ⟨(some 33), .mov (.tmp 1), (some (27, true))⟩,
    ⟨(some 34), .sbin .eql (.tmp 32) (.tmp 33), (some (27, true))⟩,
    ⟨(some 35), .pick (.tmp 27) (.tmp 34) (.const (.bool false)), none⟩,
    ⟨(some 4), .mov (.tmp 22), none⟩,
    ⟨(some 5), .mov (.tmp 35), none⟩]
def A_tree_place : AFn := ⟨36, 2, [.tmp 4, .tmp 5], (.seq (.region A_tree_placer0) (.seq (.region A_tree_placer1) (.seq A_tree_placec6 (.seq (.draw A_tree_placer7 [0, 0, 0, 4, 14, 30, 62, 62, 254, 510, 1022, 62, 4094, 8190, 63, 32767]) .ret))))⟩
theorem fn_tree_place : FnIs Go.Proofs.Tryz.prog 106 A_tree_place := ⟨by kernel_rfl, Go.Proofs.Tryz.f106, Go.Proofs.Tryz.func106, by kernel_rfl⟩
/- (rollbook/kv.writing).Make -/
def A_kv_writing_Maker0 : List AOper := [
    ⟨(some 3), .box (.tmp 0) 1, none⟩,
    ⟨(some 6), .mov (.const (.int .i64 0)), none⟩,
    ⟨(some 7), .mov (.const (.int .i64 0)), none⟩]
def A_kv_writing_Maker1 : List AOper := [
    ⟨(some 11), .fadr 0 (.tmp 3), none⟩,
    ⟨(some 12), .load false 1 (.tmp 11), none⟩,
    ⟨(some 8), .mov (.tmp 12), none⟩]
def A_kv_writing_Maker2 : List AOper := [
    ⟨(some 14), .mov (.tmp 8), none⟩,
    ⟨(some 15), .call 113 [(.tmp 14)], none⟩,
    ⟨(some 13), .mov (.tmp 15), none⟩,
    ⟨(some 16), .extr (.tmp 13) 0, none⟩,
    ⟨(some 17), .extr (.tmp 13) 1, none⟩,
    ⟨(some 9), .mov (.tmp 16), none⟩,
    ⟨(some 10), .mov (.tmp 17), none⟩]
def A_kv_writing_Maker3 : List AOper := [
    ⟨(some 18), .mov (.tmp 10), none⟩,
    ⟨(some 19), .ibin .neq (.tmp 18) (.const (.int .i64 0)), none⟩]
def A_kv_writing_Maker4 : List AOper := [
    ⟨(some 20), .mov (.tmp 10), none⟩,
    ⟨(some 6), .mov (.const (.int .i64 0)), none⟩,
    ⟨(some 7), .mov (.tmp 20), none⟩]
def A_kv_writing_Maker5 : List AOper := [
    ⟨(some 21), .mov (.tmp 8), none⟩,
    ⟨(some 22), .nilck (.tmp 21), none⟩,
    ⟨(some 23), .fadr 8 (.tmp 22), none⟩,
    ⟨(some 24), .load false 1 (.tmp 23), none⟩,
    ⟨(some 25), .mov (.tmp 9), none⟩,
    ⟨(some 26), .mov (.tmp 1), none⟩,
    ⟨(some 27), .mov (.tmp 9), none⟩,
    ⟨(some 28), .mov (.tmp 8), none⟩,
    ⟨(some 29), .nilck (.tmp 28), none⟩,
    ⟨(some 30), .fadr 1 (.tmp 29), none⟩,
    ⟨(some 31), .load false 1 (.tmp 30), none⟩,
    ⟨(some 32), .mov (.tmp 2), none⟩,
    ⟨(some 33), .build [.int .i64 0, .int .i64 0, .int .i64 0, .str []] [(0, 1, (.tmp 26)), (1, 1, (.tmp 27)), (2, 1, (.tmp 31)), (3, 1, (.tmp 32))], none⟩,
    ⟨none, .mupd .int (.tmp 24) (.tmp 25) (.tmp 33), none⟩]
def A_kv_writing_Maker6 : List AOper := [
    ⟨(some 34), .mov (.tmp 9), none⟩,
    ⟨(some 6), .mov (.tmp 34), none⟩,
    ⟨(some 7), .mov (.const (.int .i64 0)), none⟩]
def A_kv_writing_Make : AFn := ⟨35, 3, [.tmp 6, .tmp 7], (.seq (.region A_kv_writing_Maker0) (.seq (.region A_kv_writing_Maker1) (.seq (.region A_kv_writing_Maker2) (.seq (.seq (.region A_kv_writing_Maker3) (.cond (.tmp 19) (.seq (.region A_kv_writing_Maker4) .ret) .skip)) (.seq (.draw A_kv_writing_Maker5 [0, 1, 3, 7, 0, 0, 0, 0, 128, 384, 896, 0, 4064, 8191]) (.seq (.region A_kv_writing_Maker6) .ret))))))⟩
theorem fn_kv_writing_Make : FnIs Go.Proofs.Tryz.prog 319 A_kv_writing_Make := ⟨by kernel_rfl, Go.Proofs.Tryz.f319, Go.Proofs.Tryz.func319, by kernel_rfl⟩
/- rollbook/pager.Format -/
def A_pager_Formatr0 : List AOper := [
    ⟨(some 4), .mov (.const (.int .i64 0)), none⟩]
def A_pager_Formatr1 : List AOper := [
    ⟨(some 9), .mov (.tmp 1), none⟩,
    ⟨(some 10), .ibin .lss (.tmp 9) (.const (.int .i64 4)), none⟩,
    ⟨(some 11), .mov (.tmp 10), none⟩,
    ⟨(some 12), .mov (.tmp 1), (some (11, false))⟩,
    ⟨(some 13), .ibin .gtr (.tmp 12) (.const (.int .i64 512)), (some (11, false))⟩,
    ⟨(some 14), .pick (.tmp 11) (.const (.bool true)) (.tmp 13), none⟩,
    ⟨(some 15), .mov (.tmp 14), none⟩,
    ⟨(some 16), .mov (.tmp 0), (some (15, false))⟩,
    ⟨(some 17), .call 151 [(.tmp 16)], (some (15, false))⟩,
    ⟨(some 18), .mov (.tmp 1), (some (15, false))⟩,
    ⟨(some 19), .ibin .mul (.const (.int .i64 4)) (.tmp 18), (some (15, false))⟩,
    ⟨(some 20), .ibin .lss (.tmp 17) (.tmp 19), (some (15, false))⟩,
    ⟨(some 21), .pick (.tmp 15) (.const (.bool true)) (.tmp 20), none⟩]
def A_pager_Formatr2 : List AOper := [
    ⟨(some 4), .mov (.const (.int .i64 1)), none⟩]
def A_pager_Formatr3 : List AOper := [
    ⟨(some 22), .mov (.const (.int .i64 0)), none⟩]
def A_pager_Formatr4 : List AOper := [
    ⟨(some 23), .ibin .lss (.tmp 22) (.const (.int .i64 2)), none⟩]
def A_pager_Formatr5 : List AOper := [
    ⟨(some 24), .mov (.tmp 22), none⟩,
    ⟨(some 5), .mov (.tmp 24), none⟩]
def A_pager_Formatr6 : List AOper := [
    ⟨(some 26), .mov (.tmp 5), none⟩,
    ⟨(some 27), .mov (.tmp 1), none⟩,
    ⟨(some 28), .build [.int .i64 0, .int .i64 0, .int .i64 0, .int .i64 0, .int .i64 0] [(0, 1, (.tmp 26)), (3, 1, (.const (.int .i64 1))), (4, 1, (.tmp 27))], none⟩,
    ⟨(some 29), .call 117 [(.tmp 28)], none⟩,
    ⟨(some 25), .mov (.tmp 29), none⟩,
    ⟨(some 30), .extr (.tmp 25) 0, none⟩,
    ⟨(some 31), .extr (.tmp 25) 1, none⟩,
    ⟨(some 6), .mov (.tmp 30), none⟩,
    ⟨(some 7), .mov (.tmp 31), none⟩]
def A_pager_Formatr7 : List AOper := [
    ⟨(some 32), .mov (.tmp 0), none⟩,
    ⟨(some 33), .mov (.tmp 5), none⟩,
    ⟨(some 34), .mov (.tmp 6), none⟩,
    ⟨(some 35), .call 118 [(.tmp 32), (.tmp 33), (.tmp 34)], none⟩,
    ⟨(some 8), .mov (.tmp 35), none⟩]
def A_pager_Formatr8 : List AOper := [
    ⟨(some 36), .mov (.tmp 8), none⟩,
    ⟨(some 37), .ibin .neq (.tmp 36) (.const (.int .i64 0)), none⟩]
def A_pager_Formatr9 : List AOper := [
    ⟨(some 38), .mov (.tmp 8), none⟩,
    ⟨(some 4), .mov (.tmp 38), none⟩]
def A_pager_Formatc10 : AC := (.block 1 (.seq (.region A_pager_Formatr5) (.seq (.region A_pager_Formatr6) (.seq (.region A_pager_Formatr7) (.seq (.region A_pager_Formatr8) (.cond (.tmp 37) (.seq (.region A_pager_Formatr9) .ret) .skip))))))
def A_pager_Formatr11 : List AOper := [
    ⟨(some 39), .ibin .add (.tmp 22) (.const (.int .i64 1)), none⟩,
    ⟨(some 22), .mov (.tmp 39), none⟩]
def A_pager_Formatl12 : AC := (.seq (.region A_pager_Formatr4) (.seq (.cond (.tmp 23) .skip (.exit 0)) (.seq A_pager_Formatc10 (.region A_pager_Formatr11))))
def A_pager_Formatc13 : AC := (.block 0 (.loop A_pager_Formatl12))
def A_pager_Formatr14 : List AOper := [
    ⟨(some 40), .mov (.tmp 0), none⟩,
    ⟨(some 41), .call 116 [(.tmp 40)], none⟩,
    ⟨(some 4), .mov (.tmp 41), none⟩]
def A_pager_Format : AFn := ⟨42, 2, [.tmp 4], (.seq (.region A_pager_Formatr0) (.seq (.seq (.region A_pager_Formatr1) (.cond (.tmp 21) (.seq (.region A_pager_Formatr2) .ret) .skip)) (.seq (.seq (.region A_pager_Formatr3) A_pager_Formatc13) (.seq (.region A_pager_Formatr14) .ret))))⟩
theorem fn_pager_Format : FnIs Go.Proofs.Tryz.prog 98 A_pager_Format := ⟨by kernel_rfl, Go.Proofs.Tryz.f98, Go.Proofs.Tryz.func98, by kernel_rfl⟩
/- (*rollbook/pager.Pager).Seal -/
def A_pager_Pager_Sealr0 : List AOper := [
    ⟨(some 3), .box (.tmp 1) 5, none⟩,
    ⟨(some 4), .mov (.const (.int .i64 0)), none⟩]
def A_pager_Pager_Sealr1 : List AOper := [
    ⟨(some 8), .mov (.tmp 0), none⟩,
    ⟨(some 9), .nileq .ptr false (.tmp 8) (.const (.ptr none)), none⟩]
def A_pager_Pager_Sealr2 : List AOper := [
    ⟨(some 4), .mov (.const (.int .i64 2)), none⟩]
def A_pager_Pager_Sealr3 : List AOper := [
    ⟨(some 11), .load true 5 (.tmp 3), none⟩,
    ⟨(some 12), .call 117 [(.tmp 11)], none⟩,
    ⟨(some 10), .mov (.tmp 12), none⟩,
    ⟨(some 13), .extr (.tmp 10) 0, none⟩,
    ⟨(some 14), .extr (.tmp 10) 1, none⟩,
    ⟨(some 5), .mov (.tmp 13), none⟩,
    ⟨(some 6), .mov (.tmp 14), none⟩]
def A_pager_Pager_Sealr4 : List AOper := [
    ⟨(some 16), .mov (.tmp 6), none⟩,
    ⟨(some 17), .ibin .neq (.tmp 16) (.const (.int .i64 0)), none⟩,
    ⟨(some 18), .mov (.tmp 17), none⟩,
    ⟨(some 19), .fadr 4 (.tmp 3), (some (18, false))⟩,
    ⟨(some 20), .load false 1 (.tmp 19), (some (18, false))⟩,
    ⟨(some 21), .mov (.tmp 0), (some (18, false))⟩,
    ⟨(some 22), .nilck (.tmp 21), (some (18, false))⟩,
    ⟨(some 23), .fadr 1 (.tmp 22), (some (18, false))⟩,
    ⟨(some 24), .fadr 4 (.tmp 23), (some (18, false))⟩,
    ⟨(some 25), .load false 1 (.tmp 24), (some (18, false))⟩,
    ⟨(some 26), .ibin .neq (.tmp 20) (.tmp 25), (some (18, false))⟩,
    ⟨(some 27), .pick (.tmp 18) (.const (.bool true)) (.tmp 26), none⟩,
    ⟨(some 15), .mov (.tmp 27), none⟩]
def A_pager_Pager_Sealr5 : List AOper := [
    ⟨(some 4), .mov (.const (.int .i64 4)), none⟩]
def A_pager_Pager_Sealr6 : List AOper := [
    ⟨(some 29), .fadr 0 (.tmp 3), none⟩,
    ⟨(some 30), .load false 1 (.tmp 29), none⟩,
    ⟨(some 31), .ibin .sub (.tmp 30) (.const (.int .i64 1)), none⟩,
    ⟨(some 32), .mov (.tmp 0), none⟩,
    ⟨(some 33), .nilck (.tmp 32), none⟩,
    ⟨(some 34), .fadr 1 (.tmp 33), none⟩,
    ⟨(some 35), .fadr 0 (.tmp 34), none⟩,
    ⟨(some 36), .load false 1 (.tmp 35), none⟩,
    ⟨(some 37), .ibin .neq (.tmp 31) (.tmp 36), none⟩,
    ⟨(some 38), .mov (.tmp 37), none⟩,
    ⟨(some 39), .mov (.tmp 0), (some (38, false))⟩,
    ⟨(some 40), .nilck (.tmp 39), (some (38, false))⟩,
    ⟨(some 41), .fadr 12 (.tmp 40), (some (38, false))⟩,
    ⟨(some 42), .load false 1 (.tmp 41), (some (38, false))⟩,
    ⟨(some 43), .nileq .ptr true (.tmp 42) (.const (.ptr none)), (some (38, false))⟩,
    ⟨(some 44), .pick (.tmp 38) (.const (.bool true)) (.tmp 43), none⟩,
    ⟨(some 28), .mov (.tmp 44), none⟩]
def A_pager_Pager_Sealr7 : List AOper := [
    ⟨(some 4), .mov (.const (.int .i64 11)), none⟩]
def A_pager_Pager_Sealc8 : AC := (.block 0 (.seq (.draw A_pager_Pager_Sealr4 [0, 1, 3, 7, 15, 7, 39, 103, 231, 487, 1023, 2047, 4095]) (.cond (.tmp 15) (.seq (.region A_pager_Pager_Sealr5) .ret) (.seq (.draw A_pager_Pager_Sealr6 [0, 1, 3, 0, 8, 24, 56, 120, 255, 511, 1023, 2047, 4095, 8191, 16383, 32767, 65535]) (.cond (.tmp 28) (.seq (.region A_pager_Pager_Sealr7) .ret) .skip)))))
def A_pager_Pager_Sealr9 : List AOper := [
    ⟨(some 45), .mov (.tmp 0), none⟩,
    ⟨(some 46), .nilck (.tmp 45), none⟩,
    ⟨(some 47), .fadr 0 (.tmp 46), none⟩,
    ⟨(some 48), .load false 1 (.tmp 47), none⟩,
    ⟨(some 49), .fadr 0 (.tmp 3), none⟩,
    ⟨(some 50), .load false 1 (.tmp 49), none⟩,
    ⟨(some 51), .ibin .rem (.tmp 50) (.const (.int .i64 2)), none⟩,
    ⟨(some 52), .mov (.tmp 5), none⟩,
    ⟨(some 53), .call 118 [(.tmp 48), (.tmp 51), (.tmp 52)], none⟩,
    ⟨(some 7), .mov (.tmp 53), none⟩]
def A_pager_Pager_Sealr10 : List AOper := [
    ⟨(some 54), .mov (.tmp 7), none⟩,
    ⟨(some 55), .ibin .neq (.tmp 54) (.const (.int .i64 0)), none⟩]
def A_pager_Pager_Sealr11 : List AOper := [
    ⟨(some 56), .mov (.tmp 7), none⟩,
    ⟨(some 4), .mov (.tmp 56), none⟩]
def A_pager_Pager_Sealr12 : List AOper := [
    ⟨(some 57), .mov (.tmp 0), none⟩,
    ⟨(some 58), .nilck (.tmp 57), none⟩,
    ⟨(some 59), .fadr 12 (.tmp 58), none⟩,
    ⟨none, .store 1 (.tmp 59) (.tmp 3), none⟩]
def A_pager_Pager_Sealr13 : List AOper := [
    ⟨(some 4), .mov (.const (.int .i64 0)), none⟩]
def A_pager_Pager_Seal : AFn := ⟨60, 2, [.tmp 4], (.seq (.region A_pager_Pager_Sealr0) (.seq (.seq (.region A_pager_Pager_Sealr1) (.cond (.tmp 9) (.seq (.region A_pager_Pager_Sealr2) .ret) .skip)) (.seq (.region A_pager_Pager_Sealr3) (.seq A_pager_Pager_Sealc8 (.seq (.seq (.draw A_pager_Pager_Sealr9 [0, 1, 3, 7, 0, 16, 48, 0, 255, 511]) (.seq (.region A_pager_Pager_Sealr10) (.cond (.tmp 55) (.seq (.region A_pager_Pager_Sealr11) .ret) .skip))) (.seq (.region A_pager_Pager_Sealr12) (.seq (.region A_pager_Pager_Sealr13) .ret)))))))⟩
theorem fn_pager_Pager_Seal : FnIs Go.Proofs.Tryz.prog 53 A_pager_Pager_Seal := ⟨by kernel_rfl, Go.Proofs.Tryz.f53, Go.Proofs.Tryz.func53, by kernel_rfl⟩
/- (*rollbook/kv.Txn).lay -/
def A_kv_Txn_layr0 : List AOper := [
    ⟨(some 2), .mov (.const (.int .i64 0)), none⟩]
def A_kv_Txn_layr1 : List AOper := [
    ⟨(some 17), .mov (.tmp 0), none⟩,
    ⟨(some 18), .call 109 [(.tmp 17)], none⟩,
    ⟨(some 3), .mov (.tmp 18), none⟩]
def A_kv_Txn_layr2 : List AOper := [
    ⟨(some 19), .mov (.tmp 3), none⟩,
    ⟨(some 20), .ibin .neq (.tmp 19) (.const (.int .i64 0)), none⟩]
def A_kv_Txn_layr3 : List AOper := [
    ⟨(some 21), .mov (.tmp 3), none⟩,
    ⟨(some 2), .mov (.tmp 21), none⟩]
def A_kv_Txn_layr4 : List AOper := [
    ⟨(some 4), .mov (.const (.slice none 0 0)), none⟩]
def A_kv_Txn_layr5 : List AOper := [
    ⟨(some 23), .mov (.tmp 0), none⟩,
    ⟨(some 24), .mov (.tmp 4), none⟩,
    ⟨(some 25), .call 110 [(.tmp 23), (.tmp 24)], none⟩,
    ⟨(some 22), .mov (.tmp 25), none⟩,
    ⟨(some 26), .extr (.tmp 22) 0, none⟩,
    ⟨(some 27), .extr (.tmp 22) 1, none⟩,
    ⟨(some 5), .mov (.tmp 26), none⟩,
    ⟨(some 6), .mov (.tmp 27), none⟩]
def A_kv_Txn_layr6 : List AOper := [
    ⟨(some 28), .mov (.tmp 6), none⟩,
    ⟨(some 29), .ibin .eql (.tmp 28) (.const (.int .i64 0)), none⟩,
    ⟨(some 30), .mov (.tmp 29), none⟩,
    ⟨(some 31), .mov (.tmp 4), (some (30, true))⟩,
    ⟨(some 32), .len .sl (.tmp 31), (some (30, true))⟩,
    ⟨(some 33), .mov (.tmp 5), (some (30, true))⟩,
    ⟨(some 34), .call 112 [(.tmp 33)], (some (30, true))⟩,
    ⟨(some 35), .call 111 [(.tmp 34)], (some (30, true))⟩,
    ⟨(some 36), .ibin .lss (.tmp 32) (.tmp 35), (some (30, true))⟩,
    ⟨(some 37), .pick (.tmp 30) (.tmp 36) (.const (.bool false)), none⟩]
def A_kv_Txn_layr7 : List AOper := [
    ⟨(some 39), .mov (.tmp 0), none⟩,
    ⟨(some 40), .call 113 [(.tmp 39)], none⟩,
    ⟨(some 38), .mov (.tmp 40), none⟩,
    ⟨(some 41), .extr (.tmp 38) 0, none⟩,
    ⟨(some 42), .extr (.tmp 38) 1, none⟩,
    ⟨(some 7), .mov (.tmp 41), none⟩,
    ⟨(some 8), .mov (.tmp 42), none⟩]
def A_kv_Txn_layr8 : List AOper := [
    ⟨(some 43), .mov (.tmp 8), none⟩,
    ⟨(some 44), .ibin .neq (.tmp 43) (.const (.int .i64 0)), none⟩]
def A_kv_Txn_layr9 : List AOper := [
    ⟨(some 45), .mov (.tmp 8), none⟩,
    ⟨(some 2), .mov (.tmp 45), none⟩]
def A_kv_Txn_layr10 : List AOper := [
    ⟨(some 46), .mov (.tmp 4), none⟩,
    ⟨(some 47), .mov (.tmp 7), none⟩,
    ⟨(some 48), .buildSl [.int .i64 0] 1 1 [(0, 1, (.tmp 47))], none⟩,
    ⟨(some 49), .app 1 8 3 (.tmp 46) (.tmp 48), none⟩,
    ⟨(some 4), .mov (.tmp 49), none⟩]
def A_kv_Txn_layr11 : List AOper := [
    ⟨(some 51), .mov (.tmp 0), none⟩,
    ⟨(some 52), .mov (.tmp 4), none⟩,
    ⟨(some 53), .call 110 [(.tmp 51), (.tmp 52)], none⟩,
    ⟨(some 50), .mov (.tmp 53), none⟩,
    ⟨(some 54), .extr (.tmp 50) 0, none⟩,
    ⟨(some 55), .extr (.tmp 50) 1, none⟩,
    ⟨(some 5), .mov (.tmp 54), none⟩,
    ⟨(some 6), .mov (.tmp 55), none⟩]
def A_kv_Txn_layc12 : AC := (.block 1 (.seq (.region A_kv_Txn_layr7) (.seq (.seq (.region A_kv_Txn_layr8) (.cond (.tmp 44) (.seq (.region A_kv_Txn_layr9) .ret) .skip)) (.seq (.region A_kv_Txn_layr10) (.region A_kv_Txn_layr11)))))
def A_kv_Txn_layl13 : AC := (.seq (.seq (.region A_kv_Txn_layr6) (.cond (.tmp 37) .skip (.exit 0))) A_kv_Txn_layc12)
def A_kv_Txn_layc14 : AC := (.block 0 (.loop A_kv_Txn_layl13))
def A_kv_Txn_layr15 : List AOper := [
    ⟨(some 56), .mov (.tmp 6), none⟩,
    ⟨(some 57), .ibin .neq (.tmp 56) (.const (.int .i64 0)), none⟩]
def A_kv_Txn_layr16 : List AOper := [
    ⟨(some 58), .mov (.tmp 6), none⟩,
    ⟨(some 2), .mov (.tmp 58), none⟩]
def A_kv_Txn_layr17 : List AOper := [
    ⟨(some 59), .mov (.tmp 5), none⟩,
    ⟨(some 60), .call 61 [(.tmp 59)], none⟩,
    ⟨(some 9), .mov (.tmp 60), none⟩]
def A_kv_Txn_layr18 : List AOper := [
    ⟨(some 61), .mov (.tmp 4), none⟩,
    ⟨(some 62), .len .sl (.tmp 61), none⟩,
    ⟨(some 63), .mov (.const (.int .i64 0)), none⟩]
def A_kv_Txn_layr19 : List AOper := [
    ⟨(some 64), .ibin .lss (.tmp 63) (.tmp 62), none⟩]
def A_kv_Txn_layr20 : List AOper := [
    ⟨(some 65), .mov (.tmp 63), none⟩,
    ⟨(some 66), .iadrS 1 (.tmp 61) (.tmp 63), none⟩,
    ⟨(some 67), .load false 1 (.tmp 66), none⟩,
    ⟨(some 10), .mov (.tmp 65), none⟩,
    ⟨(some 11), .mov (.tmp 67), none⟩]
def A_kv_Txn_layr21 : List AOper := [
    ⟨(some 12), .mov (.const (.int .i64 0)), none⟩]
def A_kv_Txn_layr22 : List AOper := [
    ⟨(some 68), .mov (.tmp 10), none⟩,
    ⟨(some 69), .ibin .add (.tmp 68) (.const (.int .i64 1)), none⟩,
    ⟨(some 70), .mov (.tmp 4), none⟩,
    ⟨(some 71), .len .sl (.tmp 70), none⟩,
    ⟨(some 72), .ibin .lss (.tmp 69) (.tmp 71), none⟩]
def A_kv_Txn_layr23 : List AOper := [
    ⟨(some 73), .mov (.tmp 4), none⟩,
    ⟨(some 74), .mov (.tmp 10), none⟩,
    ⟨(some 75), .ibin .add (.tmp 74) (.const (.int .i64 1)), none⟩,
    ⟨(some 76), .iadrS 1 (.tmp 73) (.tmp 75), none⟩,
    ⟨(some 77), .load false 1 (.tmp 76), none⟩,
    ⟨(some 12), .mov (.tmp 77), none⟩]
def A_kv_Txn_layr24 : List AOper := [
    ⟨(some 78), .mov (.tmp 9), none⟩,
    ⟨(some 79), .len .sl (.tmp 78), none⟩,
    ⟨(some 80), .mov (.tmp 10), none⟩,
    ⟨(some 81), .ibin .mul (.tmp 79) (.tmp 80), none⟩,
    ⟨(some 82), .mov (.tmp 4), none⟩,
    ⟨(some 83), .len .sl (.tmp 82), none⟩,
    ⟨(some 84), .ibin .quo (.tmp 81) (.tmp 83), none⟩,
    ⟨(some 85), .mov (.tmp 9), none⟩,
    ⟨(some 86), .len .sl (.tmp 85), none⟩,
    ⟨(some 87), .mov (.tmp 10), none⟩,
    ⟨(some 88), .ibin .add (.tmp 87) (.const (.int .i64 1)), none⟩,
    ⟨(some 89), .ibin .mul (.tmp 86) (.tmp 88), none⟩,
    ⟨(some 90), .mov (.tmp 4), none⟩,
    ⟨(some 91), .len .sl (.tmp 90), none⟩,
    ⟨(some 92), .ibin .quo (.tmp 89) (.tmp 91), none⟩,
    ⟨(some 13), .mov (.tmp 84), none⟩,
    ⟨(some 14), .mov (.tmp 92), none⟩]
def A_kv_Txn_layr25 : List AOper := [
    ⟨(some 94), .mov (.tmp 12), none⟩,
    ⟨(some 95), .mov (.tmp 9), none⟩,
    ⟨(some 96), .mov (.tmp 13), none⟩,
    ⟨(some 97), .mov (.tmp 14), none⟩,
    ⟨(some 98), .slV 2 (.tmp 95) (some (.tmp 96)) (some (.tmp 97)) none, none⟩,
    ⟨(some 99), .call 114 [(.tmp 94), (.tmp 98)], none⟩,
    ⟨(some 93), .mov (.tmp 99), none⟩,
    ⟨(some 100), .extr (.tmp 93) 0, none⟩,
    ⟨(some 101), .extr (.tmp 93) 1, none⟩,
    ⟨(some 15), .mov (.tmp 100), none⟩,
    ⟨(some 16), .mov (.tmp 101), none⟩]
def A_kv_Txn_layr26 : List AOper := [
    ⟨(some 102), .mov (.tmp 16), none⟩,
    ⟨(some 103), .ibin .neq (.tmp 102) (.const (.int .i64 0)), none⟩]
def A_kv_Txn_layr27 : List AOper := [
    ⟨(some 104), .mov (.tmp 16), none⟩,
    ⟨(some 2), .mov (.tmp 104), none⟩]
def A_kv_Txn_layr28 : List AOper := [
    ⟨(some 105), .mov (.tmp 0), none⟩,
    ⟨(some 106), .nilck (.tmp 105), none⟩,
    ⟨(some 107), .fadr 8 (.tmp 106), none⟩,
    ⟨(some 108), .load false 1 (.tmp 107), none⟩,
    ⟨(some 109), .mov (.tmp 11), none⟩,
    ⟨(some 110), .mov (.tmp 11), none⟩,
    ⟨(some 111), .mov (.tmp 0), none⟩,
    ⟨(some 112), .nilck (.tmp 111), none⟩,
    ⟨(some 113), .fadr 1 (.tmp 112), none⟩,
    ⟨(some 114), .load false 1 (.tmp 113), none⟩,
    ⟨(some 115), .mov (.tmp 15), none⟩,
    ⟨(some 116), .build [.int .i64 0, .int .i64 0, .int .i64 0, .str []] [(0, 1, (.const (.int .i64 4))), (1, 1, (.tmp 110)), (2, 1, (.tmp 114)), (3, 1, (.tmp 115))], none⟩,
    ⟨none, .mupd .int (.tmp 108) (.tmp 109) (.tmp 116), none⟩]
def A_kv_Txn_layc29 : AC := (.block 3 (.seq (.region A_kv_Txn_layr20) (.seq (.region A_kv_Txn_layr21) (.seq (.seq (.region A_kv_Txn_layr22) (.cond (.tmp 72) (.region A_kv_Txn_layr23) .skip)) (.seq (.draw A_kv_Txn_layr24 [0, 1, 0, 7, 0, 16, 63, 0, 128, 0, 512, 1920, 0, 4096, 16256, 127, 65535]) (.seq (.region A_kv_Txn_layr25) (.seq (.seq (.region A_kv_Txn_layr26) (.cond (.tmp 103) (.seq (.region A_kv_Txn_layr27) .ret) .skip)) (.draw A_kv_Txn_layr28 [0, 1, 3, 7, 0, 0, 0, 64, 192, 448, 0, 2016, 4095]))))))))
def A_kv_Txn_layr30 : List AOper := [
    ⟨(some 117), .ibin .add (.tmp 63) (.const (.int .i64 1)), none⟩,
    ⟨(some 63), .mov (.tmp 117), none⟩]
def A_kv_Txn_layl31 : AC := (.seq (.region A_kv_Txn_layr19) (.seq (.cond (.tmp 64) .skip (.exit 2)) (.seq A_kv_Txn_layc29 (.region A_kv_Txn_layr30))))
def A_kv_Txn_layc32 : AC := (.block 2 (.loop A_kv_Txn_layl31))
def A_kv_Txn_layr33 : List AOper := [
    ⟨(some 118), .mov (.tmp 0), none⟩,
    ⟨(some 119), .nilck (.tmp 118), none⟩,
    ⟨(some 120), .fadr 2 (.tmp 119), none⟩,
    ⟨(some 121), .fadr 2 (.tmp 120), none⟩,
    ⟨none, .store 1 (.tmp 121) (.const (.int .i64 0)), none⟩]
def A_kv_Txn_layr34 : List AOper := [
    ⟨(some 122), .mov (.tmp 4), none⟩,
    ⟨(some 123), .len .sl (.tmp 122), none⟩,
    ⟨(some 124), .ibin .gtr (.tmp 123) (.const (.int .i64 0)), none⟩]
def A_kv_Txn_layr35 : List AOper := [
    ⟨(some 125), .mov (.tmp 0), none⟩,
    ⟨(some 126), .mov (.tmp 4), none⟩,
    ⟨(some 127), .iadrS 1 (.tmp 126) (.const (.int .i64 0)), none⟩,
    ⟨(some 128), .load false 1 (.tmp 127), none⟩,
    ⟨(some 129), .nilck (.tmp 125), none⟩,
    ⟨(some 130), .fadr 2 (.tmp 129), none⟩,
    ⟨(some 131), .fadr 2 (.tmp 130), none⟩,
    ⟨none, .store 1 (.tmp 131) (.tmp 128), none⟩]
def A_kv_Txn_layr36 : List AOper := [
    ⟨(some 132), .mov (.tmp 0), none⟩,
    ⟨(some 133), .mov (.tmp 5), none⟩,
    ⟨(some 134), .nilck (.tmp 132), none⟩,
    ⟨(some 135), .fadr 7 (.tmp 134), none⟩,
    ⟨none, .store 1 (.tmp 135) (.tmp 133), none⟩]
def A_kv_Txn_layr37 : List AOper := [
    ⟨(some 136), .mov (.tmp 0), none⟩,
    ⟨(some 137), .nilck (.tmp 136), none⟩,
    ⟨(some 138), .fadr 10 (.tmp 137), none⟩,
    ⟨none, .store 1 (.tmp 138) (.const (.slice none 0 0)), none⟩]
def A_kv_Txn_layr38 : List AOper := [
    ⟨(some 139), .mov (.tmp 0), none⟩,
    ⟨(some 140), .mov (.tmp 4), none⟩,
    ⟨(some 141), .nilck (.tmp 139), none⟩,
    ⟨(some 142), .fadr 9 (.tmp 141), none⟩,
    ⟨none, .store 1 (.tmp 142) (.tmp 140), none⟩]
def A_kv_Txn_layr39 : List AOper := [
    ⟨(some 2), .mov (.const (.int .i64 0)), none⟩]
def A_kv_Txn_lay : AFn := ⟨143, 1, [.tmp 2], (.seq (.region A_kv_Txn_layr0) (.seq (.seq (.region A_kv_Txn_layr1) (.seq (.region A_kv_Txn_layr2) (.cond (.tmp 20) (.seq (.region A_kv_Txn_layr3) .ret) .skip))) (.seq (.region A_kv_Txn_layr4) (.seq (.region A_kv_Txn_layr5) (.seq A_kv_Txn_layc14 (.seq (.seq (.region A_kv_Txn_layr15) (.cond (.tmp 57) (.seq (.region A_kv_Txn_layr16) .ret) .skip)) (.seq (.region A_kv_Txn_layr17) (.seq (.seq (.region A_kv_Txn_layr18) A_kv_Txn_layc32) (.seq (.region A_kv_Txn_layr33) (.seq (.seq (.region A_kv_Txn_layr34) (.cond (.tmp 124) (.region A_kv_Txn_layr35) .skip)) (.seq (.region A_kv_Txn_layr36) (.seq (.region A_kv_Txn_layr37) (.seq (.region A_kv_Txn_layr38) (.seq (.region A_kv_Txn_layr39) .ret))))))))))))))⟩
theorem fn_kv_Txn_lay : FnIs Go.Proofs.Tryz.prog 50 A_kv_Txn_lay := ⟨by kernel_rfl, Go.Proofs.Tryz.f50, Go.Proofs.Tryz.func50, by kernel_rfl⟩
/- (*rollbook/kv.Txn).names -/
def A_kv_Txn_namesr0 : List AOper := [
    ⟨(some 2), .mov (.const (.int .i64 0)), none⟩]
def A_kv_Txn_namesr1 : List AOper := [
    ⟨(some 9), .mov (.tmp 0), none⟩,
    ⟨(some 10), .nilck (.tmp 9), none⟩,
    ⟨(some 11), .fadr 11 (.tmp 10), none⟩,
    ⟨(some 12), .load false 1 (.tmp 11), none⟩,
    ⟨(some 13), .call 168 [(.tmp 12)], none⟩,
    ⟨(some 14), .call 167 [(.tmp 13)], none⟩,
    ⟨(some 15), .len .sl (.tmp 14), none⟩,
    ⟨(some 16), .mov (.const (.int .i64 0)), none⟩]
def A_kv_Txn_namesr2 : List AOper := [
    ⟨(some 17), .ibin .lss (.tmp 16) (.tmp 15), none⟩]
def A_kv_Txn_namesr3 : List AOper := [
    ⟨(some 18), .iadrS 1 (.tmp 14) (.tmp 16), none⟩,
    ⟨(some 19), .load false 1 (.tmp 18), none⟩,
    ⟨(some 4), .mov (.tmp 19), none⟩]
def A_kv_Txn_namesr4 : List AOper := [
    ⟨(some 20), .mov (.tmp 0), none⟩,
    ⟨(some 21), .nilck (.tmp 20), none⟩,
    ⟨(some 22), .fadr 11 (.tmp 21), none⟩,
    ⟨(some 23), .load false 1 (.tmp 22), none⟩,
    ⟨(some 24), .mov (.tmp 4), none⟩,
    ⟨(some 25), .look .str (.int .i64 0) false (.tmp 23) (.tmp 24), none⟩,
    ⟨(some 5), .mov (.tmp 25), none⟩]
def A_kv_Txn_namesr5 : List AOper := [
    ⟨(some 6), .mov (.const (.int .i64 0)), none⟩]
def A_kv_Txn_namesr6 : List AOper := [
    ⟨(some 26), .mov (.tmp 5), none⟩,
    ⟨(some 27), .ibin .eql (.tmp 26) (.const (.int .i64 0)), none⟩]
def A_kv_Txn_namesr7 : List AOper := [
    ⟨(some 29), .mov (.tmp 0), none⟩,
    ⟨(some 30), .mov (.tmp 0), none⟩,
    ⟨(some 31), .build [.ptr none] [(0, 1, (.tmp 30))], none⟩,
    ⟨(some 32), .mkI 111 (.tmp 31), none⟩,
    ⟨(some 33), .mov (.tmp 0), none⟩,
    ⟨(some 34), .nilck (.tmp 33), none⟩,
    ⟨(some 35), .fadr 2 (.tmp 34), none⟩,
    ⟨(some 36), .fadr 1 (.tmp 35), none⟩,
    ⟨(some 37), .load false 1 (.tmp 36), none⟩,
    ⟨(some 38), .mov (.tmp 4), none⟩,
    ⟨(some 39), .call 143 [(.tmp 32), (.tmp 37), (.tmp 38)], none⟩,
    ⟨(some 28), .mov (.tmp 39), none⟩,
    ⟨(some 40), .extr (.tmp 28) 0, none⟩,
    ⟨(some 41), .extr (.tmp 28) 1, none⟩,
    ⟨(some 42), .extr (.tmp 28) 2, none⟩,
    ⟨(some 43), .nilck (.tmp 29), none⟩,
    ⟨(some 44), .fadr 2 (.tmp 43), none⟩,
    ⟨(some 45), .fadr 1 (.tmp 44), none⟩,
    ⟨none, .store 1 (.tmp 45) (.tmp 40), none⟩,
    ⟨(some 6), .mov (.tmp 42), none⟩]
def A_kv_Txn_namesr8 : List AOper := [
    ⟨(some 47), .mov (.tmp 5), none⟩,
    ⟨(some 48), .conv .u64 (.tmp 47), none⟩,
    ⟨(some 49), .call 160 [(.const (.str [])), (.tmp 48), (.const (.int .i64 4))], none⟩,
    ⟨(some 46), .mov (.tmp 49), none⟩,
    ⟨(some 50), .extr (.tmp 46) 0, none⟩,
    ⟨(some 51), .extr (.tmp 46) 1, none⟩,
    ⟨(some 7), .mov (.tmp 50), none⟩,
    ⟨(some 8), .mov (.tmp 51), none⟩]
def A_kv_Txn_namesr9 : List AOper := [
    ⟨(some 53), .mov (.tmp 0), none⟩,
    ⟨(some 54), .mov (.tmp 0), none⟩,
    ⟨(some 55), .build [.ptr none] [(0, 1, (.tmp 54))], none⟩,
    ⟨(some 56), .mkI 111 (.tmp 55), none⟩,
    ⟨(some 57), .mov (.tmp 0), none⟩,
    ⟨(some 58), .nilck (.tmp 57), none⟩,
    ⟨(some 59), .fadr 2 (.tmp 58), none⟩,
    ⟨(some 60), .fadr 1 (.tmp 59), none⟩,
    ⟨(some 61), .load false 1 (.tmp 60), none⟩,
    ⟨(some 62), .mov (.tmp 4), none⟩,
    ⟨(some 63), .mov (.tmp 7), none⟩,
    ⟨(some 64), .call 48 [(.tmp 56), (.tmp 61), (.tmp 62), (.tmp 63)], none⟩,
    ⟨(some 52), .mov (.tmp 64), none⟩,
    ⟨(some 65), .extr (.tmp 52) 0, none⟩,
    ⟨(some 66), .extr (.tmp 52) 1, none⟩,
    ⟨(some 67), .nilck (.tmp 53), none⟩,
    ⟨(some 68), .fadr 2 (.tmp 67), none⟩,
    ⟨(some 69), .fadr 1 (.tmp 68), none⟩,
    ⟨none, .store 1 (.tmp 69) (.tmp 65), none⟩,
    ⟨(some 6), .mov (.tmp 66), none⟩]
def A_kv_Txn_namesr10 : List AOper := [
    ⟨(some 70), .mov (.tmp 6), none⟩,
    ⟨(some 71), .ibin .neq (.tmp 70) (.const (.int .i64 0)), none⟩]
def A_kv_Txn_namesr11 : List AOper := [
    ⟨(some 72), .mov (.tmp 6), none⟩,
    ⟨(some 2), .mov (.tmp 72), none⟩]
def A_kv_Txn_namesc12 : AC := (.block 1 (.seq (.region A_kv_Txn_namesr3) (.seq (.region A_kv_Txn_namesr4) (.seq (.region A_kv_Txn_namesr5) (.seq (.seq (.region A_kv_Txn_namesr6) (.cond (.tmp 27) (.region A_kv_Txn_namesr7) (.seq (.region A_kv_Txn_namesr8) (.region A_kv_Txn_namesr9)))) (.seq (.region A_kv_Txn_namesr10) (.cond (.tmp 71) (.seq (.region A_kv_Txn_namesr11) .ret) .skip)))))))
def A_kv_Txn_namesr13 : List AOper := [
    ⟨(some 73), .ibin .add (.tmp 16) (.const (.int .i64 1)), none⟩,
    ⟨(some 16), .mov (.tmp 73), none⟩]
def A_kv_Txn_namesl14 : AC := (.seq (.region A_kv_Txn_namesr2) (.seq (.cond (.tmp 17) .skip (.exit 0)) (.seq A_kv_Txn_namesc12 (.region A_kv_Txn_namesr13))))
def A_kv_Txn_namesc15 : AC := (.block 0 (.loop A_kv_Txn_namesl14))
def A_kv_Txn_namesr16 : List AOper := [
    ⟨(some 2), .mov (.const (.int .i64 0)), none⟩]
def A_kv_Txn_names : AFn := ⟨74, 1, [.tmp 2], (.seq (.region A_kv_Txn_namesr0) (.seq (.seq (.region A_kv_Txn_namesr1) A_kv_Txn_namesc15) (.seq (.region A_kv_Txn_namesr16) .ret)))⟩
theorem fn_kv_Txn_names : FnIs Go.Proofs.Tryz.prog 109 A_kv_Txn_names := ⟨by kernel_rfl, Go.Proofs.Tryz.f109, Go.Proofs.Tryz.func109, by kernel_rfl⟩
/- rollbook/tree.parts -/
def A_tree_partsr0 : List AOper := [
    ⟨(some 6), .mov (.const (.slice none 0 0)), none⟩]
def A_tree_partsr1 : List AOper := [
    ⟨(some 7), .mov (.const (.int .i64 2)), none⟩]
def A_tree_partsr2 : List AOper := [
    ⟨(some 13), .mov (.tmp 2), none⟩,
    ⟨(some 14), .len .sl (.tmp 13), none⟩,
    ⟨(some 15), .mov (.const (.int .i64 0)), none⟩]
def A_tree_partsr3 : List AOper := [
    ⟨(some 16), .ibin .lss (.tmp 15) (.tmp 14), none⟩]
def A_tree_partsr4 : List AOper := [
    ⟨(some 17), .iadrS 5 (.tmp 13) (.tmp 15), none⟩,
    ⟨(some 18), .load true 5 (.tmp 17), none⟩,
    ⟨(some 9), .alloc [.str [], .str [], .int .i64 0, .int .i64 0, .int .i64 0] 5 170, none⟩,
    ⟨none, .store 5 (.tmp 9) (.tmp 18), none⟩]
def A_tree_partsr5 : List AOper := [
    ⟨(some 19), .mov (.tmp 7), none⟩,
    ⟨(some 20), .mov (.tmp 1), none⟩,
    ⟨(some 21), .load true 5 (.tmp 9), none⟩,
    ⟨(some 22), .call 219 [(.tmp 20), (.tmp 21)], none⟩,
    ⟨(some 23), .ibin .add (.tmp 19) (.tmp 22), none⟩,
    ⟨(some 7), .mov (.tmp 23), none⟩]
def A_tree_partsc6 : AC := (.block 1 (.seq (.region A_tree_partsr4) (.region A_tree_partsr5)))
def A_tree_partsr7 : List AOper := [
    ⟨(some 24), .ibin .add (.tmp 15) (.const (.int .i64 1)), none⟩,
    ⟨(some 15), .mov (.tmp 24), none⟩]
def A_tree_partsl8 : AC := (.seq (.region A_tree_partsr3) (.seq (.cond (.tmp 16) .skip (.exit 0)) (.seq A_tree_partsc6 (.region A_tree_partsr7))))
def A_tree_partsc9 : AC := (.block 0 (.loop A_tree_partsl8))
def A_tree_partsr10 : List AOper := [
    ⟨(some 25), .mov (.tmp 7), none⟩,
    ⟨(some 26), .ibin .leq (.tmp 25) (.const (.int .i64 488)), none⟩]
def A_tree_partsr11 : List AOper := [
    ⟨(some 27), .mov (.tmp 0), none⟩,
    ⟨(some 28), .mov (.tmp 1), none⟩,
    ⟨(some 29), .mov (.tmp 2), none⟩,
    ⟨(some 30), .build [.str [], .bool false, .slice none 0 0] [(0, 1, (.tmp 27)), (1, 1, (.tmp 28)), (2, 1, (.tmp 29))], none⟩,
    ⟨(some 31), .buildSl [.str [], .bool false, .slice none 0 0] 1 3 [(0, 3, (.tmp 30))], none⟩,
    ⟨(some 6), .mov (.tmp 31), none⟩]
def A_tree_partsr12 : List AOper := [
    ⟨(some 32), .mov (.tmp 1), none⟩,
    ⟨(some 33), .mov (.tmp 2), none⟩,
    ⟨(some 34), .call 220 [(.tmp 32), (.tmp 33)], none⟩,
    ⟨(some 10), .mov (.tmp 34), none⟩]
def A_tree_partsr13 : List AOper := [
    ⟨(some 35), .mov (.tmp 2), none⟩,
    ⟨(some 36), .mov (.tmp 10), none⟩,
    ⟨(some 37), .slV 5 (.tmp 35) (some (.tmp 36)) none none, none⟩,
    ⟨(some 38), .call 221 [(.tmp 37)], none⟩,
    ⟨(some 11), .mov (.tmp 38), none⟩]
def A_tree_partsr14 : List AOper := [
    ⟨(some 39), .mov (.tmp 11), none⟩,
    ⟨(some 40), .iadrS 5 (.tmp 39) (.const (.int .i64 0)), none⟩,
    ⟨(some 41), .fadr 0 (.tmp 40), none⟩,
    ⟨(some 42), .load false 1 (.tmp 41), none⟩,
    ⟨(some 12), .mov (.tmp 42), none⟩]
def A_tree_partsr15 : List AOper := [
    ⟨(some 43), .mov (.tmp 1), none⟩,
    ⟨(some 44), .un .not (.tmp 43), none⟩]
def A_tree_partsr16 : List AOper := [
    ⟨(some 45), .mov (.tmp 11), none⟩,
    ⟨(some 46), .iadrS 5 (.tmp 45) (.const (.int .i64 0)), none⟩,
    ⟨(some 47), .fadr 0 (.tmp 46), none⟩,
    ⟨none, .store 1 (.tmp 47) (.const (.str [])), none⟩]
def A_tree_partsr17 : List AOper := [
    ⟨(some 48), .mov (.tmp 0), none⟩,
    ⟨(some 49), .mov (.tmp 1), none⟩,
    ⟨(some 50), .mov (.tmp 2), none⟩,
    ⟨(some 51), .mov (.tmp 10), none⟩,
    ⟨(some 52), .slV 5 (.tmp 50) none (some (.tmp 51)) none, none⟩,
    ⟨(some 53), .call 221 [(.tmp 52)], none⟩,
    ⟨(some 54), .call 162 [(.tmp 48), (.tmp 49), (.tmp 53)], none⟩,
    ⟨(some 55), .mov (.tmp 12), none⟩,
    ⟨(some 56), .mov (.tmp 1), none⟩,
    ⟨(some 57), .mov (.tmp 11), none⟩,
    ⟨(some 58), .call 162 [(.tmp 55), (.tmp 56), (.tmp 57)], none⟩,
    ⟨(some 59), .app 3 48 319 (.tmp 54) (.tmp 58), none⟩,
    ⟨(some 6), .mov (.tmp 59), none⟩]
def A_tree_parts : AFn := ⟨60, 3, [.tmp 6], (.seq (.region A_tree_partsr0) (.seq (.region A_tree_partsr1) (.seq (.seq (.region A_tree_partsr2) A_tree_partsc9) (.seq (.seq (.region A_tree_partsr10) (.cond (.tmp 26) (.seq (.region A_tree_partsr11) .ret) .skip)) (.seq (.region A_tree_partsr12) (.seq (.region A_tree_partsr13) (.seq (.region A_tree_partsr14) (.seq (.seq (.region A_tree_partsr15) (.cond (.tmp 44) (.region A_tree_partsr16) .skip)) (.seq (.region A_tree_partsr17) .ret)))))))))⟩
theorem fn_tree_parts : FnIs Go.Proofs.Tryz.prog 162 A_tree_parts := ⟨by kernel_rfl, Go.Proofs.Tryz.f162, Go.Proofs.Tryz.func162, by kernel_rfl⟩
/- (*rollbook/kv.Txn).write -/
def A_kv_Txn_writer0 : List AOper := [
    ⟨(some 2), .mov (.const (.int .i64 0)), none⟩]
def A_kv_Txn_writer1 : List AOper := [
    ⟨(some 6), .mov (.tmp 0), none⟩,
    ⟨(some 7), .call 24 [(.tmp 6)], none⟩,
    ⟨(some 8), .len .sl (.tmp 7), none⟩,
    ⟨(some 9), .mov (.const (.int .i64 0)), none⟩]
def A_kv_Txn_writer2 : List AOper := [
    ⟨(some 10), .ibin .lss (.tmp 9) (.tmp 8), none⟩]
def A_kv_Txn_writer3 : List AOper := [
    ⟨(some 11), .iadrS 1 (.tmp 7) (.tmp 9), none⟩,
    ⟨(some 12), .load false 1 (.tmp 11), none⟩,
    ⟨(some 4), .mov (.tmp 12), none⟩]
def A_kv_Txn_writer4 : List AOper := [
    ⟨(some 13), .mov (.tmp 0), none⟩,
    ⟨(some 14), .nilck (.tmp 13), none⟩,
    ⟨(some 15), .fadr 0 (.tmp 14), none⟩,
    ⟨(some 16), .load false 1 (.tmp 15), none⟩,
    ⟨(some 17), .nilck (.tmp 16), none⟩,
    ⟨(some 18), .fadr 0 (.tmp 17), none⟩,
    ⟨(some 19), .load false 1 (.tmp 18), none⟩,
    ⟨(some 20), .mov (.tmp 0), none⟩,
    ⟨(some 21), .nilck (.tmp 20), none⟩,
    ⟨(some 22), .fadr 8 (.tmp 21), none⟩,
    ⟨(some 23), .load false 1 (.tmp 22), none⟩,
    ⟨(some 24), .mov (.tmp 4), none⟩,
    ⟨(some 25), .look .int (.agg [.int .i64 0, .int .i64 0, .int .i64 0, .str []]) false (.tmp 23) (.tmp 24), none⟩,
    ⟨(some 26), .call 115 [(.tmp 19), (.tmp 25)], none⟩,
    ⟨(some 5), .mov (.tmp 26), none⟩]
def A_kv_Txn_writer5 : List AOper := [
    ⟨(some 27), .mov (.tmp 5), none⟩,
    ⟨(some 28), .ibin .neq (.tmp 27) (.const (.int .i64 0)), none⟩]
def A_kv_Txn_writer6 : List AOper := [
    ⟨(some 29), .mov (.tmp 5), none⟩,
    ⟨(some 2), .mov (.tmp 29), none⟩]
def A_kv_Txn_writec7 : AC := (.block 1 (.seq (.region A_kv_Txn_writer3) (.seq (.draw A_kv_Txn_writer4 [0, 1, 3, 7, 15, 31, 63, 0, 128, 384, 896, 0, 3968, 8191, 16383]) (.seq (.region A_kv_Txn_writer5) (.cond (.tmp 28) (.seq (.region A_kv_Txn_writer6) .ret) .skip)))))
def A_kv_Txn_writer8 : List AOper := [
    ⟨(some 30), .ibin .add (.tmp 9) (.const (.int .i64 1)), none⟩,
    ⟨(some 9), .mov (.tmp 30), none⟩]
def A_kv_Txn_writel9 : AC := (.seq (.region A_kv_Txn_writer2) (.seq (.cond (.tmp 10) .skip (.exit 0)) (.seq A_kv_Txn_writec7 (.region A_kv_Txn_writer8))))
def A_kv_Txn_writec10 : AC := (.block 0 (.loop A_kv_Txn_writel9))
def A_kv_Txn_writer11 : List AOper := [
    ⟨(some 2), .mov (.const (.int .i64 0)), none⟩]
def A_kv_Txn_write : AFn := ⟨31, 1, [.tmp 2], (.seq (.region A_kv_Txn_writer0) (.seq (.seq (.region A_kv_Txn_writer1) A_kv_Txn_writec10) (.seq (.region A_kv_Txn_writer11) .ret)))⟩
theorem fn_kv_Txn_write : FnIs Go.Proofs.Tryz.prog 51 A_kv_Txn_write := ⟨by kernel_rfl, Go.Proofs.Tryz.f51, Go.Proofs.Tryz.func51, by kernel_rfl⟩
/- (*rollbook/kv.Txn).Get -/
def A_kv_Txn_Getr0 : List AOper := [
    ⟨(some 6), .mov (.const (.str [])), none⟩,
    ⟨(some 7), .mov (.const (.bool false)), none⟩,
    ⟨(some 8), .mov (.const (.int .i64 0)), none⟩]
def A_kv_Txn_Getr1 : List AOper := [
    ⟨(some 14), .mov (.tmp 0), none⟩,
    ⟨(some 15), .call 49 [(.tmp 14)], none⟩,
    ⟨(some 9), .mov (.tmp 15), none⟩]
def A_kv_Txn_Getr2 : List AOper := [
    ⟨(some 16), .mov (.tmp 9), none⟩,
    ⟨(some 17), .ibin .neq (.tmp 16) (.const (.int .i64 0)), none⟩]
def A_kv_Txn_Getr3 : List AOper := [
    ⟨(some 18), .mov (.tmp 9), none⟩,
    ⟨(some 6), .mov (.const (.str [])), none⟩,
    ⟨(some 7), .mov (.const (.bool false)), none⟩,
    ⟨(some 8), .mov (.tmp 18), none⟩]
def A_kv_Txn_Getr4 : List AOper := [
    ⟨(some 20), .mov (.tmp 0), none⟩,
    ⟨(some 21), .mov (.tmp 1), none⟩,
    ⟨(some 22), .call 46 [(.tmp 20), (.tmp 21)], none⟩,
    ⟨(some 19), .mov (.tmp 22), none⟩,
    ⟨(some 23), .extr (.tmp 19) 0, none⟩,
    ⟨(some 24), .extr (.tmp 19) 1, none⟩,
    ⟨(some 10), .mov (.tmp 23), none⟩,
    ⟨(some 11), .mov (.tmp 24), none⟩]
def A_kv_Txn_Getr5 : List AOper := [
    ⟨(some 25), .mov (.tmp 11), none⟩,
    ⟨(some 26), .ibin .neq (.tmp 25) (.const (.int .i64 0)), none⟩]
def A_kv_Txn_Getr6 : List AOper := [
    ⟨(some 27), .mov (.tmp 0), none⟩,
    ⟨(some 28), .mov (.tmp 11), none⟩,
    ⟨(some 29), .call 47 [(.tmp 27), (.tmp 28)], none⟩,
    ⟨(some 6), .mov (.const (.str [])), none⟩,
    ⟨(some 7), .mov (.const (.bool false)), none⟩,
    ⟨(some 8), .mov (.tmp 29), none⟩]
def A_kv_Txn_Getr7 : List AOper := [
    ⟨(some 31), .mov (.tmp 0), none⟩,
    ⟨(some 32), .build [.ptr none] [(0, 1, (.tmp 31))], none⟩,
    ⟨(some 33), .mkI 111 (.tmp 32), none⟩,
    ⟨(some 34), .mov (.tmp 10), none⟩,
    ⟨(some 35), .mov (.tmp 2), none⟩,
    ⟨(some 36), .call 59 [(.tmp 33), (.tmp 34), (.tmp 35)], none⟩,
    ⟨(some 30), .mov (.tmp 36), none⟩,
    ⟨(some 37), .extr (.tmp 30) 0, none⟩,
    ⟨(some 38), .extr (.tmp 30) 1, none⟩,
    ⟨(some 39), .extr (.tmp 30) 2, none⟩,
    ⟨(some 12), .mov (.tmp 37), none⟩,
    ⟨(some 13), .mov (.tmp 38), none⟩,
    ⟨(some 11), .mov (.tmp 39), none⟩]
def A_kv_Txn_Getr8 : List AOper := [
    ⟨(some 40), .mov (.tmp 12), none⟩,
    ⟨(some 41), .mov (.tmp 13), none⟩,
    ⟨(some 42), .mov (.tmp 0), none⟩,
    ⟨(some 43), .mov (.tmp 11), none⟩,
    ⟨(some 44), .call 47 [(.tmp 42), (.tmp 43)], none⟩,
    ⟨(some 6), .mov (.tmp 40), none⟩,
    ⟨(some 7), .mov (.tmp 41), none⟩,
    ⟨(some 8), .mov (.tmp 44), none⟩]
def A_kv_Txn_Get : AFn := ⟨45, 3, [.tmp 6, .tmp 7, .tmp 8], (.seq (.region A_kv_Txn_Getr0) (.seq (.seq (.region A_kv_Txn_Getr1) (.seq (.region A_kv_Txn_Getr2) (.cond (.tmp 17) (.seq (.region A_kv_Txn_Getr3) .ret) .skip))) (.seq (.region A_kv_Txn_Getr4) (.seq (.seq (.region A_kv_Txn_Getr5) (.cond (.tmp 26) (.seq (.region A_kv_Txn_Getr6) .ret) .skip)) (.seq (.region A_kv_Txn_Getr7) (.seq (.region A_kv_Txn_Getr8) .ret))))))⟩
theorem fn_kv_Txn_Get : FnIs Go.Proofs.Tryz.prog 17 A_kv_Txn_Get := ⟨by kernel_rfl, Go.Proofs.Tryz.f17, Go.Proofs.Tryz.func17, by kernel_rfl⟩
/- (*rollbook/free.List).Take -/
def A_free_List_Taker0 : List AOper := [
    ⟨(some 4), .mov (.const (.int .i64 0)), none⟩,
    ⟨(some 5), .mov (.const (.bool false)), none⟩]
def A_free_List_Taker1 : List AOper := [
    ⟨(some 7), .mov (.tmp 0), none⟩,
    ⟨(some 8), .nileq .ptr false (.tmp 7) (.const (.ptr none)), none⟩,
    ⟨(some 9), .mov (.tmp 8), none⟩,
    ⟨(some 10), .mov (.tmp 0), (some (9, false))⟩,
    ⟨(some 11), .nilck (.tmp 10), (some (9, false))⟩,
    ⟨(some 12), .fadr 0 (.tmp 11), (some (9, false))⟩,
    ⟨(some 13), .load false 1 (.tmp 12), (some (9, false))⟩,
    ⟨(some 14), .len .sl (.tmp 13), (some (9, false))⟩,
    ⟨(some 15), .ibin .eql (.tmp 14) (.const (.int .i64 0)), (some (9, false))⟩,
    ⟨(some 16), .pick (.tmp 9) (.const (.bool true)) (.tmp 15), none⟩,
    ⟨(some 17), .mov (.tmp 16), none⟩,
    ⟨(some 18), .mov (.tmp 0), (some (17, false))⟩,
    ⟨(some 19), .nilck (.tmp 18), (some (17, false))⟩,
    ⟨(some 20), .fadr 0 (.tmp 19), (some (17, false))⟩,
    ⟨(some 21), .load false 1 (.tmp 20), (some (17, false))⟩,
    ⟨(some 22), .iadrS 2 (.tmp 21) (.const (.int .i64 0)), (some (17, false))⟩,
    ⟨(some 23), .fadr 0 (.tmp 22), (some (17, false))⟩,
    ⟨(some 24), .load false 1 (.tmp 23), (some (17, false))⟩,
    ⟨(some 25), .mov (.tmp 1), (some (17, false))⟩,
    ⟨(some 26), .ibin .gtr (.tmp 24) (.tmp 25), (some (17, false))⟩,
    ⟨(some 27), .pick (.tmp 17) (.const (.bool true)) (.tmp 26), none⟩]
def A_free_List_Taker2 : List AOper := [
    ⟨(some 4), .mov (.const (.int .i64 0)), none⟩,
    ⟨(some 5), .mov (.const (.bool false)), none⟩]
def A_free_List_Taker3 : List AOper := [
    ⟨(some 28), .mov (.tmp 0), none⟩,
    ⟨(some 29), .nilck (.tmp 28), none⟩,
    ⟨(some 30), .fadr 0 (.tmp 29), none⟩,
    ⟨(some 31), .load false 1 (.tmp 30), none⟩,
    ⟨(some 32), .iadrS 2 (.tmp 31) (.const (.int .i64 0)), none⟩,
    ⟨(some 33), .fadr 1 (.tmp 32), none⟩,
    ⟨(some 34), .load false 1 (.tmp 33), none⟩,
    ⟨(some 6), .mov (.tmp 34), none⟩]
def A_free_List_Taker4 : List AOper := [
    ⟨(some 35), .mov (.tmp 0), none⟩,
    ⟨(some 36), .mov (.tmp 0), none⟩,
    ⟨(some 37), .nilck (.tmp 36), none⟩,
    ⟨(some 38), .fadr 0 (.tmp 37), none⟩,
    ⟨(some 39), .load false 1 (.tmp 38), none⟩,
    ⟨(some 40), .slV 2 (.tmp 39) (some (.const (.int .i64 1))) none none, none⟩,
    ⟨(some 41), .nilck (.tmp 35), none⟩,
    ⟨(some 42), .fadr 0 (.tmp 41), none⟩,
    ⟨none, .store 1 (.tmp 42) (.tmp 40), none⟩]
def A_free_List_Taker5 : List AOper := [
    ⟨(some 43), .mov (.tmp 0), none⟩,
    ⟨(some 44), .mov (.tmp 6), none⟩,
    ⟨(some 45), .nilck (.tmp 43), none⟩,
    ⟨(some 46), .fadr 1 (.tmp 45), none⟩,
    ⟨(some 47), .iadrA 512 1 (.tmp 46) (.tmp 44), none⟩,
    ⟨none, .store 1 (.tmp 47) (.const (.bool false)), none⟩]
def A_free_List_Taker6 : List AOper := [
    ⟨(some 48), .mov (.tmp 6), none⟩,
    ⟨(some 4), .mov (.tmp 48), none⟩,
    ⟨(some 5), .mov (.const (.bool true)), none⟩]
def A_free_List_Take : AFn := ⟨49, 2, [.tmp 4, .tmp 5], (.seq (.region A_free_List_Taker0) (.seq (.seq (.region A_free_List_Taker1) (.cond (.tmp 27) (.seq (.region A_free_List_Taker2) .ret) .skip)) (.seq (.region A_free_List_Taker3) (.seq (.region A_free_List_Taker4) (.seq (.region A_free_List_Taker5) (.seq (.region A_free_List_Taker6) .ret))))))⟩
theorem fn_free_List_Take : FnIs Go.Proofs.Tryz.prog 169 A_free_List_Take := ⟨by kernel_rfl, Go.Proofs.Tryz.f169, Go.Proofs.Tryz.func169, by kernel_rfl⟩
/- math/bits.Mul64 -/
def A_math_bits_Mul64r0 : List AOper := [
    ⟨(some 4), .mov (.const (.int .u64 0)), none⟩,
    ⟨(some 5), .mov (.const (.int .u64 0)), none⟩]
def A_math_bits_Mul64r1 : List AOper := [
    ⟨(some 14), .mov (.tmp 0), none⟩,
    ⟨(some 15), .ibin .and (.tmp 14) (.const (.int .u64 4294967295)), none⟩,
    ⟨(some 6), .mov (.tmp 15), none⟩]
def A_math_bits_Mul64r2 : List AOper := [
    ⟨(some 16), .mov (.tmp 0), none⟩,
    ⟨(some 17), .ibin .shr (.tmp 16) (.const (.int .u64 32)), none⟩,
    ⟨(some 7), .mov (.tmp 17), none⟩]
def A_math_bits_Mul64r3 : List AOper := [
    ⟨(some 18), .mov (.tmp 1), none⟩,
    ⟨(some 19), .ibin .and (.tmp 18) (.const (.int .u64 4294967295)), none⟩,
    ⟨(some 8), .mov (.tmp 19), none⟩]
def A_math_bits_Mul64r4 : List AOper := [
    ⟨(some 20), .mov (.tmp 1), none⟩,
    ⟨(some 21), .ibin .shr (.tmp 20) (.const (.int .u64 32)), none⟩,
    ⟨(some 9), .mov (.tmp 21), none⟩]
def A_math_bits_Mul64r5 : List AOper := [
    ⟨(some 22), .mov (.tmp 6), none⟩,
    ⟨(some 23), .mov (.tmp 8), none⟩,
    ⟨(some 24), .ibin .mul (.tmp 22) (.tmp 23), none⟩,
    ⟨(some 10), .mov (.tmp 24), none⟩]
def A_math_bits_Mul64r6 : List AOper := [
    ⟨(some 25), .mov (.tmp 7), none⟩,
    ⟨(some 26), .mov (.tmp 8), none⟩,
    ⟨(some 27), .ibin .mul (.tmp 25) (.tmp 26), none⟩,
    ⟨(some 28), .mov (.tmp 10), none⟩,
    ⟨(some 29), .ibin .shr (.tmp 28) (.const (.int .u64 32)), none⟩,
    ⟨(some 30), .ibin .add (.tmp 27) (.tmp 29), none⟩,
    ⟨(some 11), .mov (.tmp 30), none⟩]
def A_math_bits_Mul64r7 : List AOper := [
    ⟨(some 31), .mov (.tmp 11), none⟩,
    ⟨(some 32), .ibin .and (.tmp 31) (.const (.int .u64 4294967295)), none⟩,
    ⟨(some 12), .mov (.tmp 32), none⟩]
def A_math_bits_Mul64r8 : List AOper := [
    ⟨(some 33), .mov (.tmp 11), none⟩,
    ⟨(some 34), .ibin .shr (.tmp 33) (.const (.int .u64 32)), none⟩,
    ⟨(some 13), .mov (.tmp 34), none⟩]
def A_math_bits_Mul64r9 : List AOper := [
    ⟨(some 35), .mov (.tmp 12), none⟩,
    ⟨(some 36), .mov (.tmp 6), none⟩,
    ⟨(some 37), .mov (.tmp 9), none⟩,
    ⟨(some 38), .ibin .mul (.tmp 36) (.tmp 37), none⟩,
    ⟨(some 39), .ibin .add (.tmp 35) (.tmp 38), none⟩,
    ⟨(some 12), .mov (.tmp 39), none⟩]
def A_math_bits_Mul64r10 : List AOper := [
    ⟨(some 40), .mov (.tmp 7), none⟩,
    ⟨(some 41), .mov (.tmp 9), none⟩,
    ⟨(some 42), .ibin .mul (.tmp 40) (.tmp 41), none⟩,
    ⟨(some 43), .mov (.tmp 13), none⟩,
    ⟨(some 44), .ibin .add (.tmp 42) (.tmp 43), none⟩,
    ⟨(some 45), .mov (.tmp 12), none⟩,
    ⟨(some 46), .ibin .shr (.tmp 45) (.const (.int .u64 32)), none⟩,
    ⟨(some 47), .ibin .add (.tmp 44) (.tmp 46), none⟩,
    ⟨(some 4), .mov (.tmp 47), none⟩]
def A_math_bits_Mul64r11 : List AOper := [
    ⟨(some 48), .mov (.tmp 0), none⟩,
    ⟨(some 49), .mov (.tmp 1), none⟩,
    ⟨(some 50), .ibin .mul (.tmp 48) (.tmp 49), none⟩,
    ⟨(some 5), .mov (.tmp 50), none⟩]
def A_math_bits_Mul64 : AFn := ⟨51, 2, [.tmp 4, .tmp 5], (.seq (.region A_math_bits_Mul64r0) (.seq (.region A_math_bits_Mul64r1) (.seq (.region A_math_bits_Mul64r2) (.seq (.region A_math_bits_Mul64r3) (.seq (.region A_math_bits_Mul64r4) (.seq (.region A_math_bits_Mul64r5) (.seq (.region A_math_bits_Mul64r6) (.seq (.region A_math_bits_Mul64r7) (.seq (.region A_math_bits_Mul64r8) (.seq (.region A_math_bits_Mul64r9) (.seq (.region A_math_bits_Mul64r10) (.seq (.region A_math_bits_Mul64r11) .ret))))))))))))⟩
theorem fn_math_bits_Mul64 : FnIs Go.Proofs.Tryz.prog 209 A_math_bits_Mul64 := ⟨by kernel_rfl, Go.Proofs.Tryz.f209, Go.Proofs.Tryz.func209, by kernel_rfl⟩
/- (*rollbook/kv.Txn).Put -/
def A_kv_Txn_Putr0 : List AOper := [
    ⟨(some 8), .mov (.const (.int .i64 0)), none⟩]
def A_kv_Txn_Putr1 : List AOper := [
    ⟨(some 13), .mov (.tmp 0), none⟩,
    ⟨(some 14), .mov (.tmp 1), none⟩,
    ⟨(some 15), .call 45 [(.tmp 13), (.tmp 14)], none⟩,
    ⟨(some 9), .mov (.tmp 15), none⟩]
def A_kv_Txn_Putr2 : List AOper := [
    ⟨(some 16), .mov (.tmp 9), none⟩,
    ⟨(some 17), .ibin .neq (.tmp 16) (.const (.int .i64 0)), none⟩]
def A_kv_Txn_Putr3 : List AOper := [
    ⟨(some 18), .mov (.tmp 9), none⟩,
    ⟨(some 8), .mov (.tmp 18), none⟩]
def A_kv_Txn_Putr4 : List AOper := [
    ⟨(some 20), .mov (.tmp 0), none⟩,
    ⟨(some 21), .mov (.tmp 1), none⟩,
    ⟨(some 22), .call 46 [(.tmp 20), (.tmp 21)], none⟩,
    ⟨(some 19), .mov (.tmp 22), none⟩,
    ⟨(some 23), .extr (.tmp 19) 0, none⟩,
    ⟨(some 24), .extr (.tmp 19) 1, none⟩,
    ⟨(some 10), .mov (.tmp 23), none⟩,
    ⟨(some 11), .mov (.tmp 24), none⟩]
def A_kv_Txn_Putr5 : List AOper := [
    ⟨(some 25), .mov (.tmp 11), none⟩,
    ⟨(some 26), .ibin .neq (.tmp 25) (.const (.int .i64 0)), none⟩]
def A_kv_Txn_Putr6 : List AOper := [
    ⟨(some 27), .mov (.tmp 0), none⟩,
    ⟨(some 28), .mov (.tmp 11), none⟩,
    ⟨(some 29), .call 47 [(.tmp 27), (.tmp 28)], none⟩,
    ⟨(some 8), .mov (.tmp 29), none⟩]
def A_kv_Txn_Putr7 : List AOper := [
    ⟨(some 31), .mov (.tmp 0), none⟩,
    ⟨(some 32), .build [.ptr none] [(0, 1, (.tmp 31))], none⟩,
    ⟨(some 33), .mkI 111 (.tmp 32), none⟩,
    ⟨(some 34), .mov (.tmp 10), none⟩,
    ⟨(some 35), .mov (.tmp 2), none⟩,
    ⟨(some 36), .mov (.tmp 3), none⟩,
    ⟨(some 37), .call 48 [(.tmp 33), (.tmp 34), (.tmp 35), (.tmp 36)], none⟩,
    ⟨(some 30), .mov (.tmp 37), none⟩,
    ⟨(some 38), .extr (.tmp 30) 0, none⟩,
    ⟨(some 39), .extr (.tmp 30) 1, none⟩,
    ⟨(some 12), .mov (.tmp 38), none⟩,
    ⟨(some 11), .mov (.tmp 39), none⟩]
def A_kv_Txn_Putr8 : List AOper := [
    ⟨(some 40), .mov (.tmp 11), none⟩]
def A_kv_Txn_Putr9 : List AOper := [
    ⟨(some 42), .ibin .eql (.tmp 40) (.const (.int .i64 0)), none⟩,
    ⟨(some 41), .mov (.tmp 42), none⟩]
def A_kv_Txn_Putr10 : List AOper := [
    ⟨(some 43), .mov (.tmp 0), none⟩,
    ⟨(some 44), .nilck (.tmp 43), none⟩,
    ⟨(some 45), .fadr 11 (.tmp 44), none⟩,
    ⟨(some 46), .load false 1 (.tmp 45), none⟩,
    ⟨(some 47), .mov (.tmp 1), none⟩,
    ⟨(some 48), .mov (.tmp 12), none⟩,
    ⟨none, .mupd .str (.tmp 46) (.tmp 47) (.tmp 48), none⟩]
def A_kv_Txn_Putr11 : List AOper := [
    ⟨(some 8), .mov (.const (.int .i64 0)), none⟩]
def A_kv_Txn_Putr12 : List AOper := [
    ⟨(some 50), .ibin .eql (.tmp 40) (.const (.int .i64 1)), none⟩,
    ⟨(some 49), .mov (.tmp 50), none⟩]
def A_kv_Txn_Putr13 : List AOper := [
    ⟨(some 51), .ibin .eql (.tmp 40) (.const (.int .i64 5)), none⟩,
    ⟨(some 49), .mov (.tmp 51), none⟩]
def A_kv_Txn_Putr14 : List AOper := [
    ⟨(some 52), .mov (.tmp 2), none⟩,
    ⟨(some 53), .sbin .eql (.tmp 52) (.const (.str [])), none⟩,
    ⟨(some 54), .mov (.tmp 53), none⟩,
    ⟨(some 55), .mov (.tmp 2), (some (54, false))⟩,
    ⟨(some 56), .len .str (.tmp 55), (some (54, false))⟩,
    ⟨(some 57), .ibin .gtr (.tmp 56) (.const (.int .i64 120)), (some (54, false))⟩,
    ⟨(some 58), .pick (.tmp 54) (.const (.bool true)) (.tmp 57), none⟩,
    ⟨(some 59), .mov (.tmp 58), none⟩,
    ⟨(some 60), .mov (.tmp 3), (some (59, false))⟩,
    ⟨(some 61), .len .str (.tmp 60), (some (59, false))⟩,
    ⟨(some 62), .ibin .gtr (.tmp 61) (.const (.int .i64 4000)), (some (59, false))⟩,
    ⟨(some 63), .pick (.tmp 59) (.const (.bool true)) (.tmp 62), none⟩]
def A_kv_Txn_Putr15 : List AOper := [
    ⟨(some 64), .mov (.tmp 11), none⟩,
    ⟨(some 8), .mov (.tmp 64), none⟩]
def A_kv_Txn_Putc16 : AC := (.block 0 (.seq (.region A_kv_Txn_Putr9) (.cond (.tmp 41) (.seq (.region A_kv_Txn_Putr10) (.seq (.region A_kv_Txn_Putr11) .ret)) (.seq (.seq (.region A_kv_Txn_Putr12) (.cond (.tmp 49) .skip (.region A_kv_Txn_Putr13))) (.cond (.tmp 49) (.seq (.region A_kv_Txn_Putr14) (.cond (.tmp 63) (.seq (.region A_kv_Txn_Putr15) .ret) .skip)) .skip)))))
def A_kv_Txn_Putr17 : List AOper := [
    ⟨(some 65), .mov (.tmp 0), none⟩,
    ⟨(some 66), .mov (.tmp 11), none⟩,
    ⟨(some 67), .call 47 [(.tmp 65), (.tmp 66)], none⟩,
    ⟨(some 8), .mov (.tmp 67), none⟩]
def A_kv_Txn_Put : AFn := ⟨68, 4, [.tmp 8], (.seq (.region A_kv_Txn_Putr0) (.seq (.seq (.region A_kv_Txn_Putr1) (.seq (.region A_kv_Txn_Putr2) (.cond (.tmp 17) (.seq (.region A_kv_Txn_Putr3) .ret) .skip))) (.seq (.region A_kv_Txn_Putr4) (.seq (.seq (.region A_kv_Txn_Putr5) (.cond (.tmp 26) (.seq (.region A_kv_Txn_Putr6) .ret) .skip)) (.seq (.region A_kv_Txn_Putr7) (.seq (.seq (.region A_kv_Txn_Putr8) A_kv_Txn_Putc16) (.seq (.region A_kv_Txn_Putr17) .ret)))))))⟩
theorem fn_kv_Txn_Put : FnIs Go.Proofs.Tryz.prog 12 A_kv_Txn_Put := ⟨by kernel_rfl, Go.Proofs.Tryz.f12, Go.Proofs.Tryz.func12, by kernel_rfl⟩
/- rollbook/node.Seek$1 -/
def A_node_Seek_c1r0 : List AOper := [
    ⟨(some 5), .mov (.const (.bool false)), none⟩]
def A_node_Seek_c1r1 : List AOper := [
    ⟨(some 9), .load false 1 (.tmp 1), none⟩,
    ⟨(some 10), .load false 1 (.tmp 2), none⟩,
    ⟨(some 11), .mov (.tmp 0), none⟩,
    ⟨(some 12), .call 236 [(.tmp 9), (.tmp 10), (.tmp 11)], none⟩,
    ⟨(some 8), .mov (.tmp 12), none⟩,
    ⟨(some 13), .extr (.tmp 8) 0, none⟩,
    ⟨(some 14), .extr (.tmp 8) 1, none⟩,
    ⟨(some 6), .alloc [.str [], .str [], .int .i64 0, .int .i64 0, .int .i64 0] 5 170, none⟩,
    ⟨none, .store 5 (.tmp 6) (.tmp 13), none⟩,
    ⟨(some 7), .mov (.tmp 14), none⟩]
def A_node_Seek_c1r2 : List AOper := [
    ⟨(some 15), .fadr 0 (.tmp 6), none⟩,
    ⟨(some 16), .load false 1 (.tmp 15), none⟩,
    ⟨(some 17), .load false 1 (.tmp 3), none⟩,
    ⟨(some 18), .sbin .geq (.tmp 16) (.tmp 17), none⟩,
    ⟨(some 5), .mov (.tmp 18), none⟩]
def A_node_Seek_c1 : AFn := ⟨19, 4, [.tmp 5], (.seq (.region A_node_Seek_c1r0) (.seq (.region A_node_Seek_c1r1) (.seq (.region A_node_Seek_c1r2) .ret)))⟩
theorem fn_node_Seek_c1 : FnIs Go.Proofs.Tryz.prog 235 A_node_Seek_c1 := ⟨by kernel_rfl, Go.Proofs.Tryz.f235, Go.Proofs.Tryz.func235, by kernel_rfl⟩
/- (*rollbook/kv.Txn).root -/
def A_kv_Txn_rootr0 : List AOper := [
    ⟨(some 4), .mov (.const (.int .i64 0)), none⟩,
    ⟨(some 5), .mov (.const (.int .i64 0)), none⟩]
def A_kv_Txn_rootr1 : List AOper := [
    ⟨(some 9), .mov (.tmp 0), none⟩,
    ⟨(some 10), .nilck (.tmp 9), none⟩,
    ⟨(some 11), .fadr 11 (.tmp 10), none⟩,
    ⟨(some 12), .load false 1 (.tmp 11), none⟩,
    ⟨(some 13), .mov (.tmp 1), none⟩,
    ⟨(some 14), .look .str (.int .i64 0) true (.tmp 12) (.tmp 13), none⟩,
    ⟨(some 8), .mov (.tmp 14), none⟩,
    ⟨(some 15), .extr (.tmp 8) 0, none⟩,
    ⟨(some 16), .extr (.tmp 8) 1, none⟩,
    ⟨(some 6), .mov (.tmp 15), none⟩,
    ⟨(some 7), .mov (.tmp 16), none⟩]
def A_kv_Txn_rootr2 : List AOper := [
    ⟨(some 17), .mov (.tmp 7), none⟩]
def A_kv_Txn_rootr3 : List AOper := [
    ⟨(some 18), .mov (.tmp 6), none⟩,
    ⟨(some 4), .mov (.tmp 18), none⟩,
    ⟨(some 5), .mov (.const (.int .i64 0)), none⟩]
def A_kv_Txn_rootr4 : List AOper := [
    ⟨(some 19), .mov (.tmp 0), none⟩,
    ⟨(some 20), .build [.ptr none] [(0, 1, (.tmp 19))], none⟩,
    ⟨(some 21), .mkI 111 (.tmp 20), none⟩,
    ⟨(some 22), .mov (.tmp 0), none⟩,
    ⟨(some 23), .nilck (.tmp 22), none⟩,
    ⟨(some 24), .fadr 2 (.tmp 23), none⟩,
    ⟨(some 25), .fadr 1 (.tmp 24), none⟩,
    ⟨(some 26), .load false 1 (.tmp 25), none⟩,
    ⟨(some 27), .mov (.tmp 1), none⟩,
    ⟨(some 28), .call 58 [(.tmp 21), (.tmp 26), (.tmp 27)], none⟩,
    ⟨(some 29), .extr (.tmp 28) 0, none⟩,
    ⟨(some 30), .extr (.tmp 28) 1, none⟩,
    ⟨(some 4), .mov (.tmp 29), none⟩,
    ⟨(some 5), .mov (.tmp 30), none⟩]
def A_kv_Txn_root : AFn := ⟨31, 2, [.tmp 4, .tmp 5], (.seq (.region A_kv_Txn_rootr0) (.seq (.seq (.region A_kv_Txn_rootr1) (.seq (.region A_kv_Txn_rootr2) (.cond (.tmp 17) (.seq (.region A_kv_Txn_rootr3) .ret) .skip))) (.seq (.region A_kv_Txn_rootr4) .ret)))⟩
theorem fn_kv_Txn_root : FnIs Go.Proofs.Tryz.prog 46 A_kv_Txn_root := ⟨by kernel_rfl, Go.Proofs.Tryz.f46, Go.Proofs.Tryz.func46, by kernel_rfl⟩
/- (*rollbook/pager.Pager).Done -/
def A_pager_Pager_Doner0 : List AOper := [
    ⟨(some 2), .mov (.const (.int .i64 0)), none⟩]
def A_pager_Pager_Doner1 : List AOper := [
    ⟨(some 5), .mov (.tmp 0), none⟩,
    ⟨(some 6), .nileq .ptr false (.tmp 5) (.const (.ptr none)), none⟩,
    ⟨(some 4), .mov (.tmp 6), none⟩]
def A_pager_Pager_Doner2 : List AOper := [
    ⟨(some 2), .mov (.const (.int .i64 2)), none⟩]
def A_pager_Pager_Doner3 : List AOper := [
    ⟨(some 8), .mov (.tmp 0), none⟩,
    ⟨(some 9), .nilck (.tmp 8), none⟩,
    ⟨(some 10), .fadr 12 (.tmp 9), none⟩,
    ⟨(some 11), .load false 1 (.tmp 10), none⟩,
    ⟨(some 12), .nileq .ptr false (.tmp 11) (.const (.ptr none)), none⟩,
    ⟨(some 7), .mov (.tmp 12), none⟩]
def A_pager_Pager_Doner4 : List AOper := [
    ⟨(some 2), .mov (.const (.int .i64 11)), none⟩]
def A_pager_Pager_Donec5 : AC := (.block 0 (.seq (.region A_pager_Pager_Doner1) (.cond (.tmp 4) (.seq (.region A_pager_Pager_Doner2) .ret) (.seq (.region A_pager_Pager_Doner3) (.cond (.tmp 7) (.seq (.region A_pager_Pager_Doner4) .ret) .skip)))))
def A_pager_Pager_Doner6 : List AOper := [
    ⟨(some 13), .mov (.tmp 0), none⟩,
    ⟨(some 14), .nilck (.tmp 13), none⟩,
    ⟨(some 15), .fadr 0 (.tmp 14), none⟩,
    ⟨(some 16), .load false 1 (.tmp 15), none⟩,
    ⟨(some 17), .call 116 [(.tmp 16)], none⟩,
    ⟨(some 3), .mov (.tmp 17), none⟩]
def A_pager_Pager_Doner7 : List AOper := [
    ⟨(some 18), .mov (.tmp 3), none⟩,
    ⟨(some 19), .ibin .neq (.tmp 18) (.const (.int .i64 0)), none⟩]
def A_pager_Pager_Doner8 : List AOper := [
    ⟨(some 20), .mov (.tmp 3), none⟩,
    ⟨(some 2), .mov (.tmp 20), none⟩]
def A_pager_Pager_Doner9 : List AOper := [
    ⟨(some 21), .mov (.tmp 0), none⟩,
    ⟨(some 22), .mov (.tmp 0), none⟩,
    ⟨(some 23), .mov (.tmp 0), none⟩,
    ⟨(some 24), .nilck (.tmp 23), none⟩,
    ⟨(some 25), .fadr 1 (.tmp 24), none⟩,
    ⟨(some 26), .load true 5 (.tmp 25), none⟩,
    ⟨(some 27), .nilck (.tmp 21), none⟩,
    ⟨(some 28), .fadr 6 (.tmp 27), none⟩,
    ⟨none, .store 5 (.tmp 28) (.tmp 26), none⟩,
    ⟨(some 29), .nilck (.tmp 22), none⟩,
    ⟨(some 30), .fadr 11 (.tmp 29), none⟩,
    ⟨none, .store 1 (.tmp 30) (.const (.bool true)), none⟩]
def A_pager_Pager_Doner10 : List AOper := [
    ⟨(some 31), .mov (.tmp 0), none⟩,
    ⟨(some 32), .mov (.tmp 0), none⟩,
    ⟨(some 33), .nilck (.tmp 32), none⟩,
    ⟨(some 34), .fadr 12 (.tmp 33), none⟩,
    ⟨(some 35), .load false 1 (.tmp 34), none⟩,
    ⟨(some 36), .nilck (.tmp 35), none⟩,
    ⟨(some 37), .load true 5 (.tmp 36), none⟩,
    ⟨(some 38), .nilck (.tmp 31), none⟩,
    ⟨(some 39), .fadr 1 (.tmp 38), none⟩,
    ⟨none, .store 5 (.tmp 39) (.tmp 37), none⟩]
def A_pager_Pager_Doner11 : List AOper := [
    ⟨(some 40), .mov (.tmp 0), none⟩,
    ⟨(some 41), .nilck (.tmp 40), none⟩,
    ⟨(some 42), .fadr 12 (.tmp 41), none⟩,
    ⟨none, .store 1 (.tmp 42) (.const (.ptr none)), none⟩]
def A_pager_Pager_Doner12 : List AOper := [
    ⟨(some 2), .mov (.const (.int .i64 0)), none⟩]
def A_pager_Pager_Done : AFn := ⟨43, 1, [.tmp 2], (.seq (.region A_pager_Pager_Doner0) (.seq A_pager_Pager_Donec5 (.seq (.seq (.region A_pager_Pager_Doner6) (.seq (.region A_pager_Pager_Doner7) (.cond (.tmp 19) (.seq (.region A_pager_Pager_Doner8) .ret) .skip))) (.seq (.region A_pager_Pager_Doner9) (.seq (.region A_pager_Pager_Doner10) (.seq (.region A_pager_Pager_Doner11) (.seq (.region A_pager_Pager_Doner12) .ret)))))))⟩
theorem fn_pager_Pager_Done : FnIs Go.Proofs.Tryz.prog 119 A_pager_Pager_Done := ⟨by kernel_rfl, Go.Proofs.Tryz.f119, Go.Proofs.Tryz.func119, by kernel_rfl⟩
/- rollbook/page.Newest -/
def A_page_Newestr0 : List AOper := [
    ⟨(some 4), .alloc [.int .i64 0, .int .i64 0, .int .i64 0, .int .i64 0, .int .i64 0] 5 40, none⟩,
    ⟨(some 5), .mov (.const (.int .i64 0)), none⟩,
    ⟨(some 6), .mov (.const (.int .i64 0)), none⟩]
def A_page_Newestr1 : List AOper := [
    ⟨(some 12), .mov (.tmp 0), none⟩,
    ⟨(some 13), .call 154 [(.tmp 12)], none⟩,
    ⟨(some 11), .mov (.tmp 13), none⟩,
    ⟨(some 14), .extr (.tmp 11) 0, none⟩,
    ⟨(some 15), .extr (.tmp 11) 1, none⟩,
    ⟨(some 7), .alloc [.int .i64 0, .int .i64 0, .int .i64 0, .int .i64 0, .int .i64 0] 5 40, none⟩,
    ⟨none, .store 5 (.tmp 7) (.tmp 14), none⟩,
    ⟨(some 8), .mov (.tmp 15), none⟩]
def A_page_Newestr2 : List AOper := [
    ⟨(some 17), .mov (.tmp 1), none⟩,
    ⟨(some 18), .call 154 [(.tmp 17)], none⟩,
    ⟨(some 16), .mov (.tmp 18), none⟩,
    ⟨(some 19), .extr (.tmp 16) 0, none⟩,
    ⟨(some 20), .extr (.tmp 16) 1, none⟩,
    ⟨(some 9), .alloc [.int .i64 0, .int .i64 0, .int .i64 0, .int .i64 0, .int .i64 0] 5 40, none⟩,
    ⟨none, .store 5 (.tmp 9) (.tmp 19), none⟩,
    ⟨(some 10), .mov (.tmp 20), none⟩]
def A_page_Newestr3 : List AOper := [
    ⟨(some 22), .mov (.tmp 8), none⟩,
    ⟨(some 23), .ibin .neq (.tmp 22) (.const (.int .i64 0)), none⟩,
    ⟨(some 24), .mov (.tmp 23), none⟩,
    ⟨(some 25), .mov (.tmp 10), (some (24, true))⟩,
    ⟨(some 26), .ibin .neq (.tmp 25) (.const (.int .i64 0)), (some (24, true))⟩,
    ⟨(some 27), .pick (.tmp 24) (.tmp 26) (.const (.bool false)), none⟩,
    ⟨(some 21), .mov (.tmp 27), none⟩]
def A_page_Newestr4 : List AOper := [
    ⟨(some 28), .build [.int .i64 0, .int .i64 0, .int .i64 0, .int .i64 0, .int .i64 0] [], none⟩,
    ⟨none, .store 5 (.tmp 4) (.tmp 28), none⟩,
    ⟨(some 5), .mov (.const (.int .i64 0)), none⟩,
    ⟨(some 6), .mov (.const (.int .i64 4)), none⟩]
def A_page_Newestr5 : List AOper := [
    ⟨(some 30), .mov (.tmp 8), none⟩,
    ⟨(some 31), .ibin .neq (.tmp 30) (.const (.int .i64 0)), none⟩,
    ⟨(some 32), .mov (.tmp 31), none⟩,
    ⟨(some 33), .mov (.tmp 10), (some (32, false))⟩,
    ⟨(some 34), .ibin .eql (.tmp 33) (.const (.int .i64 0)), (some (32, false))⟩,
    ⟨(some 35), .mov (.tmp 34), (some (32, false))⟩,
    ⟨(some 36), .fadr 0 (.tmp 9), (some (35, true))⟩,
    ⟨(some 37), .load false 1 (.tmp 36), (some (35, true))⟩,
    ⟨(some 38), .fadr 0 (.tmp 7), (some (35, true))⟩,
    ⟨(some 39), .load false 1 (.tmp 38), (some (35, true))⟩,
    ⟨(some 40), .ibin .gtr (.tmp 37) (.tmp 39), (some (35, true))⟩,
    ⟨(some 41), .pick (.tmp 35) (.tmp 40) (.const (.bool false)), (some (32, false))⟩,
    ⟨(some 42), .pick (.tmp 32) (.const (.bool true)) (.tmp 41), none⟩,
    ⟨(some 29), .mov (.tmp 42), none⟩]
def A_page_Newestr6 : List AOper := [
    ⟨(some 43), .load true 5 (.tmp 9), none⟩,
    ⟨none, .store 5 (.tmp 4) (.tmp 43), none⟩,
    ⟨(some 5), .mov (.const (.int .i64 1)), none⟩,
    ⟨(some 6), .mov (.const (.int .i64 0)), none⟩]
def A_page_Newestc7 : AC := (.block 0 (.seq (.region A_page_Newestr3) (.cond (.tmp 21) (.seq (.region A_page_Newestr4) .ret) (.seq (.region A_page_Newestr5) (.cond (.tmp 29) (.seq (.region A_page_Newestr6) .ret) .skip)))))
def A_page_Newestr8 : List AOper := [
    ⟨(some 44), .load true 5 (.tmp 7), none⟩,
    ⟨none, .store 5 (.tmp 4) (.tmp 44), none⟩,
    ⟨(some 5), .mov (.const (.int .i64 0)), none⟩,
    ⟨(some 6), .mov (.const (.int .i64 0)), none⟩]
def A_page_Newest : AFn := ⟨45, 2, [.cell 4 true 5, .tmp 5, .tmp 6], (.seq (.region A_page_Newestr0) (.seq (.region A_page_Newestr1) (.seq (.region A_page_Newestr2) (.seq A_page_Newestc7 (.seq (.region A_page_Newestr8) .ret)))))⟩
theorem fn_page_Newest : FnIs Go.Proofs.Tryz.prog 153 A_page_Newest := ⟨by kernel_rfl, Go.Proofs.Tryz.f153, Go.Proofs.Tryz.func153, by kernel_rfl⟩
/- rollbook/tree.alter -/
def A_tree_alterr0 : List AOper := [
    ⟨(some 8), .mov (.const (.int .i64 0)), none⟩,
    ⟨(some 9), .mov (.const (.int .i64 0)), none⟩]
def A_tree_alterr1 : List AOper := [
    ⟨(some 14), .mov (.tmp 1), none⟩,
    ⟨(some 15), .ibin .eql (.tmp 14) (.const (.int .i64 0)), none⟩]
def A_tree_alterr2 : List AOper := [
    ⟨(some 17), .mov (.tmp 3), none⟩,
    ⟨(some 18), .callV (.tmp 17) [(.const (.slice none 0 0))], none⟩,
    ⟨(some 16), .mov (.tmp 18), none⟩,
    ⟨(some 19), .extr (.tmp 16) 0, none⟩,
    ⟨(some 20), .extr (.tmp 16) 1, none⟩,
    ⟨(some 10), .mov (.tmp 19), none⟩,
    ⟨(some 11), .mov (.tmp 20), none⟩]
def A_tree_alterr3 : List AOper := [
    ⟨(some 21), .mov (.tmp 11), none⟩,
    ⟨(some 22), .ibin .neq (.tmp 21) (.const (.int .i64 0)), none⟩]
def A_tree_alterr4 : List AOper := [
    ⟨(some 23), .mov (.tmp 11), none⟩,
    ⟨(some 8), .mov (.const (.int .i64 0)), none⟩,
    ⟨(some 9), .mov (.tmp 23), none⟩]
def A_tree_alterr5 : List AOper := [
    ⟨(some 24), .mov (.tmp 0), none⟩,
    ⟨(some 25), .mov (.tmp 10), none⟩,
    ⟨(some 26), .call 162 [(.const (.str [])), (.const (.bool true)), (.tmp 25)], none⟩,
    ⟨(some 27), .call 161 [(.tmp 24), (.tmp 26)], none⟩,
    ⟨(some 28), .extr (.tmp 27) 0, none⟩,
    ⟨(some 29), .extr (.tmp 27) 1, none⟩,
    ⟨(some 8), .mov (.tmp 28), none⟩,
    ⟨(some 9), .mov (.tmp 29), none⟩]
def A_tree_alterr6 : List AOper := [
    ⟨(some 31), .mov (.tmp 0), none⟩,
    ⟨(some 32), .mov (.tmp 1), none⟩,
    ⟨(some 33), .mov (.tmp 2), none⟩,
    ⟨(some 34), .mov (.tmp 3), none⟩,
    ⟨(some 35), .call 163 [(.tmp 31), (.tmp 32), (.const (.str [])), (.tmp 33), (.tmp 34), (.const (.int .i64 1))], none⟩,
    ⟨(some 30), .mov (.tmp 35), none⟩,
    ⟨(some 36), .extr (.tmp 30) 0, none⟩,
    ⟨(some 37), .extr (.tmp 30) 1, none⟩,
    ⟨(some 12), .mov (.tmp 36), none⟩,
    ⟨(some 13), .mov (.tmp 37), none⟩]
def A_tree_alterr7 : List AOper := [
    ⟨(some 38), .mov (.tmp 13), none⟩,
    ⟨(some 39), .ibin .neq (.tmp 38) (.const (.int .i64 0)), none⟩]
def A_tree_alterr8 : List AOper := [
    ⟨(some 40), .mov (.tmp 13), none⟩,
    ⟨(some 8), .mov (.const (.int .i64 0)), none⟩,
    ⟨(some 9), .mov (.tmp 40), none⟩]
def A_tree_alterr9 : List AOper := [
    ⟨(some 41), .mov (.tmp 0), none⟩,
    ⟨(some 42), .mov (.tmp 12), none⟩,
    ⟨(some 43), .call 161 [(.tmp 41), (.tmp 42)], none⟩,
    ⟨(some 44), .extr (.tmp 43) 0, none⟩,
    ⟨(some 45), .extr (.tmp 43) 1, none⟩,
    ⟨(some 8), .mov (.tmp 44), none⟩,
    ⟨(some 9), .mov (.tmp 45), none⟩]
def A_tree_alter : AFn := ⟨46, 4, [.tmp 8, .tmp 9], (.seq (.region A_tree_alterr0) (.seq (.seq (.region A_tree_alterr1) (.cond (.tmp 15) (.seq (.region A_tree_alterr2) (.seq (.seq (.region A_tree_alterr3) (.cond (.tmp 22) (.seq (.region A_tree_alterr4) .ret) .skip)) (.seq (.region A_tree_alterr5) .ret))) .skip)) (.seq (.region A_tree_alterr6) (.seq (.seq (.region A_tree_alterr7) (.cond (.tmp 39) (.seq (.region A_tree_alterr8) .ret) .skip)) (.seq (.region A_tree_alterr9) .ret)))))⟩
theorem fn_tree_alter : FnIs Go.Proofs.Tryz.prog 104 A_tree_alter := ⟨by kernel_rfl, Go.Proofs.Tryz.f104, Go.Proofs.Tryz.func104, by kernel_rfl⟩
/- rollbook/crc.Sum -/
def A_crc_Sumr0 : List AOper := [
    ⟨(some 2), .mov (.const (.int .u32 0)), none⟩]
def A_crc_Sumr1 : List AOper := [
    ⟨(some 3), .mov (.tmp 0), none⟩,
    ⟨(some 4), .call 94 [(.const (.int .u32 0)), (.tmp 3)], none⟩,
    ⟨(some 2), .mov (.tmp 4), none⟩]
def A_crc_Sum : AFn := ⟨5, 1, [.tmp 2], (.seq (.region A_crc_Sumr0) (.seq (.region A_crc_Sumr1) .ret))⟩
theorem fn_crc_Sum : FnIs Go.Proofs.Tryz.prog 177 A_crc_Sum := ⟨by kernel_rfl, Go.Proofs.Tryz.f177, Go.Proofs.Tryz.func177, by kernel_rfl⟩
/- rollbook/tree.Put$1 -/
def A_tree_Put_c1r0 : List AOper := [
    ⟨(some 5), .mov (.const (.slice none 0 0)), none⟩,
    ⟨(some 6), .mov (.const (.int .i64 0)), none⟩]
def A_tree_Put_c1r1 : List AOper := [
    ⟨(some 11), .mov (.tmp 0), none⟩,
    ⟨(some 12), .load false 1 (.tmp 1), none⟩,
    ⟨(some 13), .call 106 [(.tmp 11), (.tmp 12)], none⟩,
    ⟨(some 10), .mov (.tmp 13), none⟩,
    ⟨(some 14), .extr (.tmp 10) 0, none⟩,
    ⟨(some 15), .extr (.tmp 10) 1, none⟩,
    ⟨(some 7), .mov (.tmp 14), none⟩,
    ⟨(some 8), .mov (.tmp 15), none⟩]
def A_tree_Put_c1r2 : List AOper := [
    ⟨(some 16), .mov (.tmp 8), none⟩,
    ⟨(some 17), .un .not (.tmp 16), none⟩]
def A_tree_Put_c1r3 : List AOper := [
    ⟨(some 18), .mov (.tmp 0), none⟩,
    ⟨(some 19), .mov (.tmp 7), none⟩,
    ⟨(some 20), .load true 5 (.tmp 2), none⟩,
    ⟨(some 21), .buildSl [.str [], .str [], .int .i64 0, .int .i64 0, .int .i64 0] 1 5 [(0, 5, (.tmp 20))], none⟩,
    ⟨(some 22), .call 107 [(.tmp 18), (.tmp 19), (.tmp 21)], none⟩,
    ⟨(some 5), .mov (.tmp 22), none⟩,
    ⟨(some 6), .mov (.const (.int .i64 0)), none⟩]
def A_tree_Put_c1r4 : List AOper := [
    ⟨(some 23), .load false 1 (.tmp 3), none⟩,
    ⟨(some 24), .mov (.tmp 0), none⟩,
    ⟨(some 25), .mov (.tmp 7), none⟩,
    ⟨(some 26), .iadrS 5 (.tmp 24) (.tmp 25), none⟩,
    ⟨(some 27), .load true 5 (.tmp 26), none⟩,
    ⟨(some 28), .call 108 [(.tmp 23), (.tmp 27)], none⟩,
    ⟨(some 9), .mov (.tmp 28), none⟩]
def A_tree_Put_c1r5 : List AOper := [
    ⟨(some 29), .mov (.tmp 0), none⟩,
    ⟨(some 30), .mov (.tmp 7), none⟩,
    ⟨(some 31), .load true 5 (.tmp 2), none⟩,
    ⟨(some 32), .iadrS 5 (.tmp 29) (.tmp 30), none⟩,
    ⟨none, .store 5 (.tmp 32) (.tmp 31), none⟩]
def A_tree_Put_c1r6 : List AOper := [
    ⟨(some 33), .mov (.tmp 0), none⟩,
    ⟨(some 34), .mov (.tmp 9), none⟩,
    ⟨(some 5), .mov (.tmp 33), none⟩,
    ⟨(some 6), .mov (.tmp 34), none⟩]
def A_tree_Put_c1 : AFn := ⟨35, 4, [.tmp 5, .tmp 6], (.seq (.region A_tree_Put_c1r0) (.seq (.region A_tree_Put_c1r1) (.seq (.seq (.region A_tree_Put_c1r2) (.cond (.tmp 17) (.seq (.region A_tree_Put_c1r3) .ret) .skip)) (.seq (.draw A_tree_Put_c1r4 [0, 0, 0, 6, 14, 31, 63]) (.seq (.region A_tree_Put_c1r5) (.seq (.region A_tree_Put_c1r6) .ret))))))⟩
theorem fn_tree_Put_c1 : FnIs Go.Proofs.Tryz.prog 105 A_tree_Put_c1 := ⟨by kernel_rfl, Go.Proofs.Tryz.f105, Go.Proofs.Tryz.func105, by kernel_rfl⟩
/- slices.Insert[[]rollbook/api.Cell,rollbook/api.Cell] -/
def A_slices_Insert_api_Cellr0 : List AOper := [
    ⟨(some 6), .mov (.const (.slice none 0 0)), none⟩]
def A_slices_Insert_api_Cellr1 : List AOper := [
    ⟨(some 10), .mov (.tmp 0), none⟩,
    ⟨(some 11), .mov (.tmp 1), none⟩,
    ⟨(some 12), .slV 5 (.tmp 10) (some (.tmp 11)) none none, none⟩]
def A_slices_Insert_api_Cellr2 : List AOper := [
    ⟨(some 13), .mov (.tmp 2), none⟩,
    ⟨(some 14), .len .sl (.tmp 13), none⟩,
    ⟨(some 7), .mov (.tmp 14), none⟩]
def A_slices_Insert_api_Cellr3 : List AOper := [
    ⟨(some 15), .mov (.tmp 7), none⟩,
    ⟨(some 16), .ibin .eql (.tmp 15) (.const (.int .i64 0)), none⟩]
def A_slices_Insert_api_Cellr4 : List AOper := [
    ⟨(some 17), .mov (.tmp 0), none⟩,
    ⟨(some 6), .mov (.tmp 17), none⟩]
def A_slices_Insert_api_Cellr5 : List AOper := [
    ⟨(some 18), .mov (.tmp 0), none⟩,
    ⟨(some 19), .len .sl (.tmp 18), none⟩,
    ⟨(some 8), .mov (.tmp 19), none⟩]
def A_slices_Insert_api_Cellr6 : List AOper := [
    ⟨(some 20), .mov (.tmp 1), none⟩,
    ⟨(some 21), .mov (.tmp 8), none⟩,
    ⟨(some 22), .ibin .eql (.tmp 20) (.tmp 21), none⟩]
def A_slices_Insert_api_Cellr7 : List AOper := [
    ⟨(some 23), .mov (.tmp 0), none⟩,
    ⟨(some 24), .mov (.tmp 2), none⟩,
    ⟨(some 25), .app 5 56 170 (.tmp 23) (.tmp 24), none⟩,
    ⟨(some 6), .mov (.tmp 25), none⟩]
def A_slices_Insert_api_Cellr8 : List AOper := [
    ⟨(some 26), .mov (.tmp 8), none⟩,
    ⟨(some 27), .mov (.tmp 7), none⟩,
    ⟨(some 28), .ibin .add (.tmp 26) (.tmp 27), none⟩,
    ⟨(some 29), .mov (.tmp 0), none⟩,
    ⟨(some 30), .cap (.tmp 29), none⟩,
    ⟨(some 31), .ibin .gtr (.tmp 28) (.tmp 30), none⟩]
def A_slices_Insert_api_Cellr9 : List AOper := [
    ⟨(some 32), .mov (.tmp 0), none⟩,
    ⟨(some 33), .mov (.tmp 1), none⟩,
    ⟨(some 34), .slV 5 (.tmp 32) none (some (.tmp 33)) none, none⟩,
    ⟨(some 35), .mov (.tmp 8), none⟩,
    ⟨(some 36), .mov (.tmp 7), none⟩,
    ⟨(some 37), .ibin .add (.tmp 35) (.tmp 36), none⟩,
    ⟨(some 38), .mov (.tmp 1), none⟩,
    ⟨(some 39), .ibin .sub (.tmp 37) (.tmp 38), none⟩,
    ⟨(some 40), .bad, none⟩,
    ⟨(some 9), .mov (.tmp 40), none⟩]
def A_slices_Insert_api_Cellr10 : List AOper := [
    ⟨(some 41), .mov (.tmp 9), none⟩,
    ⟨(some 42), .mov (.tmp 1), none⟩,
    ⟨(some 43), .slV 5 (.tmp 41) (some (.tmp 42)) none none, none⟩,
    ⟨(some 44), .mov (.tmp 2), none⟩,
    ⟨(some 45), .copy 5 (.tmp 43) (.tmp 44), none⟩]
def A_slices_Insert_api_Cellr11 : List AOper := [
    ⟨(some 46), .mov (.tmp 9), none⟩,
    ⟨(some 47), .mov (.tmp 1), none⟩,
    ⟨(some 48), .mov (.tmp 7), none⟩,
    ⟨(some 49), .ibin .add (.tmp 47) (.tmp 48), none⟩,
    ⟨(some 50), .slV 5 (.tmp 46) (some (.tmp 49)) none none, none⟩,
    ⟨(some 51), .mov (.tmp 0), none⟩,
    ⟨(some 52), .mov (.tmp 1), none⟩,
    ⟨(some 53), .slV 5 (.tmp 51) (some (.tmp 52)) none none, none⟩,
    ⟨(some 54), .copy 5 (.tmp 50) (.tmp 53), none⟩]
def A_slices_Insert_api_Cellr12 : List AOper := [
    ⟨(some 55), .mov (.tmp 9), none⟩,
    ⟨(some 6), .mov (.tmp 55), none⟩]
def A_slices_Insert_api_Cellr13 : List AOper := [
    ⟨(some 56), .mov (.tmp 0), none⟩,
    ⟨(some 57), .mov (.tmp 8), none⟩,
    ⟨(some 58), .mov (.tmp 7), none⟩,
    ⟨(some 59), .ibin .add (.tmp 57) (.tmp 58), none⟩,
    ⟨(some 60), .slV 5 (.tmp 56) none (some (.tmp 59)) none, none⟩,
    ⟨(some 0), .mov (.tmp 60), none⟩]
def A_slices_Insert_api_Cellr14 : List AOper := [
    ⟨(some 61), .mov (.tmp 2), none⟩,
    ⟨(some 62), .mov (.tmp 0), none⟩,
    ⟨(some 63), .mov (.tmp 1), none⟩,
    ⟨(some 64), .mov (.tmp 7), none⟩,
    ⟨(some 65), .ibin .add (.tmp 63) (.tmp 64), none⟩,
    ⟨(some 66), .slV 5 (.tmp 62) (some (.tmp 65)) none none, none⟩,
    ⟨(some 67), .call 164 [(.tmp 61), (.tmp 66)], none⟩,
    ⟨(some 68), .un .not (.tmp 67), none⟩]
def A_slices_Insert_api_Cellr15 : List AOper := [
    ⟨(some 69), .mov (.tmp 0), none⟩,
    ⟨(some 70), .mov (.tmp 1), none⟩,
    ⟨(some 71), .mov (.tmp 7), none⟩,
    ⟨(some 72), .ibin .add (.tmp 70) (.tmp 71), none⟩,
    ⟨(some 73), .slV 5 (.tmp 69) (some (.tmp 72)) none none, none⟩,
    ⟨(some 74), .mov (.tmp 0), none⟩,
    ⟨(some 75), .mov (.tmp 1), none⟩,
    ⟨(some 76), .slV 5 (.tmp 74) (some (.tmp 75)) none none, none⟩,
    ⟨(some 77), .copy 5 (.tmp 73) (.tmp 76), none⟩]
def A_slices_Insert_api_Cellr16 : List AOper := [
    ⟨(some 78), .mov (.tmp 0), none⟩,
    ⟨(some 79), .mov (.tmp 1), none⟩,
    ⟨(some 80), .slV 5 (.tmp 78) (some (.tmp 79)) none none, none⟩,
    ⟨(some 81), .mov (.tmp 2), none⟩,
    ⟨(some 82), .copy 5 (.tmp 80) (.tmp 81), none⟩]
def A_slices_Insert_api_Cellr17 : List AOper := [
    ⟨(some 83), .mov (.tmp 0), none⟩,
    ⟨(some 6), .mov (.tmp 83), none⟩]
def A_slices_Insert_api_Cellr18 : List AOper := [
    ⟨(some 84), .mov (.tmp 0), none⟩,
    ⟨(some 85), .mov (.tmp 8), none⟩,
    ⟨(some 86), .slV 5 (.tmp 84) (some (.tmp 85)) none none, none⟩,
    ⟨(some 87), .mov (.tmp 2), none⟩,
    ⟨(some 88), .copy 5 (.tmp 86) (.tmp 87), none⟩]
def A_slices_Insert_api_Cellr19 : List AOper := [
    ⟨(some 89), .mov (.tmp 0), none⟩,
    ⟨(some 90), .mov (.tmp 1), none⟩,
    ⟨(some 91), .slV 5 (.tmp 89) (some (.tmp 90)) none none, none⟩,
    ⟨(some 92), .mov (.tmp 7), none⟩,
    ⟨(some 93), .call 165 [(.tmp 91), (.tmp 92)], none⟩]
def A_slices_Insert_api_Cellr20 : List AOper := [
    ⟨(some 94), .mov (.tmp 0), none⟩,
    ⟨(some 6), .mov (.tmp 94), none⟩]
def A_slices_Insert_api_Cell : AFn := ⟨95, 3, [.tmp 6], (.seq (.region A_slices_Insert_api_Cellr0) (.seq (.region A_slices_Insert_api_Cellr1) (.seq (.region A_slices_Insert_api_Cellr2) (.seq (.seq (.region A_slices_Insert_api_Cellr3) (.cond (.tmp 16) (.seq (.region A_slices_Insert_api_Cellr4) .ret) .skip)) (.seq (.region A_slices_Insert_api_Cellr5) (.seq (.seq (.region A_slices_Insert_api_Cellr6) (.cond (.tmp 22) (.seq (.region A_slices_Insert_api_Cellr7) .ret) .skip)) (.seq (.seq (.region A_slices_Insert_api_Cellr8) (.cond (.tmp 31) (.seq (.region A_slices_Insert_api_Cellr9) (.seq (.region A_slices_Insert_api_Cellr10) (.seq (.draw A_slices_Insert_api_Cellr11 [0, 0, 0, 6, 15, 0, 0, 96, 255]) (.seq (.region A_slices_Insert_api_Cellr12) .ret)))) .skip)) (.seq (.region A_slices_Insert_api_Cellr13) (.seq (.seq (.region A_slices_Insert_api_Cellr14) (.cond (.tmp 68) (.seq (.draw A_slices_Insert_api_Cellr15 [0, 0, 0, 6, 15, 0, 0, 96, 255]) (.seq (.region A_slices_Insert_api_Cellr16) (.seq (.region A_slices_Insert_api_Cellr17) .ret))) .skip)) (.seq (.region A_slices_Insert_api_Cellr18) (.seq (.region A_slices_Insert_api_Cellr19) (.seq (.region A_slices_Insert_api_Cellr20) .ret))))))))))))⟩
theorem fn_slices_Insert_api_Cell : FnIs Go.Proofs.Tryz.prog 107 A_slices_Insert_api_Cell := ⟨by kernel_rfl, Go.Proofs.Tryz.f107, Go.Proofs.Tryz.func107, by kernel_rfl⟩
/- (*rollbook/kv.Txn).done -/
def A_kv_Txn_doner0 : List AOper := [
    ⟨(some 2), .mov (.const (.int .i64 0)), none⟩]
def A_kv_Txn_doner1 : List AOper := [
    ⟨(some 4), .mov (.tmp 0), none⟩,
    ⟨(some 5), .nilck (.tmp 4), none⟩,
    ⟨(some 6), .fadr 0 (.tmp 5), none⟩,
    ⟨(some 7), .load false 1 (.tmp 6), none⟩,
    ⟨(some 8), .nilck (.tmp 7), none⟩,
    ⟨(some 9), .fadr 0 (.tmp 8), none⟩,
    ⟨(some 10), .load false 1 (.tmp 9), none⟩,
    ⟨(some 11), .call 119 [(.tmp 10)], none⟩,
    ⟨(some 3), .mov (.tmp 11), none⟩]
def A_kv_Txn_doner2 : List AOper := [
    ⟨(some 12), .mov (.tmp 3), none⟩,
    ⟨(some 13), .ibin .neq (.tmp 12) (.const (.int .i64 0)), none⟩]
def A_kv_Txn_doner3 : List AOper := [
    ⟨(some 14), .mov (.tmp 3), none⟩,
    ⟨(some 2), .mov (.tmp 14), none⟩]
def A_kv_Txn_doner4 : List AOper := [
    ⟨(some 15), .mov (.tmp 0), none⟩,
    ⟨(some 16), .nilck (.tmp 15), none⟩,
    ⟨(some 17), .fadr 0 (.tmp 16), none⟩,
    ⟨(some 18), .load false 1 (.tmp 17), none⟩,
    ⟨(some 19), .mov (.tmp 0), none⟩,
    ⟨(some 20), .nilck (.tmp 19), none⟩,
    ⟨(some 21), .fadr 7 (.tmp 20), none⟩,
    ⟨(some 22), .load false 1 (.tmp 21), none⟩,
    ⟨(some 23), .nilck (.tmp 18), none⟩,
    ⟨(some 24), .fadr 2 (.tmp 23), none⟩,
    ⟨none, .store 1 (.tmp 24) (.tmp 22), none⟩]
def A_kv_Txn_doner5 : List AOper := [
    ⟨(some 25), .mov (.tmp 0), none⟩,
    ⟨(some 26), .nilck (.tmp 25), none⟩,
    ⟨(some 27), .fadr 0 (.tmp 26), none⟩,
    ⟨(some 28), .load false 1 (.tmp 27), none⟩,
    ⟨(some 29), .mov (.tmp 0), none⟩,
    ⟨(some 30), .nilck (.tmp 29), none⟩,
    ⟨(some 31), .fadr 9 (.tmp 30), none⟩,
    ⟨(some 32), .load false 1 (.tmp 31), none⟩,
    ⟨(some 33), .nilck (.tmp 28), none⟩,
    ⟨(some 34), .fadr 3 (.tmp 33), none⟩,
    ⟨none, .store 1 (.tmp 34) (.tmp 32), none⟩]
def A_kv_Txn_doner6 : List AOper := [
    ⟨(some 2), .mov (.const (.int .i64 0)), none⟩]
def A_kv_Txn_done : AFn := ⟨35, 1, [.tmp 2], (.seq (.region A_kv_Txn_doner0) (.seq (.seq (.region A_kv_Txn_doner1) (.seq (.region A_kv_Txn_doner2) (.cond (.tmp 13) (.seq (.region A_kv_Txn_doner3) .ret) .skip))) (.seq (.draw A_kv_Txn_doner4 [0, 1, 3, 7, 0, 16, 48, 112, 255, 511, 1023]) (.seq (.draw A_kv_Txn_doner5 [0, 1, 3, 7, 0, 16, 48, 112, 255, 511, 1023]) (.seq (.region A_kv_Txn_doner6) .ret)))))⟩
theorem fn_kv_Txn_done : FnIs Go.Proofs.Tryz.prog 54 A_kv_Txn_done := ⟨by kernel_rfl, Go.Proofs.Tryz.f54, Go.Proofs.Tryz.func54, by kernel_rfl⟩
/- rollbook/rollbookref11.Put -/
def A_rollbookref11_Putr0 : List AOper := [
    ⟨(some 3), .box (.tmp 1) 3, none⟩,
    ⟨(some 4), .mov (.const (.slice none 0 0)), none⟩]
def A_rollbookref11_Putr1 : List AOper := [
    ⟨(some 7), .mov (.tmp 0), none⟩,
    ⟨(some 8), .fadr 0 (.tmp 3), none⟩,
    ⟨(some 9), .load false 1 (.tmp 8), none⟩,
    ⟨(some 10), .fadr 1 (.tmp 3), none⟩,
    ⟨(some 11), .load false 1 (.tmp 10), none⟩,
    ⟨(some 12), .call 83 [(.tmp 7), (.tmp 9), (.tmp 11)], none⟩,
    ⟨(some 0), .mov (.tmp 12), none⟩]
def A_rollbookref11_Putr2 : List AOper := [
    ⟨(some 13), .buildSl [] 0 3 [], none⟩,
    ⟨(some 5), .mov (.tmp 13), none⟩]
def A_rollbookref11_Putr3 : List AOper := [
    ⟨(some 6), .mov (.const (.int .i64 0)), none⟩]
def A_rollbookref11_Putr4 : List AOper := [
    ⟨(some 14), .mov (.tmp 6), none⟩,
    ⟨(some 15), .mov (.tmp 0), none⟩,
    ⟨(some 16), .len .sl (.tmp 15), none⟩,
    ⟨(some 17), .ibin .lss (.tmp 14) (.tmp 16), none⟩,
    ⟨(some 18), .mov (.tmp 17), none⟩,
    ⟨(some 19), .mov (.tmp 0), (some (18, true))⟩,
    ⟨(some 20), .mov (.tmp 6), (some (18, true))⟩,
    ⟨(some 21), .iadrS 3 (.tmp 19) (.tmp 20), (some (18, true))⟩,
    ⟨(some 22), .load true 3 (.tmp 21), (some (18, true))⟩,
    ⟨(some 23), .load true 3 (.tmp 3), (some (18, true))⟩,
    ⟨(some 24), .call 144 [(.tmp 22), (.tmp 23)], (some (18, true))⟩,
    ⟨(some 25), .pick (.tmp 18) (.tmp 24) (.const (.bool false)), none⟩]
def A_rollbookref11_Putr5 : List AOper := [
    ⟨(some 26), .mov (.tmp 5), none⟩,
    ⟨(some 27), .mov (.tmp 0), none⟩,
    ⟨(some 28), .mov (.tmp 6), none⟩,
    ⟨(some 29), .iadrS 3 (.tmp 27) (.tmp 28), none⟩,
    ⟨(some 30), .load true 3 (.tmp 29), none⟩,
    ⟨(some 31), .buildSl [.str [], .str [], .str []] 1 3 [(0, 3, (.tmp 30))], none⟩,
    ⟨(some 32), .app 3 48 143 (.tmp 26) (.tmp 31), none⟩,
    ⟨(some 5), .mov (.tmp 32), none⟩]
def A_rollbookref11_Putr6 : List AOper := [
    ⟨(some 33), .mov (.tmp 6), none⟩,
    ⟨(some 34), .ibin .add (.tmp 33) (.const (.int .i64 1)), none⟩,
    ⟨(some 6), .mov (.tmp 34), none⟩]
def A_rollbookref11_Putc7 : AC := (.block 1 (.seq (.region A_rollbookref11_Putr5) (.region A_rollbookref11_Putr6)))
def A_rollbookref11_Putl8 : AC := (.seq (.seq (.draw A_rollbookref11_Putr4 [0, 0, 2, 7, 15, 31, 31, 127, 255, 31, 1023, 2047]) (.cond (.tmp 25) .skip (.exit 0))) A_rollbookref11_Putc7)
def A_rollbookref11_Putc9 : AC := (.block 0 (.loop A_rollbookref11_Putl8))
def A_rollbookref11_Putr10 : List AOper := [
    ⟨(some 35), .mov (.tmp 5), none⟩,
    ⟨(some 36), .load true 3 (.tmp 3), none⟩,
    ⟨(some 37), .buildSl [.str [], .str [], .str []] 1 3 [(0, 3, (.tmp 36))], none⟩,
    ⟨(some 38), .app 3 48 143 (.tmp 35) (.tmp 37), none⟩,
    ⟨(some 5), .mov (.tmp 38), none⟩]
def A_rollbookref11_Putr11 : List AOper := [
    ⟨(some 39), .mov (.tmp 5), none⟩,
    ⟨(some 40), .mov (.tmp 0), none⟩,
    ⟨(some 41), .mov (.tmp 6), none⟩,
    ⟨(some 42), .slV 3 (.tmp 40) (some (.tmp 41)) none none, none⟩,
    ⟨(some 43), .app 3 48 143 (.tmp 39) (.tmp 42), none⟩,
    ⟨(some 4), .mov (.tmp 43), none⟩]
def A_rollbookref11_Put : AFn := ⟨44, 2, [.tmp 4], (.seq (.region A_rollbookref11_Putr0) (.seq (.region A_rollbookref11_Putr1) (.seq (.region A_rollbookref11_Putr2) (.seq (.region A_rollbookref11_Putr3) (.seq A_rollbookref11_Putc9 (.seq (.region A_rollbookref11_Putr10) (.seq (.region A_rollbookref11_Putr11) .ret)))))))⟩
theorem fn_rollbookref11_Put : FnIs Go.Proofs.Tryz.prog 84 A_rollbookref11_Put := ⟨by kernel_rfl, Go.Proofs.Tryz.f84, Go.Proofs.Tryz.func84, by kernel_rfl⟩
/- rollbook/kv.Open -/
def A_kv_Openr0 : List AOper := [
    ⟨(some 2), .mov (.const (.ptr none)), none⟩,
    ⟨(some 3), .mov (.const (.int .i64 0)), none⟩]
def A_kv_Openr1 : List AOper := [
    ⟨(some 9), .mov (.tmp 0), none⟩,
    ⟨(some 10), .call 99 [(.tmp 9)], none⟩,
    ⟨(some 8), .mov (.tmp 10), none⟩,
    ⟨(some 11), .extr (.tmp 8) 0, none⟩,
    ⟨(some 12), .extr (.tmp 8) 1, none⟩,
    ⟨(some 4), .mov (.tmp 11), none⟩,
    ⟨(some 5), .mov (.tmp 12), none⟩]
def A_kv_Openr2 : List AOper := [
    ⟨(some 13), .mov (.tmp 5), none⟩,
    ⟨(some 14), .ibin .neq (.tmp 13) (.const (.int .i64 0)), none⟩]
def A_kv_Openr3 : List AOper := [
    ⟨(some 15), .mov (.tmp 5), none⟩,
    ⟨(some 2), .mov (.const (.ptr none)), none⟩,
    ⟨(some 3), .mov (.tmp 15), none⟩]
def A_kv_Openr4 : List AOper := [
    ⟨(some 17), .mov (.tmp 4), none⟩,
    ⟨(some 18), .mov (.tmp 4), none⟩,
    ⟨(some 19), .call 55 [(.tmp 18)], none⟩,
    ⟨(some 20), .fld false 2 1 (.tmp 19), none⟩,
    ⟨(some 21), .call 100 [(.tmp 17), (.tmp 20)], none⟩,
    ⟨(some 16), .mov (.tmp 21), none⟩,
    ⟨(some 22), .extr (.tmp 16) 0, none⟩,
    ⟨(some 23), .extr (.tmp 16) 1, none⟩,
    ⟨(some 24), .extr (.tmp 16) 2, none⟩,
    ⟨(some 6), .mov (.tmp 22), none⟩,
    ⟨(some 7), .mov (.tmp 23), none⟩,
    ⟨(some 5), .mov (.tmp 24), none⟩]
def A_kv_Openr5 : List AOper := [
    ⟨(some 25), .mov (.tmp 5), none⟩,
    ⟨(some 26), .ibin .neq (.tmp 25) (.const (.int .i64 0)), none⟩]
def A_kv_Openr6 : List AOper := [
    ⟨(some 27), .mov (.tmp 5), none⟩,
    ⟨(some 2), .mov (.const (.ptr none)), none⟩,
    ⟨(some 3), .mov (.tmp 27), none⟩]
def A_kv_Openr7 : List AOper := [
    ⟨(some 28), .mov (.tmp 4), none⟩,
    ⟨(some 29), .call 101 [], none⟩,
    ⟨(some 30), .mov (.tmp 6), none⟩,
    ⟨(some 31), .mov (.tmp 7), none⟩,
    ⟨(some 32), .build [.ptr none, .ptr none, .ptr none, .slice none 0 0, .ptr none] [(0, 1, (.tmp 28)), (1, 1, (.tmp 29)), (2, 1, (.tmp 30)), (3, 1, (.tmp 31))], none⟩,
    ⟨(some 33), .box (.tmp 32) 5, none⟩,
    ⟨(some 2), .mov (.tmp 33), none⟩,
    ⟨(some 3), .mov (.const (.int .i64 0)), none⟩]
def A_kv_Open : AFn := ⟨34, 1, [.tmp 2, .tmp 3], (.seq (.region A_kv_Openr0) (.seq (.region A_kv_Openr1) (.seq (.seq (.region A_kv_Openr2) (.cond (.tmp 14) (.seq (.region A_kv_Openr3) .ret) .skip)) (.seq (.region A_kv_Openr4) (.seq (.seq (.region A_kv_Openr5) (.cond (.tmp 26) (.seq (.region A_kv_Openr6) .ret) .skip)) (.seq (.region A_kv_Openr7) .ret))))))⟩
theorem fn_kv_Open : FnIs Go.Proofs.Tryz.prog 43 A_kv_Open := ⟨by kernel_rfl, Go.Proofs.Tryz.f43, Go.Proofs.Tryz.func43, by kernel_rfl⟩
/- rollbook/rollbooklaw11.begin -/
def A_rollbooklaw11_beginr0 : List AOper := [
    ⟨(some 2), .mov (.const (.ptr none)), none⟩]
def A_rollbooklaw11_beginr1 : List AOper := [
    ⟨(some 8), .mov (.tmp 0), none⟩,
    ⟨(some 9), .ibin .mul (.const (.int .i64 4)) (.tmp 8), none⟩,
    ⟨(some 10), .call 41 [(.tmp 9)], none⟩,
    ⟨(some 7), .mov (.tmp 10), none⟩,
    ⟨(some 11), .extr (.tmp 7) 0, none⟩,
    ⟨(some 12), .extr (.tmp 7) 1, none⟩,
    ⟨(some 3), .mov (.tmp 11), none⟩,
    ⟨(some 4), .mov (.tmp 12), none⟩]
def A_rollbooklaw11_beginr2 : List AOper := [
    ⟨(some 13), .mov (.tmp 3), none⟩,
    ⟨(some 14), .nileq .ptr false (.tmp 13) (.const (.ptr none)), none⟩,
    ⟨(some 15), .mov (.tmp 14), none⟩,
    ⟨(some 16), .mov (.tmp 3), (some (15, false))⟩,
    ⟨(some 17), .mov (.tmp 0), (some (15, false))⟩,
    ⟨(some 18), .call 42 [(.tmp 16), (.tmp 17)], (some (15, false))⟩,
    ⟨(some 19), .ibin .neq (.tmp 18) (.const (.int .i64 0)), (some (15, false))⟩,
    ⟨(some 20), .pick (.tmp 15) (.const (.bool true)) (.tmp 19), none⟩]
def A_rollbooklaw11_beginr3 : List AOper := [
    ⟨(some 2), .mov (.const (.ptr none)), none⟩]
def A_rollbooklaw11_beginr4 : List AOper := [
    ⟨(some 22), .mov (.tmp 3), none⟩,
    ⟨(some 23), .call 43 [(.tmp 22)], none⟩,
    ⟨(some 21), .mov (.tmp 23), none⟩,
    ⟨(some 24), .extr (.tmp 21) 0, none⟩,
    ⟨(some 25), .extr (.tmp 21) 1, none⟩,
    ⟨(some 5), .mov (.tmp 24), none⟩,
    ⟨(some 6), .mov (.tmp 25), none⟩]
def A_rollbooklaw11_beginr5 : List AOper := [
    ⟨(some 26), .mov (.tmp 6), none⟩,
    ⟨(some 27), .ibin .neq (.tmp 26) (.const (.int .i64 0)), none⟩]
def A_rollbooklaw11_beginr6 : List AOper := [
    ⟨(some 2), .mov (.const (.ptr none)), none⟩]
def A_rollbooklaw11_beginr7 : List AOper := [
    ⟨(some 28), .mov (.tmp 3), none⟩,
    ⟨(some 29), .mov (.tmp 5), none⟩,
    ⟨(some 30), .build [.ptr none, .ptr none, .ptr none, .slice none 0 0, .slice none 0 0, .slice none 0 0, .bool false] [(0, 1, (.tmp 28)), (1, 1, (.tmp 29))], none⟩,
    ⟨(some 31), .box (.tmp 30) 7, none⟩,
    ⟨(some 2), .mov (.tmp 31), none⟩]
def A_rollbooklaw11_begin : AFn := ⟨32, 1, [.tmp 2], (.seq (.region A_rollbooklaw11_beginr0) (.seq (.region A_rollbooklaw11_beginr1) (.seq (.seq (.region A_rollbooklaw11_beginr2) (.cond (.tmp 20) (.seq (.region A_rollbooklaw11_beginr3) .ret) .skip)) (.seq (.region A_rollbooklaw11_beginr4) (.seq (.seq (.region A_rollbooklaw11_beginr5) (.cond (.tmp 27) (.seq (.region A_rollbooklaw11_beginr6) .ret) .skip)) (.seq (.region A_rollbooklaw11_beginr7) .ret))))))⟩
theorem fn_rollbooklaw11_begin : FnIs Go.Proofs.Tryz.prog 10 A_rollbooklaw11_begin := ⟨by kernel_rfl, Go.Proofs.Tryz.f10, Go.Proofs.Tryz.func10, by kernel_rfl⟩
/- (*rollbook/kv.Txn).mayChange -/
def A_kv_Txn_mayChanger0 : List AOper := [
    ⟨(some 4), .mov (.const (.int .i64 0)), none⟩]
def A_kv_Txn_mayChanger1 : List AOper := [
    ⟨(some 6), .mov (.tmp 0), none⟩,
    ⟨(some 7), .call 49 [(.tmp 6)], none⟩,
    ⟨(some 5), .mov (.tmp 7), none⟩]
def A_kv_Txn_mayChanger2 : List AOper := [
    ⟨(some 9), .mov (.tmp 5), none⟩,
    ⟨(some 10), .ibin .neq (.tmp 9) (.const (.int .i64 0)), none⟩,
    ⟨(some 8), .mov (.tmp 10), none⟩]
def A_kv_Txn_mayChanger3 : List AOper := [
    ⟨(some 11), .mov (.tmp 5), none⟩,
    ⟨(some 4), .mov (.tmp 11), none⟩]
def A_kv_Txn_mayChanger4 : List AOper := [
    ⟨(some 13), .mov (.tmp 0), none⟩,
    ⟨(some 14), .nilck (.tmp 13), none⟩,
    ⟨(some 15), .fadr 12 (.tmp 14), none⟩,
    ⟨(some 16), .load false 1 (.tmp 15), none⟩,
    ⟨(some 17), .ibin .gtr (.tmp 16) (.const (.int .i64 0)), none⟩,
    ⟨(some 12), .mov (.tmp 17), none⟩]
def A_kv_Txn_mayChanger5 : List AOper := [
    ⟨(some 4), .mov (.const (.int .i64 11)), none⟩]
def A_kv_Txn_mayChanger6 : List AOper := [
    ⟨(some 19), .mov (.tmp 1), none⟩,
    ⟨(some 20), .sbin .eql (.tmp 19) (.const (.str [])), none⟩,
    ⟨(some 21), .mov (.tmp 20), none⟩,
    ⟨(some 22), .mov (.tmp 1), (some (21, false))⟩,
    ⟨(some 23), .len .str (.tmp 22), (some (21, false))⟩,
    ⟨(some 24), .ibin .gtr (.tmp 23) (.const (.int .i64 32)), (some (21, false))⟩,
    ⟨(some 25), .pick (.tmp 21) (.const (.bool true)) (.tmp 24), none⟩,
    ⟨(some 18), .mov (.tmp 25), none⟩]
def A_kv_Txn_mayChanger7 : List AOper := [
    ⟨(some 4), .mov (.const (.int .i64 1)), none⟩]
def A_kv_Txn_mayChangec8 : AC := (.block 0 (.seq (.region A_kv_Txn_mayChanger2) (.cond (.tmp 8) (.seq (.region A_kv_Txn_mayChanger3) .ret) (.seq (.region A_kv_Txn_mayChanger4) (.cond (.tmp 12) (.seq (.region A_kv_Txn_mayChanger5) .ret) (.seq (.region A_kv_Txn_mayChanger6) (.cond (.tmp 18) (.seq (.region A_kv_Txn_mayChanger7) .ret) .skip)))))))
def A_kv_Txn_mayChanger9 : List AOper := [
    ⟨(some 4), .mov (.const (.int .i64 0)), none⟩]
def A_kv_Txn_mayChange : AFn := ⟨26, 2, [.tmp 4], (.seq (.region A_kv_Txn_mayChanger0) (.seq (.region A_kv_Txn_mayChanger1) (.seq A_kv_Txn_mayChangec8 (.seq (.region A_kv_Txn_mayChanger9) .ret))))⟩
theorem fn_kv_Txn_mayChange : FnIs Go.Proofs.Tryz.prog 45 A_kv_Txn_mayChange := ⟨by kernel_rfl, Go.Proofs.Tryz.f45, Go.Proofs.Tryz.func45, by kernel_rfl⟩
/- (*rollbook/kv.Txn).spare -/
def A_kv_Txn_sparer0 : List AOper := [
    ⟨(some 4), .mov (.const (.ptr none)), none⟩,
    ⟨(some 5), .mov (.const (.int .i64 0)), none⟩]
def A_kv_Txn_sparer1 : List AOper := [
    ⟨(some 9), .mov (.tmp 0), none⟩,
    ⟨(some 10), .nilck (.tmp 9), none⟩,
    ⟨(some 11), .fadr 7 (.tmp 10), none⟩,
    ⟨(some 12), .load false 1 (.tmp 11), none⟩,
    ⟨(some 13), .call 44 [(.tmp 12)], none⟩,
    ⟨(some 6), .mov (.tmp 13), none⟩]
def A_kv_Txn_sparer2 : List AOper := [
    ⟨(some 14), .mov (.tmp 0), none⟩,
    ⟨(some 15), .nilck (.tmp 14), none⟩,
    ⟨(some 16), .fadr 10 (.tmp 15), none⟩,
    ⟨(some 17), .load false 1 (.tmp 16), none⟩,
    ⟨(some 18), .mov (.tmp 0), none⟩,
    ⟨(some 19), .nilck (.tmp 18), none⟩,
    ⟨(some 20), .fadr 9 (.tmp 19), none⟩,
    ⟨(some 21), .load false 1 (.tmp 20), none⟩,
    ⟨(some 22), .mov (.tmp 0), none⟩,
    ⟨(some 23), .nilck (.tmp 22), none⟩,
    ⟨(some 24), .fadr 0 (.tmp 23), none⟩,
    ⟨(some 25), .load false 1 (.tmp 24), none⟩,
    ⟨(some 26), .nilck (.tmp 25), none⟩,
    ⟨(some 27), .fadr 3 (.tmp 26), none⟩,
    ⟨(some 28), .load false 1 (.tmp 27), none⟩,
    ⟨(some 29), .buildSl [.slice none 0 0, .slice none 0 0, .slice none 0 0] 3 1 [(0, 1, (.tmp 17)), (1, 1, (.tmp 21)), (2, 1, (.tmp 28))], none⟩,
    ⟨(some 30), .call 74 [(.tmp 29)], none⟩,
    ⟨(some 31), .len .sl (.tmp 30), none⟩,
    ⟨(some 32), .mov (.const (.int .i64 0)), none⟩]
def A_kv_Txn_sparer3 : List AOper := [
    ⟨(some 33), .ibin .lss (.tmp 32) (.tmp 31), none⟩]
def A_kv_Txn_sparer4 : List AOper := [
    ⟨(some 34), .iadrS 1 (.tmp 30) (.tmp 32), none⟩,
    ⟨(some 35), .load false 1 (.tmp 34), none⟩,
    ⟨(some 8), .mov (.tmp 35), none⟩]
def A_kv_Txn_sparer5 : List AOper := [
    ⟨(some 36), .mov (.tmp 1), none⟩,
    ⟨(some 37), .mov (.tmp 8), none⟩,
    ⟨(some 38), .call 157 [(.tmp 36), (.tmp 37)], none⟩]
def A_kv_Txn_sparer6 : List AOper := [
    ⟨(some 39), .mov (.tmp 6), none⟩,
    ⟨(some 40), .mov (.tmp 0), none⟩,
    ⟨(some 41), .nilck (.tmp 40), none⟩,
    ⟨(some 42), .fadr 1 (.tmp 41), none⟩,
    ⟨(some 43), .load false 1 (.tmp 42), none⟩,
    ⟨(some 44), .mov (.tmp 8), none⟩,
    ⟨(some 45), .build [.int .i64 0, .int .i64 0] [(0, 1, (.tmp 43)), (1, 1, (.tmp 44))], none⟩,
    ⟨(some 46), .call 159 [(.tmp 39), (.tmp 45)], none⟩,
    ⟨(some 47), .ibin .neq (.tmp 46) (.const (.int .i64 0)), none⟩]
def A_kv_Txn_sparer7 : List AOper := [
    ⟨(some 4), .mov (.const (.ptr none)), none⟩,
    ⟨(some 5), .mov (.const (.int .i64 4)), none⟩]
def A_kv_Txn_sparec8 : AC := (.block 1 (.seq (.region A_kv_Txn_sparer4) (.seq (.seq (.region A_kv_Txn_sparer5) (.cond (.tmp 38) (.exit 1) .skip)) (.seq (.region A_kv_Txn_sparer6) (.cond (.tmp 47) (.seq (.region A_kv_Txn_sparer7) .ret) .skip)))))
def A_kv_Txn_sparer9 : List AOper := [
    ⟨(some 48), .ibin .add (.tmp 32) (.const (.int .i64 1)), none⟩,
    ⟨(some 32), .mov (.tmp 48), none⟩]
def A_kv_Txn_sparel10 : AC := (.seq (.region A_kv_Txn_sparer3) (.seq (.cond (.tmp 33) .skip (.exit 0)) (.seq A_kv_Txn_sparec8 (.region A_kv_Txn_sparer9))))
def A_kv_Txn_sparec11 : AC := (.block 0 (.loop A_kv_Txn_sparel10))
def A_kv_Txn_sparer12 : List AOper := [
    ⟨(some 49), .mov (.tmp 6), none⟩,
    ⟨(some 4), .mov (.tmp 49), none⟩,
    ⟨(some 5), .mov (.const (.int .i64 0)), none⟩]
def A_kv_Txn_spare : AFn := ⟨50, 2, [.tmp 4, .tmp 5], (.seq (.region A_kv_Txn_sparer0) (.seq (.region A_kv_Txn_sparer1) (.seq (.seq (.draw A_kv_Txn_sparer2 [0, 1, 3, 7, 0, 16, 48, 112, 0, 256, 768, 1792, 3840, 7936, 16128, 32767, 65535, 131071, 0]) A_kv_Txn_sparec11) (.seq (.region A_kv_Txn_sparer12) .ret))))⟩
theorem fn_kv_Txn_spare : FnIs Go.Proofs.Tryz.prog 110 A_kv_Txn_spare := ⟨by kernel_rfl, Go.Proofs.Tryz.f110, Go.Proofs.Tryz.func110, by kernel_rfl⟩
/- (*rollbook/free.List).Copy -/
def A_free_List_Copyr0 : List AOper := [
    ⟨(some 2), .mov (.const (.ptr none)), none⟩]
def A_free_List_Copyr1 : List AOper := [
    ⟨(some 3), .mov (.tmp 0), none⟩,
    ⟨(some 4), .nileq .ptr false (.tmp 3) (.const (.ptr none)), none⟩]
def A_free_List_Copyr2 : List AOper := [
    ⟨(some 2), .mov (.const (.ptr none)), none⟩]
def A_free_List_Copyr3 : List AOper := [
    ⟨(some 5), .mov (.tmp 0), none⟩,
    ⟨(some 6), .nilck (.tmp 5), none⟩,
    ⟨(some 7), .fadr 0 (.tmp 6), none⟩,
    ⟨(some 8), .load false 1 (.tmp 7), none⟩,
    ⟨(some 9), .call 102 [(.tmp 8)], none⟩,
    ⟨(some 10), .mov (.tmp 0), none⟩,
    ⟨(some 11), .nilck (.tmp 10), none⟩,
    ⟨(some 12), .fadr 1 (.tmp 11), none⟩,
    ⟨(some 13), .load true 512 (.tmp 12), none⟩,
    ⟨(some 14), .build [.slice none 0 0, .bool false, .bool false, .bool false, .bool false, .bool false, .bool false, .bool false, .bool false, .bool false, .bool false, .bool false, .bool false, .bool false, .bool false, .bool false, .bool false, .bool false, .bool false, .bool false, .bool false, .bool false, .bool false, .bool false, .bool false, .bool false, .bool false, .bool false, .bool false, .bool false, .bool false, .bool false, .bool false, .bool false, .bool false, .bool false, .bool false, .bool false, .bool false, .bool false, .bool false, .bool false, .bool false, .bool false, .bool false, .bool false, .bool false, .bool false, .bool false, .bool false, .bool false, .bool false, .bool false, .bool false, .bool false, .bool false, .bool false, .bool false, .bool false, .bool false, .bool false, .bool false, .bool false, .bool false, .bool false, .bool false, .bool false, .bool false, .bool false, .bool false, .bool false, .bool false, .bool false, .bool false, .bool false, .bool false, .bool false, .bool false, .bool false, .bool false, .bool false, .bool false, .bool false, .bool false, .bool false, .bool false, .bool false, .bool false, .bool false, .bool false, .bool false, .bool false, .bool false, .bool false, .bool false, .bool false, .bool false, .bool false, .bool false, .bool false, .bool false, .bool false, .bool false, .bool false, .bool false, .bool false, .bool false, .bool false, .bool false, .bool false, .bool false, .bool false, .bool false, .bool false, .bool false, .bool false, .bool false, .bool false, .bool false, .bool false, .bool false, .bool false, .bool false, .bool false, .bool false, .bool false, .bool false, .bool false, .bool false, .bool false, .bool false, .bool false, .bool false, .bool false, .bool false, .bool false, .bool false, .bool false, .bool false, .bool false, .bool false, .bool false, .bool false, .bool false, .bool false, .bool false, .bool false, .bool false, .bool false, .bool false, .bool false, .bool false, .bool false, .bool false, .bool false, .bool false, .bool false, .bool false, .bool false, .bool false, .bool false, .bool false, .bool false, .bool false, .bool false, .bool false, .bool false, .bool false, .bool false, .bool false, .bool false, .bool false, .bool false, .bool false, .bool false, .bool false, .bool false, .bool false, .bool false, .bool false, .bool false, .bool false, .bool false, .bool false, .bool false, .bool false, .bool false, .bool false, .bool false, .bool false, .bool false, .bool false, .bool false, .bool false, .bool false, .bool false, .bool false, .bool false, .bool false, .bool false, .bool false, .bool false, .bool false, .bool false, .bool false, .bool false, .bool false, .bool false, .bool false, .bool false, .bool false, .bool false, .bool false, .bool false, .bool false, .bool false, .bool false, .bool false, .bool false, .bool false, .bool false, .bool false, .bool false, .bool false, .bool false, .bool false, .bool false, .bool false, .bool false, .bool false, .bool false, .bool false, .bool false, .bool false, .bool false, .bool false, .bool false, .bool false, .bool false, .bool false, .bool false, .bool false, .bool false, .bool false, .bool false, .bool false, .bool false, .bool false, .bool false, .bool false, .bool false, .bool false, .bool false, .bool false, .bool false, .bool false, .bool false, .bool false, .bool false, .bool false, .bool false, .bool false, .bool false, .bool false, .bool false, .bool false, .bool false, .bool false, .bool false, .bool false, .bool false, .bool false, .bool false, .bool false, .bool false, .bool false, .bool false, .bool false, .bool false, .bool false, .bool false, .bool false, .bool false, .bool false, .bool false, .bool false, .bool false, .bool false, .bool false, .bool false, .bool false, .bool false, .bool false, .bool false, .bool false, .bool false, .bool false, .bool false, .bool false, .bool false, .bool false, .bool false, .bool false, .bool false, .bool false, .bool false, .bool false, .bool false, .bool false, .bool false, .bool false, .bool false, .bool false, .bool false, .bool false, .bool false, .bool false, .bool false, .bool false, .bool false, .bool false, .bool false, .bool false, .bool false, .bool false, .bool false, .bool false, .bool false, .bool false, .bool false, .bool false, .bool false, .bool false, .bool false, .bool false, .bool false, .bool false, .bool false, .bool false, .bool false, .bool false, .bool false, .bool false, .bool false, .bool false, .bool false, .bool false, .bool false, .bool false, .bool false, .bool false, .bool false, .bool false, .bool false, .bool false, .bool false, .bool false, .bool false, .bool false, .bool false, .bool false, .bool false, .bool false, .bool false, .bool false, .bool false, .bool false, .bool false, .bool false, .bool false, .bool false, .bool false, .bool false, .bool false, .bool false, .bool false, .bool false, .bool false, .bool false, .bool false, .bool false, .bool false, .bool false, .bool false, .bool false, .bool false, .bool false, .bool false, .bool false, .bool false, .bool false, .bool false, .bool false, .bool false, .bool false, .bool false, .bool false, .bool false, .bool false, .bool false, .bool false, .bool false, .bool false, .bool false, .bool false, .bool false, .bool false, .bool false, .bool false, .bool false, .bool false, .bool false, .bool false, .bool false, .bool false, .bool false, .bool false, .bool false, .bool false, .bool false, .bool false, .bool false, .bool false, .bool false, .bool false, .bool false, .bool false, .bool false, .bool false, .bool false, .bool false, .bool false, .bool false, .bool false, .bool false, .bool false, .bool false, .bool false, .bool false, .bool false, .bool false, .bool false, .bool false, .bool false, .bool false, .bool false, .bool false, .bool false, .bool false, .bool false, .bool false, .bool false, .bool false, .bool false, .bool false, .bool false, .bool false, .bool false, .bool false, .bool false, .bool false, .bool false, .bool false, .bool false, .bool false, .bool false, .bool false, .bool false, .bool false, .bool false, .bool false, .bool false, .bool false, .bool false, .bool false, .bool false, .bool false, .bool false, .bool false, .bool false, .bool false, .bool false, .bool false, .bool false, .bool false, .bool false, .bool false, .bool false, .bool false, .bool false, .bool false, .bool false, .bool false, .bool false, .bool false, .bool false, .bool false, .bool false, .bool false, .bool false, .bool false, .bool false, .bool false, .bool false, .bool false, .bool false, .bool false, .bool false, .bool false, .bool false, .bool false, .bool false, .bool false] [(0, 1, (.tmp 9)), (1, 512, (.tmp 13))], none⟩,
    ⟨(some 15), .box (.tmp 14) 513, none⟩,
    ⟨(some 2), .mov (.tmp 15), none⟩]
def A_free_List_Copy : AFn := ⟨16, 1, [.tmp 2], (.seq (.region A_free_List_Copyr0) (.seq (.seq (.region A_free_List_Copyr1) (.cond (.tmp 4) (.seq (.region A_free_List_Copyr2) .ret) .skip)) (.seq (.draw A_free_List_Copyr3 [0, 1, 3, 7, 15, 0, 32, 96, 224, 511, 1023, 2047]) .ret)))⟩
theorem fn_free_List_Copy : FnIs Go.Proofs.Tryz.prog 44 A_free_List_Copy := ⟨by kernel_rfl, Go.Proofs.Tryz.f44, Go.Proofs.Tryz.func44, by kernel_rfl⟩
/- (*rollbook/kv.Snap).may -/
def A_kv_Snap_mayr0 : List AOper := [
    ⟨(some 2), .mov (.const (.int .i64 0)), none⟩]
def A_kv_Snap_mayr1 : List AOper := [
    ⟨(some 4), .mov (.tmp 0), none⟩,
    ⟨(some 5), .nileq .ptr false (.tmp 4) (.const (.ptr none)), none⟩,
    ⟨(some 3), .mov (.tmp 5), none⟩]
def A_kv_Snap_mayr2 : List AOper := [
    ⟨(some 2), .mov (.const (.int .i64 2)), none⟩]
def A_kv_Snap_mayr3 : List AOper := [
    ⟨(some 7), .mov (.tmp 0), none⟩,
    ⟨(some 8), .nilck (.tmp 7), none⟩,
    ⟨(some 9), .fadr 8 (.tmp 8), none⟩,
    ⟨(some 10), .load false 1 (.tmp 9), none⟩,
    ⟨(some 6), .mov (.tmp 10), none⟩]
def A_kv_Snap_mayr4 : List AOper := [
    ⟨(some 2), .mov (.const (.int .i64 12)), none⟩]
def A_kv_Snap_mayc5 : AC := (.block 0 (.seq (.region A_kv_Snap_mayr1) (.cond (.tmp 3) (.seq (.region A_kv_Snap_mayr2) .ret) (.seq (.region A_kv_Snap_mayr3) (.cond (.tmp 6) (.seq (.region A_kv_Snap_mayr4) .ret) .skip)))))
def A_kv_Snap_mayr6 : List AOper := [
    ⟨(some 2), .mov (.const (.int .i64 0)), none⟩]
def A_kv_Snap_may : AFn := ⟨11, 1, [.tmp 2], (.seq (.region A_kv_Snap_mayr0) (.seq A_kv_Snap_mayc5 (.seq (.region A_kv_Snap_mayr6) .ret)))⟩
theorem fn_kv_Snap_may : FnIs Go.Proofs.Tryz.prog 57 A_kv_Snap_may := ⟨by kernel_rfl, Go.Proofs.Tryz.f57, Go.Proofs.Tryz.func57, by kernel_rfl⟩
/- rollbook/tree.Value -/
def A_tree_Valuer0 : List AOper := [
    ⟨(some 3), .box (.tmp 1) 5, none⟩,
    ⟨(some 4), .mov (.const (.str [])), none⟩,
    ⟨(some 5), .mov (.const (.int .i64 0)), none⟩]
def A_tree_Valuer1 : List AOper := [
    ⟨(some 9), .fadr 2 (.tmp 3), none⟩,
    ⟨(some 10), .load false 1 (.tmp 9), none⟩,
    ⟨(some 11), .ibin .eql (.tmp 10) (.const (.int .i64 0)), none⟩]
def A_tree_Valuer2 : List AOper := [
    ⟨(some 12), .fadr 1 (.tmp 3), none⟩,
    ⟨(some 13), .load false 1 (.tmp 12), none⟩,
    ⟨(some 4), .mov (.tmp 13), none⟩,
    ⟨(some 5), .mov (.const (.int .i64 0)), none⟩]
def A_tree_Valuer3 : List AOper := [
    ⟨(some 15), .mov (.tmp 0), none⟩,
    ⟨(some 16), .load true 5 (.tmp 3), none⟩,
    ⟨(some 17), .call 166 [(.tmp 15), (.tmp 16)], none⟩,
    ⟨(some 14), .mov (.tmp 17), none⟩,
    ⟨(some 18), .extr (.tmp 14) 0, none⟩,
    ⟨(some 19), .extr (.tmp 14) 1, none⟩,
    ⟨(some 20), .extr (.tmp 14) 2, none⟩,
    ⟨(some 6), .mov (.tmp 18), none⟩,
    ⟨(some 7), .mov (.tmp 19), none⟩,
    ⟨(some 8), .mov (.tmp 20), none⟩]
def A_tree_Valuer4 : List AOper := [
    ⟨(some 21), .mov (.tmp 7), none⟩,
    ⟨(some 22), .mov (.tmp 8), none⟩,
    ⟨(some 4), .mov (.tmp 21), none⟩,
    ⟨(some 5), .mov (.tmp 22), none⟩]
def A_tree_Value : AFn := ⟨23, 2, [.tmp 4, .tmp 5], (.seq (.region A_tree_Valuer0) (.seq (.seq (.region A_tree_Valuer1) (.cond (.tmp 11) (.seq (.region A_tree_Valuer2) .ret) .skip)) (.seq (.region A_tree_Valuer3) (.seq (.region A_tree_Valuer4) .ret))))⟩
theorem fn_tree_Value : FnIs Go.Proofs.Tryz.prog 122 A_tree_Value := ⟨by kernel_rfl, Go.Proofs.Tryz.f122, Go.Proofs.Tryz.func122, by kernel_rfl⟩
/- math/bits.Len64 -/
def A_math_bits_Len64r0 : List AOper := [
    ⟨(some 2), .mov (.const (.int .i64 0)), none⟩]
def A_math_bits_Len64r1 : List AOper := [
    ⟨(some 3), .mov (.tmp 0), none⟩,
    ⟨(some 4), .ibin .geq (.tmp 3) (.const (.int .u64 4294967296)), none⟩]
def A_math_bits_Len64r2 : List AOper := [
    ⟨(some 5), .mov (.tmp 0), none⟩,
    ⟨(some 6), .ibin .shr (.tmp 5) (.const (.int .u64 32)), none⟩,
    ⟨(some 0), .mov (.tmp 6), none⟩]
def A_math_bits_Len64r3 : List AOper := [
    ⟨(some 2), .mov (.const (.int .i64 32)), none⟩]
def A_math_bits_Len64r4 : List AOper := [
    ⟨(some 7), .mov (.tmp 0), none⟩,
    ⟨(some 8), .ibin .geq (.tmp 7) (.const (.int .u64 65536)), none⟩]
def A_math_bits_Len64r5 : List AOper := [
    ⟨(some 9), .mov (.tmp 0), none⟩,
    ⟨(some 10), .ibin .shr (.tmp 9) (.const (.int .u64 16)), none⟩,
    ⟨(some 0), .mov (.tmp 10), none⟩]
def A_math_bits_Len64r6 : List AOper := [
    ⟨(some 11), .mov (.tmp 2), none⟩,
    ⟨(some 12), .ibin .add (.tmp 11) (.const (.int .i64 16)), none⟩,
    ⟨(some 2), .mov (.tmp 12), none⟩]
def A_math_bits_Len64r7 : List AOper := [
    ⟨(some 13), .mov (.tmp 0), none⟩,
    ⟨(some 14), .ibin .geq (.tmp 13) (.const (.int .u64 256)), none⟩]
def A_math_bits_Len64r8 : List AOper := [
    ⟨(some 15), .mov (.tmp 0), none⟩,
    ⟨(some 16), .ibin .shr (.tmp 15) (.const (.int .u64 8)), none⟩,
    ⟨(some 0), .mov (.tmp 16), none⟩]
def A_math_bits_Len64r9 : List AOper := [
    ⟨(some 17), .mov (.tmp 2), none⟩,
    ⟨(some 18), .ibin .add (.tmp 17) (.const (.int .i64 8)), none⟩,
    ⟨(some 2), .mov (.tmp 18), none⟩]
def A_math_bits_Len64r10 : List AOper := [
    ⟨(some 19), .mov (.tmp 2), none⟩,
    ⟨(some 20), .mov (.tmp 0), none⟩,
    ⟨(some 21), .conv .u8 (.tmp 20), none⟩,
    ⟨(some 22), .ixS (.const (.str [0, 1, 2, 2, 3, 3, 3, 3, 4, 4, 4, 4, 4, 4, 4, 4, 5, 5, 5, 5, 5, 5, 5, 5, 5, 5, 5, 5, 5, 5, 5, 5, 6, 6, 6, 6, 6, 6, 6, 6, 6, 6, 6, 6, 6, 6, 6, 6, 6, 6, 6, 6, 6, 6, 6, 6, 6, 6, 6, 6, 6, 6, 6, 6, 7, 7, 7, 7, 7, 7, 7, 7, 7, 7, 7, 7, 7, 7, 7, 7, 7, 7, 7, 7, 7, 7, 7, 7, 7, 7, 7, 7, 7, 7, 7, 7, 7, 7, 7, 7, 7, 7, 7, 7, 7, 7, 7, 7, 7, 7, 7, 7, 7, 7, 7, 7, 7, 7, 7, 7, 7, 7, 7, 7, 7, 7, 7, 7, 8, 8, 8, 8, 8, 8, 8, 8, 8, 8, 8, 8, 8, 8, 8, 8, 8, 8, 8, 8, 8, 8, 8, 8, 8, 8, 8, 8, 8, 8, 8, 8, 8, 8, 8, 8, 8, 8, 8, 8, 8, 8, 8, 8, 8, 8, 8, 8, 8, 8, 8, 8, 8, 8, 8, 8, 8, 8, 8, 8, 8, 8, 8, 8, 8, 8, 8, 8, 8, 8, 8, 8, 8, 8, 8, 8, 8, 8, 8, 8, 8, 8, 8, 8, 8, 8, 8, 8, 8, 8, 8, 8, 8, 8, 8, 8, 8, 8, 8, 8, 8, 8, 8, 8, 8, 8, 8, 8, 8, 8, 8, 8, 8, 8, 8, 8, 8, 8, 8, 8, 8, 8, 8, 8, 8, 8, 8, 8])) (.tmp 21), none⟩,
    ⟨(some 23), .conv .i64 (.tmp 22), none⟩,
    ⟨(some 24), .ibin .add (.tmp 19) (.tmp 23), none⟩,
    ⟨(some 2), .mov (.tmp 24), none⟩]
def A_math_bits_Len64 : AFn := ⟨25, 1, [.tmp 2], (.seq (.region A_math_bits_Len64r0) (.seq (.seq (.region A_math_bits_Len64r1) (.cond (.tmp 4) (.seq (.region A_math_bits_Len64r2) (.region A_math_bits_Len64r3)) .skip)) (.seq (.seq (.region A_math_bits_Len64r4) (.cond (.tmp 8) (.seq (.region A_math_bits_Len64r5) (.region A_math_bits_Len64r6)) .skip)) (.seq (.seq (.region A_math_bits_Len64r7) (.cond (.tmp 14) (.seq (.region A_math_bits_Len64r8) (.region A_math_bits_Len64r9)) .skip)) (.seq (.region A_math_bits_Len64r10) .ret)))))⟩
theorem fn_math_bits_Len64 : FnIs Go.Proofs.Tryz.prog 200 A_math_bits_Len64 := ⟨by kernel_rfl, Go.Proofs.Tryz.f200, Go.Proofs.Tryz.func200, by kernel_rfl⟩
/- (*rollbook/readers.Table).Oldest -/
def A_readers_Table_Oldestr0 : List AOper := [
    ⟨(some 4), .mov (.const (.int .i64 0)), none⟩]
def A_readers_Table_Oldestr1 : List AOper := [
    ⟨(some 6), .mov (.tmp 0), none⟩,
    ⟨(some 7), .call 62 [(.tmp 6)], none⟩,
    ⟨(some 5), .mov (.tmp 7), none⟩]
def A_readers_Table_Oldestr2 : List AOper := [
    ⟨(some 8), .mov (.tmp 5), none⟩,
    ⟨(some 9), .len .sl (.tmp 8), none⟩,
    ⟨(some 10), .ibin .gtr (.tmp 9) (.const (.int .i64 0)), none⟩]
def A_readers_Table_Oldestr3 : List AOper := [
    ⟨(some 11), .mov (.tmp 1), none⟩,
    ⟨(some 12), .mov (.tmp 5), none⟩,
    ⟨(some 13), .iadrS 1 (.tmp 12) (.const (.int .i64 0)), none⟩,
    ⟨(some 14), .load false 1 (.tmp 13), none⟩,
    ⟨(some 15), .mnmx false (.tmp 11) [(.tmp 14)], none⟩,
    ⟨(some 4), .mov (.tmp 15), none⟩]
def A_readers_Table_Oldestr4 : List AOper := [
    ⟨(some 16), .mov (.tmp 1), none⟩,
    ⟨(some 4), .mov (.tmp 16), none⟩]
def A_readers_Table_Oldest : AFn := ⟨17, 2, [.tmp 4], (.seq (.region A_readers_Table_Oldestr0) (.seq (.seq (.region A_readers_Table_Oldestr1) (.seq (.region A_readers_Table_Oldestr2) (.cond (.tmp 10) (.seq (.region A_readers_Table_Oldestr3) .ret) .skip))) (.seq (.region A_readers_Table_Oldestr4) .ret)))⟩
theorem fn_readers_Table_Oldest : FnIs Go.Proofs.Tryz.prog 170 A_readers_Table_Oldest := ⟨by kernel_rfl, Go.Proofs.Tryz.f170, Go.Proofs.Tryz.func170, by kernel_rfl⟩
/- (*strings.Builder).String -/
def A_strings_Builder_Stringr0 : List AOper := [
    ⟨(some 2), .mov (.const (.str [])), none⟩]
def A_strings_Builder_Stringr1 : List AOper := [
    ⟨(some 3), .mov (.tmp 0), none⟩,
    ⟨(some 4), .nilck (.tmp 3), none⟩,
    ⟨(some 5), .fadr 1 (.tmp 4), none⟩,
    ⟨(some 6), .load false 1 (.tmp 5), none⟩,
    ⟨(some 7), .usd (.tmp 6), none⟩,
    ⟨(some 8), .mov (.tmp 0), none⟩,
    ⟨(some 9), .nilck (.tmp 8), none⟩,
    ⟨(some 10), .fadr 1 (.tmp 9), none⟩,
    ⟨(some 11), .load false 1 (.tmp 10), none⟩,
    ⟨(some 12), .len .sl (.tmp 11), none⟩,
    ⟨(some 13), .ustr 5 (.tmp 7) (.tmp 12), none⟩,
    ⟨(some 2), .mov (.tmp 13), none⟩]
def A_strings_Builder_String : AFn := ⟨14, 1, [.tmp 2], (.seq (.region A_strings_Builder_Stringr0) (.seq (.draw A_strings_Builder_Stringr1 [0, 1, 3, 7, 15, 0, 32, 96, 224, 480, 1023, 2047]) .ret))⟩
theorem fn_strings_Builder_String : FnIs Go.Proofs.Tryz.prog 207 A_strings_Builder_String := ⟨by kernel_rfl, Go.Proofs.Tryz.f207, Go.Proofs.Tryz.func207, by kernel_rfl⟩
/- (*rollbook/kv.Txn).end -/
def A_kv_Txn_endr0 : List AOper := [
    ⟨(some 4), .mov (.const (.int .i64 0)), none⟩]
def A_kv_Txn_endr1 : List AOper := [
    ⟨(some 5), .mov (.tmp 1), none⟩,
    ⟨(some 6), .ibin .neq (.tmp 5) (.const (.int .i64 0)), none⟩]
def A_kv_Txn_endr2 : List AOper := [
    ⟨(some 7), .mov (.tmp 0), none⟩,
    ⟨(some 8), .nilck (.tmp 7), none⟩,
    ⟨(some 9), .fadr 13 (.tmp 8), none⟩,
    ⟨none, .store 1 (.tmp 9) (.const (.bool true)), none⟩]
def A_kv_Txn_endr3 : List AOper := [
    ⟨(some 10), .mov (.tmp 1), none⟩,
    ⟨(some 4), .mov (.tmp 10), none⟩]
def A_kv_Txn_end : AFn := ⟨11, 2, [.tmp 4], (.seq (.region A_kv_Txn_endr0) (.seq (.seq (.region A_kv_Txn_endr1) (.cond (.tmp 6) (.region A_kv_Txn_endr2) .skip)) (.seq (.region A_kv_Txn_endr3) .ret)))⟩
theorem fn_kv_Txn_end : FnIs Go.Proofs.Tryz.prog 47 A_kv_Txn_end := ⟨by kernel_rfl, Go.Proofs.Tryz.f47, Go.Proofs.Tryz.func47, by kernel_rfl⟩
/- strings.HasPrefix -/
def A_strings_HasPrefixr0 : List AOper := [
    ⟨(some 4), .mov (.const (.bool false)), none⟩]
def A_strings_HasPrefixr1 : List AOper := [
    ⟨(some 5), .mov (.tmp 0), none⟩,
    ⟨(some 6), .mov (.tmp 1), none⟩,
    ⟨(some 7), .call 246 [(.tmp 5), (.tmp 6)], none⟩,
    ⟨(some 4), .mov (.tmp 7), none⟩]
def A_strings_HasPrefix : AFn := ⟨8, 2, [.tmp 4], (.seq (.region A_strings_HasPrefixr0) (.seq (.region A_strings_HasPrefixr1) .ret))⟩
theorem fn_strings_HasPrefix : FnIs Go.Proofs.Tryz.prog 210 A_strings_HasPrefix := ⟨by kernel_rfl, Go.Proofs.Tryz.f210, Go.Proofs.Tryz.func210, by kernel_rfl⟩
/- rollbook/rollbooklaw11.name -/
def A_rollbooklaw11_namer0 : List AOper := [
    ⟨(some 2), .mov (.const (.str [])), none⟩]
def A_rollbooklaw11_namer1 : List AOper := [
    ⟨(some 3), .mov (.tmp 0), none⟩,
    ⟨(some 4), .ibin .and (.tmp 3) (.const (.int .i64 3)), none⟩]
def A_rollbooklaw11_namer2 : List AOper := [
    ⟨(some 6), .ibin .eql (.tmp 4) (.const (.int .i64 0)), none⟩,
    ⟨(some 5), .mov (.tmp 6), none⟩]
def A_rollbooklaw11_namer3 : List AOper := [
    ⟨(some 2), .mov (.const (.str [97])), none⟩]
def A_rollbooklaw11_namer4 : List AOper := [
    ⟨(some 8), .ibin .eql (.tmp 4) (.const (.int .i64 1)), none⟩,
    ⟨(some 7), .mov (.tmp 8), none⟩]
def A_rollbooklaw11_namer5 : List AOper := [
    ⟨(some 2), .mov (.const (.str [98, 98])), none⟩]
def A_rollbooklaw11_namer6 : List AOper := [
    ⟨(some 10), .ibin .eql (.tmp 4) (.const (.int .i64 2)), none⟩,
    ⟨(some 9), .mov (.tmp 10), none⟩]
def A_rollbooklaw11_namer7 : List AOper := [
    ⟨(some 2), .mov (.const (.str [])), none⟩]
def A_rollbooklaw11_namec8 : AC := (.block 0 (.seq (.region A_rollbooklaw11_namer2) (.cond (.tmp 5) (.seq (.region A_rollbooklaw11_namer3) .ret) (.seq (.region A_rollbooklaw11_namer4) (.cond (.tmp 7) (.seq (.region A_rollbooklaw11_namer5) .ret) (.seq (.region A_rollbooklaw11_namer6) (.cond (.tmp 9) (.seq (.region A_rollbooklaw11_namer7) .ret) .skip)))))))
def A_rollbooklaw11_namer9 : List AOper := [
    ⟨(some 2), .mov (.const (.str [99, 99, 99])), none⟩]
def A_rollbooklaw11_name : AFn := ⟨11, 1, [.tmp 2], (.seq (.region A_rollbooklaw11_namer0) (.seq (.seq (.region A_rollbooklaw11_namer1) A_rollbooklaw11_namec8) (.seq (.region A_rollbooklaw11_namer9) .ret)))⟩
theorem fn_rollbooklaw11_name : FnIs Go.Proofs.Tryz.prog 126 A_rollbooklaw11_name := ⟨by kernel_rfl, Go.Proofs.Tryz.f126, Go.Proofs.Tryz.func126, by kernel_rfl⟩
/- slices.pdqsortOrdered[int] -/
def A_slices_pdqsortOrdered_intr0 : List AOper := [
    ⟨(some 8), .mov (.const (.bool true)), none⟩]
def A_slices_pdqsortOrdered_intr1 : List AOper := [
    ⟨(some 9), .mov (.const (.bool true)), none⟩]
def A_slices_pdqsortOrdered_intr2 : List AOper := [
    ⟨(some 19), .mov (.tmp 2), none⟩,
    ⟨(some 20), .mov (.tmp 1), none⟩,
    ⟨(some 21), .ibin .sub (.tmp 19) (.tmp 20), none⟩,
    ⟨(some 10), .mov (.tmp 21), none⟩]
def A_slices_pdqsortOrdered_intr3 : List AOper := [
    ⟨(some 22), .mov (.tmp 10), none⟩,
    ⟨(some 23), .ibin .leq (.tmp 22) (.const (.int .i64 12)), none⟩]
def A_slices_pdqsortOrdered_intr4 : List AOper := [
    ⟨(some 24), .mov (.tmp 0), none⟩,
    ⟨(some 25), .mov (.tmp 1), none⟩,
    ⟨(some 26), .mov (.tmp 2), none⟩,
    ⟨(some 27), .call 190 [(.tmp 24), (.tmp 25), (.tmp 26)], none⟩]
def A_slices_pdqsortOrdered_intr5 : List AOper := [
    ⟨(some 28), .mov (.tmp 3), none⟩,
    ⟨(some 29), .ibin .eql (.tmp 28) (.const (.int .i64 0)), none⟩]
def A_slices_pdqsortOrdered_intr6 : List AOper := [
    ⟨(some 30), .mov (.tmp 0), none⟩,
    ⟨(some 31), .mov (.tmp 1), none⟩,
    ⟨(some 32), .mov (.tmp 2), none⟩,
    ⟨(some 33), .call 191 [(.tmp 30), (.tmp 31), (.tmp 32)], none⟩]
def A_slices_pdqsortOrdered_intr7 : List AOper := [
    ⟨(some 34), .mov (.tmp 8), none⟩,
    ⟨(some 35), .un .not (.tmp 34), none⟩]
def A_slices_pdqsortOrdered_intr8 : List AOper := [
    ⟨(some 36), .mov (.tmp 0), none⟩,
    ⟨(some 37), .mov (.tmp 1), none⟩,
    ⟨(some 38), .mov (.tmp 2), none⟩,
    ⟨(some 39), .call 192 [(.tmp 36), (.tmp 37), (.tmp 38)], none⟩]
def A_slices_pdqsortOrdered_intr9 : List AOper := [
    ⟨(some 40), .mov (.tmp 3), none⟩,
    ⟨(some 41), .ibin .sub (.tmp 40) (.const (.int .i64 1)), none⟩,
    ⟨(some 3), .mov (.tmp 41), none⟩]
def A_slices_pdqsortOrdered_intr10 : List AOper := [
    ⟨(some 43), .mov (.tmp 0), none⟩,
    ⟨(some 44), .mov (.tmp 1), none⟩,
    ⟨(some 45), .mov (.tmp 2), none⟩,
    ⟨(some 46), .call 193 [(.tmp 43), (.tmp 44), (.tmp 45)], none⟩,
    ⟨(some 42), .mov (.tmp 46), none⟩,
    ⟨(some 47), .extr (.tmp 42) 0, none⟩,
    ⟨(some 48), .extr (.tmp 42) 1, none⟩,
    ⟨(some 11), .mov (.tmp 47), none⟩,
    ⟨(some 12), .mov (.tmp 48), none⟩]
def A_slices_pdqsortOrdered_intr11 : List AOper := [
    ⟨(some 49), .mov (.tmp 12), none⟩,
    ⟨(some 50), .ibin .eql (.tmp 49) (.const (.int .i64 2)), none⟩]
def A_slices_pdqsortOrdered_intr12 : List AOper := [
    ⟨(some 51), .mov (.tmp 0), none⟩,
    ⟨(some 52), .mov (.tmp 1), none⟩,
    ⟨(some 53), .mov (.tmp 2), none⟩,
    ⟨(some 54), .call 194 [(.tmp 51), (.tmp 52), (.tmp 53)], none⟩]
def A_slices_pdqsortOrdered_intr13 : List AOper := [
    ⟨(some 55), .mov (.tmp 2), none⟩,
    ⟨(some 56), .ibin .sub (.tmp 55) (.const (.int .i64 1)), none⟩,
    ⟨(some 57), .mov (.tmp 11), none⟩,
    ⟨(some 58), .mov (.tmp 1), none⟩,
    ⟨(some 59), .ibin .sub (.tmp 57) (.tmp 58), none⟩,
    ⟨(some 60), .ibin .sub (.tmp 56) (.tmp 59), none⟩,
    ⟨(some 11), .mov (.tmp 60), none⟩]
def A_slices_pdqsortOrdered_intr14 : List AOper := [
    ⟨(some 12), .mov (.const (.int .i64 1)), none⟩]
def A_slices_pdqsortOrdered_intr15 : List AOper := [
    ⟨(some 61), .mov (.tmp 8), none⟩,
    ⟨(some 62), .mov (.tmp 61), none⟩,
    ⟨(some 63), .mov (.tmp 9), (some (62, true))⟩,
    ⟨(some 64), .pick (.tmp 62) (.tmp 63) (.const (.bool false)), none⟩,
    ⟨(some 65), .mov (.tmp 64), none⟩,
    ⟨(some 66), .mov (.tmp 12), (some (65, true))⟩,
    ⟨(some 67), .ibin .eql (.tmp 66) (.const (.int .i64 1)), (some (65, true))⟩,
    ⟨(some 68), .pick (.tmp 65) (.tmp 67) (.const (.bool false)), none⟩]
def A_slices_pdqsortOrdered_intr16 : List AOper := [
    ⟨(some 69), .mov (.tmp 0), none⟩,
    ⟨(some 70), .mov (.tmp 1), none⟩,
    ⟨(some 71), .mov (.tmp 2), none⟩,
    ⟨(some 72), .call 195 [(.tmp 69), (.tmp 70), (.tmp 71)], none⟩]
def A_slices_pdqsortOrdered_intr17 : List AOper := [
    ⟨(some 73), .mov (.tmp 1), none⟩,
    ⟨(some 74), .ibin .gtr (.tmp 73) (.const (.int .i64 0)), none⟩,
    ⟨(some 75), .mov (.tmp 74), none⟩,
    ⟨(some 76), .mov (.tmp 0), (some (75, true))⟩,
    ⟨(some 77), .mov (.tmp 1), (some (75, true))⟩,
    ⟨(some 78), .ibin .sub (.tmp 77) (.const (.int .i64 1)), (some (75, true))⟩,
    ⟨(some 79), .iadrS 1 (.tmp 76) (.tmp 78), (some (75, true))⟩,
    ⟨(some 80), .load false 1 (.tmp 79), (some (75, true))⟩,
    ⟨(some 81), .mov (.tmp 0), (some (75, true))⟩,
    ⟨(some 82), .mov (.tmp 11), (some (75, true))⟩,
    ⟨(some 83), .iadrS 1 (.tmp 81) (.tmp 82), (some (75, true))⟩,
    ⟨(some 84), .load false 1 (.tmp 83), (some (75, true))⟩,
    ⟨(some 85), .call 196 [(.tmp 80), (.tmp 84)], (some (75, true))⟩,
    ⟨(some 86), .un .not (.tmp 85), (some (75, true))⟩,
    ⟨(some 87), .pick (.tmp 75) (.tmp 86) (.const (.bool false)), none⟩]
def A_slices_pdqsortOrdered_intr18 : List AOper := [
    ⟨(some 88), .mov (.tmp 0), none⟩,
    ⟨(some 89), .mov (.tmp 1), none⟩,
    ⟨(some 90), .mov (.tmp 2), none⟩,
    ⟨(some 91), .mov (.tmp 11), none⟩,
    ⟨(some 92), .call 197 [(.tmp 88), (.tmp 89), (.tmp 90), (.tmp 91)], none⟩,
    ⟨(some 13), .mov (.tmp 92), none⟩]
def A_slices_pdqsortOrdered_intr19 : List AOper := [
    ⟨(some 93), .mov (.tmp 13), none⟩,
    ⟨(some 1), .mov (.tmp 93), none⟩]
def A_slices_pdqsortOrdered_intr20 : List AOper := [
    ⟨(some 95), .mov (.tmp 0), none⟩,
    ⟨(some 96), .mov (.tmp 1), none⟩,
    ⟨(some 97), .mov (.tmp 2), none⟩,
    ⟨(some 98), .mov (.tmp 11), none⟩,
    ⟨(some 99), .call 198 [(.tmp 95), (.tmp 96), (.tmp 97), (.tmp 98)], none⟩,
    ⟨(some 94), .mov (.tmp 99), none⟩,
    ⟨(some 100), .extr (.tmp 94) 0, none⟩,
    ⟨(some 101), .extr (.tmp 94) 1, none⟩,
    ⟨(some 14), .mov (.tmp 100), none⟩,
    ⟨(some 15), .mov (.tmp 101), none⟩]
def A_slices_pdqsortOrdered_intr21 : List AOper := [
    ⟨(some 102), .mov (.tmp 15), none⟩,
    ⟨(some 9), .mov (.tmp 102), none⟩]
def A_slices_pdqsortOrdered_intr22 : List AOper := [
    ⟨(some 103), .mov (.tmp 14), none⟩,
    ⟨(some 104), .mov (.tmp 1), none⟩,
    ⟨(some 105), .ibin .sub (.tmp 103) (.tmp 104), none⟩,
    ⟨(some 106), .mov (.tmp 2), none⟩,
    ⟨(some 107), .mov (.tmp 14), none⟩,
    ⟨(some 108), .ibin .sub (.tmp 106) (.tmp 107), none⟩,
    ⟨(some 16), .mov (.tmp 105), none⟩,
    ⟨(some 17), .mov (.tmp 108), none⟩]
def A_slices_pdqsortOrdered_intr23 : List AOper := [
    ⟨(some 109), .mov (.tmp 10), none⟩,
    ⟨(some 110), .ibin .quo (.tmp 109) (.const (.int .i64 8)), none⟩,
    ⟨(some 18), .mov (.tmp 110), none⟩]
def A_slices_pdqsortOrdered_intr24 : List AOper := [
    ⟨(some 111), .mov (.tmp 16), none⟩,
    ⟨(some 112), .mov (.tmp 17), none⟩,
    ⟨(some 113), .ibin .lss (.tmp 111) (.tmp 112), none⟩]
def A_slices_pdqsortOrdered_intr25 : List AOper := [
    ⟨(some 114), .mov (.tmp 16), none⟩,
    ⟨(some 115), .mov (.tmp 18), none⟩,
    ⟨(some 116), .ibin .geq (.tmp 114) (.tmp 115), none⟩,
    ⟨(some 8), .mov (.tmp 116), none⟩]
def A_slices_pdqsortOrdered_intr26 : List AOper := [
    ⟨(some 117), .mov (.tmp 0), none⟩,
    ⟨(some 118), .mov (.tmp 1), none⟩,
    ⟨(some 119), .mov (.tmp 14), none⟩,
    ⟨(some 120), .mov (.tmp 3), none⟩,
    ⟨(some 121), .call 141 [(.tmp 117), (.tmp 118), (.tmp 119), (.tmp 120)], none⟩]
def A_slices_pdqsortOrdered_intr27 : List AOper := [
    ⟨(some 122), .mov (.tmp 14), none⟩,
    ⟨(some 123), .ibin .add (.tmp 122) (.const (.int .i64 1)), none⟩,
    ⟨(some 1), .mov (.tmp 123), none⟩]
def A_slices_pdqsortOrdered_intr28 : List AOper := [
    ⟨(some 124), .mov (.tmp 17), none⟩,
    ⟨(some 125), .mov (.tmp 18), none⟩,
    ⟨(some 126), .ibin .geq (.tmp 124) (.tmp 125), none⟩,
    ⟨(some 8), .mov (.tmp 126), none⟩]
def A_slices_pdqsortOrdered_intr29 : List AOper := [
    ⟨(some 127), .mov (.tmp 0), none⟩,
    ⟨(some 128), .mov (.tmp 14), none⟩,
    ⟨(some 129), .ibin .add (.tmp 128) (.const (.int .i64 1)), none⟩,
    ⟨(some 130), .mov (.tmp 2), none⟩,
    ⟨(some 131), .mov (.tmp 3), none⟩,
    ⟨(some 132), .call 141 [(.tmp 127), (.tmp 129), (.tmp 130), (.tmp 131)], none⟩]
def A_slices_pdqsortOrdered_intr30 : List AOper := [
    ⟨(some 133), .mov (.tmp 14), none⟩,
    ⟨(some 2), .mov (.tmp 133), none⟩]
def A_slices_pdqsortOrdered_intc31 : AC := (.block 1 (.seq (.region A_slices_pdqsortOrdered_intr2) (.seq (.seq (.region A_slices_pdqsortOrdered_intr3) (.cond (.tmp 23) (.seq (.region A_slices_pdqsortOrdered_intr4) .ret) .skip)) (.seq (.seq (.region A_slices_pdqsortOrdered_intr5) (.cond (.tmp 29) (.seq (.region A_slices_pdqsortOrdered_intr6) .ret) .skip)) (.seq (.seq (.region A_slices_pdqsortOrdered_intr7) (.cond (.tmp 35) (.seq (.region A_slices_pdqsortOrdered_intr8) (.region A_slices_pdqsortOrdered_intr9)) .skip)) (.seq (.region A_slices_pdqsortOrdered_intr10) (.seq (.seq (.region A_slices_pdqsortOrdered_intr11) (.cond (.tmp 50) (.seq (.region A_slices_pdqsortOrdered_intr12) (.seq (.region A_slices_pdqsortOrdered_intr13) (.region A_slices_pdqsortOrdered_intr14))) .skip)) (.seq (.seq (.region A_slices_pdqsortOrdered_intr15) (.cond (.tmp 68) (.seq (.region A_slices_pdqsortOrdered_intr16) (.cond (.tmp 72) .ret .skip)) .skip)) (.seq (.seq (.draw A_slices_pdqsortOrdered_intr17 [0, 1, 3, 7, 7, 23, 63, 127, 7, 7, 775, 1799, 4095, 8191, 16383]) (.cond (.tmp 87) (.seq (.region A_slices_pdqsortOrdered_intr18) (.seq (.region A_slices_pdqsortOrdered_intr19) (.exit 1))) .skip)) (.seq (.region A_slices_pdqsortOrdered_intr20) (.seq (.region A_slices_pdqsortOrdered_intr21) (.seq (.region A_slices_pdqsortOrdered_intr22) (.seq (.region A_slices_pdqsortOrdered_intr23) (.seq (.region A_slices_pdqsortOrdered_intr24) (.cond (.tmp 113) (.seq (.region A_slices_pdqsortOrdered_intr25) (.seq (.region A_slices_pdqsortOrdered_intr26) (.region A_slices_pdqsortOrdered_intr27))) (.seq (.region A_slices_pdqsortOrdered_intr28) (.seq (.region A_slices_pdqsortOrdered_intr29) (.region A_slices_pdqsortOrdered_intr30))))))))))))))))))
def A_slices_pdqsortOrdered_intl32 : AC := A_slices_pdqsortOrdered_intc31
def A_slices_pdqsortOrdered_intc33 : AC := (.block 0 (.loop A_slices_pdqsortOrdered_intl32))
def A_slices_pdqsortOrdered_int : AFn := ⟨134, 4, [], (.seq (.region A_slices_pdqsortOrdered_intr0) (.seq (.region A_slices_pdqsortOrdered_intr1) A_slices_pdqsortOrdered_intc33))⟩
theorem fn_slices_pdqsortOrdered_int : FnIs Go.Proofs.Tryz.prog 141 A_slices_pdqsortOrdered_int := ⟨by kernel_rfl, Go.Proofs.Tryz.f141, Go.Proofs.Tryz.func141, by kernel_rfl⟩
/- (rollbook/kv.writing).Load -/
def A_kv_writing_Loadr0 : List AOper := [
    ⟨(some 2), .box (.tmp 0) 1, none⟩,
    ⟨(some 4), .alloc [.int .i64 0, .int .i64 0, .int .i64 0, .str []] 4 126, none⟩,
    ⟨(some 5), .mov (.const (.int .i64 0)), none⟩]
def A_kv_writing_Loadr1 : List AOper := [
    ⟨(some 9), .fadr 0 (.tmp 2), none⟩,
    ⟨(some 10), .load false 1 (.tmp 9), none⟩,
    ⟨(some 6), .mov (.tmp 10), none⟩]
def A_kv_writing_Loadr2 : List AOper := [
    ⟨(some 12), .mov (.tmp 6), none⟩,
    ⟨(some 13), .nilck (.tmp 12), none⟩,
    ⟨(some 14), .fadr 8 (.tmp 13), none⟩,
    ⟨(some 15), .load false 1 (.tmp 14), none⟩,
    ⟨(some 16), .mov (.tmp 1), none⟩,
    ⟨(some 17), .look .int (.agg [.int .i64 0, .int .i64 0, .int .i64 0, .str []]) true (.tmp 15) (.tmp 16), none⟩,
    ⟨(some 11), .mov (.tmp 17), none⟩,
    ⟨(some 18), .extr (.tmp 11) 0, none⟩,
    ⟨(some 19), .extr (.tmp 11) 1, none⟩,
    ⟨(some 7), .alloc [.int .i64 0, .int .i64 0, .int .i64 0, .str []] 4 126, none⟩,
    ⟨none, .store 4 (.tmp 7) (.tmp 18), none⟩,
    ⟨(some 8), .mov (.tmp 19), none⟩]
def A_kv_writing_Loadr3 : List AOper := [
    ⟨(some 20), .mov (.tmp 8), none⟩]
def A_kv_writing_Loadr4 : List AOper := [
    ⟨(some 21), .load true 4 (.tmp 7), none⟩,
    ⟨none, .store 4 (.tmp 4) (.tmp 21), none⟩,
    ⟨(some 5), .mov (.const (.int .i64 0)), none⟩]
def A_kv_writing_Loadr5 : List AOper := [
    ⟨(some 22), .mov (.tmp 6), none⟩,
    ⟨(some 23), .nilck (.tmp 22), none⟩,
    ⟨(some 24), .fadr 0 (.tmp 23), none⟩,
    ⟨(some 25), .load false 1 (.tmp 24), none⟩,
    ⟨(some 26), .nilck (.tmp 25), none⟩,
    ⟨(some 27), .fadr 0 (.tmp 26), none⟩,
    ⟨(some 28), .load false 1 (.tmp 27), none⟩,
    ⟨(some 29), .mov (.tmp 1), none⟩,
    ⟨(some 30), .call 156 [(.tmp 28), (.tmp 29)], none⟩,
    ⟨(some 31), .extr (.tmp 30) 0, none⟩,
    ⟨(some 32), .extr (.tmp 30) 1, none⟩,
    ⟨none, .store 4 (.tmp 4) (.tmp 31), none⟩,
    ⟨(some 5), .mov (.tmp 32), none⟩]
def A_kv_writing_Load : AFn := ⟨33, 2, [.cell 4 true 4, .tmp 5], (.seq (.region A_kv_writing_Loadr0) (.seq (.region A_kv_writing_Loadr1) (.seq (.seq (.region A_kv_writing_Loadr2) (.seq (.region A_kv_writing_Loadr3) (.cond (.tmp 20) (.seq (.region A_kv_writing_Loadr4) .ret) .skip))) (.seq (.region A_kv_writing_Loadr5) .ret))))⟩
theorem fn_kv_writing_Load : FnIs Go.Proofs.Tryz.prog 318 A_kv_writing_Load := ⟨by kernel_rfl, Go.Proofs.Tryz.f318, Go.Proofs.Tryz.func318, by kernel_rfl⟩
/- (rollbook/kv.still).Load -/
def A_kv_still_Loadr0 : List AOper := [
    ⟨(some 2), .box (.tmp 0) 1, none⟩,
    ⟨(some 4), .alloc [.int .i64 0, .int .i64 0, .int .i64 0, .str []] 4 126, none⟩,
    ⟨(some 5), .mov (.const (.int .i64 0)), none⟩]
def A_kv_still_Loadr1 : List AOper := [
    ⟨(some 6), .fadr 0 (.tmp 2), none⟩,
    ⟨(some 7), .load false 1 (.tmp 6), none⟩,
    ⟨(some 8), .mov (.tmp 1), none⟩,
    ⟨(some 9), .call 156 [(.tmp 7), (.tmp 8)], none⟩,
    ⟨(some 10), .extr (.tmp 9) 0, none⟩,
    ⟨(some 11), .extr (.tmp 9) 1, none⟩,
    ⟨none, .store 4 (.tmp 4) (.tmp 10), none⟩,
    ⟨(some 5), .mov (.tmp 11), none⟩]
def A_kv_still_Load : AFn := ⟨12, 2, [.cell 4 true 4, .tmp 5], (.seq (.region A_kv_still_Loadr0) (.seq (.region A_kv_still_Loadr1) .ret))⟩
theorem fn_kv_still_Load : FnIs Go.Proofs.Tryz.prog 321 A_kv_still_Load := ⟨by kernel_rfl, Go.Proofs.Tryz.f321, Go.Proofs.Tryz.func321, by kernel_rfl⟩
/- (*rollbook/kv.Txn).Over -/
def A_kv_Txn_Overr0 : List AOper := [
    ⟨(some 2), .mov (.const (.bool false)), none⟩]
def A_kv_Txn_Overr1 : List AOper := [
    ⟨(some 3), .mov (.tmp 0), none⟩,
    ⟨(some 4), .nileq .ptr false (.tmp 3) (.const (.ptr none)), none⟩,
    ⟨(some 5), .mov (.tmp 4), none⟩,
    ⟨(some 6), .mov (.tmp 0), (some (5, false))⟩,
    ⟨(some 7), .nilck (.tmp 6), (some (5, false))⟩,
    ⟨(some 8), .fadr 13 (.tmp 7), (some (5, false))⟩,
    ⟨(some 9), .load false 1 (.tmp 8), (some (5, false))⟩,
    ⟨(some 10), .pick (.tmp 5) (.const (.bool true)) (.tmp 9), none⟩,
    ⟨(some 2), .mov (.tmp 10), none⟩]
def A_kv_Txn_Over : AFn := ⟨11, 1, [.tmp 2], (.seq (.region A_kv_Txn_Overr0) (.seq (.region A_kv_Txn_Overr1) .ret))⟩
theorem fn_kv_Txn_Over : FnIs Go.Proofs.Tryz.prog 20 A_kv_Txn_Over := ⟨by kernel_rfl, Go.Proofs.Tryz.f20, Go.Proofs.Tryz.func20, by kernel_rfl⟩
/- rollbook/dev.New -/
def A_dev_Newr0 : List AOper := [
    ⟨(some 2), .mov (.const (.ptr none)), none⟩,
    ⟨(some 3), .mov (.const (.int .i64 0)), none⟩]
def A_dev_Newr1 : List AOper := [
    ⟨(some 5), .mov (.tmp 0), none⟩,
    ⟨(some 6), .ibin .lss (.tmp 5) (.const (.int .i64 1)), none⟩,
    ⟨(some 7), .mov (.tmp 6), none⟩,
    ⟨(some 8), .mov (.tmp 0), (some (7, false))⟩,
    ⟨(some 9), .ibin .gtr (.tmp 8) (.const (.int .i64 2048)), (some (7, false))⟩,
    ⟨(some 10), .pick (.tmp 7) (.const (.bool true)) (.tmp 9), none⟩]
def A_dev_Newr2 : List AOper := [
    ⟨(some 2), .mov (.const (.ptr none)), none⟩,
    ⟨(some 3), .mov (.const (.int .i64 1)), none⟩]
def A_dev_Newr3 : List AOper := [
    ⟨(some 11), .mkS [.int .u8 0] 1 1 (.const (.int .i64 128)) (.const (.int .i64 128)), none⟩,
    ⟨(some 12), .b2s (.tmp 11), none⟩,
    ⟨(some 4), .mov (.tmp 12), none⟩]
def A_dev_Newr4 : List AOper := [
    ⟨(some 13), .mov (.tmp 4), none⟩,
    ⟨(some 14), .buildSl [.str []] 1 1 [(0, 1, (.tmp 13))], none⟩,
    ⟨(some 15), .mov (.tmp 0), none⟩,
    ⟨(some 16), .call 97 [(.tmp 14), (.tmp 15)], none⟩,
    ⟨(some 17), .mkM, none⟩,
    ⟨(some 18), .build [.slice none 0 0, .map none, .bool false, .int .i64 0, .int .i64 0, .int .i64 0] [(0, 1, (.tmp 16)), (1, 1, (.tmp 17))], none⟩,
    ⟨(some 19), .box (.tmp 18) 6, none⟩,
    ⟨(some 2), .mov (.tmp 19), none⟩,
    ⟨(some 3), .mov (.const (.int .i64 0)), none⟩]
def A_dev_New : AFn := ⟨20, 1, [.tmp 2, .tmp 3], (.seq (.region A_dev_Newr0) (.seq (.seq (.region A_dev_Newr1) (.cond (.tmp 10) (.seq (.region A_dev_Newr2) .ret) .skip)) (.seq (.region A_dev_Newr3) (.seq (.region A_dev_Newr4) .ret))))⟩
theorem fn_dev_New : FnIs Go.Proofs.Tryz.prog 41 A_dev_New := ⟨by kernel_rfl, Go.Proofs.Tryz.f41, Go.Proofs.Tryz.func41, by kernel_rfl⟩
/- rollbook/tree.hold -/
def A_tree_holdr0 : List AOper := [
    ⟨(some 6), .alloc [.str [], .str [], .int .i64 0, .int .i64 0, .int .i64 0] 5 170, none⟩,
    ⟨(some 7), .mov (.const (.int .i64 0)), none⟩]
def A_tree_holdr1 : List AOper := [
    ⟨(some 14), .mov (.tmp 2), none⟩,
    ⟨(some 15), .len .str (.tmp 14), none⟩,
    ⟨(some 16), .ibin .leq (.tmp 15) (.const (.int .i64 96)), none⟩]
def A_tree_holdr2 : List AOper := [
    ⟨(some 17), .mov (.tmp 1), none⟩,
    ⟨(some 18), .mov (.tmp 2), none⟩,
    ⟨(some 19), .build [.str [], .str [], .int .i64 0, .int .i64 0, .int .i64 0] [(0, 1, (.tmp 17)), (1, 1, (.tmp 18))], none⟩,
    ⟨none, .store 5 (.tmp 6) (.tmp 19), none⟩,
    ⟨(some 7), .mov (.const (.int .i64 0)), none⟩]
def A_tree_holdr3 : List AOper := [
    ⟨(some 8), .mov (.const (.int .i64 0)), none⟩]
def A_tree_holdr4 : List AOper := [
    ⟨(some 20), .mov (.tmp 2), none⟩,
    ⟨(some 21), .len .str (.tmp 20), none⟩,
    ⟨(some 22), .ibin .sub (.tmp 21) (.const (.int .i64 1)), none⟩,
    ⟨(some 23), .ibin .quo (.tmp 22) (.const (.int .i64 484)), none⟩,
    ⟨(some 24), .ibin .mul (.tmp 23) (.const (.int .i64 484)), none⟩,
    ⟨(some 9), .mov (.tmp 24), none⟩]
def A_tree_holdr5 : List AOper := [
    ⟨(some 25), .mov (.tmp 9), none⟩,
    ⟨(some 26), .ibin .geq (.tmp 25) (.const (.int .i64 0)), none⟩]
def A_tree_holdr6 : List AOper := [
    ⟨(some 30), .mov (.tmp 8), none⟩,
    ⟨(some 31), .conv .u64 (.tmp 30), none⟩,
    ⟨(some 32), .call 160 [(.const (.str [])), (.tmp 31), (.const (.int .i64 4))], none⟩,
    ⟨(some 29), .mov (.tmp 32), none⟩,
    ⟨(some 33), .extr (.tmp 29) 0, none⟩,
    ⟨(some 34), .extr (.tmp 29) 1, none⟩,
    ⟨(some 10), .mov (.tmp 33), none⟩,
    ⟨(some 11), .mov (.tmp 34), none⟩]
def A_tree_holdr7 : List AOper := [
    ⟨(some 36), .mov (.tmp 0), none⟩,
    ⟨(some 37), .mov (.tmp 10), none⟩,
    ⟨(some 38), .mov (.tmp 2), none⟩,
    ⟨(some 39), .mov (.tmp 9), none⟩,
    ⟨(some 40), .mov (.tmp 2), none⟩,
    ⟨(some 41), .len .str (.tmp 40), none⟩,
    ⟨(some 42), .mov (.tmp 9), none⟩,
    ⟨(some 43), .ibin .add (.tmp 42) (.const (.int .i64 484)), none⟩,
    ⟨(some 44), .mnmx false (.tmp 41) [(.tmp 43)], none⟩,
    ⟨(some 45), .slS (.tmp 38) (some (.tmp 39)) (some (.tmp 44)), none⟩,
    ⟨(some 46), .sbin .add (.tmp 37) (.tmp 45), none⟩,
    ⟨(some 47), .mkF (.method "Make") [(.tmp 36)] [], none⟩,
    ⟨(some 48), .nilckM "Make" [(111, 319), (117, 322)] (.tmp 47), none⟩,
    ⟨(some 49), .mov (.tmp 36), none⟩,
    ⟨(some 50), .inv [(111, 319), (117, 322)] (.tmp 49) [(.const (.int .i64 3)), (.tmp 46)], none⟩,
    ⟨(some 35), .mov (.tmp 50), none⟩,
    ⟨(some 51), .extr (.tmp 35) 0, none⟩,
    ⟨(some 52), .extr (.tmp 35) 1, none⟩,
    ⟨(some 12), .mov (.tmp 51), none⟩,
    ⟨(some 13), .mov (.tmp 52), none⟩]
def A_tree_holdr8 : List AOper := [
    ⟨(some 53), .mov (.tmp 13), none⟩,
    ⟨(some 54), .ibin .neq (.tmp 53) (.const (.int .i64 0)), none⟩]
def A_tree_holdr9 : List AOper := [
    ⟨(some 55), .build [.str [], .str [], .int .i64 0, .int .i64 0, .int .i64 0] [], none⟩,
    ⟨(some 56), .mov (.tmp 13), none⟩,
    ⟨none, .store 5 (.tmp 6) (.tmp 55), none⟩,
    ⟨(some 7), .mov (.tmp 56), none⟩]
def A_tree_holdr10 : List AOper := [
    ⟨(some 57), .mov (.tmp 12), none⟩,
    ⟨(some 8), .mov (.tmp 57), none⟩]
def A_tree_holdc11 : AC := (.block 1 (.seq (.region A_tree_holdr6) (.seq (.draw A_tree_holdr7 [0, 0, 0, 0, 0, 16, 0, 64, 240, 508, 1022, 1, 2049, 6145, 16383, 32767, 65535, 65535, 131071, 524287]) (.seq (.seq (.region A_tree_holdr8) (.cond (.tmp 54) (.seq (.region A_tree_holdr9) .ret) .skip)) (.region A_tree_holdr10)))))
def A_tree_holdr12 : List AOper := [
    ⟨(some 27), .mov (.tmp 9), none⟩,
    ⟨(some 28), .ibin .sub (.tmp 27) (.const (.int .i64 484)), none⟩,
    ⟨(some 9), .mov (.tmp 28), none⟩]
def A_tree_holdl13 : AC := (.seq (.seq (.region A_tree_holdr5) (.cond (.tmp 26) .skip (.exit 0))) (.seq A_tree_holdc11 (.region A_tree_holdr12)))
def A_tree_holdc14 : AC := (.block 0 (.loop A_tree_holdl13))
def A_tree_holdr15 : List AOper := [
    ⟨(some 58), .mov (.tmp 1), none⟩,
    ⟨(some 59), .mov (.tmp 8), none⟩,
    ⟨(some 60), .mov (.tmp 2), none⟩,
    ⟨(some 61), .len .str (.tmp 60), none⟩,
    ⟨(some 62), .build [.str [], .str [], .int .i64 0, .int .i64 0, .int .i64 0] [(0, 1, (.tmp 58)), (2, 1, (.tmp 59)), (3, 1, (.tmp 61))], none⟩,
    ⟨none, .store 5 (.tmp 6) (.tmp 62), none⟩,
    ⟨(some 7), .mov (.const (.int .i64 0)), none⟩]
def A_tree_hold : AFn := ⟨63, 3, [.cell 6 true 5, .tmp 7], (.seq (.region A_tree_holdr0) (.seq (.seq (.region A_tree_holdr1) (.cond (.tmp 16) (.seq (.region A_tree_holdr2) .ret) .skip)) (.seq (.region A_tree_holdr3) (.seq (.seq (.region A_tree_holdr4) A_tree_holdc14) (.seq (.region A_tree_holdr15) .ret)))))⟩
theorem fn_tree_hold : FnIs Go.Proofs.Tryz.prog 103 A_tree_hold := ⟨by kernel_rfl, Go.Proofs.Tryz.f103, Go.Proofs.Tryz.func103, by kernel_rfl⟩
/- slices.Sort[[]int,int] -/
def A_slices_Sort_intr0 : List AOper := [
    ⟨(some 3), .mov (.tmp 0), none⟩,
    ⟨(some 4), .len .sl (.tmp 3), none⟩,
    ⟨(some 2), .mov (.tmp 4), none⟩]
def A_slices_Sort_intr1 : List AOper := [
    ⟨(some 5), .mov (.tmp 0), none⟩,
    ⟨(some 6), .mov (.tmp 2), none⟩,
    ⟨(some 7), .mov (.tmp 2), none⟩,
    ⟨(some 8), .conv .u64 (.tmp 7), none⟩,
    ⟨(some 9), .call 142 [(.tmp 8)], none⟩,
    ⟨(some 10), .call 141 [(.tmp 5), (.const (.int .i64 0)), (.tmp 6), (.tmp 9)], none⟩]
def A_slices_Sort_int : AFn := ⟨11, 1, [], (.seq (.region A_slices_Sort_intr0) (.region A_slices_Sort_intr1))⟩
theorem fn_slices_Sort_int : FnIs Go.Proofs.Tryz.prog 79 A_slices_Sort_int := ⟨by kernel_rfl, Go.Proofs.Tryz.f79, Go.Proofs.Tryz.func79, by kernel_rfl⟩
/- (*rollbook/dev.Dev).Size -/
def A_dev_Dev_Sizer0 : List AOper := [
    ⟨(some 2), .mov (.const (.int .i64 0)), none⟩]
def A_dev_Dev_Sizer1 : List AOper := [
    ⟨(some 3), .mov (.tmp 0), none⟩,
    ⟨(some 4), .nileq .ptr false (.tmp 3) (.const (.ptr none)), none⟩]
def A_dev_Dev_Sizer2 : List AOper := [
    ⟨(some 2), .mov (.const (.int .i64 0)), none⟩]
def A_dev_Dev_Sizer3 : List AOper := [
    ⟨(some 5), .mov (.tmp 0), none⟩,
    ⟨(some 6), .nilck (.tmp 5), none⟩,
    ⟨(some 7), .fadr 0 (.tmp 6), none⟩,
    ⟨(some 8), .load false 1 (.tmp 7), none⟩,
    ⟨(some 9), .len .sl (.tmp 8), none⟩,
    ⟨(some 2), .mov (.tmp 9), none⟩]
def A_dev_Dev_Size : AFn := ⟨10, 1, [.tmp 2], (.seq (.region A_dev_Dev_Sizer0) (.seq (.seq (.region A_dev_Dev_Sizer1) (.cond (.tmp 4) (.seq (.region A_dev_Dev_Sizer2) .ret) .skip)) (.seq (.region A_dev_Dev_Sizer3) .ret)))⟩
theorem fn_dev_Dev_Size : FnIs Go.Proofs.Tryz.prog 151 A_dev_Dev_Size := ⟨by kernel_rfl, Go.Proofs.Tryz.f151, Go.Proofs.Tryz.func151, by kernel_rfl⟩
/- rollbook/tree.bytes -/
def A_tree_bytesr0 : List AOper := [
    ⟨(some 3), .box (.tmp 1) 5, none⟩,
    ⟨(some 4), .mov (.const (.int .i64 0)), none⟩]
def A_tree_bytesr1 : List AOper := [
    ⟨(some 5), .mov (.tmp 0), none⟩,
    ⟨(some 6), .un .not (.tmp 5), none⟩]
def A_tree_bytesr2 : List AOper := [
    ⟨(some 7), .fadr 0 (.tmp 3), none⟩,
    ⟨(some 8), .load false 1 (.tmp 7), none⟩,
    ⟨(some 9), .len .str (.tmp 8), none⟩,
    ⟨(some 10), .ibin .add (.const (.int .i64 4)) (.tmp 9), none⟩,
    ⟨(some 11), .ibin .add (.tmp 10) (.const (.int .i64 4)), none⟩,
    ⟨(some 4), .mov (.tmp 11), none⟩]
def A_tree_bytesr3 : List AOper := [
    ⟨(some 12), .load true 5 (.tmp 3), none⟩,
    ⟨(some 13), .buildSl [.str [], .str [], .int .i64 0, .int .i64 0, .int .i64 0] 1 5 [(0, 5, (.tmp 12))], none⟩,
    ⟨(some 14), .call 253 [(.const (.bool true)), (.tmp 13)], none⟩,
    ⟨(some 15), .ibin .sub (.tmp 14) (.const (.int .i64 2)), none⟩,
    ⟨(some 4), .mov (.tmp 15), none⟩]
def A_tree_bytes : AFn := ⟨16, 2, [.tmp 4], (.seq (.region A_tree_bytesr0) (.seq (.seq (.region A_tree_bytesr1) (.cond (.tmp 6) (.seq (.region A_tree_bytesr2) .ret) .skip)) (.seq (.region A_tree_bytesr3) .ret)))⟩
theorem fn_tree_bytes : FnIs Go.Proofs.Tryz.prog 219 A_tree_bytes := ⟨by kernel_rfl, Go.Proofs.Tryz.f219, Go.Proofs.Tryz.func219, by kernel_rfl⟩
/- rollbook/node.Bytes -/
def A_node_Bytesr0 : List AOper := [
    ⟨(some 4), .mov (.const (.int .i64 0)), none⟩]
def A_node_Bytesr1 : List AOper := [
    ⟨(some 5), .mov (.tmp 0), none⟩,
    ⟨(some 6), .mov (.tmp 1), none⟩,
    ⟨(some 7), .call 268 [(.tmp 5), (.tmp 6)], none⟩,
    ⟨(some 8), .un .not (.tmp 7), none⟩]
def A_node_Bytesr2 : List AOper := [
    ⟨(some 4), .mov (.const (.int .i64 0)), none⟩]
def A_node_Bytesr3 : List AOper := [
    ⟨(some 9), .mov (.tmp 0), none⟩,
    ⟨(some 10), .mov (.tmp 1), none⟩,
    ⟨(some 11), .call 254 [(.tmp 9), (.tmp 10)], none⟩,
    ⟨(some 4), .mov (.tmp 11), none⟩]
def A_node_Bytes : AFn := ⟨12, 2, [.tmp 4], (.seq (.region A_node_Bytesr0) (.seq (.seq (.region A_node_Bytesr1) (.cond (.tmp 8) (.seq (.region A_node_Bytesr2) .ret) .skip)) (.seq (.region A_node_Bytesr3) .ret)))⟩
theorem fn_node_Bytes : FnIs Go.Proofs.Tryz.prog 253 A_node_Bytes := ⟨by kernel_rfl, Go.Proofs.Tryz.f253, Go.Proofs.Tryz.func253, by kernel_rfl⟩
/- (*rollbook/kv.Txn).Dirty -/
def A_kv_Txn_Dirtyr0 : List AOper := [
    ⟨(some 2), .mov (.const (.slice none 0 0)), none⟩]
def A_kv_Txn_Dirtyr1 : List AOper := [
    ⟨(some 3), .mov (.tmp 0), none⟩,
    ⟨(some 4), .call 49 [(.tmp 3)], none⟩,
    ⟨(some 5), .ibin .neq (.tmp 4) (.const (.int .i64 0)), none⟩]
def A_kv_Txn_Dirtyr2 : List AOper := [
    ⟨(some 2), .mov (.const (.slice none 0 0)), none⟩]
def A_kv_Txn_Dirtyr3 : List AOper := [
    ⟨(some 6), .mov (.tmp 0), none⟩,
    ⟨(some 7), .nilck (.tmp 6), none⟩,
    ⟨(some 8), .fadr 8 (.tmp 7), none⟩,
    ⟨(some 9), .load false 1 (.tmp 8), none⟩,
    ⟨(some 10), .call 64 [(.tmp 9)], none⟩,
    ⟨(some 11), .call 63 [(.tmp 10)], none⟩,
    ⟨(some 2), .mov (.tmp 11), none⟩]
def A_kv_Txn_Dirty : AFn := ⟨12, 1, [.tmp 2], (.seq (.region A_kv_Txn_Dirtyr0) (.seq (.seq (.region A_kv_Txn_Dirtyr1) (.cond (.tmp 5) (.seq (.region A_kv_Txn_Dirtyr2) .ret) .skip)) (.seq (.region A_kv_Txn_Dirtyr3) .ret)))⟩
theorem fn_kv_Txn_Dirty : FnIs Go.Proofs.Tryz.prog 24 A_kv_Txn_Dirty := ⟨by kernel_rfl, Go.Proofs.Tryz.f24, Go.Proofs.Tryz.func24, by kernel_rfl⟩
/- slices.Grow[[]int,int] -/
def A_slices_Grow_intr0 : List AOper := [
    ⟨(some 4), .mov (.const (.slice none 0 0)), none⟩]
def A_slices_Grow_intr1 : List AOper := [
    ⟨(some 5), .mov (.tmp 1), none⟩,
    ⟨(some 6), .ibin .lss (.tmp 5) (.const (.int .i64 0)), none⟩]
def A_slices_Grow_intr2 : List AOper := [
    ⟨(some 7), .mkI 9 (.const (.str [99, 97, 110, 110, 111, 116, 32, 98, 101, 32, 110, 101, 103, 97, 116, 105, 118, 101])), none⟩,
    ⟨none, .bad, none⟩]
def A_slices_Grow_intr3 : List AOper := [
    ⟨(some 8), .mov (.tmp 1), none⟩,
    ⟨(some 9), .mov (.tmp 0), none⟩,
    ⟨(some 10), .cap (.tmp 9), none⟩,
    ⟨(some 11), .mov (.tmp 0), none⟩,
    ⟨(some 12), .len .sl (.tmp 11), none⟩,
    ⟨(some 13), .ibin .sub (.tmp 10) (.tmp 12), none⟩,
    ⟨(some 14), .ibin .sub (.tmp 8) (.tmp 13), none⟩,
    ⟨(some 1), .mov (.tmp 14), none⟩]
def A_slices_Grow_intr4 : List AOper := [
    ⟨(some 15), .mov (.tmp 1), none⟩,
    ⟨(some 16), .ibin .gtr (.tmp 15) (.const (.int .i64 0)), none⟩]
def A_slices_Grow_intr5 : List AOper := [
    ⟨(some 17), .mov (.tmp 0), none⟩,
    ⟨(some 18), .mov (.tmp 0), none⟩,
    ⟨(some 19), .cap (.tmp 18), none⟩,
    ⟨(some 20), .slV 1 (.tmp 17) none (some (.tmp 19)) none, none⟩,
    ⟨(some 21), .mov (.tmp 1), none⟩,
    ⟨(some 22), .bad, none⟩,
    ⟨(some 23), .mov (.tmp 0), none⟩,
    ⟨(some 24), .len .sl (.tmp 23), none⟩,
    ⟨(some 25), .slV 1 (.tmp 22) none (some (.tmp 24)) none, none⟩,
    ⟨(some 0), .mov (.tmp 25), none⟩]
def A_slices_Grow_intr6 : List AOper := [
    ⟨(some 26), .mov (.tmp 0), none⟩,
    ⟨(some 4), .mov (.tmp 26), none⟩]
def A_slices_Grow_int : AFn := ⟨27, 2, [.tmp 4], (.seq (.region A_slices_Grow_intr0) (.seq (.seq (.region A_slices_Grow_intr1) (.cond (.tmp 6) (.region A_slices_Grow_intr2) .skip)) (.seq (.seq (.region A_slices_Grow_intr3) (.seq (.region A_slices_Grow_intr4) (.cond (.tmp 16) (.region A_slices_Grow_intr5) .skip))) (.seq (.region A_slices_Grow_intr6) .ret))))⟩
theorem fn_slices_Grow_int : FnIs Go.Proofs.Tryz.prog 136 A_slices_Grow_int := ⟨by kernel_rfl, Go.Proofs.Tryz.f136, Go.Proofs.Tryz.func136, by kernel_rfl⟩
/- math/bits.Mul -/
def A_math_bits_Mulr0 : List AOper := [
    ⟨(some 4), .mov (.const (.int .u64 0)), none⟩,
    ⟨(some 5), .mov (.const (.int .u64 0)), none⟩]
def A_math_bits_Mulr1 : List AOper := [
    ⟨(some 11), .mov (.tmp 0), none⟩,
    ⟨(some 12), .conv .u32 (.tmp 11), none⟩,
    ⟨(some 13), .mov (.tmp 1), none⟩,
    ⟨(some 14), .conv .u32 (.tmp 13), none⟩,
    ⟨(some 15), .call 208 [(.tmp 12), (.tmp 14)], none⟩,
    ⟨(some 10), .mov (.tmp 15), none⟩,
    ⟨(some 16), .extr (.tmp 10) 0, none⟩,
    ⟨(some 17), .extr (.tmp 10) 1, none⟩,
    ⟨(some 6), .mov (.tmp 16), none⟩,
    ⟨(some 7), .mov (.tmp 17), none⟩]
def A_math_bits_Mulr2 : List AOper := [
    ⟨(some 18), .mov (.tmp 6), none⟩,
    ⟨(some 19), .conv .u64 (.tmp 18), none⟩,
    ⟨(some 20), .mov (.tmp 7), none⟩,
    ⟨(some 21), .conv .u64 (.tmp 20), none⟩,
    ⟨(some 4), .mov (.tmp 19), none⟩,
    ⟨(some 5), .mov (.tmp 21), none⟩]
def A_math_bits_Mulr3 : List AOper := [
    ⟨(some 23), .mov (.tmp 0), none⟩,
    ⟨(some 24), .mov (.tmp 1), none⟩,
    ⟨(some 25), .call 209 [(.tmp 23), (.tmp 24)], none⟩,
    ⟨(some 22), .mov (.tmp 25), none⟩,
    ⟨(some 26), .extr (.tmp 22) 0, none⟩,
    ⟨(some 27), .extr (.tmp 22) 1, none⟩,
    ⟨(some 8), .mov (.tmp 26), none⟩,
    ⟨(some 9), .mov (.tmp 27), none⟩]
def A_math_bits_Mulr4 : List AOper := [
    ⟨(some 28), .mov (.tmp 8), none⟩,
    ⟨(some 29), .mov (.tmp 9), none⟩,
    ⟨(some 4), .mov (.tmp 28), none⟩,
    ⟨(some 5), .mov (.tmp 29), none⟩]
def A_math_bits_Mul : AFn := ⟨30, 2, [.tmp 4, .tmp 5], (.seq (.region A_math_bits_Mulr0) (.seq (.cond (.const (.bool false)) (.seq (.region A_math_bits_Mulr1) (.seq (.region A_math_bits_Mulr2) .ret)) .skip) (.seq (.region A_math_bits_Mulr3) (.seq (.region A_math_bits_Mulr4) .ret))))⟩
theorem fn_math_bits_Mul : FnIs Go.Proofs.Tryz.prog 150 A_math_bits_Mul := ⟨by kernel_rfl, Go.Proofs.Tryz.f150, Go.Proofs.Tryz.func150, by kernel_rfl⟩
/- (*rollbook/kv.Snap).Txn -/
def A_kv_Snap_Txnr0 : List AOper := [
    ⟨(some 2), .mov (.const (.int .i64 0)), none⟩]
def A_kv_Snap_Txnr1 : List AOper := [
    ⟨(some 3), .mov (.tmp 0), none⟩,
    ⟨(some 4), .nileq .ptr false (.tmp 3) (.const (.ptr none)), none⟩]
def A_kv_Snap_Txnr2 : List AOper := [
    ⟨(some 2), .mov (.const (.int .i64 0)), none⟩]
def A_kv_Snap_Txnr3 : List AOper := [
    ⟨(some 5), .mov (.tmp 0), none⟩,
    ⟨(some 6), .nilck (.tmp 5), none⟩,
    ⟨(some 7), .fadr 2 (.tmp 6), none⟩,
    ⟨(some 8), .fadr 0 (.tmp 7), none⟩,
    ⟨(some 9), .load false 1 (.tmp 8), none⟩,
    ⟨(some 2), .mov (.tmp 9), none⟩]
def A_kv_Snap_Txn : AFn := ⟨10, 1, [.tmp 2], (.seq (.region A_kv_Snap_Txnr0) (.seq (.seq (.region A_kv_Snap_Txnr1) (.cond (.tmp 4) (.seq (.region A_kv_Snap_Txnr2) .ret) .skip)) (.seq (.region A_kv_Snap_Txnr3) .ret)))⟩
theorem fn_kv_Snap_Txn : FnIs Go.Proofs.Tryz.prog 23 A_kv_Snap_Txn := ⟨by kernel_rfl, Go.Proofs.Tryz.f23, Go.Proofs.Tryz.func23, by kernel_rfl⟩
/- rollbook/kv.pieces -/
def A_kv_piecesr0 : List AOper := [
    ⟨(some 4), .mov (.const (.ptr none)), none⟩,
    ⟨(some 5), .mov (.const (.slice none 0 0)), none⟩,
    ⟨(some 6), .mov (.const (.int .i64 0)), none⟩]
def A_kv_piecesr1 : List AOper := [
    ⟨(some 15), .call 155 [], none⟩,
    ⟨(some 7), .mov (.tmp 15), none⟩]
def A_kv_piecesr2 : List AOper := [
    ⟨(some 8), .mov (.const (.slice none 0 0)), none⟩]
def A_kv_piecesr3 : List AOper := [
    ⟨(some 16), .mov (.tmp 1), none⟩,
    ⟨(some 17), .ibin .neq (.tmp 16) (.const (.int .i64 0)), none⟩]
def A_kv_piecesr4 : List AOper := [
    ⟨(some 19), .mov (.tmp 0), none⟩,
    ⟨(some 20), .mov (.tmp 1), none⟩,
    ⟨(some 21), .call 156 [(.tmp 19), (.tmp 20)], none⟩,
    ⟨(some 18), .mov (.tmp 21), none⟩,
    ⟨(some 22), .extr (.tmp 18) 0, none⟩,
    ⟨(some 23), .extr (.tmp 18) 1, none⟩,
    ⟨(some 9), .alloc [.int .i64 0, .int .i64 0, .int .i64 0, .str []] 4 126, none⟩,
    ⟨none, .store 4 (.tmp 9) (.tmp 22), none⟩,
    ⟨(some 10), .mov (.tmp 23), none⟩]
def A_kv_piecesr5 : List AOper := [
    ⟨(some 25), .mov (.tmp 10), none⟩,
    ⟨(some 26), .ibin .eql (.tmp 25) (.const (.int .i64 6)), none⟩,
    ⟨(some 24), .mov (.tmp 26), none⟩]
def A_kv_piecesr6 : List AOper := [
    ⟨(some 27), .mov (.tmp 10), none⟩,
    ⟨(some 4), .mov (.const (.ptr none)), none⟩,
    ⟨(some 5), .mov (.const (.slice none 0 0)), none⟩,
    ⟨(some 6), .mov (.tmp 27), none⟩]
def A_kv_piecesr7 : List AOper := [
    ⟨(some 29), .mov (.tmp 10), none⟩,
    ⟨(some 30), .ibin .neq (.tmp 29) (.const (.int .i64 0)), none⟩,
    ⟨(some 31), .mov (.tmp 30), none⟩,
    ⟨(some 32), .fadr 0 (.tmp 9), (some (31, false))⟩,
    ⟨(some 33), .load false 1 (.tmp 32), (some (31, false))⟩,
    ⟨(some 34), .ibin .neq (.tmp 33) (.const (.int .i64 4)), (some (31, false))⟩,
    ⟨(some 35), .pick (.tmp 31) (.const (.bool true)) (.tmp 34), none⟩,
    ⟨(some 36), .mov (.tmp 35), none⟩,
    ⟨(some 37), .mov (.tmp 8), (some (36, false))⟩,
    ⟨(some 38), .mov (.tmp 1), (some (36, false))⟩,
    ⟨(some 39), .call 157 [(.tmp 37), (.tmp 38)], (some (36, false))⟩,
    ⟨(some 40), .pick (.tmp 36) (.const (.bool true)) (.tmp 39), none⟩,
    ⟨(some 28), .mov (.tmp 40), none⟩]
def A_kv_piecesr8 : List AOper := [
    ⟨(some 4), .mov (.const (.ptr none)), none⟩,
    ⟨(some 5), .mov (.const (.slice none 0 0)), none⟩,
    ⟨(some 6), .mov (.const (.int .i64 4)), none⟩]
def A_kv_piecesc9 : AC := (.block 2 (.seq (.region A_kv_piecesr5) (.cond (.tmp 24) (.seq (.region A_kv_piecesr6) .ret) (.seq (.region A_kv_piecesr7) (.cond (.tmp 28) (.seq (.region A_kv_piecesr8) .ret) .skip)))))
def A_kv_piecesr10 : List AOper := [
    ⟨(some 42), .fadr 3 (.tmp 9), none⟩,
    ⟨(some 43), .load false 1 (.tmp 42), none⟩,
    ⟨(some 44), .call 158 [(.tmp 43)], none⟩,
    ⟨(some 41), .mov (.tmp 44), none⟩,
    ⟨(some 45), .extr (.tmp 41) 0, none⟩,
    ⟨(some 46), .extr (.tmp 41) 1, none⟩,
    ⟨(some 47), .extr (.tmp 41) 2, none⟩,
    ⟨(some 11), .mov (.tmp 45), none⟩,
    ⟨(some 12), .mov (.tmp 46), none⟩,
    ⟨(some 10), .mov (.tmp 47), none⟩]
def A_kv_piecesr11 : List AOper := [
    ⟨(some 48), .mov (.tmp 10), none⟩,
    ⟨(some 49), .ibin .neq (.tmp 48) (.const (.int .i64 0)), none⟩]
def A_kv_piecesr12 : List AOper := [
    ⟨(some 4), .mov (.const (.ptr none)), none⟩,
    ⟨(some 5), .mov (.const (.slice none 0 0)), none⟩,
    ⟨(some 6), .mov (.const (.int .i64 4)), none⟩]
def A_kv_piecesr13 : List AOper := [
    ⟨(some 50), .mov (.tmp 12), none⟩,
    ⟨(some 51), .len .sl (.tmp 50), none⟩,
    ⟨(some 52), .mov (.const (.int .i64 0)), none⟩]
def A_kv_piecesr14 : List AOper := [
    ⟨(some 53), .ibin .lss (.tmp 52) (.tmp 51), none⟩]
def A_kv_piecesr15 : List AOper := [
    ⟨(some 54), .iadrS 2 (.tmp 50) (.tmp 52), none⟩,
    ⟨(some 55), .load true 2 (.tmp 54), none⟩,
    ⟨(some 14), .alloc [.int .i64 0, .int .i64 0] 2 62, none⟩,
    ⟨none, .store 2 (.tmp 14) (.tmp 55), none⟩]
def A_kv_piecesr16 : List AOper := [
    ⟨(some 56), .mov (.tmp 7), none⟩,
    ⟨(some 57), .load true 2 (.tmp 14), none⟩,
    ⟨(some 58), .call 159 [(.tmp 56), (.tmp 57)], none⟩,
    ⟨(some 59), .ibin .neq (.tmp 58) (.const (.int .i64 0)), none⟩]
def A_kv_piecesr17 : List AOper := [
    ⟨(some 4), .mov (.const (.ptr none)), none⟩,
    ⟨(some 5), .mov (.const (.slice none 0 0)), none⟩,
    ⟨(some 6), .mov (.const (.int .i64 4)), none⟩]
def A_kv_piecesc18 : AC := (.block 4 (.seq (.region A_kv_piecesr15) (.seq (.region A_kv_piecesr16) (.cond (.tmp 59) (.seq (.region A_kv_piecesr17) .ret) .skip))))
def A_kv_piecesr19 : List AOper := [
    ⟨(some 60), .ibin .add (.tmp 52) (.const (.int .i64 1)), none⟩,
    ⟨(some 52), .mov (.tmp 60), none⟩]
def A_kv_piecesl20 : AC := (.seq (.region A_kv_piecesr14) (.seq (.cond (.tmp 53) .skip (.exit 3)) (.seq A_kv_piecesc18 (.region A_kv_piecesr19))))
def A_kv_piecesc21 : AC := (.block 3 (.loop A_kv_piecesl20))
def A_kv_piecesr22 : List AOper := [
    ⟨(some 61), .mov (.tmp 8), none⟩,
    ⟨(some 62), .mov (.tmp 1), none⟩,
    ⟨(some 63), .buildSl [.int .i64 0] 1 1 [(0, 1, (.tmp 62))], none⟩,
    ⟨(some 64), .app 1 8 3 (.tmp 61) (.tmp 63), none⟩,
    ⟨(some 8), .mov (.tmp 64), none⟩]
def A_kv_piecesr23 : List AOper := [
    ⟨(some 65), .mov (.tmp 11), none⟩,
    ⟨(some 1), .mov (.tmp 65), none⟩]
def A_kv_piecesc24 : AC := (.block 1 (.seq (.region A_kv_piecesr4) (.seq A_kv_piecesc9 (.seq (.region A_kv_piecesr10) (.seq (.seq (.region A_kv_piecesr11) (.cond (.tmp 49) (.seq (.region A_kv_piecesr12) .ret) .skip)) (.seq (.seq (.region A_kv_piecesr13) A_kv_piecesc21) (.seq (.region A_kv_piecesr22) (.region A_kv_piecesr23))))))))
def A_kv_piecesl25 : AC := (.seq (.seq (.region A_kv_piecesr3) (.cond (.tmp 17) .skip (.exit 0))) A_kv_piecesc24)
def A_kv_piecesc26 : AC := (.block 0 (.loop A_kv_piecesl25))
def A_kv_piecesr27 : List AOper := [
    ⟨(some 66), .mov (.tmp 7), none⟩,
    ⟨(some 67), .mov (.tmp 8), none⟩,
    ⟨(some 4), .mov (.tmp 66), none⟩,
    ⟨(some 5), .mov (.tmp 67), none⟩,
    ⟨(some 6), .mov (.const (.int .i64 0)), none⟩]
def A_kv_pieces : AFn := ⟨68, 2, [.tmp 4, .tmp 5, .tmp 6], (.seq (.region A_kv_piecesr0) (.seq (.region A_kv_piecesr1) (.seq (.region A_kv_piecesr2) (.seq A_kv_piecesc26 (.seq (.region A_kv_piecesr27) .ret)))))⟩
theorem fn_kv_pieces : FnIs Go.Proofs.Tryz.prog 100 A_kv_pieces := ⟨by kernel_rfl, Go.Proofs.Tryz.f100, Go.Proofs.Tryz.func100, by kernel_rfl⟩
/- slices.Clone[[]rollbook/api.Free,rollbook/api.Free] -/
def A_slices_Clone_api_Freer0 : List AOper := [
    ⟨(some 2), .mov (.const (.slice none 0 0)), none⟩]
def A_slices_Clone_api_Freer1 : List AOper := [
    ⟨(some 3), .mov (.tmp 0), none⟩,
    ⟨(some 4), .nileq .sl false (.tmp 3) (.const (.slice none 0 0)), none⟩]
def A_slices_Clone_api_Freer2 : List AOper := [
    ⟨(some 2), .mov (.const (.slice none 0 0)), none⟩]
def A_slices_Clone_api_Freer3 : List AOper := [
    ⟨(some 5), .buildSl [] 0 2 [], none⟩,
    ⟨(some 6), .mov (.tmp 0), none⟩,
    ⟨(some 7), .app 2 16 62 (.tmp 5) (.tmp 6), none⟩,
    ⟨(some 2), .mov (.tmp 7), none⟩]
def A_slices_Clone_api_Free : AFn := ⟨8, 1, [.tmp 2], (.seq (.region A_slices_Clone_api_Freer0) (.seq (.seq (.region A_slices_Clone_api_Freer1) (.cond (.tmp 4) (.seq (.region A_slices_Clone_api_Freer2) .ret) .skip)) (.seq (.region A_slices_Clone_api_Freer3) .ret)))⟩
theorem fn_slices_Clone_api_Free : FnIs Go.Proofs.Tryz.prog 102 A_slices_Clone_api_Free := ⟨by kernel_rfl, Go.Proofs.Tryz.f102, Go.Proofs.Tryz.func102, by kernel_rfl⟩
/- slices.insertionSortOrdered[int] -/
def A_slices_insertionSortOrdered_intr0 : List AOper := [
    ⟨(some 8), .mov (.tmp 1), none⟩,
    ⟨(some 9), .ibin .add (.tmp 8) (.const (.int .i64 1)), none⟩,
    ⟨(some 6), .mov (.tmp 9), none⟩]
def A_slices_insertionSortOrdered_intr1 : List AOper := [
    ⟨(some 10), .mov (.tmp 6), none⟩,
    ⟨(some 11), .mov (.tmp 2), none⟩,
    ⟨(some 12), .ibin .lss (.tmp 10) (.tmp 11), none⟩]
def A_slices_insertionSortOrdered_intr2 : List AOper := [
    ⟨(some 15), .mov (.tmp 6), none⟩,
    ⟨(some 7), .mov (.tmp 15), none⟩]
def A_slices_insertionSortOrdered_intr3 : List AOper := [
    ⟨(some 16), .mov (.tmp 7), none⟩,
    ⟨(some 17), .mov (.tmp 1), none⟩,
    ⟨(some 18), .ibin .gtr (.tmp 16) (.tmp 17), none⟩,
    ⟨(some 19), .mov (.tmp 18), none⟩,
    ⟨(some 20), .mov (.tmp 0), (some (19, true))⟩,
    ⟨(some 21), .mov (.tmp 7), (some (19, true))⟩,
    ⟨(some 22), .iadrS 1 (.tmp 20) (.tmp 21), (some (19, true))⟩,
    ⟨(some 23), .load false 1 (.tmp 22), (some (19, true))⟩,
    ⟨(some 24), .mov (.tmp 0), (some (19, true))⟩,
    ⟨(some 25), .mov (.tmp 7), (some (19, true))⟩,
    ⟨(some 26), .ibin .sub (.tmp 25) (.const (.int .i64 1)), (some (19, true))⟩,
    ⟨(some 27), .iadrS 1 (.tmp 24) (.tmp 26), (some (19, true))⟩,
    ⟨(some 28), .load false 1 (.tmp 27), (some (19, true))⟩,
    ⟨(some 29), .call 196 [(.tmp 23), (.tmp 28)], (some (19, true))⟩,
    ⟨(some 30), .pick (.tmp 19) (.tmp 29) (.const (.bool false)), none⟩]
def A_slices_insertionSortOrdered_intr4 : List AOper := [
    ⟨(some 33), .mov (.tmp 0), none⟩,
    ⟨(some 34), .mov (.tmp 7), none⟩,
    ⟨(some 35), .mov (.tmp 0), none⟩,
    ⟨(some 36), .mov (.tmp 7), none⟩,
    ⟨(some 37), .ibin .sub (.tmp 36) (.const (.int .i64 1)), none⟩,
    ⟨(some 38), .mov (.tmp 0), none⟩,
    ⟨(some 39), .mov (.tmp 7), none⟩,
    ⟨(some 40), .ibin .sub (.tmp 39) (.const (.int .i64 1)), none⟩,
    ⟨(some 41), .iadrS 1 (.tmp 38) (.tmp 40), none⟩,
    ⟨(some 42), .load false 1 (.tmp 41), none⟩,
    ⟨(some 43), .mov (.tmp 0), none⟩,
    ⟨(some 44), .mov (.tmp 7), none⟩,
    ⟨(some 45), .iadrS 1 (.tmp 43) (.tmp 44), none⟩,
    ⟨(some 46), .load false 1 (.tmp 45), none⟩,
    ⟨(some 47), .iadrS 1 (.tmp 33) (.tmp 34), none⟩,
    ⟨none, .store 1 (.tmp 47) (.tmp 42), none⟩,
    ⟨(some 48), .iadrS 1 (.tmp 35) (.tmp 37), none⟩,
    ⟨none, .store 1 (.tmp 48) (.tmp 46), none⟩]
def A_slices_insertionSortOrdered_intc5 : AC := (.block 3 (.draw A_slices_insertionSortOrdered_intr4 [0, 0, 0, 0, 8, 0, 0, 64, 224, 480, 0, 0, 3072, 7168, 16355, 32739, 65535, 131071]))
def A_slices_insertionSortOrdered_intr6 : List AOper := [
    ⟨(some 31), .mov (.tmp 7), none⟩,
    ⟨(some 32), .ibin .sub (.tmp 31) (.const (.int .i64 1)), none⟩,
    ⟨(some 7), .mov (.tmp 32), none⟩]
def A_slices_insertionSortOrdered_intl7 : AC := (.seq (.seq (.draw A_slices_insertionSortOrdered_intr3 [0, 0, 3, 7, 15, 15, 63, 127, 15, 15, 527, 1807, 3855, 8191, 16383]) (.cond (.tmp 30) .skip (.exit 2))) (.seq A_slices_insertionSortOrdered_intc5 (.region A_slices_insertionSortOrdered_intr6)))
def A_slices_insertionSortOrdered_intc8 : AC := (.block 2 (.loop A_slices_insertionSortOrdered_intl7))
def A_slices_insertionSortOrdered_intc9 : AC := (.block 1 (.seq (.region A_slices_insertionSortOrdered_intr2) A_slices_insertionSortOrdered_intc8))
def A_slices_insertionSortOrdered_intr10 : List AOper := [
    ⟨(some 13), .mov (.tmp 6), none⟩,
    ⟨(some 14), .ibin .add (.tmp 13) (.const (.int .i64 1)), none⟩,
    ⟨(some 6), .mov (.tmp 14), none⟩]
def A_slices_insertionSortOrdered_intl11 : AC := (.seq (.seq (.region A_slices_insertionSortOrdered_intr1) (.cond (.tmp 12) .skip (.exit 0))) (.seq A_slices_insertionSortOrdered_intc9 (.region A_slices_insertionSortOrdered_intr10)))
def A_slices_insertionSortOrdered_intc12 : AC := (.block 0 (.loop A_slices_insertionSortOrdered_intl11))
def A_slices_insertionSortOrdered_int : AFn := ⟨49, 3, [], (.seq (.region A_slices_insertionSortOrdered_intr0) A_slices_insertionSortOrdered_intc12)⟩
theorem fn_slices_insertionSortOrdered_int : FnIs Go.Proofs.Tryz.prog 190 A_slices_insertionSortOrdered_int := ⟨by kernel_rfl, Go.Proofs.Tryz.f190, Go.Proofs.Tryz.func190, by kernel_rfl⟩
/- rollbook/rollbookref11.Del -/
def A_rollbookref11_Delr0 : List AOper := [
    ⟨(some 6), .mov (.const (.slice none 0 0)), none⟩]
def A_rollbookref11_Delr1 : List AOper := [
    ⟨(some 9), .buildSl [] 0 3 [], none⟩,
    ⟨(some 7), .mov (.tmp 9), none⟩]
def A_rollbookref11_Delr2 : List AOper := [
    ⟨(some 8), .mov (.const (.int .i64 0)), none⟩]
def A_rollbookref11_Delr3 : List AOper := [
    ⟨(some 10), .mov (.tmp 8), none⟩,
    ⟨(some 11), .mov (.tmp 0), none⟩,
    ⟨(some 12), .len .sl (.tmp 11), none⟩,
    ⟨(some 13), .ibin .lss (.tmp 10) (.tmp 12), none⟩]
def A_rollbookref11_Delr4 : List AOper := [
    ⟨(some 16), .mov (.tmp 0), none⟩,
    ⟨(some 17), .mov (.tmp 8), none⟩,
    ⟨(some 18), .iadrS 3 (.tmp 16) (.tmp 17), none⟩,
    ⟨(some 19), .fadr 0 (.tmp 18), none⟩,
    ⟨(some 20), .load false 1 (.tmp 19), none⟩,
    ⟨(some 21), .mov (.tmp 1), none⟩,
    ⟨(some 22), .sbin .neq (.tmp 20) (.tmp 21), none⟩,
    ⟨(some 23), .mov (.tmp 22), none⟩,
    ⟨(some 24), .mov (.tmp 0), (some (23, false))⟩,
    ⟨(some 25), .mov (.tmp 8), (some (23, false))⟩,
    ⟨(some 26), .iadrS 3 (.tmp 24) (.tmp 25), (some (23, false))⟩,
    ⟨(some 27), .fadr 1 (.tmp 26), (some (23, false))⟩,
    ⟨(some 28), .load false 1 (.tmp 27), (some (23, false))⟩,
    ⟨(some 29), .mov (.tmp 2), (some (23, false))⟩,
    ⟨(some 30), .sbin .neq (.tmp 28) (.tmp 29), (some (23, false))⟩,
    ⟨(some 31), .pick (.tmp 23) (.const (.bool true)) (.tmp 30), none⟩]
def A_rollbookref11_Delr5 : List AOper := [
    ⟨(some 32), .mov (.tmp 7), none⟩,
    ⟨(some 33), .mov (.tmp 0), none⟩,
    ⟨(some 34), .mov (.tmp 8), none⟩,
    ⟨(some 35), .iadrS 3 (.tmp 33) (.tmp 34), none⟩,
    ⟨(some 36), .load true 3 (.tmp 35), none⟩,
    ⟨(some 37), .buildSl [.str [], .str [], .str []] 1 3 [(0, 3, (.tmp 36))], none⟩,
    ⟨(some 38), .app 3 48 143 (.tmp 32) (.tmp 37), none⟩,
    ⟨(some 7), .mov (.tmp 38), none⟩]
def A_rollbookref11_Delc6 : AC := (.block 1 (.seq (.region A_rollbookref11_Delr4) (.cond (.tmp 31) (.region A_rollbookref11_Delr5) .skip)))
def A_rollbookref11_Delr7 : List AOper := [
    ⟨(some 14), .mov (.tmp 8), none⟩,
    ⟨(some 15), .ibin .add (.tmp 14) (.const (.int .i64 1)), none⟩,
    ⟨(some 8), .mov (.tmp 15), none⟩]
def A_rollbookref11_Dell8 : AC := (.seq (.seq (.region A_rollbookref11_Delr3) (.cond (.tmp 13) .skip (.exit 0))) (.seq A_rollbookref11_Delc6 (.region A_rollbookref11_Delr7)))
def A_rollbookref11_Delc9 : AC := (.block 0 (.loop A_rollbookref11_Dell8))
def A_rollbookref11_Delr10 : List AOper := [
    ⟨(some 39), .mov (.tmp 7), none⟩,
    ⟨(some 6), .mov (.tmp 39), none⟩]
def A_rollbookref11_Del : AFn := ⟨40, 3, [.tmp 6], (.seq (.region A_rollbookref11_Delr0) (.seq (.region A_rollbookref11_Delr1) (.seq (.seq (.region A_rollbookref11_Delr2) A_rollbookref11_Delc9) (.seq (.region A_rollbookref11_Delr10) .ret))))⟩
theorem fn_rollbookref11_Del : FnIs Go.Proofs.Tryz.prog 83 A_rollbookref11_Del := ⟨by kernel_rfl, Go.Proofs.Tryz.f83, Go.Proofs.Tryz.func83, by kernel_rfl⟩
/- (*rollbook/pager.Pager).Sync -/
def A_pager_Pager_Syncr0 : List AOper := [
    ⟨(some 2), .mov (.const (.int .i64 0)), none⟩]
def A_pager_Pager_Syncr1 : List AOper := [
    ⟨(some 3), .mov (.tmp 0), none⟩,
    ⟨(some 4), .nileq .ptr false (.tmp 3) (.const (.ptr none)), none⟩]
def A_pager_Pager_Syncr2 : List AOper := [
    ⟨(some 2), .mov (.const (.int .i64 2)), none⟩]
def A_pager_Pager_Syncr3 : List AOper := [
    ⟨(some 5), .mov (.tmp 0), none⟩,
    ⟨(some 6), .nilck (.tmp 5), none⟩,
    ⟨(some 7), .fadr 0 (.tmp 6), none⟩,
    ⟨(some 8), .load false 1 (.tmp 7), none⟩,
    ⟨(some 9), .call 116 [(.tmp 8)], none⟩,
    ⟨(some 2), .mov (.tmp 9), none⟩]
def A_pager_Pager_Sync : AFn := ⟨10, 1, [.tmp 2], (.seq (.region A_pager_Pager_Syncr0) (.seq (.seq (.region A_pager_Pager_Syncr1) (.cond (.tmp 4) (.seq (.region A_pager_Pager_Syncr2) .ret) .skip)) (.seq (.region A_pager_Pager_Syncr3) .ret)))⟩
theorem fn_pager_Pager_Sync : FnIs Go.Proofs.Tryz.prog 52 A_pager_Pager_Sync := ⟨by kernel_rfl, Go.Proofs.Tryz.f52, Go.Proofs.Tryz.func52, by kernel_rfl⟩
/- (*rollbook/free.List).All -/
def A_free_List_Allr0 : List AOper := [
    ⟨(some 2), .mov (.const (.slice none 0 0)), none⟩]
def A_free_List_Allr1 : List AOper := [
    ⟨(some 3), .mov (.tmp 0), none⟩,
    ⟨(some 4), .nileq .ptr false (.tmp 3) (.const (.ptr none)), none⟩]
def A_free_List_Allr2 : List AOper := [
    ⟨(some 2), .mov (.const (.slice none 0 0)), none⟩]
def A_free_List_Allr3 : List AOper := [
    ⟨(some 5), .mov (.tmp 0), none⟩,
    ⟨(some 6), .nilck (.tmp 5), none⟩,
    ⟨(some 7), .fadr 0 (.tmp 6), none⟩,
    ⟨(some 8), .load false 1 (.tmp 7), none⟩,
    ⟨(some 9), .call 102 [(.tmp 8)], none⟩,
    ⟨(some 2), .mov (.tmp 9), none⟩]
def A_free_List_All : AFn := ⟨10, 1, [.tmp 2], (.seq (.region A_free_List_Allr0) (.seq (.seq (.region A_free_List_Allr1) (.cond (.tmp 4) (.seq (.region A_free_List_Allr2) .ret) .skip)) (.seq (.region A_free_List_Allr3) .ret)))⟩
theorem fn_free_List_All : FnIs Go.Proofs.Tryz.prog 61 A_free_List_All := ⟨by kernel_rfl, Go.Proofs.Tryz.f61, Go.Proofs.Tryz.func61, by kernel_rfl⟩
/- (*rollbook/free.List).Count -/
def A_free_List_Countr0 : List AOper := [
    ⟨(some 2), .mov (.const (.int .i64 0)), none⟩]
def A_free_List_Countr1 : List AOper := [
    ⟨(some 3), .mov (.tmp 0), none⟩,
    ⟨(some 4), .nileq .ptr false (.tmp 3) (.const (.ptr none)), none⟩]
def A_free_List_Countr2 : List AOper := [
    ⟨(some 2), .mov (.const (.int .i64 0)), none⟩]
def A_free_List_Countr3 : List AOper := [
    ⟨(some 5), .mov (.tmp 0), none⟩,
    ⟨(some 6), .nilck (.tmp 5), none⟩,
    ⟨(some 7), .fadr 0 (.tmp 6), none⟩,
    ⟨(some 8), .load false 1 (.tmp 7), none⟩,
    ⟨(some 9), .len .sl (.tmp 8), none⟩,
    ⟨(some 2), .mov (.tmp 9), none⟩]
def A_free_List_Count : AFn := ⟨10, 1, [.tmp 2], (.seq (.region A_free_List_Countr0) (.seq (.seq (.region A_free_List_Countr1) (.cond (.tmp 4) (.seq (.region A_free_List_Countr2) .ret) .skip)) (.seq (.region A_free_List_Countr3) .ret)))⟩
theorem fn_free_List_Count : FnIs Go.Proofs.Tryz.prog 112 A_free_List_Count := ⟨by kernel_rfl, Go.Proofs.Tryz.f112, Go.Proofs.Tryz.func112, by kernel_rfl⟩
/- (*rollbook/kv.Snap).Close -/
def A_kv_Snap_Closer0 : List AOper := [
    ⟨(some 2), .mov (.const (.int .i64 0)), none⟩]
def A_kv_Snap_Closer1 : List AOper := [
    ⟨(some 4), .mov (.tmp 0), none⟩,
    ⟨(some 5), .call 57 [(.tmp 4)], none⟩,
    ⟨(some 3), .mov (.tmp 5), none⟩]
def A_kv_Snap_Closer2 : List AOper := [
    ⟨(some 6), .mov (.tmp 3), none⟩,
    ⟨(some 7), .ibin .neq (.tmp 6) (.const (.int .i64 0)), none⟩]
def A_kv_Snap_Closer3 : List AOper := [
    ⟨(some 8), .mov (.tmp 3), none⟩,
    ⟨(some 2), .mov (.tmp 8), none⟩]
def A_kv_Snap_Closer4 : List AOper := [
    ⟨(some 9), .mov (.tmp 0), none⟩,
    ⟨(some 10), .nilck (.tmp 9), none⟩,
    ⟨(some 11), .fadr 8 (.tmp 10), none⟩,
    ⟨none, .store 1 (.tmp 11) (.const (.bool true)), none⟩]
def A_kv_Snap_Closer5 : List AOper := [
    ⟨(some 12), .mov (.tmp 0), none⟩,
    ⟨(some 13), .nilck (.tmp 12), none⟩,
    ⟨(some 14), .fadr 0 (.tmp 13), none⟩,
    ⟨(some 15), .load false 1 (.tmp 14), none⟩,
    ⟨(some 16), .nilck (.tmp 15), none⟩,
    ⟨(some 17), .fadr 1 (.tmp 16), none⟩,
    ⟨(some 18), .load false 1 (.tmp 17), none⟩,
    ⟨(some 19), .mov (.tmp 0), none⟩,
    ⟨(some 20), .nilck (.tmp 19), none⟩,
    ⟨(some 21), .fadr 1 (.tmp 20), none⟩,
    ⟨(some 22), .load false 1 (.tmp 21), none⟩,
    ⟨(some 23), .call 60 [(.tmp 18), (.tmp 22)], none⟩,
    ⟨(some 2), .mov (.tmp 23), none⟩]
def A_kv_Snap_Close : AFn := ⟨24, 1, [.tmp 2], (.seq (.region A_kv_Snap_Closer0) (.seq (.seq (.region A_kv_Snap_Closer1) (.seq (.region A_kv_Snap_Closer2) (.cond (.tmp 7) (.seq (.region A_kv_Snap_Closer3) .ret) .skip))) (.seq (.region A_kv_Snap_Closer4) (.seq (.draw A_kv_Snap_Closer5 [0, 1, 3, 7, 15, 31, 63, 0, 128, 384, 896, 2047, 4095]) .ret))))⟩
theorem fn_kv_Snap_Close : FnIs Go.Proofs.Tryz.prog 18 A_kv_Snap_Close := ⟨by kernel_rfl, Go.Proofs.Tryz.f18, Go.Proofs.Tryz.func18, by kernel_rfl⟩
/- (*rollbook/kv.Txn).Abort -/
def A_kv_Txn_Abortr0 : List AOper := [
    ⟨(some 2), .mov (.const (.int .i64 0)), none⟩]
def A_kv_Txn_Abortr1 : List AOper := [
    ⟨(some 4), .mov (.tmp 0), none⟩,
    ⟨(some 5), .call 49 [(.tmp 4)], none⟩,
    ⟨(some 3), .mov (.tmp 5), none⟩]
def A_kv_Txn_Abortr2 : List AOper := [
    ⟨(some 6), .mov (.tmp 3), none⟩,
    ⟨(some 7), .ibin .neq (.tmp 6) (.const (.int .i64 0)), none⟩]
def A_kv_Txn_Abortr3 : List AOper := [
    ⟨(some 8), .mov (.tmp 3), none⟩,
    ⟨(some 2), .mov (.tmp 8), none⟩]
def A_kv_Txn_Abortr4 : List AOper := [
    ⟨(some 9), .mov (.tmp 0), none⟩,
    ⟨(some 10), .nilck (.tmp 9), none⟩,
    ⟨(some 11), .fadr 12 (.tmp 10), none⟩,
    ⟨(some 12), .load false 1 (.tmp 11), none⟩,
    ⟨(some 13), .ibin .gtr (.tmp 12) (.const (.int .i64 3)), none⟩]
def A_kv_Txn_Abortr5 : List AOper := [
    ⟨(some 2), .mov (.const (.int .i64 11)), none⟩]
def A_kv_Txn_Abortr6 : List AOper := [
    ⟨(some 14), .mov (.tmp 0), none⟩,
    ⟨(some 15), .nilck (.tmp 14), none⟩,
    ⟨(some 16), .fadr 13 (.tmp 15), none⟩,
    ⟨none, .store 1 (.tmp 16) (.const (.bool true)), none⟩]
def A_kv_Txn_Abortr7 : List AOper := [
    ⟨(some 17), .mov (.tmp 0), none⟩,
    ⟨(some 18), .nilck (.tmp 17), none⟩,
    ⟨(some 19), .fadr 8 (.tmp 18), none⟩,
    ⟨(some 20), .load false 1 (.tmp 19), none⟩,
    ⟨none, .clrM (.tmp 20), none⟩]
def A_kv_Txn_Abortr8 : List AOper := [
    ⟨(some 2), .mov (.const (.int .i64 0)), none⟩]
def A_kv_Txn_Abort : AFn := ⟨21, 1, [.tmp 2], (.seq (.region A_kv_Txn_Abortr0) (.seq (.seq (.region A_kv_Txn_Abortr1) (.seq (.region A_kv_Txn_Abortr2) (.cond (.tmp 7) (.seq (.region A_kv_Txn_Abortr3) .ret) .skip))) (.seq (.seq (.region A_kv_Txn_Abortr4) (.cond (.tmp 13) (.seq (.region A_kv_Txn_Abortr5) .ret) .skip)) (.seq (.region A_kv_Txn_Abortr6) (.seq (.region A_kv_Txn_Abortr7) (.seq (.region A_kv_Txn_Abortr8) .ret))))))⟩
theorem fn_kv_Txn_Abort : FnIs Go.Proofs.Tryz.prog 19 A_kv_Txn_Abort := ⟨by kernel_rfl, Go.Proofs.Tryz.f19, Go.Proofs.Tryz.func19, by kernel_rfl⟩
/- rollbook/rollbooklaw11.value -/
def A_rollbooklaw11_valuer0 : List AOper := [
    ⟨(some 1), .box (.tmp 0) 6, none⟩,
    ⟨(some 2), .mov (.const (.str [])), none⟩]
def A_rollbooklaw11_valuer1 : List AOper := [
    ⟨(some 5), .fadr 4 (.tmp 1), none⟩,
    ⟨(some 6), .load false 1 (.tmp 5), none⟩,
    ⟨(some 7), .ibin .leq (.tmp 6) (.const (.int .i64 0)), none⟩]
def A_rollbooklaw11_valuer2 : List AOper := [
    ⟨(some 8), .fadr 3 (.tmp 1), none⟩,
    ⟨(some 9), .load false 1 (.tmp 8), none⟩,
    ⟨(some 2), .mov (.tmp 9), none⟩]
def A_rollbooklaw11_valuer3 : List AOper := [
    ⟨(some 10), .fadr 4 (.tmp 1), none⟩,
    ⟨(some 11), .load false 1 (.tmp 10), none⟩,
    ⟨(some 12), .mnmx false (.tmp 11) [(.const (.int .i64 4001))], none⟩,
    ⟨(some 13), .mkS [.int .u8 0] 1 1 (.tmp 12) (.tmp 12), none⟩,
    ⟨(some 3), .mov (.tmp 13), none⟩]
def A_rollbooklaw11_valuer4 : List AOper := [
    ⟨(some 4), .mov (.const (.int .i64 0)), none⟩]
def A_rollbooklaw11_valuer5 : List AOper := [
    ⟨(some 14), .mov (.tmp 4), none⟩,
    ⟨(some 15), .mov (.tmp 3), none⟩,
    ⟨(some 16), .len .sl (.tmp 15), none⟩,
    ⟨(some 17), .ibin .lss (.tmp 14) (.tmp 16), none⟩]
def A_rollbooklaw11_valuer6 : List AOper := [
    ⟨(some 20), .mov (.tmp 3), none⟩,
    ⟨(some 21), .mov (.tmp 4), none⟩,
    ⟨(some 22), .mov (.tmp 4), none⟩,
    ⟨(some 23), .ibin .quo (.tmp 22) (.const (.int .i64 5)), none⟩,
    ⟨(some 24), .conv .u8 (.tmp 23), none⟩,
    ⟨(some 25), .fadr 3 (.tmp 1), none⟩,
    ⟨(some 26), .load false 1 (.tmp 25), none⟩,
    ⟨(some 27), .len .str (.tmp 26), none⟩,
    ⟨(some 28), .conv .u8 (.tmp 27), none⟩,
    ⟨(some 29), .ibin .add (.tmp 24) (.tmp 28), none⟩,
    ⟨(some 30), .iadrS 1 (.tmp 20) (.tmp 21), none⟩,
    ⟨none, .store 1 (.tmp 30) (.tmp 29), none⟩]
def A_rollbooklaw11_valuec7 : AC := (.block 1 (.region A_rollbooklaw11_valuer6))
def A_rollbooklaw11_valuer8 : List AOper := [
    ⟨(some 18), .mov (.tmp 4), none⟩,
    ⟨(some 19), .ibin .add (.tmp 18) (.const (.int .i64 1)), none⟩,
    ⟨(some 4), .mov (.tmp 19), none⟩]
def A_rollbooklaw11_valuel9 : AC := (.seq (.seq (.region A_rollbooklaw11_valuer5) (.cond (.tmp 17) .skip (.exit 0))) (.seq A_rollbooklaw11_valuec7 (.region A_rollbooklaw11_valuer8)))
def A_rollbooklaw11_valuec10 : AC := (.block 0 (.loop A_rollbooklaw11_valuel9))
def A_rollbooklaw11_valuer11 : List AOper := [
    ⟨(some 31), .mov (.tmp 3), none⟩,
    ⟨(some 32), .b2s (.tmp 31), none⟩,
    ⟨(some 2), .mov (.tmp 32), none⟩]
def A_rollbooklaw11_value : AFn := ⟨33, 1, [.tmp 2], (.seq (.region A_rollbooklaw11_valuer0) (.seq (.seq (.region A_rollbooklaw11_valuer1) (.cond (.tmp 7) (.seq (.region A_rollbooklaw11_valuer2) .ret) .skip)) (.seq (.region A_rollbooklaw11_valuer3) (.seq (.seq (.region A_rollbooklaw11_valuer4) A_rollbooklaw11_valuec10) (.seq (.region A_rollbooklaw11_valuer11) .ret)))))⟩
theorem fn_rollbooklaw11_value : FnIs Go.Proofs.Tryz.prog 125 A_rollbooklaw11_value := ⟨by kernel_rfl, Go.Proofs.Tryz.f125, Go.Proofs.Tryz.func125, by kernel_rfl⟩
/- math/bits.Len -/
def A_math_bits_Lenr0 : List AOper := [
    ⟨(some 2), .mov (.const (.int .i64 0)), none⟩]
def A_math_bits_Lenr1 : List AOper := [
    ⟨(some 3), .mov (.tmp 0), none⟩,
    ⟨(some 4), .conv .u32 (.tmp 3), none⟩,
    ⟨(some 5), .call 199 [(.tmp 4)], none⟩,
    ⟨(some 2), .mov (.tmp 5), none⟩]
def A_math_bits_Lenr2 : List AOper := [
    ⟨(some 6), .mov (.tmp 0), none⟩,
    ⟨(some 7), .call 200 [(.tmp 6)], none⟩,
    ⟨(some 2), .mov (.tmp 7), none⟩]
def A_math_bits_Len : AFn := ⟨8, 1, [.tmp 2], (.seq (.region A_math_bits_Lenr0) (.seq (.cond (.const (.bool false)) (.seq (.region A_math_bits_Lenr1) .ret) .skip) (.seq (.region A_math_bits_Lenr2) .ret)))⟩
theorem fn_math_bits_Len : FnIs Go.Proofs.Tryz.prog 142 A_math_bits_Len := ⟨by kernel_rfl, Go.Proofs.Tryz.f142, Go.Proofs.Tryz.func142, by kernel_rfl⟩
/- rollbook/tree.kind -/
def A_tree_kindr0 : List AOper := [
    ⟨(some 2), .mov (.const (.int .i64 0)), none⟩]
def A_tree_kindr1 : List AOper := [
    ⟨(some 3), .mov (.tmp 0), none⟩]
def A_tree_kindr2 : List AOper := [
    ⟨(some 2), .mov (.const (.int .i64 1)), none⟩]
def A_tree_kindr3 : List AOper := [
    ⟨(some 2), .mov (.const (.int .i64 2)), none⟩]
def A_tree_kind : AFn := ⟨4, 1, [.tmp 2], (.seq (.region A_tree_kindr0) (.seq (.seq (.region A_tree_kindr1) (.cond (.tmp 3) (.seq (.region A_tree_kindr2) .ret) .skip)) (.seq (.region A_tree_kindr3) .ret)))⟩
theorem fn_tree_kind : FnIs Go.Proofs.Tryz.prog 252 A_tree_kind := ⟨by kernel_rfl, Go.Proofs.Tryz.f252, Go.Proofs.Tryz.func252, by kernel_rfl⟩
/- rollbook/kv.Format -/
def A_kv_Formatr0 : List AOper := [
    ⟨(some 4), .mov (.const (.int .i64 0)), none⟩]
def A_kv_Formatr1 : List AOper := [
    ⟨(some 5), .mov (.tmp 0), none⟩,
    ⟨(some 6), .mov (.tmp 1), none⟩,
    ⟨(some 7), .call 98 [(.tmp 5), (.tmp 6)], none⟩,
    ⟨(some 4), .mov (.tmp 7), none⟩]
def A_kv_Format : AFn := ⟨8, 2, [.tmp 4], (.seq (.region A_kv_Formatr0) (.seq (.region A_kv_Formatr1) .ret))⟩
theorem fn_kv_Format : FnIs Go.Proofs.Tryz.prog 42 A_kv_Format := ⟨by kernel_rfl, Go.Proofs.Tryz.f42, Go.Proofs.Tryz.func42, by kernel_rfl⟩
/- (*rollbook/kv.DB).Free -/
def A_kv_DB_Freer0 : List AOper := [
    ⟨(some 2), .mov (.const (.slice none 0 0)), none⟩]
def A_kv_DB_Freer1 : List AOper := [
    ⟨(some 3), .mov (.tmp 0), none⟩,
    ⟨(some 4), .nileq .ptr false (.tmp 3) (.const (.ptr none)), none⟩]
def A_kv_DB_Freer2 : List AOper := [
    ⟨(some 2), .mov (.const (.slice none 0 0)), none⟩]
def A_kv_DB_Freer3 : List AOper := [
    ⟨(some 5), .mov (.tmp 0), none⟩,
    ⟨(some 6), .nilck (.tmp 5), none⟩,
    ⟨(some 7), .fadr 2 (.tmp 6), none⟩,
    ⟨(some 8), .load false 1 (.tmp 7), none⟩,
    ⟨(some 9), .call 61 [(.tmp 8)], none⟩,
    ⟨(some 2), .mov (.tmp 9), none⟩]
def A_kv_DB_Free : AFn := ⟨10, 1, [.tmp 2], (.seq (.region A_kv_DB_Freer0) (.seq (.seq (.region A_kv_DB_Freer1) (.cond (.tmp 4) (.seq (.region A_kv_DB_Freer2) .ret) .skip)) (.seq (.region A_kv_DB_Freer3) .ret)))⟩
theorem fn_kv_DB_Free : FnIs Go.Proofs.Tryz.prog 21 A_kv_DB_Free := ⟨by kernel_rfl, Go.Proofs.Tryz.f21, Go.Proofs.Tryz.func21, by kernel_rfl⟩
/- (*rollbook/kv.DB).Live -/
def A_kv_DB_Liver0 : List AOper := [
    ⟨(some 2), .mov (.const (.slice none 0 0)), none⟩]
def A_kv_DB_Liver1 : List AOper := [
    ⟨(some 3), .mov (.tmp 0), none⟩,
    ⟨(some 4), .nileq .ptr false (.tmp 3) (.const (.ptr none)), none⟩]
def A_kv_DB_Liver2 : List AOper := [
    ⟨(some 2), .mov (.const (.slice none 0 0)), none⟩]
def A_kv_DB_Liver3 : List AOper := [
    ⟨(some 5), .mov (.tmp 0), none⟩,
    ⟨(some 6), .nilck (.tmp 5), none⟩,
    ⟨(some 7), .fadr 1 (.tmp 6), none⟩,
    ⟨(some 8), .load false 1 (.tmp 7), none⟩,
    ⟨(some 9), .call 62 [(.tmp 8)], none⟩,
    ⟨(some 2), .mov (.tmp 9), none⟩]
def A_kv_DB_Live : AFn := ⟨10, 1, [.tmp 2], (.seq (.region A_kv_DB_Liver0) (.seq (.seq (.region A_kv_DB_Liver1) (.cond (.tmp 4) (.seq (.region A_kv_DB_Liver2) .ret) .skip)) (.seq (.region A_kv_DB_Liver3) .ret)))⟩
theorem fn_kv_DB_Live : FnIs Go.Proofs.Tryz.prog 22 A_kv_DB_Live := ⟨by kernel_rfl, Go.Proofs.Tryz.f22, Go.Proofs.Tryz.func22, by kernel_rfl⟩
/- maps.Keys[map[int]rollbook/api.Page,int,rollbook/api.Page] -/
def A_maps_Keys_int_api_Pager0 : List AOper := [
    ⟨(some 1), .box (.tmp 0) 1, none⟩,
    ⟨(some 2), .mov (.const (.nilFunc)), none⟩]
def A_maps_Keys_int_api_Pager1 : List AOper := [
    ⟨(some 3), .mkF (.func 124) [] [(.tmp 1)], none⟩,
    ⟨(some 2), .mov (.tmp 3), none⟩]
def A_maps_Keys_int_api_Page : AFn := ⟨4, 1, [.tmp 2], (.seq (.region A_maps_Keys_int_api_Pager0) (.seq (.region A_maps_Keys_int_api_Pager1) .ret))⟩
theorem fn_maps_Keys_int_api_Page : FnIs Go.Proofs.Tryz.prog 64 A_maps_Keys_int_api_Page := ⟨by kernel_rfl, Go.Proofs.Tryz.f64, Go.Proofs.Tryz.func64, by kernel_rfl⟩
/- rollbook/readers.New -/
def A_readers_Newr0 : List AOper := [
    ⟨(some 0), .mov (.const (.ptr none)), none⟩]
def A_readers_Newr1 : List AOper := [
    ⟨(some 1), .build [.int .i64 0, .bool false, .int .i64 0, .bool false, .int .i64 0, .bool false, .int .i64 0, .bool false] [], none⟩,
    ⟨(some 2), .box (.tmp 1) 8, none⟩,
    ⟨(some 0), .mov (.tmp 2), none⟩]
def A_readers_New : AFn := ⟨3, 0, [.tmp 0], (.seq (.region A_readers_Newr0) (.seq (.region A_readers_Newr1) .ret))⟩
theorem fn_readers_New : FnIs Go.Proofs.Tryz.prog 101 A_readers_New := ⟨by kernel_rfl, Go.Proofs.Tryz.f101, Go.Proofs.Tryz.func101, by kernel_rfl⟩
/- rollbook/free.Pieces -/
def A_free_Piecesr0 : List AOper := [
    ⟨(some 2), .mov (.const (.int .i64 0)), none⟩]
def A_free_Piecesr1 : List AOper := [
    ⟨(some 3), .mov (.tmp 0), none⟩,
    ⟨(some 4), .ibin .lss (.tmp 3) (.const (.int .i64 1)), none⟩]
def A_free_Piecesr2 : List AOper := [
    ⟨(some 2), .mov (.const (.int .i64 0)), none⟩]
def A_free_Piecesr3 : List AOper := [
    ⟨(some 5), .mov (.tmp 0), none⟩,
    ⟨(some 6), .ibin .sub (.tmp 5) (.const (.int .i64 1)), none⟩,
    ⟨(some 7), .ibin .quo (.tmp 6) (.const (.int .i64 40)), none⟩,
    ⟨(some 8), .ibin .add (.tmp 7) (.const (.int .i64 1)), none⟩,
    ⟨(some 2), .mov (.tmp 8), none⟩]
def A_free_Pieces : AFn := ⟨9, 1, [.tmp 2], (.seq (.region A_free_Piecesr0) (.seq (.seq (.region A_free_Piecesr1) (.cond (.tmp 4) (.seq (.region A_free_Piecesr2) .ret) .skip)) (.seq (.region A_free_Piecesr3) .ret)))⟩
theorem fn_free_Pieces : FnIs Go.Proofs.Tryz.prog 111 A_free_Pieces := ⟨by kernel_rfl, Go.Proofs.Tryz.f111, Go.Proofs.Tryz.func111, by kernel_rfl⟩
/- rollbook/free.New -/
def A_free_Newr0 : List AOper := [
    ⟨(some 0), .mov (.const (.ptr none)), none⟩]
def A_free_Newr1 : List AOper := [
    ⟨(some 1), .build [.slice none 0 0, .bool false, .bool false, .bool false, .bool false, .bool false, .bool false, .bool false, .bool false, .bool false, .bool false, .bool false, .bool false, .bool false, .bool false, .bool false, .bool false, .bool false, .bool false, .bool false, .bool false, .bool false, .bool false, .bool false, .bool false, .bool false, .bool false, .bool false, .bool false, .bool false, .bool false, .bool false, .bool false, .bool false, .bool false, .bool false, .bool false, .bool false, .bool false, .bool false, .bool false, .bool false, .bool false, .bool false, .bool false, .bool false, .bool false, .bool false, .bool false, .bool false, .bool false, .bool false, .bool false, .bool false, .bool false, .bool false, .bool false, .bool false, .bool false, .bool false, .bool false, .bool false, .bool false, .bool false, .bool false, .bool false, .bool false, .bool false, .bool false, .bool false, .bool false, .bool false, .bool false, .bool false, .bool false, .bool false, .bool false, .bool false, .bool false, .bool false, .bool false, .bool false, .bool false, .bool false, .bool false, .bool false, .bool false, .bool false, .bool false, .bool false, .bool false, .bool false, .bool false, .bool false, .bool false, .bool false, .bool false, .bool false, .bool false, .bool false, .bool false, .bool false, .bool false, .bool false, .bool false, .bool false, .bool false, .bool false, .bool false, .bool false, .bool false, .bool false, .bool false, .bool false, .bool false, .bool false, .bool false, .bool false, .bool false, .bool false, .bool false, .bool false, .bool false, .bool false, .bool false, .bool false, .bool false, .bool false, .bool false, .bool false, .bool false, .bool false, .bool false, .bool false, .bool false, .bool false, .bool false, .bool false, .bool false, .bool false, .bool false, .bool false, .bool false, .bool false, .bool false, .bool false, .bool false, .bool false, .bool false, .bool false, .bool false, .bool false, .bool false, .bool false, .bool false, .bool false, .bool false, .bool false, .bool false, .bool false, .bool false, .bool false, .bool false, .bool false, .bool false, .bool false, .bool false, .bool false, .bool false, .bool false, .bool false, .bool false, .bool false, .bool false, .bool false, .bool false, .bool false, .bool false, .bool false, .bool false, .bool false, .bool false, .bool false, .bool false, .bool false, .bool false, .bool false, .bool false, .bool false, .bool false, .bool false, .bool false, .bool false, .bool false, .bool false, .bool false, .bool false, .bool false, .bool false, .bool false, .bool false, .bool false, .bool false, .bool false, .bool false, .bool false, .bool false, .bool false, .bool false, .bool false, .bool false, .bool false, .bool false, .bool false, .bool false, .bool false, .bool false, .bool false, .bool false, .bool false, .bool false, .bool false, .bool false, .bool false, .bool false, .bool false, .bool false, .bool false, .bool false, .bool false, .bool false, .bool false, .bool false, .bool false, .bool false, .bool false, .bool false, .bool false, .bool false, .bool false, .bool false, .bool false, .bool false, .bool false, .bool false, .bool false, .bool false, .bool false, .bool false, .bool false, .bool false, .bool false, .bool false, .bool false, .bool false, .bool false, .bool false, .bool false, .bool false, .bool false, .bool false, .bool false, .bool false, .bool false, .bool false, .bool false, .bool false, .bool false, .bool false, .bool false, .bool false, .bool false, .bool false, .bool false, .bool false, .bool false, .bool false, .bool false, .bool false, .bool false, .bool false, .bool false, .bool false, .bool false, .bool false, .bool false, .bool false, .bool false, .bool false, .bool false, .bool false, .bool false, .bool false, .bool false, .bool false, .bool false, .bool false, .bool false, .bool false, .bool false, .bool false, .bool false, .bool false, .bool false, .bool false, .bool false, .bool false, .bool false, .bool false, .bool false, .bool false, .bool false, .bool false, .bool false, .bool false, .bool false, .bool false, .bool false, .bool false, .bool false, .bool false, .bool false, .bool false, .bool false, .bool false, .bool false, .bool false, .bool false, .bool false, .bool false, .bool false, .bool false, .bool false, .bool false, .bool false, .bool false, .bool false, .bool false, .bool false, .bool false, .bool false, .bool false, .bool false, .bool false, .bool false, .bool false, .bool false, .bool false, .bool false, .bool false, .bool false, .bool false, .bool false, .bool false, .bool false, .bool false, .bool false, .bool false, .bool false, .bool false, .bool false, .bool false, .bool false, .bool false, .bool false, .bool false, .bool false, .bool false, .bool false, .bool false, .bool false, .bool false, .bool false, .bool false, .bool false, .bool false, .bool false, .bool false, .bool false, .bool false, .bool false, .bool false, .bool false, .bool false, .bool false, .bool false, .bool false, .bool false, .bool false, .bool false, .bool false, .bool false, .bool false, .bool false, .bool false, .bool false, .bool false, .bool false, .bool false, .bool false, .bool false, .bool false, .bool false, .bool false, .bool false, .bool false, .bool false, .bool false, .bool false, .bool false, .bool false, .bool false, .bool false, .bool false, .bool false, .bool false, .bool false, .bool false, .bool false, .bool false, .bool false, .bool false, .bool false, .bool false, .bool false, .bool false, .bool false, .bool false, .bool false, .bool false, .bool false, .bool false, .bool false, .bool false, .bool false, .bool false, .bool false, .bool false, .bool false, .bool false, .bool false, .bool false, .bool false, .bool false, .bool false, .bool false, .bool false, .bool false, .bool false, .bool false, .bool false, .bool false, .bool false, .bool false, .bool false, .bool false, .bool false, .bool false, .bool false, .bool false, .bool false, .bool false, .bool false, .bool false, .bool false, .bool false, .bool false, .bool false, .bool false, .bool false, .bool false, .bool false, .bool false, .bool false, .bool false, .bool false, .bool false, .bool false, .bool false, .bool false, .bool false, .bool false, .bool false, .bool false, .bool false, .bool false, .bool false, .bool false, .bool false, .bool false, .bool false, .bool false, .bool false, .bool false, .bool false, .bool false, .bool false, .bool false, .bool false, .bool false, .bool false, .bool false, .bool false, .bool false, .bool false, .bool false, .bool false, .bool false, .bool false, .bool false, .bool false, .bool false, .bool false] [], none⟩,
    ⟨(some 2), .box (.tmp 1) 513, none⟩,
    ⟨(some 0), .mov (.tmp 2), none⟩]
def A_free_New : AFn := ⟨3, 0, [.tmp 0], (.seq (.region A_free_Newr0) (.seq (.region A_free_Newr1) .ret))⟩
theorem fn_free_New : FnIs Go.Proofs.Tryz.prog 155 A_free_New := ⟨by kernel_rfl, Go.Proofs.Tryz.f155, Go.Proofs.Tryz.func155, by kernel_rfl⟩
/- maps.Keys[map[string]int,string,int] -/
def A_maps_Keys_string_intr0 : List AOper := [
    ⟨(some 1), .box (.tmp 0) 1, none⟩,
    ⟨(some 2), .mov (.const (.nilFunc)), none⟩]
def A_maps_Keys_string_intr1 : List AOper := [
    ⟨(some 3), .mkF (.func 228) [] [(.tmp 1)], none⟩,
    ⟨(some 2), .mov (.tmp 3), none⟩]
def A_maps_Keys_string_int : AFn := ⟨4, 1, [.tmp 2], (.seq (.region A_maps_Keys_string_intr0) (.seq (.region A_maps_Keys_string_intr1) .ret))⟩
theorem fn_maps_Keys_string_int : FnIs Go.Proofs.Tryz.prog 168 A_maps_Keys_string_int := ⟨by kernel_rfl, Go.Proofs.Tryz.f168, Go.Proofs.Tryz.func168, by kernel_rfl⟩
def KvFT2 : List (Nat × AFn) := [(234, A_sort_Search), (246, A_internal_stringslite_HasPrefix), (48, A_tree_Put), (14, A_kv_DB_Meta), (15, A_kv_DB_Snap), (11, A_kv_DB_Begin), (55, A_pager_Pager_Meta), (106, A_tree_place), (319, A_kv_writing_Make), (98, A_pager_Format), (53, A_pager_Pager_Seal), (50, A_kv_Txn_lay), (109, A_kv_Txn_names), (162, A_tree_parts), (51, A_kv_Txn_write), (17, A_kv_Txn_Get), (169, A_free_List_Take), (209, A_math_bits_Mul64), (12, A_kv_Txn_Put), (235, A_node_Seek_c1), (46, A_kv_Txn_root), (119, A_pager_Pager_Done), (153, A_page_Newest), (104, A_tree_alter), (177, A_crc_Sum), (105, A_tree_Put_c1), (107, A_slices_Insert_api_Cell), (54, A_kv_Txn_done), (84, A_rollbookref11_Put), (43, A_kv_Open), (10, A_rollbooklaw11_begin), (45, A_kv_Txn_mayChange), (110, A_kv_Txn_spare), (44, A_free_List_Copy), (57, A_kv_Snap_may), (122, A_tree_Value), (200, A_math_bits_Len64), (170, A_readers_Table_Oldest), (207, A_strings_Builder_String), (47, A_kv_Txn_end), (210, A_strings_HasPrefix), (126, A_rollbooklaw11_name), (141, A_slices_pdqsortOrdered_int), (318, A_kv_writing_Load), (321, A_kv_still_Load), (20, A_kv_Txn_Over), (41, A_dev_New), (103, A_tree_hold), (79, A_slices_Sort_int), (151, A_dev_Dev_Size), (219, A_tree_bytes), (253, A_node_Bytes), (24, A_kv_Txn_Dirty), (136, A_slices_Grow_int), (150, A_math_bits_Mul), (23, A_kv_Snap_Txn), (100, A_kv_pieces), (102, A_slices_Clone_api_Free), (190, A_slices_insertionSortOrdered_int), (83, A_rollbookref11_Del), (52, A_pager_Pager_Sync), (61, A_free_List_All), (112, A_free_List_Count), (18, A_kv_Snap_Close), (19, A_kv_Txn_Abort), (125, A_rollbooklaw11_value), (142, A_math_bits_Len), (252, A_tree_kind), (42, A_kv_Format), (21, A_kv_DB_Free), (22, A_kv_DB_Live), (64, A_maps_Keys_int_api_Page), (101, A_readers_New), (111, A_free_Pieces), (155, A_free_New), (168, A_maps_Keys_string_int)]
theorem KvFT2_ok : FnL Go.Proofs.Tryz.prog KvFT2 := ⟨fn_sort_Search, fn_internal_stringslite_HasPrefix, fn_tree_Put, fn_kv_DB_Meta, fn_kv_DB_Snap, fn_kv_DB_Begin, fn_pager_Pager_Meta, fn_tree_place, fn_kv_writing_Make, fn_pager_Format, fn_pager_Pager_Seal, fn_kv_Txn_lay, fn_kv_Txn_names, fn_tree_parts, fn_kv_Txn_write, fn_kv_Txn_Get, fn_free_List_Take, fn_math_bits_Mul64, fn_kv_Txn_Put, fn_node_Seek_c1, fn_kv_Txn_root, fn_pager_Pager_Done, fn_page_Newest, fn_tree_alter, fn_crc_Sum, fn_tree_Put_c1, fn_slices_Insert_api_Cell, fn_kv_Txn_done, fn_rollbookref11_Put, fn_kv_Open, fn_rollbooklaw11_begin, fn_kv_Txn_mayChange, fn_kv_Txn_spare, fn_free_List_Copy, fn_kv_Snap_may, fn_tree_Value, fn_math_bits_Len64, fn_readers_Table_Oldest, fn_strings_Builder_String, fn_kv_Txn_end, fn_strings_HasPrefix, fn_rollbooklaw11_name, fn_slices_pdqsortOrdered_int, fn_kv_writing_Load, fn_kv_still_Load, fn_kv_Txn_Over, fn_dev_New, fn_tree_hold, fn_slices_Sort_int, fn_dev_Dev_Size, fn_tree_bytes, fn_node_Bytes, fn_kv_Txn_Dirty, fn_slices_Grow_int, fn_math_bits_Mul, fn_kv_Snap_Txn, fn_kv_pieces, fn_slices_Clone_api_Free, fn_slices_insertionSortOrdered_int, fn_rollbookref11_Del, fn_pager_Pager_Sync, fn_free_List_All, fn_free_List_Count, fn_kv_Snap_Close, fn_kv_Txn_Abort, fn_rollbooklaw11_value, fn_math_bits_Len, fn_tree_kind, fn_kv_Format, fn_kv_DB_Free, fn_kv_DB_Live, fn_maps_Keys_int_api_Page, fn_readers_New, fn_free_Pieces, fn_free_New, fn_maps_Keys_string_int, trivial⟩
end Go.Ai
