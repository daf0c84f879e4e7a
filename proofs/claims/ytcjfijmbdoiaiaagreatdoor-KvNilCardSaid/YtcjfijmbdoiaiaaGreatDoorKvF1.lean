/- The texts of functions, read: part 1. -/
import Derived.Test.YtcjfijmbdoiaiaaGreatDoorWkSum
import Derived.Test.YtcjfijmbdoiaiaaGreatDoorRbAi35
set_option linter.unusedSimpArgs false
set_option linter.unusedVariables false
namespace Go.Ai
/- rollbook/page.lay -/
def A_page_layr0 : List AOper := [
    ⟨(some 4), .mov (.const (.str [])), none⟩]
def A_page_layr1 : List AOper := [
    ⟨(some 7), .mov (.tmp 1), none⟩,
    ⟨(some 8), .len .sl (.tmp 7), none⟩,
    ⟨(some 9), .mov (.const (.int .i64 0)), none⟩]
def A_page_layr2 : List AOper := [
    ⟨(some 10), .ibin .lss (.tmp 9) (.tmp 8), none⟩]
def A_page_layr3 : List AOper := [
    ⟨(some 11), .iadrS 2 (.tmp 7) (.tmp 9), none⟩,
    ⟨(some 12), .load true 2 (.tmp 11), none⟩,
    ⟨(some 6), .alloc [.int .i64 0, .int .i64 0] 2 268, none⟩,
    ⟨none, .store 2 (.tmp 6) (.tmp 12), none⟩]
def A_page_layr4 : List AOper := [
    ⟨(some 14), .mov (.tmp 0), none⟩,
    ⟨(some 15), .fadr 0 (.tmp 6), none⟩,
    ⟨(some 16), .load false 1 (.tmp 15), none⟩,
    ⟨(some 17), .conv .u64 (.tmp 16), none⟩,
    ⟨(some 18), .fadr 1 (.tmp 6), none⟩,
    ⟨(some 19), .load false 1 (.tmp 18), none⟩,
    ⟨(some 20), .call 160 [(.tmp 14), (.tmp 17), (.tmp 19)], none⟩,
    ⟨(some 13), .mov (.tmp 20), none⟩,
    ⟨(some 21), .extr (.tmp 13) 0, none⟩,
    ⟨(some 22), .extr (.tmp 13) 1, none⟩,
    ⟨(some 0), .mov (.tmp 21), none⟩]
def A_page_layc5 : AC := (.block 1 (.seq (.region A_page_layr3) (.region A_page_layr4)))
def A_page_layr6 : List AOper := [
    ⟨(some 23), .ibin .add (.tmp 9) (.const (.int .i64 1)), none⟩,
    ⟨(some 9), .mov (.tmp 23), none⟩]
def A_page_layl7 : AC := (.seq (.region A_page_layr2) (.seq (.cond (.tmp 10) .skip (.exit 0)) (.seq A_page_layc5 (.region A_page_layr6))))
def A_page_layc8 : AC := (.block 0 (.loop A_page_layl7))
def A_page_layr9 : List AOper := [
    ⟨(some 24), .mov (.tmp 0), none⟩,
    ⟨(some 4), .mov (.tmp 24), none⟩]
def A_page_lay : AFn := ⟨25, 2, [.tmp 4], (.seq (.region A_page_layr0) (.seq (.seq (.region A_page_layr1) A_page_layc8) (.seq (.region A_page_layr9) .ret)))⟩
theorem fn_page_lay : FnIs Go.Proofs.Tryz.prog 175 A_page_lay := ⟨by kernel_rfl, Go.Proofs.Tryz.f175, Go.Proofs.Tryz.func175, by kernel_rfl⟩
/- rollbook/field.TakeText -/
def A_field_TakeTextr0 : List AOper := [
    ⟨(some 4), .mov (.const (.str [])), none⟩,
    ⟨(some 5), .mov (.const (.int .i64 0)), none⟩,
    ⟨(some 6), .mov (.const (.int .i64 0)), none⟩]
def A_field_TakeTextr1 : List AOper := [
    ⟨(some 11), .mov (.tmp 0), none⟩,
    ⟨(some 12), .mov (.tmp 1), none⟩,
    ⟨(some 13), .call 120 [(.tmp 11), (.tmp 12), (.const (.int .i64 2))], none⟩,
    ⟨(some 10), .mov (.tmp 13), none⟩,
    ⟨(some 14), .extr (.tmp 10) 0, none⟩,
    ⟨(some 15), .extr (.tmp 10) 1, none⟩,
    ⟨(some 7), .mov (.tmp 14), none⟩,
    ⟨(some 8), .mov (.tmp 15), none⟩]
def A_field_TakeTextr2 : List AOper := [
    ⟨(some 17), .mov (.tmp 8), none⟩,
    ⟨(some 18), .ibin .neq (.tmp 17) (.const (.int .i64 0)), none⟩,
    ⟨(some 16), .mov (.tmp 18), none⟩]
def A_field_TakeTextr3 : List AOper := [
    ⟨(some 19), .mov (.tmp 8), none⟩,
    ⟨(some 4), .mov (.const (.str [])), none⟩,
    ⟨(some 5), .mov (.const (.int .i64 0)), none⟩,
    ⟨(some 6), .mov (.tmp 19), none⟩]
def A_field_TakeTextr4 : List AOper := [
    ⟨(some 21), .mov (.tmp 0), none⟩,
    ⟨(some 22), .len .str (.tmp 21), none⟩,
    ⟨(some 23), .mov (.tmp 1), none⟩,
    ⟨(some 24), .ibin .sub (.tmp 22) (.tmp 23), none⟩,
    ⟨(some 25), .ibin .sub (.tmp 24) (.const (.int .i64 2)), none⟩,
    ⟨(some 26), .conv .u64 (.tmp 25), none⟩,
    ⟨(some 27), .mov (.tmp 7), none⟩,
    ⟨(some 28), .ibin .lss (.tmp 26) (.tmp 27), none⟩,
    ⟨(some 20), .mov (.tmp 28), none⟩]
def A_field_TakeTextr5 : List AOper := [
    ⟨(some 4), .mov (.const (.str [])), none⟩,
    ⟨(some 5), .mov (.const (.int .i64 0)), none⟩,
    ⟨(some 6), .mov (.const (.int .i64 3)), none⟩]
def A_field_TakeTextc6 : AC := (.block 0 (.seq (.region A_field_TakeTextr2) (.cond (.tmp 16) (.seq (.region A_field_TakeTextr3) .ret) (.seq (.region A_field_TakeTextr4) (.cond (.tmp 20) (.seq (.region A_field_TakeTextr5) .ret) .skip)))))
def A_field_TakeTextr7 : List AOper := [
    ⟨(some 29), .mov (.tmp 1), none⟩,
    ⟨(some 30), .ibin .add (.tmp 29) (.const (.int .i64 2)), none⟩,
    ⟨(some 9), .mov (.tmp 30), none⟩]
def A_field_TakeTextr8 : List AOper := [
    ⟨(some 31), .mov (.tmp 0), none⟩,
    ⟨(some 32), .mov (.tmp 9), none⟩,
    ⟨(some 33), .mov (.tmp 9), none⟩,
    ⟨(some 34), .mov (.tmp 7), none⟩,
    ⟨(some 35), .conv .i64 (.tmp 34), none⟩,
    ⟨(some 36), .ibin .add (.tmp 33) (.tmp 35), none⟩,
    ⟨(some 37), .slS (.tmp 31) (some (.tmp 32)) (some (.tmp 36)), none⟩,
    ⟨(some 38), .mov (.tmp 9), none⟩,
    ⟨(some 39), .mov (.tmp 7), none⟩,
    ⟨(some 40), .conv .i64 (.tmp 39), none⟩,
    ⟨(some 41), .ibin .add (.tmp 38) (.tmp 40), none⟩,
    ⟨(some 4), .mov (.tmp 37), none⟩,
    ⟨(some 5), .mov (.tmp 41), none⟩,
    ⟨(some 6), .mov (.const (.int .i64 0)), none⟩]
def A_field_TakeText : AFn := ⟨42, 2, [.tmp 4, .tmp 5, .tmp 6], (.seq (.region A_field_TakeTextr0) (.seq (.region A_field_TakeTextr1) (.seq A_field_TakeTextc6 (.seq (.region A_field_TakeTextr7) (.seq (.region A_field_TakeTextr8) .ret)))))⟩
theorem fn_field_TakeText : FnIs Go.Proofs.Tryz.prog 280 A_field_TakeText := ⟨by kernel_rfl, Go.Proofs.Tryz.f280, Go.Proofs.Tryz.func280, by kernel_rfl⟩
/- (*rollbook/dev.Dev).Write -/
def A_dev_Dev_Writer0 : List AOper := [
    ⟨(some 6), .mov (.const (.int .i64 0)), none⟩]
def A_dev_Dev_Writer1 : List AOper := [
    ⟨(some 8), .mov (.tmp 0), none⟩,
    ⟨(some 9), .nileq .ptr false (.tmp 8) (.const (.ptr none)), none⟩,
    ⟨(some 7), .mov (.tmp 9), none⟩]
def A_dev_Dev_Writer2 : List AOper := [
    ⟨(some 6), .mov (.const (.int .i64 2)), none⟩]
def A_dev_Dev_Writer3 : List AOper := [
    ⟨(some 11), .mov (.tmp 0), none⟩,
    ⟨(some 12), .mov (.tmp 1), none⟩,
    ⟨(some 13), .call 178 [(.tmp 11), (.tmp 12)], none⟩,
    ⟨(some 14), .un .not (.tmp 13), none⟩,
    ⟨(some 15), .mov (.tmp 14), none⟩,
    ⟨(some 16), .mov (.tmp 2), (some (15, false))⟩,
    ⟨(some 17), .len .str (.tmp 16), (some (15, false))⟩,
    ⟨(some 18), .ibin .neq (.tmp 17) (.const (.int .i64 128)), (some (15, false))⟩,
    ⟨(some 19), .pick (.tmp 15) (.const (.bool true)) (.tmp 18), none⟩,
    ⟨(some 10), .mov (.tmp 19), none⟩]
def A_dev_Dev_Writer4 : List AOper := [
    ⟨(some 6), .mov (.const (.int .i64 1)), none⟩]
def A_dev_Dev_Writer5 : List AOper := [
    ⟨(some 21), .mov (.tmp 0), none⟩,
    ⟨(some 22), .call 173 [(.tmp 21)], none⟩,
    ⟨(some 23), .un .not (.tmp 22), none⟩,
    ⟨(some 20), .mov (.tmp 23), none⟩]
def A_dev_Dev_Writer6 : List AOper := [
    ⟨(some 6), .mov (.const (.int .i64 6)), none⟩]
def A_dev_Dev_Writec7 : AC := (.block 0 (.seq (.region A_dev_Dev_Writer1) (.cond (.tmp 7) (.seq (.region A_dev_Dev_Writer2) .ret) (.seq (.region A_dev_Dev_Writer3) (.cond (.tmp 10) (.seq (.region A_dev_Dev_Writer4) .ret) (.seq (.region A_dev_Dev_Writer5) (.cond (.tmp 20) (.seq (.region A_dev_Dev_Writer6) .ret) .skip)))))))
def A_dev_Dev_Writer8 : List AOper := [
    ⟨(some 24), .mov (.tmp 0), none⟩,
    ⟨(some 25), .nilck (.tmp 24), none⟩,
    ⟨(some 26), .fadr 1 (.tmp 25), none⟩,
    ⟨(some 27), .load false 1 (.tmp 26), none⟩,
    ⟨(some 28), .mov (.tmp 1), none⟩,
    ⟨(some 29), .mov (.tmp 0), none⟩,
    ⟨(some 30), .nilck (.tmp 29), none⟩,
    ⟨(some 31), .fadr 1 (.tmp 30), none⟩,
    ⟨(some 32), .load false 1 (.tmp 31), none⟩,
    ⟨(some 33), .mov (.tmp 1), none⟩,
    ⟨(some 34), .look .int (.slice none 0 0) false (.tmp 32) (.tmp 33), none⟩,
    ⟨(some 35), .mov (.tmp 2), none⟩,
    ⟨(some 36), .buildSl [.str []] 1 1 [(0, 1, (.tmp 35))], none⟩,
    ⟨(some 37), .app 1 16 9 (.tmp 34) (.tmp 36), none⟩,
    ⟨none, .mupd .int (.tmp 27) (.tmp 28) (.tmp 37), none⟩]
def A_dev_Dev_Writer9 : List AOper := [
    ⟨(some 38), .mov (.tmp 0), none⟩,
    ⟨(some 39), .nilck (.tmp 38), none⟩,
    ⟨(some 40), .fadr 5 (.tmp 39), none⟩,
    ⟨(some 41), .load false 1 (.tmp 40), none⟩,
    ⟨(some 42), .ibin .add (.tmp 41) (.const (.int .i64 1)), none⟩,
    ⟨(some 43), .nilck (.tmp 38), none⟩,
    ⟨(some 44), .fadr 5 (.tmp 43), none⟩,
    ⟨none, .store 1 (.tmp 44) (.tmp 42), none⟩]
def A_dev_Dev_Writer10 : List AOper := [
    ⟨(some 6), .mov (.const (.int .i64 0)), none⟩]
def A_dev_Dev_Write : AFn := ⟨45, 3, [.tmp 6], (.seq (.region A_dev_Dev_Writer0) (.seq A_dev_Dev_Writec7 (.seq (.draw A_dev_Dev_Writer8 [0, 1, 3, 7, 0, 0, 32, 96, 224, 0, 992, 0, 2048, 8160, 16383]) (.seq (.region A_dev_Dev_Writer9) (.seq (.region A_dev_Dev_Writer10) .ret)))))⟩
theorem fn_dev_Dev_Write : FnIs Go.Proofs.Tryz.prog 118 A_dev_Dev_Write := ⟨by kernel_rfl, Go.Proofs.Tryz.f118, Go.Proofs.Tryz.func118, by kernel_rfl⟩
/- rollbook/node.uncell -/
def A_node_uncellr0 : List AOper := [
    ⟨(some 6), .alloc [.str [], .str [], .int .i64 0, .int .i64 0, .int .i64 0] 5 170, none⟩,
    ⟨(some 7), .mov (.const (.bool false)), none⟩]
def A_node_uncellr1 : List AOper := [
    ⟨(some 8), .alloc [.str [], .str [], .int .i64 0, .int .i64 0, .int .i64 0] 5 170, none⟩]
def A_node_uncellr2 : List AOper := [
    ⟨(some 19), .mov (.tmp 1), none⟩,
    ⟨(some 20), .mov (.tmp 2), none⟩,
    ⟨(some 21), .call 280 [(.tmp 19), (.tmp 20)], none⟩,
    ⟨(some 18), .mov (.tmp 21), none⟩,
    ⟨(some 22), .extr (.tmp 18) 0, none⟩,
    ⟨(some 23), .extr (.tmp 18) 1, none⟩,
    ⟨(some 24), .extr (.tmp 18) 2, none⟩,
    ⟨(some 9), .mov (.tmp 22), none⟩,
    ⟨(some 2), .mov (.tmp 23), none⟩,
    ⟨(some 10), .mov (.tmp 24), none⟩]
def A_node_uncellr3 : List AOper := [
    ⟨(some 25), .mov (.tmp 10), none⟩,
    ⟨(some 26), .ibin .neq (.tmp 25) (.const (.int .i64 0)), none⟩]
def A_node_uncellr4 : List AOper := [
    ⟨(some 27), .load true 5 (.tmp 8), none⟩,
    ⟨none, .store 5 (.tmp 6) (.tmp 27), none⟩,
    ⟨(some 7), .mov (.const (.bool false)), none⟩]
def A_node_uncellr5 : List AOper := [
    ⟨(some 28), .mov (.tmp 9), none⟩,
    ⟨(some 29), .fadr 0 (.tmp 8), none⟩,
    ⟨none, .store 1 (.tmp 29) (.tmp 28), none⟩]
def A_node_uncellr6 : List AOper := [
    ⟨(some 30), .mov (.tmp 0), none⟩,
    ⟨(some 31), .un .not (.tmp 30), none⟩]
def A_node_uncellr7 : List AOper := [
    ⟨(some 33), .mov (.tmp 1), none⟩,
    ⟨(some 34), .mov (.tmp 2), none⟩,
    ⟨(some 35), .call 120 [(.tmp 33), (.tmp 34), (.const (.int .i64 4))], none⟩,
    ⟨(some 32), .mov (.tmp 35), none⟩,
    ⟨(some 36), .extr (.tmp 32) 0, none⟩,
    ⟨(some 37), .extr (.tmp 32) 1, none⟩,
    ⟨(some 11), .mov (.tmp 36), none⟩,
    ⟨(some 12), .mov (.tmp 37), none⟩]
def A_node_uncellr8 : List AOper := [
    ⟨(some 38), .mov (.tmp 11), none⟩,
    ⟨(some 39), .conv .i64 (.tmp 38), none⟩,
    ⟨(some 40), .fadr 4 (.tmp 8), none⟩,
    ⟨none, .store 1 (.tmp 40) (.tmp 39), none⟩]
def A_node_uncellr9 : List AOper := [
    ⟨(some 41), .load true 5 (.tmp 8), none⟩,
    ⟨(some 42), .mov (.tmp 12), none⟩,
    ⟨(some 43), .ibin .eql (.tmp 42) (.const (.int .i64 0)), none⟩,
    ⟨none, .store 5 (.tmp 6) (.tmp 41), none⟩,
    ⟨(some 7), .mov (.tmp 43), none⟩]
def A_node_uncellr10 : List AOper := [
    ⟨(some 45), .mov (.tmp 1), none⟩,
    ⟨(some 46), .mov (.tmp 2), none⟩,
    ⟨(some 47), .call 120 [(.tmp 45), (.tmp 46), (.const (.int .i64 1))], none⟩,
    ⟨(some 44), .mov (.tmp 47), none⟩,
    ⟨(some 48), .extr (.tmp 44) 0, none⟩,
    ⟨(some 49), .extr (.tmp 44) 1, none⟩,
    ⟨(some 13), .mov (.tmp 48), none⟩,
    ⟨(some 10), .mov (.tmp 49), none⟩]
def A_node_uncellr11 : List AOper := [
    ⟨(some 50), .mov (.tmp 10), none⟩,
    ⟨(some 51), .ibin .neq (.tmp 50) (.const (.int .i64 0)), none⟩]
def A_node_uncellr12 : List AOper := [
    ⟨(some 52), .load true 5 (.tmp 8), none⟩,
    ⟨none, .store 5 (.tmp 6) (.tmp 52), none⟩,
    ⟨(some 7), .mov (.const (.bool false)), none⟩]
def A_node_uncellr13 : List AOper := [
    ⟨(some 53), .mov (.tmp 13), none⟩,
    ⟨(some 54), .ibin .eql (.tmp 53) (.const (.int .u64 1)), none⟩]
def A_node_uncellr14 : List AOper := [
    ⟨(some 56), .mov (.tmp 1), none⟩,
    ⟨(some 57), .mov (.tmp 2), none⟩,
    ⟨(some 58), .ibin .add (.tmp 57) (.const (.int .i64 1)), none⟩,
    ⟨(some 59), .call 120 [(.tmp 56), (.tmp 58), (.const (.int .i64 4))], none⟩,
    ⟨(some 55), .mov (.tmp 59), none⟩,
    ⟨(some 60), .extr (.tmp 55) 0, none⟩,
    ⟨(some 61), .extr (.tmp 55) 1, none⟩,
    ⟨(some 14), .mov (.tmp 60), none⟩,
    ⟨(some 15), .mov (.tmp 61), none⟩]
def A_node_uncellr15 : List AOper := [
    ⟨(some 63), .mov (.tmp 1), none⟩,
    ⟨(some 64), .mov (.tmp 2), none⟩,
    ⟨(some 65), .ibin .add (.tmp 64) (.const (.int .i64 5)), none⟩,
    ⟨(some 66), .call 120 [(.tmp 63), (.tmp 65), (.const (.int .i64 4))], none⟩,
    ⟨(some 62), .mov (.tmp 66), none⟩,
    ⟨(some 67), .extr (.tmp 62) 0, none⟩,
    ⟨(some 68), .extr (.tmp 62) 1, none⟩,
    ⟨(some 16), .mov (.tmp 67), none⟩,
    ⟨(some 17), .mov (.tmp 68), none⟩]
def A_node_uncellr16 : List AOper := [
    ⟨(some 69), .mov (.tmp 14), none⟩,
    ⟨(some 70), .conv .i64 (.tmp 69), none⟩,
    ⟨(some 71), .mov (.tmp 16), none⟩,
    ⟨(some 72), .conv .i64 (.tmp 71), none⟩,
    ⟨(some 73), .fadr 2 (.tmp 8), none⟩,
    ⟨none, .store 1 (.tmp 73) (.tmp 70), none⟩,
    ⟨(some 74), .fadr 3 (.tmp 8), none⟩,
    ⟨none, .store 1 (.tmp 74) (.tmp 72), none⟩]
def A_node_uncellr17 : List AOper := [
    ⟨(some 75), .load true 5 (.tmp 8), none⟩,
    ⟨(some 76), .mov (.tmp 15), none⟩,
    ⟨(some 77), .ibin .eql (.tmp 76) (.const (.int .i64 0)), none⟩,
    ⟨(some 78), .mov (.tmp 77), none⟩,
    ⟨(some 79), .mov (.tmp 17), (some (78, true))⟩,
    ⟨(some 80), .ibin .eql (.tmp 79) (.const (.int .i64 0)), (some (78, true))⟩,
    ⟨(some 81), .pick (.tmp 78) (.tmp 80) (.const (.bool false)), none⟩,
    ⟨none, .store 5 (.tmp 6) (.tmp 75), none⟩,
    ⟨(some 7), .mov (.tmp 81), none⟩]
def A_node_uncellr18 : List AOper := [
    ⟨(some 83), .mov (.tmp 1), none⟩,
    ⟨(some 84), .mov (.tmp 2), none⟩,
    ⟨(some 85), .ibin .add (.tmp 84) (.const (.int .i64 1)), none⟩,
    ⟨(some 86), .call 280 [(.tmp 83), (.tmp 85)], none⟩,
    ⟨(some 82), .mov (.tmp 86), none⟩,
    ⟨(some 87), .extr (.tmp 82) 0, none⟩,
    ⟨(some 88), .extr (.tmp 82) 1, none⟩,
    ⟨(some 89), .extr (.tmp 82) 2, none⟩,
    ⟨(some 90), .fadr 1 (.tmp 8), none⟩,
    ⟨none, .store 1 (.tmp 90) (.tmp 87), none⟩,
    ⟨(some 10), .mov (.tmp 89), none⟩]
def A_node_uncellr19 : List AOper := [
    ⟨(some 91), .load true 5 (.tmp 8), none⟩,
    ⟨(some 92), .mov (.tmp 10), none⟩,
    ⟨(some 93), .ibin .eql (.tmp 92) (.const (.int .i64 0)), none⟩,
    ⟨none, .store 5 (.tmp 6) (.tmp 91), none⟩,
    ⟨(some 7), .mov (.tmp 93), none⟩]
def A_node_uncell : AFn := ⟨94, 3, [.cell 6 true 5, .tmp 7], (.seq (.region A_node_uncellr0) (.seq (.region A_node_uncellr1) (.seq (.region A_node_uncellr2) (.seq (.seq (.region A_node_uncellr3) (.cond (.tmp 26) (.seq (.region A_node_uncellr4) .ret) .skip)) (.seq (.region A_node_uncellr5) (.seq (.seq (.region A_node_uncellr6) (.cond (.tmp 31) (.seq (.region A_node_uncellr7) (.seq (.region A_node_uncellr8) (.seq (.region A_node_uncellr9) .ret))) .skip)) (.seq (.region A_node_uncellr10) (.seq (.seq (.region A_node_uncellr11) (.cond (.tmp 51) (.seq (.region A_node_uncellr12) .ret) .skip)) (.seq (.seq (.region A_node_uncellr13) (.cond (.tmp 54) (.seq (.region A_node_uncellr14) (.seq (.region A_node_uncellr15) (.seq (.region A_node_uncellr16) (.seq (.region A_node_uncellr17) .ret)))) .skip)) (.seq (.region A_node_uncellr18) (.seq (.region A_node_uncellr19) .ret)))))))))))⟩
theorem fn_node_uncell : FnIs Go.Proofs.Tryz.prog 261 A_node_uncell := ⟨by kernel_rfl, Go.Proofs.Tryz.f261, Go.Proofs.Tryz.func261, by kernel_rfl⟩
/- rollbook/node.Right -/
def A_node_Rightr0 : List AOper := [
    ⟨(some 4), .mov (.const (.bool false)), none⟩]
def A_node_Rightr1 : List AOper := [
    ⟨(some 8), .mov (.tmp 0), none⟩,
    ⟨(some 9), .un .not (.tmp 8), none⟩,
    ⟨(some 10), .mov (.tmp 9), none⟩,
    ⟨(some 11), .mov (.tmp 1), (some (10, true))⟩,
    ⟨(some 12), .len .sl (.tmp 11), (some (10, true))⟩,
    ⟨(some 13), .ibin .eql (.tmp 12) (.const (.int .i64 0)), (some (10, true))⟩,
    ⟨(some 14), .mov (.tmp 13), (some (10, true))⟩,
    ⟨(some 15), .mov (.tmp 1), (some (14, false))⟩,
    ⟨(some 16), .iadrS 5 (.tmp 15) (.const (.int .i64 0)), (some (14, false))⟩,
    ⟨(some 17), .fadr 0 (.tmp 16), (some (14, false))⟩,
    ⟨(some 18), .load false 1 (.tmp 17), (some (14, false))⟩,
    ⟨(some 19), .sbin .neq (.tmp 18) (.const (.str [])), (some (14, false))⟩,
    ⟨(some 20), .pick (.tmp 14) (.const (.bool true)) (.tmp 19), (some (10, true))⟩,
    ⟨(some 21), .pick (.tmp 10) (.tmp 20) (.const (.bool false)), none⟩]
def A_node_Rightr2 : List AOper := [
    ⟨(some 4), .mov (.const (.bool false)), none⟩]
def A_node_Rightr3 : List AOper := [
    ⟨(some 22), .mov (.tmp 1), none⟩,
    ⟨(some 23), .len .sl (.tmp 22), none⟩,
    ⟨(some 24), .mov (.const (.int .i64 0)), none⟩]
def A_node_Rightr4 : List AOper := [
    ⟨(some 25), .ibin .lss (.tmp 24) (.tmp 23), none⟩]
def A_node_Rightr5 : List AOper := [
    ⟨(some 26), .mov (.tmp 24), none⟩,
    ⟨(some 27), .iadrS 5 (.tmp 22) (.tmp 24), none⟩,
    ⟨(some 28), .load true 5 (.tmp 27), none⟩,
    ⟨(some 6), .alloc [.str [], .str [], .int .i64 0, .int .i64 0, .int .i64 0] 5 170, none⟩,
    ⟨(some 5), .mov (.tmp 26), none⟩,
    ⟨none, .store 5 (.tmp 6) (.tmp 28), none⟩]
def A_node_Rightr6 : List AOper := [
    ⟨(some 29), .load true 5 (.tmp 6), none⟩,
    ⟨(some 30), .call 286 [(.tmp 29)], none⟩,
    ⟨(some 7), .mov (.tmp 30), none⟩]
def A_node_Rightr7 : List AOper := [
    ⟨(some 31), .mov (.tmp 0), none⟩]
def A_node_Rightr8 : List AOper := [
    ⟨(some 32), .load true 5 (.tmp 6), none⟩,
    ⟨(some 33), .call 287 [(.tmp 32)], none⟩,
    ⟨(some 7), .mov (.tmp 33), none⟩]
def A_node_Rightr9 : List AOper := [
    ⟨(some 34), .mov (.tmp 7), none⟩,
    ⟨(some 35), .un .not (.tmp 34), none⟩,
    ⟨(some 36), .mov (.tmp 35), none⟩,
    ⟨(some 37), .mov (.tmp 5), (some (36, false))⟩,
    ⟨(some 38), .ibin .gtr (.tmp 37) (.const (.int .i64 0)), (some (36, false))⟩,
    ⟨(some 39), .mov (.tmp 38), (some (36, false))⟩,
    ⟨(some 40), .fadr 0 (.tmp 6), (some (39, true))⟩,
    ⟨(some 41), .load false 1 (.tmp 40), (some (39, true))⟩,
    ⟨(some 42), .mov (.tmp 1), (some (39, true))⟩,
    ⟨(some 43), .mov (.tmp 5), (some (39, true))⟩,
    ⟨(some 44), .ibin .sub (.tmp 43) (.const (.int .i64 1)), (some (39, true))⟩,
    ⟨(some 45), .iadrS 5 (.tmp 42) (.tmp 44), (some (39, true))⟩,
    ⟨(some 46), .fadr 0 (.tmp 45), (some (39, true))⟩,
    ⟨(some 47), .load false 1 (.tmp 46), (some (39, true))⟩,
    ⟨(some 48), .sbin .leq (.tmp 41) (.tmp 47), (some (39, true))⟩,
    ⟨(some 49), .pick (.tmp 39) (.tmp 48) (.const (.bool false)), (some (36, false))⟩,
    ⟨(some 50), .pick (.tmp 36) (.const (.bool true)) (.tmp 49), none⟩]
def A_node_Rightr10 : List AOper := [
    ⟨(some 4), .mov (.const (.bool false)), none⟩]
def A_node_Rightc11 : AC := (.block 1 (.seq (.region A_node_Rightr5) (.seq (.region A_node_Rightr6) (.seq (.seq (.region A_node_Rightr7) (.cond (.tmp 31) (.region A_node_Rightr8) .skip)) (.seq (.draw A_node_Rightr9 [0, 1, 3, 7, 15, 31, 63, 127, 63, 63, 575, 1855, 3903, 7999, 16383, 32767, 65535]) (.cond (.tmp 50) (.seq (.region A_node_Rightr10) .ret) .skip))))))
def A_node_Rightr12 : List AOper := [
    ⟨(some 51), .ibin .add (.tmp 24) (.const (.int .i64 1)), none⟩,
    ⟨(some 24), .mov (.tmp 51), none⟩]
def A_node_Rightl13 : AC := (.seq (.region A_node_Rightr4) (.seq (.cond (.tmp 25) .skip (.exit 0)) (.seq A_node_Rightc11 (.region A_node_Rightr12))))
def A_node_Rightc14 : AC := (.block 0 (.loop A_node_Rightl13))
def A_node_Rightr15 : List AOper := [
    ⟨(some 4), .mov (.const (.bool true)), none⟩]
def A_node_Right : AFn := ⟨52, 2, [.tmp 4], (.seq (.region A_node_Rightr0) (.seq (.seq (.region A_node_Rightr1) (.cond (.tmp 21) (.seq (.region A_node_Rightr2) .ret) .skip)) (.seq (.seq (.region A_node_Rightr3) A_node_Rightc14) (.seq (.region A_node_Rightr15) .ret))))⟩
theorem fn_node_Right : FnIs Go.Proofs.Tryz.prog 268 A_node_Right := ⟨by kernel_rfl, Go.Proofs.Tryz.f268, Go.Proofs.Tryz.func268, by kernel_rfl⟩
/- (*rollbook/dev.Dev).is -/
def A_dev_Dev_isr0 : List AOper := [
    ⟨(some 4), .mov (.const (.bool false)), none⟩]
def A_dev_Dev_isr1 : List AOper := [
    ⟨(some 5), .mov (.tmp 0), none⟩,
    ⟨(some 6), .nileq .ptr true (.tmp 5) (.const (.ptr none)), none⟩,
    ⟨(some 7), .mov (.tmp 6), none⟩,
    ⟨(some 8), .mov (.tmp 1), (some (7, true))⟩,
    ⟨(some 9), .ibin .geq (.tmp 8) (.const (.int .i64 0)), (some (7, true))⟩,
    ⟨(some 10), .pick (.tmp 7) (.tmp 9) (.const (.bool false)), none⟩,
    ⟨(some 11), .mov (.tmp 10), none⟩,
    ⟨(some 12), .mov (.tmp 1), (some (11, true))⟩,
    ⟨(some 13), .mov (.tmp 0), (some (11, true))⟩,
    ⟨(some 14), .nilck (.tmp 13), (some (11, true))⟩,
    ⟨(some 15), .fadr 0 (.tmp 14), (some (11, true))⟩,
    ⟨(some 16), .load false 1 (.tmp 15), (some (11, true))⟩,
    ⟨(some 17), .len .sl (.tmp 16), (some (11, true))⟩,
    ⟨(some 18), .ibin .lss (.tmp 12) (.tmp 17), (some (11, true))⟩,
    ⟨(some 19), .pick (.tmp 11) (.tmp 18) (.const (.bool false)), none⟩,
    ⟨(some 4), .mov (.tmp 19), none⟩]
def A_dev_Dev_is : AFn := ⟨20, 2, [.tmp 4], (.seq (.region A_dev_Dev_isr0) (.seq (.region A_dev_Dev_isr1) .ret))⟩
theorem fn_dev_Dev_is : FnIs Go.Proofs.Tryz.prog 178 A_dev_Dev_is := ⟨by kernel_rfl, Go.Proofs.Tryz.f178, Go.Proofs.Tryz.func178, by kernel_rfl⟩
/- (*rollbook/dev.Dev).Read -/
def A_dev_Dev_Readr0 : List AOper := [
    ⟨(some 4), .mov (.const (.str [])), none⟩,
    ⟨(some 5), .mov (.const (.int .i64 0)), none⟩]
def A_dev_Dev_Readr1 : List AOper := [
    ⟨(some 8), .mov (.tmp 0), none⟩,
    ⟨(some 9), .nileq .ptr false (.tmp 8) (.const (.ptr none)), none⟩,
    ⟨(some 7), .mov (.tmp 9), none⟩]
def A_dev_Dev_Readr2 : List AOper := [
    ⟨(some 4), .mov (.const (.str [])), none⟩,
    ⟨(some 5), .mov (.const (.int .i64 2)), none⟩]
def A_dev_Dev_Readr3 : List AOper := [
    ⟨(some 11), .mov (.tmp 0), none⟩,
    ⟨(some 12), .mov (.tmp 1), none⟩,
    ⟨(some 13), .call 178 [(.tmp 11), (.tmp 12)], none⟩,
    ⟨(some 14), .un .not (.tmp 13), none⟩,
    ⟨(some 10), .mov (.tmp 14), none⟩]
def A_dev_Dev_Readr4 : List AOper := [
    ⟨(some 4), .mov (.const (.str [])), none⟩,
    ⟨(some 5), .mov (.const (.int .i64 1)), none⟩]
def A_dev_Dev_Readr5 : List AOper := [
    ⟨(some 16), .mov (.tmp 0), none⟩,
    ⟨(some 17), .nilck (.tmp 16), none⟩,
    ⟨(some 18), .fadr 2 (.tmp 17), none⟩,
    ⟨(some 19), .load false 1 (.tmp 18), none⟩,
    ⟨(some 15), .mov (.tmp 19), none⟩]
def A_dev_Dev_Readr6 : List AOper := [
    ⟨(some 4), .mov (.const (.str [])), none⟩,
    ⟨(some 5), .mov (.const (.int .i64 6)), none⟩]
def A_dev_Dev_Readc7 : AC := (.block 0 (.seq (.region A_dev_Dev_Readr1) (.cond (.tmp 7) (.seq (.region A_dev_Dev_Readr2) .ret) (.seq (.region A_dev_Dev_Readr3) (.cond (.tmp 10) (.seq (.region A_dev_Dev_Readr4) .ret) (.seq (.region A_dev_Dev_Readr5) (.cond (.tmp 15) (.seq (.region A_dev_Dev_Readr6) .ret) .skip)))))))
def A_dev_Dev_Readr8 : List AOper := [
    ⟨(some 20), .mov (.tmp 0), none⟩,
    ⟨(some 21), .nilck (.tmp 20), none⟩,
    ⟨(some 22), .fadr 1 (.tmp 21), none⟩,
    ⟨(some 23), .load false 1 (.tmp 22), none⟩,
    ⟨(some 24), .mov (.tmp 1), none⟩,
    ⟨(some 25), .look .int (.slice none 0 0) false (.tmp 23) (.tmp 24), none⟩,
    ⟨(some 6), .mov (.tmp 25), none⟩]
def A_dev_Dev_Readr9 : List AOper := [
    ⟨(some 26), .mov (.tmp 6), none⟩,
    ⟨(some 27), .len .sl (.tmp 26), none⟩,
    ⟨(some 28), .ibin .gtr (.tmp 27) (.const (.int .i64 0)), none⟩]
def A_dev_Dev_Readr10 : List AOper := [
    ⟨(some 29), .mov (.tmp 6), none⟩,
    ⟨(some 30), .mov (.tmp 6), none⟩,
    ⟨(some 31), .len .sl (.tmp 30), none⟩,
    ⟨(some 32), .ibin .sub (.tmp 31) (.const (.int .i64 1)), none⟩,
    ⟨(some 33), .iadrS 1 (.tmp 29) (.tmp 32), none⟩,
    ⟨(some 34), .load false 1 (.tmp 33), none⟩,
    ⟨(some 4), .mov (.tmp 34), none⟩,
    ⟨(some 5), .mov (.const (.int .i64 0)), none⟩]
def A_dev_Dev_Readr11 : List AOper := [
    ⟨(some 35), .mov (.tmp 0), none⟩,
    ⟨(some 36), .nilck (.tmp 35), none⟩,
    ⟨(some 37), .fadr 0 (.tmp 36), none⟩,
    ⟨(some 38), .load false 1 (.tmp 37), none⟩,
    ⟨(some 39), .mov (.tmp 1), none⟩,
    ⟨(some 40), .iadrS 1 (.tmp 38) (.tmp 39), none⟩,
    ⟨(some 41), .load false 1 (.tmp 40), none⟩,
    ⟨(some 4), .mov (.tmp 41), none⟩,
    ⟨(some 5), .mov (.const (.int .i64 0)), none⟩]
def A_dev_Dev_Read : AFn := ⟨42, 2, [.tmp 4, .tmp 5], (.seq (.region A_dev_Dev_Readr0) (.seq A_dev_Dev_Readc7 (.seq (.seq (.region A_dev_Dev_Readr8) (.seq (.region A_dev_Dev_Readr9) (.cond (.tmp 28) (.seq (.region A_dev_Dev_Readr10) .ret) .skip))) (.seq (.region A_dev_Dev_Readr11) .ret))))⟩
theorem fn_dev_Dev_Read : FnIs Go.Proofs.Tryz.prog 152 A_dev_Dev_Read := ⟨by kernel_rfl, Go.Proofs.Tryz.f152, Go.Proofs.Tryz.func152, by kernel_rfl⟩
/- rollbook/page.RightMeta$1 -/
def A_page_RightMeta_c1r0 : List AOper := [
    ⟨(some 6), .mov (.const (.bool false)), none⟩]
def A_page_RightMeta_c1r1 : List AOper := [
    ⟨(some 7), .mov (.tmp 0), none⟩,
    ⟨(some 8), .mov (.tmp 1), none⟩,
    ⟨(some 9), .ibin .geq (.tmp 7) (.tmp 8), none⟩,
    ⟨(some 10), .mov (.tmp 9), none⟩,
    ⟨(some 11), .mov (.tmp 0), (some (10, true))⟩,
    ⟨(some 12), .mov (.tmp 2), (some (10, true))⟩,
    ⟨(some 13), .ibin .leq (.tmp 11) (.tmp 12), (some (10, true))⟩,
    ⟨(some 14), .pick (.tmp 10) (.tmp 13) (.const (.bool false)), none⟩,
    ⟨(some 6), .mov (.tmp 14), none⟩]
def A_page_RightMeta_c1 : AFn := ⟨15, 3, [.tmp 6], (.seq (.region A_page_RightMeta_c1r0) (.seq (.region A_page_RightMeta_c1r1) .ret))⟩
theorem fn_page_RightMeta_c1 : FnIs Go.Proofs.Tryz.prog 230 A_page_RightMeta_c1 := ⟨by kernel_rfl, Go.Proofs.Tryz.f230, Go.Proofs.Tryz.func230, by kernel_rfl⟩
/- rollbook/node.Encode -/
def A_node_Encoder0 : List AOper := [
    ⟨(some 4), .mov (.const (.str [])), none⟩,
    ⟨(some 5), .mov (.const (.int .i64 0)), none⟩]
def A_node_Encoder1 : List AOper := [
    ⟨(some 13), .mov (.tmp 0), none⟩,
    ⟨(some 14), .mov (.tmp 1), none⟩,
    ⟨(some 15), .call 268 [(.tmp 13), (.tmp 14)], none⟩,
    ⟨(some 16), .un .not (.tmp 15), none⟩,
    ⟨(some 12), .mov (.tmp 16), none⟩]
def A_node_Encoder2 : List AOper := [
    ⟨(some 4), .mov (.const (.str [])), none⟩,
    ⟨(some 5), .mov (.const (.int .i64 4)), none⟩]
def A_node_Encoder3 : List AOper := [
    ⟨(some 18), .mov (.tmp 0), none⟩,
    ⟨(some 19), .mov (.tmp 1), none⟩,
    ⟨(some 20), .call 254 [(.tmp 18), (.tmp 19)], none⟩,
    ⟨(some 21), .ibin .gtr (.tmp 20) (.const (.int .i64 488)), none⟩,
    ⟨(some 17), .mov (.tmp 21), none⟩]
def A_node_Encoder4 : List AOper := [
    ⟨(some 4), .mov (.const (.str [])), none⟩,
    ⟨(some 5), .mov (.const (.int .i64 5)), none⟩]
def A_node_Encodec5 : AC := (.block 0 (.seq (.region A_node_Encoder1) (.cond (.tmp 12) (.seq (.region A_node_Encoder2) .ret) (.seq (.region A_node_Encoder3) (.cond (.tmp 17) (.seq (.region A_node_Encoder4) .ret) .skip)))))
def A_node_Encoder6 : List AOper := [
    ⟨(some 23), .mov (.tmp 1), none⟩,
    ⟨(some 24), .len .sl (.tmp 23), none⟩,
    ⟨(some 25), .conv .u64 (.tmp 24), none⟩,
    ⟨(some 26), .call 160 [(.const (.str [])), (.tmp 25), (.const (.int .i64 2))], none⟩,
    ⟨(some 22), .mov (.tmp 26), none⟩,
    ⟨(some 27), .extr (.tmp 22) 0, none⟩,
    ⟨(some 28), .extr (.tmp 22) 1, none⟩,
    ⟨(some 6), .mov (.tmp 27), none⟩,
    ⟨(some 7), .mov (.tmp 28), none⟩]
def A_node_Encoder7 : List AOper := [
    ⟨(some 8), .mov (.const (.str [])), none⟩]
def A_node_Encoder8 : List AOper := [
    ⟨(some 29), .mov (.tmp 1), none⟩,
    ⟨(some 30), .len .sl (.tmp 29), none⟩,
    ⟨(some 31), .ibin .mul (.const (.int .i64 2)) (.tmp 30), none⟩,
    ⟨(some 32), .ibin .add (.const (.int .i64 2)) (.tmp 31), none⟩,
    ⟨(some 9), .mov (.tmp 32), none⟩]
def A_node_Encoder9 : List AOper := [
    ⟨(some 33), .mov (.tmp 1), none⟩,
    ⟨(some 34), .len .sl (.tmp 33), none⟩,
    ⟨(some 35), .mov (.const (.int .i64 0)), none⟩]
def A_node_Encoder10 : List AOper := [
    ⟨(some 36), .ibin .lss (.tmp 35) (.tmp 34), none⟩]
def A_node_Encoder11 : List AOper := [
    ⟨(some 37), .iadrS 5 (.tmp 33) (.tmp 35), none⟩,
    ⟨(some 38), .load true 5 (.tmp 37), none⟩,
    ⟨(some 11), .alloc [.str [], .str [], .int .i64 0, .int .i64 0, .int .i64 0] 5 170, none⟩,
    ⟨none, .store 5 (.tmp 11) (.tmp 38), none⟩]
def A_node_Encoder12 : List AOper := [
    ⟨(some 40), .mov (.tmp 6), none⟩,
    ⟨(some 41), .mov (.tmp 9), none⟩,
    ⟨(some 42), .mov (.tmp 8), none⟩,
    ⟨(some 43), .len .str (.tmp 42), none⟩,
    ⟨(some 44), .ibin .add (.tmp 41) (.tmp 43), none⟩,
    ⟨(some 45), .conv .u64 (.tmp 44), none⟩,
    ⟨(some 46), .call 160 [(.tmp 40), (.tmp 45), (.const (.int .i64 2))], none⟩,
    ⟨(some 39), .mov (.tmp 46), none⟩,
    ⟨(some 47), .extr (.tmp 39) 0, none⟩,
    ⟨(some 48), .extr (.tmp 39) 1, none⟩,
    ⟨(some 6), .mov (.tmp 47), none⟩]
def A_node_Encoder13 : List AOper := [
    ⟨(some 49), .mov (.tmp 8), none⟩,
    ⟨(some 50), .mov (.tmp 0), none⟩,
    ⟨(some 51), .load true 5 (.tmp 11), none⟩,
    ⟨(some 52), .call 269 [(.tmp 50), (.tmp 51)], none⟩,
    ⟨(some 53), .sbin .add (.tmp 49) (.tmp 52), none⟩,
    ⟨(some 8), .mov (.tmp 53), none⟩]
def A_node_Encodec14 : AC := (.block 2 (.seq (.region A_node_Encoder11) (.seq (.region A_node_Encoder12) (.region A_node_Encoder13))))
def A_node_Encoder15 : List AOper := [
    ⟨(some 54), .ibin .add (.tmp 35) (.const (.int .i64 1)), none⟩,
    ⟨(some 35), .mov (.tmp 54), none⟩]
def A_node_Encodel16 : AC := (.seq (.region A_node_Encoder10) (.seq (.cond (.tmp 36) .skip (.exit 1)) (.seq A_node_Encodec14 (.region A_node_Encoder15))))
def A_node_Encodec17 : AC := (.block 1 (.loop A_node_Encodel16))
def A_node_Encoder18 : List AOper := [
    ⟨(some 55), .mov (.tmp 6), none⟩,
    ⟨(some 56), .mov (.tmp 8), none⟩,
    ⟨(some 57), .sbin .add (.tmp 55) (.tmp 56), none⟩,
    ⟨(some 4), .mov (.tmp 57), none⟩,
    ⟨(some 5), .mov (.const (.int .i64 0)), none⟩]
def A_node_Encode : AFn := ⟨58, 2, [.tmp 4, .tmp 5], (.seq (.region A_node_Encoder0) (.seq A_node_Encodec5 (.seq (.region A_node_Encoder6) (.seq (.region A_node_Encoder7) (.seq (.region A_node_Encoder8) (.seq (.seq (.region A_node_Encoder9) A_node_Encodec17) (.seq (.region A_node_Encoder18) .ret)))))))⟩
theorem fn_node_Encode : FnIs Go.Proofs.Tryz.prog 251 A_node_Encode := ⟨by kernel_rfl, Go.Proofs.Tryz.f251, Go.Proofs.Tryz.func251, by kernel_rfl⟩
/- rollbook/page.at -/
def A_page_atr0 : List AOper := [
    ⟨(some 6), .mov (.const (.int .i64 0)), none⟩]
def A_page_atr1 : List AOper := [
    ⟨(some 10), .mov (.tmp 0), none⟩,
    ⟨(some 11), .mov (.tmp 1), none⟩,
    ⟨(some 12), .mov (.tmp 2), none⟩,
    ⟨(some 13), .call 120 [(.tmp 10), (.tmp 11), (.tmp 12)], none⟩,
    ⟨(some 9), .mov (.tmp 13), none⟩,
    ⟨(some 14), .extr (.tmp 9) 0, none⟩,
    ⟨(some 15), .extr (.tmp 9) 1, none⟩,
    ⟨(some 7), .mov (.tmp 14), none⟩,
    ⟨(some 8), .mov (.tmp 15), none⟩]
def A_page_atr2 : List AOper := [
    ⟨(some 16), .mov (.tmp 7), none⟩,
    ⟨(some 17), .conv .i64 (.tmp 16), none⟩,
    ⟨(some 6), .mov (.tmp 17), none⟩]
def A_page_at : AFn := ⟨18, 3, [.tmp 6], (.seq (.region A_page_atr0) (.seq (.region A_page_atr1) (.seq (.region A_page_atr2) .ret)))⟩
theorem fn_page_at : FnIs Go.Proofs.Tryz.prog 211 A_page_at := ⟨by kernel_rfl, Go.Proofs.Tryz.f211, Go.Proofs.Tryz.func211, by kernel_rfl⟩
/- (*rollbook/pager.Pager).Write -/
def A_pager_Pager_Writer0 : List AOper := [
    ⟨(some 3), .box (.tmp 1) 4, none⟩,
    ⟨(some 4), .mov (.const (.int .i64 0)), none⟩]
def A_pager_Pager_Writer1 : List AOper := [
    ⟨(some 9), .mov (.tmp 0), none⟩,
    ⟨(some 10), .nileq .ptr false (.tmp 9) (.const (.ptr none)), none⟩]
def A_pager_Pager_Writer2 : List AOper := [
    ⟨(some 4), .mov (.const (.int .i64 2)), none⟩]
def A_pager_Pager_Writer3 : List AOper := [
    ⟨(some 12), .load true 4 (.tmp 3), none⟩,
    ⟨(some 13), .call 172 [(.tmp 12)], none⟩,
    ⟨(some 11), .mov (.tmp 13), none⟩,
    ⟨(some 14), .extr (.tmp 11) 0, none⟩,
    ⟨(some 15), .extr (.tmp 11) 1, none⟩,
    ⟨(some 5), .mov (.tmp 14), none⟩,
    ⟨(some 6), .mov (.tmp 15), none⟩]
def A_pager_Pager_Writer4 : List AOper := [
    ⟨(some 17), .mov (.tmp 6), none⟩,
    ⟨(some 18), .ibin .neq (.tmp 17) (.const (.int .i64 0)), none⟩,
    ⟨(some 16), .mov (.tmp 18), none⟩]
def A_pager_Pager_Writer5 : List AOper := [
    ⟨(some 19), .mov (.tmp 6), none⟩,
    ⟨(some 4), .mov (.tmp 19), none⟩]
def A_pager_Pager_Writer6 : List AOper := [
    ⟨(some 21), .fadr 1 (.tmp 3), none⟩,
    ⟨(some 22), .load false 1 (.tmp 21), none⟩,
    ⟨(some 23), .mov (.tmp 0), none⟩,
    ⟨(some 24), .nilck (.tmp 23), none⟩,
    ⟨(some 25), .fadr 1 (.tmp 24), none⟩,
    ⟨(some 26), .fadr 4 (.tmp 25), none⟩,
    ⟨(some 27), .load false 1 (.tmp 26), none⟩,
    ⟨(some 28), .ibin .geq (.tmp 22) (.tmp 27), none⟩,
    ⟨(some 20), .mov (.tmp 28), none⟩]
def A_pager_Pager_Writer7 : List AOper := [
    ⟨(some 4), .mov (.const (.int .i64 1)), none⟩]
def A_pager_Pager_Writec8 : AC := (.block 0 (.seq (.region A_pager_Pager_Writer4) (.cond (.tmp 16) (.seq (.region A_pager_Pager_Writer5) .ret) (.seq (.draw A_pager_Pager_Writer6 [0, 1, 0, 4, 12, 28, 60, 127, 255]) (.cond (.tmp 20) (.seq (.region A_pager_Pager_Writer7) .ret) .skip)))))
def A_pager_Pager_Writer9 : List AOper := [
    ⟨(some 29), .mov (.tmp 0), none⟩,
    ⟨(some 30), .mov (.tmp 0), none⟩,
    ⟨(some 31), .nilck (.tmp 30), none⟩,
    ⟨(some 32), .fadr 13 (.tmp 31), none⟩,
    ⟨(some 33), .load false 1 (.tmp 32), none⟩,
    ⟨(some 34), .fadr 1 (.tmp 3), none⟩,
    ⟨(some 35), .load false 1 (.tmp 34), none⟩,
    ⟨(some 36), .buildSl [.int .i64 0] 1 1 [(0, 1, (.tmp 35))], none⟩,
    ⟨(some 37), .app 1 8 3 (.tmp 33) (.tmp 36), none⟩,
    ⟨(some 38), .nilck (.tmp 29), none⟩,
    ⟨(some 39), .fadr 13 (.tmp 38), none⟩,
    ⟨none, .store 1 (.tmp 39) (.tmp 37), none⟩]
def A_pager_Pager_Writer10 : List AOper := [
    ⟨(some 40), .mov (.const (.int .i64 0)), none⟩]
def A_pager_Pager_Writer11 : List AOper := [
    ⟨(some 41), .ibin .lss (.tmp 40) (.const (.int .i64 4)), none⟩]
def A_pager_Pager_Writer12 : List AOper := [
    ⟨(some 42), .mov (.tmp 40), none⟩,
    ⟨(some 7), .mov (.tmp 42), none⟩]
def A_pager_Pager_Writer13 : List AOper := [
    ⟨(some 43), .mov (.tmp 0), none⟩,
    ⟨(some 44), .nilck (.tmp 43), none⟩,
    ⟨(some 45), .fadr 0 (.tmp 44), none⟩,
    ⟨(some 46), .load false 1 (.tmp 45), none⟩,
    ⟨(some 47), .fadr 1 (.tmp 3), none⟩,
    ⟨(some 48), .load false 1 (.tmp 47), none⟩,
    ⟨(some 49), .ibin .mul (.const (.int .i64 4)) (.tmp 48), none⟩,
    ⟨(some 50), .mov (.tmp 7), none⟩,
    ⟨(some 51), .ibin .add (.tmp 49) (.tmp 50), none⟩,
    ⟨(some 52), .mov (.tmp 5), none⟩,
    ⟨(some 53), .mov (.tmp 7), none⟩,
    ⟨(some 54), .ibin .mul (.tmp 53) (.const (.int .i64 128)), none⟩,
    ⟨(some 55), .mov (.tmp 7), none⟩,
    ⟨(some 56), .ibin .add (.tmp 55) (.const (.int .i64 1)), none⟩,
    ⟨(some 57), .ibin .mul (.tmp 56) (.const (.int .i64 128)), none⟩,
    ⟨(some 58), .slS (.tmp 52) (some (.tmp 54)) (some (.tmp 57)), none⟩,
    ⟨(some 59), .call 118 [(.tmp 46), (.tmp 51), (.tmp 58)], none⟩,
    ⟨(some 8), .mov (.tmp 59), none⟩]
def A_pager_Pager_Writer14 : List AOper := [
    ⟨(some 60), .mov (.tmp 8), none⟩,
    ⟨(some 61), .ibin .neq (.tmp 60) (.const (.int .i64 0)), none⟩]
def A_pager_Pager_Writer15 : List AOper := [
    ⟨(some 62), .mov (.tmp 8), none⟩,
    ⟨(some 4), .mov (.tmp 62), none⟩]
def A_pager_Pager_Writec16 : AC := (.block 2 (.seq (.region A_pager_Pager_Writer12) (.seq (.draw A_pager_Pager_Writer13 [0, 1, 3, 7, 0, 16, 48, 0, 240, 0, 0, 1024, 0, 4096, 12288, 32256, 65535, 131071]) (.seq (.region A_pager_Pager_Writer14) (.cond (.tmp 61) (.seq (.region A_pager_Pager_Writer15) .ret) .skip)))))
def A_pager_Pager_Writer17 : List AOper := [
    ⟨(some 63), .ibin .add (.tmp 40) (.const (.int .i64 1)), none⟩,
    ⟨(some 40), .mov (.tmp 63), none⟩]
def A_pager_Pager_Writel18 : AC := (.seq (.region A_pager_Pager_Writer11) (.seq (.cond (.tmp 41) .skip (.exit 1)) (.seq A_pager_Pager_Writec16 (.region A_pager_Pager_Writer17))))
def A_pager_Pager_Writec19 : AC := (.block 1 (.loop A_pager_Pager_Writel18))
def A_pager_Pager_Writer20 : List AOper := [
    ⟨(some 4), .mov (.const (.int .i64 0)), none⟩]
def A_pager_Pager_Write : AFn := ⟨64, 2, [.tmp 4], (.seq (.region A_pager_Pager_Writer0) (.seq (.seq (.region A_pager_Pager_Writer1) (.cond (.tmp 10) (.seq (.region A_pager_Pager_Writer2) .ret) .skip)) (.seq (.region A_pager_Pager_Writer3) (.seq A_pager_Pager_Writec8 (.seq (.draw A_pager_Pager_Writer9 [0, 0, 2, 6, 14, 0, 32, 96, 254, 511, 1023, 2047]) (.seq (.seq (.region A_pager_Pager_Writer10) A_pager_Pager_Writec19) (.seq (.region A_pager_Pager_Writer20) .ret)))))))⟩
theorem fn_pager_Pager_Write : FnIs Go.Proofs.Tryz.prog 115 A_pager_Pager_Write := ⟨by kernel_rfl, Go.Proofs.Tryz.f115, Go.Proofs.Tryz.func115, by kernel_rfl⟩
/- (*rollbook/pager.Pager).Read -/
def A_pager_Pager_Readr0 : List AOper := [
    ⟨(some 4), .alloc [.int .i64 0, .int .i64 0, .int .i64 0, .str []] 4 126, none⟩,
    ⟨(some 5), .mov (.const (.int .i64 0)), none⟩]
def A_pager_Pager_Readr1 : List AOper := [
    ⟨(some 13), .mov (.tmp 0), none⟩,
    ⟨(some 14), .nileq .ptr false (.tmp 13) (.const (.ptr none)), none⟩,
    ⟨(some 12), .mov (.tmp 14), none⟩]
def A_pager_Pager_Readr2 : List AOper := [
    ⟨(some 15), .build [.int .i64 0, .int .i64 0, .int .i64 0, .str []] [], none⟩,
    ⟨none, .store 4 (.tmp 4) (.tmp 15), none⟩,
    ⟨(some 5), .mov (.const (.int .i64 2)), none⟩]
def A_pager_Pager_Readr3 : List AOper := [
    ⟨(some 17), .mov (.tmp 1), none⟩,
    ⟨(some 18), .ibin .lss (.tmp 17) (.const (.int .i64 1)), none⟩,
    ⟨(some 19), .mov (.tmp 18), none⟩,
    ⟨(some 20), .mov (.tmp 1), (some (19, false))⟩,
    ⟨(some 21), .mov (.tmp 0), (some (19, false))⟩,
    ⟨(some 22), .nilck (.tmp 21), (some (19, false))⟩,
    ⟨(some 23), .fadr 1 (.tmp 22), (some (19, false))⟩,
    ⟨(some 24), .fadr 4 (.tmp 23), (some (19, false))⟩,
    ⟨(some 25), .load false 1 (.tmp 24), (some (19, false))⟩,
    ⟨(some 26), .ibin .geq (.tmp 20) (.tmp 25), (some (19, false))⟩,
    ⟨(some 27), .pick (.tmp 19) (.const (.bool true)) (.tmp 26), none⟩,
    ⟨(some 16), .mov (.tmp 27), none⟩]
def A_pager_Pager_Readr4 : List AOper := [
    ⟨(some 28), .build [.int .i64 0, .int .i64 0, .int .i64 0, .str []] [], none⟩,
    ⟨none, .store 4 (.tmp 4) (.tmp 28), none⟩,
    ⟨(some 5), .mov (.const (.int .i64 1)), none⟩]
def A_pager_Pager_Readc5 : AC := (.block 0 (.seq (.region A_pager_Pager_Readr1) (.cond (.tmp 12) (.seq (.region A_pager_Pager_Readr2) .ret) (.seq (.region A_pager_Pager_Readr3) (.cond (.tmp 16) (.seq (.region A_pager_Pager_Readr4) .ret) .skip)))))
def A_pager_Pager_Readr6 : List AOper := [
    ⟨(some 6), .alloc [.ptr none, .slice none 0 0] 2 300, none⟩]
def A_pager_Pager_Readr7 : List AOper := [
    ⟨(some 29), .mov (.const (.int .i64 0)), none⟩]
def A_pager_Pager_Readr8 : List AOper := [
    ⟨(some 30), .ibin .lss (.tmp 29) (.const (.int .i64 4)), none⟩]
def A_pager_Pager_Readr9 : List AOper := [
    ⟨(some 31), .mov (.tmp 29), none⟩,
    ⟨(some 7), .mov (.tmp 31), none⟩]
def A_pager_Pager_Readr10 : List AOper := [
    ⟨(some 33), .mov (.tmp 0), none⟩,
    ⟨(some 34), .nilck (.tmp 33), none⟩,
    ⟨(some 35), .fadr 0 (.tmp 34), none⟩,
    ⟨(some 36), .load false 1 (.tmp 35), none⟩,
    ⟨(some 37), .mov (.tmp 1), none⟩,
    ⟨(some 38), .ibin .mul (.const (.int .i64 4)) (.tmp 37), none⟩,
    ⟨(some 39), .mov (.tmp 7), none⟩,
    ⟨(some 40), .ibin .add (.tmp 38) (.tmp 39), none⟩,
    ⟨(some 41), .call 152 [(.tmp 36), (.tmp 40)], none⟩,
    ⟨(some 32), .mov (.tmp 41), none⟩,
    ⟨(some 42), .extr (.tmp 32) 0, none⟩,
    ⟨(some 43), .extr (.tmp 32) 1, none⟩,
    ⟨(some 8), .mov (.tmp 42), none⟩,
    ⟨(some 9), .mov (.tmp 43), none⟩]
def A_pager_Pager_Readr11 : List AOper := [
    ⟨(some 44), .mov (.tmp 9), none⟩,
    ⟨(some 45), .ibin .neq (.tmp 44) (.const (.int .i64 0)), none⟩]
def A_pager_Pager_Readr12 : List AOper := [
    ⟨(some 46), .build [.int .i64 0, .int .i64 0, .int .i64 0, .str []] [], none⟩,
    ⟨(some 47), .mov (.tmp 9), none⟩,
    ⟨none, .store 4 (.tmp 4) (.tmp 46), none⟩,
    ⟨(some 5), .mov (.tmp 47), none⟩]
def A_pager_Pager_Readr13 : List AOper := [
    ⟨(some 48), .mov (.tmp 8), none⟩,
    ⟨(some 49), .call 204 [(.tmp 6), (.tmp 48)], none⟩]
def A_pager_Pager_Readc14 : AC := (.block 2 (.seq (.region A_pager_Pager_Readr9) (.seq (.region A_pager_Pager_Readr10) (.seq (.seq (.region A_pager_Pager_Readr11) (.cond (.tmp 45) (.seq (.region A_pager_Pager_Readr12) .ret) .skip)) (.region A_pager_Pager_Readr13)))))
def A_pager_Pager_Readr15 : List AOper := [
    ⟨(some 50), .ibin .add (.tmp 29) (.const (.int .i64 1)), none⟩,
    ⟨(some 29), .mov (.tmp 50), none⟩]
def A_pager_Pager_Readl16 : AC := (.seq (.region A_pager_Pager_Readr8) (.seq (.cond (.tmp 30) .skip (.exit 1)) (.seq A_pager_Pager_Readc14 (.region A_pager_Pager_Readr15))))
def A_pager_Pager_Readc17 : AC := (.block 1 (.loop A_pager_Pager_Readl16))
def A_pager_Pager_Readr18 : List AOper := [
    ⟨(some 52), .call 207 [(.tmp 6)], none⟩,
    ⟨(some 53), .call 212 [(.tmp 52)], none⟩,
    ⟨(some 51), .mov (.tmp 53), none⟩,
    ⟨(some 54), .extr (.tmp 51) 0, none⟩,
    ⟨(some 55), .extr (.tmp 51) 1, none⟩,
    ⟨(some 10), .alloc [.int .i64 0, .int .i64 0, .int .i64 0, .str []] 4 126, none⟩,
    ⟨none, .store 4 (.tmp 10) (.tmp 54), none⟩,
    ⟨(some 11), .mov (.tmp 55), none⟩]
def A_pager_Pager_Readr19 : List AOper := [
    ⟨(some 56), .mov (.tmp 11), none⟩,
    ⟨(some 57), .ibin .neq (.tmp 56) (.const (.int .i64 0)), none⟩,
    ⟨(some 58), .mov (.tmp 57), none⟩,
    ⟨(some 59), .fadr 1 (.tmp 10), (some (58, false))⟩,
    ⟨(some 60), .load false 1 (.tmp 59), (some (58, false))⟩,
    ⟨(some 61), .mov (.tmp 1), (some (58, false))⟩,
    ⟨(some 62), .ibin .neq (.tmp 60) (.tmp 61), (some (58, false))⟩,
    ⟨(some 63), .pick (.tmp 58) (.const (.bool true)) (.tmp 62), none⟩]
def A_pager_Pager_Readr20 : List AOper := [
    ⟨(some 64), .build [.int .i64 0, .int .i64 0, .int .i64 0, .str []] [], none⟩,
    ⟨none, .store 4 (.tmp 4) (.tmp 64), none⟩,
    ⟨(some 5), .mov (.const (.int .i64 4)), none⟩]
def A_pager_Pager_Readr21 : List AOper := [
    ⟨(some 65), .load true 4 (.tmp 10), none⟩,
    ⟨none, .store 4 (.tmp 4) (.tmp 65), none⟩,
    ⟨(some 5), .mov (.const (.int .i64 0)), none⟩]
def A_pager_Pager_Read : AFn := ⟨66, 2, [.cell 4 true 4, .tmp 5], (.seq (.region A_pager_Pager_Readr0) (.seq A_pager_Pager_Readc5 (.seq (.region A_pager_Pager_Readr6) (.seq (.seq (.region A_pager_Pager_Readr7) A_pager_Pager_Readc17) (.seq (.region A_pager_Pager_Readr18) (.seq (.seq (.region A_pager_Pager_Readr19) (.cond (.tmp 63) (.seq (.region A_pager_Pager_Readr20) .ret) .skip)) (.seq (.region A_pager_Pager_Readr21) .ret)))))))⟩
theorem fn_pager_Pager_Read : FnIs Go.Proofs.Tryz.prog 156 A_pager_Pager_Read := ⟨by kernel_rfl, Go.Proofs.Tryz.f156, Go.Proofs.Tryz.func156, by kernel_rfl⟩
/- rollbook/page.RightMeta -/
def A_page_RightMetar0 : List AOper := [
    ⟨(some 1), .box (.tmp 0) 5, none⟩,
    ⟨(some 2), .mov (.const (.bool false)), none⟩]
def A_page_RightMetar1 : List AOper := [
    ⟨(some 3), .mov (.const (.func (.func 230) [] [])), none⟩]
def A_page_RightMetar2 : List AOper := [
    ⟨(some 4), .mov (.tmp 3), none⟩,
    ⟨(some 5), .fadr 0 (.tmp 1), none⟩,
    ⟨(some 6), .load false 1 (.tmp 5), none⟩,
    ⟨(some 7), .callV (.tmp 4) [(.tmp 6), (.const (.int .i64 0)), (.const (.int .i64 1099511627776))], none⟩,
    ⟨(some 8), .mov (.tmp 7), none⟩,
    ⟨(some 9), .mov (.tmp 3), (some (8, true))⟩,
    ⟨(some 10), .fadr 4 (.tmp 1), (some (8, true))⟩,
    ⟨(some 11), .load false 1 (.tmp 10), (some (8, true))⟩,
    ⟨(some 12), .callV (.tmp 9) [(.tmp 11), (.const (.int .i64 2)), (.const (.int .i64 512))], (some (8, true))⟩,
    ⟨(some 13), .pick (.tmp 8) (.tmp 12) (.const (.bool false)), none⟩,
    ⟨(some 14), .mov (.tmp 13), none⟩,
    ⟨(some 15), .mov (.tmp 3), (some (14, true))⟩,
    ⟨(some 16), .fadr 3 (.tmp 1), (some (14, true))⟩,
    ⟨(some 17), .load false 1 (.tmp 16), (some (14, true))⟩,
    ⟨(some 18), .fadr 4 (.tmp 1), (some (14, true))⟩,
    ⟨(some 19), .load false 1 (.tmp 18), (some (14, true))⟩,
    ⟨(some 20), .callV (.tmp 15) [(.tmp 17), (.const (.int .i64 1)), (.tmp 19)], (some (14, true))⟩,
    ⟨(some 21), .pick (.tmp 14) (.tmp 20) (.const (.bool false)), none⟩,
    ⟨(some 22), .mov (.tmp 21), none⟩,
    ⟨(some 23), .mov (.tmp 3), (some (22, true))⟩,
    ⟨(some 24), .fadr 1 (.tmp 1), (some (22, true))⟩,
    ⟨(some 25), .load false 1 (.tmp 24), (some (22, true))⟩,
    ⟨(some 26), .fadr 3 (.tmp 1), (some (22, true))⟩,
    ⟨(some 27), .load false 1 (.tmp 26), (some (22, true))⟩,
    ⟨(some 28), .ibin .sub (.tmp 27) (.const (.int .i64 1)), (some (22, true))⟩,
    ⟨(some 29), .callV (.tmp 23) [(.tmp 25), (.const (.int .i64 0)), (.tmp 28)], (some (22, true))⟩,
    ⟨(some 30), .pick (.tmp 22) (.tmp 29) (.const (.bool false)), none⟩,
    ⟨(some 31), .mov (.tmp 30), none⟩,
    ⟨(some 32), .mov (.tmp 3), (some (31, true))⟩,
    ⟨(some 33), .fadr 2 (.tmp 1), (some (31, true))⟩,
    ⟨(some 34), .load false 1 (.tmp 33), (some (31, true))⟩,
    ⟨(some 35), .fadr 3 (.tmp 1), (some (31, true))⟩,
    ⟨(some 36), .load false 1 (.tmp 35), (some (31, true))⟩,
    ⟨(some 37), .ibin .sub (.tmp 36) (.const (.int .i64 1)), (some (31, true))⟩,
    ⟨(some 38), .callV (.tmp 32) [(.tmp 34), (.const (.int .i64 0)), (.tmp 37)], (some (31, true))⟩,
    ⟨(some 39), .pick (.tmp 31) (.tmp 38) (.const (.bool false)), none⟩,
    ⟨(some 2), .mov (.tmp 39), none⟩]
def A_page_RightMeta : AFn := ⟨40, 1, [.tmp 2], (.seq (.region A_page_RightMetar0) (.seq (.region A_page_RightMetar1) (.seq (.region A_page_RightMetar2) .ret)))⟩
theorem fn_page_RightMeta : FnIs Go.Proofs.Tryz.prog 174 A_page_RightMeta := ⟨by kernel_rfl, Go.Proofs.Tryz.f174, Go.Proofs.Tryz.func174, by kernel_rfl⟩
/- rollbook/node.rightBranch -/
def A_node_rightBranchr0 : List AOper := [
    ⟨(some 1), .box (.tmp 0) 5, none⟩,
    ⟨(some 2), .mov (.const (.bool false)), none⟩]
def A_node_rightBranchr1 : List AOper := [
    ⟨(some 3), .fadr 0 (.tmp 1), none⟩,
    ⟨(some 4), .load false 1 (.tmp 3), none⟩,
    ⟨(some 5), .len .str (.tmp 4), none⟩,
    ⟨(some 6), .ibin .leq (.tmp 5) (.const (.int .i64 120)), none⟩,
    ⟨(some 7), .mov (.tmp 6), none⟩,
    ⟨(some 8), .fadr 4 (.tmp 1), (some (7, true))⟩,
    ⟨(some 9), .load false 1 (.tmp 8), (some (7, true))⟩,
    ⟨(some 10), .ibin .geq (.tmp 9) (.const (.int .i64 1)), (some (7, true))⟩,
    ⟨(some 11), .pick (.tmp 7) (.tmp 10) (.const (.bool false)), none⟩,
    ⟨(some 12), .mov (.tmp 11), none⟩,
    ⟨(some 13), .fadr 4 (.tmp 1), (some (12, true))⟩,
    ⟨(some 14), .load false 1 (.tmp 13), (some (12, true))⟩,
    ⟨(some 15), .ibin .lss (.tmp 14) (.const (.int .i64 512)), (some (12, true))⟩,
    ⟨(some 16), .pick (.tmp 12) (.tmp 15) (.const (.bool false)), none⟩,
    ⟨(some 17), .mov (.tmp 16), none⟩,
    ⟨(some 18), .fadr 1 (.tmp 1), (some (17, true))⟩,
    ⟨(some 19), .load false 1 (.tmp 18), (some (17, true))⟩,
    ⟨(some 20), .sbin .eql (.tmp 19) (.const (.str [])), (some (17, true))⟩,
    ⟨(some 21), .pick (.tmp 17) (.tmp 20) (.const (.bool false)), none⟩,
    ⟨(some 22), .mov (.tmp 21), none⟩,
    ⟨(some 23), .fadr 2 (.tmp 1), (some (22, true))⟩,
    ⟨(some 24), .load false 1 (.tmp 23), (some (22, true))⟩,
    ⟨(some 25), .ibin .eql (.tmp 24) (.const (.int .i64 0)), (some (22, true))⟩,
    ⟨(some 26), .pick (.tmp 22) (.tmp 25) (.const (.bool false)), none⟩,
    ⟨(some 27), .mov (.tmp 26), none⟩,
    ⟨(some 28), .fadr 3 (.tmp 1), (some (27, true))⟩,
    ⟨(some 29), .load false 1 (.tmp 28), (some (27, true))⟩,
    ⟨(some 30), .ibin .eql (.tmp 29) (.const (.int .i64 0)), (some (27, true))⟩,
    ⟨(some 31), .pick (.tmp 27) (.tmp 30) (.const (.bool false)), none⟩,
    ⟨(some 2), .mov (.tmp 31), none⟩]
def A_node_rightBranch : AFn := ⟨32, 1, [.tmp 2], (.seq (.region A_node_rightBranchr0) (.seq (.region A_node_rightBranchr1) .ret))⟩
theorem fn_node_rightBranch : FnIs Go.Proofs.Tryz.prog 286 A_node_rightBranch := ⟨by kernel_rfl, Go.Proofs.Tryz.f286, Go.Proofs.Tryz.func286, by kernel_rfl⟩
/- rollbook/node.get -/
def A_node_getr0 : List AOper := [
    ⟨(some 6), .alloc [.str [], .str [], .int .i64 0, .int .i64 0, .int .i64 0] 5 170, none⟩,
    ⟨(some 7), .mov (.const (.bool false)), none⟩]
def A_node_getr1 : List AOper := [
    ⟨(some 11), .mov (.tmp 1), none⟩,
    ⟨(some 12), .mov (.tmp 2), none⟩,
    ⟨(some 13), .ibin .mul (.const (.int .i64 2)) (.tmp 12), none⟩,
    ⟨(some 14), .ibin .add (.const (.int .i64 2)) (.tmp 13), none⟩,
    ⟨(some 15), .call 120 [(.tmp 11), (.tmp 14), (.const (.int .i64 2))], none⟩,
    ⟨(some 10), .mov (.tmp 15), none⟩,
    ⟨(some 16), .extr (.tmp 10) 0, none⟩,
    ⟨(some 17), .extr (.tmp 10) 1, none⟩,
    ⟨(some 8), .mov (.tmp 16), none⟩,
    ⟨(some 9), .mov (.tmp 17), none⟩]
def A_node_getr2 : List AOper := [
    ⟨(some 18), .mov (.tmp 9), none⟩,
    ⟨(some 19), .ibin .neq (.tmp 18) (.const (.int .i64 0)), none⟩]
def A_node_getr3 : List AOper := [
    ⟨(some 20), .build [.str [], .str [], .int .i64 0, .int .i64 0, .int .i64 0] [], none⟩,
    ⟨none, .store 5 (.tmp 6) (.tmp 20), none⟩,
    ⟨(some 7), .mov (.const (.bool false)), none⟩]
def A_node_getr4 : List AOper := [
    ⟨(some 21), .mov (.tmp 0), none⟩,
    ⟨(some 22), .mov (.tmp 1), none⟩,
    ⟨(some 23), .mov (.tmp 8), none⟩,
    ⟨(some 24), .conv .i64 (.tmp 23), none⟩,
    ⟨(some 25), .call 261 [(.tmp 21), (.tmp 22), (.tmp 24)], none⟩,
    ⟨(some 26), .extr (.tmp 25) 0, none⟩,
    ⟨(some 27), .extr (.tmp 25) 1, none⟩,
    ⟨none, .store 5 (.tmp 6) (.tmp 26), none⟩,
    ⟨(some 7), .mov (.tmp 27), none⟩]
def A_node_get : AFn := ⟨28, 3, [.cell 6 true 5, .tmp 7], (.seq (.region A_node_getr0) (.seq (.region A_node_getr1) (.seq (.seq (.region A_node_getr2) (.cond (.tmp 19) (.seq (.region A_node_getr3) .ret) .skip)) (.seq (.region A_node_getr4) .ret))))⟩
theorem fn_node_get : FnIs Go.Proofs.Tryz.prog 236 A_node_get := ⟨by kernel_rfl, Go.Proofs.Tryz.f236, Go.Proofs.Tryz.func236, by kernel_rfl⟩
/- rollbook/page.PackMeta -/
def A_page_PackMetar0 : List AOper := [
    ⟨(some 1), .box (.tmp 0) 5, none⟩,
    ⟨(some 2), .mov (.const (.str [])), none⟩,
    ⟨(some 3), .mov (.const (.int .i64 0)), none⟩]
def A_page_PackMetar1 : List AOper := [
    ⟨(some 5), .load true 5 (.tmp 1), none⟩,
    ⟨(some 6), .call 174 [(.tmp 5)], none⟩,
    ⟨(some 7), .un .not (.tmp 6), none⟩]
def A_page_PackMetar2 : List AOper := [
    ⟨(some 2), .mov (.const (.str [])), none⟩,
    ⟨(some 3), .mov (.const (.int .i64 4)), none⟩]
def A_page_PackMetar3 : List AOper := [
    ⟨(some 8), .fadr 0 (.tmp 1), none⟩,
    ⟨(some 9), .load false 1 (.tmp 8), none⟩,
    ⟨(some 10), .build [.int .i64 0, .int .i64 0] [(0, 1, (.tmp 9)), (1, 1, (.const (.int .i64 8)))], none⟩,
    ⟨(some 11), .fadr 1 (.tmp 1), none⟩,
    ⟨(some 12), .load false 1 (.tmp 11), none⟩,
    ⟨(some 13), .build [.int .i64 0, .int .i64 0] [(0, 1, (.tmp 12)), (1, 1, (.const (.int .i64 4)))], none⟩,
    ⟨(some 14), .fadr 2 (.tmp 1), none⟩,
    ⟨(some 15), .load false 1 (.tmp 14), none⟩,
    ⟨(some 16), .build [.int .i64 0, .int .i64 0] [(0, 1, (.tmp 15)), (1, 1, (.const (.int .i64 4)))], none⟩,
    ⟨(some 17), .fadr 3 (.tmp 1), none⟩,
    ⟨(some 18), .load false 1 (.tmp 17), none⟩,
    ⟨(some 19), .build [.int .i64 0, .int .i64 0] [(0, 1, (.tmp 18)), (1, 1, (.const (.int .i64 4)))], none⟩,
    ⟨(some 20), .fadr 4 (.tmp 1), none⟩,
    ⟨(some 21), .load false 1 (.tmp 20), none⟩,
    ⟨(some 22), .build [.int .i64 0, .int .i64 0] [(0, 1, (.tmp 21)), (1, 1, (.const (.int .i64 4)))], none⟩,
    ⟨(some 23), .buildSl [.int .i64 0, .int .i64 0, .int .i64 0, .int .i64 0, .int .i64 0, .int .i64 0, .int .i64 0, .int .i64 0, .int .i64 0, .int .i64 0] 5 2 [(0, 2, (.tmp 10)), (2, 2, (.tmp 13)), (4, 2, (.tmp 16)), (6, 2, (.tmp 19)), (8, 2, (.tmp 22))], none⟩,
    ⟨(some 24), .call 175 [(.const (.str [82, 79, 76, 76, 66, 79, 79, 75])), (.tmp 23)], none⟩,
    ⟨(some 4), .mov (.tmp 24), none⟩]
def A_page_PackMetar4 : List AOper := [
    ⟨(some 25), .mov (.tmp 4), none⟩,
    ⟨(some 26), .mov (.tmp 4), none⟩,
    ⟨(some 27), .call 177 [(.tmp 26)], none⟩,
    ⟨(some 28), .conv .i64 (.tmp 27), none⟩,
    ⟨(some 29), .build [.int .i64 0, .int .i64 0] [(0, 1, (.tmp 28)), (1, 1, (.const (.int .i64 4)))], none⟩,
    ⟨(some 30), .buildSl [.int .i64 0, .int .i64 0] 1 2 [(0, 2, (.tmp 29))], none⟩,
    ⟨(some 31), .call 175 [(.tmp 25), (.tmp 30)], none⟩,
    ⟨(some 32), .call 176 [(.tmp 31), (.const (.int .i64 128))], none⟩,
    ⟨(some 2), .mov (.tmp 32), none⟩,
    ⟨(some 3), .mov (.const (.int .i64 0)), none⟩]
def A_page_PackMeta : AFn := ⟨33, 1, [.tmp 2, .tmp 3], (.seq (.region A_page_PackMetar0) (.seq (.seq (.region A_page_PackMetar1) (.cond (.tmp 7) (.seq (.region A_page_PackMetar2) .ret) .skip)) (.seq (.region A_page_PackMetar3) (.seq (.region A_page_PackMetar4) .ret))))⟩
theorem fn_page_PackMeta : FnIs Go.Proofs.Tryz.prog 117 A_page_PackMeta := ⟨by kernel_rfl, Go.Proofs.Tryz.f117, Go.Proofs.Tryz.func117, by kernel_rfl⟩
/- rollbook/node.rightLeaf -/
def A_node_rightLeafr0 : List AOper := [
    ⟨(some 1), .box (.tmp 0) 5, none⟩,
    ⟨(some 2), .mov (.const (.bool false)), none⟩]
def A_node_rightLeafr1 : List AOper := [
    ⟨(some 3), .fadr 0 (.tmp 1), none⟩,
    ⟨(some 4), .load false 1 (.tmp 3), none⟩,
    ⟨(some 5), .sbin .eql (.tmp 4) (.const (.str [])), none⟩,
    ⟨(some 6), .mov (.tmp 5), none⟩,
    ⟨(some 7), .fadr 0 (.tmp 1), (some (6, false))⟩,
    ⟨(some 8), .load false 1 (.tmp 7), (some (6, false))⟩,
    ⟨(some 9), .len .str (.tmp 8), (some (6, false))⟩,
    ⟨(some 10), .ibin .gtr (.tmp 9) (.const (.int .i64 120)), (some (6, false))⟩,
    ⟨(some 11), .pick (.tmp 6) (.const (.bool true)) (.tmp 10), none⟩,
    ⟨(some 12), .mov (.tmp 11), none⟩,
    ⟨(some 13), .fadr 4 (.tmp 1), (some (12, false))⟩,
    ⟨(some 14), .load false 1 (.tmp 13), (some (12, false))⟩,
    ⟨(some 15), .ibin .neq (.tmp 14) (.const (.int .i64 0)), (some (12, false))⟩,
    ⟨(some 16), .pick (.tmp 12) (.const (.bool true)) (.tmp 15), none⟩]
def A_node_rightLeafr2 : List AOper := [
    ⟨(some 2), .mov (.const (.bool false)), none⟩]
def A_node_rightLeafr3 : List AOper := [
    ⟨(some 17), .fadr 2 (.tmp 1), none⟩,
    ⟨(some 18), .load false 1 (.tmp 17), none⟩,
    ⟨(some 19), .ibin .eql (.tmp 18) (.const (.int .i64 0)), none⟩]
def A_node_rightLeafr4 : List AOper := [
    ⟨(some 20), .fadr 3 (.tmp 1), none⟩,
    ⟨(some 21), .load false 1 (.tmp 20), none⟩,
    ⟨(some 22), .ibin .eql (.tmp 21) (.const (.int .i64 0)), none⟩,
    ⟨(some 23), .mov (.tmp 22), none⟩,
    ⟨(some 24), .fadr 1 (.tmp 1), (some (23, true))⟩,
    ⟨(some 25), .load false 1 (.tmp 24), (some (23, true))⟩,
    ⟨(some 26), .len .str (.tmp 25), (some (23, true))⟩,
    ⟨(some 27), .ibin .leq (.tmp 26) (.const (.int .i64 96)), (some (23, true))⟩,
    ⟨(some 28), .pick (.tmp 23) (.tmp 27) (.const (.bool false)), none⟩,
    ⟨(some 2), .mov (.tmp 28), none⟩]
def A_node_rightLeafr5 : List AOper := [
    ⟨(some 29), .fadr 1 (.tmp 1), none⟩,
    ⟨(some 30), .load false 1 (.tmp 29), none⟩,
    ⟨(some 31), .sbin .eql (.tmp 30) (.const (.str [])), none⟩,
    ⟨(some 32), .mov (.tmp 31), none⟩,
    ⟨(some 33), .fadr 2 (.tmp 1), (some (32, true))⟩,
    ⟨(some 34), .load false 1 (.tmp 33), (some (32, true))⟩,
    ⟨(some 35), .ibin .geq (.tmp 34) (.const (.int .i64 1)), (some (32, true))⟩,
    ⟨(some 36), .pick (.tmp 32) (.tmp 35) (.const (.bool false)), none⟩,
    ⟨(some 37), .mov (.tmp 36), none⟩,
    ⟨(some 38), .fadr 2 (.tmp 1), (some (37, true))⟩,
    ⟨(some 39), .load false 1 (.tmp 38), (some (37, true))⟩,
    ⟨(some 40), .ibin .lss (.tmp 39) (.const (.int .i64 512)), (some (37, true))⟩,
    ⟨(some 41), .pick (.tmp 37) (.tmp 40) (.const (.bool false)), none⟩,
    ⟨(some 42), .mov (.tmp 41), none⟩,
    ⟨(some 43), .fadr 3 (.tmp 1), (some (42, true))⟩,
    ⟨(some 44), .load false 1 (.tmp 43), (some (42, true))⟩,
    ⟨(some 45), .ibin .gtr (.tmp 44) (.const (.int .i64 96)), (some (42, true))⟩,
    ⟨(some 46), .pick (.tmp 42) (.tmp 45) (.const (.bool false)), none⟩,
    ⟨(some 47), .mov (.tmp 46), none⟩,
    ⟨(some 48), .fadr 3 (.tmp 1), (some (47, true))⟩,
    ⟨(some 49), .load false 1 (.tmp 48), (some (47, true))⟩,
    ⟨(some 50), .ibin .leq (.tmp 49) (.const (.int .i64 4000)), (some (47, true))⟩,
    ⟨(some 51), .pick (.tmp 47) (.tmp 50) (.const (.bool false)), none⟩,
    ⟨(some 2), .mov (.tmp 51), none⟩]
def A_node_rightLeaf : AFn := ⟨52, 1, [.tmp 2], (.seq (.region A_node_rightLeafr0) (.seq (.seq (.region A_node_rightLeafr1) (.cond (.tmp 16) (.seq (.region A_node_rightLeafr2) .ret) .skip)) (.seq (.seq (.region A_node_rightLeafr3) (.cond (.tmp 19) (.seq (.region A_node_rightLeafr4) .ret) .skip)) (.seq (.region A_node_rightLeafr5) .ret))))⟩
theorem fn_node_rightLeaf : FnIs Go.Proofs.Tryz.prog 287 A_node_rightLeaf := ⟨by kernel_rfl, Go.Proofs.Tryz.f287, Go.Proofs.Tryz.func287, by kernel_rfl⟩
/- rollbook/field.Text -/
def A_field_Textr0 : List AOper := [
    ⟨(some 4), .mov (.const (.str [])), none⟩,
    ⟨(some 5), .mov (.const (.int .i64 0)), none⟩]
def A_field_Textr1 : List AOper := [
    ⟨(some 8), .mov (.tmp 1), none⟩,
    ⟨(some 9), .len .str (.tmp 8), none⟩,
    ⟨(some 10), .ibin .gtr (.tmp 9) (.const (.int .i64 65535)), none⟩]
def A_field_Textr2 : List AOper := [
    ⟨(some 4), .mov (.const (.str [])), none⟩,
    ⟨(some 5), .mov (.const (.int .i64 5)), none⟩]
def A_field_Textr3 : List AOper := [
    ⟨(some 12), .mov (.tmp 0), none⟩,
    ⟨(some 13), .mov (.tmp 1), none⟩,
    ⟨(some 14), .len .str (.tmp 13), none⟩,
    ⟨(some 15), .conv .u64 (.tmp 14), none⟩,
    ⟨(some 16), .call 160 [(.tmp 12), (.tmp 15), (.const (.int .i64 2))], none⟩,
    ⟨(some 11), .mov (.tmp 16), none⟩,
    ⟨(some 17), .extr (.tmp 11) 0, none⟩,
    ⟨(some 18), .extr (.tmp 11) 1, none⟩,
    ⟨(some 6), .mov (.tmp 17), none⟩,
    ⟨(some 7), .mov (.tmp 18), none⟩]
def A_field_Textr4 : List AOper := [
    ⟨(some 19), .mov (.tmp 6), none⟩,
    ⟨(some 20), .mov (.tmp 1), none⟩,
    ⟨(some 21), .sbin .add (.tmp 19) (.tmp 20), none⟩,
    ⟨(some 4), .mov (.tmp 21), none⟩,
    ⟨(some 5), .mov (.const (.int .i64 0)), none⟩]
def A_field_Text : AFn := ⟨22, 2, [.tmp 4, .tmp 5], (.seq (.region A_field_Textr0) (.seq (.seq (.region A_field_Textr1) (.cond (.tmp 10) (.seq (.region A_field_Textr2) .ret) .skip)) (.seq (.region A_field_Textr3) (.seq (.region A_field_Textr4) .ret))))⟩
theorem fn_field_Text : FnIs Go.Proofs.Tryz.prog 288 A_field_Text := ⟨by kernel_rfl, Go.Proofs.Tryz.f288, Go.Proofs.Tryz.func288, by kernel_rfl⟩
/- (*rollbook/kv.Txn).Step -/
def A_kv_Txn_Stepr0 : List AOper := [
    ⟨(some 2), .mov (.const (.bool false)), none⟩,
    ⟨(some 3), .mov (.const (.int .i64 0)), none⟩]
def A_kv_Txn_Stepr1 : List AOper := [
    ⟨(some 6), .mov (.tmp 0), none⟩,
    ⟨(some 7), .call 49 [(.tmp 6)], none⟩,
    ⟨(some 4), .mov (.tmp 7), none⟩]
def A_kv_Txn_Stepr2 : List AOper := [
    ⟨(some 8), .mov (.tmp 4), none⟩,
    ⟨(some 9), .ibin .neq (.tmp 8) (.const (.int .i64 0)), none⟩]
def A_kv_Txn_Stepr3 : List AOper := [
    ⟨(some 10), .mov (.tmp 4), none⟩,
    ⟨(some 2), .mov (.const (.bool false)), none⟩,
    ⟨(some 3), .mov (.tmp 10), none⟩]
def A_kv_Txn_Stepr4 : List AOper := [
    ⟨(some 5), .mov (.const (.int .i64 0)), none⟩]
def A_kv_Txn_Stepr5 : List AOper := [
    ⟨(some 11), .mov (.tmp 0), none⟩,
    ⟨(some 12), .nilck (.tmp 11), none⟩,
    ⟨(some 13), .fadr 12 (.tmp 12), none⟩,
    ⟨(some 14), .load false 1 (.tmp 13), none⟩]
def A_kv_Txn_Stepr6 : List AOper := [
    ⟨(some 24), .ibin .eql (.tmp 14) (.const (.int .i64 0)), none⟩,
    ⟨(some 23), .mov (.tmp 24), none⟩]
def A_kv_Txn_Stepr7 : List AOper := [
    ⟨(some 25), .mov (.tmp 0), none⟩,
    ⟨(some 26), .call 50 [(.tmp 25)], none⟩,
    ⟨(some 5), .mov (.tmp 26), none⟩]
def A_kv_Txn_Stepr8 : List AOper := [
    ⟨(some 28), .ibin .eql (.tmp 14) (.const (.int .i64 1)), none⟩,
    ⟨(some 27), .mov (.tmp 28), none⟩]
def A_kv_Txn_Stepr9 : List AOper := [
    ⟨(some 29), .mov (.tmp 0), none⟩,
    ⟨(some 30), .call 51 [(.tmp 29)], none⟩,
    ⟨(some 5), .mov (.tmp 30), none⟩]
def A_kv_Txn_Stepr10 : List AOper := [
    ⟨(some 32), .ibin .eql (.tmp 14) (.const (.int .i64 2)), none⟩,
    ⟨(some 31), .mov (.tmp 32), none⟩]
def A_kv_Txn_Stepr11 : List AOper := [
    ⟨(some 33), .mov (.tmp 0), none⟩,
    ⟨(some 34), .nilck (.tmp 33), none⟩,
    ⟨(some 35), .fadr 0 (.tmp 34), none⟩,
    ⟨(some 36), .load false 1 (.tmp 35), none⟩,
    ⟨(some 37), .nilck (.tmp 36), none⟩,
    ⟨(some 38), .fadr 0 (.tmp 37), none⟩,
    ⟨(some 39), .load false 1 (.tmp 38), none⟩,
    ⟨(some 40), .call 52 [(.tmp 39)], none⟩,
    ⟨(some 5), .mov (.tmp 40), none⟩]
def A_kv_Txn_Stepr12 : List AOper := [
    ⟨(some 42), .ibin .eql (.tmp 14) (.const (.int .i64 3)), none⟩,
    ⟨(some 41), .mov (.tmp 42), none⟩]
def A_kv_Txn_Stepr13 : List AOper := [
    ⟨(some 43), .mov (.tmp 0), none⟩,
    ⟨(some 44), .nilck (.tmp 43), none⟩,
    ⟨(some 45), .fadr 0 (.tmp 44), none⟩,
    ⟨(some 46), .load false 1 (.tmp 45), none⟩,
    ⟨(some 47), .nilck (.tmp 46), none⟩,
    ⟨(some 48), .fadr 0 (.tmp 47), none⟩,
    ⟨(some 49), .load false 1 (.tmp 48), none⟩,
    ⟨(some 50), .mov (.tmp 0), none⟩,
    ⟨(some 51), .nilck (.tmp 50), none⟩,
    ⟨(some 52), .fadr 2 (.tmp 51), none⟩,
    ⟨(some 53), .load true 5 (.tmp 52), none⟩,
    ⟨(some 54), .call 53 [(.tmp 49), (.tmp 53)], none⟩,
    ⟨(some 5), .mov (.tmp 54), none⟩]
def A_kv_Txn_Stepr14 : List AOper := [
    ⟨(some 15), .mov (.tmp 0), none⟩,
    ⟨(some 16), .call 54 [(.tmp 15)], none⟩,
    ⟨(some 5), .mov (.tmp 16), none⟩]
def A_kv_Txn_Stepr15 : List AOper := [
    ⟨(some 17), .mov (.tmp 0), none⟩,
    ⟨(some 18), .nilck (.tmp 17), none⟩,
    ⟨(some 19), .fadr 13 (.tmp 18), none⟩,
    ⟨none, .store 1 (.tmp 19) (.const (.bool true)), none⟩]
def A_kv_Txn_Stepr16 : List AOper := [
    ⟨(some 20), .mov (.tmp 5), none⟩,
    ⟨(some 21), .ibin .eql (.tmp 20) (.const (.int .i64 0)), none⟩,
    ⟨(some 22), .mov (.tmp 5), none⟩,
    ⟨(some 2), .mov (.tmp 21), none⟩,
    ⟨(some 3), .mov (.tmp 22), none⟩]
def A_kv_Txn_Stepc17 : AC := (.block 0 (.seq (.region A_kv_Txn_Stepr6) (.cond (.tmp 23) (.region A_kv_Txn_Stepr7) (.seq (.region A_kv_Txn_Stepr8) (.cond (.tmp 27) (.region A_kv_Txn_Stepr9) (.seq (.region A_kv_Txn_Stepr10) (.cond (.tmp 31) (.region A_kv_Txn_Stepr11) (.seq (.region A_kv_Txn_Stepr12) (.cond (.tmp 41) (.draw A_kv_Txn_Stepr13 [0, 1, 3, 7, 15, 31, 63, 0, 128, 384, 896, 2047, 4095]) (.seq (.region A_kv_Txn_Stepr14) (.seq (.region A_kv_Txn_Stepr15) (.seq (.region A_kv_Txn_Stepr16) .ret))))))))))))
def A_kv_Txn_Stepr18 : List AOper := [
    ⟨(some 55), .mov (.tmp 0), none⟩,
    ⟨(some 56), .nilck (.tmp 55), none⟩,
    ⟨(some 57), .fadr 12 (.tmp 56), none⟩,
    ⟨(some 58), .load false 1 (.tmp 57), none⟩,
    ⟨(some 59), .ibin .add (.tmp 58) (.const (.int .i64 1)), none⟩,
    ⟨(some 60), .nilck (.tmp 55), none⟩,
    ⟨(some 61), .fadr 12 (.tmp 60), none⟩,
    ⟨none, .store 1 (.tmp 61) (.tmp 59), none⟩]
def A_kv_Txn_Stepr19 : List AOper := [
    ⟨(some 62), .mov (.tmp 0), none⟩,
    ⟨(some 63), .mov (.tmp 5), none⟩,
    ⟨(some 64), .call 47 [(.tmp 62), (.tmp 63)], none⟩,
    ⟨(some 2), .mov (.const (.bool false)), none⟩,
    ⟨(some 3), .mov (.tmp 64), none⟩]
def A_kv_Txn_Step : AFn := ⟨65, 1, [.tmp 2, .tmp 3], (.seq (.region A_kv_Txn_Stepr0) (.seq (.seq (.region A_kv_Txn_Stepr1) (.seq (.region A_kv_Txn_Stepr2) (.cond (.tmp 9) (.seq (.region A_kv_Txn_Stepr3) .ret) .skip))) (.seq (.region A_kv_Txn_Stepr4) (.seq (.seq (.region A_kv_Txn_Stepr5) A_kv_Txn_Stepc17) (.seq (.region A_kv_Txn_Stepr18) (.seq (.region A_kv_Txn_Stepr19) .ret))))))⟩
theorem fn_kv_Txn_Step : FnIs Go.Proofs.Tryz.prog 13 A_kv_Txn_Step := ⟨by kernel_rfl, Go.Proofs.Tryz.f13, Go.Proofs.Tryz.func13, by kernel_rfl⟩
/- rollbook/tree.Get -/
def A_tree_Getr0 : List AOper := [
    ⟨(some 6), .mov (.const (.str [])), none⟩,
    ⟨(some 7), .mov (.const (.bool false)), none⟩,
    ⟨(some 8), .mov (.const (.int .i64 0)), none⟩]
def A_tree_Getr1 : List AOper := [
    ⟨(some 14), .mov (.tmp 0), none⟩,
    ⟨(some 15), .mov (.tmp 1), none⟩,
    ⟨(some 16), .mov (.tmp 2), none⟩,
    ⟨(some 17), .call 121 [(.tmp 14), (.tmp 15), (.tmp 16)], none⟩,
    ⟨(some 13), .mov (.tmp 17), none⟩,
    ⟨(some 18), .extr (.tmp 13) 0, none⟩,
    ⟨(some 19), .extr (.tmp 13) 1, none⟩,
    ⟨(some 20), .extr (.tmp 13) 2, none⟩,
    ⟨(some 9), .alloc [.str [], .str [], .int .i64 0, .int .i64 0, .int .i64 0] 5 170, none⟩,
    ⟨none, .store 5 (.tmp 9) (.tmp 18), none⟩,
    ⟨(some 10), .mov (.tmp 19), none⟩,
    ⟨(some 11), .mov (.tmp 20), none⟩]
def A_tree_Getr2 : List AOper := [
    ⟨(some 21), .mov (.tmp 11), none⟩,
    ⟨(some 22), .ibin .neq (.tmp 21) (.const (.int .i64 0)), none⟩,
    ⟨(some 23), .mov (.tmp 22), none⟩,
    ⟨(some 24), .mov (.tmp 10), (some (23, false))⟩,
    ⟨(some 25), .un .not (.tmp 24), (some (23, false))⟩,
    ⟨(some 26), .pick (.tmp 23) (.const (.bool true)) (.tmp 25), none⟩]
def A_tree_Getr3 : List AOper := [
    ⟨(some 27), .mov (.tmp 11), none⟩,
    ⟨(some 6), .mov (.const (.str [])), none⟩,
    ⟨(some 7), .mov (.const (.bool false)), none⟩,
    ⟨(some 8), .mov (.tmp 27), none⟩]
def A_tree_Getr4 : List AOper := [
    ⟨(some 29), .mov (.tmp 0), none⟩,
    ⟨(some 30), .load true 5 (.tmp 9), none⟩,
    ⟨(some 31), .call 122 [(.tmp 29), (.tmp 30)], none⟩,
    ⟨(some 28), .mov (.tmp 31), none⟩,
    ⟨(some 32), .extr (.tmp 28) 0, none⟩,
    ⟨(some 33), .extr (.tmp 28) 1, none⟩,
    ⟨(some 12), .mov (.tmp 32), none⟩,
    ⟨(some 11), .mov (.tmp 33), none⟩]
def A_tree_Getr5 : List AOper := [
    ⟨(some 34), .mov (.tmp 12), none⟩,
    ⟨(some 35), .mov (.tmp 11), none⟩,
    ⟨(some 36), .ibin .eql (.tmp 35) (.const (.int .i64 0)), none⟩,
    ⟨(some 37), .mov (.tmp 11), none⟩,
    ⟨(some 6), .mov (.tmp 34), none⟩,
    ⟨(some 7), .mov (.tmp 36), none⟩,
    ⟨(some 8), .mov (.tmp 37), none⟩]
def A_tree_Get : AFn := ⟨38, 3, [.tmp 6, .tmp 7, .tmp 8], (.seq (.region A_tree_Getr0) (.seq (.region A_tree_Getr1) (.seq (.seq (.region A_tree_Getr2) (.cond (.tmp 26) (.seq (.region A_tree_Getr3) .ret) .skip)) (.seq (.region A_tree_Getr4) (.seq (.region A_tree_Getr5) .ret)))))⟩
theorem fn_tree_Get : FnIs Go.Proofs.Tryz.prog 59 A_tree_Get := ⟨by kernel_rfl, Go.Proofs.Tryz.f59, Go.Proofs.Tryz.func59, by kernel_rfl⟩
/- rollbook/page.Pack -/
def A_page_Packr0 : List AOper := [
    ⟨(some 1), .box (.tmp 0) 4, none⟩,
    ⟨(some 2), .mov (.const (.str [])), none⟩,
    ⟨(some 3), .mov (.const (.int .i64 0)), none⟩]
def A_page_Packr1 : List AOper := [
    ⟨(some 7), .load true 4 (.tmp 1), none⟩,
    ⟨(some 8), .call 229 [(.tmp 7)], none⟩,
    ⟨(some 9), .un .not (.tmp 8), none⟩]
def A_page_Packr2 : List AOper := [
    ⟨(some 2), .mov (.const (.str [])), none⟩,
    ⟨(some 3), .mov (.const (.int .i64 4)), none⟩]
def A_page_Packr3 : List AOper := [
    ⟨(some 10), .fadr 0 (.tmp 1), none⟩,
    ⟨(some 11), .load false 1 (.tmp 10), none⟩,
    ⟨(some 12), .build [.int .i64 0, .int .i64 0] [(0, 1, (.tmp 11)), (1, 1, (.const (.int .i64 1)))], none⟩,
    ⟨(some 13), .build [.int .i64 0, .int .i64 0] [(0, 1, (.const (.int .i64 0))), (1, 1, (.const (.int .i64 1)))], none⟩,
    ⟨(some 14), .fadr 3 (.tmp 1), none⟩,
    ⟨(some 15), .load false 1 (.tmp 14), none⟩,
    ⟨(some 16), .len .str (.tmp 15), none⟩,
    ⟨(some 17), .build [.int .i64 0, .int .i64 0] [(0, 1, (.tmp 16)), (1, 1, (.const (.int .i64 2)))], none⟩,
    ⟨(some 18), .fadr 1 (.tmp 1), none⟩,
    ⟨(some 19), .load false 1 (.tmp 18), none⟩,
    ⟨(some 20), .build [.int .i64 0, .int .i64 0] [(0, 1, (.tmp 19)), (1, 1, (.const (.int .i64 4)))], none⟩,
    ⟨(some 21), .fadr 2 (.tmp 1), none⟩,
    ⟨(some 22), .load false 1 (.tmp 21), none⟩,
    ⟨(some 23), .build [.int .i64 0, .int .i64 0] [(0, 1, (.tmp 22)), (1, 1, (.const (.int .i64 8)))], none⟩,
    ⟨(some 24), .buildSl [.int .i64 0, .int .i64 0, .int .i64 0, .int .i64 0, .int .i64 0, .int .i64 0, .int .i64 0, .int .i64 0, .int .i64 0, .int .i64 0] 5 2 [(0, 2, (.tmp 12)), (2, 2, (.tmp 13)), (4, 2, (.tmp 17)), (6, 2, (.tmp 20)), (8, 2, (.tmp 23))], none⟩,
    ⟨(some 25), .call 175 [(.const (.str [82, 66])), (.tmp 24)], none⟩,
    ⟨(some 4), .mov (.tmp 25), none⟩]
def A_page_Packr4 : List AOper := [
    ⟨(some 26), .fadr 3 (.tmp 1), none⟩,
    ⟨(some 27), .load false 1 (.tmp 26), none⟩,
    ⟨(some 28), .sbin .add (.const (.str [0, 0])) (.tmp 27), none⟩,
    ⟨(some 29), .call 176 [(.tmp 28), (.const (.int .i64 490))], none⟩,
    ⟨(some 5), .mov (.tmp 29), none⟩]
def A_page_Packr5 : List AOper := [
    ⟨(some 30), .mov (.tmp 4), none⟩,
    ⟨(some 31), .sbin .add (.tmp 30) (.const (.str [0, 0, 0, 0])), none⟩,
    ⟨(some 32), .mov (.tmp 5), none⟩,
    ⟨(some 33), .sbin .add (.tmp 31) (.tmp 32), none⟩,
    ⟨(some 34), .call 177 [(.tmp 33)], none⟩,
    ⟨(some 6), .mov (.tmp 34), none⟩]
def A_page_Packr6 : List AOper := [
    ⟨(some 35), .mov (.tmp 4), none⟩,
    ⟨(some 36), .mov (.tmp 6), none⟩,
    ⟨(some 37), .conv .i64 (.tmp 36), none⟩,
    ⟨(some 38), .build [.int .i64 0, .int .i64 0] [(0, 1, (.tmp 37)), (1, 1, (.const (.int .i64 4)))], none⟩,
    ⟨(some 39), .buildSl [.int .i64 0, .int .i64 0] 1 2 [(0, 2, (.tmp 38))], none⟩,
    ⟨(some 40), .call 175 [(.tmp 35), (.tmp 39)], none⟩,
    ⟨(some 41), .mov (.tmp 5), none⟩,
    ⟨(some 42), .sbin .add (.tmp 40) (.tmp 41), none⟩,
    ⟨(some 2), .mov (.tmp 42), none⟩,
    ⟨(some 3), .mov (.const (.int .i64 0)), none⟩]
def A_page_Pack : AFn := ⟨43, 1, [.tmp 2, .tmp 3], (.seq (.region A_page_Packr0) (.seq (.seq (.region A_page_Packr1) (.cond (.tmp 9) (.seq (.region A_page_Packr2) .ret) .skip)) (.seq (.region A_page_Packr3) (.seq (.region A_page_Packr4) (.seq (.region A_page_Packr5) (.seq (.region A_page_Packr6) .ret))))))⟩
theorem fn_page_Pack : FnIs Go.Proofs.Tryz.prog 172 A_page_Pack := ⟨by kernel_rfl, Go.Proofs.Tryz.f172, Go.Proofs.Tryz.func172, by kernel_rfl⟩
/- rollbook/rollbooklaw11.awake -/
def A_rollbooklaw11_awaker0 : List AOper := [
    ⟨(some 0), .mov (.const (.bool false)), none⟩]
def A_rollbooklaw11_awaker1 : List AOper := [
    ⟨(some 15), .call 10 [(.const (.int .i64 20))], none⟩,
    ⟨(some 1), .mov (.tmp 15), none⟩]
def A_rollbooklaw11_awaker2 : List AOper := [
    ⟨(some 16), .mov (.tmp 1), none⟩,
    ⟨(some 17), .nileq .ptr false (.tmp 16) (.const (.ptr none)), none⟩,
    ⟨(some 18), .mov (.tmp 17), none⟩,
    ⟨(some 19), .mov (.tmp 1), (some (18, false))⟩,
    ⟨(some 20), .build [.int .i64 0, .int .i64 0, .str [], .str [], .int .i64 0, .slice none 0 0] [(0, 1, (.const (.int .i64 7)))], (some (18, false))⟩,
    ⟨(some 21), .call 26 [(.tmp 19), (.tmp 20)], (some (18, false))⟩,
    ⟨(some 22), .un .not (.tmp 21), (some (18, false))⟩,
    ⟨(some 23), .pick (.tmp 18) (.const (.bool true)) (.tmp 22), none⟩,
    ⟨(some 24), .mov (.tmp 23), none⟩,
    ⟨(some 25), .mov (.tmp 1), (some (24, false))⟩,
    ⟨(some 26), .build [.int .i64 0, .int .i64 0, .str [], .str [], .int .i64 0, .slice none 0 0] [(0, 1, (.const (.int .i64 1)))], (some (24, false))⟩,
    ⟨(some 27), .call 26 [(.tmp 25), (.tmp 26)], (some (24, false))⟩,
    ⟨(some 28), .un .not (.tmp 27), (some (24, false))⟩,
    ⟨(some 29), .pick (.tmp 24) (.const (.bool true)) (.tmp 28), none⟩,
    ⟨(some 30), .mov (.tmp 29), none⟩,
    ⟨(some 31), .mov (.tmp 1), (some (30, false))⟩,
    ⟨(some 32), .build [.int .i64 0, .int .i64 0, .str [], .str [], .int .i64 0, .slice none 0 0] [(0, 1, (.const (.int .i64 2))), (2, 1, (.const (.str [107]))), (3, 1, (.const (.str [49])))], (some (30, false))⟩,
    ⟨(some 33), .call 26 [(.tmp 31), (.tmp 32)], (some (30, false))⟩,
    ⟨(some 34), .un .not (.tmp 33), (some (30, false))⟩,
    ⟨(some 35), .pick (.tmp 30) (.const (.bool true)) (.tmp 34), none⟩]
def A_rollbooklaw11_awaker3 : List AOper := [
    ⟨(some 0), .mov (.const (.bool false)), none⟩]
def A_rollbooklaw11_awaker4 : List AOper := [
    ⟨(some 2), .mov (.const (.int .i64 0)), none⟩]
def A_rollbooklaw11_awaker5 : List AOper := [
    ⟨(some 36), .mov (.tmp 2), none⟩,
    ⟨(some 37), .ibin .lss (.tmp 36) (.const (.int .i64 4)), none⟩]
def A_rollbooklaw11_awaker6 : List AOper := [
    ⟨(some 41), .mov (.tmp 1), none⟩,
    ⟨(some 42), .nilck (.tmp 41), none⟩,
    ⟨(some 43), .fadr 2 (.tmp 42), none⟩,
    ⟨(some 44), .load false 1 (.tmp 43), none⟩,
    ⟨(some 45), .call 13 [(.tmp 44)], none⟩,
    ⟨(some 40), .mov (.tmp 45), none⟩,
    ⟨(some 46), .extr (.tmp 40) 0, none⟩,
    ⟨(some 47), .extr (.tmp 40) 1, none⟩,
    ⟨(some 3), .mov (.tmp 46), none⟩,
    ⟨(some 4), .mov (.tmp 47), none⟩]
def A_rollbooklaw11_awaker7 : List AOper := [
    ⟨(some 48), .mov (.tmp 3), none⟩,
    ⟨(some 49), .mov (.tmp 48), none⟩,
    ⟨(some 50), .mov (.tmp 4), (some (49, false))⟩,
    ⟨(some 51), .ibin .neq (.tmp 50) (.const (.int .i64 0)), (some (49, false))⟩,
    ⟨(some 52), .pick (.tmp 49) (.const (.bool true)) (.tmp 51), none⟩]
def A_rollbooklaw11_awaker8 : List AOper := [
    ⟨(some 0), .mov (.const (.bool false)), none⟩]
def A_rollbooklaw11_awakec9 : AC := (.block 1 (.seq (.region A_rollbooklaw11_awaker6) (.seq (.region A_rollbooklaw11_awaker7) (.cond (.tmp 52) (.seq (.region A_rollbooklaw11_awaker8) .ret) .skip))))
def A_rollbooklaw11_awaker10 : List AOper := [
    ⟨(some 38), .mov (.tmp 2), none⟩,
    ⟨(some 39), .ibin .add (.tmp 38) (.const (.int .i64 1)), none⟩,
    ⟨(some 2), .mov (.tmp 39), none⟩]
def A_rollbooklaw11_awakel11 : AC := (.seq (.seq (.region A_rollbooklaw11_awaker5) (.cond (.tmp 37) .skip (.exit 0))) (.seq A_rollbooklaw11_awakec9 (.region A_rollbooklaw11_awaker10)))
def A_rollbooklaw11_awakec12 : AC := (.block 0 (.loop A_rollbooklaw11_awakel11))
def A_rollbooklaw11_awaker13 : List AOper := [
    ⟨(some 54), .mov (.tmp 1), none⟩,
    ⟨(some 55), .nilck (.tmp 54), none⟩,
    ⟨(some 56), .fadr 2 (.tmp 55), none⟩,
    ⟨(some 57), .load false 1 (.tmp 56), none⟩,
    ⟨(some 58), .call 13 [(.tmp 57)], none⟩,
    ⟨(some 53), .mov (.tmp 58), none⟩,
    ⟨(some 59), .extr (.tmp 53) 0, none⟩,
    ⟨(some 60), .extr (.tmp 53) 1, none⟩,
    ⟨(some 5), .mov (.tmp 59), none⟩,
    ⟨(some 6), .mov (.tmp 60), none⟩]
def A_rollbooklaw11_awaker14 : List AOper := [
    ⟨(some 62), .mov (.tmp 1), none⟩,
    ⟨(some 63), .nilck (.tmp 62), none⟩,
    ⟨(some 64), .fadr 1 (.tmp 63), none⟩,
    ⟨(some 65), .load false 1 (.tmp 64), none⟩,
    ⟨(some 66), .call 15 [(.tmp 65)], none⟩,
    ⟨(some 61), .mov (.tmp 66), none⟩,
    ⟨(some 67), .extr (.tmp 61) 0, none⟩,
    ⟨(some 68), .extr (.tmp 61) 1, none⟩,
    ⟨(some 7), .mov (.tmp 67), none⟩,
    ⟨(some 8), .mov (.tmp 68), none⟩]
def A_rollbooklaw11_awaker15 : List AOper := [
    ⟨(some 69), .mov (.tmp 5), none⟩,
    ⟨(some 70), .un .not (.tmp 69), none⟩,
    ⟨(some 71), .mov (.tmp 70), none⟩,
    ⟨(some 72), .mov (.tmp 6), (some (71, false))⟩,
    ⟨(some 73), .ibin .neq (.tmp 72) (.const (.int .i64 0)), (some (71, false))⟩,
    ⟨(some 74), .pick (.tmp 71) (.const (.bool true)) (.tmp 73), none⟩,
    ⟨(some 75), .mov (.tmp 74), none⟩,
    ⟨(some 76), .mov (.tmp 8), (some (75, false))⟩,
    ⟨(some 77), .ibin .neq (.tmp 76) (.const (.int .i64 0)), (some (75, false))⟩,
    ⟨(some 78), .pick (.tmp 75) (.const (.bool true)) (.tmp 77), none⟩]
def A_rollbooklaw11_awaker16 : List AOper := [
    ⟨(some 0), .mov (.const (.bool false)), none⟩]
def A_rollbooklaw11_awaker17 : List AOper := [
    ⟨(some 80), .mov (.tmp 1), none⟩,
    ⟨(some 81), .nilck (.tmp 80), none⟩,
    ⟨(some 82), .fadr 3 (.tmp 81), none⟩,
    ⟨(some 83), .load false 1 (.tmp 82), none⟩,
    ⟨(some 84), .iadrS 2 (.tmp 83) (.const (.int .i64 0)), none⟩,
    ⟨(some 85), .fadr 0 (.tmp 84), none⟩,
    ⟨(some 86), .load false 1 (.tmp 85), none⟩,
    ⟨(some 87), .call 16 [(.tmp 86), (.const (.str [97])), (.const (.str [107]))], none⟩,
    ⟨(some 79), .mov (.tmp 87), none⟩,
    ⟨(some 88), .extr (.tmp 79) 0, none⟩,
    ⟨(some 89), .extr (.tmp 79) 1, none⟩,
    ⟨(some 90), .extr (.tmp 79) 2, none⟩,
    ⟨(some 9), .mov (.tmp 88), none⟩,
    ⟨(some 10), .mov (.tmp 89), none⟩,
    ⟨(some 11), .mov (.tmp 90), none⟩]
def A_rollbooklaw11_awaker18 : List AOper := [
    ⟨(some 92), .mov (.tmp 7), none⟩,
    ⟨(some 93), .call 16 [(.tmp 92), (.const (.str [97])), (.const (.str [107]))], none⟩,
    ⟨(some 91), .mov (.tmp 93), none⟩,
    ⟨(some 94), .extr (.tmp 91) 0, none⟩,
    ⟨(some 95), .extr (.tmp 91) 1, none⟩,
    ⟨(some 96), .extr (.tmp 91) 2, none⟩,
    ⟨(some 12), .mov (.tmp 94), none⟩,
    ⟨(some 13), .mov (.tmp 95), none⟩,
    ⟨(some 14), .mov (.tmp 96), none⟩]
def A_rollbooklaw11_awaker19 : List AOper := [
    ⟨(some 97), .mov (.tmp 9), none⟩,
    ⟨(some 98), .sbin .eql (.tmp 97) (.const (.str [])), none⟩,
    ⟨(some 99), .mov (.tmp 98), none⟩,
    ⟨(some 100), .mov (.tmp 10), (some (99, true))⟩,
    ⟨(some 101), .un .not (.tmp 100), (some (99, true))⟩,
    ⟨(some 102), .pick (.tmp 99) (.tmp 101) (.const (.bool false)), none⟩,
    ⟨(some 103), .mov (.tmp 102), none⟩,
    ⟨(some 104), .mov (.tmp 12), (some (103, true))⟩,
    ⟨(some 105), .sbin .eql (.tmp 104) (.const (.str [49])), (some (103, true))⟩,
    ⟨(some 106), .pick (.tmp 103) (.tmp 105) (.const (.bool false)), none⟩,
    ⟨(some 107), .mov (.tmp 106), none⟩,
    ⟨(some 108), .mov (.tmp 13), (some (107, true))⟩,
    ⟨(some 109), .pick (.tmp 107) (.tmp 108) (.const (.bool false)), none⟩,
    ⟨(some 0), .mov (.tmp 109), none⟩]
def A_rollbooklaw11_awake : AFn := ⟨110, 0, [.tmp 0], (.seq (.region A_rollbooklaw11_awaker0) (.seq (.region A_rollbooklaw11_awaker1) (.seq (.seq (.region A_rollbooklaw11_awaker2) (.cond (.tmp 35) (.seq (.region A_rollbooklaw11_awaker3) .ret) .skip)) (.seq (.seq (.region A_rollbooklaw11_awaker4) A_rollbooklaw11_awakec12) (.seq (.region A_rollbooklaw11_awaker13) (.seq (.region A_rollbooklaw11_awaker14) (.seq (.seq (.region A_rollbooklaw11_awaker15) (.cond (.tmp 78) (.seq (.region A_rollbooklaw11_awaker16) .ret) .skip)) (.seq (.region A_rollbooklaw11_awaker17) (.seq (.region A_rollbooklaw11_awaker18) (.seq (.region A_rollbooklaw11_awaker19) .ret))))))))))⟩
theorem fn_rollbooklaw11_awake : FnIs Go.Proofs.Tryz.prog 9 A_rollbooklaw11_awake := ⟨by kernel_rfl, Go.Proofs.Tryz.f9, Go.Proofs.Tryz.func9, by kernel_rfl⟩
/- rollbook/node.Seek -/
def A_node_Seekr0 : List AOper := [
    ⟨(some 3), .box (.tmp 0) 1, none⟩,
    ⟨(some 4), .box (.tmp 1) 1, none⟩,
    ⟨(some 5), .box (.tmp 2) 1, none⟩,
    ⟨(some 6), .mov (.const (.int .i64 0)), none⟩,
    ⟨(some 7), .alloc [.str [], .str [], .int .i64 0, .int .i64 0, .int .i64 0] 5 170, none⟩,
    ⟨(some 8), .mov (.const (.bool false)), none⟩]
def A_node_Seekr1 : List AOper := [
    ⟨(some 16), .load false 1 (.tmp 3), none⟩,
    ⟨(some 17), .load false 1 (.tmp 4), none⟩,
    ⟨(some 18), .call 232 [(.tmp 16), (.tmp 17)], none⟩,
    ⟨(some 15), .mov (.tmp 18), none⟩,
    ⟨(some 19), .extr (.tmp 15) 0, none⟩,
    ⟨(some 20), .extr (.tmp 15) 1, none⟩,
    ⟨(some 9), .mov (.tmp 19), none⟩,
    ⟨(some 10), .mov (.tmp 20), none⟩]
def A_node_Seekr2 : List AOper := [
    ⟨(some 21), .mov (.tmp 10), none⟩,
    ⟨(some 22), .ibin .neq (.tmp 21) (.const (.int .i64 0)), none⟩]
def A_node_Seekr3 : List AOper := [
    ⟨(some 23), .build [.str [], .str [], .int .i64 0, .int .i64 0, .int .i64 0] [], none⟩,
    ⟨(some 6), .mov (.const (.int .i64 0)), none⟩,
    ⟨none, .store 5 (.tmp 7) (.tmp 23), none⟩,
    ⟨(some 8), .mov (.const (.bool false)), none⟩]
def A_node_Seekr4 : List AOper := [
    ⟨(some 24), .load false 1 (.tmp 4), none⟩,
    ⟨(some 25), .call 233 [(.tmp 24)], none⟩,
    ⟨(some 11), .mov (.tmp 25), none⟩]
def A_node_Seekr5 : List AOper := [
    ⟨(some 26), .mov (.tmp 11), none⟩,
    ⟨(some 27), .mkF (.func 235) [] [(.tmp 3), (.tmp 4), (.tmp 5)], none⟩,
    ⟨(some 28), .call 234 [(.tmp 26), (.tmp 27)], none⟩,
    ⟨(some 12), .mov (.tmp 28), none⟩]
def A_node_Seekr6 : List AOper := [
    ⟨(some 13), .alloc [.str [], .str [], .int .i64 0, .int .i64 0, .int .i64 0] 5 170, none⟩]
def A_node_Seekr7 : List AOper := [
    ⟨(some 29), .mov (.tmp 12), none⟩,
    ⟨(some 30), .mov (.tmp 11), none⟩,
    ⟨(some 31), .ibin .lss (.tmp 29) (.tmp 30), none⟩]
def A_node_Seekr8 : List AOper := [
    ⟨(some 33), .load false 1 (.tmp 3), none⟩,
    ⟨(some 34), .load false 1 (.tmp 4), none⟩,
    ⟨(some 35), .mov (.tmp 12), none⟩,
    ⟨(some 36), .call 236 [(.tmp 33), (.tmp 34), (.tmp 35)], none⟩,
    ⟨(some 32), .mov (.tmp 36), none⟩,
    ⟨(some 37), .extr (.tmp 32) 0, none⟩,
    ⟨(some 38), .extr (.tmp 32) 1, none⟩,
    ⟨none, .store 5 (.tmp 13) (.tmp 37), none⟩]
def A_node_Seekr9 : List AOper := [
    ⟨(some 39), .mov (.tmp 12), none⟩,
    ⟨(some 40), .mov (.tmp 11), none⟩,
    ⟨(some 41), .ibin .lss (.tmp 39) (.tmp 40), none⟩,
    ⟨(some 42), .mov (.tmp 41), none⟩,
    ⟨(some 43), .fadr 0 (.tmp 13), (some (42, true))⟩,
    ⟨(some 44), .load false 1 (.tmp 43), (some (42, true))⟩,
    ⟨(some 45), .load false 1 (.tmp 5), (some (42, true))⟩,
    ⟨(some 46), .sbin .eql (.tmp 44) (.tmp 45), (some (42, true))⟩,
    ⟨(some 47), .pick (.tmp 42) (.tmp 46) (.const (.bool false)), none⟩,
    ⟨(some 14), .mov (.tmp 47), none⟩]
def A_node_Seekr10 : List AOper := [
    ⟨(some 48), .load false 1 (.tmp 3), none⟩,
    ⟨(some 49), .un .not (.tmp 48), none⟩,
    ⟨(some 50), .mov (.tmp 49), none⟩,
    ⟨(some 51), .mov (.tmp 14), (some (50, true))⟩,
    ⟨(some 52), .un .not (.tmp 51), (some (50, true))⟩,
    ⟨(some 53), .pick (.tmp 50) (.tmp 52) (.const (.bool false)), none⟩]
def A_node_Seekr11 : List AOper := [
    ⟨(some 54), .mov (.tmp 12), none⟩,
    ⟨(some 55), .ibin .sub (.tmp 54) (.const (.int .i64 1)), none⟩,
    ⟨(some 12), .mov (.tmp 55), none⟩]
def A_node_Seekr12 : List AOper := [
    ⟨(some 57), .load false 1 (.tmp 3), none⟩,
    ⟨(some 58), .load false 1 (.tmp 4), none⟩,
    ⟨(some 59), .mov (.tmp 12), none⟩,
    ⟨(some 60), .call 236 [(.tmp 57), (.tmp 58), (.tmp 59)], none⟩,
    ⟨(some 56), .mov (.tmp 60), none⟩,
    ⟨(some 61), .extr (.tmp 56) 0, none⟩,
    ⟨(some 62), .extr (.tmp 56) 1, none⟩,
    ⟨none, .store 5 (.tmp 13) (.tmp 61), none⟩]
def A_node_Seekr13 : List AOper := [
    ⟨(some 63), .mov (.tmp 12), none⟩,
    ⟨(some 64), .load true 5 (.tmp 13), none⟩,
    ⟨(some 65), .mov (.tmp 14), none⟩,
    ⟨(some 6), .mov (.tmp 63), none⟩,
    ⟨none, .store 5 (.tmp 7) (.tmp 64), none⟩,
    ⟨(some 8), .mov (.tmp 65), none⟩]
def A_node_Seek : AFn := ⟨66, 3, [.tmp 6, .cell 7 true 5, .tmp 8], (.seq (.region A_node_Seekr0) (.seq (.seq (.region A_node_Seekr1) (.seq (.region A_node_Seekr2) (.cond (.tmp 22) (.seq (.region A_node_Seekr3) .ret) .skip))) (.seq (.region A_node_Seekr4) (.seq (.region A_node_Seekr5) (.seq (.region A_node_Seekr6) (.seq (.seq (.region A_node_Seekr7) (.cond (.tmp 31) (.region A_node_Seekr8) .skip)) (.seq (.region A_node_Seekr9) (.seq (.seq (.region A_node_Seekr10) (.cond (.tmp 53) (.seq (.region A_node_Seekr11) (.region A_node_Seekr12)) .skip)) (.seq (.draw A_node_Seekr13 [0, 0, 0, 1, 11, 31]) .ret)))))))))⟩
theorem fn_node_Seek : FnIs Go.Proofs.Tryz.prog 180 A_node_Seek := ⟨by kernel_rfl, Go.Proofs.Tryz.f180, Go.Proofs.Tryz.func180, by kernel_rfl⟩
/- (*rollbook/rollbooklaw11.world).does -/
def A_rollbooklaw11_world_doesr0 : List AOper := [
    ⟨(some 3), .box (.tmp 1) 6, none⟩,
    ⟨(some 4), .mov (.const (.bool false)), none⟩]
def A_rollbooklaw11_world_doesr1 : List AOper := [
    ⟨(some 15), .mov (.tmp 0), none⟩,
    ⟨(some 16), .nilck (.tmp 15), none⟩,
    ⟨(some 17), .fadr 1 (.tmp 16), none⟩,
    ⟨(some 18), .load false 1 (.tmp 17), none⟩,
    ⟨(some 19), .nileq .ptr false (.tmp 18) (.const (.ptr none)), none⟩,
    ⟨(some 20), .mov (.tmp 19), none⟩,
    ⟨(some 21), .fadr 0 (.tmp 3), (some (20, true))⟩,
    ⟨(some 22), .load false 1 (.tmp 21), (some (20, true))⟩,
    ⟨(some 23), .ibin .lss (.tmp 22) (.const (.int .i64 9)), (some (20, true))⟩,
    ⟨(some 24), .pick (.tmp 20) (.tmp 23) (.const (.bool false)), none⟩]
def A_rollbooklaw11_world_doesr2 : List AOper := [
    ⟨(some 4), .mov (.const (.bool true)), none⟩]
def A_rollbooklaw11_world_doesr3 : List AOper := [
    ⟨(some 25), .fadr 0 (.tmp 3), none⟩,
    ⟨(some 26), .load false 1 (.tmp 25), none⟩]
def A_rollbooklaw11_world_doesr4 : List AOper := [
    ⟨(some 28), .ibin .eql (.tmp 26) (.const (.int .i64 1)), none⟩,
    ⟨(some 27), .mov (.tmp 28), none⟩]
def A_rollbooklaw11_world_doesr5 : List AOper := [
    ⟨(some 30), .mov (.tmp 0), none⟩,
    ⟨(some 31), .nilck (.tmp 30), none⟩,
    ⟨(some 32), .fadr 1 (.tmp 31), none⟩,
    ⟨(some 33), .load false 1 (.tmp 32), none⟩,
    ⟨(some 34), .call 11 [(.tmp 33)], none⟩,
    ⟨(some 29), .mov (.tmp 34), none⟩,
    ⟨(some 35), .extr (.tmp 29) 0, none⟩,
    ⟨(some 36), .extr (.tmp 29) 1, none⟩,
    ⟨(some 5), .mov (.tmp 35), none⟩,
    ⟨(some 6), .mov (.tmp 36), none⟩]
def A_rollbooklaw11_world_doesr6 : List AOper := [
    ⟨(some 37), .mov (.tmp 0), none⟩,
    ⟨(some 38), .nilck (.tmp 37), none⟩,
    ⟨(some 39), .fadr 2 (.tmp 38), none⟩,
    ⟨(some 40), .load false 1 (.tmp 39), none⟩,
    ⟨(some 41), .nileq .ptr true (.tmp 40) (.const (.ptr none)), none⟩,
    ⟨(some 42), .mov (.tmp 41), none⟩,
    ⟨(some 43), .mov (.tmp 0), (some (42, true))⟩,
    ⟨(some 44), .nilck (.tmp 43), (some (42, true))⟩,
    ⟨(some 45), .fadr 2 (.tmp 44), (some (42, true))⟩,
    ⟨(some 46), .load false 1 (.tmp 45), (some (42, true))⟩,
    ⟨(some 47), .call 20 [(.tmp 46)], (some (42, true))⟩,
    ⟨(some 48), .un .not (.tmp 47), (some (42, true))⟩,
    ⟨(some 49), .pick (.tmp 42) (.tmp 48) (.const (.bool false)), none⟩]
def A_rollbooklaw11_world_doesr7 : List AOper := [
    ⟨(some 50), .mov (.tmp 5), none⟩,
    ⟨(some 51), .nileq .ptr false (.tmp 50) (.const (.ptr none)), none⟩,
    ⟨(some 52), .mov (.tmp 51), none⟩,
    ⟨(some 53), .mov (.tmp 6), (some (52, true))⟩,
    ⟨(some 54), .ibin .eql (.tmp 53) (.const (.int .i64 10)), (some (52, true))⟩,
    ⟨(some 55), .pick (.tmp 52) (.tmp 54) (.const (.bool false)), none⟩,
    ⟨(some 4), .mov (.tmp 55), none⟩]
def A_rollbooklaw11_world_doesr8 : List AOper := [
    ⟨(some 56), .mov (.tmp 0), none⟩,
    ⟨(some 57), .mov (.tmp 5), none⟩,
    ⟨(some 58), .nilck (.tmp 56), none⟩,
    ⟨(some 59), .fadr 2 (.tmp 58), none⟩,
    ⟨none, .store 1 (.tmp 59) (.tmp 57), none⟩]
def A_rollbooklaw11_world_doesr9 : List AOper := [
    ⟨(some 60), .mov (.tmp 0), none⟩,
    ⟨(some 61), .mov (.tmp 0), none⟩,
    ⟨(some 62), .nilck (.tmp 61), none⟩,
    ⟨(some 63), .fadr 4 (.tmp 62), none⟩,
    ⟨(some 64), .load false 1 (.tmp 63), none⟩,
    ⟨(some 65), .nilck (.tmp 60), none⟩,
    ⟨(some 66), .fadr 5 (.tmp 65), none⟩,
    ⟨none, .store 1 (.tmp 66) (.tmp 64), none⟩]
def A_rollbooklaw11_world_doesr10 : List AOper := [
    ⟨(some 67), .mov (.tmp 0), none⟩,
    ⟨(some 68), .nilck (.tmp 67), none⟩,
    ⟨(some 69), .fadr 6 (.tmp 68), none⟩,
    ⟨none, .store 1 (.tmp 69) (.const (.bool false)), none⟩]
def A_rollbooklaw11_world_doesr11 : List AOper := [
    ⟨(some 70), .mov (.tmp 6), none⟩,
    ⟨(some 71), .ibin .eql (.tmp 70) (.const (.int .i64 0)), none⟩,
    ⟨(some 4), .mov (.tmp 71), none⟩]
def A_rollbooklaw11_world_doesr12 : List AOper := [
    ⟨(some 73), .ibin .eql (.tmp 26) (.const (.int .i64 2)), none⟩,
    ⟨(some 72), .mov (.tmp 73), none⟩]
def A_rollbooklaw11_world_doesr13 : List AOper := [
    ⟨(some 74), .mov (.tmp 0), none⟩,
    ⟨(some 75), .load true 6 (.tmp 3), none⟩,
    ⟨(some 76), .call 65 [(.tmp 74), (.tmp 75)], none⟩,
    ⟨(some 4), .mov (.tmp 76), none⟩]
def A_rollbooklaw11_world_doesr14 : List AOper := [
    ⟨(some 78), .ibin .eql (.tmp 26) (.const (.int .i64 3)), none⟩,
    ⟨(some 77), .mov (.tmp 78), none⟩]
def A_rollbooklaw11_world_doesr15 : List AOper := [
    ⟨(some 79), .mov (.tmp 0), none⟩,
    ⟨(some 80), .load true 6 (.tmp 3), none⟩,
    ⟨(some 81), .call 66 [(.tmp 79), (.tmp 80)], none⟩,
    ⟨(some 4), .mov (.tmp 81), none⟩]
def A_rollbooklaw11_world_doesr16 : List AOper := [
    ⟨(some 83), .ibin .eql (.tmp 26) (.const (.int .i64 4)), none⟩,
    ⟨(some 82), .mov (.tmp 83), none⟩]
def A_rollbooklaw11_world_doesr17 : List AOper := [
    ⟨(some 84), .mov (.tmp 0), none⟩,
    ⟨(some 85), .call 67 [(.tmp 84)], none⟩,
    ⟨(some 4), .mov (.tmp 85), none⟩]
def A_rollbooklaw11_world_doesr18 : List AOper := [
    ⟨(some 87), .ibin .eql (.tmp 26) (.const (.int .i64 5)), none⟩,
    ⟨(some 86), .mov (.tmp 87), none⟩]
def A_rollbooklaw11_world_doesr19 : List AOper := [
    ⟨(some 7), .mov (.const (.int .i64 0)), none⟩]
def A_rollbooklaw11_world_doesr20 : List AOper := [
    ⟨(some 88), .mov (.tmp 7), none⟩,
    ⟨(some 89), .ibin .lss (.tmp 88) (.const (.int .i64 6)), none⟩]
def A_rollbooklaw11_world_doesr21 : List AOper := [
    ⟨(some 92), .mov (.tmp 0), none⟩,
    ⟨(some 93), .call 67 [(.tmp 92)], none⟩,
    ⟨(some 94), .un .not (.tmp 93), none⟩]
def A_rollbooklaw11_world_doesr22 : List AOper := [
    ⟨(some 4), .mov (.const (.bool false)), none⟩]
def A_rollbooklaw11_world_doesc23 : AC := (.block 2 (.seq (.region A_rollbooklaw11_world_doesr21) (.cond (.tmp 94) (.seq (.region A_rollbooklaw11_world_doesr22) .ret) .skip)))
def A_rollbooklaw11_world_doesr24 : List AOper := [
    ⟨(some 90), .mov (.tmp 7), none⟩,
    ⟨(some 91), .ibin .add (.tmp 90) (.const (.int .i64 1)), none⟩,
    ⟨(some 7), .mov (.tmp 91), none⟩]
def A_rollbooklaw11_world_doesl25 : AC := (.seq (.seq (.region A_rollbooklaw11_world_doesr20) (.cond (.tmp 89) .skip (.exit 1))) (.seq A_rollbooklaw11_world_doesc23 (.region A_rollbooklaw11_world_doesr24)))
def A_rollbooklaw11_world_doesc26 : AC := (.block 1 (.loop A_rollbooklaw11_world_doesl25))
def A_rollbooklaw11_world_doesr27 : List AOper := [
    ⟨(some 4), .mov (.const (.bool true)), none⟩]
def A_rollbooklaw11_world_doesr28 : List AOper := [
    ⟨(some 96), .ibin .eql (.tmp 26) (.const (.int .i64 6)), none⟩,
    ⟨(some 95), .mov (.tmp 96), none⟩]
def A_rollbooklaw11_world_doesr29 : List AOper := [
    ⟨(some 97), .mov (.tmp 0), none⟩,
    ⟨(some 98), .nilck (.tmp 97), none⟩,
    ⟨(some 99), .fadr 2 (.tmp 98), none⟩,
    ⟨(some 100), .load false 1 (.tmp 99), none⟩,
    ⟨(some 101), .call 20 [(.tmp 100)], none⟩,
    ⟨(some 8), .mov (.tmp 101), none⟩]
def A_rollbooklaw11_world_doesr30 : List AOper := [
    ⟨(some 102), .mov (.tmp 0), none⟩,
    ⟨(some 103), .nilck (.tmp 102), none⟩,
    ⟨(some 104), .fadr 2 (.tmp 103), none⟩,
    ⟨(some 105), .load false 1 (.tmp 104), none⟩,
    ⟨(some 106), .call 19 [(.tmp 105)], none⟩,
    ⟨(some 9), .mov (.tmp 106), none⟩]
def A_rollbooklaw11_world_doesr31 : List AOper := [
    ⟨(some 107), .mov (.tmp 8), none⟩,
    ⟨(some 108), .mov (.tmp 9), none⟩,
    ⟨(some 109), .ibin .eql (.tmp 108) (.const (.int .i64 12)), none⟩,
    ⟨(some 110), .mov (.tmp 109), none⟩,
    ⟨(some 111), .mov (.tmp 0), (some (110, false))⟩,
    ⟨(some 112), .nilck (.tmp 111), (some (110, false))⟩,
    ⟨(some 113), .fadr 2 (.tmp 112), (some (110, false))⟩,
    ⟨(some 114), .load false 1 (.tmp 113), (some (110, false))⟩,
    ⟨(some 115), .nileq .ptr false (.tmp 114) (.const (.ptr none)), (some (110, false))⟩,
    ⟨(some 116), .pick (.tmp 110) (.const (.bool true)) (.tmp 115), none⟩,
    ⟨(some 117), .bbin false (.tmp 107) (.tmp 116), none⟩,
    ⟨(some 118), .mov (.tmp 117), none⟩,
    ⟨(some 119), .mov (.tmp 9), (some (118, true))⟩,
    ⟨(some 120), .ibin .eql (.tmp 119) (.const (.int .i64 0)), (some (118, true))⟩,
    ⟨(some 121), .mov (.tmp 8), (some (118, true))⟩,
    ⟨(some 122), .un .not (.tmp 121), (some (118, true))⟩,
    ⟨(some 123), .mov (.tmp 122), (some (118, true))⟩,
    ⟨(some 124), .mov (.tmp 0), (some (123, true))⟩,
    ⟨(some 125), .nilck (.tmp 124), (some (123, true))⟩,
    ⟨(some 126), .fadr 6 (.tmp 125), (some (123, true))⟩,
    ⟨(some 127), .load false 1 (.tmp 126), (some (123, true))⟩,
    ⟨(some 128), .un .not (.tmp 127), (some (123, true))⟩,
    ⟨(some 129), .pick (.tmp 123) (.tmp 128) (.const (.bool false)), (some (118, true))⟩,
    ⟨(some 130), .bbin false (.tmp 120) (.tmp 129), (some (118, true))⟩,
    ⟨(some 131), .pick (.tmp 118) (.tmp 130) (.const (.bool false)), none⟩,
    ⟨(some 4), .mov (.tmp 131), none⟩]
def A_rollbooklaw11_world_doesr32 : List AOper := [
    ⟨(some 133), .ibin .eql (.tmp 26) (.const (.int .i64 7)), none⟩,
    ⟨(some 132), .mov (.tmp 133), none⟩]
def A_rollbooklaw11_world_doesr33 : List AOper := [
    ⟨(some 135), .mov (.tmp 0), none⟩,
    ⟨(some 136), .nilck (.tmp 135), none⟩,
    ⟨(some 137), .fadr 1 (.tmp 136), none⟩,
    ⟨(some 138), .load false 1 (.tmp 137), none⟩,
    ⟨(some 139), .call 15 [(.tmp 138)], none⟩,
    ⟨(some 134), .mov (.tmp 139), none⟩,
    ⟨(some 140), .extr (.tmp 134) 0, none⟩,
    ⟨(some 141), .extr (.tmp 134) 1, none⟩,
    ⟨(some 10), .mov (.tmp 140), none⟩,
    ⟨(some 11), .mov (.tmp 141), none⟩]
def A_rollbooklaw11_world_doesr34 : List AOper := [
    ⟨(some 142), .mov (.tmp 0), none⟩,
    ⟨(some 143), .nilck (.tmp 142), none⟩,
    ⟨(some 144), .fadr 3 (.tmp 143), none⟩,
    ⟨(some 145), .load false 1 (.tmp 144), none⟩,
    ⟨(some 146), .len .sl (.tmp 145), none⟩,
    ⟨(some 147), .ibin .geq (.tmp 146) (.const (.int .i64 4)), none⟩]
def A_rollbooklaw11_world_doesr35 : List AOper := [
    ⟨(some 148), .mov (.tmp 10), none⟩,
    ⟨(some 149), .nileq .ptr false (.tmp 148) (.const (.ptr none)), none⟩,
    ⟨(some 150), .mov (.tmp 149), none⟩,
    ⟨(some 151), .mov (.tmp 11), (some (150, true))⟩,
    ⟨(some 152), .ibin .eql (.tmp 151) (.const (.int .i64 9)), (some (150, true))⟩,
    ⟨(some 153), .pick (.tmp 150) (.tmp 152) (.const (.bool false)), none⟩,
    ⟨(some 4), .mov (.tmp 153), none⟩]
def A_rollbooklaw11_world_doesr36 : List AOper := [
    ⟨(some 154), .mov (.tmp 0), none⟩,
    ⟨(some 155), .mov (.tmp 0), none⟩,
    ⟨(some 156), .nilck (.tmp 155), none⟩,
    ⟨(some 157), .fadr 3 (.tmp 156), none⟩,
    ⟨(some 158), .load false 1 (.tmp 157), none⟩,
    ⟨(some 159), .mov (.tmp 10), none⟩,
    ⟨(some 160), .mov (.tmp 0), none⟩,
    ⟨(some 161), .nilck (.tmp 160), none⟩,
    ⟨(some 162), .fadr 4 (.tmp 161), none⟩,
    ⟨(some 163), .load false 1 (.tmp 162), none⟩,
    ⟨(some 164), .build [.ptr none, .slice none 0 0] [(0, 1, (.tmp 159)), (1, 1, (.tmp 163))], none⟩,
    ⟨(some 165), .buildSl [.ptr none, .slice none 0 0] 1 2 [(0, 2, (.tmp 164))], none⟩,
    ⟨(some 166), .app 2 32 89 (.tmp 158) (.tmp 165), none⟩,
    ⟨(some 167), .nilck (.tmp 154), none⟩,
    ⟨(some 168), .fadr 3 (.tmp 167), none⟩,
    ⟨none, .store 1 (.tmp 168) (.tmp 166), none⟩]
def A_rollbooklaw11_world_doesr37 : List AOper := [
    ⟨(some 169), .mov (.tmp 11), none⟩,
    ⟨(some 170), .ibin .eql (.tmp 169) (.const (.int .i64 0)), none⟩,
    ⟨(some 171), .mov (.tmp 170), none⟩,
    ⟨(some 172), .mov (.tmp 10), (some (171, true))⟩,
    ⟨(some 173), .call 23 [(.tmp 172)], (some (171, true))⟩,
    ⟨(some 174), .mov (.tmp 0), (some (171, true))⟩,
    ⟨(some 175), .nilck (.tmp 174), (some (171, true))⟩,
    ⟨(some 176), .fadr 1 (.tmp 175), (some (171, true))⟩,
    ⟨(some 177), .load false 1 (.tmp 176), (some (171, true))⟩,
    ⟨(some 178), .call 14 [(.tmp 177)], (some (171, true))⟩,
    ⟨(some 179), .fld false 0 1 (.tmp 178), (some (171, true))⟩,
    ⟨(some 180), .ibin .eql (.tmp 173) (.tmp 179), (some (171, true))⟩,
    ⟨(some 181), .pick (.tmp 171) (.tmp 180) (.const (.bool false)), none⟩,
    ⟨(some 4), .mov (.tmp 181), none⟩]
def A_rollbooklaw11_world_doesr38 : List AOper := [
    ⟨(some 183), .ibin .eql (.tmp 26) (.const (.int .i64 8)), none⟩,
    ⟨(some 182), .mov (.tmp 183), none⟩]
def A_rollbooklaw11_world_doesr39 : List AOper := [
    ⟨(some 184), .mov (.tmp 0), none⟩,
    ⟨(some 185), .nilck (.tmp 184), none⟩,
    ⟨(some 186), .fadr 3 (.tmp 185), none⟩,
    ⟨(some 187), .load false 1 (.tmp 186), none⟩,
    ⟨(some 188), .len .sl (.tmp 187), none⟩,
    ⟨(some 189), .ibin .eql (.tmp 188) (.const (.int .i64 0)), none⟩]
def A_rollbooklaw11_world_doesr40 : List AOper := [
    ⟨(some 4), .mov (.const (.bool true)), none⟩]
def A_rollbooklaw11_world_doesr41 : List AOper := [
    ⟨(some 190), .fadr 1 (.tmp 3), none⟩,
    ⟨(some 191), .load false 1 (.tmp 190), none⟩,
    ⟨(some 192), .conv .u64 (.tmp 191), none⟩,
    ⟨(some 193), .mov (.tmp 0), none⟩,
    ⟨(some 194), .nilck (.tmp 193), none⟩,
    ⟨(some 195), .fadr 3 (.tmp 194), none⟩,
    ⟨(some 196), .load false 1 (.tmp 195), none⟩,
    ⟨(some 197), .len .sl (.tmp 196), none⟩,
    ⟨(some 198), .conv .u64 (.tmp 197), none⟩,
    ⟨(some 199), .ibin .rem (.tmp 192) (.tmp 198), none⟩,
    ⟨(some 200), .conv .i64 (.tmp 199), none⟩,
    ⟨(some 12), .mov (.tmp 200), none⟩]
def A_rollbooklaw11_world_doesr42 : List AOper := [
    ⟨(some 201), .mov (.tmp 0), none⟩,
    ⟨(some 202), .nilck (.tmp 201), none⟩,
    ⟨(some 203), .fadr 3 (.tmp 202), none⟩,
    ⟨(some 204), .load false 1 (.tmp 203), none⟩,
    ⟨(some 205), .mov (.tmp 12), none⟩,
    ⟨(some 206), .iadrS 2 (.tmp 204) (.tmp 205), none⟩,
    ⟨(some 207), .fadr 0 (.tmp 206), none⟩,
    ⟨(some 208), .load false 1 (.tmp 207), none⟩,
    ⟨(some 209), .call 18 [(.tmp 208)], none⟩,
    ⟨(some 13), .mov (.tmp 209), none⟩]
def A_rollbooklaw11_world_doesr43 : List AOper := [
    ⟨(some 210), .mov (.tmp 0), none⟩,
    ⟨(some 211), .nilck (.tmp 210), none⟩,
    ⟨(some 212), .fadr 3 (.tmp 211), none⟩,
    ⟨(some 213), .load false 1 (.tmp 212), none⟩,
    ⟨(some 214), .mov (.tmp 12), none⟩,
    ⟨(some 215), .iadrS 2 (.tmp 213) (.tmp 214), none⟩,
    ⟨(some 216), .fadr 0 (.tmp 215), none⟩,
    ⟨(some 217), .load false 1 (.tmp 216), none⟩,
    ⟨(some 218), .call 18 [(.tmp 217)], none⟩,
    ⟨(some 14), .mov (.tmp 218), none⟩]
def A_rollbooklaw11_world_doesr44 : List AOper := [
    ⟨(some 219), .mov (.tmp 0), none⟩,
    ⟨(some 220), .buildSl [] 0 2 [], none⟩,
    ⟨(some 221), .mov (.tmp 0), none⟩,
    ⟨(some 222), .nilck (.tmp 221), none⟩,
    ⟨(some 223), .fadr 3 (.tmp 222), none⟩,
    ⟨(some 224), .load false 1 (.tmp 223), none⟩,
    ⟨(some 225), .mov (.tmp 12), none⟩,
    ⟨(some 226), .slV 2 (.tmp 224) none (some (.tmp 225)) none, none⟩,
    ⟨(some 227), .app 2 32 89 (.tmp 220) (.tmp 226), none⟩,
    ⟨(some 228), .mov (.tmp 0), none⟩,
    ⟨(some 229), .nilck (.tmp 228), none⟩,
    ⟨(some 230), .fadr 3 (.tmp 229), none⟩,
    ⟨(some 231), .load false 1 (.tmp 230), none⟩,
    ⟨(some 232), .mov (.tmp 12), none⟩,
    ⟨(some 233), .ibin .add (.tmp 232) (.const (.int .i64 1)), none⟩,
    ⟨(some 234), .slV 2 (.tmp 231) (some (.tmp 233)) none none, none⟩,
    ⟨(some 235), .app 2 32 89 (.tmp 227) (.tmp 234), none⟩,
    ⟨(some 236), .nilck (.tmp 219), none⟩,
    ⟨(some 237), .fadr 3 (.tmp 236), none⟩,
    ⟨none, .store 1 (.tmp 237) (.tmp 235), none⟩]
def A_rollbooklaw11_world_doesr45 : List AOper := [
    ⟨(some 238), .mov (.tmp 13), none⟩,
    ⟨(some 239), .ibin .eql (.tmp 238) (.const (.int .i64 0)), none⟩,
    ⟨(some 240), .mov (.tmp 239), none⟩,
    ⟨(some 241), .mov (.tmp 14), (some (240, true))⟩,
    ⟨(some 242), .ibin .eql (.tmp 241) (.const (.int .i64 12)), (some (240, true))⟩,
    ⟨(some 243), .pick (.tmp 240) (.tmp 242) (.const (.bool false)), none⟩,
    ⟨(some 4), .mov (.tmp 243), none⟩]
def A_rollbooklaw11_world_doesr46 : List AOper := [
    ⟨(some 245), .ibin .eql (.tmp 26) (.const (.int .i64 9)), none⟩,
    ⟨(some 244), .mov (.tmp 245), none⟩]
def A_rollbooklaw11_world_doesr47 : List AOper := [
    ⟨(some 246), .mov (.tmp 0), none⟩,
    ⟨(some 247), .nilck (.tmp 246), none⟩,
    ⟨(some 248), .fadr 0 (.tmp 247), none⟩,
    ⟨(some 249), .load false 1 (.tmp 248), none⟩,
    ⟨(some 250), .fadr 1 (.tmp 3), none⟩,
    ⟨(some 251), .load false 1 (.tmp 250), none⟩,
    ⟨(some 252), .call 68 [(.tmp 249), (.tmp 251)], none⟩]
def A_rollbooklaw11_world_doesr48 : List AOper := [
    ⟨(some 254), .ibin .eql (.tmp 26) (.const (.int .i64 10)), none⟩,
    ⟨(some 253), .mov (.tmp 254), none⟩]
def A_rollbooklaw11_world_doesr49 : List AOper := [
    ⟨(some 255), .mov (.tmp 0), none⟩,
    ⟨(some 256), .nilck (.tmp 255), none⟩,
    ⟨(some 257), .fadr 0 (.tmp 256), none⟩,
    ⟨(some 258), .load false 1 (.tmp 257), none⟩,
    ⟨(some 259), .call 69 [(.tmp 258)], none⟩]
def A_rollbooklaw11_world_doesr50 : List AOper := [
    ⟨(some 260), .mov (.tmp 0), none⟩,
    ⟨(some 261), .call 70 [(.tmp 260)], none⟩]
def A_rollbooklaw11_world_doesr51 : List AOper := [
    ⟨(some 263), .ibin .eql (.tmp 26) (.const (.int .i64 11)), none⟩,
    ⟨(some 262), .mov (.tmp 263), none⟩]
def A_rollbooklaw11_world_doesr52 : List AOper := [
    ⟨(some 264), .mov (.tmp 0), none⟩,
    ⟨(some 265), .nilck (.tmp 264), none⟩,
    ⟨(some 266), .fadr 0 (.tmp 265), none⟩,
    ⟨(some 267), .load false 1 (.tmp 266), none⟩,
    ⟨(some 268), .fadr 5 (.tmp 3), none⟩,
    ⟨(some 269), .load false 1 (.tmp 268), none⟩,
    ⟨(some 270), .call 71 [(.tmp 267), (.tmp 269)], none⟩,
    ⟨(some 271), .ibin .eql (.tmp 270) (.const (.int .i64 0)), none⟩]
def A_rollbooklaw11_world_doesr53 : List AOper := [
    ⟨(some 272), .mov (.tmp 0), none⟩,
    ⟨(some 273), .call 72 [(.tmp 272)], none⟩,
    ⟨(some 4), .mov (.tmp 273), none⟩]
def A_rollbooklaw11_world_doesc54 : AC := (.block 0 (.seq (.region A_rollbooklaw11_world_doesr4) (.cond (.tmp 27) (.seq (.region A_rollbooklaw11_world_doesr5) (.seq (.seq (.region A_rollbooklaw11_world_doesr6) (.cond (.tmp 49) (.seq (.region A_rollbooklaw11_world_doesr7) .ret) .skip)) (.seq (.region A_rollbooklaw11_world_doesr8) (.seq (.region A_rollbooklaw11_world_doesr9) (.seq (.region A_rollbooklaw11_world_doesr10) (.seq (.region A_rollbooklaw11_world_doesr11) .ret)))))) (.seq (.region A_rollbooklaw11_world_doesr12) (.cond (.tmp 72) (.seq (.region A_rollbooklaw11_world_doesr13) .ret) (.seq (.region A_rollbooklaw11_world_doesr14) (.cond (.tmp 77) (.seq (.region A_rollbooklaw11_world_doesr15) .ret) (.seq (.region A_rollbooklaw11_world_doesr16) (.cond (.tmp 82) (.seq (.region A_rollbooklaw11_world_doesr17) .ret) (.seq (.region A_rollbooklaw11_world_doesr18) (.cond (.tmp 86) (.seq (.seq (.region A_rollbooklaw11_world_doesr19) A_rollbooklaw11_world_doesc26) (.seq (.region A_rollbooklaw11_world_doesr27) .ret)) (.seq (.region A_rollbooklaw11_world_doesr28) (.cond (.tmp 95) (.seq (.region A_rollbooklaw11_world_doesr29) (.seq (.region A_rollbooklaw11_world_doesr30) (.seq (.region A_rollbooklaw11_world_doesr31) .ret))) (.seq (.region A_rollbooklaw11_world_doesr32) (.cond (.tmp 132) (.seq (.region A_rollbooklaw11_world_doesr33) (.seq (.seq (.region A_rollbooklaw11_world_doesr34) (.cond (.tmp 147) (.seq (.region A_rollbooklaw11_world_doesr35) .ret) .skip)) (.seq (.draw A_rollbooklaw11_world_doesr36 [0, 0, 2, 6, 14, 0, 0, 64, 192, 448, 992, 2016, 4094, 8191, 16383, 32767]) (.seq (.draw A_rollbooklaw11_world_doesr37 [0, 1, 3, 7, 15, 7, 39, 103, 231, 511, 1023, 2047, 4095, 8191]) .ret)))) (.seq (.region A_rollbooklaw11_world_doesr38) (.cond (.tmp 182) (.seq (.seq (.region A_rollbooklaw11_world_doesr39) (.cond (.tmp 189) (.seq (.region A_rollbooklaw11_world_doesr40) .ret) .skip)) (.seq (.draw A_rollbooklaw11_world_doesr41 [0, 1, 3, 0, 8, 24, 56, 120, 248, 511, 1023, 2047]) (.seq (.region A_rollbooklaw11_world_doesr42) (.seq (.region A_rollbooklaw11_world_doesr43) (.seq (.draw A_rollbooklaw11_world_doesr44 [0, 0, 0, 4, 12, 28, 0, 124, 254, 0, 512, 1536, 3584, 0, 8192, 32256, 65534, 131071, 262143, 524287]) (.seq (.region A_rollbooklaw11_world_doesr45) .ret)))))) (.seq (.region A_rollbooklaw11_world_doesr46) (.cond (.tmp 244) (.draw A_rollbooklaw11_world_doesr47 [0, 1, 3, 7, 0, 16, 63]) (.seq (.region A_rollbooklaw11_world_doesr48) (.cond (.tmp 253) (.seq (.region A_rollbooklaw11_world_doesr49) (.region A_rollbooklaw11_world_doesr50)) (.seq (.region A_rollbooklaw11_world_doesr51) (.cond (.tmp 262) (.seq (.draw A_rollbooklaw11_world_doesr52 [0, 1, 3, 7, 0, 16, 63, 127]) (.cond (.tmp 271) (.seq (.region A_rollbooklaw11_world_doesr53) .ret) .skip)) .skip)))))))))))))))))))))))
def A_rollbooklaw11_world_doesr55 : List AOper := [
    ⟨(some 4), .mov (.const (.bool true)), none⟩]
def A_rollbooklaw11_world_does : AFn := ⟨274, 2, [.tmp 4], (.seq (.region A_rollbooklaw11_world_doesr0) (.seq (.seq (.region A_rollbooklaw11_world_doesr1) (.cond (.tmp 24) (.seq (.region A_rollbooklaw11_world_doesr2) .ret) .skip)) (.seq (.seq (.region A_rollbooklaw11_world_doesr3) A_rollbooklaw11_world_doesc54) (.seq (.region A_rollbooklaw11_world_doesr55) .ret))))⟩
theorem fn_rollbooklaw11_world_does : FnIs Go.Proofs.Tryz.prog 26 A_rollbooklaw11_world_does := ⟨by kernel_rfl, Go.Proofs.Tryz.f26, Go.Proofs.Tryz.func26, by kernel_rfl⟩
/- rollbook/tree.find -/
def A_tree_findr0 : List AOper := [
    ⟨(some 6), .alloc [.str [], .str [], .int .i64 0, .int .i64 0, .int .i64 0] 5 170, none⟩,
    ⟨(some 7), .mov (.const (.bool false)), none⟩,
    ⟨(some 8), .mov (.const (.int .i64 0)), none⟩]
def A_tree_findr1 : List AOper := [
    ⟨(some 15), .mov (.const (.int .i64 0)), none⟩]
def A_tree_findr2 : List AOper := [
    ⟨(some 16), .ibin .lss (.tmp 15) (.const (.int .i64 10)), none⟩]
def A_tree_findr3 : List AOper := [
    ⟨(some 17), .mov (.tmp 1), none⟩,
    ⟨(some 18), .ibin .eql (.tmp 17) (.const (.int .i64 0)), none⟩]
def A_tree_findr4 : List AOper := [
    ⟨(some 19), .build [.str [], .str [], .int .i64 0, .int .i64 0, .int .i64 0] [], none⟩,
    ⟨none, .store 5 (.tmp 6) (.tmp 19), none⟩,
    ⟨(some 7), .mov (.const (.bool false)), none⟩,
    ⟨(some 8), .mov (.const (.int .i64 0)), none⟩]
def A_tree_findr5 : List AOper := [
    ⟨(some 21), .mov (.tmp 0), none⟩,
    ⟨(some 22), .mov (.tmp 1), none⟩,
    ⟨(some 23), .call 179 [(.tmp 21), (.tmp 22)], none⟩,
    ⟨(some 20), .mov (.tmp 23), none⟩,
    ⟨(some 24), .extr (.tmp 20) 0, none⟩,
    ⟨(some 25), .extr (.tmp 20) 1, none⟩,
    ⟨(some 26), .extr (.tmp 20) 2, none⟩,
    ⟨(some 9), .mov (.tmp 24), none⟩,
    ⟨(some 10), .mov (.tmp 25), none⟩,
    ⟨(some 11), .mov (.tmp 26), none⟩]
def A_tree_findr6 : List AOper := [
    ⟨(some 27), .mov (.tmp 11), none⟩,
    ⟨(some 28), .ibin .neq (.tmp 27) (.const (.int .i64 0)), none⟩]
def A_tree_findr7 : List AOper := [
    ⟨(some 29), .build [.str [], .str [], .int .i64 0, .int .i64 0, .int .i64 0] [], none⟩,
    ⟨(some 30), .mov (.tmp 11), none⟩,
    ⟨none, .store 5 (.tmp 6) (.tmp 29), none⟩,
    ⟨(some 7), .mov (.const (.bool false)), none⟩,
    ⟨(some 8), .mov (.tmp 30), none⟩]
def A_tree_findr8 : List AOper := [
    ⟨(some 32), .mov (.tmp 9), none⟩,
    ⟨(some 33), .mov (.tmp 10), none⟩,
    ⟨(some 34), .mov (.tmp 2), none⟩,
    ⟨(some 35), .call 180 [(.tmp 32), (.tmp 33), (.tmp 34)], none⟩,
    ⟨(some 31), .mov (.tmp 35), none⟩,
    ⟨(some 36), .extr (.tmp 31) 0, none⟩,
    ⟨(some 37), .extr (.tmp 31) 1, none⟩,
    ⟨(some 38), .extr (.tmp 31) 2, none⟩,
    ⟨(some 13), .alloc [.str [], .str [], .int .i64 0, .int .i64 0, .int .i64 0] 5 170, none⟩,
    ⟨(some 12), .mov (.tmp 36), none⟩,
    ⟨none, .store 5 (.tmp 13) (.tmp 37), none⟩,
    ⟨(some 14), .mov (.tmp 38), none⟩]
def A_tree_findr9 : List AOper := [
    ⟨(some 40), .mov (.tmp 9), none⟩,
    ⟨(some 41), .mov (.tmp 40), none⟩,
    ⟨(some 42), .mov (.tmp 14), (some (41, true))⟩,
    ⟨(some 43), .pick (.tmp 41) (.tmp 42) (.const (.bool false)), none⟩,
    ⟨(some 39), .mov (.tmp 43), none⟩]
def A_tree_findr10 : List AOper := [
    ⟨(some 44), .load true 5 (.tmp 13), none⟩,
    ⟨none, .store 5 (.tmp 6) (.tmp 44), none⟩,
    ⟨(some 7), .mov (.const (.bool true)), none⟩,
    ⟨(some 8), .mov (.const (.int .i64 0)), none⟩]
def A_tree_findr11 : List AOper := [
    ⟨(some 46), .mov (.tmp 9), none⟩,
    ⟨(some 45), .mov (.tmp 46), none⟩]
def A_tree_findr12 : List AOper := [
    ⟨(some 47), .build [.str [], .str [], .int .i64 0, .int .i64 0, .int .i64 0] [], none⟩,
    ⟨none, .store 5 (.tmp 6) (.tmp 47), none⟩,
    ⟨(some 7), .mov (.const (.bool false)), none⟩,
    ⟨(some 8), .mov (.const (.int .i64 0)), none⟩]
def A_tree_findr13 : List AOper := [
    ⟨(some 49), .fadr 4 (.tmp 13), none⟩,
    ⟨(some 50), .load false 1 (.tmp 49), none⟩,
    ⟨(some 51), .ibin .eql (.tmp 50) (.const (.int .i64 0)), none⟩,
    ⟨(some 48), .mov (.tmp 51), none⟩]
def A_tree_findr14 : List AOper := [
    ⟨(some 52), .build [.str [], .str [], .int .i64 0, .int .i64 0, .int .i64 0] [], none⟩,
    ⟨none, .store 5 (.tmp 6) (.tmp 52), none⟩,
    ⟨(some 7), .mov (.const (.bool false)), none⟩,
    ⟨(some 8), .mov (.const (.int .i64 4)), none⟩]
def A_tree_findc15 : AC := (.block 2 (.seq (.region A_tree_findr9) (.cond (.tmp 39) (.seq (.region A_tree_findr10) .ret) (.seq (.region A_tree_findr11) (.cond (.tmp 45) (.seq (.region A_tree_findr12) .ret) (.seq (.region A_tree_findr13) (.cond (.tmp 48) (.seq (.region A_tree_findr14) .ret) .skip)))))))
def A_tree_findr16 : List AOper := [
    ⟨(some 53), .fadr 4 (.tmp 13), none⟩,
    ⟨(some 54), .load false 1 (.tmp 53), none⟩,
    ⟨(some 1), .mov (.tmp 54), none⟩]
def A_tree_findc17 : AC := (.block 1 (.seq (.seq (.region A_tree_findr3) (.cond (.tmp 18) (.seq (.region A_tree_findr4) .ret) .skip)) (.seq (.region A_tree_findr5) (.seq (.seq (.region A_tree_findr6) (.cond (.tmp 28) (.seq (.region A_tree_findr7) .ret) .skip)) (.seq (.region A_tree_findr8) (.seq A_tree_findc15 (.region A_tree_findr16)))))))
def A_tree_findr18 : List AOper := [
    ⟨(some 55), .ibin .add (.tmp 15) (.const (.int .i64 1)), none⟩,
    ⟨(some 15), .mov (.tmp 55), none⟩]
def A_tree_findl19 : AC := (.seq (.region A_tree_findr2) (.seq (.cond (.tmp 16) .skip (.exit 0)) (.seq A_tree_findc17 (.region A_tree_findr18))))
def A_tree_findc20 : AC := (.block 0 (.loop A_tree_findl19))
def A_tree_findr21 : List AOper := [
    ⟨(some 56), .build [.str [], .str [], .int .i64 0, .int .i64 0, .int .i64 0] [], none⟩,
    ⟨none, .store 5 (.tmp 6) (.tmp 56), none⟩,
    ⟨(some 7), .mov (.const (.bool false)), none⟩,
    ⟨(some 8), .mov (.const (.int .i64 4)), none⟩]
def A_tree_find : AFn := ⟨57, 3, [.cell 6 true 5, .tmp 7, .tmp 8], (.seq (.region A_tree_findr0) (.seq (.seq (.region A_tree_findr1) A_tree_findc20) (.seq (.region A_tree_findr21) .ret)))⟩
theorem fn_tree_find : FnIs Go.Proofs.Tryz.prog 121 A_tree_find := ⟨by kernel_rfl, Go.Proofs.Tryz.f121, Go.Proofs.Tryz.func121, by kernel_rfl⟩
/- rollbook/page.Right -/
def A_page_Rightr0 : List AOper := [
    ⟨(some 1), .box (.tmp 0) 4, none⟩,
    ⟨(some 2), .mov (.const (.bool false)), none⟩]
def A_page_Rightr1 : List AOper := [
    ⟨(some 3), .fadr 0 (.tmp 1), none⟩,
    ⟨(some 4), .load false 1 (.tmp 3), none⟩,
    ⟨(some 5), .ibin .geq (.tmp 4) (.const (.int .i64 1)), none⟩,
    ⟨(some 6), .mov (.tmp 5), none⟩,
    ⟨(some 7), .fadr 0 (.tmp 1), (some (6, true))⟩,
    ⟨(some 8), .load false 1 (.tmp 7), (some (6, true))⟩,
    ⟨(some 9), .ibin .leq (.tmp 8) (.const (.int .i64 4)), (some (6, true))⟩,
    ⟨(some 10), .pick (.tmp 6) (.tmp 9) (.const (.bool false)), none⟩,
    ⟨(some 11), .mov (.tmp 10), none⟩,
    ⟨(some 12), .fadr 1 (.tmp 1), (some (11, true))⟩,
    ⟨(some 13), .load false 1 (.tmp 12), (some (11, true))⟩,
    ⟨(some 14), .ibin .geq (.tmp 13) (.const (.int .i64 1)), (some (11, true))⟩,
    ⟨(some 15), .pick (.tmp 11) (.tmp 14) (.const (.bool false)), none⟩,
    ⟨(some 16), .mov (.tmp 15), none⟩,
    ⟨(some 17), .fadr 1 (.tmp 1), (some (16, true))⟩,
    ⟨(some 18), .load false 1 (.tmp 17), (some (16, true))⟩,
    ⟨(some 19), .ibin .lss (.tmp 18) (.const (.int .i64 512)), (some (16, true))⟩,
    ⟨(some 20), .pick (.tmp 16) (.tmp 19) (.const (.bool false)), none⟩,
    ⟨(some 21), .mov (.tmp 20), none⟩,
    ⟨(some 22), .fadr 2 (.tmp 1), (some (21, true))⟩,
    ⟨(some 23), .load false 1 (.tmp 22), (some (21, true))⟩,
    ⟨(some 24), .ibin .geq (.tmp 23) (.const (.int .i64 0)), (some (21, true))⟩,
    ⟨(some 25), .pick (.tmp 21) (.tmp 24) (.const (.bool false)), none⟩,
    ⟨(some 26), .mov (.tmp 25), none⟩,
    ⟨(some 27), .fadr 2 (.tmp 1), (some (26, true))⟩,
    ⟨(some 28), .load false 1 (.tmp 27), (some (26, true))⟩,
    ⟨(some 29), .ibin .leq (.tmp 28) (.const (.int .i64 1099511627776)), (some (26, true))⟩,
    ⟨(some 30), .pick (.tmp 26) (.tmp 29) (.const (.bool false)), none⟩,
    ⟨(some 31), .mov (.tmp 30), none⟩,
    ⟨(some 32), .fadr 3 (.tmp 1), (some (31, true))⟩,
    ⟨(some 33), .load false 1 (.tmp 32), (some (31, true))⟩,
    ⟨(some 34), .len .str (.tmp 33), (some (31, true))⟩,
    ⟨(some 35), .ibin .leq (.tmp 34) (.const (.int .i64 488)), (some (31, true))⟩,
    ⟨(some 36), .pick (.tmp 31) (.tmp 35) (.const (.bool false)), none⟩,
    ⟨(some 2), .mov (.tmp 36), none⟩]
def A_page_Right : AFn := ⟨37, 1, [.tmp 2], (.seq (.region A_page_Rightr0) (.seq (.region A_page_Rightr1) .ret))⟩
theorem fn_page_Right : FnIs Go.Proofs.Tryz.prog 229 A_page_Right := ⟨by kernel_rfl, Go.Proofs.Tryz.f229, Go.Proofs.Tryz.func229, by kernel_rfl⟩
/- rollbook/node.sum -/
def A_node_sumr0 : List AOper := [
    ⟨(some 4), .mov (.const (.int .i64 0)), none⟩]
def A_node_sumr1 : List AOper := [
    ⟨(some 5), .mov (.const (.int .i64 2)), none⟩]
def A_node_sumr2 : List AOper := [
    ⟨(some 8), .mov (.tmp 1), none⟩,
    ⟨(some 9), .len .sl (.tmp 8), none⟩,
    ⟨(some 10), .mov (.const (.int .i64 0)), none⟩]
def A_node_sumr3 : List AOper := [
    ⟨(some 11), .ibin .lss (.tmp 10) (.tmp 9), none⟩]
def A_node_sumr4 : List AOper := [
    ⟨(some 12), .iadrS 5 (.tmp 8) (.tmp 10), none⟩,
    ⟨(some 13), .load true 5 (.tmp 12), none⟩,
    ⟨(some 7), .alloc [.str [], .str [], .int .i64 0, .int .i64 0, .int .i64 0] 5 170, none⟩,
    ⟨none, .store 5 (.tmp 7) (.tmp 13), none⟩]
def A_node_sumr5 : List AOper := [
    ⟨(some 14), .mov (.tmp 5), none⟩,
    ⟨(some 15), .mov (.tmp 0), none⟩,
    ⟨(some 16), .load true 5 (.tmp 7), none⟩,
    ⟨(some 17), .call 255 [(.tmp 15), (.tmp 16)], none⟩,
    ⟨(some 18), .ibin .add (.tmp 14) (.tmp 17), none⟩,
    ⟨(some 5), .mov (.tmp 18), none⟩]
def A_node_sumc6 : AC := (.block 1 (.seq (.region A_node_sumr4) (.region A_node_sumr5)))
def A_node_sumr7 : List AOper := [
    ⟨(some 19), .ibin .add (.tmp 10) (.const (.int .i64 1)), none⟩,
    ⟨(some 10), .mov (.tmp 19), none⟩]
def A_node_suml8 : AC := (.seq (.region A_node_sumr3) (.seq (.cond (.tmp 11) .skip (.exit 0)) (.seq A_node_sumc6 (.region A_node_sumr7))))
def A_node_sumc9 : AC := (.block 0 (.loop A_node_suml8))
def A_node_sumr10 : List AOper := [
    ⟨(some 20), .mov (.tmp 5), none⟩,
    ⟨(some 4), .mov (.tmp 20), none⟩]
def A_node_sum : AFn := ⟨21, 2, [.tmp 4], (.seq (.region A_node_sumr0) (.seq (.region A_node_sumr1) (.seq (.seq (.region A_node_sumr2) A_node_sumc9) (.seq (.region A_node_sumr10) .ret))))⟩
theorem fn_node_sum : FnIs Go.Proofs.Tryz.prog 254 A_node_sum := ⟨by kernel_rfl, Go.Proofs.Tryz.f254, Go.Proofs.Tryz.func254, by kernel_rfl⟩
/- rollbook/node.size -/
def A_node_sizer0 : List AOper := [
    ⟨(some 3), .box (.tmp 1) 5, none⟩,
    ⟨(some 4), .mov (.const (.int .i64 0)), none⟩]
def A_node_sizer1 : List AOper := [
    ⟨(some 6), .fadr 0 (.tmp 3), none⟩,
    ⟨(some 7), .load false 1 (.tmp 6), none⟩,
    ⟨(some 8), .len .str (.tmp 7), none⟩,
    ⟨(some 9), .ibin .add (.const (.int .i64 4)) (.tmp 8), none⟩,
    ⟨(some 5), .mov (.tmp 9), none⟩]
def A_node_sizer2 : List AOper := [
    ⟨(some 11), .mov (.tmp 0), none⟩,
    ⟨(some 12), .un .not (.tmp 11), none⟩,
    ⟨(some 10), .mov (.tmp 12), none⟩]
def A_node_sizer3 : List AOper := [
    ⟨(some 13), .mov (.tmp 5), none⟩,
    ⟨(some 14), .ibin .add (.tmp 13) (.const (.int .i64 4)), none⟩,
    ⟨(some 4), .mov (.tmp 14), none⟩]
def A_node_sizer4 : List AOper := [
    ⟨(some 16), .fadr 2 (.tmp 3), none⟩,
    ⟨(some 17), .load false 1 (.tmp 16), none⟩,
    ⟨(some 18), .ibin .gtr (.tmp 17) (.const (.int .i64 0)), none⟩,
    ⟨(some 15), .mov (.tmp 18), none⟩]
def A_node_sizer5 : List AOper := [
    ⟨(some 19), .mov (.tmp 5), none⟩,
    ⟨(some 20), .ibin .add (.tmp 19) (.const (.int .i64 9)), none⟩,
    ⟨(some 4), .mov (.tmp 20), none⟩]
def A_node_sizec6 : AC := (.block 0 (.seq (.region A_node_sizer2) (.cond (.tmp 10) (.seq (.region A_node_sizer3) .ret) (.seq (.region A_node_sizer4) (.cond (.tmp 15) (.seq (.region A_node_sizer5) .ret) .skip)))))
def A_node_sizer7 : List AOper := [
    ⟨(some 21), .mov (.tmp 5), none⟩,
    ⟨(some 22), .ibin .add (.tmp 21) (.const (.int .i64 3)), none⟩,
    ⟨(some 23), .fadr 1 (.tmp 3), none⟩,
    ⟨(some 24), .load false 1 (.tmp 23), none⟩,
    ⟨(some 25), .len .str (.tmp 24), none⟩,
    ⟨(some 26), .ibin .add (.tmp 22) (.tmp 25), none⟩,
    ⟨(some 4), .mov (.tmp 26), none⟩]
def A_node_size : AFn := ⟨27, 2, [.tmp 4], (.seq (.region A_node_sizer0) (.seq (.region A_node_sizer1) (.seq A_node_sizec6 (.seq (.region A_node_sizer7) .ret))))⟩
theorem fn_node_size : FnIs Go.Proofs.Tryz.prog 255 A_node_size := ⟨by kernel_rfl, Go.Proofs.Tryz.f255, Go.Proofs.Tryz.func255, by kernel_rfl⟩
/- (*strings.Builder).WriteString -/
def A_strings_Builder_WriteStringr0 : List AOper := [
    ⟨(some 4), .mov (.const (.int .i64 0)), none⟩,
    ⟨(some 5), .mov (.const (.nilIface)), none⟩]
def A_strings_Builder_WriteStringr1 : List AOper := [
    ⟨(some 6), .mov (.tmp 0), none⟩,
    ⟨(some 7), .call 244 [(.tmp 6)], none⟩]
def A_strings_Builder_WriteStringr2 : List AOper := [
    ⟨(some 8), .mov (.tmp 0), none⟩,
    ⟨(some 9), .mov (.tmp 0), none⟩,
    ⟨(some 10), .nilck (.tmp 9), none⟩,
    ⟨(some 11), .fadr 1 (.tmp 10), none⟩,
    ⟨(some 12), .load false 1 (.tmp 11), none⟩,
    ⟨(some 13), .mov (.tmp 1), none⟩,
    ⟨(some 14), .app 1 1 5 (.tmp 12) (.tmp 13), none⟩,
    ⟨(some 15), .nilck (.tmp 8), none⟩,
    ⟨(some 16), .fadr 1 (.tmp 15), none⟩,
    ⟨none, .store 1 (.tmp 16) (.tmp 14), none⟩]
def A_strings_Builder_WriteStringr3 : List AOper := [
    ⟨(some 17), .mov (.tmp 1), none⟩,
    ⟨(some 18), .len .str (.tmp 17), none⟩,
    ⟨(some 4), .mov (.tmp 18), none⟩,
    ⟨(some 5), .mov (.const (.nilIface)), none⟩]
def A_strings_Builder_WriteString : AFn := ⟨19, 2, [.tmp 4, .tmp 5], (.seq (.region A_strings_Builder_WriteStringr0) (.seq (.region A_strings_Builder_WriteStringr1) (.seq (.region A_strings_Builder_WriteStringr2) (.seq (.region A_strings_Builder_WriteStringr3) .ret))))⟩
theorem fn_strings_Builder_WriteString : FnIs Go.Proofs.Tryz.prog 204 A_strings_Builder_WriteString := ⟨by kernel_rfl, Go.Proofs.Tryz.f204, Go.Proofs.Tryz.func204, by kernel_rfl⟩
/- rollbook/node.Decode -/
def A_node_Decoder0 : List AOper := [
    ⟨(some 4), .mov (.const (.slice none 0 0)), none⟩,
    ⟨(some 5), .mov (.const (.int .i64 0)), none⟩]
def A_node_Decoder1 : List AOper := [
    ⟨(some 6), .mov (.const (.slice none 0 0)), none⟩]
def A_node_Decoder2 : List AOper := [
    ⟨(some 12), .mov (.tmp 1), none⟩,
    ⟨(some 13), .call 233 [(.tmp 12)], none⟩,
    ⟨(some 14), .mov (.const (.int .i64 0)), none⟩]
def A_node_Decoder3 : List AOper := [
    ⟨(some 15), .ibin .lss (.tmp 14) (.tmp 13), none⟩]
def A_node_Decoder4 : List AOper := [
    ⟨(some 16), .mov (.tmp 14), none⟩,
    ⟨(some 7), .mov (.tmp 16), none⟩]
def A_node_Decoder5 : List AOper := [
    ⟨(some 18), .mov (.tmp 0), none⟩,
    ⟨(some 19), .mov (.tmp 1), none⟩,
    ⟨(some 20), .mov (.tmp 7), none⟩,
    ⟨(some 21), .call 236 [(.tmp 18), (.tmp 19), (.tmp 20)], none⟩,
    ⟨(some 17), .mov (.tmp 21), none⟩,
    ⟨(some 22), .extr (.tmp 17) 0, none⟩,
    ⟨(some 23), .extr (.tmp 17) 1, none⟩,
    ⟨(some 8), .alloc [.str [], .str [], .int .i64 0, .int .i64 0, .int .i64 0] 5 170, none⟩,
    ⟨none, .store 5 (.tmp 8) (.tmp 22), none⟩,
    ⟨(some 9), .mov (.tmp 23), none⟩]
def A_node_Decoder6 : List AOper := [
    ⟨(some 24), .mov (.tmp 9), none⟩,
    ⟨(some 25), .un .not (.tmp 24), none⟩]
def A_node_Decoder7 : List AOper := [
    ⟨(some 4), .mov (.const (.slice none 0 0)), none⟩,
    ⟨(some 5), .mov (.const (.int .i64 4)), none⟩]
def A_node_Decoder8 : List AOper := [
    ⟨(some 26), .mov (.tmp 6), none⟩,
    ⟨(some 27), .load true 5 (.tmp 8), none⟩,
    ⟨(some 28), .buildSl [.str [], .str [], .int .i64 0, .int .i64 0, .int .i64 0] 1 5 [(0, 5, (.tmp 27))], none⟩,
    ⟨(some 29), .app 5 56 170 (.tmp 26) (.tmp 28), none⟩,
    ⟨(some 6), .mov (.tmp 29), none⟩]
def A_node_Decodec9 : AC := (.block 1 (.seq (.region A_node_Decoder4) (.seq (.region A_node_Decoder5) (.seq (.seq (.region A_node_Decoder6) (.cond (.tmp 25) (.seq (.region A_node_Decoder7) .ret) .skip)) (.region A_node_Decoder8)))))
def A_node_Decoder10 : List AOper := [
    ⟨(some 30), .ibin .add (.tmp 14) (.const (.int .i64 1)), none⟩,
    ⟨(some 14), .mov (.tmp 30), none⟩]
def A_node_Decodel11 : AC := (.seq (.region A_node_Decoder3) (.seq (.cond (.tmp 15) .skip (.exit 0)) (.seq A_node_Decodec9 (.region A_node_Decoder10))))
def A_node_Decodec12 : AC := (.block 0 (.loop A_node_Decodel11))
def A_node_Decoder13 : List AOper := [
    ⟨(some 32), .mov (.tmp 0), none⟩,
    ⟨(some 33), .mov (.tmp 6), none⟩,
    ⟨(some 34), .call 251 [(.tmp 32), (.tmp 33)], none⟩,
    ⟨(some 31), .mov (.tmp 34), none⟩,
    ⟨(some 35), .extr (.tmp 31) 0, none⟩,
    ⟨(some 36), .extr (.tmp 31) 1, none⟩,
    ⟨(some 10), .mov (.tmp 35), none⟩,
    ⟨(some 11), .mov (.tmp 36), none⟩]
def A_node_Decoder14 : List AOper := [
    ⟨(some 37), .mov (.tmp 11), none⟩,
    ⟨(some 38), .ibin .neq (.tmp 37) (.const (.int .i64 0)), none⟩,
    ⟨(some 39), .mov (.tmp 38), none⟩,
    ⟨(some 40), .mov (.tmp 10), (some (39, false))⟩,
    ⟨(some 41), .mov (.tmp 1), (some (39, false))⟩,
    ⟨(some 42), .sbin .neq (.tmp 40) (.tmp 41), (some (39, false))⟩,
    ⟨(some 43), .pick (.tmp 39) (.const (.bool true)) (.tmp 42), none⟩]
def A_node_Decoder15 : List AOper := [
    ⟨(some 4), .mov (.const (.slice none 0 0)), none⟩,
    ⟨(some 5), .mov (.const (.int .i64 4)), none⟩]
def A_node_Decoder16 : List AOper := [
    ⟨(some 44), .mov (.tmp 6), none⟩,
    ⟨(some 4), .mov (.tmp 44), none⟩,
    ⟨(some 5), .mov (.const (.int .i64 0)), none⟩]
def A_node_Decode : AFn := ⟨45, 2, [.tmp 4, .tmp 5], (.seq (.region A_node_Decoder0) (.seq (.region A_node_Decoder1) (.seq (.seq (.region A_node_Decoder2) A_node_Decodec12) (.seq (.seq (.region A_node_Decoder13) (.seq (.region A_node_Decoder14) (.cond (.tmp 43) (.seq (.region A_node_Decoder15) .ret) .skip))) (.seq (.region A_node_Decoder16) .ret)))))⟩
theorem fn_node_Decode : FnIs Go.Proofs.Tryz.prog 232 A_node_Decode := ⟨by kernel_rfl, Go.Proofs.Tryz.f232, Go.Proofs.Tryz.func232, by kernel_rfl⟩
/- rollbook/node.cell -/
def A_node_cellr0 : List AOper := [
    ⟨(some 3), .box (.tmp 1) 5, none⟩,
    ⟨(some 4), .mov (.const (.str [])), none⟩]
def A_node_cellr1 : List AOper := [
    ⟨(some 8), .fadr 0 (.tmp 3), none⟩,
    ⟨(some 9), .load false 1 (.tmp 8), none⟩,
    ⟨(some 10), .call 288 [(.const (.str [])), (.tmp 9)], none⟩,
    ⟨(some 7), .mov (.tmp 10), none⟩,
    ⟨(some 11), .extr (.tmp 7) 0, none⟩,
    ⟨(some 12), .extr (.tmp 7) 1, none⟩,
    ⟨(some 5), .mov (.tmp 11), none⟩,
    ⟨(some 6), .mov (.tmp 12), none⟩]
def A_node_cellr2 : List AOper := [
    ⟨(some 22), .mov (.tmp 0), none⟩,
    ⟨(some 23), .un .not (.tmp 22), none⟩,
    ⟨(some 21), .mov (.tmp 23), none⟩]
def A_node_cellr3 : List AOper := [
    ⟨(some 25), .mov (.tmp 5), none⟩,
    ⟨(some 26), .fadr 4 (.tmp 3), none⟩,
    ⟨(some 27), .load false 1 (.tmp 26), none⟩,
    ⟨(some 28), .conv .u64 (.tmp 27), none⟩,
    ⟨(some 29), .call 160 [(.tmp 25), (.tmp 28), (.const (.int .i64 4))], none⟩,
    ⟨(some 24), .mov (.tmp 29), none⟩,
    ⟨(some 30), .extr (.tmp 24) 0, none⟩,
    ⟨(some 31), .extr (.tmp 24) 1, none⟩,
    ⟨(some 5), .mov (.tmp 30), none⟩]
def A_node_cellr4 : List AOper := [
    ⟨(some 33), .fadr 2 (.tmp 3), none⟩,
    ⟨(some 34), .load false 1 (.tmp 33), none⟩,
    ⟨(some 35), .ibin .gtr (.tmp 34) (.const (.int .i64 0)), none⟩,
    ⟨(some 32), .mov (.tmp 35), none⟩]
def A_node_cellr5 : List AOper := [
    ⟨(some 37), .mov (.tmp 5), none⟩,
    ⟨(some 38), .sbin .add (.tmp 37) (.const (.str [1])), none⟩,
    ⟨(some 39), .fadr 2 (.tmp 3), none⟩,
    ⟨(some 40), .load false 1 (.tmp 39), none⟩,
    ⟨(some 41), .conv .u64 (.tmp 40), none⟩,
    ⟨(some 42), .call 160 [(.tmp 38), (.tmp 41), (.const (.int .i64 4))], none⟩,
    ⟨(some 36), .mov (.tmp 42), none⟩,
    ⟨(some 43), .extr (.tmp 36) 0, none⟩,
    ⟨(some 44), .extr (.tmp 36) 1, none⟩,
    ⟨(some 5), .mov (.tmp 43), none⟩]
def A_node_cellr6 : List AOper := [
    ⟨(some 46), .mov (.tmp 5), none⟩,
    ⟨(some 47), .fadr 3 (.tmp 3), none⟩,
    ⟨(some 48), .load false 1 (.tmp 47), none⟩,
    ⟨(some 49), .conv .u64 (.tmp 48), none⟩,
    ⟨(some 50), .call 160 [(.tmp 46), (.tmp 49), (.const (.int .i64 4))], none⟩,
    ⟨(some 45), .mov (.tmp 50), none⟩,
    ⟨(some 51), .extr (.tmp 45) 0, none⟩,
    ⟨(some 52), .extr (.tmp 45) 1, none⟩,
    ⟨(some 5), .mov (.tmp 51), none⟩]
def A_node_cellr7 : List AOper := [
    ⟨(some 14), .mov (.tmp 5), none⟩,
    ⟨(some 15), .sbin .add (.tmp 14) (.const (.str [0])), none⟩,
    ⟨(some 16), .fadr 1 (.tmp 3), none⟩,
    ⟨(some 17), .load false 1 (.tmp 16), none⟩,
    ⟨(some 18), .call 288 [(.tmp 15), (.tmp 17)], none⟩,
    ⟨(some 13), .mov (.tmp 18), none⟩,
    ⟨(some 19), .extr (.tmp 13) 0, none⟩,
    ⟨(some 20), .extr (.tmp 13) 1, none⟩,
    ⟨(some 5), .mov (.tmp 19), none⟩]
def A_node_cellc8 : AC := (.block 0 (.seq (.region A_node_cellr2) (.cond (.tmp 21) (.region A_node_cellr3) (.seq (.region A_node_cellr4) (.cond (.tmp 32) (.seq (.region A_node_cellr5) (.region A_node_cellr6)) (.region A_node_cellr7))))))
def A_node_cellr9 : List AOper := [
    ⟨(some 53), .mov (.tmp 5), none⟩,
    ⟨(some 4), .mov (.tmp 53), none⟩]
def A_node_cell : AFn := ⟨54, 2, [.tmp 4], (.seq (.region A_node_cellr0) (.seq (.region A_node_cellr1) (.seq A_node_cellc8 (.seq (.region A_node_cellr9) .ret))))⟩
theorem fn_node_cell : FnIs Go.Proofs.Tryz.prog 269 A_node_cell := ⟨by kernel_rfl, Go.Proofs.Tryz.f269, Go.Proofs.Tryz.func269, by kernel_rfl⟩
/- (*rollbook/kv.Txn).page -/
def A_kv_Txn_pager0 : List AOper := [
    ⟨(some 2), .mov (.const (.int .i64 0)), none⟩,
    ⟨(some 3), .mov (.const (.int .i64 0)), none⟩]
def A_kv_Txn_pager1 : List AOper := [
    ⟨(some 9), .mov (.tmp 0), none⟩,
    ⟨(some 10), .nilck (.tmp 9), none⟩,
    ⟨(some 11), .fadr 9 (.tmp 10), none⟩,
    ⟨(some 12), .load false 1 (.tmp 11), none⟩,
    ⟨(some 13), .len .sl (.tmp 12), none⟩,
    ⟨(some 4), .mov (.tmp 13), none⟩]
def A_kv_Txn_pager2 : List AOper := [
    ⟨(some 14), .mov (.tmp 4), none⟩,
    ⟨(some 15), .ibin .gtr (.tmp 14) (.const (.int .i64 0)), none⟩]
def A_kv_Txn_pager3 : List AOper := [
    ⟨(some 16), .mov (.tmp 0), none⟩,
    ⟨(some 17), .nilck (.tmp 16), none⟩,
    ⟨(some 18), .fadr 9 (.tmp 17), none⟩,
    ⟨(some 19), .load false 1 (.tmp 18), none⟩,
    ⟨(some 20), .mov (.tmp 4), none⟩,
    ⟨(some 21), .ibin .sub (.tmp 20) (.const (.int .i64 1)), none⟩,
    ⟨(some 22), .iadrS 1 (.tmp 19) (.tmp 21), none⟩,
    ⟨(some 23), .load false 1 (.tmp 22), none⟩,
    ⟨(some 5), .mov (.tmp 23), none⟩]
def A_kv_Txn_pager4 : List AOper := [
    ⟨(some 24), .mov (.tmp 0), none⟩,
    ⟨(some 25), .mov (.tmp 0), none⟩,
    ⟨(some 26), .nilck (.tmp 25), none⟩,
    ⟨(some 27), .fadr 9 (.tmp 26), none⟩,
    ⟨(some 28), .load false 1 (.tmp 27), none⟩,
    ⟨(some 29), .mov (.tmp 4), none⟩,
    ⟨(some 30), .ibin .sub (.tmp 29) (.const (.int .i64 1)), none⟩,
    ⟨(some 31), .slV 1 (.tmp 28) none (some (.tmp 30)) none, none⟩,
    ⟨(some 32), .nilck (.tmp 24), none⟩,
    ⟨(some 33), .fadr 9 (.tmp 32), none⟩,
    ⟨none, .store 1 (.tmp 33) (.tmp 31), none⟩]
def A_kv_Txn_pager5 : List AOper := [
    ⟨(some 34), .mov (.tmp 5), none⟩,
    ⟨(some 2), .mov (.tmp 34), none⟩,
    ⟨(some 3), .mov (.const (.int .i64 0)), none⟩]
def A_kv_Txn_pager6 : List AOper := [
    ⟨(some 35), .mov (.tmp 0), none⟩,
    ⟨(some 36), .nilck (.tmp 35), none⟩,
    ⟨(some 37), .fadr 1 (.tmp 36), none⟩,
    ⟨(some 38), .load false 1 (.tmp 37), none⟩,
    ⟨(some 39), .ibin .sub (.tmp 38) (.const (.int .i64 1)), none⟩,
    ⟨(some 6), .mov (.tmp 39), none⟩]
def A_kv_Txn_pager7 : List AOper := [
    ⟨(some 41), .mov (.tmp 0), none⟩,
    ⟨(some 42), .nilck (.tmp 41), none⟩,
    ⟨(some 43), .fadr 7 (.tmp 42), none⟩,
    ⟨(some 44), .load false 1 (.tmp 43), none⟩,
    ⟨(some 45), .mov (.tmp 6), none⟩,
    ⟨(some 46), .ibin .sub (.tmp 45) (.const (.int .i64 1)), none⟩,
    ⟨(some 47), .mov (.tmp 0), none⟩,
    ⟨(some 48), .nilck (.tmp 47), none⟩,
    ⟨(some 49), .fadr 0 (.tmp 48), none⟩,
    ⟨(some 50), .load false 1 (.tmp 49), none⟩,
    ⟨(some 51), .nilck (.tmp 50), none⟩,
    ⟨(some 52), .fadr 1 (.tmp 51), none⟩,
    ⟨(some 53), .load false 1 (.tmp 52), none⟩,
    ⟨(some 54), .mov (.tmp 6), none⟩,
    ⟨(some 55), .call 170 [(.tmp 53), (.tmp 54)], none⟩,
    ⟨(some 56), .mnmx false (.tmp 46) [(.tmp 55)], none⟩,
    ⟨(some 57), .call 169 [(.tmp 44), (.tmp 56)], none⟩,
    ⟨(some 40), .mov (.tmp 57), none⟩,
    ⟨(some 58), .extr (.tmp 40) 0, none⟩,
    ⟨(some 59), .extr (.tmp 40) 1, none⟩,
    ⟨(some 7), .mov (.tmp 58), none⟩,
    ⟨(some 8), .mov (.tmp 59), none⟩]
def A_kv_Txn_pager8 : List AOper := [
    ⟨(some 60), .mov (.tmp 8), none⟩]
def A_kv_Txn_pager9 : List AOper := [
    ⟨(some 61), .mov (.tmp 7), none⟩,
    ⟨(some 2), .mov (.tmp 61), none⟩,
    ⟨(some 3), .mov (.const (.int .i64 0)), none⟩]
def A_kv_Txn_pager10 : List AOper := [
    ⟨(some 62), .mov (.tmp 0), none⟩,
    ⟨(some 63), .nilck (.tmp 62), none⟩,
    ⟨(some 64), .fadr 2 (.tmp 63), none⟩,
    ⟨(some 65), .fadr 3 (.tmp 64), none⟩,
    ⟨(some 66), .load false 1 (.tmp 65), none⟩,
    ⟨(some 67), .mov (.tmp 0), none⟩,
    ⟨(some 68), .nilck (.tmp 67), none⟩,
    ⟨(some 69), .fadr 2 (.tmp 68), none⟩,
    ⟨(some 70), .fadr 4 (.tmp 69), none⟩,
    ⟨(some 71), .load false 1 (.tmp 70), none⟩,
    ⟨(some 72), .ibin .geq (.tmp 66) (.tmp 71), none⟩]
def A_kv_Txn_pager11 : List AOper := [
    ⟨(some 2), .mov (.const (.int .i64 0)), none⟩,
    ⟨(some 3), .mov (.const (.int .i64 9)), none⟩]
def A_kv_Txn_pager12 : List AOper := [
    ⟨(some 73), .mov (.tmp 0), none⟩,
    ⟨(some 74), .nilck (.tmp 73), none⟩,
    ⟨(some 75), .fadr 2 (.tmp 74), none⟩,
    ⟨(some 76), .fadr 3 (.tmp 75), none⟩,
    ⟨(some 77), .load false 1 (.tmp 76), none⟩,
    ⟨(some 78), .ibin .add (.tmp 77) (.const (.int .i64 1)), none⟩,
    ⟨(some 79), .nilck (.tmp 73), none⟩,
    ⟨(some 80), .fadr 2 (.tmp 79), none⟩,
    ⟨(some 81), .fadr 3 (.tmp 80), none⟩,
    ⟨none, .store 1 (.tmp 81) (.tmp 78), none⟩]
def A_kv_Txn_pager13 : List AOper := [
    ⟨(some 82), .mov (.tmp 0), none⟩,
    ⟨(some 83), .nilck (.tmp 82), none⟩,
    ⟨(some 84), .fadr 2 (.tmp 83), none⟩,
    ⟨(some 85), .fadr 3 (.tmp 84), none⟩,
    ⟨(some 86), .load false 1 (.tmp 85), none⟩,
    ⟨(some 87), .ibin .sub (.tmp 86) (.const (.int .i64 1)), none⟩,
    ⟨(some 2), .mov (.tmp 87), none⟩,
    ⟨(some 3), .mov (.const (.int .i64 0)), none⟩]
def A_kv_Txn_page : AFn := ⟨88, 1, [.tmp 2, .tmp 3], (.seq (.region A_kv_Txn_pager0) (.seq (.seq (.region A_kv_Txn_pager1) (.seq (.region A_kv_Txn_pager2) (.cond (.tmp 15) (.seq (.region A_kv_Txn_pager3) (.seq (.region A_kv_Txn_pager4) (.seq (.region A_kv_Txn_pager5) .ret))) .skip))) (.seq (.region A_kv_Txn_pager6) (.seq (.seq (.draw A_kv_Txn_pager7 [0, 1, 3, 7, 0, 16, 0, 64, 192, 448, 960, 1984, 4032, 0, 16320, 32752, 65535, 131071, 262143, 262143, 524287, 2097151]) (.seq (.region A_kv_Txn_pager8) (.cond (.tmp 60) (.seq (.region A_kv_Txn_pager9) .ret) .skip))) (.seq (.seq (.draw A_kv_Txn_pager10 [0, 1, 3, 7, 15, 0, 32, 96, 224, 480, 1023]) (.cond (.tmp 72) (.seq (.region A_kv_Txn_pager11) .ret) .skip)) (.seq (.region A_kv_Txn_pager12) (.seq (.region A_kv_Txn_pager13) .ret)))))))⟩
theorem fn_kv_Txn_page : FnIs Go.Proofs.Tryz.prog 113 A_kv_Txn_page := ⟨by kernel_rfl, Go.Proofs.Tryz.f113, Go.Proofs.Tryz.func113, by kernel_rfl⟩
/- rollbook/rollbooklaw11.KvNil -/
def A_rollbooklaw11_KvNilr0 : List AOper := [
    ⟨(some 2), .mov (.const (.bool false)), none⟩]
def A_rollbooklaw11_KvNilr1 : List AOper := [
    ⟨(some 18), .call 9 [], none⟩,
    ⟨(some 19), .un .not (.tmp 18), none⟩]
def A_rollbooklaw11_KvNilr2 : List AOper := [
    ⟨(some 2), .mov (.const (.bool false)), none⟩]
def A_rollbooklaw11_KvNilr3 : List AOper := [
    ⟨(some 3), .mov (.const (.ptr none)), none⟩]
def A_rollbooklaw11_KvNilr4 : List AOper := [
    ⟨(some 4), .mov (.const (.ptr none)), none⟩]
def A_rollbooklaw11_KvNilr5 : List AOper := [
    ⟨(some 5), .mov (.const (.ptr none)), none⟩]
def A_rollbooklaw11_KvNilr6 : List AOper := [
    ⟨(some 21), .mov (.tmp 3), none⟩,
    ⟨(some 22), .call 15 [(.tmp 21)], none⟩,
    ⟨(some 20), .mov (.tmp 22), none⟩,
    ⟨(some 23), .extr (.tmp 20) 0, none⟩,
    ⟨(some 24), .extr (.tmp 20) 1, none⟩,
    ⟨(some 6), .mov (.tmp 23), none⟩,
    ⟨(some 7), .mov (.tmp 24), none⟩]
def A_rollbooklaw11_KvNilr7 : List AOper := [
    ⟨(some 26), .mov (.tmp 3), none⟩,
    ⟨(some 27), .call 11 [(.tmp 26)], none⟩,
    ⟨(some 25), .mov (.tmp 27), none⟩,
    ⟨(some 28), .extr (.tmp 25) 0, none⟩,
    ⟨(some 29), .extr (.tmp 25) 1, none⟩,
    ⟨(some 8), .mov (.tmp 28), none⟩,
    ⟨(some 9), .mov (.tmp 29), none⟩]
def A_rollbooklaw11_KvNilr8 : List AOper := [
    ⟨(some 31), .mov (.tmp 4), none⟩,
    ⟨(some 32), .mov (.tmp 0), none⟩,
    ⟨(some 33), .call 16 [(.tmp 31), (.const (.str [97])), (.tmp 32)], none⟩,
    ⟨(some 30), .mov (.tmp 33), none⟩,
    ⟨(some 34), .extr (.tmp 30) 0, none⟩,
    ⟨(some 35), .extr (.tmp 30) 1, none⟩,
    ⟨(some 36), .extr (.tmp 30) 2, none⟩,
    ⟨(some 10), .mov (.tmp 34), none⟩,
    ⟨(some 11), .mov (.tmp 35), none⟩,
    ⟨(some 12), .mov (.tmp 36), none⟩]
def A_rollbooklaw11_KvNilr9 : List AOper := [
    ⟨(some 38), .mov (.tmp 5), none⟩,
    ⟨(some 39), .mov (.tmp 0), none⟩,
    ⟨(some 40), .call 17 [(.tmp 38), (.const (.str [97])), (.tmp 39)], none⟩,
    ⟨(some 37), .mov (.tmp 40), none⟩,
    ⟨(some 41), .extr (.tmp 37) 0, none⟩,
    ⟨(some 42), .extr (.tmp 37) 1, none⟩,
    ⟨(some 43), .extr (.tmp 37) 2, none⟩,
    ⟨(some 13), .mov (.tmp 41), none⟩,
    ⟨(some 14), .mov (.tmp 42), none⟩,
    ⟨(some 15), .mov (.tmp 43), none⟩]
def A_rollbooklaw11_KvNilr10 : List AOper := [
    ⟨(some 45), .mov (.tmp 5), none⟩,
    ⟨(some 46), .call 13 [(.tmp 45)], none⟩,
    ⟨(some 44), .mov (.tmp 46), none⟩,
    ⟨(some 47), .extr (.tmp 44) 0, none⟩,
    ⟨(some 48), .extr (.tmp 44) 1, none⟩,
    ⟨(some 16), .mov (.tmp 47), none⟩,
    ⟨(some 17), .mov (.tmp 48), none⟩]
def A_rollbooklaw11_KvNilr11 : List AOper := [
    ⟨(some 49), .mov (.tmp 6), none⟩,
    ⟨(some 50), .nileq .ptr false (.tmp 49) (.const (.ptr none)), none⟩,
    ⟨(some 51), .mov (.tmp 50), none⟩,
    ⟨(some 52), .mov (.tmp 7), (some (51, true))⟩,
    ⟨(some 53), .ibin .eql (.tmp 52) (.const (.int .i64 2)), (some (51, true))⟩,
    ⟨(some 54), .pick (.tmp 51) (.tmp 53) (.const (.bool false)), none⟩,
    ⟨(some 55), .mov (.tmp 54), none⟩,
    ⟨(some 56), .mov (.tmp 8), (some (55, true))⟩,
    ⟨(some 57), .nileq .ptr false (.tmp 56) (.const (.ptr none)), (some (55, true))⟩,
    ⟨(some 58), .pick (.tmp 55) (.tmp 57) (.const (.bool false)), none⟩,
    ⟨(some 59), .mov (.tmp 58), none⟩,
    ⟨(some 60), .mov (.tmp 9), (some (59, true))⟩,
    ⟨(some 61), .ibin .eql (.tmp 60) (.const (.int .i64 2)), (some (59, true))⟩,
    ⟨(some 62), .pick (.tmp 59) (.tmp 61) (.const (.bool false)), none⟩,
    ⟨(some 63), .mov (.tmp 62), none⟩,
    ⟨(some 64), .mov (.tmp 11), (some (63, true))⟩,
    ⟨(some 65), .un .not (.tmp 64), (some (63, true))⟩,
    ⟨(some 66), .pick (.tmp 63) (.tmp 65) (.const (.bool false)), none⟩,
    ⟨(some 67), .mov (.tmp 66), none⟩,
    ⟨(some 68), .mov (.tmp 12), (some (67, true))⟩,
    ⟨(some 69), .ibin .eql (.tmp 68) (.const (.int .i64 2)), (some (67, true))⟩,
    ⟨(some 70), .pick (.tmp 67) (.tmp 69) (.const (.bool false)), none⟩,
    ⟨(some 71), .mov (.tmp 70), none⟩,
    ⟨(some 72), .mov (.tmp 14), (some (71, true))⟩,
    ⟨(some 73), .un .not (.tmp 72), (some (71, true))⟩,
    ⟨(some 74), .pick (.tmp 71) (.tmp 73) (.const (.bool false)), none⟩,
    ⟨(some 75), .mov (.tmp 74), none⟩,
    ⟨(some 76), .mov (.tmp 15), (some (75, true))⟩,
    ⟨(some 77), .ibin .eql (.tmp 76) (.const (.int .i64 2)), (some (75, true))⟩,
    ⟨(some 78), .pick (.tmp 75) (.tmp 77) (.const (.bool false)), none⟩,
    ⟨(some 79), .mov (.tmp 78), none⟩,
    ⟨(some 80), .mov (.tmp 16), (some (79, true))⟩,
    ⟨(some 81), .un .not (.tmp 80), (some (79, true))⟩,
    ⟨(some 82), .pick (.tmp 79) (.tmp 81) (.const (.bool false)), none⟩,
    ⟨(some 83), .mov (.tmp 82), none⟩,
    ⟨(some 84), .mov (.tmp 17), (some (83, true))⟩,
    ⟨(some 85), .ibin .eql (.tmp 84) (.const (.int .i64 2)), (some (83, true))⟩,
    ⟨(some 86), .pick (.tmp 83) (.tmp 85) (.const (.bool false)), none⟩,
    ⟨(some 87), .mov (.tmp 86), none⟩,
    ⟨(some 88), .mov (.tmp 4), (some (87, true))⟩,
    ⟨(some 89), .call 18 [(.tmp 88)], (some (87, true))⟩,
    ⟨(some 90), .ibin .eql (.tmp 89) (.const (.int .i64 2)), (some (87, true))⟩,
    ⟨(some 91), .pick (.tmp 87) (.tmp 90) (.const (.bool false)), none⟩,
    ⟨(some 92), .mov (.tmp 91), none⟩,
    ⟨(some 93), .mov (.tmp 5), (some (92, true))⟩,
    ⟨(some 94), .mov (.tmp 0), (some (92, true))⟩,
    ⟨(some 95), .call 12 [(.tmp 93), (.const (.str [97])), (.tmp 94), (.const (.str []))], (some (92, true))⟩,
    ⟨(some 96), .ibin .eql (.tmp 95) (.const (.int .i64 2)), (some (92, true))⟩,
    ⟨(some 97), .pick (.tmp 92) (.tmp 96) (.const (.bool false)), none⟩,
    ⟨(some 98), .mov (.tmp 97), none⟩,
    ⟨(some 99), .mov (.tmp 5), (some (98, true))⟩,
    ⟨(some 100), .call 19 [(.tmp 99)], (some (98, true))⟩,
    ⟨(some 101), .ibin .eql (.tmp 100) (.const (.int .i64 2)), (some (98, true))⟩,
    ⟨(some 102), .pick (.tmp 98) (.tmp 101) (.const (.bool false)), none⟩,
    ⟨(some 103), .mov (.tmp 102), none⟩,
    ⟨(some 104), .mov (.tmp 5), (some (103, true))⟩,
    ⟨(some 105), .call 20 [(.tmp 104)], (some (103, true))⟩,
    ⟨(some 106), .pick (.tmp 103) (.tmp 105) (.const (.bool false)), none⟩,
    ⟨(some 107), .mov (.tmp 106), none⟩,
    ⟨(some 108), .mov (.tmp 3), (some (107, true))⟩,
    ⟨(some 109), .call 21 [(.tmp 108)], (some (107, true))⟩,
    ⟨(some 110), .len .sl (.tmp 109), (some (107, true))⟩,
    ⟨(some 111), .ibin .eql (.tmp 110) (.const (.int .i64 0)), (some (107, true))⟩,
    ⟨(some 112), .pick (.tmp 107) (.tmp 111) (.const (.bool false)), none⟩,
    ⟨(some 113), .mov (.tmp 112), none⟩,
    ⟨(some 114), .mov (.tmp 3), (some (113, true))⟩,
    ⟨(some 115), .call 22 [(.tmp 114)], (some (113, true))⟩,
    ⟨(some 116), .len .sl (.tmp 115), (some (113, true))⟩,
    ⟨(some 117), .ibin .eql (.tmp 116) (.const (.int .i64 0)), (some (113, true))⟩,
    ⟨(some 118), .pick (.tmp 113) (.tmp 117) (.const (.bool false)), none⟩,
    ⟨(some 119), .mov (.tmp 118), none⟩,
    ⟨(some 120), .mov (.tmp 3), (some (119, true))⟩,
    ⟨(some 121), .call 14 [(.tmp 120)], (some (119, true))⟩,
    ⟨(some 122), .build [.int .i64 0, .int .i64 0, .int .i64 0, .int .i64 0, .int .i64 0] [], (some (119, true))⟩,
    ⟨(some 123), .aggeq false [.int, .int, .int, .int, .int] (.tmp 121) (.tmp 122), (some (119, true))⟩,
    ⟨(some 124), .pick (.tmp 119) (.tmp 123) (.const (.bool false)), none⟩,
    ⟨(some 125), .mov (.tmp 124), none⟩,
    ⟨(some 126), .mov (.tmp 4), (some (125, true))⟩,
    ⟨(some 127), .call 23 [(.tmp 126)], (some (125, true))⟩,
    ⟨(some 128), .ibin .eql (.tmp 127) (.const (.int .i64 0)), (some (125, true))⟩,
    ⟨(some 129), .pick (.tmp 125) (.tmp 128) (.const (.bool false)), none⟩,
    ⟨(some 130), .mov (.tmp 129), none⟩,
    ⟨(some 131), .mov (.tmp 5), (some (130, true))⟩,
    ⟨(some 132), .call 24 [(.tmp 131)], (some (130, true))⟩,
    ⟨(some 133), .len .sl (.tmp 132), (some (130, true))⟩,
    ⟨(some 134), .ibin .eql (.tmp 133) (.const (.int .i64 0)), (some (130, true))⟩,
    ⟨(some 135), .pick (.tmp 130) (.tmp 134) (.const (.bool false)), none⟩,
    ⟨(some 2), .mov (.tmp 135), none⟩]
def A_rollbooklaw11_KvNil : AFn := ⟨136, 1, [.tmp 2], (.seq (.region A_rollbooklaw11_KvNilr0) (.seq (.seq (.region A_rollbooklaw11_KvNilr1) (.cond (.tmp 19) (.seq (.region A_rollbooklaw11_KvNilr2) .ret) .skip)) (.seq (.region A_rollbooklaw11_KvNilr3) (.seq (.region A_rollbooklaw11_KvNilr4) (.seq (.region A_rollbooklaw11_KvNilr5) (.seq (.region A_rollbooklaw11_KvNilr6) (.seq (.region A_rollbooklaw11_KvNilr7) (.seq (.region A_rollbooklaw11_KvNilr8) (.seq (.region A_rollbooklaw11_KvNilr9) (.seq (.region A_rollbooklaw11_KvNilr10) (.seq (.region A_rollbooklaw11_KvNilr11) .ret)))))))))))⟩
theorem fn_rollbooklaw11_KvNil : FnIs Go.Proofs.Tryz.prog 4 A_rollbooklaw11_KvNil := ⟨by kernel_rfl, Go.Proofs.Tryz.f4, Go.Proofs.Tryz.func4, by kernel_rfl⟩
/- rollbook/page.UnpackMeta -/
def A_page_UnpackMetar0 : List AOper := [
    ⟨(some 2), .alloc [.int .i64 0, .int .i64 0, .int .i64 0, .int .i64 0, .int .i64 0] 5 40, none⟩,
    ⟨(some 3), .mov (.const (.int .i64 0)), none⟩]
def A_page_UnpackMetar1 : List AOper := [
    ⟨(some 7), .mov (.tmp 0), none⟩,
    ⟨(some 8), .len .str (.tmp 7), none⟩,
    ⟨(some 9), .ibin .neq (.tmp 8) (.const (.int .i64 128)), none⟩,
    ⟨(some 10), .mov (.tmp 9), none⟩,
    ⟨(some 11), .mov (.tmp 0), (some (10, false))⟩,
    ⟨(some 12), .call 210 [(.tmp 11), (.const (.str [82, 79, 76, 76, 66, 79, 79, 75]))], (some (10, false))⟩,
    ⟨(some 13), .un .not (.tmp 12), (some (10, false))⟩,
    ⟨(some 14), .pick (.tmp 10) (.const (.bool true)) (.tmp 13), none⟩]
def A_page_UnpackMetar2 : List AOper := [
    ⟨(some 15), .build [.int .i64 0, .int .i64 0, .int .i64 0, .int .i64 0, .int .i64 0] [], none⟩,
    ⟨none, .store 5 (.tmp 2) (.tmp 15), none⟩,
    ⟨(some 3), .mov (.const (.int .i64 4)), none⟩]
def A_page_UnpackMetar3 : List AOper := [
    ⟨(some 16), .mov (.tmp 0), none⟩,
    ⟨(some 17), .call 211 [(.tmp 16), (.const (.int .i64 8)), (.const (.int .i64 8))], none⟩,
    ⟨(some 18), .mov (.tmp 0), none⟩,
    ⟨(some 19), .call 211 [(.tmp 18), (.const (.int .i64 16)), (.const (.int .i64 4))], none⟩,
    ⟨(some 20), .mov (.tmp 0), none⟩,
    ⟨(some 21), .call 211 [(.tmp 20), (.const (.int .i64 20)), (.const (.int .i64 4))], none⟩,
    ⟨(some 22), .mov (.tmp 0), none⟩,
    ⟨(some 23), .call 211 [(.tmp 22), (.const (.int .i64 24)), (.const (.int .i64 4))], none⟩,
    ⟨(some 24), .mov (.tmp 0), none⟩,
    ⟨(some 25), .call 211 [(.tmp 24), (.const (.int .i64 28)), (.const (.int .i64 4))], none⟩,
    ⟨(some 26), .build [.int .i64 0, .int .i64 0, .int .i64 0, .int .i64 0, .int .i64 0] [(0, 1, (.tmp 17)), (1, 1, (.tmp 19)), (2, 1, (.tmp 21)), (3, 1, (.tmp 23)), (4, 1, (.tmp 25))], none⟩,
    ⟨(some 4), .alloc [.int .i64 0, .int .i64 0, .int .i64 0, .int .i64 0, .int .i64 0] 5 40, none⟩,
    ⟨none, .store 5 (.tmp 4) (.tmp 26), none⟩]
def A_page_UnpackMetar4 : List AOper := [
    ⟨(some 28), .load true 5 (.tmp 4), none⟩,
    ⟨(some 29), .call 117 [(.tmp 28)], none⟩,
    ⟨(some 27), .mov (.tmp 29), none⟩,
    ⟨(some 30), .extr (.tmp 27) 0, none⟩,
    ⟨(some 31), .extr (.tmp 27) 1, none⟩,
    ⟨(some 5), .mov (.tmp 30), none⟩,
    ⟨(some 6), .mov (.tmp 31), none⟩]
def A_page_UnpackMetar5 : List AOper := [
    ⟨(some 32), .mov (.tmp 6), none⟩,
    ⟨(some 33), .ibin .neq (.tmp 32) (.const (.int .i64 0)), none⟩,
    ⟨(some 34), .mov (.tmp 33), none⟩,
    ⟨(some 35), .mov (.tmp 5), (some (34, false))⟩,
    ⟨(some 36), .mov (.tmp 0), (some (34, false))⟩,
    ⟨(some 37), .sbin .neq (.tmp 35) (.tmp 36), (some (34, false))⟩,
    ⟨(some 38), .pick (.tmp 34) (.const (.bool true)) (.tmp 37), none⟩,
    ⟨(some 39), .mov (.tmp 38), none⟩,
    ⟨(some 40), .mov (.tmp 5), (some (39, false))⟩,
    ⟨(some 41), .len .str (.tmp 40), (some (39, false))⟩,
    ⟨(some 42), .ibin .gtr (.const (.int .i64 32)) (.tmp 41), (some (39, false))⟩,
    ⟨(some 43), .pick (.tmp 39) (.const (.bool true)) (.tmp 42), none⟩]
def A_page_UnpackMetar6 : List AOper := [
    ⟨(some 44), .build [.int .i64 0, .int .i64 0, .int .i64 0, .int .i64 0, .int .i64 0] [], none⟩,
    ⟨none, .store 5 (.tmp 2) (.tmp 44), none⟩,
    ⟨(some 3), .mov (.const (.int .i64 4)), none⟩]
def A_page_UnpackMetar7 : List AOper := [
    ⟨(some 45), .load true 5 (.tmp 4), none⟩,
    ⟨none, .store 5 (.tmp 2) (.tmp 45), none⟩,
    ⟨(some 3), .mov (.const (.int .i64 0)), none⟩]
def A_page_UnpackMeta : AFn := ⟨46, 1, [.cell 2 true 5, .tmp 3], (.seq (.region A_page_UnpackMetar0) (.seq (.seq (.region A_page_UnpackMetar1) (.cond (.tmp 14) (.seq (.region A_page_UnpackMetar2) .ret) .skip)) (.seq (.region A_page_UnpackMetar3) (.seq (.seq (.region A_page_UnpackMetar4) (.seq (.region A_page_UnpackMetar5) (.cond (.tmp 43) (.seq (.region A_page_UnpackMetar6) .ret) .skip))) (.seq (.region A_page_UnpackMetar7) .ret)))))⟩
theorem fn_page_UnpackMeta : FnIs Go.Proofs.Tryz.prog 154 A_page_UnpackMeta := ⟨by kernel_rfl, Go.Proofs.Tryz.f154, Go.Proofs.Tryz.func154, by kernel_rfl⟩
/- slices.Repeat[[]string,string] -/
def A_slices_Repeat_stringr0 : List AOper := [
    ⟨(some 4), .mov (.const (.slice none 0 0)), none⟩]
def A_slices_Repeat_stringr1 : List AOper := [
    ⟨(some 9), .mov (.tmp 1), none⟩,
    ⟨(some 10), .ibin .lss (.tmp 9) (.const (.int .i64 0)), none⟩]
def A_slices_Repeat_stringr2 : List AOper := [
    ⟨(some 11), .mkI 9 (.const (.str [99, 97, 110, 110, 111, 116, 32, 98, 101, 32, 110, 101, 103, 97, 116, 105, 118, 101])), none⟩,
    ⟨none, .bad, none⟩]
def A_slices_Repeat_stringr3 : List AOper := [
    ⟨(some 13), .mov (.tmp 0), none⟩,
    ⟨(some 14), .len .sl (.tmp 13), none⟩,
    ⟨(some 15), .conv .u64 (.tmp 14), none⟩,
    ⟨(some 16), .mov (.tmp 1), none⟩,
    ⟨(some 17), .conv .u64 (.tmp 16), none⟩,
    ⟨(some 18), .call 150 [(.tmp 15), (.tmp 17)], none⟩,
    ⟨(some 12), .mov (.tmp 18), none⟩,
    ⟨(some 19), .extr (.tmp 12) 0, none⟩,
    ⟨(some 20), .extr (.tmp 12) 1, none⟩,
    ⟨(some 5), .mov (.tmp 19), none⟩,
    ⟨(some 6), .mov (.tmp 20), none⟩]
def A_slices_Repeat_stringr4 : List AOper := [
    ⟨(some 21), .mov (.tmp 5), none⟩,
    ⟨(some 22), .ibin .gtr (.tmp 21) (.const (.int .u64 0)), none⟩,
    ⟨(some 23), .mov (.tmp 22), none⟩,
    ⟨(some 24), .mov (.tmp 6), (some (23, false))⟩,
    ⟨(some 25), .ibin .gtr (.tmp 24) (.const (.int .u64 9223372036854775807)), (some (23, false))⟩,
    ⟨(some 26), .pick (.tmp 23) (.const (.bool true)) (.tmp 25), none⟩]
def A_slices_Repeat_stringr5 : List AOper := [
    ⟨(some 27), .mkI 9 (.const (.str [116, 104, 101, 32, 114, 101, 115, 117, 108, 116, 32, 111, 102, 32, 40, 108, 101, 110, 40, 120, 41, 32, 42, 32, 99, 111, 117, 110, 116, 41, 32, 111, 118, 101, 114, 102, 108, 111, 119, 115])), none⟩,
    ⟨none, .bad, none⟩]
def A_slices_Repeat_stringr6 : List AOper := [
    ⟨(some 28), .mov (.tmp 6), none⟩,
    ⟨(some 29), .conv .i64 (.tmp 28), none⟩,
    ⟨(some 30), .mkS [.str []] 1 16 (.tmp 29) (.tmp 29), none⟩,
    ⟨(some 7), .mov (.tmp 30), none⟩]
def A_slices_Repeat_stringr7 : List AOper := [
    ⟨(some 31), .mov (.tmp 7), none⟩,
    ⟨(some 32), .mov (.tmp 0), none⟩,
    ⟨(some 33), .copy 1 (.tmp 31) (.tmp 32), none⟩,
    ⟨(some 8), .mov (.tmp 33), none⟩]
def A_slices_Repeat_stringr8 : List AOper := [
    ⟨(some 34), .mov (.tmp 8), none⟩,
    ⟨(some 35), .mov (.tmp 7), none⟩,
    ⟨(some 36), .len .sl (.tmp 35), none⟩,
    ⟨(some 37), .ibin .lss (.tmp 34) (.tmp 36), none⟩]
def A_slices_Repeat_stringr9 : List AOper := [
    ⟨(some 38), .mov (.tmp 8), none⟩,
    ⟨(some 39), .mov (.tmp 7), none⟩,
    ⟨(some 40), .mov (.tmp 8), none⟩,
    ⟨(some 41), .slV 1 (.tmp 39) (some (.tmp 40)) none none, none⟩,
    ⟨(some 42), .mov (.tmp 7), none⟩,
    ⟨(some 43), .mov (.tmp 8), none⟩,
    ⟨(some 44), .slV 1 (.tmp 42) none (some (.tmp 43)) none, none⟩,
    ⟨(some 45), .copy 1 (.tmp 41) (.tmp 44), none⟩,
    ⟨(some 46), .ibin .add (.tmp 38) (.tmp 45), none⟩,
    ⟨(some 8), .mov (.tmp 46), none⟩]
def A_slices_Repeat_stringc10 : AC := (.block 1 (.draw A_slices_Repeat_stringr9 [0, 0, 0, 6, 0, 0, 48, 126, 255, 511]))
def A_slices_Repeat_stringl11 : AC := (.seq (.seq (.region A_slices_Repeat_stringr8) (.cond (.tmp 37) .skip (.exit 0))) A_slices_Repeat_stringc10)
def A_slices_Repeat_stringc12 : AC := (.block 0 (.loop A_slices_Repeat_stringl11))
def A_slices_Repeat_stringr13 : List AOper := [
    ⟨(some 47), .mov (.tmp 7), none⟩,
    ⟨(some 4), .mov (.tmp 47), none⟩]
def A_slices_Repeat_string : AFn := ⟨48, 2, [.tmp 4], (.seq (.region A_slices_Repeat_stringr0) (.seq (.seq (.region A_slices_Repeat_stringr1) (.cond (.tmp 10) (.region A_slices_Repeat_stringr2) .skip)) (.seq (.region A_slices_Repeat_stringr3) (.seq (.seq (.region A_slices_Repeat_stringr4) (.cond (.tmp 26) (.region A_slices_Repeat_stringr5) .skip)) (.seq (.region A_slices_Repeat_stringr6) (.seq (.region A_slices_Repeat_stringr7) (.seq A_slices_Repeat_stringc12 (.seq (.region A_slices_Repeat_stringr13) .ret))))))))⟩
theorem fn_slices_Repeat_string : FnIs Go.Proofs.Tryz.prog 97 A_slices_Repeat_string := ⟨by kernel_rfl, Go.Proofs.Tryz.f97, Go.Proofs.Tryz.func97, by kernel_rfl⟩
/- rollbook/node.count -/
def A_node_countr0 : List AOper := [
    ⟨(some 2), .mov (.const (.int .i64 0)), none⟩]
def A_node_countr1 : List AOper := [
    ⟨(some 6), .mov (.tmp 0), none⟩,
    ⟨(some 7), .call 120 [(.tmp 6), (.const (.int .i64 0)), (.const (.int .i64 2))], none⟩,
    ⟨(some 5), .mov (.tmp 7), none⟩,
    ⟨(some 8), .extr (.tmp 5) 0, none⟩,
    ⟨(some 9), .extr (.tmp 5) 1, none⟩,
    ⟨(some 3), .mov (.tmp 8), none⟩,
    ⟨(some 4), .mov (.tmp 9), none⟩]
def A_node_countr2 : List AOper := [
    ⟨(some 10), .mov (.tmp 4), none⟩,
    ⟨(some 11), .ibin .neq (.tmp 10) (.const (.int .i64 0)), none⟩,
    ⟨(some 12), .mov (.tmp 11), none⟩,
    ⟨(some 13), .mov (.tmp 3), (some (12, false))⟩,
    ⟨(some 14), .conv .i64 (.tmp 13), (some (12, false))⟩,
    ⟨(some 15), .mov (.tmp 0), (some (12, false))⟩,
    ⟨(some 16), .len .str (.tmp 15), (some (12, false))⟩,
    ⟨(some 17), .ibin .quo (.tmp 16) (.const (.int .i64 2)), (some (12, false))⟩,
    ⟨(some 18), .ibin .sub (.tmp 17) (.const (.int .i64 1)), (some (12, false))⟩,
    ⟨(some 19), .ibin .gtr (.tmp 14) (.tmp 18), (some (12, false))⟩,
    ⟨(some 20), .pick (.tmp 12) (.const (.bool true)) (.tmp 19), none⟩]
def A_node_countr3 : List AOper := [
    ⟨(some 2), .mov (.const (.int .i64 0)), none⟩]
def A_node_countr4 : List AOper := [
    ⟨(some 21), .mov (.tmp 3), none⟩,
    ⟨(some 22), .conv .i64 (.tmp 21), none⟩,
    ⟨(some 2), .mov (.tmp 22), none⟩]
def A_node_count : AFn := ⟨23, 1, [.tmp 2], (.seq (.region A_node_countr0) (.seq (.region A_node_countr1) (.seq (.seq (.region A_node_countr2) (.cond (.tmp 20) (.seq (.region A_node_countr3) .ret) .skip)) (.seq (.region A_node_countr4) .ret))))⟩
theorem fn_node_count : FnIs Go.Proofs.Tryz.prog 233 A_node_count := ⟨by kernel_rfl, Go.Proofs.Tryz.f233, Go.Proofs.Tryz.func233, by kernel_rfl⟩
/- rollbook/kv.rootOf -/
def A_kv_rootOfr0 : List AOper := [
    ⟨(some 6), .mov (.const (.int .i64 0)), none⟩,
    ⟨(some 7), .mov (.const (.int .i64 0)), none⟩]
def A_kv_rootOfr1 : List AOper := [
    ⟨(some 12), .mov (.tmp 2), none⟩,
    ⟨(some 13), .sbin .eql (.tmp 12) (.const (.str [])), none⟩,
    ⟨(some 14), .mov (.tmp 13), none⟩,
    ⟨(some 15), .mov (.tmp 2), (some (14, false))⟩,
    ⟨(some 16), .len .str (.tmp 15), (some (14, false))⟩,
    ⟨(some 17), .ibin .gtr (.tmp 16) (.const (.int .i64 32)), (some (14, false))⟩,
    ⟨(some 18), .pick (.tmp 14) (.const (.bool true)) (.tmp 17), none⟩]
def A_kv_rootOfr2 : List AOper := [
    ⟨(some 6), .mov (.const (.int .i64 0)), none⟩,
    ⟨(some 7), .mov (.const (.int .i64 0)), none⟩]
def A_kv_rootOfr3 : List AOper := [
    ⟨(some 20), .mov (.tmp 0), none⟩,
    ⟨(some 21), .mov (.tmp 1), none⟩,
    ⟨(some 22), .mov (.tmp 2), none⟩,
    ⟨(some 23), .call 59 [(.tmp 20), (.tmp 21), (.tmp 22)], none⟩,
    ⟨(some 19), .mov (.tmp 23), none⟩,
    ⟨(some 24), .extr (.tmp 19) 0, none⟩,
    ⟨(some 25), .extr (.tmp 19) 1, none⟩,
    ⟨(some 26), .extr (.tmp 19) 2, none⟩,
    ⟨(some 8), .mov (.tmp 24), none⟩,
    ⟨(some 9), .mov (.tmp 25), none⟩,
    ⟨(some 10), .mov (.tmp 26), none⟩]
def A_kv_rootOfr4 : List AOper := [
    ⟨(some 27), .mov (.tmp 10), none⟩,
    ⟨(some 28), .ibin .neq (.tmp 27) (.const (.int .i64 0)), none⟩,
    ⟨(some 29), .mov (.tmp 28), none⟩,
    ⟨(some 30), .mov (.tmp 9), (some (29, false))⟩,
    ⟨(some 31), .un .not (.tmp 30), (some (29, false))⟩,
    ⟨(some 32), .pick (.tmp 29) (.const (.bool true)) (.tmp 31), none⟩]
def A_kv_rootOfr5 : List AOper := [
    ⟨(some 33), .mov (.tmp 10), none⟩,
    ⟨(some 6), .mov (.const (.int .i64 0)), none⟩,
    ⟨(some 7), .mov (.tmp 33), none⟩]
def A_kv_rootOfr6 : List AOper := [
    ⟨(some 35), .mov (.tmp 8), none⟩,
    ⟨(some 36), .call 120 [(.tmp 35), (.const (.int .i64 0)), (.const (.int .i64 4))], none⟩,
    ⟨(some 34), .mov (.tmp 36), none⟩,
    ⟨(some 37), .extr (.tmp 34) 0, none⟩,
    ⟨(some 38), .extr (.tmp 34) 1, none⟩,
    ⟨(some 11), .mov (.tmp 37), none⟩,
    ⟨(some 10), .mov (.tmp 38), none⟩]
def A_kv_rootOfr7 : List AOper := [
    ⟨(some 39), .mov (.tmp 10), none⟩,
    ⟨(some 40), .ibin .neq (.tmp 39) (.const (.int .i64 0)), none⟩,
    ⟨(some 41), .mov (.tmp 40), none⟩,
    ⟨(some 42), .mov (.tmp 8), (some (41, false))⟩,
    ⟨(some 43), .len .str (.tmp 42), (some (41, false))⟩,
    ⟨(some 44), .ibin .neq (.tmp 43) (.const (.int .i64 4)), (some (41, false))⟩,
    ⟨(some 45), .pick (.tmp 41) (.const (.bool true)) (.tmp 44), none⟩,
    ⟨(some 46), .mov (.tmp 45), none⟩,
    ⟨(some 47), .mov (.tmp 11), (some (46, false))⟩,
    ⟨(some 48), .ibin .eql (.tmp 47) (.const (.int .u64 0)), (some (46, false))⟩,
    ⟨(some 49), .pick (.tmp 46) (.const (.bool true)) (.tmp 48), none⟩]
def A_kv_rootOfr8 : List AOper := [
    ⟨(some 6), .mov (.const (.int .i64 0)), none⟩,
    ⟨(some 7), .mov (.const (.int .i64 4)), none⟩]
def A_kv_rootOfr9 : List AOper := [
    ⟨(some 50), .mov (.tmp 11), none⟩,
    ⟨(some 51), .conv .i64 (.tmp 50), none⟩,
    ⟨(some 6), .mov (.tmp 51), none⟩,
    ⟨(some 7), .mov (.const (.int .i64 0)), none⟩]
def A_kv_rootOf : AFn := ⟨52, 3, [.tmp 6, .tmp 7], (.seq (.region A_kv_rootOfr0) (.seq (.seq (.region A_kv_rootOfr1) (.cond (.tmp 18) (.seq (.region A_kv_rootOfr2) .ret) .skip)) (.seq (.region A_kv_rootOfr3) (.seq (.seq (.region A_kv_rootOfr4) (.cond (.tmp 32) (.seq (.region A_kv_rootOfr5) .ret) .skip)) (.seq (.region A_kv_rootOfr6) (.seq (.seq (.region A_kv_rootOfr7) (.cond (.tmp 49) (.seq (.region A_kv_rootOfr8) .ret) .skip)) (.seq (.region A_kv_rootOfr9) .ret)))))))⟩
theorem fn_kv_rootOf : FnIs Go.Proofs.Tryz.prog 58 A_kv_rootOf := ⟨by kernel_rfl, Go.Proofs.Tryz.f58, Go.Proofs.Tryz.func58, by kernel_rfl⟩
/- rollbook/tree.made -/
def A_tree_mader0 : List AOper := [
    ⟨(some 4), .mov (.const (.slice none 0 0)), none⟩,
    ⟨(some 5), .mov (.const (.int .i64 0)), none⟩]
def A_tree_mader1 : List AOper := [
    ⟨(some 6), .mov (.const (.slice none 0 0)), none⟩]
def A_tree_mader2 : List AOper := [
    ⟨(some 12), .mov (.tmp 1), none⟩,
    ⟨(some 13), .len .sl (.tmp 12), none⟩,
    ⟨(some 14), .mov (.const (.int .i64 0)), none⟩]
def A_tree_mader3 : List AOper := [
    ⟨(some 15), .ibin .lss (.tmp 14) (.tmp 13), none⟩]
def A_tree_mader4 : List AOper := [
    ⟨(some 16), .iadrS 3 (.tmp 12) (.tmp 14), none⟩,
    ⟨(some 17), .load true 3 (.tmp 16), none⟩,
    ⟨(some 8), .alloc [.str [], .bool false, .slice none 0 0] 3 319, none⟩,
    ⟨none, .store 3 (.tmp 8) (.tmp 17), none⟩]
def A_tree_mader5 : List AOper := [
    ⟨(some 19), .fadr 1 (.tmp 8), none⟩,
    ⟨(some 20), .load false 1 (.tmp 19), none⟩,
    ⟨(some 21), .fadr 2 (.tmp 8), none⟩,
    ⟨(some 22), .load false 1 (.tmp 21), none⟩,
    ⟨(some 23), .call 251 [(.tmp 20), (.tmp 22)], none⟩,
    ⟨(some 18), .mov (.tmp 23), none⟩,
    ⟨(some 24), .extr (.tmp 18) 0, none⟩,
    ⟨(some 25), .extr (.tmp 18) 1, none⟩,
    ⟨(some 9), .mov (.tmp 24), none⟩,
    ⟨(some 10), .mov (.tmp 25), none⟩]
def A_tree_mader6 : List AOper := [
    ⟨(some 26), .mov (.tmp 10), none⟩,
    ⟨(some 27), .ibin .neq (.tmp 26) (.const (.int .i64 0)), none⟩]
def A_tree_mader7 : List AOper := [
    ⟨(some 28), .mov (.tmp 10), none⟩,
    ⟨(some 4), .mov (.const (.slice none 0 0)), none⟩,
    ⟨(some 5), .mov (.tmp 28), none⟩]
def A_tree_mader8 : List AOper := [
    ⟨(some 30), .mov (.tmp 0), none⟩,
    ⟨(some 31), .fadr 1 (.tmp 8), none⟩,
    ⟨(some 32), .load false 1 (.tmp 31), none⟩,
    ⟨(some 33), .call 252 [(.tmp 32)], none⟩,
    ⟨(some 34), .mov (.tmp 9), none⟩,
    ⟨(some 35), .mkF (.method "Make") [(.tmp 30)] [], none⟩,
    ⟨(some 36), .nilckM "Make" [(111, 319), (117, 322)] (.tmp 35), none⟩,
    ⟨(some 37), .mov (.tmp 30), none⟩,
    ⟨(some 38), .inv [(111, 319), (117, 322)] (.tmp 37) [(.tmp 33), (.tmp 34)], none⟩,
    ⟨(some 29), .mov (.tmp 38), none⟩,
    ⟨(some 39), .extr (.tmp 29) 0, none⟩,
    ⟨(some 40), .extr (.tmp 29) 1, none⟩,
    ⟨(some 11), .mov (.tmp 39), none⟩,
    ⟨(some 10), .mov (.tmp 40), none⟩]
def A_tree_mader9 : List AOper := [
    ⟨(some 41), .mov (.tmp 10), none⟩,
    ⟨(some 42), .ibin .neq (.tmp 41) (.const (.int .i64 0)), none⟩]
def A_tree_mader10 : List AOper := [
    ⟨(some 43), .mov (.tmp 10), none⟩,
    ⟨(some 4), .mov (.const (.slice none 0 0)), none⟩,
    ⟨(some 5), .mov (.tmp 43), none⟩]
def A_tree_mader11 : List AOper := [
    ⟨(some 44), .mov (.tmp 6), none⟩,
    ⟨(some 45), .fadr 0 (.tmp 8), none⟩,
    ⟨(some 46), .load false 1 (.tmp 45), none⟩,
    ⟨(some 47), .mov (.tmp 11), none⟩,
    ⟨(some 48), .build [.str [], .str [], .int .i64 0, .int .i64 0, .int .i64 0] [(0, 1, (.tmp 46)), (4, 1, (.tmp 47))], none⟩,
    ⟨(some 49), .buildSl [.str [], .str [], .int .i64 0, .int .i64 0, .int .i64 0] 1 5 [(0, 5, (.tmp 48))], none⟩,
    ⟨(some 50), .app 5 56 170 (.tmp 44) (.tmp 49), none⟩,
    ⟨(some 6), .mov (.tmp 50), none⟩]
def A_tree_madec12 : AC := (.block 1 (.seq (.region A_tree_mader4) (.seq (.region A_tree_mader5) (.seq (.seq (.region A_tree_mader6) (.cond (.tmp 27) (.seq (.region A_tree_mader7) .ret) .skip)) (.seq (.draw A_tree_mader8 [0, 0, 2, 6, 0, 1, 33, 97, 255, 511, 1023, 1023, 2047, 8191]) (.seq (.seq (.region A_tree_mader9) (.cond (.tmp 42) (.seq (.region A_tree_mader10) .ret) .skip)) (.region A_tree_mader11)))))))
def A_tree_mader13 : List AOper := [
    ⟨(some 51), .ibin .add (.tmp 14) (.const (.int .i64 1)), none⟩,
    ⟨(some 14), .mov (.tmp 51), none⟩]
def A_tree_madel14 : AC := (.seq (.region A_tree_mader3) (.seq (.cond (.tmp 15) .skip (.exit 0)) (.seq A_tree_madec12 (.region A_tree_mader13))))
def A_tree_madec15 : AC := (.block 0 (.loop A_tree_madel14))
def A_tree_mader16 : List AOper := [
    ⟨(some 52), .mov (.tmp 6), none⟩,
    ⟨(some 4), .mov (.tmp 52), none⟩,
    ⟨(some 5), .mov (.const (.int .i64 0)), none⟩]
def A_tree_made : AFn := ⟨53, 2, [.tmp 4, .tmp 5], (.seq (.region A_tree_mader0) (.seq (.region A_tree_mader1) (.seq (.seq (.region A_tree_mader2) A_tree_madec15) (.seq (.region A_tree_mader16) .ret))))⟩
theorem fn_tree_made : FnIs Go.Proofs.Tryz.prog 218 A_tree_made := ⟨by kernel_rfl, Go.Proofs.Tryz.f218, Go.Proofs.Tryz.func218, by kernel_rfl⟩
/- (*rollbook/kv.Txn).may -/
def A_kv_Txn_mayr0 : List AOper := [
    ⟨(some 2), .mov (.const (.int .i64 0)), none⟩]
def A_kv_Txn_mayr1 : List AOper := [
    ⟨(some 4), .mov (.tmp 0), none⟩,
    ⟨(some 5), .nileq .ptr false (.tmp 4) (.const (.ptr none)), none⟩,
    ⟨(some 3), .mov (.tmp 5), none⟩]
def A_kv_Txn_mayr2 : List AOper := [
    ⟨(some 2), .mov (.const (.int .i64 2)), none⟩]
def A_kv_Txn_mayr3 : List AOper := [
    ⟨(some 7), .mov (.tmp 0), none⟩,
    ⟨(some 8), .nilck (.tmp 7), none⟩,
    ⟨(some 9), .fadr 13 (.tmp 8), none⟩,
    ⟨(some 10), .load false 1 (.tmp 9), none⟩,
    ⟨(some 6), .mov (.tmp 10), none⟩]
def A_kv_Txn_mayr4 : List AOper := [
    ⟨(some 2), .mov (.const (.int .i64 12)), none⟩]
def A_kv_Txn_mayc5 : AC := (.block 0 (.seq (.region A_kv_Txn_mayr1) (.cond (.tmp 3) (.seq (.region A_kv_Txn_mayr2) .ret) (.seq (.region A_kv_Txn_mayr3) (.cond (.tmp 6) (.seq (.region A_kv_Txn_mayr4) .ret) .skip)))))
def A_kv_Txn_mayr6 : List AOper := [
    ⟨(some 2), .mov (.const (.int .i64 0)), none⟩]
def A_kv_Txn_may : AFn := ⟨11, 1, [.tmp 2], (.seq (.region A_kv_Txn_mayr0) (.seq A_kv_Txn_mayc5 (.seq (.region A_kv_Txn_mayr6) .ret)))⟩
theorem fn_kv_Txn_may : FnIs Go.Proofs.Tryz.prog 49 A_kv_Txn_may := ⟨by kernel_rfl, Go.Proofs.Tryz.f49, Go.Proofs.Tryz.func49, by kernel_rfl⟩
/- (*rollbook/readers.Table).Live -/
def A_readers_Table_Liver0 : List AOper := [
    ⟨(some 2), .mov (.const (.slice none 0 0)), none⟩]
def A_readers_Table_Liver1 : List AOper := [
    ⟨(some 6), .mov (.tmp 0), none⟩,
    ⟨(some 7), .nileq .ptr false (.tmp 6) (.const (.ptr none)), none⟩]
def A_readers_Table_Liver2 : List AOper := [
    ⟨(some 2), .mov (.const (.slice none 0 0)), none⟩]
def A_readers_Table_Liver3 : List AOper := [
    ⟨(some 3), .mov (.const (.slice none 0 0)), none⟩]
def A_readers_Table_Liver4 : List AOper := [
    ⟨(some 8), .mov (.tmp 0), none⟩,
    ⟨(some 9), .nilck (.tmp 8), none⟩,
    ⟨(some 10), .fadr 0 (.tmp 9), none⟩,
    ⟨(some 11), .load true 8 (.tmp 10), none⟩,
    ⟨(some 12), .mov (.const (.int .i64 0)), none⟩]
def A_readers_Table_Liver5 : List AOper := [
    ⟨(some 13), .ibin .lss (.tmp 12) (.const (.int .i64 4)), none⟩]
def A_readers_Table_Liver6 : List AOper := [
    ⟨(some 14), .ixA 4 true 2 (.tmp 11) (.tmp 12), none⟩,
    ⟨(some 5), .alloc [.int .i64 0, .bool false] 2 192, none⟩,
    ⟨none, .store 2 (.tmp 5) (.tmp 14), none⟩]
def A_readers_Table_Liver7 : List AOper := [
    ⟨(some 15), .fadr 1 (.tmp 5), none⟩,
    ⟨(some 16), .load false 1 (.tmp 15), none⟩]
def A_readers_Table_Liver8 : List AOper := [
    ⟨(some 17), .mov (.tmp 3), none⟩,
    ⟨(some 18), .fadr 0 (.tmp 5), none⟩,
    ⟨(some 19), .load false 1 (.tmp 18), none⟩,
    ⟨(some 20), .buildSl [.int .i64 0] 1 1 [(0, 1, (.tmp 19))], none⟩,
    ⟨(some 21), .app 1 8 3 (.tmp 17) (.tmp 20), none⟩,
    ⟨(some 3), .mov (.tmp 21), none⟩]
def A_readers_Table_Livec9 : AC := (.block 1 (.seq (.region A_readers_Table_Liver6) (.seq (.region A_readers_Table_Liver7) (.cond (.tmp 16) (.region A_readers_Table_Liver8) .skip))))
def A_readers_Table_Liver10 : List AOper := [
    ⟨(some 22), .ibin .add (.tmp 12) (.const (.int .i64 1)), none⟩,
    ⟨(some 12), .mov (.tmp 22), none⟩]
def A_readers_Table_Livel11 : AC := (.seq (.region A_readers_Table_Liver5) (.seq (.cond (.tmp 13) .skip (.exit 0)) (.seq A_readers_Table_Livec9 (.region A_readers_Table_Liver10))))
def A_readers_Table_Livec12 : AC := (.block 0 (.loop A_readers_Table_Livel11))
def A_readers_Table_Liver13 : List AOper := [
    ⟨(some 23), .mov (.tmp 3), none⟩,
    ⟨(some 24), .call 79 [(.tmp 23)], none⟩]
def A_readers_Table_Liver14 : List AOper := [
    ⟨(some 25), .mov (.tmp 3), none⟩,
    ⟨(some 2), .mov (.tmp 25), none⟩]
def A_readers_Table_Live : AFn := ⟨26, 1, [.tmp 2], (.seq (.region A_readers_Table_Liver0) (.seq (.seq (.region A_readers_Table_Liver1) (.cond (.tmp 7) (.seq (.region A_readers_Table_Liver2) .ret) .skip)) (.seq (.region A_readers_Table_Liver3) (.seq (.seq (.region A_readers_Table_Liver4) A_readers_Table_Livec12) (.seq (.region A_readers_Table_Liver13) (.seq (.region A_readers_Table_Liver14) .ret))))))⟩
theorem fn_readers_Table_Live : FnIs Go.Proofs.Tryz.prog 62 A_readers_Table_Live := ⟨by kernel_rfl, Go.Proofs.Tryz.f62, Go.Proofs.Tryz.func62, by kernel_rfl⟩
/- (*rollbook/kv.Snap).Get -/
def A_kv_Snap_Getr0 : List AOper := [
    ⟨(some 6), .mov (.const (.str [])), none⟩,
    ⟨(some 7), .mov (.const (.bool false)), none⟩,
    ⟨(some 8), .mov (.const (.int .i64 0)), none⟩]
def A_kv_Snap_Getr1 : List AOper := [
    ⟨(some 13), .mov (.tmp 0), none⟩,
    ⟨(some 14), .call 57 [(.tmp 13)], none⟩,
    ⟨(some 9), .mov (.tmp 14), none⟩]
def A_kv_Snap_Getr2 : List AOper := [
    ⟨(some 15), .mov (.tmp 9), none⟩,
    ⟨(some 16), .ibin .neq (.tmp 15) (.const (.int .i64 0)), none⟩]
def A_kv_Snap_Getr3 : List AOper := [
    ⟨(some 17), .mov (.tmp 9), none⟩,
    ⟨(some 6), .mov (.const (.str [])), none⟩,
    ⟨(some 7), .mov (.const (.bool false)), none⟩,
    ⟨(some 8), .mov (.tmp 17), none⟩]
def A_kv_Snap_Getr4 : List AOper := [
    ⟨(some 18), .mov (.tmp 0), none⟩,
    ⟨(some 19), .nilck (.tmp 18), none⟩,
    ⟨(some 20), .fadr 0 (.tmp 19), none⟩,
    ⟨(some 21), .load false 1 (.tmp 20), none⟩,
    ⟨(some 22), .nilck (.tmp 21), none⟩,
    ⟨(some 23), .fadr 0 (.tmp 22), none⟩,
    ⟨(some 24), .load false 1 (.tmp 23), none⟩,
    ⟨(some 25), .build [.ptr none] [(0, 1, (.tmp 24))], none⟩,
    ⟨(some 10), .alloc [.ptr none] 1 117, none⟩,
    ⟨none, .store 1 (.tmp 10) (.tmp 25), none⟩]
def A_kv_Snap_Getr5 : List AOper := [
    ⟨(some 27), .load true 1 (.tmp 10), none⟩,
    ⟨(some 28), .mkI 117 (.tmp 27), none⟩,
    ⟨(some 29), .mov (.tmp 0), none⟩,
    ⟨(some 30), .nilck (.tmp 29), none⟩,
    ⟨(some 31), .fadr 2 (.tmp 30), none⟩,
    ⟨(some 32), .fadr 1 (.tmp 31), none⟩,
    ⟨(some 33), .load false 1 (.tmp 32), none⟩,
    ⟨(some 34), .mov (.tmp 1), none⟩,
    ⟨(some 35), .call 58 [(.tmp 28), (.tmp 33), (.tmp 34)], none⟩,
    ⟨(some 26), .mov (.tmp 35), none⟩,
    ⟨(some 36), .extr (.tmp 26) 0, none⟩,
    ⟨(some 37), .extr (.tmp 26) 1, none⟩,
    ⟨(some 11), .mov (.tmp 36), none⟩,
    ⟨(some 12), .mov (.tmp 37), none⟩]
def A_kv_Snap_Getr6 : List AOper := [
    ⟨(some 38), .mov (.tmp 12), none⟩,
    ⟨(some 39), .ibin .neq (.tmp 38) (.const (.int .i64 0)), none⟩]
def A_kv_Snap_Getr7 : List AOper := [
    ⟨(some 40), .mov (.tmp 12), none⟩,
    ⟨(some 6), .mov (.const (.str [])), none⟩,
    ⟨(some 7), .mov (.const (.bool false)), none⟩,
    ⟨(some 8), .mov (.tmp 40), none⟩]
def A_kv_Snap_Getr8 : List AOper := [
    ⟨(some 41), .load true 1 (.tmp 10), none⟩,
    ⟨(some 42), .mkI 117 (.tmp 41), none⟩,
    ⟨(some 43), .mov (.tmp 11), none⟩,
    ⟨(some 44), .mov (.tmp 2), none⟩,
    ⟨(some 45), .call 59 [(.tmp 42), (.tmp 43), (.tmp 44)], none⟩,
    ⟨(some 46), .extr (.tmp 45) 0, none⟩,
    ⟨(some 47), .extr (.tmp 45) 1, none⟩,
    ⟨(some 48), .extr (.tmp 45) 2, none⟩,
    ⟨(some 6), .mov (.tmp 46), none⟩,
    ⟨(some 7), .mov (.tmp 47), none⟩,
    ⟨(some 8), .mov (.tmp 48), none⟩]
def A_kv_Snap_Get : AFn := ⟨49, 3, [.tmp 6, .tmp 7, .tmp 8], (.seq (.region A_kv_Snap_Getr0) (.seq (.seq (.region A_kv_Snap_Getr1) (.seq (.region A_kv_Snap_Getr2) (.cond (.tmp 16) (.seq (.region A_kv_Snap_Getr3) .ret) .skip))) (.seq (.region A_kv_Snap_Getr4) (.seq (.draw A_kv_Snap_Getr5 [0, 1, 0, 4, 12, 28, 60, 0, 255, 511, 1023, 1023, 2047, 8191]) (.seq (.seq (.region A_kv_Snap_Getr6) (.cond (.tmp 39) (.seq (.region A_kv_Snap_Getr7) .ret) .skip)) (.seq (.region A_kv_Snap_Getr8) .ret))))))⟩
theorem fn_kv_Snap_Get : FnIs Go.Proofs.Tryz.prog 16 A_kv_Snap_Get := ⟨by kernel_rfl, Go.Proofs.Tryz.f16, Go.Proofs.Tryz.func16, by kernel_rfl⟩
/- (*rollbook/rollbooklaw11.world).put -/
def A_rollbooklaw11_world_putr0 : List AOper := [
    ⟨(some 3), .box (.tmp 1) 6, none⟩,
    ⟨(some 4), .mov (.const (.bool false)), none⟩]
def A_rollbooklaw11_world_putr1 : List AOper := [
    ⟨(some 11), .mov (.tmp 0), none⟩,
    ⟨(some 12), .nilck (.tmp 11), none⟩,
    ⟨(some 13), .fadr 2 (.tmp 12), none⟩,
    ⟨(some 14), .load false 1 (.tmp 13), none⟩,
    ⟨(some 15), .call 20 [(.tmp 14)], none⟩,
    ⟨(some 5), .mov (.tmp 15), none⟩]
def A_rollbooklaw11_world_putr2 : List AOper := [
    ⟨(some 16), .load true 6 (.tmp 3), none⟩,
    ⟨(some 17), .call 125 [(.tmp 16)], none⟩,
    ⟨(some 6), .mov (.tmp 17), none⟩]
def A_rollbooklaw11_world_putr3 : List AOper := [
    ⟨(some 18), .mov (.tmp 0), none⟩,
    ⟨(some 19), .nilck (.tmp 18), none⟩,
    ⟨(some 20), .fadr 2 (.tmp 19), none⟩,
    ⟨(some 21), .load false 1 (.tmp 20), none⟩,
    ⟨(some 22), .fadr 1 (.tmp 3), none⟩,
    ⟨(some 23), .load false 1 (.tmp 22), none⟩,
    ⟨(some 24), .call 126 [(.tmp 23)], none⟩,
    ⟨(some 25), .fadr 2 (.tmp 3), none⟩,
    ⟨(some 26), .load false 1 (.tmp 25), none⟩,
    ⟨(some 27), .mov (.tmp 6), none⟩,
    ⟨(some 28), .call 12 [(.tmp 21), (.tmp 24), (.tmp 26), (.tmp 27)], none⟩,
    ⟨(some 7), .mov (.tmp 28), none⟩]
def A_rollbooklaw11_world_putr4 : List AOper := [
    ⟨(some 30), .mov (.tmp 0), none⟩,
    ⟨(some 31), .nilck (.tmp 30), none⟩,
    ⟨(some 32), .fadr 2 (.tmp 31), none⟩,
    ⟨(some 33), .load false 1 (.tmp 32), none⟩,
    ⟨(some 34), .nileq .ptr false (.tmp 33) (.const (.ptr none)), none⟩,
    ⟨(some 29), .mov (.tmp 34), none⟩]
def A_rollbooklaw11_world_putr5 : List AOper := [
    ⟨(some 35), .mov (.tmp 7), none⟩,
    ⟨(some 36), .ibin .eql (.tmp 35) (.const (.int .i64 2)), none⟩,
    ⟨(some 4), .mov (.tmp 36), none⟩]
def A_rollbooklaw11_world_putr6 : List AOper := [
    ⟨(some 38), .mov (.tmp 5), none⟩,
    ⟨(some 37), .mov (.tmp 38), none⟩]
def A_rollbooklaw11_world_putr7 : List AOper := [
    ⟨(some 39), .mov (.tmp 7), none⟩,
    ⟨(some 40), .ibin .eql (.tmp 39) (.const (.int .i64 12)), none⟩,
    ⟨(some 4), .mov (.tmp 40), none⟩]
def A_rollbooklaw11_world_putr8 : List AOper := [
    ⟨(some 42), .mov (.tmp 7), none⟩,
    ⟨(some 43), .ibin .eql (.tmp 42) (.const (.int .i64 11)), none⟩,
    ⟨(some 41), .mov (.tmp 43), none⟩]
def A_rollbooklaw11_world_putr9 : List AOper := [
    ⟨(some 4), .mov (.const (.bool true)), none⟩]
def A_rollbooklaw11_world_putr10 : List AOper := [
    ⟨(some 45), .fadr 1 (.tmp 3), none⟩,
    ⟨(some 46), .load false 1 (.tmp 45), none⟩,
    ⟨(some 47), .call 126 [(.tmp 46)], none⟩,
    ⟨(some 48), .sbin .eql (.tmp 47) (.const (.str [])), none⟩,
    ⟨(some 49), .mov (.tmp 48), none⟩,
    ⟨(some 50), .fadr 2 (.tmp 3), (some (49, false))⟩,
    ⟨(some 51), .load false 1 (.tmp 50), (some (49, false))⟩,
    ⟨(some 52), .len .str (.tmp 51), (some (49, false))⟩,
    ⟨(some 53), .ibin .lss (.tmp 52) (.const (.int .i64 1)), (some (49, false))⟩,
    ⟨(some 54), .pick (.tmp 49) (.const (.bool true)) (.tmp 53), none⟩,
    ⟨(some 55), .mov (.tmp 54), none⟩,
    ⟨(some 56), .fadr 2 (.tmp 3), (some (55, false))⟩,
    ⟨(some 57), .load false 1 (.tmp 56), (some (55, false))⟩,
    ⟨(some 58), .len .str (.tmp 57), (some (55, false))⟩,
    ⟨(some 59), .ibin .gtr (.tmp 58) (.const (.int .i64 120)), (some (55, false))⟩,
    ⟨(some 60), .pick (.tmp 55) (.const (.bool true)) (.tmp 59), none⟩,
    ⟨(some 44), .mov (.tmp 60), none⟩]
def A_rollbooklaw11_world_putr11 : List AOper := [
    ⟨(some 61), .mov (.tmp 7), none⟩,
    ⟨(some 62), .ibin .eql (.tmp 61) (.const (.int .i64 1)), none⟩,
    ⟨(some 63), .mov (.tmp 62), none⟩,
    ⟨(some 64), .mov (.tmp 0), (some (63, true))⟩,
    ⟨(some 65), .nilck (.tmp 64), (some (63, true))⟩,
    ⟨(some 66), .fadr 2 (.tmp 65), (some (63, true))⟩,
    ⟨(some 67), .load false 1 (.tmp 66), (some (63, true))⟩,
    ⟨(some 68), .call 20 [(.tmp 67)], (some (63, true))⟩,
    ⟨(some 69), .un .not (.tmp 68), (some (63, true))⟩,
    ⟨(some 70), .pick (.tmp 63) (.tmp 69) (.const (.bool false)), none⟩,
    ⟨(some 4), .mov (.tmp 70), none⟩]
def A_rollbooklaw11_world_putr12 : List AOper := [
    ⟨(some 72), .mov (.tmp 6), none⟩,
    ⟨(some 73), .len .str (.tmp 72), none⟩,
    ⟨(some 74), .ibin .gtr (.tmp 73) (.const (.int .i64 4000)), none⟩,
    ⟨(some 71), .mov (.tmp 74), none⟩]
def A_rollbooklaw11_world_putr13 : List AOper := [
    ⟨(some 75), .mov (.tmp 7), none⟩,
    ⟨(some 76), .ibin .eql (.tmp 75) (.const (.int .i64 5)), none⟩,
    ⟨(some 77), .mov (.tmp 76), none⟩,
    ⟨(some 78), .mov (.tmp 0), (some (77, true))⟩,
    ⟨(some 79), .nilck (.tmp 78), (some (77, true))⟩,
    ⟨(some 80), .fadr 2 (.tmp 79), (some (77, true))⟩,
    ⟨(some 81), .load false 1 (.tmp 80), (some (77, true))⟩,
    ⟨(some 82), .call 20 [(.tmp 81)], (some (77, true))⟩,
    ⟨(some 83), .un .not (.tmp 82), (some (77, true))⟩,
    ⟨(some 84), .pick (.tmp 77) (.tmp 83) (.const (.bool false)), none⟩,
    ⟨(some 4), .mov (.tmp 84), none⟩]
def A_rollbooklaw11_world_putr14 : List AOper := [
    ⟨(some 86), .mov (.tmp 7), none⟩,
    ⟨(some 87), .ibin .neq (.tmp 86) (.const (.int .i64 0)), none⟩,
    ⟨(some 85), .mov (.tmp 87), none⟩]
def A_rollbooklaw11_world_putr15 : List AOper := [
    ⟨(some 88), .mov (.tmp 0), none⟩,
    ⟨(some 89), .nilck (.tmp 88), none⟩,
    ⟨(some 90), .fadr 2 (.tmp 89), none⟩,
    ⟨(some 91), .load false 1 (.tmp 90), none⟩,
    ⟨(some 92), .call 20 [(.tmp 91)], none⟩,
    ⟨(some 93), .mov (.tmp 92), none⟩,
    ⟨(some 94), .mov (.tmp 7), (some (93, true))⟩,
    ⟨(some 95), .ibin .eql (.tmp 94) (.const (.int .i64 9)), (some (93, true))⟩,
    ⟨(some 96), .mov (.tmp 95), (some (93, true))⟩,
    ⟨(some 97), .mov (.tmp 7), (some (96, false))⟩,
    ⟨(some 98), .ibin .eql (.tmp 97) (.const (.int .i64 6)), (some (96, false))⟩,
    ⟨(some 99), .pick (.tmp 96) (.const (.bool true)) (.tmp 98), (some (93, true))⟩,
    ⟨(some 100), .pick (.tmp 93) (.tmp 99) (.const (.bool false)), none⟩,
    ⟨(some 4), .mov (.tmp 100), none⟩]
def A_rollbooklaw11_world_putc16 : AC := (.block 0 (.seq (.region A_rollbooklaw11_world_putr4) (.cond (.tmp 29) (.seq (.region A_rollbooklaw11_world_putr5) .ret) (.seq (.region A_rollbooklaw11_world_putr6) (.cond (.tmp 37) (.seq (.region A_rollbooklaw11_world_putr7) .ret) (.seq (.region A_rollbooklaw11_world_putr8) (.cond (.tmp 41) (.seq (.region A_rollbooklaw11_world_putr9) .ret) (.seq (.region A_rollbooklaw11_world_putr10) (.cond (.tmp 44) (.seq (.region A_rollbooklaw11_world_putr11) .ret) (.seq (.region A_rollbooklaw11_world_putr12) (.cond (.tmp 71) (.seq (.region A_rollbooklaw11_world_putr13) .ret) (.seq (.region A_rollbooklaw11_world_putr14) (.cond (.tmp 85) (.seq (.region A_rollbooklaw11_world_putr15) .ret) .skip)))))))))))))
def A_rollbooklaw11_world_putr17 : List AOper := [
    ⟨(some 101), .mov (.tmp 0), none⟩,
    ⟨(some 102), .mov (.tmp 0), none⟩,
    ⟨(some 103), .nilck (.tmp 102), none⟩,
    ⟨(some 104), .fadr 5 (.tmp 103), none⟩,
    ⟨(some 105), .load false 1 (.tmp 104), none⟩,
    ⟨(some 106), .fadr 1 (.tmp 3), none⟩,
    ⟨(some 107), .load false 1 (.tmp 106), none⟩,
    ⟨(some 108), .call 126 [(.tmp 107)], none⟩,
    ⟨(some 109), .fadr 2 (.tmp 3), none⟩,
    ⟨(some 110), .load false 1 (.tmp 109), none⟩,
    ⟨(some 111), .mov (.tmp 6), none⟩,
    ⟨(some 112), .build [.str [], .str [], .str []] [(0, 1, (.tmp 108)), (1, 1, (.tmp 110)), (2, 1, (.tmp 111))], none⟩,
    ⟨(some 113), .call 84 [(.tmp 105), (.tmp 112)], none⟩,
    ⟨(some 114), .nilck (.tmp 101), none⟩,
    ⟨(some 115), .fadr 5 (.tmp 114), none⟩,
    ⟨none, .store 1 (.tmp 115) (.tmp 113), none⟩]
def A_rollbooklaw11_world_putr18 : List AOper := [
    ⟨(some 117), .mov (.tmp 0), none⟩,
    ⟨(some 118), .nilck (.tmp 117), none⟩,
    ⟨(some 119), .fadr 2 (.tmp 118), none⟩,
    ⟨(some 120), .load false 1 (.tmp 119), none⟩,
    ⟨(some 121), .fadr 1 (.tmp 3), none⟩,
    ⟨(some 122), .load false 1 (.tmp 121), none⟩,
    ⟨(some 123), .call 126 [(.tmp 122)], none⟩,
    ⟨(some 124), .fadr 2 (.tmp 3), none⟩,
    ⟨(some 125), .load false 1 (.tmp 124), none⟩,
    ⟨(some 126), .call 17 [(.tmp 120), (.tmp 123), (.tmp 125)], none⟩,
    ⟨(some 116), .mov (.tmp 126), none⟩,
    ⟨(some 127), .extr (.tmp 116) 0, none⟩,
    ⟨(some 128), .extr (.tmp 116) 1, none⟩,
    ⟨(some 129), .extr (.tmp 116) 2, none⟩,
    ⟨(some 8), .mov (.tmp 127), none⟩,
    ⟨(some 9), .mov (.tmp 128), none⟩,
    ⟨(some 10), .mov (.tmp 129), none⟩]
def A_rollbooklaw11_world_putr19 : List AOper := [
    ⟨(some 130), .mov (.tmp 8), none⟩,
    ⟨(some 131), .mov (.tmp 6), none⟩,
    ⟨(some 132), .sbin .eql (.tmp 130) (.tmp 131), none⟩,
    ⟨(some 133), .mov (.tmp 132), none⟩,
    ⟨(some 134), .mov (.tmp 9), (some (133, true))⟩,
    ⟨(some 135), .pick (.tmp 133) (.tmp 134) (.const (.bool false)), none⟩,
    ⟨(some 136), .mov (.tmp 135), none⟩,
    ⟨(some 137), .mov (.tmp 10), (some (136, true))⟩,
    ⟨(some 138), .ibin .eql (.tmp 137) (.const (.int .i64 0)), (some (136, true))⟩,
    ⟨(some 139), .pick (.tmp 136) (.tmp 138) (.const (.bool false)), none⟩,
    ⟨(some 4), .mov (.tmp 139), none⟩]
def A_rollbooklaw11_world_put : AFn := ⟨140, 2, [.tmp 4], (.seq (.region A_rollbooklaw11_world_putr0) (.seq (.region A_rollbooklaw11_world_putr1) (.seq (.region A_rollbooklaw11_world_putr2) (.seq (.draw A_rollbooklaw11_world_putr3 [0, 1, 3, 7, 0, 16, 48, 0, 128, 0, 1023, 2047]) (.seq A_rollbooklaw11_world_putc16 (.seq (.draw A_rollbooklaw11_world_putr17 [0, 0, 2, 6, 14, 0, 32, 96, 0, 256, 0, 2016, 4094, 8191, 16383, 32767]) (.seq (.draw A_rollbooklaw11_world_putr18 [0, 1, 3, 7, 0, 16, 48, 0, 128, 511, 1023, 2047, 2047, 2047, 4095, 24575, 65535]) (.seq (.region A_rollbooklaw11_world_putr19) .ret))))))))⟩
theorem fn_rollbooklaw11_world_put : FnIs Go.Proofs.Tryz.prog 65 A_rollbooklaw11_world_put := ⟨by kernel_rfl, Go.Proofs.Tryz.f65, Go.Proofs.Tryz.func65, by kernel_rfl⟩
/- rollbook/pager.Open -/
def A_pager_Openr0 : List AOper := [
    ⟨(some 2), .mov (.const (.ptr none)), none⟩,
    ⟨(some 3), .mov (.const (.int .i64 0)), none⟩]
def A_pager_Openr1 : List AOper := [
    ⟨(some 4), .alloc [.str [], .str []] 2 234, none⟩]
def A_pager_Openr2 : List AOper := [
    ⟨(some 14), .mov (.const (.int .i64 0)), none⟩]
def A_pager_Openr3 : List AOper := [
    ⟨(some 15), .ibin .lss (.tmp 14) (.const (.int .i64 2)), none⟩]
def A_pager_Openr4 : List AOper := [
    ⟨(some 16), .mov (.tmp 14), none⟩,
    ⟨(some 5), .mov (.tmp 16), none⟩]
def A_pager_Openr5 : List AOper := [
    ⟨(some 18), .mov (.tmp 0), none⟩,
    ⟨(some 19), .mov (.tmp 5), none⟩,
    ⟨(some 20), .call 152 [(.tmp 18), (.tmp 19)], none⟩,
    ⟨(some 17), .mov (.tmp 20), none⟩,
    ⟨(some 21), .extr (.tmp 17) 0, none⟩,
    ⟨(some 22), .extr (.tmp 17) 1, none⟩,
    ⟨(some 6), .mov (.tmp 21), none⟩,
    ⟨(some 7), .mov (.tmp 22), none⟩]
def A_pager_Openr6 : List AOper := [
    ⟨(some 23), .mov (.tmp 7), none⟩,
    ⟨(some 24), .ibin .neq (.tmp 23) (.const (.int .i64 0)), none⟩]
def A_pager_Openr7 : List AOper := [
    ⟨(some 25), .mov (.tmp 7), none⟩,
    ⟨(some 2), .mov (.const (.ptr none)), none⟩,
    ⟨(some 3), .mov (.tmp 25), none⟩]
def A_pager_Openr8 : List AOper := [
    ⟨(some 26), .mov (.tmp 5), none⟩,
    ⟨(some 27), .mov (.tmp 6), none⟩,
    ⟨(some 28), .iadrA 2 1 (.tmp 4) (.tmp 26), none⟩,
    ⟨none, .store 1 (.tmp 28) (.tmp 27), none⟩]
def A_pager_Openc9 : AC := (.block 1 (.seq (.region A_pager_Openr4) (.seq (.region A_pager_Openr5) (.seq (.seq (.region A_pager_Openr6) (.cond (.tmp 24) (.seq (.region A_pager_Openr7) .ret) .skip)) (.region A_pager_Openr8)))))
def A_pager_Openr10 : List AOper := [
    ⟨(some 29), .ibin .add (.tmp 14) (.const (.int .i64 1)), none⟩,
    ⟨(some 14), .mov (.tmp 29), none⟩]
def A_pager_Openl11 : AC := (.seq (.region A_pager_Openr3) (.seq (.cond (.tmp 15) .skip (.exit 0)) (.seq A_pager_Openc9 (.region A_pager_Openr10))))
def A_pager_Openc12 : AC := (.block 0 (.loop A_pager_Openl11))
def A_pager_Openr13 : List AOper := [
    ⟨(some 31), .iadrA 2 1 (.tmp 4) (.const (.int .i64 0)), none⟩,
    ⟨(some 32), .load false 1 (.tmp 31), none⟩,
    ⟨(some 33), .iadrA 2 1 (.tmp 4) (.const (.int .i64 1)), none⟩,
    ⟨(some 34), .load false 1 (.tmp 33), none⟩,
    ⟨(some 35), .call 153 [(.tmp 32), (.tmp 34)], none⟩,
    ⟨(some 30), .mov (.tmp 35), none⟩,
    ⟨(some 36), .extr (.tmp 30) 0, none⟩,
    ⟨(some 37), .extr (.tmp 30) 1, none⟩,
    ⟨(some 38), .extr (.tmp 30) 2, none⟩,
    ⟨(some 8), .alloc [.int .i64 0, .int .i64 0, .int .i64 0, .int .i64 0, .int .i64 0] 5 40, none⟩,
    ⟨none, .store 5 (.tmp 8) (.tmp 36), none⟩,
    ⟨(some 9), .mov (.tmp 37), none⟩,
    ⟨(some 10), .mov (.tmp 38), none⟩]
def A_pager_Openr14 : List AOper := [
    ⟨(some 39), .mov (.tmp 10), none⟩,
    ⟨(some 40), .ibin .neq (.tmp 39) (.const (.int .i64 0)), none⟩,
    ⟨(some 41), .mov (.tmp 40), none⟩,
    ⟨(some 42), .fadr 4 (.tmp 8), (some (41, false))⟩,
    ⟨(some 43), .load false 1 (.tmp 42), (some (41, false))⟩,
    ⟨(some 44), .mov (.tmp 0), (some (41, false))⟩,
    ⟨(some 45), .call 151 [(.tmp 44)], (some (41, false))⟩,
    ⟨(some 46), .ibin .quo (.tmp 45) (.const (.int .i64 4)), (some (41, false))⟩,
    ⟨(some 47), .ibin .gtr (.tmp 43) (.tmp 46), (some (41, false))⟩,
    ⟨(some 48), .pick (.tmp 41) (.const (.bool true)) (.tmp 47), none⟩]
def A_pager_Openr15 : List AOper := [
    ⟨(some 2), .mov (.const (.ptr none)), none⟩,
    ⟨(some 3), .mov (.const (.int .i64 4)), none⟩]
def A_pager_Openr16 : List AOper := [
    ⟨(some 49), .mov (.tmp 0), none⟩,
    ⟨(some 50), .load true 5 (.tmp 8), none⟩,
    ⟨(some 51), .build [.ptr none, .int .i64 0, .int .i64 0, .int .i64 0, .int .i64 0, .int .i64 0, .int .i64 0, .int .i64 0, .int .i64 0, .int .i64 0, .int .i64 0, .bool false, .ptr none, .slice none 0 0] [(0, 1, (.tmp 49)), (1, 5, (.tmp 50))], none⟩,
    ⟨(some 52), .box (.tmp 51) 14, none⟩,
    ⟨(some 11), .mov (.tmp 52), none⟩]
def A_pager_Openr17 : List AOper := [
    ⟨(some 54), .mov (.tmp 9), none⟩,
    ⟨(some 55), .ibin .sub (.const (.int .i64 1)) (.tmp 54), none⟩,
    ⟨(some 56), .iadrA 2 1 (.tmp 4) (.tmp 55), none⟩,
    ⟨(some 57), .load false 1 (.tmp 56), none⟩,
    ⟨(some 58), .call 154 [(.tmp 57)], none⟩,
    ⟨(some 53), .mov (.tmp 58), none⟩,
    ⟨(some 59), .extr (.tmp 53) 0, none⟩,
    ⟨(some 60), .extr (.tmp 53) 1, none⟩,
    ⟨(some 12), .alloc [.int .i64 0, .int .i64 0, .int .i64 0, .int .i64 0, .int .i64 0] 5 40, none⟩,
    ⟨none, .store 5 (.tmp 12) (.tmp 59), none⟩,
    ⟨(some 13), .mov (.tmp 60), none⟩]
def A_pager_Openr18 : List AOper := [
    ⟨(some 61), .mov (.tmp 13), none⟩,
    ⟨(some 62), .ibin .eql (.tmp 61) (.const (.int .i64 0)), none⟩]
def A_pager_Openr19 : List AOper := [
    ⟨(some 63), .mov (.tmp 11), none⟩,
    ⟨(some 64), .mov (.tmp 11), none⟩,
    ⟨(some 65), .load true 5 (.tmp 12), none⟩,
    ⟨(some 66), .nilck (.tmp 63), none⟩,
    ⟨(some 67), .fadr 6 (.tmp 66), none⟩,
    ⟨none, .store 5 (.tmp 67) (.tmp 65), none⟩,
    ⟨(some 68), .nilck (.tmp 64), none⟩,
    ⟨(some 69), .fadr 11 (.tmp 68), none⟩,
    ⟨none, .store 1 (.tmp 69) (.const (.bool true)), none⟩]
def A_pager_Openr20 : List AOper := [
    ⟨(some 70), .mov (.tmp 11), none⟩,
    ⟨(some 2), .mov (.tmp 70), none⟩,
    ⟨(some 3), .mov (.const (.int .i64 0)), none⟩]
def A_pager_Open : AFn := ⟨71, 1, [.tmp 2, .tmp 3], (.seq (.region A_pager_Openr0) (.seq (.region A_pager_Openr1) (.seq (.seq (.region A_pager_Openr2) A_pager_Openc12) (.seq (.region A_pager_Openr13) (.seq (.seq (.draw A_pager_Openr14 [0, 1, 3, 7, 15, 7, 39, 103, 255, 511]) (.cond (.tmp 48) (.seq (.region A_pager_Openr15) .ret) .skip)) (.seq (.region A_pager_Openr16) (.seq (.seq (.region A_pager_Openr17) (.seq (.region A_pager_Openr18) (.cond (.tmp 62) (.region A_pager_Openr19) .skip))) (.seq (.region A_pager_Openr20) .ret))))))))⟩
theorem fn_pager_Open : FnIs Go.Proofs.Tryz.prog 99 A_pager_Open := ⟨by kernel_rfl, Go.Proofs.Tryz.f99, Go.Proofs.Tryz.func99, by kernel_rfl⟩
/- rollbook/tree.raw -/
def A_tree_rawr0 : List AOper := [
    ⟨(some 4), .mov (.const (.bool false)), none⟩,
    ⟨(some 5), .mov (.const (.str [])), none⟩,
    ⟨(some 6), .mov (.const (.int .i64 0)), none⟩]
def A_tree_rawr1 : List AOper := [
    ⟨(some 10), .mov (.tmp 0), none⟩,
    ⟨(some 11), .mov (.tmp 1), none⟩,
    ⟨(some 12), .inv [(111, 318), (117, 321)] (.tmp 10) [(.tmp 11)], none⟩,
    ⟨(some 9), .mov (.tmp 12), none⟩,
    ⟨(some 13), .extr (.tmp 9) 0, none⟩,
    ⟨(some 14), .extr (.tmp 9) 1, none⟩,
    ⟨(some 7), .alloc [.int .i64 0, .int .i64 0, .int .i64 0, .str []] 4 126, none⟩,
    ⟨none, .store 4 (.tmp 7) (.tmp 13), none⟩,
    ⟨(some 8), .mov (.tmp 14), none⟩]
def A_tree_rawr2 : List AOper := [
    ⟨(some 16), .mov (.tmp 8), none⟩,
    ⟨(some 17), .ibin .neq (.tmp 16) (.const (.int .i64 0)), none⟩,
    ⟨(some 15), .mov (.tmp 17), none⟩]
def A_tree_rawr3 : List AOper := [
    ⟨(some 18), .mov (.tmp 8), none⟩,
    ⟨(some 4), .mov (.const (.bool false)), none⟩,
    ⟨(some 5), .mov (.const (.str [])), none⟩,
    ⟨(some 6), .mov (.tmp 18), none⟩]
def A_tree_rawr4 : List AOper := [
    ⟨(some 20), .fadr 0 (.tmp 7), none⟩,
    ⟨(some 21), .load false 1 (.tmp 20), none⟩,
    ⟨(some 22), .ibin .neq (.tmp 21) (.const (.int .i64 1)), none⟩,
    ⟨(some 23), .mov (.tmp 22), none⟩,
    ⟨(some 24), .fadr 0 (.tmp 7), (some (23, true))⟩,
    ⟨(some 25), .load false 1 (.tmp 24), (some (23, true))⟩,
    ⟨(some 26), .ibin .neq (.tmp 25) (.const (.int .i64 2)), (some (23, true))⟩,
    ⟨(some 27), .pick (.tmp 23) (.tmp 26) (.const (.bool false)), none⟩,
    ⟨(some 19), .mov (.tmp 27), none⟩]
def A_tree_rawr5 : List AOper := [
    ⟨(some 4), .mov (.const (.bool false)), none⟩,
    ⟨(some 5), .mov (.const (.str [])), none⟩,
    ⟨(some 6), .mov (.const (.int .i64 4)), none⟩]
def A_tree_rawc6 : AC := (.block 0 (.seq (.region A_tree_rawr2) (.cond (.tmp 15) (.seq (.region A_tree_rawr3) .ret) (.seq (.region A_tree_rawr4) (.cond (.tmp 19) (.seq (.region A_tree_rawr5) .ret) .skip)))))
def A_tree_rawr7 : List AOper := [
    ⟨(some 28), .fadr 0 (.tmp 7), none⟩,
    ⟨(some 29), .load false 1 (.tmp 28), none⟩,
    ⟨(some 30), .ibin .eql (.tmp 29) (.const (.int .i64 1)), none⟩,
    ⟨(some 31), .fadr 3 (.tmp 7), none⟩,
    ⟨(some 32), .load false 1 (.tmp 31), none⟩,
    ⟨(some 4), .mov (.tmp 30), none⟩,
    ⟨(some 5), .mov (.tmp 32), none⟩,
    ⟨(some 6), .mov (.const (.int .i64 0)), none⟩]
def A_tree_raw : AFn := ⟨33, 2, [.tmp 4, .tmp 5, .tmp 6], (.seq (.region A_tree_rawr0) (.seq (.region A_tree_rawr1) (.seq A_tree_rawc6 (.seq (.draw A_tree_rawr7 [0, 1, 3, 0, 8, 7, 63, 127]) .ret))))⟩
theorem fn_tree_raw : FnIs Go.Proofs.Tryz.prog 179 A_tree_raw := ⟨by kernel_rfl, Go.Proofs.Tryz.f179, Go.Proofs.Tryz.func179, by kernel_rfl⟩
/- rollbook/page.Unpack -/
def A_page_Unpackr0 : List AOper := [
    ⟨(some 2), .alloc [.int .i64 0, .int .i64 0, .int .i64 0, .str []] 4 126, none⟩,
    ⟨(some 3), .mov (.const (.int .i64 0)), none⟩]
def A_page_Unpackr1 : List AOper := [
    ⟨(some 8), .mov (.tmp 0), none⟩,
    ⟨(some 9), .len .str (.tmp 8), none⟩,
    ⟨(some 10), .ibin .neq (.tmp 9) (.const (.int .i64 512)), none⟩,
    ⟨(some 11), .mov (.tmp 10), none⟩,
    ⟨(some 12), .mov (.tmp 0), (some (11, false))⟩,
    ⟨(some 13), .call 210 [(.tmp 12), (.const (.str [82, 66]))], (some (11, false))⟩,
    ⟨(some 14), .un .not (.tmp 13), (some (11, false))⟩,
    ⟨(some 15), .pick (.tmp 11) (.const (.bool true)) (.tmp 14), none⟩]
def A_page_Unpackr2 : List AOper := [
    ⟨(some 16), .build [.int .i64 0, .int .i64 0, .int .i64 0, .str []] [], none⟩,
    ⟨none, .store 4 (.tmp 2) (.tmp 16), none⟩,
    ⟨(some 3), .mov (.const (.int .i64 4)), none⟩]
def A_page_Unpackr3 : List AOper := [
    ⟨(some 17), .mov (.tmp 0), none⟩,
    ⟨(some 18), .call 211 [(.tmp 17), (.const (.int .i64 2)), (.const (.int .i64 1))], none⟩,
    ⟨(some 19), .mov (.tmp 0), none⟩,
    ⟨(some 20), .call 211 [(.tmp 19), (.const (.int .i64 6)), (.const (.int .i64 4))], none⟩,
    ⟨(some 21), .mov (.tmp 0), none⟩,
    ⟨(some 22), .call 211 [(.tmp 21), (.const (.int .i64 10)), (.const (.int .i64 8))], none⟩,
    ⟨(some 23), .build [.int .i64 0, .int .i64 0, .int .i64 0, .str []] [(0, 1, (.tmp 18)), (1, 1, (.tmp 20)), (2, 1, (.tmp 22))], none⟩,
    ⟨(some 4), .alloc [.int .i64 0, .int .i64 0, .int .i64 0, .str []] 4 126, none⟩,
    ⟨none, .store 4 (.tmp 4) (.tmp 23), none⟩]
def A_page_Unpackr4 : List AOper := [
    ⟨(some 24), .mov (.tmp 0), none⟩,
    ⟨(some 25), .call 211 [(.tmp 24), (.const (.int .i64 4)), (.const (.int .i64 2))], none⟩,
    ⟨(some 5), .mov (.tmp 25), none⟩]
def A_page_Unpackr5 : List AOper := [
    ⟨(some 26), .mov (.tmp 5), none⟩,
    ⟨(some 27), .ibin .leq (.tmp 26) (.const (.int .i64 488)), none⟩]
def A_page_Unpackr6 : List AOper := [
    ⟨(some 28), .mov (.tmp 0), none⟩,
    ⟨(some 29), .mov (.tmp 5), none⟩,
    ⟨(some 30), .ibin .add (.const (.int .i64 24)) (.tmp 29), none⟩,
    ⟨(some 31), .slS (.tmp 28) (some (.const (.int .i64 24))) (some (.tmp 30)), none⟩,
    ⟨(some 32), .fadr 3 (.tmp 4), none⟩,
    ⟨none, .store 1 (.tmp 32) (.tmp 31), none⟩]
def A_page_Unpackr7 : List AOper := [
    ⟨(some 34), .load true 4 (.tmp 4), none⟩,
    ⟨(some 35), .call 172 [(.tmp 34)], none⟩,
    ⟨(some 33), .mov (.tmp 35), none⟩,
    ⟨(some 36), .extr (.tmp 33) 0, none⟩,
    ⟨(some 37), .extr (.tmp 33) 1, none⟩,
    ⟨(some 6), .mov (.tmp 36), none⟩,
    ⟨(some 7), .mov (.tmp 37), none⟩]
def A_page_Unpackr8 : List AOper := [
    ⟨(some 38), .mov (.tmp 7), none⟩,
    ⟨(some 39), .ibin .neq (.tmp 38) (.const (.int .i64 0)), none⟩,
    ⟨(some 40), .mov (.tmp 39), none⟩,
    ⟨(some 41), .mov (.tmp 6), (some (40, false))⟩,
    ⟨(some 42), .mov (.tmp 0), (some (40, false))⟩,
    ⟨(some 43), .sbin .neq (.tmp 41) (.tmp 42), (some (40, false))⟩,
    ⟨(some 44), .pick (.tmp 40) (.const (.bool true)) (.tmp 43), none⟩]
def A_page_Unpackr9 : List AOper := [
    ⟨(some 45), .build [.int .i64 0, .int .i64 0, .int .i64 0, .str []] [], none⟩,
    ⟨none, .store 4 (.tmp 2) (.tmp 45), none⟩,
    ⟨(some 3), .mov (.const (.int .i64 4)), none⟩]
def A_page_Unpackr10 : List AOper := [
    ⟨(some 46), .load true 4 (.tmp 4), none⟩,
    ⟨none, .store 4 (.tmp 2) (.tmp 46), none⟩,
    ⟨(some 3), .mov (.const (.int .i64 0)), none⟩]
def A_page_Unpack : AFn := ⟨47, 1, [.cell 2 true 4, .tmp 3], (.seq (.region A_page_Unpackr0) (.seq (.seq (.region A_page_Unpackr1) (.cond (.tmp 15) (.seq (.region A_page_Unpackr2) .ret) .skip)) (.seq (.region A_page_Unpackr3) (.seq (.seq (.region A_page_Unpackr4) (.seq (.region A_page_Unpackr5) (.cond (.tmp 27) (.region A_page_Unpackr6) .skip))) (.seq (.seq (.region A_page_Unpackr7) (.seq (.region A_page_Unpackr8) (.cond (.tmp 44) (.seq (.region A_page_Unpackr9) .ret) .skip))) (.seq (.region A_page_Unpackr10) .ret))))))⟩
theorem fn_page_Unpack : FnIs Go.Proofs.Tryz.prog 212 A_page_Unpack := ⟨by kernel_rfl, Go.Proofs.Tryz.f212, Go.Proofs.Tryz.func212, by kernel_rfl⟩
/- rollbook/page.filled -/
def A_page_filledr0 : List AOper := [
    ⟨(some 4), .mov (.const (.str [])), none⟩]
def A_page_filledr1 : List AOper := [
    ⟨(some 5), .mov (.tmp 0), none⟩,
    ⟨(some 6), .mov (.tmp 1), none⟩,
    ⟨(some 7), .mov (.tmp 0), none⟩,
    ⟨(some 8), .len .str (.tmp 7), none⟩,
    ⟨(some 9), .ibin .sub (.tmp 6) (.tmp 8), none⟩,
    ⟨(some 10), .call 231 [(.const (.str [0])), (.tmp 9)], none⟩,
    ⟨(some 11), .sbin .add (.tmp 5) (.tmp 10), none⟩,
    ⟨(some 4), .mov (.tmp 11), none⟩]
def A_page_filled : AFn := ⟨12, 2, [.tmp 4], (.seq (.region A_page_filledr0) (.seq (.region A_page_filledr1) .ret))⟩
theorem fn_page_filled : FnIs Go.Proofs.Tryz.prog 176 A_page_filled := ⟨by kernel_rfl, Go.Proofs.Tryz.f176, Go.Proofs.Tryz.func176, by kernel_rfl⟩
/- slices.Concat[[]int,int] -/
def A_slices_Concat_intr0 : List AOper := [
    ⟨(some 2), .mov (.const (.slice none 0 0)), none⟩]
def A_slices_Concat_intr1 : List AOper := [
    ⟨(some 3), .mov (.const (.int .i64 0)), none⟩]
def A_slices_Concat_intr2 : List AOper := [
    ⟨(some 9), .mov (.tmp 0), none⟩,
    ⟨(some 10), .len .sl (.tmp 9), none⟩,
    ⟨(some 11), .mov (.const (.int .i64 0)), none⟩]
def A_slices_Concat_intr3 : List AOper := [
    ⟨(some 12), .ibin .lss (.tmp 11) (.tmp 10), none⟩]
def A_slices_Concat_intr4 : List AOper := [
    ⟨(some 13), .iadrS 1 (.tmp 9) (.tmp 11), none⟩,
    ⟨(some 14), .load false 1 (.tmp 13), none⟩,
    ⟨(some 5), .mov (.tmp 14), none⟩]
def A_slices_Concat_intr5 : List AOper := [
    ⟨(some 15), .mov (.tmp 3), none⟩,
    ⟨(some 16), .mov (.tmp 5), none⟩,
    ⟨(some 17), .len .sl (.tmp 16), none⟩,
    ⟨(some 18), .ibin .add (.tmp 15) (.tmp 17), none⟩,
    ⟨(some 3), .mov (.tmp 18), none⟩]
def A_slices_Concat_intr6 : List AOper := [
    ⟨(some 19), .mov (.tmp 3), none⟩,
    ⟨(some 20), .ibin .lss (.tmp 19) (.const (.int .i64 0)), none⟩]
def A_slices_Concat_intr7 : List AOper := [
    ⟨(some 21), .mkI 9 (.const (.str [108, 101, 110, 32, 111, 117, 116, 32, 111, 102, 32, 114, 97, 110, 103, 101])), none⟩,
    ⟨none, .bad, none⟩]
def A_slices_Concat_intc8 : AC := (.block 1 (.seq (.region A_slices_Concat_intr4) (.seq (.region A_slices_Concat_intr5) (.seq (.region A_slices_Concat_intr6) (.cond (.tmp 20) (.region A_slices_Concat_intr7) .skip)))))
def A_slices_Concat_intr9 : List AOper := [
    ⟨(some 22), .ibin .add (.tmp 11) (.const (.int .i64 1)), none⟩,
    ⟨(some 11), .mov (.tmp 22), none⟩]
def A_slices_Concat_intl10 : AC := (.seq (.region A_slices_Concat_intr3) (.seq (.cond (.tmp 12) .skip (.exit 0)) (.seq A_slices_Concat_intc8 (.region A_slices_Concat_intr9))))
def A_slices_Concat_intc11 : AC := (.block 0 (.loop A_slices_Concat_intl10))
def A_slices_Concat_intr12 : List AOper := [
    ⟨(some 23), .mov (.tmp 3), none⟩,
    ⟨(some 24), .call 136 [(.const (.slice none 0 0)), (.tmp 23)], none⟩,
    ⟨(some 6), .mov (.tmp 24), none⟩]
def A_slices_Concat_intr13 : List AOper := [
    ⟨(some 25), .mov (.tmp 0), none⟩,
    ⟨(some 26), .len .sl (.tmp 25), none⟩,
    ⟨(some 27), .mov (.const (.int .i64 0)), none⟩]
def A_slices_Concat_intr14 : List AOper := [
    ⟨(some 28), .ibin .lss (.tmp 27) (.tmp 26), none⟩]
def A_slices_Concat_intr15 : List AOper := [
    ⟨(some 29), .iadrS 1 (.tmp 25) (.tmp 27), none⟩,
    ⟨(some 30), .load false 1 (.tmp 29), none⟩,
    ⟨(some 8), .mov (.tmp 30), none⟩]
def A_slices_Concat_intr16 : List AOper := [
    ⟨(some 31), .mov (.tmp 6), none⟩,
    ⟨(some 32), .mov (.tmp 8), none⟩,
    ⟨(some 33), .app 1 8 3 (.tmp 31) (.tmp 32), none⟩,
    ⟨(some 6), .mov (.tmp 33), none⟩]
def A_slices_Concat_intc17 : AC := (.block 3 (.seq (.region A_slices_Concat_intr15) (.region A_slices_Concat_intr16)))
def A_slices_Concat_intr18 : List AOper := [
    ⟨(some 34), .ibin .add (.tmp 27) (.const (.int .i64 1)), none⟩,
    ⟨(some 27), .mov (.tmp 34), none⟩]
def A_slices_Concat_intl19 : AC := (.seq (.region A_slices_Concat_intr14) (.seq (.cond (.tmp 28) .skip (.exit 2)) (.seq A_slices_Concat_intc17 (.region A_slices_Concat_intr18))))
def A_slices_Concat_intc20 : AC := (.block 2 (.loop A_slices_Concat_intl19))
def A_slices_Concat_intr21 : List AOper := [
    ⟨(some 35), .mov (.tmp 6), none⟩,
    ⟨(some 2), .mov (.tmp 35), none⟩]
def A_slices_Concat_int : AFn := ⟨36, 1, [.tmp 2], (.seq (.region A_slices_Concat_intr0) (.seq (.region A_slices_Concat_intr1) (.seq (.seq (.region A_slices_Concat_intr2) A_slices_Concat_intc11) (.seq (.region A_slices_Concat_intr12) (.seq (.seq (.region A_slices_Concat_intr13) A_slices_Concat_intc20) (.seq (.region A_slices_Concat_intr21) .ret))))))⟩
theorem fn_slices_Concat_int : FnIs Go.Proofs.Tryz.prog 74 A_slices_Concat_int := ⟨by kernel_rfl, Go.Proofs.Tryz.f74, Go.Proofs.Tryz.func74, by kernel_rfl⟩
/- (*rollbook/readers.Table).Enter -/
def A_readers_Table_Enterr0 : List AOper := [
    ⟨(some 4), .mov (.const (.int .i64 0)), none⟩,
    ⟨(some 5), .mov (.const (.int .i64 0)), none⟩]
def A_readers_Table_Enterr1 : List AOper := [
    ⟨(some 8), .mov (.tmp 0), none⟩,
    ⟨(some 9), .nileq .ptr false (.tmp 8) (.const (.ptr none)), none⟩,
    ⟨(some 7), .mov (.tmp 9), none⟩]
def A_readers_Table_Enterr2 : List AOper := [
    ⟨(some 4), .mov (.const (.int .i64 0)), none⟩,
    ⟨(some 5), .mov (.const (.int .i64 2)), none⟩]
def A_readers_Table_Enterr3 : List AOper := [
    ⟨(some 11), .mov (.tmp 1), none⟩,
    ⟨(some 12), .ibin .lss (.tmp 11) (.const (.int .i64 0)), none⟩,
    ⟨(some 13), .mov (.tmp 12), none⟩,
    ⟨(some 14), .mov (.tmp 1), (some (13, false))⟩,
    ⟨(some 15), .ibin .gtr (.tmp 14) (.const (.int .i64 1099511627776)), (some (13, false))⟩,
    ⟨(some 16), .pick (.tmp 13) (.const (.bool true)) (.tmp 15), none⟩,
    ⟨(some 10), .mov (.tmp 16), none⟩]
def A_readers_Table_Enterr4 : List AOper := [
    ⟨(some 4), .mov (.const (.int .i64 0)), none⟩,
    ⟨(some 5), .mov (.const (.int .i64 1)), none⟩]
def A_readers_Table_Enterc5 : AC := (.block 0 (.seq (.region A_readers_Table_Enterr1) (.cond (.tmp 7) (.seq (.region A_readers_Table_Enterr2) .ret) (.seq (.region A_readers_Table_Enterr3) (.cond (.tmp 10) (.seq (.region A_readers_Table_Enterr4) .ret) .skip)))))
def A_readers_Table_Enterr6 : List AOper := [
    ⟨(some 17), .mov (.const (.int .i64 0)), none⟩]
def A_readers_Table_Enterr7 : List AOper := [
    ⟨(some 18), .ibin .lss (.tmp 17) (.const (.int .i64 4)), none⟩]
def A_readers_Table_Enterr8 : List AOper := [
    ⟨(some 19), .mov (.tmp 17), none⟩,
    ⟨(some 6), .mov (.tmp 19), none⟩]
def A_readers_Table_Enterr9 : List AOper := [
    ⟨(some 20), .mov (.tmp 0), none⟩,
    ⟨(some 21), .mov (.tmp 6), none⟩,
    ⟨(some 22), .nilck (.tmp 20), none⟩,
    ⟨(some 23), .fadr 0 (.tmp 22), none⟩,
    ⟨(some 24), .iadrA 4 2 (.tmp 23) (.tmp 21), none⟩,
    ⟨(some 25), .fadr 1 (.tmp 24), none⟩,
    ⟨(some 26), .load false 1 (.tmp 25), none⟩,
    ⟨(some 27), .un .not (.tmp 26), none⟩]
def A_readers_Table_Enterr10 : List AOper := [
    ⟨(some 28), .mov (.tmp 0), none⟩,
    ⟨(some 29), .mov (.tmp 6), none⟩,
    ⟨(some 30), .mov (.tmp 1), none⟩,
    ⟨(some 31), .build [.int .i64 0, .bool false] [(0, 1, (.tmp 30)), (1, 1, (.const (.bool true)))], none⟩,
    ⟨(some 32), .nilck (.tmp 28), none⟩,
    ⟨(some 33), .fadr 0 (.tmp 32), none⟩,
    ⟨(some 34), .iadrA 4 2 (.tmp 33) (.tmp 29), none⟩,
    ⟨none, .store 2 (.tmp 34) (.tmp 31), none⟩]
def A_readers_Table_Enterr11 : List AOper := [
    ⟨(some 35), .mov (.tmp 6), none⟩,
    ⟨(some 4), .mov (.tmp 35), none⟩,
    ⟨(some 5), .mov (.const (.int .i64 0)), none⟩]
def A_readers_Table_Enterc12 : AC := (.block 2 (.seq (.region A_readers_Table_Enterr8) (.seq (.region A_readers_Table_Enterr9) (.cond (.tmp 27) (.seq (.region A_readers_Table_Enterr10) (.seq (.region A_readers_Table_Enterr11) .ret)) .skip))))
def A_readers_Table_Enterr13 : List AOper := [
    ⟨(some 36), .ibin .add (.tmp 17) (.const (.int .i64 1)), none⟩,
    ⟨(some 17), .mov (.tmp 36), none⟩]
def A_readers_Table_Enterl14 : AC := (.seq (.region A_readers_Table_Enterr7) (.seq (.cond (.tmp 18) .skip (.exit 1)) (.seq A_readers_Table_Enterc12 (.region A_readers_Table_Enterr13))))
def A_readers_Table_Enterc15 : AC := (.block 1 (.loop A_readers_Table_Enterl14))
def A_readers_Table_Enterr16 : List AOper := [
    ⟨(some 4), .mov (.const (.int .i64 0)), none⟩,
    ⟨(some 5), .mov (.const (.int .i64 9)), none⟩]
def A_readers_Table_Enter : AFn := ⟨37, 2, [.tmp 4, .tmp 5], (.seq (.region A_readers_Table_Enterr0) (.seq A_readers_Table_Enterc5 (.seq (.seq (.region A_readers_Table_Enterr6) A_readers_Table_Enterc15) (.seq (.region A_readers_Table_Enterr16) .ret))))⟩
theorem fn_readers_Table_Enter : FnIs Go.Proofs.Tryz.prog 56 A_readers_Table_Enter := ⟨by kernel_rfl, Go.Proofs.Tryz.f56, Go.Proofs.Tryz.func56, by kernel_rfl⟩
/- rollbook/tree.top -/
def A_tree_topr0 : List AOper := [
    ⟨(some 4), .mov (.const (.int .i64 0)), none⟩,
    ⟨(some 5), .mov (.const (.int .i64 0)), none⟩]
def A_tree_topr1 : List AOper := [
    ⟨(some 11), .mov (.tmp 1), none⟩,
    ⟨(some 12), .len .sl (.tmp 11), none⟩,
    ⟨(some 13), .ibin .gtr (.tmp 12) (.const (.int .i64 1)), none⟩]
def A_tree_topr2 : List AOper := [
    ⟨(some 15), .mov (.tmp 0), none⟩,
    ⟨(some 16), .mov (.tmp 1), none⟩,
    ⟨(some 17), .call 218 [(.tmp 15), (.tmp 16)], none⟩,
    ⟨(some 14), .mov (.tmp 17), none⟩,
    ⟨(some 18), .extr (.tmp 14) 0, none⟩,
    ⟨(some 19), .extr (.tmp 14) 1, none⟩,
    ⟨(some 6), .mov (.tmp 18), none⟩,
    ⟨(some 7), .mov (.tmp 19), none⟩]
def A_tree_topr3 : List AOper := [
    ⟨(some 20), .mov (.tmp 7), none⟩,
    ⟨(some 21), .ibin .neq (.tmp 20) (.const (.int .i64 0)), none⟩]
def A_tree_topr4 : List AOper := [
    ⟨(some 22), .mov (.tmp 7), none⟩,
    ⟨(some 4), .mov (.const (.int .i64 0)), none⟩,
    ⟨(some 5), .mov (.tmp 22), none⟩]
def A_tree_topr5 : List AOper := [
    ⟨(some 23), .mov (.tmp 6), none⟩,
    ⟨(some 24), .call 162 [(.const (.str [])), (.const (.bool false)), (.tmp 23)], none⟩,
    ⟨(some 1), .mov (.tmp 24), none⟩]
def A_tree_topc6 : AC := (.block 1 (.seq (.region A_tree_topr2) (.seq (.seq (.region A_tree_topr3) (.cond (.tmp 21) (.seq (.region A_tree_topr4) .ret) .skip)) (.region A_tree_topr5))))
def A_tree_topl7 : AC := (.seq (.seq (.region A_tree_topr1) (.cond (.tmp 13) .skip (.exit 0))) A_tree_topc6)
def A_tree_topc8 : AC := (.block 0 (.loop A_tree_topl7))
def A_tree_topr9 : List AOper := [
    ⟨(some 25), .mov (.tmp 1), none⟩,
    ⟨(some 26), .iadrS 3 (.tmp 25) (.const (.int .i64 0)), none⟩,
    ⟨(some 27), .load true 3 (.tmp 26), none⟩,
    ⟨(some 8), .alloc [.str [], .bool false, .slice none 0 0] 3 319, none⟩,
    ⟨none, .store 3 (.tmp 8) (.tmp 27), none⟩]
def A_tree_topr10 : List AOper := [
    ⟨(some 29), .fadr 2 (.tmp 8), none⟩,
    ⟨(some 30), .load false 1 (.tmp 29), none⟩,
    ⟨(some 31), .len .sl (.tmp 30), none⟩,
    ⟨(some 32), .ibin .eql (.tmp 31) (.const (.int .i64 0)), none⟩,
    ⟨(some 28), .mov (.tmp 32), none⟩]
def A_tree_topr11 : List AOper := [
    ⟨(some 4), .mov (.const (.int .i64 0)), none⟩,
    ⟨(some 5), .mov (.const (.int .i64 0)), none⟩]
def A_tree_topr12 : List AOper := [
    ⟨(some 34), .fadr 1 (.tmp 8), none⟩,
    ⟨(some 35), .load false 1 (.tmp 34), none⟩,
    ⟨(some 36), .un .not (.tmp 35), none⟩,
    ⟨(some 37), .mov (.tmp 36), none⟩,
    ⟨(some 38), .fadr 2 (.tmp 8), (some (37, true))⟩,
    ⟨(some 39), .load false 1 (.tmp 38), (some (37, true))⟩,
    ⟨(some 40), .len .sl (.tmp 39), (some (37, true))⟩,
    ⟨(some 41), .ibin .eql (.tmp 40) (.const (.int .i64 1)), (some (37, true))⟩,
    ⟨(some 42), .pick (.tmp 37) (.tmp 41) (.const (.bool false)), none⟩,
    ⟨(some 33), .mov (.tmp 42), none⟩]
def A_tree_topr13 : List AOper := [
    ⟨(some 43), .fadr 2 (.tmp 8), none⟩,
    ⟨(some 44), .load false 1 (.tmp 43), none⟩,
    ⟨(some 45), .iadrS 5 (.tmp 44) (.const (.int .i64 0)), none⟩,
    ⟨(some 46), .fadr 4 (.tmp 45), none⟩,
    ⟨(some 47), .load false 1 (.tmp 46), none⟩,
    ⟨(some 4), .mov (.tmp 47), none⟩,
    ⟨(some 5), .mov (.const (.int .i64 0)), none⟩]
def A_tree_topc14 : AC := (.block 2 (.seq (.region A_tree_topr10) (.cond (.tmp 28) (.seq (.region A_tree_topr11) .ret) (.seq (.region A_tree_topr12) (.cond (.tmp 33) (.seq (.region A_tree_topr13) .ret) .skip)))))
def A_tree_topr15 : List AOper := [
    ⟨(some 49), .mov (.tmp 0), none⟩,
    ⟨(some 50), .mov (.tmp 1), none⟩,
    ⟨(some 51), .call 218 [(.tmp 49), (.tmp 50)], none⟩,
    ⟨(some 48), .mov (.tmp 51), none⟩,
    ⟨(some 52), .extr (.tmp 48) 0, none⟩,
    ⟨(some 53), .extr (.tmp 48) 1, none⟩,
    ⟨(some 9), .mov (.tmp 52), none⟩,
    ⟨(some 10), .mov (.tmp 53), none⟩]
def A_tree_topr16 : List AOper := [
    ⟨(some 54), .mov (.tmp 10), none⟩,
    ⟨(some 55), .ibin .neq (.tmp 54) (.const (.int .i64 0)), none⟩]
def A_tree_topr17 : List AOper := [
    ⟨(some 56), .mov (.tmp 10), none⟩,
    ⟨(some 4), .mov (.const (.int .i64 0)), none⟩,
    ⟨(some 5), .mov (.tmp 56), none⟩]
def A_tree_topr18 : List AOper := [
    ⟨(some 57), .mov (.tmp 9), none⟩,
    ⟨(some 58), .iadrS 5 (.tmp 57) (.const (.int .i64 0)), none⟩,
    ⟨(some 59), .fadr 4 (.tmp 58), none⟩,
    ⟨(some 60), .load false 1 (.tmp 59), none⟩,
    ⟨(some 4), .mov (.tmp 60), none⟩,
    ⟨(some 5), .mov (.const (.int .i64 0)), none⟩]
def A_tree_top : AFn := ⟨61, 2, [.tmp 4, .tmp 5], (.seq (.region A_tree_topr0) (.seq A_tree_topc8 (.seq (.seq (.region A_tree_topr9) A_tree_topc14) (.seq (.region A_tree_topr15) (.seq (.seq (.region A_tree_topr16) (.cond (.tmp 55) (.seq (.region A_tree_topr17) .ret) .skip)) (.seq (.region A_tree_topr18) .ret))))))⟩
theorem fn_tree_top : FnIs Go.Proofs.Tryz.prog 161 A_tree_top := ⟨by kernel_rfl, Go.Proofs.Tryz.f161, Go.Proofs.Tryz.func161, by kernel_rfl⟩
def KvFT1 : List (Nat × AFn) := [(175, A_page_lay), (280, A_field_TakeText), (118, A_dev_Dev_Write), (261, A_node_uncell), (268, A_node_Right), (178, A_dev_Dev_is), (152, A_dev_Dev_Read), (230, A_page_RightMeta_c1), (251, A_node_Encode), (211, A_page_at), (115, A_pager_Pager_Write), (156, A_pager_Pager_Read), (174, A_page_RightMeta), (286, A_node_rightBranch), (236, A_node_get), (117, A_page_PackMeta), (287, A_node_rightLeaf), (288, A_field_Text), (13, A_kv_Txn_Step), (59, A_tree_Get), (172, A_page_Pack), (9, A_rollbooklaw11_awake), (180, A_node_Seek), (26, A_rollbooklaw11_world_does), (121, A_tree_find), (229, A_page_Right), (254, A_node_sum), (255, A_node_size), (204, A_strings_Builder_WriteString), (232, A_node_Decode), (269, A_node_cell), (113, A_kv_Txn_page), (4, A_rollbooklaw11_KvNil), (154, A_page_UnpackMeta), (97, A_slices_Repeat_string), (233, A_node_count), (58, A_kv_rootOf), (218, A_tree_made), (49, A_kv_Txn_may), (62, A_readers_Table_Live), (16, A_kv_Snap_Get), (65, A_rollbooklaw11_world_put), (99, A_pager_Open), (179, A_tree_raw), (212, A_page_Unpack), (176, A_page_filled), (74, A_slices_Concat_int), (56, A_readers_Table_Enter), (161, A_tree_top)]
theorem KvFT1_ok : FnL Go.Proofs.Tryz.prog KvFT1 := ⟨fn_page_lay, fn_field_TakeText, fn_dev_Dev_Write, fn_node_uncell, fn_node_Right, fn_dev_Dev_is, fn_dev_Dev_Read, fn_page_RightMeta_c1, fn_node_Encode, fn_page_at, fn_pager_Pager_Write, fn_pager_Pager_Read, fn_page_RightMeta, fn_node_rightBranch, fn_node_get, fn_page_PackMeta, fn_node_rightLeaf, fn_field_Text, fn_kv_Txn_Step, fn_tree_Get, fn_page_Pack, fn_rollbooklaw11_awake, fn_node_Seek, fn_rollbooklaw11_world_does, fn_tree_find, fn_page_Right, fn_node_sum, fn_node_size, fn_strings_Builder_WriteString, fn_node_Decode, fn_node_cell, fn_kv_Txn_page, fn_rollbooklaw11_KvNil, fn_page_UnpackMeta, fn_slices_Repeat_string, fn_node_count, fn_kv_rootOf, fn_tree_made, fn_kv_Txn_may, fn_readers_Table_Live, fn_kv_Snap_Get, fn_rollbooklaw11_world_put, fn_pager_Open, fn_tree_raw, fn_page_Unpack, fn_page_filled, fn_slices_Concat_int, fn_readers_Table_Enter, fn_tree_top, trivial⟩
end Go.Ai
