/- Part 3 of the proof. -/
import Derived.Test.YtaibolmbafacpaaPh2
import Derived.Test.YtaibolmbafacpaaProg
namespace Go.Proofs.Ytaibolmbafacpaa
open Go Go.RowKit
@[simp] theorem tb_ti1 : tiF Try.prog 1 = some ⟨false, 1, 8, [.nilFunc]⟩ := by kernel_rfl
@[simp] theorem tb_un1 : (Try.prog.underlying 1).isSome = true := by kernel_rfl
@[simp] theorem tb_ti2 : tiF Try.prog 2 = some ⟨false, 1, 8, [.int .i64 0]⟩ := by kernel_rfl
@[simp] theorem tb_un2 : (Try.prog.underlying 2).isSome = true := by kernel_rfl
@[simp] theorem tb_ti3 : tiF Try.prog 3 = some ⟨false, 1, 8, [.int .i64 0]⟩ := by kernel_rfl
@[simp] theorem tb_un3 : (Try.prog.underlying 3).isSome = true := by kernel_rfl
@[simp] theorem tb_ti4 : tiF Try.prog 4 = some ⟨false, 1, 1, [.bool false]⟩ := by kernel_rfl
@[simp] theorem tb_un4 : (Try.prog.underlying 4).isSome = true := by kernel_rfl
@[simp] theorem tb_ti5 : tiF Try.prog 5 = some ⟨false, 1, 1, [.int .u8 0]⟩ := by kernel_rfl
@[simp] theorem tb_un5 : (Try.prog.underlying 5).isSome = true := by kernel_rfl
@[simp] theorem tb_ti6 : tiF Try.prog 6 = some ⟨false, 1, 1, [.int .u8 0]⟩ := by kernel_rfl
@[simp] theorem tb_un6 : (Try.prog.underlying 6).isSome = true := by kernel_rfl
@[simp] theorem tb_ti7 : tiF Try.prog 7 = some ⟨true, 4, 24, [.int .i64 0, .int .i64 0, .bool false, .int .u8 0]⟩ := by kernel_rfl
@[simp] theorem tb_un7 : (Try.prog.underlying 7).isSome = true := by kernel_rfl
@[simp] theorem tb_ti8 : tiF Try.prog 8 = some ⟨true, 4, 24, [.int .i64 0, .int .i64 0, .bool false, .int .u8 0]⟩ := by kernel_rfl
@[simp] theorem tb_un8 : (Try.prog.underlying 8).isSome = true := by kernel_rfl
@[simp] theorem tb_ti9 : tiF Try.prog 9 = some ⟨false, 1, 16, [.string ⟨#[]⟩]⟩ := by kernel_rfl
@[simp] theorem tb_un9 : (Try.prog.underlying 9).isSome = true := by kernel_rfl
@[simp] theorem tb_ti10 : tiF Try.prog 10 = some ⟨false, 1, 16, [.string ⟨#[]⟩]⟩ := by kernel_rfl
@[simp] theorem tb_un10 : (Try.prog.underlying 10).isSome = true := by kernel_rfl
@[simp] theorem tb_ti11 : tiF Try.prog 11 = some ⟨false, 1, 16, [.string ⟨#[]⟩]⟩ := by kernel_rfl
@[simp] theorem tb_un11 : (Try.prog.underlying 11).isSome = true := by kernel_rfl
@[simp] theorem tb_ti12 : tiF Try.prog 12 = some ⟨false, 1, 8, [.int .u64 0]⟩ := by kernel_rfl
@[simp] theorem tb_un12 : (Try.prog.underlying 12).isSome = true := by kernel_rfl
@[simp] theorem tb_ti13 : tiF Try.prog 13 = some ⟨true, 2, 24, [.string ⟨#[]⟩, .int .u64 0]⟩ := by kernel_rfl
@[simp] theorem tb_un13 : (Try.prog.underlying 13).isSome = true := by kernel_rfl
@[simp] theorem tb_ti14 : tiF Try.prog 14 = some ⟨true, 2, 24, [.string ⟨#[]⟩, .int .u64 0]⟩ := by kernel_rfl
@[simp] theorem tb_un14 : (Try.prog.underlying 14).isSome = true := by kernel_rfl
@[simp] theorem tb_ti15 : tiF Try.prog 15 = some ⟨false, 1, 8, [.pointer none]⟩ := by kernel_rfl
@[simp] theorem tb_un15 : (Try.prog.underlying 15).isSome = true := by kernel_rfl
@[simp] theorem tb_ti16 : tiF Try.prog 16 = some ⟨false, 1, 8, [.pointer none]⟩ := by kernel_rfl
@[simp] theorem tb_un16 : (Try.prog.underlying 16).isSome = true := by kernel_rfl
@[simp] theorem tb_ti17 : tiF Try.prog 17 = some ⟨false, 1, 8, [.pointer none]⟩ := by kernel_rfl
@[simp] theorem tb_un17 : (Try.prog.underlying 17).isSome = true := by kernel_rfl
@[simp] theorem tb_ti18 : tiF Try.prog 18 = some ⟨true, 1, 8, [.pointer none]⟩ := by kernel_rfl
@[simp] theorem tb_un18 : (Try.prog.underlying 18).isSome = true := by kernel_rfl
@[simp] theorem tb_ti19 : tiF Try.prog 19 = some ⟨true, 1, 8, [.pointer none]⟩ := by kernel_rfl
@[simp] theorem tb_un19 : (Try.prog.underlying 19).isSome = true := by kernel_rfl
@[simp] theorem tb_ti20 : tiF Try.prog 20 = some ⟨false, 1, 16, [.nilIface]⟩ := by kernel_rfl
@[simp] theorem tb_un20 : (Try.prog.underlying 20).isSome = true := by kernel_rfl
@[simp] theorem tb_ti21 : tiF Try.prog 21 = some ⟨false, 1, 4, [.int .i32 0]⟩ := by kernel_rfl
@[simp] theorem tb_un21 : (Try.prog.underlying 21).isSome = true := by kernel_rfl
@[simp] theorem tb_ti22 : tiF Try.prog 22 = some ⟨false, 1, 24, [.slice none 0 0]⟩ := by kernel_rfl
@[simp] theorem tb_un22 : (Try.prog.underlying 22).isSome = true := by kernel_rfl
@[simp] theorem tb_ti23 : tiF Try.prog 23 = some ⟨false, 1, 8, [.nilFunc]⟩ := by kernel_rfl
@[simp] theorem tb_un23 : (Try.prog.underlying 23).isSome = true := by kernel_rfl
@[simp] theorem tb_ti24 : tiF Try.prog 24 = some ⟨false, 1, 24, [.slice none 0 0]⟩ := by kernel_rfl
@[simp] theorem tb_un24 : (Try.prog.underlying 24).isSome = true := by kernel_rfl
@[simp] theorem tb_ti25 : tiF Try.prog 25 = some ⟨false, 1, 24, [.slice none 0 0]⟩ := by kernel_rfl
@[simp] theorem tb_un25 : (Try.prog.underlying 25).isSome = true := by kernel_rfl
@[simp] theorem tb_ti26 : tiF Try.prog 26 = some ⟨false, 1, 24, [.slice none 0 0]⟩ := by kernel_rfl
@[simp] theorem tb_un26 : (Try.prog.underlying 26).isSome = true := by kernel_rfl
@[simp] theorem tb_ti27 : tiF Try.prog 27 = some ⟨false, 1, 24, [.slice none 0 0]⟩ := by kernel_rfl
@[simp] theorem tb_un27 : (Try.prog.underlying 27).isSome = true := by kernel_rfl
@[simp] theorem tb_ti28 : tiF Try.prog 28 = some ⟨true, 2, 16, [.int .i64 0, .int .i64 0]⟩ := by kernel_rfl
@[simp] theorem tb_un28 : (Try.prog.underlying 28).isSome = true := by kernel_rfl
@[simp] theorem tb_ti29 : tiF Try.prog 29 = some ⟨true, 2, 16, [.int .i64 0, .int .i64 0]⟩ := by kernel_rfl
@[simp] theorem tb_un29 : (Try.prog.underlying 29).isSome = true := by kernel_rfl
@[simp] theorem tb_ti30 : tiF Try.prog 30 = some ⟨false, 1, 24, [.slice none 0 0]⟩ := by kernel_rfl
@[simp] theorem tb_un30 : (Try.prog.underlying 30).isSome = true := by kernel_rfl
@[simp] theorem tb_ti31 : tiF Try.prog 31 = some ⟨true, 7, 72, [.int .i64 0, .int .i64 0, .int .i64 0, .slice none 0 0, .int .i64 0, .int .i64 0, .int .i64 0]⟩ := by kernel_rfl
@[simp] theorem tb_un31 : (Try.prog.underlying 31).isSome = true := by kernel_rfl
@[simp] theorem tb_ti32 : tiF Try.prog 32 = some ⟨true, 7, 72, [.int .i64 0, .int .i64 0, .int .i64 0, .slice none 0 0, .int .i64 0, .int .i64 0, .int .i64 0]⟩ := by kernel_rfl
@[simp] theorem tb_un32 : (Try.prog.underlying 32).isSome = true := by kernel_rfl
@[simp] theorem tb_ti33 : tiF Try.prog 33 = some ⟨false, 1, 24, [.slice none 0 0]⟩ := by kernel_rfl
@[simp] theorem tb_un33 : (Try.prog.underlying 33).isSome = true := by kernel_rfl
@[simp] theorem tb_ti34 : tiF Try.prog 34 = some ⟨false, 1, 24, [.slice none 0 0]⟩ := by kernel_rfl
@[simp] theorem tb_un34 : (Try.prog.underlying 34).isSome = true := by kernel_rfl
@[simp] theorem tb_ti35 : tiF Try.prog 35 = some ⟨true, 2, 48, [.slice none 0 0, .slice none 0 0]⟩ := by kernel_rfl
@[simp] theorem tb_un35 : (Try.prog.underlying 35).isSome = true := by kernel_rfl
@[simp] theorem tb_ti36 : tiF Try.prog 36 = some ⟨true, 2, 48, [.slice none 0 0, .slice none 0 0]⟩ := by kernel_rfl
@[simp] theorem tb_un36 : (Try.prog.underlying 36).isSome = true := by kernel_rfl
@[simp] theorem tb_ti37 : tiF Try.prog 37 = some ⟨true, 22, 304, [.int .i64 0, .int .i64 0, .int .i64 0, .int .i64 0, .int .i64 0, .slice none 0 0, .slice none 0 0, .slice none 0 0, .int .i64 0, .slice none 0 0, .int .i64 0, .int .i64 0, .int .i64 0, .slice none 0 0, .int .i64 0, .int .i64 0, .int .i64 0, .slice none 0 0, .slice none 0 0, .int .i64 0, .slice none 0 0, .int .i64 0]⟩ := by kernel_rfl
@[simp] theorem tb_un37 : (Try.prog.underlying 37).isSome = true := by kernel_rfl
@[simp] theorem tb_ti38 : tiF Try.prog 38 = some ⟨true, 22, 304, [.int .i64 0, .int .i64 0, .int .i64 0, .int .i64 0, .int .i64 0, .slice none 0 0, .slice none 0 0, .slice none 0 0, .int .i64 0, .slice none 0 0, .int .i64 0, .int .i64 0, .int .i64 0, .slice none 0 0, .int .i64 0, .int .i64 0, .int .i64 0, .slice none 0 0, .slice none 0 0, .int .i64 0, .slice none 0 0, .int .i64 0]⟩ := by kernel_rfl
@[simp] theorem tb_un38 : (Try.prog.underlying 38).isSome = true := by kernel_rfl
@[simp] theorem tb_ti39 : tiF Try.prog 39 = some ⟨false, 1, 8, [.nilFunc]⟩ := by kernel_rfl
@[simp] theorem tb_un39 : (Try.prog.underlying 39).isSome = true := by kernel_rfl
@[simp] theorem tb_ti40 : tiF Try.prog 40 = some ⟨false, 1, 8, [.nilFunc]⟩ := by kernel_rfl
@[simp] theorem tb_un40 : (Try.prog.underlying 40).isSome = true := by kernel_rfl
@[simp] theorem tb_ti41 : tiF Try.prog 41 = some ⟨false, 1, 24, [.slice none 0 0]⟩ := by kernel_rfl
@[simp] theorem tb_un41 : (Try.prog.underlying 41).isSome = true := by kernel_rfl
@[simp] theorem tb_ti43 : tiF Try.prog 43 = some ⟨false, 1, 8, [.nilFunc]⟩ := by kernel_rfl
@[simp] theorem tb_un43 : (Try.prog.underlying 43).isSome = true := by kernel_rfl
@[simp] theorem tb_ti44 : tiF Try.prog 44 = some ⟨true, 15, 168, [.int .i64 0, .int .i64 0, .int .i64 0, .int .i64 0, .slice none 0 0, .slice none 0 0, .int .i64 0, .int .i64 0, .int .i64 0, .int .i64 0, .int .i64 0, .int .i64 0, .int .i64 0, .int .i64 0, .slice none 0 0]⟩ := by kernel_rfl
@[simp] theorem tb_un44 : (Try.prog.underlying 44).isSome = true := by kernel_rfl
@[simp] theorem tb_ti45 : tiF Try.prog 45 = some ⟨true, 15, 168, [.int .i64 0, .int .i64 0, .int .i64 0, .int .i64 0, .slice none 0 0, .slice none 0 0, .int .i64 0, .int .i64 0, .int .i64 0, .int .i64 0, .int .i64 0, .int .i64 0, .int .i64 0, .int .i64 0, .slice none 0 0]⟩ := by kernel_rfl
@[simp] theorem tb_un45 : (Try.prog.underlying 45).isSome = true := by kernel_rfl
@[simp] theorem tb_ti46 : tiF Try.prog 46 = some ⟨false, 1, 8, [.nilFunc]⟩ := by kernel_rfl
@[simp] theorem tb_un46 : (Try.prog.underlying 46).isSome = true := by kernel_rfl
@[simp] theorem tb_ti47 : tiF Try.prog 47 = some ⟨false, 1, 8, [.nilFunc]⟩ := by kernel_rfl
@[simp] theorem tb_un47 : (Try.prog.underlying 47).isSome = true := by kernel_rfl
@[simp] theorem tb_ti48 : tiF Try.prog 48 = some ⟨false, 1, 8, [.nilFunc]⟩ := by kernel_rfl
@[simp] theorem tb_un48 : (Try.prog.underlying 48).isSome = true := by kernel_rfl
@[simp] theorem tb_ti49 : tiF Try.prog 49 = some ⟨false, 1, 24, [.slice none 0 0]⟩ := by kernel_rfl
@[simp] theorem tb_un49 : (Try.prog.underlying 49).isSome = true := by kernel_rfl
@[simp] theorem tb_ti50 : tiF Try.prog 50 = some ⟨false, 1, 8, [.nilFunc]⟩ := by kernel_rfl
@[simp] theorem tb_un50 : (Try.prog.underlying 50).isSome = true := by kernel_rfl
@[simp] theorem tb_ti51 : tiF Try.prog 51 = some ⟨false, 1, 8, [.nilFunc]⟩ := by kernel_rfl
@[simp] theorem tb_un51 : (Try.prog.underlying 51).isSome = true := by kernel_rfl
@[simp] theorem tb_ti52 : tiF Try.prog 52 = some ⟨false, 1, 24, [.slice none 0 0]⟩ := by kernel_rfl
@[simp] theorem tb_un52 : (Try.prog.underlying 52).isSome = true := by kernel_rfl
@[simp] theorem tb_ti53 : tiF Try.prog 53 = some ⟨false, 1, 8, [.nilFunc]⟩ := by kernel_rfl
@[simp] theorem tb_un53 : (Try.prog.underlying 53).isSome = true := by kernel_rfl
@[simp] theorem tb_ti55 : tiF Try.prog 55 = some ⟨false, 1, 8, [.nilFunc]⟩ := by kernel_rfl
@[simp] theorem tb_un55 : (Try.prog.underlying 55).isSome = true := by kernel_rfl
@[simp] theorem tb_ti56 : tiF Try.prog 56 = some ⟨false, 1, 8, [.nilFunc]⟩ := by kernel_rfl
@[simp] theorem tb_un56 : (Try.prog.underlying 56).isSome = true := by kernel_rfl
@[simp] theorem tb_ti57 : tiF Try.prog 57 = some ⟨false, 1, 8, [.nilFunc]⟩ := by kernel_rfl
@[simp] theorem tb_un57 : (Try.prog.underlying 57).isSome = true := by kernel_rfl
@[simp] theorem tb_ti58 : tiF Try.prog 58 = some ⟨false, 1, 24, [.slice none 0 0]⟩ := by kernel_rfl
@[simp] theorem tb_un58 : (Try.prog.underlying 58).isSome = true := by kernel_rfl
@[simp] theorem tb_ti59 : tiF Try.prog 59 = some ⟨false, 1, 8, [.nilFunc]⟩ := by kernel_rfl
@[simp] theorem tb_un59 : (Try.prog.underlying 59).isSome = true := by kernel_rfl
@[simp] theorem tb_ti60 : tiF Try.prog 60 = some ⟨false, 1, 8, [.nilFunc]⟩ := by kernel_rfl
@[simp] theorem tb_un60 : (Try.prog.underlying 60).isSome = true := by kernel_rfl
@[simp] theorem tb_ti61 : tiF Try.prog 61 = some ⟨false, 1, 8, [.nilFunc]⟩ := by kernel_rfl
@[simp] theorem tb_un61 : (Try.prog.underlying 61).isSome = true := by kernel_rfl
@[simp] theorem tb_ti62 : tiF Try.prog 62 = some ⟨true, 4, 32, [.int .i64 0, .int .i64 0, .int .i64 0, .int .i64 0]⟩ := by kernel_rfl
@[simp] theorem tb_un62 : (Try.prog.underlying 62).isSome = true := by kernel_rfl
@[simp] theorem tb_ti63 : tiF Try.prog 63 = some ⟨true, 4, 32, [.int .i64 0, .int .i64 0, .int .i64 0, .int .i64 0]⟩ := by kernel_rfl
@[simp] theorem tb_un63 : (Try.prog.underlying 63).isSome = true := by kernel_rfl
@[simp] theorem tb_ti64 : tiF Try.prog 64 = some ⟨false, 1, 8, [.nilFunc]⟩ := by kernel_rfl
@[simp] theorem tb_un64 : (Try.prog.underlying 64).isSome = true := by kernel_rfl
@[simp] theorem tb_ti65 : tiF Try.prog 65 = some ⟨false, 1, 8, [.nilFunc]⟩ := by kernel_rfl
@[simp] theorem tb_un65 : (Try.prog.underlying 65).isSome = true := by kernel_rfl
@[simp] theorem tb_ti66 : tiF Try.prog 66 = some ⟨false, 1, 8, [.nilFunc]⟩ := by kernel_rfl
@[simp] theorem tb_un66 : (Try.prog.underlying 66).isSome = true := by kernel_rfl
@[simp] theorem tb_ti67 : tiF Try.prog 67 = some ⟨false, 1, 8, [.nilFunc]⟩ := by kernel_rfl
@[simp] theorem tb_un67 : (Try.prog.underlying 67).isSome = true := by kernel_rfl
@[simp] theorem tb_ti68 : tiF Try.prog 68 = some ⟨false, 1, 8, [.nilFunc]⟩ := by kernel_rfl
@[simp] theorem tb_un68 : (Try.prog.underlying 68).isSome = true := by kernel_rfl
@[simp] theorem tb_ti69 : tiF Try.prog 69 = some ⟨false, 1, 8, [.nilFunc]⟩ := by kernel_rfl
@[simp] theorem tb_un69 : (Try.prog.underlying 69).isSome = true := by kernel_rfl
@[simp] theorem tb_ti70 : tiF Try.prog 70 = some ⟨true, 2, 16, [.int .i64 0, .int .i64 0]⟩ := by kernel_rfl
@[simp] theorem tb_un70 : (Try.prog.underlying 70).isSome = true := by kernel_rfl
@[simp] theorem tb_ti71 : tiF Try.prog 71 = some ⟨true, 2, 16, [.int .i64 0, .int .i64 0]⟩ := by kernel_rfl
@[simp] theorem tb_un71 : (Try.prog.underlying 71).isSome = true := by kernel_rfl
@[simp] theorem tb_ti73 : tiF Try.prog 73 = some ⟨false, 1, 8, [.nilFunc]⟩ := by kernel_rfl
@[simp] theorem tb_un73 : (Try.prog.underlying 73).isSome = true := by kernel_rfl
@[simp] theorem tb_ti74 : tiF Try.prog 74 = some ⟨false, 1, 8, [.nilFunc]⟩ := by kernel_rfl
@[simp] theorem tb_un74 : (Try.prog.underlying 74).isSome = true := by kernel_rfl
@[simp] theorem tb_ti75 : tiF Try.prog 75 = some ⟨false, 1, 8, [.nilFunc]⟩ := by kernel_rfl
@[simp] theorem tb_un75 : (Try.prog.underlying 75).isSome = true := by kernel_rfl
@[simp] theorem tb_ti76 : tiF Try.prog 76 = some ⟨false, 1, 8, [.nilFunc]⟩ := by kernel_rfl
@[simp] theorem tb_un76 : (Try.prog.underlying 76).isSome = true := by kernel_rfl
@[simp] theorem tb_ti77 : tiF Try.prog 77 = some ⟨false, 1, 8, [.nilFunc]⟩ := by kernel_rfl
@[simp] theorem tb_un77 : (Try.prog.underlying 77).isSome = true := by kernel_rfl
@[simp] theorem tb_ti79 : tiF Try.prog 79 = some ⟨false, 1, 8, [.nilFunc]⟩ := by kernel_rfl
@[simp] theorem tb_un79 : (Try.prog.underlying 79).isSome = true := by kernel_rfl
@[simp] theorem tb_ti80 : tiF Try.prog 80 = some ⟨false, 1, 8, [.nilFunc]⟩ := by kernel_rfl
@[simp] theorem tb_un80 : (Try.prog.underlying 80).isSome = true := by kernel_rfl
@[simp] theorem tb_ti81 : tiF Try.prog 81 = some ⟨false, 1, 8, [.nilFunc]⟩ := by kernel_rfl
@[simp] theorem tb_un81 : (Try.prog.underlying 81).isSome = true := by kernel_rfl
@[simp] theorem tb_ti82 : tiF Try.prog 82 = some ⟨false, 1, 8, [.nilFunc]⟩ := by kernel_rfl
@[simp] theorem tb_un82 : (Try.prog.underlying 82).isSome = true := by kernel_rfl
@[simp] theorem tb_ti83 : tiF Try.prog 83 = some ⟨true, 4, 40, [.int .i64 0, .int .i64 0, .int .i64 0, .string ⟨#[]⟩]⟩ := by kernel_rfl
@[simp] theorem tb_un83 : (Try.prog.underlying 83).isSome = true := by kernel_rfl
@[simp] theorem tb_ti84 : tiF Try.prog 84 = some ⟨true, 4, 40, [.int .i64 0, .int .i64 0, .int .i64 0, .string ⟨#[]⟩]⟩ := by kernel_rfl
@[simp] theorem tb_un84 : (Try.prog.underlying 84).isSome = true := by kernel_rfl
@[simp] theorem tb_ti85 : tiF Try.prog 85 = some ⟨false, 1, 8, [.nilFunc]⟩ := by kernel_rfl
@[simp] theorem tb_un85 : (Try.prog.underlying 85).isSome = true := by kernel_rfl
@[simp] theorem tb_ti86 : tiF Try.prog 86 = some ⟨true, 3, 24, [.int .i64 0, .int .i64 0, .int .i64 0]⟩ := by kernel_rfl
@[simp] theorem tb_un86 : (Try.prog.underlying 86).isSome = true := by kernel_rfl
@[simp] theorem tb_ti87 : tiF Try.prog 87 = some ⟨true, 3, 24, [.int .i64 0, .int .i64 0, .int .i64 0]⟩ := by kernel_rfl
@[simp] theorem tb_un87 : (Try.prog.underlying 87).isSome = true := by kernel_rfl
@[simp] theorem tb_ti88 : tiF Try.prog 88 = some ⟨false, 1, 8, [.nilFunc]⟩ := by kernel_rfl
@[simp] theorem tb_un88 : (Try.prog.underlying 88).isSome = true := by kernel_rfl
@[simp] theorem tb_ti89 : tiF Try.prog 89 = some ⟨false, 1, 8, [.nilFunc]⟩ := by kernel_rfl
@[simp] theorem tb_un89 : (Try.prog.underlying 89).isSome = true := by kernel_rfl
@[simp] theorem tb_ti90 : tiF Try.prog 90 = some ⟨false, 1, 24, [.slice none 0 0]⟩ := by kernel_rfl
@[simp] theorem tb_un90 : (Try.prog.underlying 90).isSome = true := by kernel_rfl
@[simp] theorem tb_ti91 : tiF Try.prog 91 = some ⟨false, 1, 24, [.slice none 0 0]⟩ := by kernel_rfl
@[simp] theorem tb_un91 : (Try.prog.underlying 91).isSome = true := by kernel_rfl
@[simp] theorem tb_ti92 : tiF Try.prog 92 = some ⟨true, 5, 80, [.int .i64 0, .string ⟨#[]⟩, .slice none 0 0, .slice none 0 0, .int .i64 0]⟩ := by kernel_rfl
@[simp] theorem tb_un92 : (Try.prog.underlying 92).isSome = true := by kernel_rfl
@[simp] theorem tb_ti93 : tiF Try.prog 93 = some ⟨true, 5, 80, [.int .i64 0, .string ⟨#[]⟩, .slice none 0 0, .slice none 0 0, .int .i64 0]⟩ := by kernel_rfl
@[simp] theorem tb_un93 : (Try.prog.underlying 93).isSome = true := by kernel_rfl
@[simp] theorem tb_ti94 : tiF Try.prog 94 = some ⟨true, 6, 96, [.string ⟨#[]⟩, .int .i64 0, .string ⟨#[]⟩, .slice none 0 0, .slice none 0 0, .int .i64 0]⟩ := by kernel_rfl
@[simp] theorem tb_un94 : (Try.prog.underlying 94).isSome = true := by kernel_rfl
@[simp] theorem tb_ti95 : tiF Try.prog 95 = some ⟨true, 6, 96, [.string ⟨#[]⟩, .int .i64 0, .string ⟨#[]⟩, .slice none 0 0, .slice none 0 0, .int .i64 0]⟩ := by kernel_rfl
@[simp] theorem tb_un95 : (Try.prog.underlying 95).isSome = true := by kernel_rfl
@[simp] theorem tb_ti96 : tiF Try.prog 96 = some ⟨false, 1, 8, [.nilFunc]⟩ := by kernel_rfl
@[simp] theorem tb_un96 : (Try.prog.underlying 96).isSome = true := by kernel_rfl
@[simp] theorem tb_ti97 : tiF Try.prog 97 = some ⟨true, 7, 104, [.string ⟨#[]⟩, .bool false, .int .i64 0, .string ⟨#[]⟩, .slice none 0 0, .slice none 0 0, .int .i64 0]⟩ := by kernel_rfl
@[simp] theorem tb_un97 : (Try.prog.underlying 97).isSome = true := by kernel_rfl
@[simp] theorem tb_ti98 : tiF Try.prog 98 = some ⟨true, 7, 104, [.string ⟨#[]⟩, .bool false, .int .i64 0, .string ⟨#[]⟩, .slice none 0 0, .slice none 0 0, .int .i64 0]⟩ := by kernel_rfl
@[simp] theorem tb_un98 : (Try.prog.underlying 98).isSome = true := by kernel_rfl
@[simp] theorem tb_ti99 : tiF Try.prog 99 = some ⟨false, 1, 8, [.nilFunc]⟩ := by kernel_rfl
@[simp] theorem tb_un99 : (Try.prog.underlying 99).isSome = true := by kernel_rfl
@[simp] theorem tb_ti100 : tiF Try.prog 100 = some ⟨false, 1, 8, [.nilFunc]⟩ := by kernel_rfl
@[simp] theorem tb_un100 : (Try.prog.underlying 100).isSome = true := by kernel_rfl
@[simp] theorem tb_ti101 : tiF Try.prog 101 = some ⟨false, 1, 8, [.nilFunc]⟩ := by kernel_rfl
@[simp] theorem tb_un101 : (Try.prog.underlying 101).isSome = true := by kernel_rfl
@[simp] theorem tb_ti102 : tiF Try.prog 102 = some ⟨false, 1, 8, [.nilFunc]⟩ := by kernel_rfl
@[simp] theorem tb_un102 : (Try.prog.underlying 102).isSome = true := by kernel_rfl
@[simp] theorem tb_ti103 : tiF Try.prog 103 = some ⟨false, 1, 8, [.nilFunc]⟩ := by kernel_rfl
@[simp] theorem tb_un103 : (Try.prog.underlying 103).isSome = true := by kernel_rfl
@[simp] theorem tb_ti104 : tiF Try.prog 104 = some ⟨false, 1, 8, [.nilFunc]⟩ := by kernel_rfl
@[simp] theorem tb_un104 : (Try.prog.underlying 104).isSome = true := by kernel_rfl
@[simp] theorem tb_ti105 : tiF Try.prog 105 = some ⟨false, 1, 8, [.int .u64 0]⟩ := by kernel_rfl
@[simp] theorem tb_un105 : (Try.prog.underlying 105).isSome = true := by kernel_rfl
@[simp] theorem tb_ti106 : tiF Try.prog 106 = some ⟨false, 1, 8, [.nilFunc]⟩ := by kernel_rfl
@[simp] theorem tb_un106 : (Try.prog.underlying 106).isSome = true := by kernel_rfl
@[simp] theorem tb_ti107 : tiF Try.prog 107 = some ⟨false, 1, 8, [.nilFunc]⟩ := by kernel_rfl
@[simp] theorem tb_un107 : (Try.prog.underlying 107).isSome = true := by kernel_rfl
@[simp] theorem tb_ti108 : tiF Try.prog 108 = some ⟨false, 1, 8, [.nilFunc]⟩ := by kernel_rfl
@[simp] theorem tb_un108 : (Try.prog.underlying 108).isSome = true := by kernel_rfl
@[simp] theorem tb_ti109 : tiF Try.prog 109 = some ⟨false, 1, 8, [.nilFunc]⟩ := by kernel_rfl
@[simp] theorem tb_un109 : (Try.prog.underlying 109).isSome = true := by kernel_rfl
@[simp] theorem tb_ti110 : tiF Try.prog 110 = some ⟨false, 1, 8, [.nilFunc]⟩ := by kernel_rfl
@[simp] theorem tb_un110 : (Try.prog.underlying 110).isSome = true := by kernel_rfl
@[simp] theorem tb_ti111 : tiF Try.prog 111 = some ⟨true, 2, 32, [.string ⟨#[]⟩, .string ⟨#[]⟩]⟩ := by kernel_rfl
@[simp] theorem tb_un111 : (Try.prog.underlying 111).isSome = true := by kernel_rfl
@[simp] theorem tb_ti112 : tiF Try.prog 112 = some ⟨true, 2, 32, [.string ⟨#[]⟩, .string ⟨#[]⟩]⟩ := by kernel_rfl
@[simp] theorem tb_un112 : (Try.prog.underlying 112).isSome = true := by kernel_rfl
@[simp] theorem tb_ti113 : tiF Try.prog 113 = some ⟨false, 1, 8, [.nilFunc]⟩ := by kernel_rfl
@[simp] theorem tb_un113 : (Try.prog.underlying 113).isSome = true := by kernel_rfl
@[simp] theorem tb_ti114 : tiF Try.prog 114 = some ⟨false, 1, 8, [.nilFunc]⟩ := by kernel_rfl
@[simp] theorem tb_un114 : (Try.prog.underlying 114).isSome = true := by kernel_rfl
@[simp] theorem tb_ti115 : tiF Try.prog 115 = some ⟨false, 1, 8, [.nilFunc]⟩ := by kernel_rfl
@[simp] theorem tb_un115 : (Try.prog.underlying 115).isSome = true := by kernel_rfl
@[simp] theorem tb_ti116 : tiF Try.prog 116 = some ⟨false, 1, 8, [.nilFunc]⟩ := by kernel_rfl
@[simp] theorem tb_un116 : (Try.prog.underlying 116).isSome = true := by kernel_rfl
@[simp] theorem tb_ti117 : tiF Try.prog 117 = some ⟨false, 1, 8, [.nilFunc]⟩ := by kernel_rfl
@[simp] theorem tb_un117 : (Try.prog.underlying 117).isSome = true := by kernel_rfl
@[simp] theorem tb_ti118 : tiF Try.prog 118 = some ⟨false, 1, 8, [.nilFunc]⟩ := by kernel_rfl
@[simp] theorem tb_un118 : (Try.prog.underlying 118).isSome = true := by kernel_rfl
@[simp] theorem tb_ti119 : tiF Try.prog 119 = some ⟨false, 1, 8, [.nilFunc]⟩ := by kernel_rfl
@[simp] theorem tb_un119 : (Try.prog.underlying 119).isSome = true := by kernel_rfl
@[simp] theorem tb_ti120 : tiF Try.prog 120 = some ⟨false, 1, 8, [.nilFunc]⟩ := by kernel_rfl
@[simp] theorem tb_un120 : (Try.prog.underlying 120).isSome = true := by kernel_rfl
@[simp] theorem tb_ti121 : tiF Try.prog 121 = some ⟨true, 8, 64, [.int .i64 0, .int .i64 0, .int .i64 0, .int .i64 0, .int .i64 0, .int .i64 0, .int .i64 0, .int .i64 0]⟩ := by kernel_rfl
@[simp] theorem tb_un121 : (Try.prog.underlying 121).isSome = true := by kernel_rfl
@[simp] theorem tb_ti122 : tiF Try.prog 122 = some ⟨true, 8, 64, [.int .i64 0, .int .i64 0, .int .i64 0, .int .i64 0, .int .i64 0, .int .i64 0, .int .i64 0, .int .i64 0]⟩ := by kernel_rfl
@[simp] theorem tb_un122 : (Try.prog.underlying 122).isSome = true := by kernel_rfl
@[simp] theorem tb_ti123 : tiF Try.prog 123 = some ⟨false, 1, 8, [.nilFunc]⟩ := by kernel_rfl
@[simp] theorem tb_un123 : (Try.prog.underlying 123).isSome = true := by kernel_rfl
@[simp] theorem tb_ti124 : tiF Try.prog 124 = some ⟨false, 1, 8, [.int .i64 0]⟩ := by kernel_rfl
@[simp] theorem tb_un124 : (Try.prog.underlying 124).isSome = true := by kernel_rfl
@[simp] theorem tb_ti126 : tiF Try.prog 126 = some ⟨false, 1, 8, [.nilFunc]⟩ := by kernel_rfl
@[simp] theorem tb_un126 : (Try.prog.underlying 126).isSome = true := by kernel_rfl
@[simp] theorem tb_ti127 : tiF Try.prog 127 = some ⟨false, 1, 8, [.nilFunc]⟩ := by kernel_rfl
@[simp] theorem tb_un127 : (Try.prog.underlying 127).isSome = true := by kernel_rfl
@[simp] theorem tb_ti128 : tiF Try.prog 128 = some ⟨false, 1, 8, [.nilFunc]⟩ := by kernel_rfl
@[simp] theorem tb_un128 : (Try.prog.underlying 128).isSome = true := by kernel_rfl
@[simp] theorem tb_ti129 : tiF Try.prog 129 = some ⟨false, 1, 8, [.nilFunc]⟩ := by kernel_rfl
@[simp] theorem tb_un129 : (Try.prog.underlying 129).isSome = true := by kernel_rfl
@[simp] theorem tb_ti130 : tiF Try.prog 130 = some ⟨false, 1, 8, [.nilFunc]⟩ := by kernel_rfl
@[simp] theorem tb_un130 : (Try.prog.underlying 130).isSome = true := by kernel_rfl
@[simp] theorem tb_ti131 : tiF Try.prog 131 = some ⟨false, 1, 4, [.int .u32 0]⟩ := by kernel_rfl
@[simp] theorem tb_un131 : (Try.prog.underlying 131).isSome = true := by kernel_rfl
@[simp] theorem tb_ti132 : tiF Try.prog 132 = some ⟨false, 1, 8, [.nilFunc]⟩ := by kernel_rfl
@[simp] theorem tb_un132 : (Try.prog.underlying 132).isSome = true := by kernel_rfl
@[simp] theorem tb_ti133 : tiF Try.prog 133 = some ⟨false, 1, 8, [.int .u64 0]⟩ := by kernel_rfl
@[simp] theorem tb_un133 : (Try.prog.underlying 133).isSome = true := by kernel_rfl
@[simp] theorem tb_ti134 : tiF Try.prog 134 = some ⟨false, 1, 8, [.nilFunc]⟩ := by kernel_rfl
@[simp] theorem tb_un134 : (Try.prog.underlying 134).isSome = true := by kernel_rfl
@[simp] theorem tb_ti136 : tiF Try.prog 136 = some ⟨false, 1, 8, [.nilFunc]⟩ := by kernel_rfl
@[simp] theorem tb_un136 : (Try.prog.underlying 136).isSome = true := by kernel_rfl
@[simp] theorem tb_ti137 : tiF Try.prog 137 = some ⟨false, 1, 8, [.nilFunc]⟩ := by kernel_rfl
@[simp] theorem tb_un137 : (Try.prog.underlying 137).isSome = true := by kernel_rfl
@[simp] theorem tb_ti138 : tiF Try.prog 138 = some ⟨false, 1, 8, [.int .u64 0]⟩ := by kernel_rfl
@[simp] theorem tb_un138 : (Try.prog.underlying 138).isSome = true := by kernel_rfl
@[simp] theorem tb_ti139 : tiF Try.prog 139 = some ⟨false, 1, 8, [.nilFunc]⟩ := by kernel_rfl
@[simp] theorem tb_un139 : (Try.prog.underlying 139).isSome = true := by kernel_rfl
@[simp] theorem tb_ti140 : tiF Try.prog 140 = some ⟨false, 1, 8, [.nilFunc]⟩ := by kernel_rfl
@[simp] theorem tb_un140 : (Try.prog.underlying 140).isSome = true := by kernel_rfl
@[simp] theorem tb_ti141 : tiF Try.prog 141 = some ⟨false, 1, 8, [.nilFunc]⟩ := by kernel_rfl
@[simp] theorem tb_un141 : (Try.prog.underlying 141).isSome = true := by kernel_rfl
@[simp] theorem tb_ti142 : tiF Try.prog 142 = some ⟨false, 1, 8, [.pointer none]⟩ := by kernel_rfl
@[simp] theorem tb_un142 : (Try.prog.underlying 142).isSome = true := by kernel_rfl
@[simp] theorem tb_ti143 : tiF Try.prog 143 = some ⟨false, 1, 8, [.nilFunc]⟩ := by kernel_rfl
@[simp] theorem tb_un143 : (Try.prog.underlying 143).isSome = true := by kernel_rfl
@[simp] theorem tb_ti144 : tiF Try.prog 144 = some ⟨false, 1, 8, [.nilFunc]⟩ := by kernel_rfl
@[simp] theorem tb_un144 : (Try.prog.underlying 144).isSome = true := by kernel_rfl
@[simp] theorem tb_ti145 : tiF Try.prog 145 = some ⟨false, 1, 8, [.nilFunc]⟩ := by kernel_rfl
@[simp] theorem tb_un145 : (Try.prog.underlying 145).isSome = true := by kernel_rfl
@[simp] theorem tb_ti146 : tiF Try.prog 146 = some ⟨false, 1, 8, [.nilFunc]⟩ := by kernel_rfl
@[simp] theorem tb_un146 : (Try.prog.underlying 146).isSome = true := by kernel_rfl
@[simp] theorem tb_ti147 : tiF Try.prog 147 = some ⟨false, 1, 8, [.pointer none]⟩ := by kernel_rfl
@[simp] theorem tb_un147 : (Try.prog.underlying 147).isSome = true := by kernel_rfl
@[simp] theorem tb_ti148 : tiF Try.prog 148 = some ⟨false, 1, 8, [.nilFunc]⟩ := by kernel_rfl
@[simp] theorem tb_un148 : (Try.prog.underlying 148).isSome = true := by kernel_rfl
@[simp] theorem tb_ti149 : tiF Try.prog 149 = some ⟨false, 1, 8, [.nilFunc]⟩ := by kernel_rfl
@[simp] theorem tb_un149 : (Try.prog.underlying 149).isSome = true := by kernel_rfl
@[simp] theorem tb_ti150 : tiF Try.prog 150 = some ⟨false, 1, 8, [.nilFunc]⟩ := by kernel_rfl
@[simp] theorem tb_un150 : (Try.prog.underlying 150).isSome = true := by kernel_rfl
@[simp] theorem tb_ti151 : tiF Try.prog 151 = some ⟨false, 1, 8, [.nilFunc]⟩ := by kernel_rfl
@[simp] theorem tb_un151 : (Try.prog.underlying 151).isSome = true := by kernel_rfl
@[simp] theorem tb_ti152 : tiF Try.prog 152 = some ⟨false, 1, 8, [.nilFunc]⟩ := by kernel_rfl
@[simp] theorem tb_un152 : (Try.prog.underlying 152).isSome = true := by kernel_rfl
@[simp] theorem tb_ti153 : tiF Try.prog 153 = some ⟨false, 1, 8, [.nilFunc]⟩ := by kernel_rfl
@[simp] theorem tb_un153 : (Try.prog.underlying 153).isSome = true := by kernel_rfl
@[simp] theorem tb_ti154 : tiF Try.prog 154 = some ⟨false, 1, 8, [.nilFunc]⟩ := by kernel_rfl
@[simp] theorem tb_un154 : (Try.prog.underlying 154).isSome = true := by kernel_rfl
@[simp] theorem tb_ti155 : tiF Try.prog 155 = some ⟨false, 1, 8, [.nilFunc]⟩ := by kernel_rfl
@[simp] theorem tb_un155 : (Try.prog.underlying 155).isSome = true := by kernel_rfl
@[simp] theorem tb_ti156 : tiF Try.prog 156 = some ⟨false, 1, 8, [.nilFunc]⟩ := by kernel_rfl
@[simp] theorem tb_un156 : (Try.prog.underlying 156).isSome = true := by kernel_rfl
@[simp] theorem tb_ti157 : tiF Try.prog 157 = some ⟨false, 1, 8, [.nilFunc]⟩ := by kernel_rfl
@[simp] theorem tb_un157 : (Try.prog.underlying 157).isSome = true := by kernel_rfl
@[simp] theorem tb_ti158 : tiF Try.prog 158 = some ⟨false, 1, 8, [.nilFunc]⟩ := by kernel_rfl
@[simp] theorem tb_un158 : (Try.prog.underlying 158).isSome = true := by kernel_rfl
@[simp] theorem tb_ti159 : tiF Try.prog 159 = some ⟨true, 4, 40, [.pointer none, .pointer none, .pointer none, .string ⟨#[]⟩]⟩ := by kernel_rfl
@[simp] theorem tb_un159 : (Try.prog.underlying 159).isSome = true := by kernel_rfl
@[simp] theorem tb_ti160 : tiF Try.prog 160 = some ⟨true, 4, 40, [.pointer none, .pointer none, .pointer none, .string ⟨#[]⟩]⟩ := by kernel_rfl
@[simp] theorem tb_un160 : (Try.prog.underlying 160).isSome = true := by kernel_rfl
@[simp] theorem tb_ti161 : tiF Try.prog 161 = some ⟨true, 0, 0, []⟩ := by kernel_rfl
@[simp] theorem tb_un161 : (Try.prog.underlying 161).isSome = true := by kernel_rfl
@[simp] theorem tb_ti162 : tiF Try.prog 162 = some ⟨true, 0, 0, []⟩ := by kernel_rfl
@[simp] theorem tb_un162 : (Try.prog.underlying 162).isSome = true := by kernel_rfl
@[simp] theorem tb_ti163 : tiF Try.prog 163 = some ⟨true, 0, 0, []⟩ := by kernel_rfl
@[simp] theorem tb_un163 : (Try.prog.underlying 163).isSome = true := by kernel_rfl
@[simp] theorem tb_ti164 : tiF Try.prog 164 = some ⟨false, 1, 8, [.nilFunc]⟩ := by kernel_rfl
@[simp] theorem tb_un164 : (Try.prog.underlying 164).isSome = true := by kernel_rfl
@[simp] theorem tb_ti165 : tiF Try.prog 165 = some ⟨false, 1, 1, [.int .u8 0]⟩ := by kernel_rfl
@[simp] theorem tb_un165 : (Try.prog.underlying 165).isSome = true := by kernel_rfl
@[simp] theorem tb_ti166 : tiF Try.prog 166 = some ⟨false, 1, 1, [.int .u8 0]⟩ := by kernel_rfl
@[simp] theorem tb_un166 : (Try.prog.underlying 166).isSome = true := by kernel_rfl
@[simp] theorem tb_ti167 : tiF Try.prog 167 = some ⟨false, 1, 8, [.nilFunc]⟩ := by kernel_rfl
@[simp] theorem tb_un167 : (Try.prog.underlying 167).isSome = true := by kernel_rfl
@[simp] theorem tb_ti168 : tiF Try.prog 168 = some ⟨false, 1, 8, [.pointer none]⟩ := by kernel_rfl
@[simp] theorem tb_un168 : (Try.prog.underlying 168).isSome = true := by kernel_rfl
@[simp] theorem tb_ti169 : tiF Try.prog 169 = some ⟨false, 1, 4, [.int .i32 0]⟩ := by kernel_rfl
@[simp] theorem tb_un169 : (Try.prog.underlying 169).isSome = true := by kernel_rfl
@[simp] theorem tb_ti170 : tiF Try.prog 170 = some ⟨false, 1, 4, [.int .i32 0]⟩ := by kernel_rfl
@[simp] theorem tb_un170 : (Try.prog.underlying 170).isSome = true := by kernel_rfl
@[simp] theorem tb_ti171 : tiF Try.prog 171 = some ⟨true, 11, 48, [.int .u64 0, .int .u64 0, .int .u32 0, .int .u8 0, .int .u8 0, .int .u8 0, .int .u8 0, .nilFunc, .pointer none, .int .i32 0, .int .i32 0]⟩ := by kernel_rfl
@[simp] theorem tb_un171 : (Try.prog.underlying 171).isSome = true := by kernel_rfl
@[simp] theorem tb_ti172 : tiF Try.prog 172 = some ⟨true, 11, 48, [.int .u64 0, .int .u64 0, .int .u32 0, .int .u8 0, .int .u8 0, .int .u8 0, .int .u8 0, .nilFunc, .pointer none, .int .i32 0, .int .i32 0]⟩ := by kernel_rfl
@[simp] theorem tb_un172 : (Try.prog.underlying 172).isSome = true := by kernel_rfl
@[simp] theorem tb_ti173 : tiF Try.prog 173 = some ⟨false, 1, 8, [.pointer none]⟩ := by kernel_rfl
@[simp] theorem tb_un173 : (Try.prog.underlying 173).isSome = true := by kernel_rfl
@[simp] theorem tb_el22 : elemF Try.prog 22 = some 5 := by kernel_rfl
@[simp] theorem tb_ns22 : strF Try.prog 22 = false := by kernel_rfl
@[simp] theorem tb_el24 : elemF Try.prog 24 = some 63 := by kernel_rfl
@[simp] theorem tb_ns24 : strF Try.prog 24 = false := by kernel_rfl
@[simp] theorem tb_el25 : elemF Try.prog 25 = some 95 := by kernel_rfl
@[simp] theorem tb_ns25 : strF Try.prog 25 = false := by kernel_rfl
@[simp] theorem tb_el26 : elemF Try.prog 26 = some 84 := by kernel_rfl
@[simp] theorem tb_ns26 : strF Try.prog 26 = false := by kernel_rfl
@[simp] theorem tb_el27 : elemF Try.prog 27 = some 87 := by kernel_rfl
@[simp] theorem tb_ns27 : strF Try.prog 27 = false := by kernel_rfl
@[simp] theorem tb_el30 : elemF Try.prog 30 = some 98 := by kernel_rfl
@[simp] theorem tb_ns30 : strF Try.prog 30 = false := by kernel_rfl
@[simp] theorem tb_el33 : elemF Try.prog 33 = some 3 := by kernel_rfl
@[simp] theorem tb_ns33 : strF Try.prog 33 = false := by kernel_rfl
@[simp] theorem tb_el34 : elemF Try.prog 34 = some 33 := by kernel_rfl
@[simp] theorem tb_ns34 : strF Try.prog 34 = false := by kernel_rfl
@[simp] theorem tb_el41 : elemF Try.prog 41 = some 45 := by kernel_rfl
@[simp] theorem tb_ns41 : strF Try.prog 41 = false := by kernel_rfl
@[simp] theorem tb_el49 : elemF Try.prog 49 = some 71 := by kernel_rfl
@[simp] theorem tb_ns49 : strF Try.prog 49 = false := by kernel_rfl
@[simp] theorem tb_el52 : elemF Try.prog 52 = some 4 := by kernel_rfl
@[simp] theorem tb_ns52 : strF Try.prog 52 = false := by kernel_rfl
@[simp] theorem tb_el58 : elemF Try.prog 58 = some 38 := by kernel_rfl
@[simp] theorem tb_ns58 : strF Try.prog 58 = false := by kernel_rfl
@[simp] theorem tb_el90 : elemF Try.prog 90 = some 112 := by kernel_rfl
@[simp] theorem tb_ns90 : strF Try.prog 90 = false := by kernel_rfl
@[simp] theorem tb_el91 : elemF Try.prog 91 = some 9 := by kernel_rfl
@[simp] theorem tb_ns91 : strF Try.prog 91 = false := by kernel_rfl
@[simp] theorem tb_fl7 : flds Try.prog 7 = some [(0, 1, false), (1, 1, false), (2, 1, false), (3, 1, false)] := by kernel_rfl
@[simp] theorem tb_fl8 : flds Try.prog 8 = some [(0, 1, false), (1, 1, false), (2, 1, false), (3, 1, false)] := by kernel_rfl
@[simp] theorem tb_fl13 : flds Try.prog 13 = some [(0, 1, false), (1, 1, false)] := by kernel_rfl
@[simp] theorem tb_fl14 : flds Try.prog 14 = some [(0, 1, false), (1, 1, false)] := by kernel_rfl
@[simp] theorem tb_fl18 : flds Try.prog 18 = some [(0, 1, false)] := by kernel_rfl
@[simp] theorem tb_fl19 : flds Try.prog 19 = some [(0, 1, false)] := by kernel_rfl
@[simp] theorem tb_fl28 : flds Try.prog 28 = some [(0, 1, false), (1, 1, false)] := by kernel_rfl
@[simp] theorem tb_fl29 : flds Try.prog 29 = some [(0, 1, false), (1, 1, false)] := by kernel_rfl
@[simp] theorem tb_fl31 : flds Try.prog 31 = some [(0, 2, true), (2, 1, false), (3, 1, false), (4, 2, true), (6, 1, false)] := by kernel_rfl
@[simp] theorem tb_fl32 : flds Try.prog 32 = some [(0, 2, true), (2, 1, false), (3, 1, false), (4, 2, true), (6, 1, false)] := by kernel_rfl
@[simp] theorem tb_fl35 : flds Try.prog 35 = some [(0, 1, false), (1, 1, false)] := by kernel_rfl
@[simp] theorem tb_fl36 : flds Try.prog 36 = some [(0, 1, false), (1, 1, false)] := by kernel_rfl
@[simp] theorem tb_fl37 : flds Try.prog 37 = some [(0, 1, false), (1, 1, false), (2, 1, false), (3, 1, false), (4, 1, false), (5, 1, false), (6, 1, false), (7, 1, false), (8, 1, false), (9, 1, false), (10, 7, true), (17, 2, true), (19, 1, false), (20, 1, false), (21, 1, false)] := by kernel_rfl
@[simp] theorem tb_fl38 : flds Try.prog 38 = some [(0, 1, false), (1, 1, false), (2, 1, false), (3, 1, false), (4, 1, false), (5, 1, false), (6, 1, false), (7, 1, false), (8, 1, false), (9, 1, false), (10, 7, true), (17, 2, true), (19, 1, false), (20, 1, false), (21, 1, false)] := by kernel_rfl
@[simp] theorem tb_fl44 : flds Try.prog 44 = some [(0, 1, false), (1, 1, false), (2, 1, false), (3, 1, false), (4, 1, false), (5, 1, false), (6, 1, false), (7, 1, false), (8, 1, false), (9, 2, true), (11, 2, true), (13, 1, false), (14, 1, false)] := by kernel_rfl
@[simp] theorem tb_fl45 : flds Try.prog 45 = some [(0, 1, false), (1, 1, false), (2, 1, false), (3, 1, false), (4, 1, false), (5, 1, false), (6, 1, false), (7, 1, false), (8, 1, false), (9, 2, true), (11, 2, true), (13, 1, false), (14, 1, false)] := by kernel_rfl
@[simp] theorem tb_fl62 : flds Try.prog 62 = some [(0, 1, false), (1, 1, false), (2, 1, false), (3, 1, false)] := by kernel_rfl
@[simp] theorem tb_fl63 : flds Try.prog 63 = some [(0, 1, false), (1, 1, false), (2, 1, false), (3, 1, false)] := by kernel_rfl
@[simp] theorem tb_fl70 : flds Try.prog 70 = some [(0, 1, false), (1, 1, false)] := by kernel_rfl
@[simp] theorem tb_fl71 : flds Try.prog 71 = some [(0, 1, false), (1, 1, false)] := by kernel_rfl
@[simp] theorem tb_fl83 : flds Try.prog 83 = some [(0, 1, false), (1, 1, false), (2, 1, false), (3, 1, false)] := by kernel_rfl
@[simp] theorem tb_fl84 : flds Try.prog 84 = some [(0, 1, false), (1, 1, false), (2, 1, false), (3, 1, false)] := by kernel_rfl
@[simp] theorem tb_fl86 : flds Try.prog 86 = some [(0, 1, false), (1, 1, false), (2, 1, false)] := by kernel_rfl
@[simp] theorem tb_fl87 : flds Try.prog 87 = some [(0, 1, false), (1, 1, false), (2, 1, false)] := by kernel_rfl
@[simp] theorem tb_fl92 : flds Try.prog 92 = some [(0, 1, false), (1, 1, false), (2, 1, false), (3, 1, false), (4, 1, false)] := by kernel_rfl
@[simp] theorem tb_fl93 : flds Try.prog 93 = some [(0, 1, false), (1, 1, false), (2, 1, false), (3, 1, false), (4, 1, false)] := by kernel_rfl
@[simp] theorem tb_fl94 : flds Try.prog 94 = some [(0, 1, false), (1, 5, true)] := by kernel_rfl
@[simp] theorem tb_fl95 : flds Try.prog 95 = some [(0, 1, false), (1, 5, true)] := by kernel_rfl
@[simp] theorem tb_fl97 : flds Try.prog 97 = some [(0, 1, false), (1, 1, false), (2, 5, true)] := by kernel_rfl
@[simp] theorem tb_fl98 : flds Try.prog 98 = some [(0, 1, false), (1, 1, false), (2, 5, true)] := by kernel_rfl
@[simp] theorem tb_fl111 : flds Try.prog 111 = some [(0, 1, false), (1, 1, false)] := by kernel_rfl
@[simp] theorem tb_fl112 : flds Try.prog 112 = some [(0, 1, false), (1, 1, false)] := by kernel_rfl
@[simp] theorem tb_fl121 : flds Try.prog 121 = some [(0, 4, true), (4, 4, true)] := by kernel_rfl
@[simp] theorem tb_fl122 : flds Try.prog 122 = some [(0, 4, true), (4, 4, true)] := by kernel_rfl
@[simp] theorem tb_fl159 : flds Try.prog 159 = some [(0, 1, false), (1, 1, false), (2, 1, false), (3, 1, false)] := by kernel_rfl
@[simp] theorem tb_fl160 : flds Try.prog 160 = some [(0, 1, false), (1, 1, false), (2, 1, false), (3, 1, false)] := by kernel_rfl
@[simp] theorem tb_fl162 : flds Try.prog 162 = some [(0, 0, true)] := by kernel_rfl
@[simp] theorem tb_fl163 : flds Try.prog 163 = some [(0, 0, true)] := by kernel_rfl
@[simp] theorem tb_fl171 : flds Try.prog 171 = some [(0, 1, false), (1, 1, false), (2, 1, false), (3, 1, false), (4, 1, false), (5, 1, false), (6, 1, false), (7, 1, false), (8, 1, false), (9, 1, false), (10, 1, false)] := by kernel_rfl
@[simp] theorem tb_fl172 : flds Try.prog 172 = some [(0, 1, false), (1, 1, false), (2, 1, false), (3, 1, false), (4, 1, false), (5, 1, false), (6, 1, false), (7, 1, false), (8, 1, false), (9, 1, false), (10, 1, false)] := by kernel_rfl
@[simp] theorem tb_st9 : strF Try.prog 9 = true := by kernel_rfl
@[simp] theorem tb_st10 : strF Try.prog 10 = true := by kernel_rfl
@[simp] theorem tb_st11 : strF Try.prog 11 = true := by kernel_rfl
@[simp] theorem tb_in2 : intF Try.prog 2 = some .i64 := by kernel_rfl
@[simp] theorem tb_in3 : intF Try.prog 3 = some .i64 := by kernel_rfl
@[simp] theorem tb_in5 : intF Try.prog 5 = some .u8 := by kernel_rfl
@[simp] theorem tb_in6 : intF Try.prog 6 = some .u8 := by kernel_rfl
@[simp] theorem tb_in12 : intF Try.prog 12 = some .u64 := by kernel_rfl
@[simp] theorem tb_in21 : intF Try.prog 21 = some .i32 := by kernel_rfl
@[simp] theorem tb_in105 : intF Try.prog 105 = some .u64 := by kernel_rfl
@[simp] theorem tb_in124 : intF Try.prog 124 = some .i64 := by kernel_rfl
@[simp] theorem tb_in131 : intF Try.prog 131 = some .u32 := by kernel_rfl
@[simp] theorem tb_in133 : intF Try.prog 133 = some .u64 := by kernel_rfl
@[simp] theorem tb_in138 : intF Try.prog 138 = some .u64 := by kernel_rfl
@[simp] theorem tb_in165 : intF Try.prog 165 = some .u8 := by kernel_rfl
@[simp] theorem tb_in166 : intF Try.prog 166 = some .u8 := by kernel_rfl
@[simp] theorem tb_in169 : intF Try.prog 169 = some .i32 := by kernel_rfl
@[simp] theorem tb_in170 : intF Try.prog 170 = some .i32 := by kernel_rfl
@[simp] theorem tb_sq7 : seqF Try.prog 7 = some [0, 0, 2, 0] := by kernel_rfl
@[simp] theorem tb_sq8 : seqF Try.prog 8 = some [0, 0, 2, 0] := by kernel_rfl
@[simp] theorem tb_sq28 : seqF Try.prog 28 = some [0, 0] := by kernel_rfl
@[simp] theorem tb_sq29 : seqF Try.prog 29 = some [0, 0] := by kernel_rfl
@[simp] theorem tb_sq62 : seqF Try.prog 62 = some [0, 0, 0, 0] := by kernel_rfl
@[simp] theorem tb_sq63 : seqF Try.prog 63 = some [0, 0, 0, 0] := by kernel_rfl
@[simp] theorem tb_sq70 : seqF Try.prog 70 = some [0, 0] := by kernel_rfl
@[simp] theorem tb_sq71 : seqF Try.prog 71 = some [0, 0] := by kernel_rfl
@[simp] theorem tb_sq83 : seqF Try.prog 83 = some [0, 0, 0, 1] := by kernel_rfl
@[simp] theorem tb_sq84 : seqF Try.prog 84 = some [0, 0, 0, 1] := by kernel_rfl
@[simp] theorem tb_sq86 : seqF Try.prog 86 = some [0, 0, 0] := by kernel_rfl
@[simp] theorem tb_sq87 : seqF Try.prog 87 = some [0, 0, 0] := by kernel_rfl
@[simp] theorem tb_sq111 : seqF Try.prog 111 = some [1, 1] := by kernel_rfl
@[simp] theorem tb_sq112 : seqF Try.prog 112 = some [1, 1] := by kernel_rfl
@[simp] theorem tb_sk4 : sk Try.prog 4 = some 2 := by kernel_rfl
end Go.Proofs.Ytaibolmbafacpaa

/- The program's data, as it lies in memory. -/
namespace Go.Proofs.Ytaibolmbafacpaa
open Go Go.RowKit
set_option linter.unusedVariables false
set_option linter.unusedSimpArgs false
def encS (l : List ByteArray) : List (List T) := l.map fun x => [.v (.string x)]
@[simp] theorem encS_length (l : List ByteArray) : (encS l).length = l.length := by simp [encS]
@[simp high] theorem encS_get (l : List ByteArray) (i : Nat) : (encS l)[i]? = (l[i]?).map fun x => [.v (.string x)] := by simp [encS]
@[simp] theorem encS_nil : encS [] = [] := rfl
theorem encS_sz (l : List ByteArray) : ∀ e ∈ encS l, e.length = 1 := by
  intro e h
  obtain ⟨x, _, rfl⟩ := List.mem_map.1 h
  rfl
@[simp] theorem encS_eq_nil (l : List ByteArray) : (encS l = []) = (l = []) := by simp [encS]
def encI (l : List Int) : List (List T) := l.map fun x => [.v (.int .i64 x)]
theorem lvs_encI1 (x : Int) : lvs (encI [x]) = [.s (.int .i64 x)] := rfl
@[simp] theorem encI_length (l : List Int) : (encI l).length = l.length := by simp [encI]
@[simp high] theorem encI_get (l : List Int) (i : Nat) : (encI l)[i]? = (l[i]?).map fun x => [.v (.int .i64 x)] := by simp [encI]
@[simp] theorem encI_nil : encI [] = [] := rfl
theorem encI_append (l m : List Int) : encI (l ++ m) = encI l ++ encI m := by simp [encI]
theorem encI_sz (l : List Int) : ∀ e ∈ encI l, e.length = 1 := by
  intro e h
  obtain ⟨x, _, rfl⟩ := List.mem_map.1 h
  rfl
@[simp] theorem encI_eq_nil (l : List Int) : (encI l = []) = (l = []) := by simp [encI]
def encB (l : List Bool) : List (List T) := l.map fun x => [.v (.bool x)]
@[simp] theorem encB_length (l : List Bool) : (encB l).length = l.length := by simp [encB]
@[simp high] theorem encB_get (l : List Bool) (i : Nat) : (encB l)[i]? = (l[i]?).map fun x => [.v (.bool x)] := by simp [encB]
@[simp] theorem encB_nil : encB [] = [] := rfl
@[simp] theorem encB_eq_nil (l : List Bool) : (encB l = []) = (l = []) := by simp [encB]
def encU (l : List Int) : List (List T) := l.map fun x => [.v (.int .u8 x)]
@[simp] theorem encU_length (l : List Int) : (encU l).length = l.length := by simp [encU]
@[simp high] theorem encU_get (l : List Int) (i : Nat) : (encU l)[i]? = (l[i]?).map fun x => [.v (.int .u8 x)] := by simp [encU]
@[simp] theorem encU_nil : encU [] = [] := rfl
@[simp] theorem encU_eq_nil (l : List Int) : (encU l = []) = (l = []) := by simp [encU]
structure Field where
  name : ByteArray
  val : ByteArray
deriving DecidableEq, Inhabited
attribute [ext] Field
def encField (l : List Field) : List (List T) := l.map fun x => [.v (.string x.name), .v (.string x.val)]
@[simp] theorem encField_length (l : List Field) : (encField l).length = l.length := by simp [encField]
@[simp high] theorem encField_get (l : List Field) (i : Nat) : (encField l)[i]? = (l[i]?).map fun x => [.v (.string x.name), .v (.string x.val)] := by simp [encField]
@[simp] theorem encField_nil : encField [] = [] := rfl
theorem encField_sz (l : List Field) : ∀ e ∈ encField l, e.length = 2 := by
  intro e h
  obtain ⟨x, _, rfl⟩ := List.mem_map.1 h
  rfl
@[simp] theorem encField_eq_nil (l : List Field) : (encField l = []) = (l = []) := by simp [encField]
structure Item where
  kind : Int
  s : ByteArray
  f : List Field
  l : List ByteArray
  exp : Int
deriving DecidableEq, Inhabited
attribute [ext] Item
def encItem (l : List Item) : List (List T) := l.map fun x => [.v (.int .i64 x.kind), .v (.string x.s), .sl 2 (encField x.f), .sl 1 (encS x.l), .v (.int .i64 x.exp)]
@[simp] theorem encItem_length (l : List Item) : (encItem l).length = l.length := by simp [encItem]
@[simp high] theorem encItem_get (l : List Item) (i : Nat) : (encItem l)[i]? = (l[i]?).map fun x => [.v (.int .i64 x.kind), .v (.string x.s), .sl 2 (encField x.f), .sl 1 (encS x.l), .v (.int .i64 x.exp)] := by simp [encItem]
@[simp] theorem encItem_nil : encItem [] = [] := rfl
@[simp] theorem encItem_eq_nil (l : List Item) : (encItem l = []) = (l = []) := by simp [encItem]
structure Pair where
  key : ByteArray
  item : Item
deriving DecidableEq, Inhabited
attribute [ext] Pair
def encPair (l : List Pair) : List (List T) := l.map fun x => [.v (.string x.key), .v (.int .i64 x.item.kind), .v (.string x.item.s), .sl 2 (encField x.item.f), .sl 1 (encS x.item.l), .v (.int .i64 x.item.exp)]
@[simp] theorem encPair_length (l : List Pair) : (encPair l).length = l.length := by simp [encPair]
@[simp high] theorem encPair_get (l : List Pair) (i : Nat) : (encPair l)[i]? = (l[i]?).map fun x => [.v (.string x.key), .v (.int .i64 x.item.kind), .v (.string x.item.s), .sl 2 (encField x.item.f), .sl 1 (encS x.item.l), .v (.int .i64 x.item.exp)] := by simp [encPair]
@[simp] theorem encPair_nil : encPair [] = [] := rfl
theorem encPair_sz (l : List Pair) : ∀ e ∈ encPair l, e.length = 6 := by
  intro e h
  obtain ⟨x, _, rfl⟩ := List.mem_map.1 h
  rfl
@[simp] theorem encPair_eq_nil (l : List Pair) : (encPair l = []) = (l = []) := by simp [encPair]
structure Effect where
  key : ByteArray
  gone : Bool
  item : Item
deriving DecidableEq, Inhabited
attribute [ext] Effect
def encEffect (l : List Effect) : List (List T) := l.map fun x => [.v (.string x.key), .v (.bool x.gone), .v (.int .i64 x.item.kind), .v (.string x.item.s), .sl 2 (encField x.item.f), .sl 1 (encS x.item.l), .v (.int .i64 x.item.exp)]
@[simp] theorem encEffect_length (l : List Effect) : (encEffect l).length = l.length := by simp [encEffect]
@[simp high] theorem encEffect_get (l : List Effect) (i : Nat) : (encEffect l)[i]? = (l[i]?).map fun x => [.v (.string x.key), .v (.bool x.gone), .v (.int .i64 x.item.kind), .v (.string x.item.s), .sl 2 (encField x.item.f), .sl 1 (encS x.item.l), .v (.int .i64 x.item.exp)] := by simp [encEffect]
@[simp] theorem encEffect_nil : encEffect [] = [] := rfl
theorem encEffect_sz (l : List Effect) : ∀ e ∈ encEffect l, e.length = 7 := by
  intro e h
  obtain ⟨x, _, rfl⟩ := List.mem_map.1 h
  rfl
@[simp] theorem encEffect_eq_nil (l : List Effect) : (encEffect l = []) = (l = []) := by simp [encEffect]
structure Rid where
  node : Int
  epoch : Int
deriving DecidableEq, Inhabited
attribute [ext] Rid
def encRid (l : List Rid) : List (List T) := l.map fun x => [.v (.int .i64 x.node), .v (.int .i64 x.epoch)]
@[simp] theorem encRid_length (l : List Rid) : (encRid l).length = l.length := by simp [encRid]
@[simp high] theorem encRid_get (l : List Rid) (i : Nat) : (encRid l)[i]? = (l[i]?).map fun x => [.v (.int .i64 x.node), .v (.int .i64 x.epoch)] := by simp [encRid]
@[simp] theorem encRid_nil : encRid [] = [] := rfl
@[simp] theorem encRid_eq_nil (l : List Rid) : (encRid l = []) = (l = []) := by simp [encRid]
structure Feed where
  rid : Rid
  off : Int
  back : List Effect
  prev : Rid
  upto : Int
deriving DecidableEq, Inhabited
attribute [ext] Feed
def encFeed (l : List Feed) : List (List T) := l.map fun x => [.v (.int .i64 x.rid.node), .v (.int .i64 x.rid.epoch), .v (.int .i64 x.off), .sl 7 (encEffect x.back), .v (.int .i64 x.prev.node), .v (.int .i64 x.prev.epoch), .v (.int .i64 x.upto)]
@[simp] theorem encFeed_length (l : List Feed) : (encFeed l).length = l.length := by simp [encFeed]
@[simp high] theorem encFeed_get (l : List Feed) (i : Nat) : (encFeed l)[i]? = (l[i]?).map fun x => [.v (.int .i64 x.rid.node), .v (.int .i64 x.rid.epoch), .v (.int .i64 x.off), .sl 7 (encEffect x.back), .v (.int .i64 x.prev.node), .v (.int .i64 x.prev.epoch), .v (.int .i64 x.upto)] := by simp [encFeed]
@[simp] theorem encFeed_nil : encFeed [] = [] := rfl
@[simp] theorem encFeed_eq_nil (l : List Feed) : (encFeed l = []) = (l = []) := by simp [encFeed]
structure Claim where
  frm : Int
  to : Int
  node : Int
  epoch : Int
deriving DecidableEq, Inhabited
attribute [ext] Claim
def encClaim (l : List Claim) : List (List T) := l.map fun x => [.v (.int .i64 x.frm), .v (.int .i64 x.to), .v (.int .i64 x.node), .v (.int .i64 x.epoch)]
theorem lvs_encClaim1 (x : Claim) : lvs (encClaim [x]) = [.s (.int .i64 x.frm), .s (.int .i64 x.to), .s (.int .i64 x.node), .s (.int .i64 x.epoch)] := rfl
@[simp] theorem encClaim_length (l : List Claim) : (encClaim l).length = l.length := by simp [encClaim]
@[simp high] theorem encClaim_get (l : List Claim) (i : Nat) : (encClaim l)[i]? = (l[i]?).map fun x => [.v (.int .i64 x.frm), .v (.int .i64 x.to), .v (.int .i64 x.node), .v (.int .i64 x.epoch)] := by simp [encClaim]
@[simp] theorem encClaim_nil : encClaim [] = [] := rfl
theorem encClaim_append (l m : List Claim) : encClaim (l ++ m) = encClaim l ++ encClaim m := by simp [encClaim]
theorem encClaim_sz (l : List Claim) : ∀ e ∈ encClaim l, e.length = 4 := by
  intro e h
  obtain ⟨x, _, rfl⟩ := List.mem_map.1 h
  rfl
@[simp] theorem encClaim_eq_nil (l : List Claim) : (encClaim l = []) = (l = []) := by simp [encClaim]
structure Msg where
  kind : Int
  frm : Int
  to : Int
  epoch : Int
  claims : List Claim
  nodes : List Int
  node : Int
  slot : Int
  num : Int
  rid : Rid
  prev : Rid
  off : Int
  effects : List Effect
deriving DecidableEq, Inhabited
attribute [ext] Msg
def encMsg (l : List Msg) : List (List T) := l.map fun x => [.v (.int .i64 x.kind), .v (.int .i64 x.frm), .v (.int .i64 x.to), .v (.int .i64 x.epoch), .sl 4 (encClaim x.claims), .sl 1 (encI x.nodes), .v (.int .i64 x.node), .v (.int .i64 x.slot), .v (.int .i64 x.num), .v (.int .i64 x.rid.node), .v (.int .i64 x.rid.epoch), .v (.int .i64 x.prev.node), .v (.int .i64 x.prev.epoch), .v (.int .i64 x.off), .sl 7 (encEffect x.effects)]
@[simp] theorem encMsg_length (l : List Msg) : (encMsg l).length = l.length := by simp [encMsg]
@[simp high] theorem encMsg_get (l : List Msg) (i : Nat) : (encMsg l)[i]? = (l[i]?).map fun x => [.v (.int .i64 x.kind), .v (.int .i64 x.frm), .v (.int .i64 x.to), .v (.int .i64 x.epoch), .sl 4 (encClaim x.claims), .sl 1 (encI x.nodes), .v (.int .i64 x.node), .v (.int .i64 x.slot), .v (.int .i64 x.num), .v (.int .i64 x.rid.node), .v (.int .i64 x.rid.epoch), .v (.int .i64 x.prev.node), .v (.int .i64 x.prev.epoch), .v (.int .i64 x.off), .sl 7 (encEffect x.effects)] := by simp [encMsg]
@[simp] theorem encMsg_nil : encMsg [] = [] := rfl
theorem encMsg_append (l m : List Msg) : encMsg (l ++ m) = encMsg l ++ encMsg m := by simp [encMsg]
theorem encMsg_sz (l : List Msg) : ∀ e ∈ encMsg l, e.length = 15 := by
  intro e h
  obtain ⟨x, _, rfl⟩ := List.mem_map.1 h
  rfl
@[simp] theorem encMsg_eq_nil (l : List Msg) : (encMsg l = []) = (l = []) := by simp [encMsg]
theorem mixed : Try.prog.follows .mixedOrders = true := by kernel_rfl
theorem encField_lvsA (al : Bool) (l : List Field) : lvsA al (encField l) = lvs (encField l) := by
  simp [lvsA, lvs, encField, List.flatMap_map]
theorem encS_lvsA (al : Bool) (l : List ByteArray) : lvsA al (encS l) = lvs (encS l) := by
  simp [lvsA, lvs, encS, List.flatMap_map]
theorem encI_lvsA (al : Bool) (l : List Int) : lvsA al (encI l) = lvs (encI l) := by
  simp [lvsA, lvs, encI, List.flatMap_map]
/-- The first place where p no longer holds, sought by halves. -/
def bs (p : Nat → Bool) (lo hi : Nat) : Nat :=
  if h : lo < hi then (if p ((lo + hi) / 2) then bs p ((lo + hi) / 2 + 1) hi else bs p lo ((lo + hi) / 2)) else lo
termination_by hi - lo
theorem get_some {α : Type} {l : List α} {i : Nat} (h : i < l.length) : ∃ x, l[i]? = some x := ⟨_, List.getElem?_eq_getElem h⟩
end Go.Proofs.Ytaibolmbafacpaa

/- No texts are compared here. -/
namespace Go.Proofs.Ytaibolmbafacpaa
open Go Go.RowKit
end Go.Proofs.Ytaibolmbafacpaa

/- The order of texts. No program in sight. -/
namespace Go.Proofs.Ytaibolmbafacpaa
open Go Go.RowKit
set_option linter.unusedVariables false
set_option linter.unusedSimpArgs false
theorem take_snoc {α : Type} {l : List α} {i : Nat} {x : α} (h : l[i]? = some x) : l.take i ++ [x] = l.take (i + 1) := by
  rw [List.take_add_one, h]
  simp
end Go.Proofs.Ytaibolmbafacpaa

/- Elements of a row of data: their cells told, and stored. -/
namespace Go.Proofs.Ytaibolmbafacpaa
open Go Go.RowKit
set_option linter.unusedVariables false
set_option linter.unusedSimpArgs false
section
variable {es : List (List T)} {sz i j k : Nat} {e e' : List T}
theorem lvs_from (hes : ∀ e ∈ es, e.length = sz) (hi : es[i]? = some e) : (lvs es).drop (i * sz) = lvs [e] ++ lvs (es.drop (i + 1)) := by
  obtain ⟨hlt, he⟩ := List.getElem?_eq_some_iff.1 hi
  rw [lvs_dropN hes, List.drop_eq_getElem_cons hlt, he]
  simp [lvs]
theorem lvs_one_length (hes : ∀ e ∈ es, e.length = sz) (hi : es[i]? = some e) : (lvs [e]).length = sz := by
  have := hes e (List.mem_of_getElem? hi)
  simp [lvs, this]
theorem lvs_seg (hes : ∀ e ∈ es, e.length = sz) (hi : es[i]? = some e) (hjk : j + k ≤ sz) : ((lvs es).drop (i * sz + j)).take k = ((lvs [e]).drop j).take k := by
  have h1 := lvs_one_length hes hi
  rw [← List.drop_drop, lvs_from hes hi, List.drop_append_of_le_length (by omega), List.take_append_of_le_length (by rw [List.length_drop]; omega)]
theorem lvs_cell (hes : ∀ e ∈ es, e.length = sz) (hi : es[i]? = some e) (hj : j < sz) : (lvs es)[i * sz + j]? = (lvs [e])[j]? := by
  have h1 := lvs_one_length hes hi
  have h2 : ((lvs es).drop (i * sz))[j]? = (lvs [e])[j]? := by rw [lvs_from hes hi, List.getElem?_append_left (by omega)]
  rwa [List.getElem?_drop] at h2
theorem setAt_behind (A B cs : List LV) (j : Nat) (h : j + cs.length ≤ B.length) : setAt (A ++ B) (A.length + j) cs = A ++ setAt B j cs := by
  rw [setAt_eq _ _ _ (by simp; omega), setAt_eq _ _ _ h]
  rw [List.take_length_add_append, Nat.add_assoc, List.drop_length_add_append]
  simp [List.append_assoc]
theorem setAt_left (A B cs : List LV) (j : Nat) (h : j + cs.length ≤ A.length) : setAt (A ++ B) j cs = setAt A j cs ++ B := by
  rw [setAt_eq _ _ _ (by simp; omega), setAt_eq _ _ _ h, List.take_append_of_le_length (by omega), List.drop_append_of_le_length (by omega), List.append_assoc, List.append_assoc, List.append_assoc]
theorem lvs_put {cs : List LV} (hes : ∀ e ∈ es, e.length = sz) (hi : es[i]? = some e) (hj : j + cs.length ≤ sz) (he' : setAt (lvs [e]) j cs = lvs [e']) : setAt (lvs es) (i * sz + j) cs = lvs (es.set i e') := by
  obtain ⟨hlt, he⟩ := List.getElem?_eq_some_iff.1 hi
  have h1 := lvs_one_length hes hi
  have h2 : lvs es = lvs (es.take i) ++ (lvs [e] ++ lvs (es.drop (i + 1))) := by
    rw [← lvs_from hes hi, ← lvs_takeN hes, List.take_append_drop]
  have h3 : (lvs (es.take i)).length = i * sz := by
    rw [lvs_length fun e he => hes e (List.mem_of_mem_take he), List.length_take]
    congr 1
    omega
  rw [h2, ← h3, setAt_behind _ _ _ _ (by rw [List.length_append]; omega), setAt_left _ _ _ _ (by omega), he', List.set_eq_take_append_cons_drop, if_pos hlt]
  simp [lvs]
end
/-- An own row becomes data. -/
theorem AW.frzRow {P : Program} {R : Option Nat} {cx : Cx} {Q : Post} {c : Code} {tm tm' : Tm} {ob ob' : List (Option Ob)} {nt : Nat} {gh gh' : List Tm} {ls : Option Code} (o : Nat) {ty sz : Nat} {cap : Option Nat} {es : List (List T)} (hz : ob[o]? = some (some ⟨ty, sz, true, cap, lvs es⟩)) (h0 : 0 < sz) (hes : ∀ e ∈ es, e.length = sz)
    (hm : es.length ≤ 140737488355328) (h1 : Tm.frz o sz es tm = tm') (h2 : (ob.set o none).map (Option.map (Ob.frz o sz es)) = ob') (h3 : gh.map (Tm.frz o sz es) = gh') (k : AW P R cx c Q ⟨tm', ob', nt, gh', ls⟩) : AW P R cx c Q ⟨tm, ob, nt, gh, ls⟩ := by
  subst h1
  subst h2
  subst h3
  exact AW.weak (Weak.freeze (st := ⟨tm, ob, nt, gh, ls⟩) (o := o) (sz := sz) (z := ⟨ty, sz, true, cap, lvs es⟩) (es := es) (by simp [St.obj, hz]) rfl rfl h0 rfl hes hm) k
/-- Objects picked and ordered, boxes too, where none was handed over. -/
theorem Weak.mixN {cx : Cx} {tm tm' : Tm} {ob ob' : List (Option Ob)} {nt : Nat} {gh gh' : List Tm} {ls : Option Code} (ids : List (Option Nat)) (hn : cx.nb = 0) (hnd : (ids.filterMap fun x => x).Nodup) (htm : ∀ e ∈ tm', (lk tm e.1).ren (inv ids) = e.2) (hob : pickOb ids ob = ob') (hgh : gh.map (Tm.ren (inv ids)) = gh') :
    Weak cx ⟨tm, ob, nt, gh, ls⟩ ⟨tm', ob', nt, gh', ls⟩ := by
  subst hob
  subst hgh
  have key : ∀ l : Tm, (∀ e ∈ l, (lk tm e.1).ren (inv ids) = e.2) → ∀ i, lk l i = (lk tm i).ren (inv ids) ∨ lk l i = .l .u := by
    intro l
    induction l with
    | nil => intro _ i; exact .inr rfl
    | cons e l ih =>
      intro h i
      rw [lk_cons]
      split
      · rename_i hi
        subst hi
        exact .inl (h e (by simp)).symm
      · exact ih (fun e' he' => h e' (by simp [he'])) i
  exact Weak.ren (st := ⟨tm, ob, nt, gh, ls⟩) ids tm' (nd_of ids hnd) (by omega) (fun i o hi ho => by omega) (key tm' htm)
section
variable {P : Program} {R : Option Nat} {cx : Cx} {Q : Post} {c : Code} {tm : Tm} {ob ob' : List (Option Ob)} {nt : Nat} {gh : List Tm} {ls : Option Code}
/-- A nil slice in a cell of an own object is seen as data. -/
theorem Weak.nilCellD (o j sz : Nat) {z : Ob} (hz : ob[o]? = some (some z)) (hj : z.cs[j]? = some (.s (.slice none 0 0))) (hrow : z.row = false) :
    Weak cx ⟨tm, ob, nt, gh, ls⟩ ⟨tm, ob.set o (some { z with cs := z.cs.set j (.d false sz []) }), nt, gh, ls⟩ := by
  intro σ a w hr
  have hl : o < ob.length := (List.getElem?_eq_some_iff.1 hz).1
  have hO := hr.h.obs o z hz
  have hbl : ∃ b k, σ o = some (some (b, k)) := by
    match hb : σ o with
    | none => rw [hb] at hO; exact hO.elim
    | some none =>
      rw [hb] at hO
      rw [hO.2.1] at hj
      simp at hj
    | some (some (b, k)) => exact ⟨b, k, rfl⟩
  obtain ⟨b, k, hb⟩ := hbl
  rw [hb] at hO
  obtain ⟨vs, rest, g1, g2, g4, g5⟩ := hO
  have hall : All2 (RelL w (Xd cx w σ ob) (Xe w σ ob) σ) vs (z.cs.set j (.d false sz [])) := by
    obtain ⟨v, hv, hvr⟩ := g2.at j hj
    have hrel : RelL w (Xd cx w σ ob) (Xe w σ ob) σ v (.d false sz []) := by
      have e := hvr.1
      show Rd w _ _ _
      rw [e]
      exact .sl none 0 0 sz [] 0 0 (fun _ _ => undef) rfl (Nat.le_refl _) (by omega) (fun e he => by simp at he) (fun h => by omega) (fun _ => rfl) (fun i j hi => by omega) (fun i j e t he => by simp at he)
    have := g2.set j hrel
    have e : vs.set j v = vs := by
      apply List.ext_getElem?
      intro i
      by_cases h : j = i
      · subst h
        rw [List.getElem?_set_self (List.getElem?_eq_some_iff.1 hv).1, hv]
      · rw [List.getElem?_set_ne h]
    rwa [e] at this
  have hwr := hr.write (x' := { z with cs := z.cs.set j (.d false sz []) }) hz hb vs rest hall rfl rfl (fun h => g4 h) (fun h => g5 h)
  refine Exists.intro σ ?_
  have e1 : w.setRow b (vs ++ rest).toArray = w := setRow_self _ _ _ _ _ g1
  rw [e1] at hwr
  exact hwr
theorem AW.nilCellD (o j sz : Nat) {z : Ob} (hz : ob[o]? = some (some z)) (hj : z.cs[j]? = some (.s (.slice none 0 0))) (hrow : z.row = false) (ho : ob.set o (some { z with cs := z.cs.set j (.d false sz []) }) = ob') (k : AW P R cx c Q ⟨tm, ob', nt, gh, ls⟩) : AW P R cx c Q ⟨tm, ob, nt, gh, ls⟩ := by
  subst ho
  exact AW.weak (Weak.nilCellD (z := z) o j sz hz hj hrow) k
end
end Go.Proofs.Ytaibolmbafacpaa

/- Drawn regions with effects: what each operation yields, and what it makes, is found while it is shown. -/
namespace Go.Proofs.Ytaibolmbafacpaa
open Go Go.RowKit
set_option linter.unusedVariables false
set_option linter.unusedSimpArgs false
def ObE (P : Program) (ops : Array Oper) (tm0 : Tm) (V : List AV) (M : List (List (Option Ob))) (nt : Nat) (gh : List Tm) (ls : Option Code) : List Oper → List DI → List AV → Prop
  | o :: os, d :: ds, v :: vs => (AllL (fun k => ∀ tm, AllL (fun r => lk tm r.1 = rdV V tm0 r) d.rd → xg P ops o ⟨tm, M.getD k [], nt, gh, ls⟩ (KD o.dst v tm (M.getD (bif d.ef then k + 1 else k) []) nt gh ls)) d.ks) ∧ ObE P ops tm0 V M nt gh ls os ds vs
  | _, _, [] => True
  | _, _, _ => False
section
variable {P : Program} {cx : Cx} {ops : Array Oper} {D : List DI} {n1 : Nat} {V : List AV} {M : List (List (Option Ob))} {Q : Post} {R : Option Nat} {tm tm' : Tm} {ob me : List (Option Ob)} {nt : Nat} {gh : List Tm} {ls : Option Code}
theorem ObE.obl (tm0 : Tm) : ∀ (os : List Oper) (ds : List DI) (vs : List AV), ObE P ops tm0 V M nt gh ls os ds vs → Obl P ops V M ⟨tm0, ob, nt, gh, ls⟩ os ds vs
  | _, _, [], _ => by simp [Obl]
  | [], _, _ :: _, h => by simp [ObE] at h
  | _ :: _, [], _ :: _, h => by simp [ObE] at h
  | o :: os, d :: ds, v :: vs, h => ⟨h.1, ObE.obl tm0 os ds vs h.2⟩
theorem ef_zero (D : List DI) (p : Nat → Bool) (h : ∀ e, p e = false) : efCount D p = 0 := by
  simp only [efCount, List.length_eq_zero_iff, List.filter_eq_nil_iff]
  intro a ha
  simp [h]
theorem AW.drawnE (hm : P.follows .mixedOrders = true) {id : Nat} {c : Code} {st' : St} (D : List DI) (n1 ne : Nat) (hc : chkD ops D n1 = true) (he : (efCount D fun e => decide (e < n1)) = ne) (hM : M.getD 0 [] = ob) (hO : ObE P ops tm V M nt gh ls ops.toList D V) (hV : V.length = n1)
    (htm : tmD ops.toList V tm = tm') (hx : xops P ops (ops.toList.drop n1) ⟨tm', M.getD ne [], nt, gh, ls⟩ (fun s => s = st')) (k : AW P R cx c Q st') : AW P R cx (.seq (.region id ops true) c) Q ⟨tm, ob, nt, gh, ls⟩ := by
  subst htm
  subst he
  exact AW.drawn hm D n1 V M st' hc hV hM (ObE.obl tm _ _ _ hO) rfl hx k
theorem AW.drawnF (hm : P.follows .mixedOrders = true) {id : Nat} (D : List DI) (n1 ne : Nat) (hc : chkD ops D n1 = true) (he : (efCount D fun e => decide (e < n1)) = ne) (hM : M.getD 0 [] = ob) (hO : ObE P ops tm V M nt gh ls ops.toList D V) (hV : V.length = n1)
    (htm : tmD ops.toList V tm = tm') {st' : St} (hx : xops P ops (ops.toList.drop n1) ⟨tm', M.getD ne [], nt, gh, ls⟩ (fun s => s = st')) (k : Q .normal st') : AW P R cx (.region id ops true) Q ⟨tm, ob, nt, gh, ls⟩ := by
  subst htm
  subst he
  have hO2 : Obl P ops V M ⟨tm, ob, nt, gh, ls⟩ ops.toList D V := ObE.obl tm _ _ _ hO
  have hn : n1 ≤ ops.size := by
    simp only [chkD, Bool.and_eq_true, decide_eq_true_eq] at hc
    exact hc.1.2
  have h1' : AW P R cx (.region id ops true) (fun e s => e = .normal ∧ s = st') ⟨tm, ob, nt, gh, ls⟩ := by
    intro σ a w hr
    refine wpIn_region_any hm ?_
    have hLf : ∀ j, Ls (Array.replicate ops.size false) j = false := fun j => by
      simp only [Ls, Array.getD_eq_getD_getElem?, Array.getElem?_replicate]
      split <;> rfl
    have hr' : RelS cx σ ⟨tm, ob, nt, gh, ls⟩ a { w with drawn := w.drawn + 1 } := hr.drewN 1
    refine drawn1 hc hV hn hO2 ?_ ops.size _ ⟨tm, ob, nt, gh, ls⟩ σ a _ (by simp) (fun i hi h => by rw [hLf] at h; simp at h) ?_ (fun j _ _ => hLf j) ⟨rfl, rfl, rfl, ?_, fun t j _ h => by rw [hLf] at h; simp at h, fun t _ => rfl⟩ hr'
    · have h2 := xops_Y (R := R) (cx := cx) _ n1 _ rfl hx
      simpa using h2
    · have : ((List.range n1).filter fun i => !Ls (Array.replicate ops.size false) i).length ≤ n1 := by
        have := List.length_filter_le (fun i => !Ls (Array.replicate ops.size false) i) (List.range n1)
        simpa using this
      omega
    · rw [ef_zero D _ fun j => by simp [hLf]]
      exact hM.symm
  refine AW.mono h1' ?_
  rintro e s ⟨rfl, hs⟩
  subst hs
  exact k
end
end Go.Proofs.Ytaibolmbafacpaa

/- Rows that keep their place: handed over in place, as boxes are. -/
namespace Go.Proofs.Ytaibolmbafacpaa
open Go Go.RowKit
set_option linter.unusedVariables false
set_option linter.unusedSimpArgs false
/-- An own row is seen as one that keeps its place, or the other way round. -/
theorem Weak.flip {cx : Cx} {tm : Tm} {ob : List (Option Ob)} {nt : Nat} {gh : List Tm} {ls : Option Code} (o : Nat) {x x' : Ob} (ho : ob[o]? = some (some x)) (hcs : x'.cs = x.cs) (hty : x'.ty = x.ty) (hsz : x'.sz = x.sz) (hb : x.bx = false) (hb' : x'.bx = false)
    (hcap : x'.row = true → x'.cap = none) (hnb : x'.row = false → x.row = false ∨ cx.nb ≤ o) : Weak cx ⟨tm, ob, nt, gh, ls⟩ ⟨tm, ob.set o (some x'), nt, gh, ls⟩ := by
  intro σ a w hr
  have hl : o < ob.length := (List.getElem?_eq_some_iff.1 ho).1
  have hO := hr.h.obs o x ho
  have hget : ∀ (i : Nat) (y : Ob), (ob.set o (some x'))[i]? = some (some y) → (i = o ∧ y = x') ∨ (i ≠ o ∧ ob[i]? = some (some y)) := by
    intro i y hy
    by_cases e : i = o
    · subst e
      rw [List.getElem?_set_self hl] at hy
      simp at hy
      exact .inl ⟨rfl, hy.symm⟩
    · rw [List.getElem?_set_ne (Ne.symm e)] at hy
      exact .inr ⟨e, hy⟩
  have hOc : RelO w (Xd cx w σ ob) (Xe w σ ob) σ (σ o) x' := by
    revert hO
    unfold RelO
    cases σ o with
    | none => exact id
    | some hd =>
      cases hd with
      | none => exact fun h => ⟨hb', by rw [hcs]; exact h.2.1, fun r => .inl (hcap r)⟩
      | some bk =>
        rintro ⟨vs, rest, g1, g2, g4, g5⟩
        refine ⟨vs, rest, by rw [hty]; exact g1, by rw [hcs]; exact g2, fun e => by rw [hb'] at e; simp at e, fun _ => ⟨by rw [hsz]; exact (g5 hb).1, (g5 hb).2.1, fun r k' e => by rw [hcap r] at e; simp at e⟩⟩
  have hs : Step σ ob w σ (ob.set o (some x')) w some := by
    refine ⟨Evo.refl _ _ _, fun i j h e hi => by cases e; exact hi, ?_⟩
    rintro b ⟨i, y, k, hi, hb⟩
    rcases hget i y hi with ⟨rfl, rfl⟩ | ⟨_, hy⟩
    · exact .inl ⟨i, x, k, ho, hb⟩
    · exact .inl ⟨i, y, k, hy, hb⟩
  refine ⟨σ, RelS.step_some (st := ⟨tm, ob, nt, gh, ls⟩) hr hs (hs.relH hr.h ?_ ?_ ?_ (by have := hr.h.nbl; simpa using this) ?_)⟩
  · intro i y hi
    rcases hget i y hi with ⟨rfl, rfl⟩ | ⟨_, hy⟩
    · have := hs.relO (cx := cx) (fun b k e => rfl) hOc
      rwa [Ob.ren_some] at this
    · have := hs.relO (cx := cx) (fun b k e => rfl) (hr.h.obs i y hy)
      rwa [Ob.ren_some] at this
  · intro i j y y' b k k' hi hj e1 e2
    rcases hget i y hi with ⟨rfl, rfl⟩ | ⟨_, hy⟩ <;> rcases hget j y' hj with ⟨rfl, rfl⟩ | ⟨_, hy'⟩
    · rfl
    · exact hr.h.inj _ _ _ _ b k k' ho hy' e1 e2
    · exact hr.h.inj _ _ _ _ b k k' hy ho e1 e2
    · exact hr.h.inj _ _ _ _ b k k' hy hy' e1 e2
  · intro i hi
    exact hr.h.dom i (by simpa using hi)
  · intro i y hi hrow hlt
    rcases hget i y hi with ⟨rfl, rfl⟩ | ⟨_, hy⟩
    · rcases hnb hrow with h | h
      · exact hr.h.box i x ho h hlt
      · omega
    · exact hr.h.box i y hy hrow hlt
section
variable {P : Program} {R : Option Nat} {cx : Cx} {Q : Post} {c : Code} {tm : Tm} {ob ob' : List (Option Ob)} {nt : Nat} {gh : List Tm} {ls : Option Code}
/-- An own row keeps its place from here on. -/
theorem AW.pin (o : Nat) {ty sz n : Nat} {cs : List LV} (hz : ob[o]? = some (some ⟨ty, sz, true, none, cs⟩)) (hn : cx.nb = n) (ho : n ≤ o) (h : ob.set o (some ⟨ty, sz, false, some 0, cs⟩) = ob') (k : AW P R cx c Q ⟨tm, ob', nt, gh, ls⟩) : AW P R cx c Q ⟨tm, ob, nt, gh, ls⟩ := by
  subst h
  exact AW.weak (Weak.flip o (x' := ⟨ty, sz, false, some 0, cs⟩) hz rfl rfl rfl rfl rfl (fun h => by simp at h) (fun _ => .inr (by omega))) k
/-- It need not any more. -/
theorem AW.unpin (o : Nat) {ty sz : Nat} {cs : List LV} (hz : ob[o]? = some (some ⟨ty, sz, false, some 0, cs⟩)) (h : ob.set o (some ⟨ty, sz, true, none, cs⟩) = ob') (k : AW P R cx c Q ⟨tm, ob', nt, gh, ls⟩) : AW P R cx c Q ⟨tm, ob, nt, gh, ls⟩ := by
  subst h
  exact AW.weak (Weak.flip o (x' := ⟨ty, sz, true, none, cs⟩) hz rfl rfl rfl rfl rfl (fun _ => rfl) (fun h => by simp at h)) k
theorem AW.label {l : Nat} {st : St} (h : Q .normal st) : AW P R cx (.label l) Q st := fun σ a w hr => wpIn_label ⟨σ, st, hr, h⟩
theorem stepR_scope {P : Program} {b : Frame} {a : Act} {k : List Go.Item} {cs : List Frame} {w : World} {c : Code} : step P (lone (b.atR a (.code (.scope c) :: k)) cs w) = .next (lone (b.atR a (.code c :: .inScope c :: k)) cs w) :=
  step_lone_go (by simp [stepG, stepG.exec, Frame.atR])
theorem stepR_inScope {P : Program} {b : Frame} {a : Act} {k : List Go.Item} {cs : List Frame} {w : World} {c : Code} : step P (lone (b.atR a (.inScope c :: k)) cs w) = .next (lone (b.atR a k) cs w) :=
  step_lone_go (by simp [stepG, stepG.exec, Frame.atR])
/-- A scope that no goto leaves. -/
theorem wpIn_scope {F : Fence} {n : Nat} {P : Program} {Q : Exit → Act → World → Prop} {a : Act} {w : World} {c : Code} (h : c.wpIn F n P Q a w) (hg : ∀ l a w, ¬ Q (.goto l) a w) : (Code.scope c).wpIn F n P Q a w := by
  intro b k cs hro hb hr
  have h0 : (lone (b.atR a (.code (.scope c) :: k)) cs w).fenced P F := fenced_calm hb hr rfl
  obtain ⟨e, a₁, w₁, hq, harr⟩ := h b (.inScope c :: k) cs hro hb hr
  cases e with
  | normal => exact ⟨.normal, a₁, w₁, hq, .head h0 stepR_scope (StepsIn.trans harr (.one (fenced_calm hb hr rfl) stepR_inScope))⟩
  | exit id' =>
    have hx : exitTo id' (.inScope c :: k) = exitTo id' k := by simp [exitTo]
    exact ⟨.exit id', a₁, w₁, hq, fun k' hk => .head h0 stepR_scope (harr.1 k' (by rw [hx]; exact hk)),
      fun hr' hk => let ⟨k₁, h1, h2⟩ := harr.2 hr' (by rw [hx]; exact hk); ⟨k₁, h1, .head h0 stepR_scope h2⟩⟩
  | goto l => exact absurd hq (hg l a₁ w₁)
  | ret => exact ⟨_, a₁, w₁, hq, .of_steps (.one h0 stepR_scope) harr⟩
  | panic ch => exact ⟨_, a₁, w₁, hq, .of_steps (.one h0 stepR_scope) harr⟩
  | outgrown => exact ⟨_, a₁, w₁, hq, .of_steps (.one h0 stepR_scope) harr⟩
theorem AW.scope {st : St} (hq : ∀ l s, ¬ Q (.goto l) s) (h : AW P R cx c Q st) : AW P R cx (.scope c) Q st := fun σ a w hr => wpIn_scope (h σ a w hr) fun l a' w' ⟨σ', s, _, hs⟩ => hq l s hs
end
end Go.Proofs.Ytaibolmbafacpaa

/- Shallow code: what walks that are printed by a program are told by. -/
namespace Go.Proofs.Ytaibolmbafacpaa
open Go Go.RowKit
set_option linter.unusedVariables false
set_option linter.unusedSimpArgs false

/-! ### Code of values -/
section
variable {α β γ : Type}
def lt (a : α) (k : α → Option β) : Option β := k a
theorem lt_eq (a : α) (k : α → Option β) : lt a k = k a := rfl
theorem ltE {a : α} {k : α → Option β} {r : β} (h : lt a k = some r) : ∃ x, x = a ∧ k x = some r := ⟨a, rfl, h⟩
def bn (m : Option α) (k : α → Option β) : Option β := m.bind k
theorem bn_some (a : α) (k : α → Option β) : bn (some a) k = k a := rfl
theorem bnE {m : Option α} {k : α → Option β} {r : β} (h : bn m k = some r) : ∃ x, m = some x ∧ k x = some r := Option.bind_eq_some_iff.1 h
/-- What follows is for where all went on; what went off goes by. -/
def bf (m : Option (α ⊕ γ)) (k : α → Option (β ⊕ γ)) : Option (β ⊕ γ) := m.bind fun | .inl a => k a | .inr c => some (.inr c)
def chk (b : Bool) (k : Option β) : Option β := bif b then k else none
theorem chkE {b : Bool} {k : Option β} {r : β} (h : chk b k = some r) : b = true ∧ k = some r := by
  cases b
  · simp [chk] at h
  · exact ⟨rfl, h⟩
def ite' (b : Bool) (x y : Option β) : Option β := bif b then x else y
theorem iteT {b : Bool} {x y : Option β} {r : β} (hb : b = true) (h : ite' b x y = some r) : x = some r := by subst hb; exact h
theorem iteF {b : Bool} {x y : Option β} {r : β} (hb : b = false) (h : ite' b x y = some r) : y = some r := by subst hb; exact h
theorem ite_t (x y : Option β) : ite' true x y = x := rfl
theorem ite_f (x y : Option β) : ite' false x y = y := rfl
/-- Rounds, at most n. -/
def iter : Nat → (α → Option (α ⊕ β)) → α → Option β
  | 0, _, _ => none
  | n + 1, f, a => match f a with
    | some (.inl a') => iter n f a'
    | some (.inr b) => some b
    | none => none
theorem iter_inl {n : Nat} {f : α → Option (α ⊕ β)} {a a' : α} (h : f a = some (.inl a')) : iter (n + 1) f a = iter n f a' := by rw [iter, h]
theorem iter_inr {n : Nat} {f : α → Option (α ⊕ β)} {a : α} {b : β} (h : f a = some (.inr b)) : iter (n + 1) f a = some b := by rw [iter, h]
def nth (l : List α) (i : Int) : Option α := if 0 ≤ i then l[i.toNat]? else none
theorem nth_d {l : List α} {i : Int} {x : α} (h : nth l i = some x) : 0 ≤ i ∧ l[i.toNat]? = some x := by
  unfold nth at h
  split at h
  · exact ⟨by assumption, h⟩
  · simp at h
theorem nth_lt {l : List α} {i : Int} {x : α} (h : nth l i = some x) : i.toNat < l.length ∧ i < (l.length : Int) := by
  have h1 := (List.getElem?_eq_some_iff.1 (nth_d h).2).1
  have h2 := (nth_d h).1
  exact ⟨h1, by omega⟩
theorem nth_nat (l : List α) (i : Nat) : nth l (i : Int) = l[i]? := by simp [nth]
def seg (l : List α) (a b : Int) : Option (List α) := if 0 ≤ a ∧ a ≤ b ∧ b ≤ l.length then some ((l.drop a.toNat).take (b.toNat - a.toNat)) else none
def segS (s : ByteArray) (a b : Int) : Option ByteArray := if 0 ≤ a ∧ a ≤ b ∧ b ≤ s.size then some (s.extract a.toNat b.toNat) else none
def segSl (s : ByteArray) (a : Int) : Option ByteArray := if 0 ≤ a ∧ a ≤ s.size then some (s.extract a.toNat s.size) else none
def segSh (s : ByteArray) (b : Int) : Option ByteArray := if 0 ≤ b ∧ b ≤ s.size then some (s.extract 0 b.toNat) else none
def segSlh (s : ByteArray) (a b : Int) : Option ByteArray := segS s a b
def atS (s : ByteArray) (i : Int) : Option Int := if 0 ≤ i ∧ i.toNat < s.size then some (bAt s i.toNat) else none
theorem atS_d {s : ByteArray} {i x : Int} (h : atS s i = some x) : 0 ≤ i ∧ i.toNat < s.size ∧ bAt s i.toNat = x ∧ i < (s.size : Int) := by
  unfold atS at h
  split at h
  · rename_i hc
    simp at h
    exact ⟨hc.1, hc.2, h, by omega⟩
  · simp at h
/-- A row may grow so far. -/
def room (n b : Nat) : Bool := decide (n * b ≤ 140737488355328 ∧ n ≤ 140737488355328)
def posN (n : Nat) : Bool := decide (0 < n)
theorem posN_d {n : Nat} (h : posN n = true) : 0 < n := by simpa [posN] using h
theorem room_d {n b : Nat} (h : room n b = true) : n * b ≤ 140737488355328 ∧ n ≤ 140737488355328 := by simpa [room] using h
end
def addI (k : IntKind) (a b : Int) : Int := k.wrap (a + b)
def subI (k : IntKind) (a b : Int) : Int := k.wrap (a - b)
def mulI (k : IntKind) (a b : Int) : Int := k.wrap (a * b)
def quoI (k : IntKind) (a b : Int) : Option Int := if b ≠ 0 then some (k.wrap (a.tdiv b)) else none
def remI (k : IntKind) (a b : Int) : Option Int := if b ≠ 0 then some (a.tmod b) else none
def andI (k : IntKind) (a b : Int) : Int := k.wrap (BitVec.ofInt k.bits a &&& BitVec.ofInt k.bits b).toNat
def orI (k : IntKind) (a b : Int) : Int := k.wrap (BitVec.ofInt k.bits a ||| BitVec.ofInt k.bits b).toNat
def xorI (k : IntKind) (a b : Int) : Int := k.wrap (BitVec.ofInt k.bits a ^^^ BitVec.ofInt k.bits b).toNat
def shlI (k : IntKind) (a b : Int) : Option Int := if 0 ≤ b then some (k.wrap (a * 2 ^ (min b.toNat k.bits))) else none
def shrI (k : IntKind) (a b : Int) : Option Int := if 0 ≤ b then some (a.fdiv (2 ^ (min b.toNat k.bits))) else none
def negI (k : IntKind) (a : Int) : Int := k.wrap (0 - a)
def cvI (k : IntKind) (a : Int) : Int := k.wrap a
def minI (a b : Int) : Int := min a b
def maxI (a b : Int) : Int := max a b
def eqI (a b : Int) : Bool := decide (a = b)
def neI (a b : Int) : Bool := !decide (a = b)
def ltI (a b : Int) : Bool := decide (a < b)
def leI (a b : Int) : Bool := decide (a ≤ b)
def gtI (a b : Int) : Bool := decide (b < a)
def geI (a b : Int) : Bool := decide (b ≤ a)
def eqS (a b : ByteArray) : Bool := decide (a = b)
def neS (a b : ByteArray) : Bool := !decide (a = b)
def ltS (a b : ByteArray) : Bool := slt a b
def leS (a b : ByteArray) : Bool := !slt b a
def gtS (a b : ByteArray) : Bool := slt b a
def geS (a b : ByteArray) : Bool := !slt a b
def catS (a b : ByteArray) : Option ByteArray := if a.size + b.size ≤ 9223372036854775807 then some (a ++ b) else none
def eqB (a b : Bool) : Bool := decide (a = b)
def neB (a b : Bool) : Bool := !decide (a = b)
def notB (a : Bool) : Bool := !a
@[simp] theorem notB_t : notB true = false := rfl
@[simp] theorem notB_f : notB false = true := rfl
def andB (a b : Bool) : Bool := a && b
def lenI {α : Type} (l : List α) : Int := (l.length : Int)
def lenS (s : ByteArray) : Int := (s.size : Int)
theorem lenI_cast {α : Type} {l : List α} {n : Int} (h : n = lenI l) : (l.length : Int) = n := h.symm
section
variable {k : IntKind} {a b c : Int}
end
/-- What some function of the kit's own does with a word of its own. -/
def wo {α : Type} (x : Option α) (k : α → Prop) : Prop := wh x k
/-! ### Structure of code -/
section
variable {α β γ : Type} {P : Program} {R : Option Nat} {cx : Cx} {Q : Post} {c c' : Code} {st st' : St} {tm tm' : Tm} {ob ob' : List (Option Ob)} {nt : Nat} {gh gh' : List Tm} {ls : Option Code}
/-- Code that went on: where its state is told by a. -/
def nP (mk : α → St) (a : α) : Post := fun e s => e = .normal ∧ Weak cx s (mk a)
def xP (id : Nat) (mk : α → St) (a : α) : Post := fun e s => e = .exit id ∧ Weak cx s (mk a)
def rP (fn : Func) (res : β → AV) (obs : β → List (Option Ob)) (q : β) : Post := fun e s => e = .ret ∧ Left P cx fn (res q) (obs q) s
def sp (p : α → Post) (q : β → Post) : α ⊕ β → Post
  | .inl a => p a
  | .inr b => q b
theorem sp_l {p : α → Post} {q : β → Post} {a : α} : sp p q (.inl a) = p a := rfl
theorem sp_r {p : α → Post} {q : β → Post} {b : β} : sp p q (.inr b) = q b := rfl
theorem nP_i {mk : α → St} {a : α} {s : St} (h : Weak cx s (mk a)) : nP (cx := cx) mk a .normal s := ⟨rfl, h⟩
theorem xP_i {id : Nat} {mk : α → St} {a : α} {s : St} (h : Weak cx s (mk a)) : xP (cx := cx) id mk a (.exit id) s := ⟨rfl, h⟩
theorem rP_i {fn : Func} {res : β → AV} {obs : β → List (Option Ob)} {q : β} {s : St} (h : Left P cx fn (res q) (obs q) s) : rP (P := P) (cx := cx) fn res obs q .ret s := ⟨rfl, h⟩
theorem noX {id : Nat} {mk : α → St} : ∀ a s, ¬ xP (cx := cx) id mk a .normal s := fun a s h => by simp [xP] at h
theorem noR {fn : Func} {res : β → AV} {obs : β → List (Option Ob)} : ∀ q s, ¬ rP (P := P) (cx := cx) fn res obs q .normal s := fun a s h => by simp [rP] at h
theorem noS {p : α → Post} {q : β → Post} (h1 : ∀ a s, ¬ p a .normal s) (h2 : ∀ b s, ¬ q b .normal s) : ∀ y s, ¬ sp p q y .normal s
  | .inl a, s => h1 a s
  | .inr b, s => h2 b s
def sm (y : α ⊕ β) (f : α → Option γ) (g : β → Option γ) : Option γ := match y with | .inl a => f a | .inr b => g b
theorem smL {a : α} {f : α → Option γ} {g : β → Option γ} {r : γ} (h : sm (.inl a) f g = some r) : f a = some r := h
theorem smR {b : β} {f : α → Option γ} {g : β → Option γ} {r : γ} (h : sm (.inr b) f g = some r) : g b = some r := h
/-- Code, told by what it leaves; what follows may look at less. -/
theorem AW.flowR {p : List Tm → Option Code → Post} (hc : AW P R cx c (p gh ls) ⟨tm, ob, nt, gh, ls⟩) (k : ∀ e s, p gh ls e s → ∃ s2, Weak cx s s2 ∧ Q e s2) : AW P R cx c Q ⟨tm, ob, nt, gh, ls⟩ := by
  intro σ a w hr
  refine wpIn_mono (hc σ a w hr) ?_
  rintro e a' w' ⟨σ', s, hs, hp⟩
  obtain ⟨s2, hw, hq⟩ := k e s hp
  obtain ⟨σ2, hs2⟩ := hw σ' a' w' hs
  exact ⟨σ2, s2, hs2, hq⟩
theorem AW.flow {p : List Tm → Option Code → Post} (hc : AW P R cx c (p gh ls) ⟨tm, ob, nt, gh, ls⟩) (k : ∀ e s, p gh ls e s → ∃ s2, Weak cx s s2 ∧ Post.seq (AW P R cx c' Q) Q e s2) : AW P R cx (.seq c c') Q ⟨tm, ob, nt, gh, ls⟩ :=
  AW.seq (AW.flowR hc k)
/-- A loop, told by its rounds. -/
theorem AW.iterP {n : Nat} {f : α → Option (α ⊕ β)} {a0 : α} {b : β} (h : iter n f a0 = some b) {mk : List Tm → Option Code → α → St} {N : List Tm → Option Code → β → Post} (h0 : Weak cx ⟨tm, ob, nt, gh, ls⟩ (mk gh ls a0)) (hN : ∀ b s, ¬ N gh ls b .normal s)
    (body : ∀ a o, f a = some o → AW P R cx c (sp (nP (cx := cx) (mk gh ls)) (N gh ls) o) (mk gh ls a)) (k : ∀ e s, N gh ls b e s → ∃ s2, Weak cx s s2 ∧ Q e s2) : AW P R cx (.loop c) Q ⟨tm, ob, nt, gh, ls⟩ := by
  refine AW.flowR (p := fun gh ls => N gh ls b) ?_ k
  refine AW.loop (fun s m => ∃ a, s = mk gh ls a ∧ iter m f a = some b) (n := n) ⟨_, h0, a0, rfl, h⟩ ?_
  rintro s m ⟨a, rfl, hm⟩
  cases m with
  | zero => simp [iter] at hm
  | succ m =>
    rw [iter] at hm
    cases hf : f a with
    | none => rw [hf] at hm; simp at hm
    | some o =>
      rw [hf] at hm
      refine AW.mono (body a o hf) ?_
      intro e s' hs
      cases o with
      | inl a' =>
        obtain ⟨rfl, hw⟩ := hs
        exact ⟨_, m, hw, ⟨a', rfl, hm⟩, Nat.lt_succ_self m⟩
      | inr b' =>
        simp at hm
        subst hm
        have hs' : N gh ls b' e s' := hs
        cases e with
        | normal => exact (hN _ _ hs').elim
        | _ => exact hs'
/-- Code that gave back, inside a range over a function. -/
def tP (mk : α → St) (a : α) : Post := fun e s => e = .ret ∧ Weak cx s (mk a)
theorem Weak.mixB (nb : Nat) (ids : List (Option Nat)) (hn : cx.nb = nb) (hpre : ids.take nb = idr nb) (hnd : (ids.filterMap fun x => x).Nodup) (htm : ∀ e ∈ tm', (lk tm e.1).ren (inv ids) = e.2) (hob : pickOb ids ob = ob') (hgh : gh.map (Tm.ren (inv ids)) = gh') :
    Weak cx ⟨tm, ob, nt, gh, ls⟩ ⟨tm', ob', nt, gh', ls⟩ := by
  subst hob
  subst hgh
  have key : ∀ l : Tm, (∀ e ∈ l, (lk tm e.1).ren (inv ids) = e.2) → ∀ i, lk l i = (lk tm i).ren (inv ids) ∨ lk l i = .l .u := by
    intro l
    induction l with
    | nil => intro _ i; exact .inr rfl
    | cons e l ih =>
      intro h i
      rw [lk_cons]
      split
      · rename_i hi
        subst hi
        exact .inl (h e (by simp)).symm
      · exact ih (fun e' he' => h e' (by simp [he'])) i
  have hlen : nb ≤ ids.length := by
    have := congrArg List.length hpre
    simp [idr] at this
    omega
  refine Weak.ren (st := ⟨tm, ob, nt, gh, ls⟩) ids tm' (nd_of ids hnd) (by omega) (fun i o hi ho => ?_) (key tm' htm)
  rw [hn] at hi
  have h1 : (ids.take nb)[i]? = some (some o) := by rw [List.getElem?_take_of_lt hi]; exact ho
  rw [hpre, idr, List.getElem?_map, List.getElem?_range hi] at h1
  simp at h1
  exact h1.symm
theorem W.nilRow (i ty sz n : Nat) {s' : St} (h : lk tm i = .l (.s (.slice none 0 0))) (hn : ob.length = n) (ho : ob ++ [some ⟨ty, sz, true, none, []⟩] = ob') (k : Weak cx ⟨(i, .l (.r n sz 0 0)) :: tm, ob', nt, gh, ls⟩ s') : Weak cx ⟨tm, ob, nt, gh, ls⟩ s' := by
  subst hn
  subst ho
  exact Weak.trans (Weak.nilRow (st := ⟨tm, ob, nt, gh, ls⟩) i ty sz h) k
theorem Weak.nilD (i sz : Nat) (h : lk tm i = .l (.s (.slice none 0 0))) : Weak cx ⟨tm, ob, nt, gh, ls⟩ ⟨(i, .l (.d false sz [])) :: tm, ob, nt, gh, ls⟩ := by
  intro σ a w hr
  have hv := hr.tm i
  rw [h] at hv
  refine ⟨σ, hr.h, fun j => ?_, hr.nt, hr.gh, hr.dm⟩
  show RelV _ _ _ _ _ (lk ((i, .l (.d false sz [])) :: tm) j)
  rw [lk_cons]
  split
  · rename_i e
    subst e
    have e := hv.1
    show Rd w _ _ _
    rw [e]
    exact .sl none 0 0 sz [] 0 0 (fun _ _ => undef) rfl (Nat.le_refl _) (by omega) (fun e he => by simp at he) (fun h => by omega) (fun _ => rfl) (fun i j hi => by omega) (fun i j e t he => by simp at he)
  · exact hr.tm j
theorem W.nilD (i sz : Nat) {s' : St} (h : lk tm i = .l (.s (.slice none 0 0))) (k : Weak cx ⟨(i, .l (.d false sz [])) :: tm, ob, nt, gh, ls⟩ s') : Weak cx ⟨tm, ob, nt, gh, ls⟩ s' := Weak.trans (Weak.nilD i sz h) k
theorem W.nilCellD (o j sz : Nat) {z : Ob} {s' : St} (hz : ob[o]? = some (some z)) (hj : z.cs[j]? = some (.s (.slice none 0 0))) (hrow : z.row = false) (ho : ob.set o (some { z with cs := z.cs.set j (.d false sz []) }) = ob') (k : Weak cx ⟨tm, ob', nt, gh, ls⟩ s') : Weak cx ⟨tm, ob, nt, gh, ls⟩ s' := by
  subst ho
  exact Weak.trans (Weak.nilCellD (z := z) o j sz hz hj hrow) k
theorem W.nilCell (o j ty sz n : Nat) {z : Ob} {s' : St} (hz : ob[o]? = some (some z)) (hj : z.cs[j]? = some (.s (.slice none 0 0))) (hrow : z.row = false) (hn : ob.length = n) (ho : ob.set o (some { z with cs := z.cs.set j (.r n sz 0 0) }) ++ [some ⟨ty, sz, true, none, []⟩] = ob') (k : Weak cx ⟨tm, ob', nt, gh, ls⟩ s') : Weak cx ⟨tm, ob, nt, gh, ls⟩ s' := by
  subst hn
  subst ho
  exact Weak.trans (Weak.nilCell (z := z) o j ty sz hz hj hrow) k
theorem W.frzRow (o : Nat) {ty sz : Nat} {cap : Option Nat} {es : List (List T)} {s' : St} (hz : ob[o]? = some (some ⟨ty, sz, true, cap, lvs es⟩)) (h0 : 0 < sz) (hes : ∀ e ∈ es, e.length = sz)
    (hm : es.length ≤ 140737488355328) (h1 : Tm.frz o sz es tm = tm') (h2 : (ob.set o none).map (Option.map (Ob.frz o sz es)) = ob') (h3 : gh.map (Tm.frz o sz es) = gh') (k : Weak cx ⟨tm', ob', nt, gh', ls⟩ s') : Weak cx ⟨tm, ob, nt, gh, ls⟩ s' := by
  subst h1
  subst h2
  subst h3
  exact Weak.trans (Weak.freeze (st := ⟨tm, ob, nt, gh, ls⟩) (o := o) (sz := sz) (z := ⟨ty, sz, true, cap, lvs es⟩) (es := es) (by simp [St.obj, hz]) rfl rfl h0 rfl hes hm) k
end
section
variable {P : Program} {st : St} {t e o n k : Nat} {x : AV} {z : List Value} {ag : Bool} {sz by' : Nat} {acc ys : List (List T)} {d : Option Nat} {K : St → Prop}
theorem xapp_nilpush (he : elemF P t = some e) (hti : tiF P e = some ⟨ag, sz, by', z⟩) (hq : st.src sz x = some (k, lvs ys)) (h1 : z.length = sz ∧ 0 < sz ∧ 0 < by') (h4 : k * by' ≤ 140737488355328)
    (hk : K ((st.add ⟨e, sz, true, none, lvs ys⟩).put d (.l (.r st.ob.length sz 0 k)))) : xapp P t (.l (.s (.slice none 0 0))) x st d K := by
  simp only [xapp, he, hti, wh_some, hq]
  exact ⟨h1.1, h1.2.1, h1.2.2, h4, hk⟩
theorem xapp_epush (he : elemF P t = some e) (hti : tiF P e = some ⟨ag, sz, by', z⟩) (hq : st.src sz x = some (k, lvs ys)) (h1 : z.length = sz ∧ 0 < sz ∧ 0 < by') (h0 : 0 < k) (h4 : k * by' ≤ 140737488355328)
    (hk : K ((st.add ⟨e, sz, true, none, lvs ys⟩).put d (.l (.r st.ob.length sz 0 k)))) : xapp P t (.l .e) x st d K := by
  simp only [xapp, he, hti, wh_some, hq]
  exact ⟨h1.1, h1.2.1, h1.2.2, h0, h4, hk⟩
/-- Data is pushed to the end of an own row of data; what comes is told as a new object. -/
theorem xapp_pushN {t e n k : Nat} {x : AV} {z : List Value} {ag : Bool} {sz by' o : Nat} {cap : Option Nat} {acc ys : List (List T)} {d : Option Nat} {K : St → Prop} (he : elemF P t = some e) (hti : tiF P e = some ⟨ag, sz, by', z⟩) (hz : st.obj o = some ⟨e, sz, true, cap, lvs acc⟩)
    (hq : st.src sz x = some (k, lvs ys)) (hacc : ∀ e ∈ acc, e.length = sz) (hn : acc.length = n) (h1 : z.length = sz ∧ 0 < sz ∧ 0 < by') (h4 : (n + k) * by' ≤ 140737488355328)
    (hk : K (St.put { st with ob := st.ob.set o none ++ [some ⟨e, sz, true, none, lvs (acc ++ ys)⟩] } d (.l (.r st.ob.length sz 0 (n + k))))) : xapp P t (.l (.r o sz 0 n)) x st d K := by
  subst hn
  refine xapp_new (ti := ⟨ag, sz, by', z⟩) (q := (k, lvs ys)) he hti h1 hq hz ⟨rfl, rfl, rfl, rfl⟩ (by simp [lvs_length hacc]) h4 ?_
  rw [show (⟨e, sz, true, cap, lvs acc⟩ : Ob).cs ++ (k, lvs ys).2 = lvs (acc ++ ys) from (lvs_append _ _).symm]
  exact hk
end
@[simp] theorem lvs_nil : lvs [] = [] := rfl
theorem VwL.own' {st : St} {ids : List Nat} {o i sz lo hi hi' : Nat} (h : inv (ids.map some) o = some i) (e : hi = hi') : VwL st ids (.r o sz lo hi) (.r i sz lo hi') := by
  subst e
  exact .own h
def lenB {α β : Type} (l : List α) (m : List β) : Bool := decide (l.length = m.length)
theorem lenB_d {α β : Type} {l : List α} {m : List β} (h : lenB l m = true) : l.length = m.length := of_decide_eq_true h
theorem lenB_e {α β : Type} {l : List α} {m : List β} (h : lenB l m = true) : m.length = l.length := (lenB_d h).symm
theorem aliases_mono {C D : St → List AV → Prop} (h : ∀ s a, C s a → D s a) : ∀ (rs : List Nat) (st : St) (avs : List AV), aliases rs st avs C → aliases rs st avs D
  | [], _, _, hc => h _ _ hc
  | o :: rs, st, avs, ⟨x, h1, h2, h3⟩ => ⟨x, h1, h2, aliases_mono h rs _ _ h3⟩
theorem xcall_rowsN {P : Program} {f : Nat} {st : St} {dst : Option Nat} {K : St → Prop} {avs cargs : List AV} {obs : List Ob} {obs' : List (Option Ob)} {res : AV} (rs ids : List Nat) {st1 : St} {avs1 : List AV} (hal : aliases rs st avs fun s a => s = st1 ∧ a = avs1)
    (he : Enters P f) (hs : Sound P f cargs obs res obs') (hnd : ids.Nodup) (hlt : ids.all (fun i => decide (i < st1.ob.length)) = true) (hids : ids.all (fun i => decide (st.ob.length ≤ i)) = true) (hob : pickOb (ids.map some) st1.ob = obs.map some) (hrow : obs.all (·.row) = true) (hrow' : obs'.all (fun x => match x with | some y => y.row | none => true) = true)
    (hna : res.na = true) (hona : obs'.all (fun x => match x with | some x => x.na | none => true) = true) (hlen : ids.length ≤ obs'.length) (hv : All2 (Vw st1 ids) avs1 cargs)
    (hk : K (St.put { st with ob := obAfter st1 ids obs' } dst (res.ren (outR ids st1.ob.length)))) : xcall P f avs st dst K := by
  have key : ∀ i o : Nat, ids[i]? = some o → ∃ z, st1.ob[o]? = some (some z) ∧ z.row = true := by
    intro i o hi
    have h1 : (pickOb (ids.map some) st1.ob)[i]? = (obs.map some)[i]? := by rw [hob]
    have hl : ids.length = obs.length := by have := congrArg List.length hob; simpa [pickOb] using this
    have hlt := (List.getElem?_eq_some_iff.1 hi).1
    have h2 : obs[i]? = some obs[i] := List.getElem?_eq_getElem (by omega)
    rw [List.getElem?_map, h2] at h1
    obtain ⟨o', y, g1, g2, g3⟩ := pickOb_get h1
    rw [List.getElem?_map, hi] at g1
    simp at g1
    subst g1
    refine ⟨y, g2, ?_⟩
    have h3 := List.all_eq_true.1 hrow _ (List.mem_of_getElem? h2)
    rw [g3] at h3
    exact h3
  have hobj : ∀ o z, st1.ob[o]? = some (some z) → st1.obj o = some z := by
    intro o z h
    simp [St.obj, h]
  refine .inr (.inr ⟨rs, aliases_mono ?_ rs st avs hal⟩)
  rintro s a ⟨rfl, rfl⟩
  refine ⟨ids, obs, obs', res, cargs, he, hs, ⟨hnd, ?_, hob, ?_, ?_, hna, hona, hlen⟩, hv, ?_, hk⟩
  · intro i hi
    have := List.all_eq_true.1 hlt i hi
    simpa using this
  · intro i o z hi hz hr
    obtain ⟨z', hz', hr'⟩ := key i o hi
    rw [hobj o z' hz'] at hz
    simp at hz
    subst hz
    rw [hr'] at hr
    simp at hr
  · intro i o z y hi hz hy
    obtain ⟨z', hz', hr'⟩ := key i o hi
    rw [hobj o z' hz'] at hz
    simp at hz
    subst hz
    have := List.all_eq_true.1 hrow' _ (List.mem_of_getElem? hy)
    simp only at this
    rw [this, hr']
  · intro i hi
    have := List.all_eq_true.1 hids i hi
    simpa using this
@[simp] theorem lvs_frz (o sz : Nat) (fs es : List (List T)) : (lvs es).map (LV.frz o sz fs) = lvs es := by
  unfold lvs
  rw [List.map_flatMap]
  congr 1
  funext e
  rw [List.map_map]
  congr 1
  funext x
  cases x <;> rfl
/-- An operation that yields, among others: the loop's body runs as the n-th operation. -/
theorem xopsY.yield {P : Program} {cxI : Cx} {l nt : Nat} {ps : Array Tmp} {assign body : Code} {ops : Array Oper} {K : St → Prop} (hY : YCx cxI l nt ps assign body) (i n : Nat) {o : Oper} {c0 : Call} {g : Operand} {st : St} {tm1 : Tm} {ob1 : List (Option Ob)} {nt1 : Nat} {tmO : Tm} {gh : List Tm}
    (ho : ops[n]? = some o) (hop : o.op = .call c0) (hc : c0.callee = .value g) (hin : i ≤ n) {s1 : St} (hpre : xops P ops ((ops.toList.drop i).take (n - i)) st (fun s => s = s1)) (hs1 : s1 = ⟨tm1, ob1, nt1, tmO :: gh, none⟩)
    (hgd : match o.guard with | none => True | some (j, want) => yd ops ⟨tm1, ob1, nt1, tmO :: gh, none⟩ j = some (some want)) (hg : St.ev ⟨tm1, ob1, nt1, tmO :: gh, none⟩ g = .l (.s (.func (.yield l) #[] #[])))
    (hlen : c0.args.size = ps.size) {st2 : St} (hst2 : puts (ps.toList.zip (c0.args.toList.map (St.ev ⟨tm1, ob1, nt1, tmO :: gh, none⟩))) ⟨tmO, ob1, nt, tm1 :: tmO :: gh, none⟩ = st2)
    (h : ∀ cxR, cxR.nb = cxI.nb → AW P (some l) cxR assign (asgQ fun s1 => AW P (some l) cxR body (roundQ o.dst nt1 fun s3 => xopsY P none cxI ops (ops.toList.drop (n + 1)) (n + 1) s3 K) { s1 with ls := some .skip }) st2) :
    xopsY P none cxI ops (ops.toList.drop i) i st K := by
  subst hst2
  subst hs1
  have hn : n < ops.size := (Array.getElem?_eq_some_iff.1 ho).1
  have h1 : ops.toList.drop n = o :: ops.toList.drop (n + 1) := by
    have hl : n < ops.toList.length := by simpa using hn
    rw [List.drop_eq_getElem_cons hl]
    congr 1
    have := (Array.getElem?_eq_some_iff.1 ho).2
    simpa using this
  have hsplit : ops.toList.drop i = (ops.toList.drop i).take (n - i) ++ o :: ops.toList.drop (n + 1) := by
    rw [← h1]
    have : ops.toList.drop n = (ops.toList.drop i).drop (n - i) := by rw [List.drop_drop]; congr 1; omega
    rw [this, List.take_append_drop]
  have htl : ((ops.toList.drop i).take (n - i)).length = n - i := by simp; omega
  have key := xopsY_pre (P := P) (R := none) (cx := cxI) (ops := ops) (K := K) (s1 := ⟨tm1, ob1, nt1, tmO :: gh, none⟩) (o :: ops.toList.drop (n + 1)) ((ops.toList.drop i).take (n - i)) i st hsplit hpre (by
    rw [htl, show i + (n - i) = n by omega]
    show OpG P none cxI ops n _ _
    exact OpG.fam ho hgd (OpFam.yield hY hop hc hg rfl rfl hlen fun cxR hR => h cxR hR))
  rw [← hsplit] at key
  exact key
theorem AW.stepYK {P : Program} {R : Option Nat} {cx : Cx} {ops : Array Oper} {Q : Post} {st : St} {id : Nat} {c : Code} (h : xopsY P R cx ops (ops.toList.drop 0) 0 st (KK (AW P R cx c Q))) : AW P R cx (.seq (.region id ops false) c) Q st :=
  AW.stepY (KK (AW P R cx c Q)) h fun s hs => hs
theorem KD.mkN {tm : Tm} {ob : List (Option Ob)} {nt : Nat} {gh : List Tm} {ls : Option Code} : KD none (.l .u) tm ob nt gh ls ⟨tm, ob, nt, gh, ls⟩ := ⟨.l .u, fun _ => rfl, rfl, rfl, rfl, rfl, rfl⟩
theorem xopsY.run {P : Program} {R : Option Nat} {cx : Cx} {ops : Array Oper} {K : St → Prop} {st s1 : St} (i n : Nat) (hin : i ≤ n) (hn : n ≤ ops.size) (hpre : xops P ops ((ops.toList.drop i).take (n - i)) st (fun s => s = s1)) (k : xopsY P R cx ops (ops.toList.drop n) n s1 K) : xopsY P R cx ops (ops.toList.drop i) i st K := by
  have hsplit : ops.toList.drop i = (ops.toList.drop i).take (n - i) ++ ops.toList.drop n := by
    have : ops.toList.drop n = (ops.toList.drop i).drop (n - i) := by rw [List.drop_drop]; congr 1; omega
    rw [this, List.take_append_drop]
  have htl : ((ops.toList.drop i).take (n - i)).length = n - i := by simp; omega
  have key := xopsY_pre (P := P) (R := R) (cx := cx) (ops := ops) (K := K) (s1 := s1) (ops.toList.drop n) ((ops.toList.drop i).take (n - i)) i st hsplit hpre (by
    rw [htl, show i + (n - i) = n by omega]; exact k)
  rw [← hsplit] at key
  exact key
@[simp] theorem nl_eq (a : LV) : NilLe a a = True := eq_true (Or.inl rfl)
@[simp] theorem nl_nil (k : Nat) : NilLe (.s (.slice none 0 0)) (.d false k []) = True := eq_true (Or.inr ⟨rfl, k, rfl⟩)
theorem xrow_own {st : St} {dst : Option Nat} {e sz len : Nat} {cs : List LV} {p : Prop} {K : St → Prop} (k : K ((st.add ⟨e, sz, true, none, cs⟩).put dst (hdr st.ob.length sz len))) : xrow st dst e sz len cs p K := Or.inl ⟨cs, NilLe.refls cs, k⟩
theorem xrow_data {st : St} {dst : Option Nat} {e sz len : Nat} {cs : List LV} {p : Prop} {K : St → Prop} {es : List (List T)} (h : All2 NilLe cs (lvs es)) (hes : ∀ x ∈ es, x.length = sz) (h0 : 0 < sz) (hl : len = es.length)
    (k : K (st.put dst (.l (.d false sz es)))) : xrow st dst e sz len cs p K := Or.inr (.inl ⟨es, h, hes, h0, hl, k⟩)
theorem xrow_e {st : St} {dst : Option Nat} {e sz len : Nat} {cs : List LV} {p : Prop} {K : St → Prop} (hp : p) (h0 : len = 0) (k : K (st.put dst (.l .e))) : xrow st dst e sz len cs p K := Or.inr (.inr ⟨hp, h0, k⟩)
def strL (xs : List Int) : ByteArray := ⟨(xs.map fun x => UInt8.ofNat x.toNat).toArray⟩
theorem lvs1 (e : List T) : lvs [e] = e.map (T.lv false) := by simp [lvs]
theorem set_len {α : Type} {l m : List α} {i : Nat} {x : α} (h : m = l.set i x) : l.length = m.length := by simp [h]
theorem app_len1 {α : Type} {l k : List α} {x : α} (h : k = l ++ [x]) : l.length + 1 = k.length := by simp [h]
/-! ### Rows of elements that are told by a function -/
section
variable {α : Type} {r : α → List T} {n : Nat} {xs ys : List α} {i j k : Nat} {x x' : α} {cs : List LV}
theorem g_sz (hr : ∀ x, (r x).length = n) : ∀ e ∈ xs.map r, e.length = n := by
  intro e he
  obtain ⟨x, _, rfl⟩ := List.mem_map.1 he
  exact hr x
theorem g_get (hx : xs[i]? = some x) : (xs.map r)[i]? = some (r x) := by simp [hx]
theorem g_cell (hr : ∀ x, (r x).length = n) (hx : xs[i]? = some x) (hj : j < n) : (lvs (xs.map r))[i * n + j]? = (lvs [r x])[j]? := lvs_cell (g_sz hr) (g_get hx) hj
theorem g_cell0 (hr : ∀ x, (r x).length = n) (h0 : 0 < n) (hx : xs[i]? = some x) : (lvs (xs.map r))[i * n]? = (lvs [r x])[0]? := by
  have := lvs_cell (j := 0) (g_sz hr) (g_get (r := r) hx) h0
  simpa using this
theorem g_seg (hr : ∀ x, (r x).length = n) (hx : xs[i]? = some x) (hjk : j + k ≤ n) : ((lvs (xs.map r)).drop (i * n + j)).take k = ((lvs [r x]).drop j).take k := lvs_seg (g_sz hr) (g_get hx) hjk
theorem g_seg0 (hr : ∀ x, (r x).length = n) (hx : xs[i]? = some x) (hk : k ≤ n) : ((lvs (xs.map r)).drop (i * n)).take k = ((lvs [r x]).drop 0).take k := by
  have := lvs_seg (j := 0) (k := k) (g_sz hr) (g_get (r := r) hx) (by omega)
  simpa using this
theorem g_put (hr : ∀ x, (r x).length = n) (hx : xs[i]? = some x) (hy : ys = xs.set i x') (hj : j + cs.length ≤ n) (he : setAt (lvs [r x]) j cs = lvs [r x']) : setAt (lvs (xs.map r)) (i * n + j) cs = lvs (ys.map r) := by
  rw [lvs_put (g_sz hr) (g_get hx) hj he, hy, List.map_set]
theorem g_put0 (hr : ∀ x, (r x).length = n) (hx : xs[i]? = some x) (hy : ys = xs.set i x') (hj : cs.length ≤ n) (he : setAt (lvs [r x]) 0 cs = lvs [r x']) : setAt (lvs (xs.map r)) (i * n) cs = lvs (ys.map r) := by
  have := g_put (j := 0) hr hx hy (by omega) he
  simpa using this
theorem setAt_all {α : Type} {l cs : List α} (h : cs.length = l.length) : setAt l 0 cs = cs := by rw [setAt_eq _ _ _ (by omega), List.take_zero, List.nil_append, List.drop_eq_nil_of_le (by omega), List.append_nil]
theorem g_putW (hr : ∀ x, (r x).length = n) (hx : xs[i]? = some x) (hy : ys = xs.set i x') (hc : cs = lvs [r x']) : setAt (lvs (xs.map r)) (i * n) cs = lvs (ys.map r) := by
  have e1 : ∀ x, (lvs [r x]).length = n := fun x => by simp [lvs, hr]
  exact g_put0 hr hx hy (by rw [hc, e1]; omega) (by rw [setAt_all (by rw [hc, e1, e1]), hc])
theorem g_fit (hr : ∀ x, (r x).length = n) (hx : xs[i]? = some x) {m : Nat} (hm : m ≤ n) : i * n + m ≤ (lvs (xs.map r)).length := by
  have h1 := lvs_length (g_sz (xs := xs) hr)
  rw [h1, List.length_map]
  have hi := (List.getElem?_eq_some_iff.1 hx).1
  have h2 : (i + 1) * n ≤ xs.length * n := Nat.mul_le_mul_right _ hi
  rw [Nat.add_mul] at h2
  omega
end
section
variable {α : Type} {l m : List α} {a b : Int}
def segl (l : List α) (a : Int) : Option (List α) := if 0 ≤ a ∧ a ≤ l.length then some (l.drop a.toNat) else none
def segh (l : List α) (b : Int) : Option (List α) := if 0 ≤ b ∧ b ≤ l.length then some (l.take b.toNat) else none
def seglh (l : List α) (a b : Int) : Option (List α) := seg l a b
theorem segl_d (h : segl l a = some m) : 0 ≤ a ∧ a.toNat ≤ l.length ∧ l.drop a.toNat = m ∧ a ≤ (l.length : Int) := by
  unfold segl at h
  split at h
  · simp at h; exact ⟨by omega, by omega, h, by omega⟩
  · simp at h
variable {β : Type} {r : α → β}
theorem g_segl (h : segl l a = some m) : 0 ≤ a ∧ a.toNat ≤ l.length ∧ List.take (l.length - a.toNat) (List.drop a.toNat (l.map r)) = m.map r ∧ a ≤ (l.length : Int) := by
  obtain ⟨h1, h2, h3, h4⟩ := segl_d h
  refine ⟨h1, h2, ?_, h4⟩
  rw [← h3, List.map_drop, List.take_of_length_le]
  simp
end
/-- append to an own row: what comes of it is data at once. -/
theorem xapp_newD {P : Program} {t e n sz ob : Nat} {x : AV} {ti : TI} {q : Nat × List LV} {z : Ob} {st : St} {d : Option Nat} {K : St → Prop} {es : List (List T)} (he : elemF P t = some e) (hti : tiF P e = some ti) (h1 : ti.zero.length = ti.sz ∧ 0 < ti.sz ∧ 0 < ti.bytes) (hq : st.src ti.sz x = some q) (hz : st.obj ob = some z)
    (h2 : sz = ti.sz ∧ z.ty = e ∧ z.sz = ti.sz ∧ z.row = true) (h3 : z.cs.length = n * ti.sz) (h4 : (n + q.1) * ti.bytes ≤ 140737488355328) (h5 : n + q.1 ≤ 140737488355328) (g1 : All2 NilLe (z.cs ++ q.2) (lvs es)) (g2 : ∀ x ∈ es, x.length = ti.sz) (g3 : n + q.1 = es.length)
    (hk : K (St.put { st with ob := st.ob.set ob none ++ [none] } d (.l (.d false ti.sz es)))) : xapp P t (.l (.r ob sz 0 n)) x st d K := by
  simp only [xapp, he, hti, wh_some, hq, hz]
  exact ⟨h1.1, h1.2.1, h1.2.2, h2, .inr (.inr (.inr ⟨trivial, h3, h4, h5, es, g1, g2, g3, hk⟩))⟩
theorem xapp_data {P : Program} {t e n k : Nat} {x : AV} {z : List Value} {ag : Bool} {sz by' o : Nat} {cap : Option Nat} {acc ys : List (List T)} {st : St} {d : Option Nat} {K : St → Prop} (he : elemF P t = some e) (hti : tiF P e = some ⟨ag, sz, by', z⟩) (hz : st.obj o = some ⟨e, sz, true, cap, lvs acc⟩)
    (hq : st.src sz x = some (k, lvs ys)) (hacc : ∀ e ∈ acc, e.length = sz) (hys : ∀ e ∈ ys, e.length = sz) (hk' : ys.length = k) (hn : acc.length = n) (h1 : z.length = sz ∧ 0 < sz ∧ 0 < by') (h4 : (n + k) * by' ≤ 140737488355328) (h5 : n + k ≤ 140737488355328)
    (hk : K (St.put { st with ob := st.ob.set o none ++ [none] } d (.l (.d false sz (acc ++ ys))))) : xapp P t (.l (.r o sz 0 n)) x st d K := by
  subst hn
  refine xapp_newD (ti := ⟨ag, sz, by', z⟩) (q := (k, lvs ys)) (es := acc ++ ys) he hti h1 hq hz ⟨rfl, rfl, rfl, rfl⟩ (by simp [lvs_length hacc]) h4 h5 ?_ ?_ ?_ hk
  · rw [lvs_append]
    exact NilLe.refls _
  · intro y hy
    rcases List.mem_append.1 hy with hy | hy
    · exact hacc y hy
    · exact hys y hy
  · rw [List.length_append, hk']
/-! ### make -/
def mkB (n : Int) (b : Nat) : Bool := decide (0 ≤ n ∧ n.toNat * b ≤ 140737488355328 ∧ n ≤ 140737488355328)
theorem mkB_d {n : Int} {b : Nat} (h : mkB n b = true) : 0 ≤ n ∧ n.toNat * b ≤ 140737488355328 ∧ n ≤ 140737488355328 := of_decide_eq_true h
theorem rep_lvs {z : List Value} {ts : List T} (h : z.map LV.s = lvs [ts]) : ∀ m, (repZ m z).map LV.s = lvs (List.replicate m ts)
  | 0 => by simp [repZ, lvs]
  | m + 1 => by
    have e : repZ (m + 1) z = z ++ repZ m z := rfl
    rw [e, List.map_append, h, rep_lvs h m, List.replicate_succ]
    simp [lvs]
theorem All2.app {α β : Type} {R : α → β → Prop} : ∀ {l : List α} {m : List β} {l' : List α} {m' : List β}, All2 R l m → All2 R l' m' → All2 R (l ++ l') (m ++ m')
  | [], [], _, _, _, h => h
  | [], _ :: _, _, _, h, _ => h.elim
  | _ :: _, [], _, _, h, _ => h.elim
  | _ :: _, _ :: _, _, _, ⟨h1, h2⟩, h => ⟨h1, All2.app h2 h⟩
theorem rep_nil {z : List Value} {ts : List T} (h : All2 NilLe (z.map LV.s) (lvs [ts])) : ∀ m, All2 NilLe ((repZ m z).map LV.s) (lvs (List.replicate m ts))
  | 0 => by simp [repZ, lvs, All2]
  | m + 1 => by
    have e : repZ (m + 1) z = z ++ repZ m z := rfl
    have e2 : lvs (List.replicate (m + 1) ts) = lvs [ts] ++ lvs (List.replicate m ts) := by simp [lvs, List.replicate_succ]
    rw [e, e2, List.map_append]
    exact All2.app h (rep_nil h m)
section
variable {P : Program} {t e : Nat} {ti : TI} {n : Int} {k k' : IntKind} {st : St} {dst : Option Nat} {K : St → Prop} {α : Type} {enc : List α → List (List T)} {r : α → List T} {z : α} {v : List α}
theorem mkS_own (henc : ∀ l, enc l = l.map r) (hv : v = List.replicate n.toNat z) (he : elemF P t = some e) (hti : tiF P e = some ti) (hc : ti.zero.length = ti.sz ∧ ti.zero.all (·.oneCell') = true ∧ 0 < ti.sz)
    (hb : 0 ≤ n ∧ n.toNat * ti.bytes ≤ 140737488355328 ∧ n ≤ 140737488355328) (hz : ti.zero.map LV.s = lvs [r z]) (hk : K ((st.add ⟨e, ti.sz, true, none, lvs (enc v)⟩).put dst (hdr st.ob.length ti.sz v.length))) :
    xmakeS P t (.l (.s (.int k n))) (.l (.s (.int k' n))) st dst K := by
  have e1 : (repZ n.toNat ti.zero).map LV.s = lvs (enc v) := by rw [rep_lvs hz, henc, hv, List.map_replicate]
  have e2 : v.length = n.toNat := by rw [hv, List.length_replicate]
  simp only [xmakeS, he, hti, wh_some]
  refine ⟨hc, hb.1, Int.le_refl _, hb.2.1, hb.2.2, xrow_own ?_⟩
  rw [e1, ← e2]
  exact hk
theorem mkS_ownN (henc : ∀ l, enc l = l.map r) (hv : v = List.replicate n.toNat z) (he : elemF P t = some e) (hti : tiF P e = some ti) (hc : ti.zero.length = ti.sz ∧ ti.zero.all (·.oneCell') = true ∧ 0 < ti.sz)
    (hb : 0 ≤ n ∧ n.toNat * ti.bytes ≤ 140737488355328 ∧ n ≤ 140737488355328) (hz : All2 NilLe (ti.zero.map LV.s) (lvs [r z])) (hk : K ((st.add ⟨e, ti.sz, true, none, lvs (enc v)⟩).put dst (hdr st.ob.length ti.sz v.length))) :
    xmakeS P t (.l (.s (.int k n))) (.l (.s (.int k' n))) st dst K := by
  have e1 : enc v = List.replicate n.toNat (r z) := by rw [henc, hv, List.map_replicate]
  have e2 : v.length = n.toNat := by rw [hv, List.length_replicate]
  simp only [xmakeS, he, hti, wh_some]
  refine ⟨hc, hb.1, Int.le_refl _, hb.2.1, hb.2.2, Or.inl ⟨lvs (enc v), ?_, ?_⟩⟩
  · rw [e1]
    exact rep_nil hz _
  · rw [← e2]
    exact hk
theorem mkS_data (henc : ∀ l, enc l = l.map r) (hv : v = List.replicate n.toNat z) (he : elemF P t = some e) (hti : tiF P e = some ti) (hc : ti.zero.length = ti.sz ∧ ti.zero.all (·.oneCell') = true ∧ 0 < ti.sz)
    (hb : 0 ≤ n ∧ n.toNat * ti.bytes ≤ 140737488355328 ∧ n ≤ 140737488355328) (hz : All2 NilLe (ti.zero.map LV.s) (lvs [r z])) (hr : (r z).length = ti.sz) (hk : K (st.put dst (.l (.d false ti.sz (enc v))))) :
    xmakeS P t (.l (.s (.int k n))) (.l (.s (.int k' n))) st dst K := by
  have e1 : enc v = List.replicate n.toNat (r z) := by rw [henc, hv, List.map_replicate]
  simp only [xmakeS, he, hti, wh_some]
  refine ⟨hc, hb.1, Int.le_refl _, hb.2.1, hb.2.2, xrow_data (es := enc v) ?_ ?_ hc.2.2 ?_ hk⟩
  · rw [e1]
    exact rep_nil hz _
  · rw [e1]
    intro x hx
    rw [List.eq_of_mem_replicate hx]
    exact hr
  · rw [e1, List.length_replicate]
end
end Go.Proofs.Ytaibolmbafacpaa

/- The program's data types: rows of each. -/
namespace Go.Proofs.Ytaibolmbafacpaa
open Go Go.RowKit
set_option linter.unusedVariables false
set_option linter.unusedSimpArgs false
@[simp] theorem encU_tk (l : List Int) : (encU l).take l.length = encU l := List.take_of_length_le (by simp)
theorem encI_cell0 {xs : List Int} {i : Nat} {x : Int} (hx : xs[i]? = some x) : (lvs (encI xs))[i]? = (lvs [[.v (.int .i64 x)]])[0]? := by have := g_cell0 (r := fun x : Int => [.v (.int .i64 x)]) (n := 1) (fun _ => rfl) (by decide) hx; rw [Nat.mul_one] at this; exact this
theorem encI_put0 {xs ys : List Int} {i : Nat} {x x' : Int} {cs : List LV} (hx : xs[i]? = some x) (hy : ys = xs.set i x') (hj : cs.length ≤ 1) (he : setAt (lvs [[.v (.int .i64 x)]]) 0 cs = lvs [[.v (.int .i64 x')]]) : setAt (lvs (encI xs)) (i) cs = lvs (encI ys) := by have := g_put0 (r := fun x : Int => [.v (.int .i64 x)]) (n := 1) (fun _ => rfl) hx hy hj he; rw [Nat.mul_one] at this; exact this
theorem encI_fit {xs : List Int} {i : Nat} {x : Int} (hx : xs[i]? = some x) {m : Nat} (hm : m ≤ 1) : i + m ≤ (lvs (encI xs)).length := by have := g_fit (r := fun x : Int => [.v (.int .i64 x)]) (n := 1) (fun _ => rfl) hx hm; rw [Nat.mul_one] at this; exact this
@[simp] theorem encI_tk (l : List Int) : (encI l).take l.length = encI l := List.take_of_length_le (by simp)
theorem encClaim_seg0 {xs : List Claim} {i k : Nat} {x : Claim} (hx : xs[i]? = some x) (hk : k ≤ 4) : ((lvs (encClaim xs)).drop (i * 4)).take k = ((lvs [[.v (.int .i64 x.frm), .v (.int .i64 x.to), .v (.int .i64 x.node), .v (.int .i64 x.epoch)]]).drop 0).take k := g_seg0 (r := fun x : Claim => [.v (.int .i64 x.frm), .v (.int .i64 x.to), .v (.int .i64 x.node), .v (.int .i64 x.epoch)]) (fun _ => rfl) hx hk
theorem encClaim_put {xs ys : List Claim} {i j : Nat} {x x' : Claim} {cs : List LV} (hx : xs[i]? = some x) (hy : ys = xs.set i x') (hj : j + cs.length ≤ 4) (he : setAt (lvs [[.v (.int .i64 x.frm), .v (.int .i64 x.to), .v (.int .i64 x.node), .v (.int .i64 x.epoch)]]) j cs = lvs [[.v (.int .i64 x'.frm), .v (.int .i64 x'.to), .v (.int .i64 x'.node), .v (.int .i64 x'.epoch)]]) : setAt (lvs (encClaim xs)) (i * 4 + j) cs = lvs (encClaim ys) := g_put (r := fun x : Claim => [.v (.int .i64 x.frm), .v (.int .i64 x.to), .v (.int .i64 x.node), .v (.int .i64 x.epoch)]) (fun _ => rfl) hx hy hj he
theorem encClaim_fit {xs : List Claim} {i : Nat} {x : Claim} (hx : xs[i]? = some x) {m : Nat} (hm : m ≤ 4) : i * 4 + m ≤ (lvs (encClaim xs)).length := g_fit (r := fun x : Claim => [.v (.int .i64 x.frm), .v (.int .i64 x.to), .v (.int .i64 x.node), .v (.int .i64 x.epoch)]) (fun _ => rfl) hx hm
theorem encClaim_fitj {xs : List Claim} {i j : Nat} {x : Claim} (hx : xs[i]? = some x) {m : Nat} (hm : j + m ≤ 4) : i * 4 + j + m ≤ (lvs (encClaim xs)).length := by rw [Nat.add_assoc]; exact encClaim_fit hx hm
@[simp] theorem encClaim_tk (l : List Claim) : (encClaim l).take l.length = encClaim l := List.take_of_length_le (by simp)
theorem encClaim_segl {l m : List Claim} {a : Int} (h : segl l a = some m) : 0 ≤ a ∧ a.toNat ≤ l.length ∧ List.take (l.length - a.toNat) (List.drop a.toNat (encClaim l)) = encClaim m ∧ a ≤ (l.length : Int) := g_segl h
theorem encClaim_lvsA (al : Bool) (l : List Claim) : lvsA al (encClaim l) = lvs (encClaim l) := by simp [lvsA, lvs, encClaim, List.flatMap_map]
@[simp] theorem encS_tk (l : List ByteArray) : (encS l).take l.length = encS l := List.take_of_length_le (by simp)
@[simp] theorem encField_tk (l : List Field) : (encField l).take l.length = encField l := List.take_of_length_le (by simp)
def encLField (l : List (List Field)) : List (List T) := l.map fun x => [.sl 2 (encField x)]
@[simp] theorem encLField_length (l : List (List Field)) : (encLField l).length = l.length := by simp [encLField]
@[simp high] theorem encLField_get (l : List (List Field)) (i : Nat) : (encLField l)[i]? = (l[i]?).map fun x => [.sl 2 (encField x)] := by simp [encLField]
@[simp] theorem encLField_nil : encLField [] = [] := rfl
@[simp] theorem encLField_eq_nil (l : List (List Field)) : (encLField l = []) = (l = []) := by simp [encLField]
@[simp] theorem encLField_tk (l : List (List Field)) : (encLField l).take l.length = encLField l := List.take_of_length_le (by simp)
def encLS (l : List (List ByteArray)) : List (List T) := l.map fun x => [.sl 1 (encS x)]
@[simp] theorem encLS_length (l : List (List ByteArray)) : (encLS l).length = l.length := by simp [encLS]
@[simp high] theorem encLS_get (l : List (List ByteArray)) (i : Nat) : (encLS l)[i]? = (l[i]?).map fun x => [.sl 1 (encS x)] := by simp [encLS]
@[simp] theorem encLS_nil : encLS [] = [] := rfl
@[simp] theorem encLS_eq_nil (l : List (List ByteArray)) : (encLS l = []) = (l = []) := by simp [encLS]
@[simp] theorem encLS_tk (l : List (List ByteArray)) : (encLS l).take l.length = encLS l := List.take_of_length_le (by simp)
@[simp] theorem encItem_tk (l : List Item) : (encItem l).take l.length = encItem l := List.take_of_length_le (by simp)
theorem encPair_seg {xs : List Pair} {i j k : Nat} {x : Pair} (hx : xs[i]? = some x) (hjk : j + k ≤ 6) : ((lvs (encPair xs)).drop (i * 6 + j)).take k = ((lvs [[.v (.string x.key), .v (.int .i64 x.item.kind), .v (.string x.item.s), .sl 2 (encField x.item.f), .sl 1 (encS x.item.l), .v (.int .i64 x.item.exp)]]).drop j).take k := g_seg (r := fun x : Pair => [.v (.string x.key), .v (.int .i64 x.item.kind), .v (.string x.item.s), .sl 2 (encField x.item.f), .sl 1 (encS x.item.l), .v (.int .i64 x.item.exp)]) (fun _ => rfl) hx hjk
theorem encPair_put {xs ys : List Pair} {i j : Nat} {x x' : Pair} {cs : List LV} (hx : xs[i]? = some x) (hy : ys = xs.set i x') (hj : j + cs.length ≤ 6) (he : setAt (lvs [[.v (.string x.key), .v (.int .i64 x.item.kind), .v (.string x.item.s), .sl 2 (encField x.item.f), .sl 1 (encS x.item.l), .v (.int .i64 x.item.exp)]]) j cs = lvs [[.v (.string x'.key), .v (.int .i64 x'.item.kind), .v (.string x'.item.s), .sl 2 (encField x'.item.f), .sl 1 (encS x'.item.l), .v (.int .i64 x'.item.exp)]]) : setAt (lvs (encPair xs)) (i * 6 + j) cs = lvs (encPair ys) := g_put (r := fun x : Pair => [.v (.string x.key), .v (.int .i64 x.item.kind), .v (.string x.item.s), .sl 2 (encField x.item.f), .sl 1 (encS x.item.l), .v (.int .i64 x.item.exp)]) (fun _ => rfl) hx hy hj he
theorem encPair_fit {xs : List Pair} {i : Nat} {x : Pair} (hx : xs[i]? = some x) {m : Nat} (hm : m ≤ 6) : i * 6 + m ≤ (lvs (encPair xs)).length := g_fit (r := fun x : Pair => [.v (.string x.key), .v (.int .i64 x.item.kind), .v (.string x.item.s), .sl 2 (encField x.item.f), .sl 1 (encS x.item.l), .v (.int .i64 x.item.exp)]) (fun _ => rfl) hx hm
theorem encPair_fitj {xs : List Pair} {i j : Nat} {x : Pair} (hx : xs[i]? = some x) {m : Nat} (hm : j + m ≤ 6) : i * 6 + j + m ≤ (lvs (encPair xs)).length := by rw [Nat.add_assoc]; exact encPair_fit hx hm
@[simp] theorem encPair_tk (l : List Pair) : (encPair l).take l.length = encPair l := List.take_of_length_le (by simp)
structure Move where
  slot : Int
  to : Int
  num : Int
  key : ByteArray
deriving DecidableEq, Inhabited
attribute [ext] Move
def encMove (l : List Move) : List (List T) := l.map fun x => [.v (.int .i64 x.slot), .v (.int .i64 x.to), .v (.int .i64 x.num), .v (.string x.key)]
@[simp] theorem encMove_length (l : List Move) : (encMove l).length = l.length := by simp [encMove]
@[simp high] theorem encMove_get (l : List Move) (i : Nat) : (encMove l)[i]? = (l[i]?).map fun x => [.v (.int .i64 x.slot), .v (.int .i64 x.to), .v (.int .i64 x.num), .v (.string x.key)] := by simp [encMove]
@[simp] theorem encMove_nil : encMove [] = [] := rfl
theorem encMove_sz (l : List Move) : ∀ e ∈ encMove l, e.length = 4 := by
  intro e h
  obtain ⟨x, _, rfl⟩ := List.mem_map.1 h
  rfl
@[simp] theorem encMove_eq_nil (l : List Move) : (encMove l = []) = (l = []) := by simp [encMove]
@[simp] theorem encMove_tk (l : List Move) : (encMove l).take l.length = encMove l := List.take_of_length_le (by simp)
theorem encMove_lvsA (al : Bool) (l : List Move) : lvsA al (encMove l) = lvs (encMove l) := by simp [lvsA, lvs, encMove, List.flatMap_map]
structure Seen where
  node : Int
  slot : Int
  num : Int
deriving DecidableEq, Inhabited
attribute [ext] Seen
def encSeen (l : List Seen) : List (List T) := l.map fun x => [.v (.int .i64 x.node), .v (.int .i64 x.slot), .v (.int .i64 x.num)]
@[simp] theorem encSeen_length (l : List Seen) : (encSeen l).length = l.length := by simp [encSeen]
@[simp high] theorem encSeen_get (l : List Seen) (i : Nat) : (encSeen l)[i]? = (l[i]?).map fun x => [.v (.int .i64 x.node), .v (.int .i64 x.slot), .v (.int .i64 x.num)] := by simp [encSeen]
@[simp] theorem encSeen_nil : encSeen [] = [] := rfl
theorem encSeen_sz (l : List Seen) : ∀ e ∈ encSeen l, e.length = 3 := by
  intro e h
  obtain ⟨x, _, rfl⟩ := List.mem_map.1 h
  rfl
@[simp] theorem encSeen_eq_nil (l : List Seen) : (encSeen l = []) = (l = []) := by simp [encSeen]
@[simp] theorem encSeen_tk (l : List Seen) : (encSeen l).take l.length = encSeen l := List.take_of_length_le (by simp)
theorem encSeen_lvsA (al : Bool) (l : List Seen) : lvsA al (encSeen l) = lvs (encSeen l) := by simp [lvsA, lvs, encSeen, List.flatMap_map]
@[simp] theorem encRid_tk (l : List Rid) : (encRid l).take l.length = encRid l := List.take_of_length_le (by simp)
@[simp] theorem encB_tk (l : List Bool) : (encB l).take l.length = encB l := List.take_of_length_le (by simp)
theorem encEffect_seg {xs : List Effect} {i j k : Nat} {x : Effect} (hx : xs[i]? = some x) (hjk : j + k ≤ 7) : ((lvs (encEffect xs)).drop (i * 7 + j)).take k = ((lvs [[.v (.string x.key), .v (.bool x.gone), .v (.int .i64 x.item.kind), .v (.string x.item.s), .sl 2 (encField x.item.f), .sl 1 (encS x.item.l), .v (.int .i64 x.item.exp)]]).drop j).take k := g_seg (r := fun x : Effect => [.v (.string x.key), .v (.bool x.gone), .v (.int .i64 x.item.kind), .v (.string x.item.s), .sl 2 (encField x.item.f), .sl 1 (encS x.item.l), .v (.int .i64 x.item.exp)]) (fun _ => rfl) hx hjk
theorem encEffect_put {xs ys : List Effect} {i j : Nat} {x x' : Effect} {cs : List LV} (hx : xs[i]? = some x) (hy : ys = xs.set i x') (hj : j + cs.length ≤ 7) (he : setAt (lvs [[.v (.string x.key), .v (.bool x.gone), .v (.int .i64 x.item.kind), .v (.string x.item.s), .sl 2 (encField x.item.f), .sl 1 (encS x.item.l), .v (.int .i64 x.item.exp)]]) j cs = lvs [[.v (.string x'.key), .v (.bool x'.gone), .v (.int .i64 x'.item.kind), .v (.string x'.item.s), .sl 2 (encField x'.item.f), .sl 1 (encS x'.item.l), .v (.int .i64 x'.item.exp)]]) : setAt (lvs (encEffect xs)) (i * 7 + j) cs = lvs (encEffect ys) := g_put (r := fun x : Effect => [.v (.string x.key), .v (.bool x.gone), .v (.int .i64 x.item.kind), .v (.string x.item.s), .sl 2 (encField x.item.f), .sl 1 (encS x.item.l), .v (.int .i64 x.item.exp)]) (fun _ => rfl) hx hy hj he
theorem encEffect_fit {xs : List Effect} {i : Nat} {x : Effect} (hx : xs[i]? = some x) {m : Nat} (hm : m ≤ 7) : i * 7 + m ≤ (lvs (encEffect xs)).length := g_fit (r := fun x : Effect => [.v (.string x.key), .v (.bool x.gone), .v (.int .i64 x.item.kind), .v (.string x.item.s), .sl 2 (encField x.item.f), .sl 1 (encS x.item.l), .v (.int .i64 x.item.exp)]) (fun _ => rfl) hx hm
theorem encEffect_fitj {xs : List Effect} {i j : Nat} {x : Effect} (hx : xs[i]? = some x) {m : Nat} (hm : j + m ≤ 7) : i * 7 + j + m ≤ (lvs (encEffect xs)).length := by rw [Nat.add_assoc]; exact encEffect_fit hx hm
@[simp] theorem encEffect_tk (l : List Effect) : (encEffect l).take l.length = encEffect l := List.take_of_length_le (by simp)
def encLEffect (l : List (List Effect)) : List (List T) := l.map fun x => [.sl 7 (encEffect x)]
@[simp] theorem encLEffect_length (l : List (List Effect)) : (encLEffect l).length = l.length := by simp [encLEffect]
@[simp high] theorem encLEffect_get (l : List (List Effect)) (i : Nat) : (encLEffect l)[i]? = (l[i]?).map fun x => [.sl 7 (encEffect x)] := by simp [encLEffect]
@[simp] theorem encLEffect_nil : encLEffect [] = [] := rfl
@[simp] theorem encLEffect_eq_nil (l : List (List Effect)) : (encLEffect l = []) = (l = []) := by simp [encLEffect]
@[simp] theorem encLEffect_tk (l : List (List Effect)) : (encLEffect l).take l.length = encLEffect l := List.take_of_length_le (by simp)
@[simp] theorem encFeed_tk (l : List Feed) : (encFeed l).take l.length = encFeed l := List.take_of_length_le (by simp)
def encLI (l : List (List Int)) : List (List T) := l.map fun x => [.sl 1 (encI x)]
@[simp] theorem encLI_length (l : List (List Int)) : (encLI l).length = l.length := by simp [encLI]
@[simp high] theorem encLI_get (l : List (List Int)) (i : Nat) : (encLI l)[i]? = (l[i]?).map fun x => [.sl 1 (encI x)] := by simp [encLI]
@[simp] theorem encLI_nil : encLI [] = [] := rfl
theorem encLI_sz (l : List (List Int)) : ∀ e ∈ encLI l, e.length = 1 := by
  intro e h
  obtain ⟨x, _, rfl⟩ := List.mem_map.1 h
  rfl
@[simp] theorem encLI_eq_nil (l : List (List Int)) : (encLI l = []) = (l = []) := by simp [encLI]
theorem encLI_cell0 {xs : List (List Int)} {i : Nat} {x : List Int} (hx : xs[i]? = some x) : (lvs (encLI xs))[i]? = (lvs [[.sl 1 (encI x)]])[0]? := by have := g_cell0 (r := fun x : List Int => [.sl 1 (encI x)]) (n := 1) (fun _ => rfl) (by decide) hx; rw [Nat.mul_one] at this; exact this
theorem encLI_put0 {xs ys : List (List Int)} {i : Nat} {x x' : List Int} {cs : List LV} (hx : xs[i]? = some x) (hy : ys = xs.set i x') (hj : cs.length ≤ 1) (he : setAt (lvs [[.sl 1 (encI x)]]) 0 cs = lvs [[.sl 1 (encI x')]]) : setAt (lvs (encLI xs)) (i) cs = lvs (encLI ys) := by have := g_put0 (r := fun x : List Int => [.sl 1 (encI x)]) (n := 1) (fun _ => rfl) hx hy hj he; rw [Nat.mul_one] at this; exact this
theorem encLI_fit {xs : List (List Int)} {i : Nat} {x : List Int} (hx : xs[i]? = some x) {m : Nat} (hm : m ≤ 1) : i + m ≤ (lvs (encLI xs)).length := by have := g_fit (r := fun x : List Int => [.sl 1 (encI x)]) (n := 1) (fun _ => rfl) hx hm; rw [Nat.mul_one] at this; exact this
@[simp] theorem encLI_tk (l : List (List Int)) : (encLI l).take l.length = encLI l := List.take_of_length_le (by simp)
def encLLI (l : List (List (List Int))) : List (List T) := l.map fun x => [.sl 1 (encLI x)]
@[simp] theorem encLLI_length (l : List (List (List Int))) : (encLLI l).length = l.length := by simp [encLLI]
@[simp high] theorem encLLI_get (l : List (List (List Int))) (i : Nat) : (encLLI l)[i]? = (l[i]?).map fun x => [.sl 1 (encLI x)] := by simp [encLLI]
@[simp] theorem encLLI_nil : encLLI [] = [] := rfl
@[simp] theorem encLLI_eq_nil (l : List (List (List Int))) : (encLLI l = []) = (l = []) := by simp [encLLI]
@[simp] theorem encLLI_tk (l : List (List (List Int))) : (encLLI l).take l.length = encLLI l := List.take_of_length_le (by simp)
structure Watch where
  heard : List Int
  says : List (List Int)
deriving DecidableEq, Inhabited
attribute [ext] Watch
def encWatch (l : List Watch) : List (List T) := l.map fun x => [.sl 1 (encI x.heard), .sl 1 (encLI x.says)]
@[simp] theorem encWatch_length (l : List Watch) : (encWatch l).length = l.length := by simp [encWatch]
@[simp high] theorem encWatch_get (l : List Watch) (i : Nat) : (encWatch l)[i]? = (l[i]?).map fun x => [.sl 1 (encI x.heard), .sl 1 (encLI x.says)] := by simp [encWatch]
@[simp] theorem encWatch_nil : encWatch [] = [] := rfl
@[simp] theorem encWatch_eq_nil (l : List Watch) : (encWatch l = []) = (l = []) := by simp [encWatch]
@[simp] theorem encWatch_tk (l : List Watch) : (encWatch l).take l.length = encWatch l := List.take_of_length_le (by simp)
def encLClaim (l : List (List Claim)) : List (List T) := l.map fun x => [.sl 4 (encClaim x)]
@[simp] theorem encLClaim_length (l : List (List Claim)) : (encLClaim l).length = l.length := by simp [encLClaim]
@[simp high] theorem encLClaim_get (l : List (List Claim)) (i : Nat) : (encLClaim l)[i]? = (l[i]?).map fun x => [.sl 4 (encClaim x)] := by simp [encLClaim]
@[simp] theorem encLClaim_nil : encLClaim [] = [] := rfl
@[simp] theorem encLClaim_eq_nil (l : List (List Claim)) : (encLClaim l = []) = (l = []) := by simp [encLClaim]
@[simp] theorem encLClaim_tk (l : List (List Claim)) : (encLClaim l).take l.length = encLClaim l := List.take_of_length_le (by simp)
def encLPair (l : List (List Pair)) : List (List T) := l.map fun x => [.sl 6 (encPair x)]
@[simp] theorem encLPair_length (l : List (List Pair)) : (encLPair l).length = l.length := by simp [encLPair]
@[simp high] theorem encLPair_get (l : List (List Pair)) (i : Nat) : (encLPair l)[i]? = (l[i]?).map fun x => [.sl 6 (encPair x)] := by simp [encLPair]
@[simp] theorem encLPair_nil : encLPair [] = [] := rfl
@[simp] theorem encLPair_eq_nil (l : List (List Pair)) : (encLPair l = []) = (l = []) := by simp [encLPair]
@[simp] theorem encLPair_tk (l : List (List Pair)) : (encLPair l).take l.length = encLPair l := List.take_of_length_le (by simp)
def encLMove (l : List (List Move)) : List (List T) := l.map fun x => [.sl 4 (encMove x)]
@[simp] theorem encLMove_length (l : List (List Move)) : (encLMove l).length = l.length := by simp [encLMove]
@[simp high] theorem encLMove_get (l : List (List Move)) (i : Nat) : (encLMove l)[i]? = (l[i]?).map fun x => [.sl 4 (encMove x)] := by simp [encLMove]
@[simp] theorem encLMove_nil : encLMove [] = [] := rfl
@[simp] theorem encLMove_eq_nil (l : List (List Move)) : (encLMove l = []) = (l = []) := by simp [encLMove]
@[simp] theorem encLMove_tk (l : List (List Move)) : (encLMove l).take l.length = encLMove l := List.take_of_length_le (by simp)
def encLSeen (l : List (List Seen)) : List (List T) := l.map fun x => [.sl 3 (encSeen x)]
@[simp] theorem encLSeen_length (l : List (List Seen)) : (encLSeen l).length = l.length := by simp [encLSeen]
@[simp high] theorem encLSeen_get (l : List (List Seen)) (i : Nat) : (encLSeen l)[i]? = (l[i]?).map fun x => [.sl 3 (encSeen x)] := by simp [encLSeen]
@[simp] theorem encLSeen_nil : encLSeen [] = [] := rfl
@[simp] theorem encLSeen_eq_nil (l : List (List Seen)) : (encLSeen l = []) = (l = []) := by simp [encLSeen]
@[simp] theorem encLSeen_tk (l : List (List Seen)) : (encLSeen l).take l.length = encLSeen l := List.take_of_length_le (by simp)
structure Node where
  count : Int
  id : Int
  master : Int
  epoch : Int
  voted : Int
  claims : List Claim
  db : List Pair
  moves : List Move
  last : Int
  seen : List Seen
  feed : Feed
  watch : Watch
  asked : Int
  votes : List Int
  wait : Int
deriving DecidableEq, Inhabited
attribute [ext] Node
def encNode (l : List Node) : List (List T) := l.map fun x => [.v (.int .i64 x.count), .v (.int .i64 x.id), .v (.int .i64 x.master), .v (.int .i64 x.epoch), .v (.int .i64 x.voted), .sl 4 (encClaim x.claims), .sl 6 (encPair x.db), .sl 4 (encMove x.moves), .v (.int .i64 x.last), .sl 3 (encSeen x.seen), .v (.int .i64 x.feed.rid.node), .v (.int .i64 x.feed.rid.epoch), .v (.int .i64 x.feed.off), .sl 7 (encEffect x.feed.back), .v (.int .i64 x.feed.prev.node), .v (.int .i64 x.feed.prev.epoch), .v (.int .i64 x.feed.upto), .sl 1 (encI x.watch.heard), .sl 1 (encLI x.watch.says), .v (.int .i64 x.asked), .sl 1 (encI x.votes), .v (.int .i64 x.wait)]
@[simp] theorem encNode_length (l : List Node) : (encNode l).length = l.length := by simp [encNode]
@[simp high] theorem encNode_get (l : List Node) (i : Nat) : (encNode l)[i]? = (l[i]?).map fun x => [.v (.int .i64 x.count), .v (.int .i64 x.id), .v (.int .i64 x.master), .v (.int .i64 x.epoch), .v (.int .i64 x.voted), .sl 4 (encClaim x.claims), .sl 6 (encPair x.db), .sl 4 (encMove x.moves), .v (.int .i64 x.last), .sl 3 (encSeen x.seen), .v (.int .i64 x.feed.rid.node), .v (.int .i64 x.feed.rid.epoch), .v (.int .i64 x.feed.off), .sl 7 (encEffect x.feed.back), .v (.int .i64 x.feed.prev.node), .v (.int .i64 x.feed.prev.epoch), .v (.int .i64 x.feed.upto), .sl 1 (encI x.watch.heard), .sl 1 (encLI x.watch.says), .v (.int .i64 x.asked), .sl 1 (encI x.votes), .v (.int .i64 x.wait)] := by simp [encNode]
@[simp] theorem encNode_nil : encNode [] = [] := rfl
@[simp] theorem encNode_eq_nil (l : List Node) : (encNode l = []) = (l = []) := by simp [encNode]
theorem encNode_seg0 {xs : List Node} {i k : Nat} {x : Node} (hx : xs[i]? = some x) (hk : k ≤ 22) : ((lvs (encNode xs)).drop (i * 22)).take k = ((lvs [[.v (.int .i64 x.count), .v (.int .i64 x.id), .v (.int .i64 x.master), .v (.int .i64 x.epoch), .v (.int .i64 x.voted), .sl 4 (encClaim x.claims), .sl 6 (encPair x.db), .sl 4 (encMove x.moves), .v (.int .i64 x.last), .sl 3 (encSeen x.seen), .v (.int .i64 x.feed.rid.node), .v (.int .i64 x.feed.rid.epoch), .v (.int .i64 x.feed.off), .sl 7 (encEffect x.feed.back), .v (.int .i64 x.feed.prev.node), .v (.int .i64 x.feed.prev.epoch), .v (.int .i64 x.feed.upto), .sl 1 (encI x.watch.heard), .sl 1 (encLI x.watch.says), .v (.int .i64 x.asked), .sl 1 (encI x.votes), .v (.int .i64 x.wait)]]).drop 0).take k := g_seg0 (r := fun x : Node => [.v (.int .i64 x.count), .v (.int .i64 x.id), .v (.int .i64 x.master), .v (.int .i64 x.epoch), .v (.int .i64 x.voted), .sl 4 (encClaim x.claims), .sl 6 (encPair x.db), .sl 4 (encMove x.moves), .v (.int .i64 x.last), .sl 3 (encSeen x.seen), .v (.int .i64 x.feed.rid.node), .v (.int .i64 x.feed.rid.epoch), .v (.int .i64 x.feed.off), .sl 7 (encEffect x.feed.back), .v (.int .i64 x.feed.prev.node), .v (.int .i64 x.feed.prev.epoch), .v (.int .i64 x.feed.upto), .sl 1 (encI x.watch.heard), .sl 1 (encLI x.watch.says), .v (.int .i64 x.asked), .sl 1 (encI x.votes), .v (.int .i64 x.wait)]) (fun _ => rfl) hx hk
theorem encNode_putW {xs ys : List Node} {i : Nat} {x x' : Node} {cs : List LV} (hx : xs[i]? = some x) (hy : ys = xs.set i x') (hc : cs = lvs [[.v (.int .i64 x'.count), .v (.int .i64 x'.id), .v (.int .i64 x'.master), .v (.int .i64 x'.epoch), .v (.int .i64 x'.voted), .sl 4 (encClaim x'.claims), .sl 6 (encPair x'.db), .sl 4 (encMove x'.moves), .v (.int .i64 x'.last), .sl 3 (encSeen x'.seen), .v (.int .i64 x'.feed.rid.node), .v (.int .i64 x'.feed.rid.epoch), .v (.int .i64 x'.feed.off), .sl 7 (encEffect x'.feed.back), .v (.int .i64 x'.feed.prev.node), .v (.int .i64 x'.feed.prev.epoch), .v (.int .i64 x'.feed.upto), .sl 1 (encI x'.watch.heard), .sl 1 (encLI x'.watch.says), .v (.int .i64 x'.asked), .sl 1 (encI x'.votes), .v (.int .i64 x'.wait)]]) : setAt (lvs (encNode xs)) (i * 22) cs = lvs (encNode ys) := g_putW (r := fun x : Node => [.v (.int .i64 x.count), .v (.int .i64 x.id), .v (.int .i64 x.master), .v (.int .i64 x.epoch), .v (.int .i64 x.voted), .sl 4 (encClaim x.claims), .sl 6 (encPair x.db), .sl 4 (encMove x.moves), .v (.int .i64 x.last), .sl 3 (encSeen x.seen), .v (.int .i64 x.feed.rid.node), .v (.int .i64 x.feed.rid.epoch), .v (.int .i64 x.feed.off), .sl 7 (encEffect x.feed.back), .v (.int .i64 x.feed.prev.node), .v (.int .i64 x.feed.prev.epoch), .v (.int .i64 x.feed.upto), .sl 1 (encI x.watch.heard), .sl 1 (encLI x.watch.says), .v (.int .i64 x.asked), .sl 1 (encI x.votes), .v (.int .i64 x.wait)]) (fun _ => rfl) hx hy hc
theorem encNode_fit {xs : List Node} {i : Nat} {x : Node} (hx : xs[i]? = some x) {m : Nat} (hm : m ≤ 22) : i * 22 + m ≤ (lvs (encNode xs)).length := g_fit (r := fun x : Node => [.v (.int .i64 x.count), .v (.int .i64 x.id), .v (.int .i64 x.master), .v (.int .i64 x.epoch), .v (.int .i64 x.voted), .sl 4 (encClaim x.claims), .sl 6 (encPair x.db), .sl 4 (encMove x.moves), .v (.int .i64 x.last), .sl 3 (encSeen x.seen), .v (.int .i64 x.feed.rid.node), .v (.int .i64 x.feed.rid.epoch), .v (.int .i64 x.feed.off), .sl 7 (encEffect x.feed.back), .v (.int .i64 x.feed.prev.node), .v (.int .i64 x.feed.prev.epoch), .v (.int .i64 x.feed.upto), .sl 1 (encI x.watch.heard), .sl 1 (encLI x.watch.says), .v (.int .i64 x.asked), .sl 1 (encI x.votes), .v (.int .i64 x.wait)]) (fun _ => rfl) hx hm
@[simp] theorem encNode_tk (l : List Node) : (encNode l).take l.length = encNode l := List.take_of_length_le (by simp)
@[simp] theorem encMsg_tk (l : List Msg) : (encMsg l).take l.length = encMsg l := List.take_of_length_le (by simp)
structure Span where
  frm : Int
  to : Int
deriving DecidableEq, Inhabited
attribute [ext] Span
def encSpan (l : List Span) : List (List T) := l.map fun x => [.v (.int .i64 x.frm), .v (.int .i64 x.to)]
theorem lvs_encSpan1 (x : Span) : lvs (encSpan [x]) = [.s (.int .i64 x.frm), .s (.int .i64 x.to)] := rfl
@[simp] theorem encSpan_length (l : List Span) : (encSpan l).length = l.length := by simp [encSpan]
@[simp high] theorem encSpan_get (l : List Span) (i : Nat) : (encSpan l)[i]? = (l[i]?).map fun x => [.v (.int .i64 x.frm), .v (.int .i64 x.to)] := by simp [encSpan]
@[simp] theorem encSpan_nil : encSpan [] = [] := rfl
theorem encSpan_append (l m : List Span) : encSpan (l ++ m) = encSpan l ++ encSpan m := by simp [encSpan]
theorem encSpan_sz (l : List Span) : ∀ e ∈ encSpan l, e.length = 2 := by
  intro e h
  obtain ⟨x, _, rfl⟩ := List.mem_map.1 h
  rfl
@[simp] theorem encSpan_eq_nil (l : List Span) : (encSpan l = []) = (l = []) := by simp [encSpan]
theorem encSpan_cell {xs : List Span} {i j : Nat} {x : Span} (hx : xs[i]? = some x) (hj : j < 2) : (lvs (encSpan xs))[i * 2 + j]? = (lvs [[.v (.int .i64 x.frm), .v (.int .i64 x.to)]])[j]? := g_cell (r := fun x : Span => [.v (.int .i64 x.frm), .v (.int .i64 x.to)]) (fun _ => rfl) hx hj
theorem encSpan_seg0 {xs : List Span} {i k : Nat} {x : Span} (hx : xs[i]? = some x) (hk : k ≤ 2) : ((lvs (encSpan xs)).drop (i * 2)).take k = ((lvs [[.v (.int .i64 x.frm), .v (.int .i64 x.to)]]).drop 0).take k := g_seg0 (r := fun x : Span => [.v (.int .i64 x.frm), .v (.int .i64 x.to)]) (fun _ => rfl) hx hk
theorem encSpan_put {xs ys : List Span} {i j : Nat} {x x' : Span} {cs : List LV} (hx : xs[i]? = some x) (hy : ys = xs.set i x') (hj : j + cs.length ≤ 2) (he : setAt (lvs [[.v (.int .i64 x.frm), .v (.int .i64 x.to)]]) j cs = lvs [[.v (.int .i64 x'.frm), .v (.int .i64 x'.to)]]) : setAt (lvs (encSpan xs)) (i * 2 + j) cs = lvs (encSpan ys) := g_put (r := fun x : Span => [.v (.int .i64 x.frm), .v (.int .i64 x.to)]) (fun _ => rfl) hx hy hj he
theorem encSpan_put0 {xs ys : List Span} {i : Nat} {x x' : Span} {cs : List LV} (hx : xs[i]? = some x) (hy : ys = xs.set i x') (hj : cs.length ≤ 2) (he : setAt (lvs [[.v (.int .i64 x.frm), .v (.int .i64 x.to)]]) 0 cs = lvs [[.v (.int .i64 x'.frm), .v (.int .i64 x'.to)]]) : setAt (lvs (encSpan xs)) (i * 2) cs = lvs (encSpan ys) := g_put0 (r := fun x : Span => [.v (.int .i64 x.frm), .v (.int .i64 x.to)]) (fun _ => rfl) hx hy hj he
theorem encSpan_fit {xs : List Span} {i : Nat} {x : Span} (hx : xs[i]? = some x) {m : Nat} (hm : m ≤ 2) : i * 2 + m ≤ (lvs (encSpan xs)).length := g_fit (r := fun x : Span => [.v (.int .i64 x.frm), .v (.int .i64 x.to)]) (fun _ => rfl) hx hm
theorem encSpan_fitj {xs : List Span} {i j : Nat} {x : Span} (hx : xs[i]? = some x) {m : Nat} (hm : j + m ≤ 2) : i * 2 + j + m ≤ (lvs (encSpan xs)).length := by rw [Nat.add_assoc]; exact encSpan_fit hx hm
@[simp] theorem encSpan_tk (l : List Span) : (encSpan l).take l.length = encSpan l := List.take_of_length_le (by simp)
structure ClaimsPiece where
  a : Claim
  b : Claim
deriving DecidableEq, Inhabited
attribute [ext] ClaimsPiece
def encClaimsPiece (l : List ClaimsPiece) : List (List T) := l.map fun x => [.v (.int .i64 x.a.frm), .v (.int .i64 x.a.to), .v (.int .i64 x.a.node), .v (.int .i64 x.a.epoch), .v (.int .i64 x.b.frm), .v (.int .i64 x.b.to), .v (.int .i64 x.b.node), .v (.int .i64 x.b.epoch)]
@[simp] theorem encClaimsPiece_length (l : List ClaimsPiece) : (encClaimsPiece l).length = l.length := by simp [encClaimsPiece]
@[simp high] theorem encClaimsPiece_get (l : List ClaimsPiece) (i : Nat) : (encClaimsPiece l)[i]? = (l[i]?).map fun x => [.v (.int .i64 x.a.frm), .v (.int .i64 x.a.to), .v (.int .i64 x.a.node), .v (.int .i64 x.a.epoch), .v (.int .i64 x.b.frm), .v (.int .i64 x.b.to), .v (.int .i64 x.b.node), .v (.int .i64 x.b.epoch)] := by simp [encClaimsPiece]
@[simp] theorem encClaimsPiece_nil : encClaimsPiece [] = [] := rfl
@[simp] theorem encClaimsPiece_eq_nil (l : List ClaimsPiece) : (encClaimsPiece l = []) = (l = []) := by simp [encClaimsPiece]
@[simp] theorem encClaimsPiece_tk (l : List ClaimsPiece) : (encClaimsPiece l).take l.length = encClaimsPiece l := List.take_of_length_le (by simp)
end Go.Proofs.Ytaibolmbafacpaa

/- Walks: Go's slices functions. -/
namespace Go.Proofs.Ytaibolmbafacpaa
open Go Go.RowKit
set_option linter.unusedVariables false
set_option linter.unusedSimpArgs false
def small {α : Type} (c : Nat) (l : List α) : Bool := decide (l.length * c ≤ 140737488355328 ∧ l.length ≤ 140737488355328)
theorem small_d {α : Type} {c : Nat} {l : List α} (h : small c l = true) : l.length * c ≤ 140737488355328 ∧ l.length ≤ 140737488355328 := by simpa [small] using h
set_option maxRecDepth 8000 in
theorem s_cl_LI (l : List (List Int)) (hl : l.length * 24 ≤ 140737488355328 ∧ l.length ≤ 140737488355328) : Sound Try.prog 40 [.l (.d false 1 ((encLI l)))] [] (.l (.r 0 1 0 l.length)) [some ⟨33, 1, true, none, lvs (encLI l)⟩] := by
  refine Sound.of_aw (fn := Try.f40) (c := _) Try.func40 rfl (by simp [Try.f40]) fun cx hG hnb => ?_
  rw [show Try.f40.ntmps = 8 from rfl]
  have hn0 : cx.nb = 0 := hnb
  refine AW.step (by simp; rfl) ?_
  refine AW.seq ?_
  refine AW.stepN (fun s => ∃ b : Bool, (encLI l ≠ [] → b = false) ∧ s = ⟨[(4, .l (.s (.bool b))), (3, .l (.d false 1 (encLI l))), (2, .l (.s (.slice none 0 0))), (0, .l (.d false 1 (encLI l)))], [], 8, [], none⟩) ?_ ?_
  · simp
  rintro s ⟨b, hb, rfl⟩
  refine AW.cond rfl (fun h => ?_) (fun h => AW.skip ?_)
  · have he : l = [] := by
      cases l with
      | nil => rfl
      | cons x l => simp at hb; rw [hb] at h; simp at h
    subst he
    refine AW.step (by simp; rfl) ?_
    refine AW.ret (Left.of (av := .l (.s (.slice none 0 0))) (by simp [Try.f40, resV, resC]) ?_)
    refine LeftV.weak (Weak.nilRow 0 33 1 rfl) ?_
    refine LeftV.now hnb [some 0] (fun i j o hi hj => ?_) rfl ?_ ?_
    · cases i <;> cases j <;> simp_all
    · simp [pickOb, St.add, Ob.ren, lvs]
    · rfl
  · simp only [Post.seq]
    apply AW.step
    · simp [Value.oneCell']
      refine xrow_own ?_
      try simp
      refine xapp_grow (q := (l.length, lvs (encLI l))) (z := ⟨33, 1, true, none, []⟩) tb_el34 tb_ti33 (by simp) (by simp [← lvs_eq]) (by simp) (by simp) (by simp) (by simp; omega) ?_
      simp [St.grow, obsBut, lvs_ren]
      rfl
    refine AW.ret (Left.of (av := .l (.r 0 1 0 l.length)) (by simp [Try.f40, resV, resC]) ?_)
    refine LeftV.now hnb [some 0] (fun i j o hi hj => ?_) rfl ?_ rfl
    · cases i <;> cases j <;> simp_all
    · simp [pickOb, Ob.ren, lvs_ren]
theorem en_cl_LI : Enters Try.prog 40 := enters Try.func40 (by kernel_rfl) rfl
set_option maxRecDepth 8000 in
theorem s_cl_Claim (l : List Claim) (hl : l.length * 32 ≤ 140737488355328 ∧ l.length ≤ 140737488355328) : Sound Try.prog 33 [.l (.d true 4 ((encClaim l)))] [] (.l (.r 0 4 0 l.length)) [some ⟨63, 4, true, none, lvs (encClaim l)⟩] := by
  refine Sound.of_aw (fn := Try.f33) (c := _) Try.func33 rfl (by simp [Try.f33]) fun cx hG hnb => ?_
  rw [show Try.f33.ntmps = 8 from rfl]
  have hn0 : cx.nb = 0 := hnb
  refine AW.step (by simp; rfl) ?_
  refine AW.seq ?_
  refine AW.stepN (fun s => ∃ b : Bool, (encClaim l ≠ [] → b = false) ∧ s = ⟨[(4, .l (.s (.bool b))), (3, .l (.d true 4 (encClaim l))), (2, .l (.s (.slice none 0 0))), (0, .l (.d true 4 (encClaim l)))], [], 8, [], none⟩) ?_ ?_
  · simp
  rintro s ⟨b, hb, rfl⟩
  refine AW.cond rfl (fun h => ?_) (fun h => AW.skip ?_)
  · have he : l = [] := by
      cases l with
      | nil => rfl
      | cons x l => simp at hb; rw [hb] at h; simp at h
    subst he
    refine AW.step (by simp; rfl) ?_
    refine AW.ret (Left.of (av := .l (.s (.slice none 0 0))) (by simp [Try.f33, resV, resC]) ?_)
    refine LeftV.weak (Weak.nilRow 0 63 4 rfl) ?_
    refine LeftV.now hnb [some 0] (fun i j o hi hj => ?_) rfl ?_ ?_
    · cases i <;> cases j <;> simp_all
    · simp [pickOb, St.add, Ob.ren, lvs]
    · rfl
  · simp only [Post.seq]
    apply AW.step
    · simp [Value.oneCell']
      refine xrow_own ?_
      try simp
      refine xapp_grow (q := (l.length, lvs (encClaim l))) (z := ⟨63, 4, true, none, []⟩) tb_el24 tb_ti63 (by simp) (by simp [encClaim_lvsA]) (by simp) (by simp) (by simp) (by simp; omega) ?_
      simp [St.grow, obsBut, lvs_ren]
      rfl
    refine AW.ret (Left.of (av := .l (.r 0 4 0 l.length)) (by simp [Try.f33, resV, resC]) ?_)
    refine LeftV.now hnb [some 0] (fun i j o hi hj => ?_) rfl ?_ rfl
    · cases i <;> cases j <;> simp_all
    · simp [pickOb, Ob.ren, lvs_ren]
theorem en_cl_Claim : Enters Try.prog 33 := enters Try.func33 (by kernel_rfl) rfl
set_option maxRecDepth 8000 in
theorem s_cl_Effect (l : List Effect) (hl : l.length * 104 ≤ 140737488355328 ∧ l.length ≤ 140737488355328) : Sound Try.prog 38 [.l (.d false 7 ((encEffect l)))] [] (.l (.r 0 7 0 l.length)) [some ⟨98, 7, true, none, lvs (encEffect l)⟩] := by
  refine Sound.of_aw (fn := Try.f38) (c := _) Try.func38 rfl (by simp [Try.f38]) fun cx hG hnb => ?_
  rw [show Try.f38.ntmps = 8 from rfl]
  have hn0 : cx.nb = 0 := hnb
  refine AW.step (by simp; rfl) ?_
  refine AW.seq ?_
  refine AW.stepN (fun s => ∃ b : Bool, (encEffect l ≠ [] → b = false) ∧ s = ⟨[(4, .l (.s (.bool b))), (3, .l (.d false 7 (encEffect l))), (2, .l (.s (.slice none 0 0))), (0, .l (.d false 7 (encEffect l)))], [], 8, [], none⟩) ?_ ?_
  · simp
  rintro s ⟨b, hb, rfl⟩
  refine AW.cond rfl (fun h => ?_) (fun h => AW.skip ?_)
  · have he : l = [] := by
      cases l with
      | nil => rfl
      | cons x l => simp at hb; rw [hb] at h; simp at h
    subst he
    refine AW.step (by simp; rfl) ?_
    refine AW.ret (Left.of (av := .l (.s (.slice none 0 0))) (by simp [Try.f38, resV, resC]) ?_)
    refine LeftV.weak (Weak.nilRow 0 98 7 rfl) ?_
    refine LeftV.now hnb [some 0] (fun i j o hi hj => ?_) rfl ?_ ?_
    · cases i <;> cases j <;> simp_all
    · simp [pickOb, St.add, Ob.ren, lvs]
    · rfl
  · simp only [Post.seq]
    apply AW.step
    · simp [Value.oneCell']
      refine xrow_own ?_
      try simp
      refine xapp_grow (q := (l.length, lvs (encEffect l))) (z := ⟨98, 7, true, none, []⟩) tb_el30 tb_ti98 (by simp) (by simp [← lvs_eq]) (by simp) (by simp) (by simp) (by simp; omega) ?_
      simp [St.grow, obsBut, lvs_ren]
      rfl
    refine AW.ret (Left.of (av := .l (.r 0 7 0 l.length)) (by simp [Try.f38, resV, resC]) ?_)
    refine LeftV.now hnb [some 0] (fun i j o hi hj => ?_) rfl ?_ rfl
    · cases i <;> cases j <;> simp_all
    · simp [pickOb, Ob.ren, lvs_ren]
theorem en_cl_Effect : Enters Try.prog 38 := enters Try.func38 (by kernel_rfl) rfl
set_option maxRecDepth 8000 in
theorem s_cl_Field (l : List Field) (hl : l.length * 32 ≤ 140737488355328 ∧ l.length ≤ 140737488355328) : Sound Try.prog 51 [.l (.d true 2 ((encField l)))] [] (.l (.r 0 2 0 l.length)) [some ⟨112, 2, true, none, lvs (encField l)⟩] := by
  refine Sound.of_aw (fn := Try.f51) (c := _) Try.func51 rfl (by simp [Try.f51]) fun cx hG hnb => ?_
  rw [show Try.f51.ntmps = 8 from rfl]
  have hn0 : cx.nb = 0 := hnb
  refine AW.step (by simp; rfl) ?_
  refine AW.seq ?_
  refine AW.stepN (fun s => ∃ b : Bool, (encField l ≠ [] → b = false) ∧ s = ⟨[(4, .l (.s (.bool b))), (3, .l (.d true 2 (encField l))), (2, .l (.s (.slice none 0 0))), (0, .l (.d true 2 (encField l)))], [], 8, [], none⟩) ?_ ?_
  · simp
  rintro s ⟨b, hb, rfl⟩
  refine AW.cond rfl (fun h => ?_) (fun h => AW.skip ?_)
  · have he : l = [] := by
      cases l with
      | nil => rfl
      | cons x l => simp at hb; rw [hb] at h; simp at h
    subst he
    refine AW.step (by simp; rfl) ?_
    refine AW.ret (Left.of (av := .l (.s (.slice none 0 0))) (by simp [Try.f51, resV, resC]) ?_)
    refine LeftV.weak (Weak.nilRow 0 112 2 rfl) ?_
    refine LeftV.now hnb [some 0] (fun i j o hi hj => ?_) rfl ?_ ?_
    · cases i <;> cases j <;> simp_all
    · simp [pickOb, St.add, Ob.ren, lvs]
    · rfl
  · simp only [Post.seq]
    apply AW.step
    · simp [Value.oneCell']
      refine xrow_own ?_
      try simp
      refine xapp_grow (q := (l.length, lvs (encField l))) (z := ⟨112, 2, true, none, []⟩) tb_el90 tb_ti112 (by simp) (by simp [encField_lvsA]) (by simp) (by simp) (by simp) (by simp; omega) ?_
      simp [St.grow, obsBut, lvs_ren]
      rfl
    refine AW.ret (Left.of (av := .l (.r 0 2 0 l.length)) (by simp [Try.f51, resV, resC]) ?_)
    refine LeftV.now hnb [some 0] (fun i j o hi hj => ?_) rfl ?_ rfl
    · cases i <;> cases j <;> simp_all
    · simp [pickOb, Ob.ren, lvs_ren]
theorem en_cl_Field : Enters Try.prog 51 := enters Try.func51 (by kernel_rfl) rfl
set_option maxRecDepth 8000 in
theorem s_cl_Move (l : List Move) (hl : l.length * 40 ≤ 140737488355328 ∧ l.length ≤ 140737488355328) : Sound Try.prog 34 [.l (.d true 4 ((encMove l)))] [] (.l (.r 0 4 0 l.length)) [some ⟨84, 4, true, none, lvs (encMove l)⟩] := by
  refine Sound.of_aw (fn := Try.f34) (c := _) Try.func34 rfl (by simp [Try.f34]) fun cx hG hnb => ?_
  rw [show Try.f34.ntmps = 8 from rfl]
  have hn0 : cx.nb = 0 := hnb
  refine AW.step (by simp; rfl) ?_
  refine AW.seq ?_
  refine AW.stepN (fun s => ∃ b : Bool, (encMove l ≠ [] → b = false) ∧ s = ⟨[(4, .l (.s (.bool b))), (3, .l (.d true 4 (encMove l))), (2, .l (.s (.slice none 0 0))), (0, .l (.d true 4 (encMove l)))], [], 8, [], none⟩) ?_ ?_
  · simp
  rintro s ⟨b, hb, rfl⟩
  refine AW.cond rfl (fun h => ?_) (fun h => AW.skip ?_)
  · have he : l = [] := by
      cases l with
      | nil => rfl
      | cons x l => simp at hb; rw [hb] at h; simp at h
    subst he
    refine AW.step (by simp; rfl) ?_
    refine AW.ret (Left.of (av := .l (.s (.slice none 0 0))) (by simp [Try.f34, resV, resC]) ?_)
    refine LeftV.weak (Weak.nilRow 0 84 4 rfl) ?_
    refine LeftV.now hnb [some 0] (fun i j o hi hj => ?_) rfl ?_ ?_
    · cases i <;> cases j <;> simp_all
    · simp [pickOb, St.add, Ob.ren, lvs]
    · rfl
  · simp only [Post.seq]
    apply AW.step
    · simp [Value.oneCell']
      refine xrow_own ?_
      try simp
      refine xapp_grow (q := (l.length, lvs (encMove l))) (z := ⟨84, 4, true, none, []⟩) tb_el26 tb_ti84 (by simp) (by simp [encMove_lvsA]) (by simp) (by simp) (by simp) (by simp; omega) ?_
      simp [St.grow, obsBut, lvs_ren]
      rfl
    refine AW.ret (Left.of (av := .l (.r 0 4 0 l.length)) (by simp [Try.f34, resV, resC]) ?_)
    refine LeftV.now hnb [some 0] (fun i j o hi hj => ?_) rfl ?_ rfl
    · cases i <;> cases j <;> simp_all
    · simp [pickOb, Ob.ren, lvs_ren]
theorem en_cl_Move : Enters Try.prog 34 := enters Try.func34 (by kernel_rfl) rfl
set_option maxRecDepth 8000 in
theorem s_cl_Pair (l : List Pair) (hl : l.length * 96 ≤ 140737488355328 ∧ l.length ≤ 140737488355328) : Sound Try.prog 37 [.l (.d false 6 ((encPair l)))] [] (.l (.r 0 6 0 l.length)) [some ⟨95, 6, true, none, lvs (encPair l)⟩] := by
  refine Sound.of_aw (fn := Try.f37) (c := _) Try.func37 rfl (by simp [Try.f37]) fun cx hG hnb => ?_
  rw [show Try.f37.ntmps = 8 from rfl]
  have hn0 : cx.nb = 0 := hnb
  refine AW.step (by simp; rfl) ?_
  refine AW.seq ?_
  refine AW.stepN (fun s => ∃ b : Bool, (encPair l ≠ [] → b = false) ∧ s = ⟨[(4, .l (.s (.bool b))), (3, .l (.d false 6 (encPair l))), (2, .l (.s (.slice none 0 0))), (0, .l (.d false 6 (encPair l)))], [], 8, [], none⟩) ?_ ?_
  · simp
  rintro s ⟨b, hb, rfl⟩
  refine AW.cond rfl (fun h => ?_) (fun h => AW.skip ?_)
  · have he : l = [] := by
      cases l with
      | nil => rfl
      | cons x l => simp at hb; rw [hb] at h; simp at h
    subst he
    refine AW.step (by simp; rfl) ?_
    refine AW.ret (Left.of (av := .l (.s (.slice none 0 0))) (by simp [Try.f37, resV, resC]) ?_)
    refine LeftV.weak (Weak.nilRow 0 95 6 rfl) ?_
    refine LeftV.now hnb [some 0] (fun i j o hi hj => ?_) rfl ?_ ?_
    · cases i <;> cases j <;> simp_all
    · simp [pickOb, St.add, Ob.ren, lvs]
    · rfl
  · simp only [Post.seq]
    apply AW.step
    · simp [Value.oneCell']
      refine xrow_own ?_
      try simp
      refine xapp_grow (q := (l.length, lvs (encPair l))) (z := ⟨95, 6, true, none, []⟩) tb_el25 tb_ti95 (by simp) (by simp [← lvs_eq]) (by simp) (by simp) (by simp) (by simp; omega) ?_
      simp [St.grow, obsBut, lvs_ren]
      rfl
    refine AW.ret (Left.of (av := .l (.r 0 6 0 l.length)) (by simp [Try.f37, resV, resC]) ?_)
    refine LeftV.now hnb [some 0] (fun i j o hi hj => ?_) rfl ?_ rfl
    · cases i <;> cases j <;> simp_all
    · simp [pickOb, Ob.ren, lvs_ren]
theorem en_cl_Pair : Enters Try.prog 37 := enters Try.func37 (by kernel_rfl) rfl
set_option maxRecDepth 8000 in
theorem s_cl_Seen (l : List Seen) (hl : l.length * 24 ≤ 140737488355328 ∧ l.length ≤ 140737488355328) : Sound Try.prog 35 [.l (.d true 3 ((encSeen l)))] [] (.l (.r 0 3 0 l.length)) [some ⟨87, 3, true, none, lvs (encSeen l)⟩] := by
  refine Sound.of_aw (fn := Try.f35) (c := _) Try.func35 rfl (by simp [Try.f35]) fun cx hG hnb => ?_
  rw [show Try.f35.ntmps = 8 from rfl]
  have hn0 : cx.nb = 0 := hnb
  refine AW.step (by simp; rfl) ?_
  refine AW.seq ?_
  refine AW.stepN (fun s => ∃ b : Bool, (encSeen l ≠ [] → b = false) ∧ s = ⟨[(4, .l (.s (.bool b))), (3, .l (.d true 3 (encSeen l))), (2, .l (.s (.slice none 0 0))), (0, .l (.d true 3 (encSeen l)))], [], 8, [], none⟩) ?_ ?_
  · simp
  rintro s ⟨b, hb, rfl⟩
  refine AW.cond rfl (fun h => ?_) (fun h => AW.skip ?_)
  · have he : l = [] := by
      cases l with
      | nil => rfl
      | cons x l => simp at hb; rw [hb] at h; simp at h
    subst he
    refine AW.step (by simp; rfl) ?_
    refine AW.ret (Left.of (av := .l (.s (.slice none 0 0))) (by simp [Try.f35, resV, resC]) ?_)
    refine LeftV.weak (Weak.nilRow 0 87 3 rfl) ?_
    refine LeftV.now hnb [some 0] (fun i j o hi hj => ?_) rfl ?_ ?_
    · cases i <;> cases j <;> simp_all
    · simp [pickOb, St.add, Ob.ren, lvs]
    · rfl
  · simp only [Post.seq]
    apply AW.step
    · simp [Value.oneCell']
      refine xrow_own ?_
      try simp
      refine xapp_grow (q := (l.length, lvs (encSeen l))) (z := ⟨87, 3, true, none, []⟩) tb_el27 tb_ti87 (by simp) (by simp [encSeen_lvsA]) (by simp) (by simp) (by simp) (by simp; omega) ?_
      simp [St.grow, obsBut, lvs_ren]
      rfl
    refine AW.ret (Left.of (av := .l (.r 0 3 0 l.length)) (by simp [Try.f35, resV, resC]) ?_)
    refine LeftV.now hnb [some 0] (fun i j o hi hj => ?_) rfl ?_ rfl
    · cases i <;> cases j <;> simp_all
    · simp [pickOb, Ob.ren, lvs_ren]
theorem en_cl_Seen : Enters Try.prog 35 := enters Try.func35 (by kernel_rfl) rfl
set_option maxRecDepth 8000 in
theorem s_cl_I (l : List Int) (hl : l.length * 8 ≤ 140737488355328 ∧ l.length ≤ 140737488355328) : Sound Try.prog 36 [.l (.d true 1 ((encI l)))] [] (.l (.r 0 1 0 l.length)) [some ⟨3, 1, true, none, lvs (encI l)⟩] := by
  refine Sound.of_aw (fn := Try.f36) (c := _) Try.func36 rfl (by simp [Try.f36]) fun cx hG hnb => ?_
  rw [show Try.f36.ntmps = 8 from rfl]
  have hn0 : cx.nb = 0 := hnb
  refine AW.step (by simp; rfl) ?_
  refine AW.seq ?_
  refine AW.stepN (fun s => ∃ b : Bool, (encI l ≠ [] → b = false) ∧ s = ⟨[(4, .l (.s (.bool b))), (3, .l (.d true 1 (encI l))), (2, .l (.s (.slice none 0 0))), (0, .l (.d true 1 (encI l)))], [], 8, [], none⟩) ?_ ?_
  · simp
  rintro s ⟨b, hb, rfl⟩
  refine AW.cond rfl (fun h => ?_) (fun h => AW.skip ?_)
  · have he : l = [] := by
      cases l with
      | nil => rfl
      | cons x l => simp at hb; rw [hb] at h; simp at h
    subst he
    refine AW.step (by simp; rfl) ?_
    refine AW.ret (Left.of (av := .l (.s (.slice none 0 0))) (by simp [Try.f36, resV, resC]) ?_)
    refine LeftV.weak (Weak.nilRow 0 3 1 rfl) ?_
    refine LeftV.now hnb [some 0] (fun i j o hi hj => ?_) rfl ?_ ?_
    · cases i <;> cases j <;> simp_all
    · simp [pickOb, St.add, Ob.ren, lvs]
    · rfl
  · simp only [Post.seq]
    apply AW.step
    · simp [Value.oneCell']
      refine xrow_own ?_
      try simp
      refine xapp_grow (q := (l.length, lvs (encI l))) (z := ⟨3, 1, true, none, []⟩) tb_el33 tb_ti3 (by simp) (by simp [encI_lvsA]) (by simp) (by simp) (by simp) (by simp; omega) ?_
      simp [St.grow, obsBut, lvs_ren]
      rfl
    refine AW.ret (Left.of (av := .l (.r 0 1 0 l.length)) (by simp [Try.f36, resV, resC]) ?_)
    refine LeftV.now hnb [some 0] (fun i j o hi hj => ?_) rfl ?_ rfl
    · cases i <;> cases j <;> simp_all
    · simp [pickOb, Ob.ren, lvs_ren]
theorem en_cl_I : Enters Try.prog 36 := enters Try.func36 (by kernel_rfl) rfl
theorem z_cl_I (l : List Int) (hl : l.length * 8 ≤ 140737488355328 ∧ l.length ≤ 140737488355328) : Sound Try.prog 36 [.l (.d true 1 (encI l))] [] (.l (.d false 1 (encI l))) [] :=
  (s_cl_I l hl).frz (by simp) (by omega) (encI_sz l) (by omega)

set_option maxRecDepth 8000 in
theorem s_cl_S (l : List ByteArray) (hl : l.length * 16 ≤ 140737488355328 ∧ l.length ≤ 140737488355328) : Sound Try.prog 52 [.l (.d true 1 ((encS l)))] [] (.l (.r 0 1 0 l.length)) [some ⟨9, 1, true, none, lvs (encS l)⟩] := by
  refine Sound.of_aw (fn := Try.f52) (c := _) Try.func52 rfl (by simp [Try.f52]) fun cx hG hnb => ?_
  rw [show Try.f52.ntmps = 8 from rfl]
  have hn0 : cx.nb = 0 := hnb
  refine AW.step (by simp; rfl) ?_
  refine AW.seq ?_
  refine AW.stepN (fun s => ∃ b : Bool, (encS l ≠ [] → b = false) ∧ s = ⟨[(4, .l (.s (.bool b))), (3, .l (.d true 1 (encS l))), (2, .l (.s (.slice none 0 0))), (0, .l (.d true 1 (encS l)))], [], 8, [], none⟩) ?_ ?_
  · simp
  rintro s ⟨b, hb, rfl⟩
  refine AW.cond rfl (fun h => ?_) (fun h => AW.skip ?_)
  · have he : l = [] := by
      cases l with
      | nil => rfl
      | cons x l => simp at hb; rw [hb] at h; simp at h
    subst he
    refine AW.step (by simp; rfl) ?_
    refine AW.ret (Left.of (av := .l (.s (.slice none 0 0))) (by simp [Try.f52, resV, resC]) ?_)
    refine LeftV.weak (Weak.nilRow 0 9 1 rfl) ?_
    refine LeftV.now hnb [some 0] (fun i j o hi hj => ?_) rfl ?_ ?_
    · cases i <;> cases j <;> simp_all
    · simp [pickOb, St.add, Ob.ren, lvs]
    · rfl
  · simp only [Post.seq]
    apply AW.step
    · simp [Value.oneCell']
      refine xrow_own ?_
      try simp
      refine xapp_grow (q := (l.length, lvs (encS l))) (z := ⟨9, 1, true, none, []⟩) tb_el91 tb_ti9 (by simp) (by simp [encS_lvsA]) (by simp) (by simp) (by simp) (by simp; omega) ?_
      simp [St.grow, obsBut, lvs_ren]
      rfl
    refine AW.ret (Left.of (av := .l (.r 0 1 0 l.length)) (by simp [Try.f52, resV, resC]) ?_)
    refine LeftV.now hnb [some 0] (fun i j o hi hj => ?_) rfl ?_ rfl
    · cases i <;> cases j <;> simp_all
    · simp [pickOb, Ob.ren, lvs_ren]
theorem en_cl_S : Enters Try.prog 52 := enters Try.func52 (by kernel_rfl) rfl
def insL {α : Type} (l : List α) (i : Nat) (x : α) : List α := l.take i ++ x :: l.drop i
theorem insL_length {α : Type} (l : List α) (i : Nat) (x : α) (h : i ≤ l.length) : (insL l i x).length = l.length + 1 := by
  simp [insL]
  omega

def delL {α : Type} (l : List α) (i : Nat) : List α := l.take i ++ l.drop (i + 1)
def insB {α : Type} (l : List α) (i : Int) : Bool := decide (0 ≤ i ∧ i ≤ l.length ∧ l.length ≤ 1000000000)
def delB {α : Type} (l : List α) (i j : Int) : Bool := decide (0 ≤ i ∧ i < l.length ∧ j = i + 1 ∧ l.length ≤ 1000000000)
theorem insL_len {α : Type} {l m : List α} {i : Int} {x : α} (h : insB l i = true) (e : m = insL l i.toNat x) : l.length + 1 = m.length := by
  simp [insB] at h
  rw [e, insL_length l i.toNat x (by omega)]
def flatL {α : Type} (ss : List (List α)) (i : Nat) : List α := (ss.take i).flatten
def catB {α : Type} (ss : List (List α)) : Bool := decide (ss.flatten.length ≤ 1000000000 ∧ ss.length ≤ 1000000000)
end Go.Proofs.Ytaibolmbafacpaa

/- Walks: Go's Compact of ints. -/
namespace Go.Proofs.Ytaibolmbafacpaa
open Go Go.RowKit
set_option linter.unusedVariables false
set_option linter.unusedSimpArgs false
def compL : List Int → List Int
  | [] => []
  | [a] => [a]
  | a :: b :: t => if a = b then compL (b :: t) else a :: compL (b :: t)
theorem compL_snoc (x y : Int) : ∀ l : List Int, compL (l ++ [y, x]) = if y = x then compL (l ++ [y]) else compL (l ++ [y]) ++ [x]
  | [] => by
    by_cases h : y = x
    · simp [compL, h]
    · simp [compL, h]
  | [a] => by
    by_cases h : y = x
    · subst h
      by_cases h2 : a = y <;> simp [compL, h2]
    · by_cases h2 : a = y <;> simp [compL, h, h2]
  | a :: b :: t => by
    have ih := compL_snoc x y (b :: t)
    simp only [List.cons_append, compL] at ih ⊢
    rw [ih]
    by_cases h2 : a = b
    · rw [if_pos h2, if_pos h2]
    · rw [if_neg h2, if_neg h2]
      by_cases h : y = x
      · rw [if_pos h, if_pos h]
      · rw [if_neg h, if_neg h]
        rfl
def cmT (l : List Int) (i : Nat) : List Int := compL (l.take i)
def cmN (l : List Int) (i : Nat) : Nat := (cmT l i).length
theorem cmT_succ {l : List Int} {i : Nat} {x y : Int} (hy : l[i]? = some y) (hx : l[i + 1]? = some x) : cmT l (i + 2) = if y = x then cmT l (i + 1) else cmT l (i + 1) ++ [x] := by
  have h := compL_snoc x y (l.take i)
  have e1 := take_snoc hy
  have e2 := take_snoc hx
  unfold cmT
  rw [← e2, ← e1, List.append_assoc]
  exact h
theorem cmT_1 {l : List Int} (h : 0 < l.length) : cmT l 1 = l.take 1 := by
  cases l with
  | nil => simp at h
  | cons a t => rfl
theorem cmT_all (l : List Int) : cmT l l.length = compL l := by unfold cmT; rw [List.take_length]
def cmR (l : List Int) (i : Nat) : List Int := cmT l i ++ l.drop (cmN l i)
theorem cmR_get {l : List Int} {i j : Nat} (h : cmN l i ≤ j) : (cmR l i)[j]? = l[j]? := by
  unfold cmR
  rw [List.getElem?_append_right h, List.getElem?_drop]
  congr 1
  unfold cmN at h ⊢
  omega
theorem cmR_len {l : List Int} {i : Nat} (h : cmN l i ≤ l.length) : (cmR l i).length = l.length := by
  unfold cmR
  rw [List.length_append, List.length_drop]
  unfold cmN at h ⊢
  omega
theorem cmR_set {l : List Int} {i : Nat} {x y : Int} (hy : l[i]? = some y) (hx : l[i + 1]? = some x) (hne : y ≠ x) (hn : cmN l (i + 1) < l.length) : cmR l (i + 2) = (cmR l (i + 1)).set (cmN l (i + 1)) x ∧ cmN l (i + 2) = cmN l (i + 1) + 1 := by
  have e := cmT_succ hy hx
  rw [if_neg hne] at e
  have en : cmN l (i + 2) = cmN l (i + 1) + 1 := by unfold cmN; rw [e, List.length_append]; rfl
  refine ⟨?_, en⟩
  unfold cmR
  rw [en, e]
  have : (cmT l (i + 1)).length = cmN l (i + 1) := rfl
  rw [List.set_append_right _ _ (by omega), this, Nat.sub_self]
  rw [List.drop_eq_getElem_cons hn, List.set_cons_zero, List.append_assoc]
  rfl
theorem cmR_same {l : List Int} {i : Nat} {x y : Int} (hy : l[i]? = some y) (hx : l[i + 1]? = some x) (he : y = x) : cmR l (i + 2) = cmR l (i + 1) ∧ cmN l (i + 2) = cmN l (i + 1) := by
  have e := cmT_succ hy hx
  rw [if_pos he] at e
  have en : cmN l (i + 2) = cmN l (i + 1) := by unfold cmN; rw [e]
  refine ⟨?_, en⟩
  unfold cmR
  rw [en, e]
theorem cmR_0 {l : List Int} {i : Nat} (h : cmT l i = l.take i) (hi : i ≤ l.length) : cmR l i = l ∧ cmN l i = i := by
  have en : cmN l i = i := by unfold cmN; rw [h, List.length_take]; omega
  refine ⟨?_, en⟩
  unfold cmR
  rw [en, h, List.take_append_drop]
set_option maxRecDepth 8000 in
set_option maxHeartbeats 8000000 in
theorem s_cm_I (l : List Int) (hl : l.length ≤ 1000000000) : Sound Try.prog 44 [.l (.r 0 1 0 l.length)] [⟨3, 1, true, none, lvs (encI l)⟩] (.l (.r 0 1 0 (compL l).length)) [some ⟨3, 1, true, none, lvs (encI (compL l))⟩] := by
  refine Sound.of_aw (fn := Try.f44) (c := _) Try.func44 rfl (by simp [Try.f44]) fun cx hG hnb => ?_
  rw [show Try.f44.ntmps = 61 from rfl]
  have hn0 : cx.nb = 1 := hnb
  have hlv : (lvs (encI l)).length = l.length := by rw [lvs_length (encI_sz l)]; simp
  refine AW.step (by simp; rfl) ?_
  refine AW.seq ?_
  refine AW.step (by simp; rfl) ?_
  refine AW.cond rfl (fun h1 => ?_) (fun h1 => ?_)
  · simp at h1
    have hc : compL l = l := by
      rcases l with _ | ⟨a, _ | ⟨b, t⟩⟩
      · rfl
      · rfl
      · simp at h1
        omega
    refine AW.step (by simp [hc]; rfl) ?_
    refine AW.ret ?_
    refine Left.of (av := _) (by simp [Try.f44, resV, resC, comp, hc]; rfl) ?_
    exact LeftV.rows [some 0] (by simp; omega) (nd_one) rfl rfl (by simp [pickOb, hc]) (by simp [hc])
  · simp at h1
    refine AW.skip ?_
    simp only [Post.seq, Post.block, if_true]
    refine AW.seq ?_
    refine AW.step (by simp; rfl) ?_
    refine AW.block ?_
    refine AW.loopF (α := Nat) [2, 3, 4, 5, 10, 11, 12, 13, 14, 15, 16, 17, 18, 19, 20, 21, 22, 23, 24, 25, 26, 27, 28, 29, 30, 31, 32, 33, 34, 35, 36, 37, 38, 39, 40, 41, 42, 43, 44, 45, 46, 47, 48, 49, 50, 51, 52, 53, 54, 55, 56, 57, 58, 59] (fun k => [(3, .l (.s (.int .i64 ((k + 1 : Nat) : Int))))]) (fun _ => [some ⟨3, 1, true, none, lvs (encI l)⟩]) (fun k => k + 1 ≤ l.length ∧ cmT l (k + 1) = l.take (k + 1)) (fun k => l.length - k) 0 (by rfl) (by simp) rfl ⟨by omega, cmT_1 (by omega)⟩ ?_
    rintro k ⟨g1, g2⟩
    have hw1 : IntKind.i64.wrap ((k : Nat) : Int) = ((k : Nat) : Int) := by rw [i64_in (by omega) (by omega)]
    refine AW.seq ?_
    refine AW.step (by simp; rfl) ?_
    refine AW.cond rfl (fun h4 => ?_) (fun h4 => ?_)
    · simp at h4
      obtain ⟨y, hy⟩ := get_some (show k < l.length by omega)
      obtain ⟨x, hx⟩ := get_some (show k + 1 < l.length by omega)
      refine AW.skip ?_
      simp only [Post.seq, Post.block, if_true]
      refine AW.seq ?_
      refine AW.block ?_
      apply AW.drawnP (V := [_, _, _, _, _, _, _, _, _]) mixed [⟨[0], [], [(0, none)], false⟩, ⟨[0], [], [(3, none)], false⟩, ⟨[0], [0, 1], [(16, some 0), (17, some 1)], false⟩, ⟨[0], [0, 1, 2], [(18, some 2)], false⟩, ⟨[0], [], [(0, none)], false⟩, ⟨[0], [], [(3, none)], false⟩, ⟨[0], [5], [(21, some 5)], false⟩, ⟨[0], [4, 5, 6], [(20, some 4), (22, some 6)], false⟩, ⟨[0], [4, 5, 6, 7], [(23, some 7)], false⟩, ⟨[], [0, 1, 2, 3, 4, 5, 6, 7, 8], [], false⟩] 9 (by kernel_rfl) (by kernel_rfl)
      · refine ⟨?_, ?_, ?_, ?_, ?_, ?_, ?_, ?_, ?_, trivial⟩
        · intro tm hr
          simp [AllL, rdV] at hr
          simp [hr, hy, hx, hw1, encI_cell0 hy, encI_cell0 hx, lvs1, show k < l.length by omega, show k + 1 < l.length by omega, show (0 : Int) ≤ (k : Int) + 1 by omega]
          exact KD.mk
        · intro tm hr
          simp [AllL, rdV] at hr
          simp [hr, hy, hx, hw1, encI_cell0 hy, encI_cell0 hx, lvs1, show k < l.length by omega, show k + 1 < l.length by omega, show (0 : Int) ≤ (k : Int) + 1 by omega]
          exact KD.mk
        · intro tm hr
          simp [AllL, rdV] at hr
          simp [hr, hy, hx, hw1, encI_cell0 hy, encI_cell0 hx, lvs1, show k < l.length by omega, show k + 1 < l.length by omega, show (0 : Int) ≤ (k : Int) + 1 by omega]
          exact KD.mk
        · intro tm hr
          simp [AllL, rdV] at hr
          simp [hr, hy, hx, hw1, encI_cell0 hy, encI_cell0 hx, lvs1, show k < l.length by omega, show k + 1 < l.length by omega, show (0 : Int) ≤ (k : Int) + 1 by omega]
          exact KD.mk
        · intro tm hr
          simp [AllL, rdV] at hr
          simp [hr, hy, hx, hw1, encI_cell0 hy, encI_cell0 hx, lvs1, show k < l.length by omega, show k + 1 < l.length by omega, show (0 : Int) ≤ (k : Int) + 1 by omega]
          exact KD.mk
        · intro tm hr
          simp [AllL, rdV] at hr
          simp [hr, hy, hx, hw1, encI_cell0 hy, encI_cell0 hx, lvs1, show k < l.length by omega, show k + 1 < l.length by omega, show (0 : Int) ≤ (k : Int) + 1 by omega]
          exact KD.mk
        · intro tm hr
          simp [AllL, rdV] at hr
          simp [hr, hy, hx, hw1, encI_cell0 hy, encI_cell0 hx, lvs1, show k < l.length by omega, show k + 1 < l.length by omega, show (0 : Int) ≤ (k : Int) + 1 by omega]
          exact KD.mk
        · intro tm hr
          simp [AllL, rdV] at hr
          simp [hr, hy, hx, hw1, encI_cell0 hy, encI_cell0 hx, lvs1, show k < l.length by omega, show k + 1 < l.length by omega, show (0 : Int) ≤ (k : Int) + 1 by omega]
          exact KD.mk
        · intro tm hr
          simp [AllL, rdV] at hr
          simp [hr, hy, hx, hw1, encI_cell0 hy, encI_cell0 hx, lvs1, show k < l.length by omega, show k + 1 < l.length by omega, show (0 : Int) ≤ (k : Int) + 1 by omega]
          exact KD.mk
      · rfl
      · simp [tmD, putD, hy, hx, hw1, encI_cell0 hy, encI_cell0 hx, lvs1, show k < l.length by omega, show k + 1 < l.length by omega, show (0 : Int) ≤ (k : Int) + 1 by omega]; rfl
      · simp [hy, hx, hw1, encI_cell0 hy, encI_cell0 hx, lvs1, show k < l.length by omega, show k + 1 < l.length by omega, show (0 : Int) ≤ (k : Int) + 1 by omega]
        rfl
      refine AW.cond rfl (fun h6 => ?_) (fun h6 => ?_)
      · simp at h6
        obtain ⟨s1, s2⟩ := cmR_same hy hx h6.symm
        obtain ⟨s3, s4⟩ := cmR_0 g2 (by omega)
        rw [s3] at s1
        rw [s4] at s2
        refine AW.step (by simp [hlv, show (k : Int) + 1 ≤ (l.length : Int) by omega, show (0 : Int) ≤ (k : Int) + 1 by omega]; (repeat refine ⟨by omega, ?_⟩); rfl) ?_
        refine AW.seq ?_
        refine AW.step (by simp; rfl) ?_
        refine AW.block ?_
        refine AW.loopF (α := Nat) [3, 5, 29, 30, 31, 32, 33, 34, 35, 36, 37, 38, 39, 40, 41, 42, 43, 44, 45, 46, 47, 48, 49, 50, 51, 52, 53] (fun j => [(0, .l (.r 0 1 0 l.length)), (4, .l (.r 0 1 (k + 1) l.length)), (3, .l (.s (.int .i64 (cmN l (k + j + 2) : Nat)))), (5, .l (.s (.int .i64 ((j + 1 : Nat) : Int))))]) (fun j => [some ⟨3, 1, true, none, lvs (encI (cmR l (k + j + 2)))⟩]) (fun j => k + j + 2 ≤ l.length ∧ cmN l (k + j + 2) ≤ k + j + 1) (fun j => l.length - j) 0 (by rfl) (by simp [s2]) (by simp [s1]) ⟨by omega, by rw [Nat.add_zero, s2]; omega⟩ ?_
        rintro j ⟨g3, g4⟩
        have hr : (cmR l (k + j + 2)).length = l.length := cmR_len (by omega)
        have hv : (lvs (encI (cmR l (k + j + 2)))).length = l.length := by rw [lvs_length (encI_sz _)]; simp [hr]
        refine AW.seq ?_
        refine AW.step (by simp; rfl) ?_
        refine AW.cond rfl (fun h9 => ?_) (fun h9 => ?_)
        · simp at h9
          have h9' : k + j + 2 < l.length := by omega
          obtain ⟨y1, hy1⟩ := get_some (show k + j + 1 < l.length by omega)
          obtain ⟨x1, hx1⟩ := get_some (show k + j + 2 < l.length by omega)
          have hy2 := (cmR_get (j := k + j + 1) g4).trans hy1
          have hx2 := (cmR_get (i := k + j + 2) (j := k + j + 2) (by omega)).trans hx1
          have hwj : IntKind.i64.wrap ((j : Nat) : Int) = ((j : Nat) : Int) := by rw [i64_in (by omega) (by omega)]
          have ea : k + 1 + (j + 1) = k + j + 2 := by omega
          have eb : k + 1 + j = k + j + 1 := by omega
          refine AW.skip ?_
          simp only [Post.seq, Post.block, if_true]
          refine AW.seq ?_
          refine AW.block ?_
          apply AW.drawnP (V := [_, _, _, _, _, _, _, _, _]) mixed [⟨[0], [], [(4, none)], false⟩, ⟨[0], [], [(5, none)], false⟩, ⟨[0], [0, 1], [(35, some 0), (36, some 1)], false⟩, ⟨[0], [0, 1, 2], [(37, some 2)], false⟩, ⟨[0], [], [(4, none)], false⟩, ⟨[0], [], [(5, none)], false⟩, ⟨[0], [5], [(40, some 5)], false⟩, ⟨[0], [4, 5, 6], [(39, some 4), (41, some 6)], false⟩, ⟨[0], [4, 5, 6, 7], [(42, some 7)], false⟩, ⟨[], [0, 1, 2, 3, 4, 5, 6, 7, 8], [], false⟩] 9 (by kernel_rfl) (by kernel_rfl)
          · refine ⟨?_, ?_, ?_, ?_, ?_, ?_, ?_, ?_, ?_, trivial⟩
            · intro tm hr
              simp [AllL, rdV] at hr
              simp [hr, hy2, hx2, hwj, encI_cell0 hy2, encI_cell0 hx2, lvs1, ea, eb, show j < l.length - (k + 1) by omega, show j + 1 < l.length - (k + 1) by omega, show (0 : Int) ≤ (j : Int) + 1 by omega]
              exact KD.mk
            · intro tm hr
              simp [AllL, rdV] at hr
              simp [hr, hy2, hx2, hwj, encI_cell0 hy2, encI_cell0 hx2, lvs1, ea, eb, show j < l.length - (k + 1) by omega, show j + 1 < l.length - (k + 1) by omega, show (0 : Int) ≤ (j : Int) + 1 by omega]
              exact KD.mk
            · intro tm hr
              simp [AllL, rdV] at hr
              simp [hr, hy2, hx2, hwj, encI_cell0 hy2, encI_cell0 hx2, lvs1, ea, eb, show j < l.length - (k + 1) by omega, show j + 1 < l.length - (k + 1) by omega, show (0 : Int) ≤ (j : Int) + 1 by omega]
              exact KD.mk
            · intro tm hr
              simp [AllL, rdV] at hr
              simp [hr, hy2, hx2, hwj, encI_cell0 hy2, encI_cell0 hx2, lvs1, ea, eb, show j < l.length - (k + 1) by omega, show j + 1 < l.length - (k + 1) by omega, show (0 : Int) ≤ (j : Int) + 1 by omega]
              exact KD.mk
            · intro tm hr
              simp [AllL, rdV] at hr
              simp [hr, hy2, hx2, hwj, encI_cell0 hy2, encI_cell0 hx2, lvs1, ea, eb, show j < l.length - (k + 1) by omega, show j + 1 < l.length - (k + 1) by omega, show (0 : Int) ≤ (j : Int) + 1 by omega]
              exact KD.mk
            · intro tm hr
              simp [AllL, rdV] at hr
              simp [hr, hy2, hx2, hwj, encI_cell0 hy2, encI_cell0 hx2, lvs1, ea, eb, show j < l.length - (k + 1) by omega, show j + 1 < l.length - (k + 1) by omega, show (0 : Int) ≤ (j : Int) + 1 by omega]
              exact KD.mk
            · intro tm hr
              simp [AllL, rdV] at hr
              simp [hr, hy2, hx2, hwj, encI_cell0 hy2, encI_cell0 hx2, lvs1, ea, eb, show j < l.length - (k + 1) by omega, show j + 1 < l.length - (k + 1) by omega, show (0 : Int) ≤ (j : Int) + 1 by omega]
              exact KD.mk
            · intro tm hr
              simp [AllL, rdV] at hr
              simp [hr, hy2, hx2, hwj, encI_cell0 hy2, encI_cell0 hx2, lvs1, ea, eb, show j < l.length - (k + 1) by omega, show j + 1 < l.length - (k + 1) by omega, show (0 : Int) ≤ (j : Int) + 1 by omega]
              exact KD.mk
            · intro tm hr
              simp [AllL, rdV] at hr
              simp [hr, hy2, hx2, hwj, encI_cell0 hy2, encI_cell0 hx2, lvs1, ea, eb, show j < l.length - (k + 1) by omega, show j + 1 < l.length - (k + 1) by omega, show (0 : Int) ≤ (j : Int) + 1 by omega]
              exact KD.mk
          · rfl
          · simp [tmD, putD, hy2, hx2, hwj, encI_cell0 hy2, encI_cell0 hx2, lvs1, ea, eb, show j < l.length - (k + 1) by omega, show j + 1 < l.length - (k + 1) by omega, show (0 : Int) ≤ (j : Int) + 1 by omega]; rfl
          · simp [hy2, hx2, hwj, encI_cell0 hy2, encI_cell0 hx2, lvs1, ea, eb, show j < l.length - (k + 1) by omega, show j + 1 < l.length - (k + 1) by omega, show (0 : Int) ≤ (j : Int) + 1 by omega]
            rfl
          refine AW.cond rfl (fun h11 => ?_) (fun h11 => ?_)
          · simp at h11
            have q1 : cmR l (k + (j + 1) + 2) = (cmR l (k + j + 2)).set (cmN l (k + j + 2)) x1 := by
              have := (cmR_set (i := k + j + 1) hy1 hx1 (fun e => h11 e.symm) (by show cmN l (k + j + 2) < _; omega)).1
              rwa [show k + j + 1 + 2 = k + (j + 1) + 2 by omega] at this
            have q2 : cmN l (k + (j + 1) + 2) = cmN l (k + j + 2) + 1 := by
              have := (cmR_set (i := k + j + 1) hy1 hx1 (fun e => h11 e.symm) (by show cmN l (k + j + 2) < _; omega)).2
              rwa [show k + j + 1 + 2 = k + (j + 1) + 2 by omega] at this
            obtain ⟨z, hz⟩ := get_some (show cmN l (k + j + 2) < (cmR l (k + j + 2)).length by omega)
            have hput := encI_put0 hz q1 (cs := [.s (.int .i64 x1)]) (by simp) rfl
            have hfit := encI_fit hz (show 1 ≤ 1 by omega)
            refine AW.step (by simp [hy2, hx2, hwj, encI_cell0 hx2, lvs1, ea, show j + 1 < l.length - (k + 1) by omega, show (0 : Int) ≤ (j : Int) + 1 by omega, show cmN l (k + j + 2) < l.length by omega, hput, hfit]; rfl) ?_
            refine AW.last (by simp; rfl) ?_
            simp only [Post.seq, Post.block, if_true]
            refine AW.last (by simp; rfl) ?_
            simp only [Post.seq, Post.block, if_true]
            refine ⟨j + 1, Weak.cut 1 (by omega) (by have e := i64_succ (show j + 1 + 1 ≤ 9223372036854775807 by omega); simp at e; simp [i64_succ (show cmN l (k + j + 2) + 1 ≤ 9223372036854775807 by omega), e, q2]) (by simp [q1]) rfl, ⟨by omega, by rw [q2]; omega⟩, by omega⟩
          · simp at h11
            have q1 : cmR l (k + (j + 1) + 2) = cmR l (k + j + 2) := by
              have := (cmR_same (i := k + j + 1) hy1 hx1 h11.symm).1
              rwa [show k + j + 1 + 2 = k + (j + 1) + 2 by omega] at this
            have q2 : cmN l (k + (j + 1) + 2) = cmN l (k + j + 2) := by
              have := (cmR_same (i := k + j + 1) hy1 hx1 h11.symm).2
              rwa [show k + j + 1 + 2 = k + (j + 1) + 2 by omega] at this
            refine AW.skip ?_
            simp only [Post.seq, Post.block, if_true]
            refine AW.last (by simp; rfl) ?_
            simp only [Post.seq, Post.block, if_true]
            refine ⟨j + 1, Weak.cut 1 (by omega) (by have e := i64_succ (show j + 1 + 1 ≤ 9223372036854775807 by omega); simp at e; simp [i64_succ (show cmN l (k + j + 2) + 1 ≤ 9223372036854775807 by omega), e, q2]) (by simp [q1]) rfl, ⟨by omega, by rw [q2]; omega⟩, by omega⟩
        · simp at h9
          have ej : k + j + 2 = l.length := by omega
          have hvc : (setAt (lvs (encI (cmR l (k + j + 2)))) (cmN l (k + j + 2)) (List.map LV.s (repZ (l.length - cmN l (k + j + 2)) [Value.int .i64 0]))).length = l.length := by
            rw [setAt_length, hv]
          have hce : cmT l (k + j + 2) = compL l := by rw [ej]; exact cmT_all l
          have hcn : cmN l (k + j + 2) = (compL l).length := by unfold cmN; rw [hce]
          have hcut : (setAt (lvs (encI (cmR l (k + j + 2)))) (cmN l (k + j + 2)) (List.map LV.s (repZ (l.length - cmN l (k + j + 2)) [Value.int .i64 0]))).take (cmN l (k + j + 2)) = lvs (encI (compL l)) := by
            have e1 : lvs (encI (cmR l (k + j + 2))) = lvs (encI (compL l)) ++ lvs (encI (l.drop (cmN l (k + j + 2)))) := by
              unfold cmR
              rw [hce, encI_append, lvs_append]
            have e2 : (lvs (encI (compL l))).length = cmN l (k + j + 2) := by rw [lvs_length (encI_sz _), hcn]; simp
            rw [setAt_eq _ _ _ (by rw [hv, List.length_map, repZ_length]; simp; omega), List.append_assoc, List.take_append_of_le_length (by rw [List.length_take, hv]; omega), List.take_take, Nat.min_self, e1, ← e2, List.take_left]
          refine AW.exit ?_
          simp only [Post.seq, Post.block, if_true]
          refine AW.step (by simp [hv]; (repeat refine ⟨by omega, ?_⟩); rfl) ?_
          refine AW.step (by simp [hv, hvc]; (repeat refine ⟨by omega, ?_⟩); rfl) ?_
          refine AW.ret ?_
          refine Left.of (av := _) (by simp [Try.f44, resV, resC, comp, hv, hvc]; rfl) ?_
          refine LeftV.shrink 0 (cmN l (k + j + 2)) rfl rfl rfl rfl ?_
          refine LeftV.rows [some 0] (by simp; omega) nd_one rfl rfl ?_ (by simp [hcn])
          simp [pickOb, hcut]
      · simp at h6
        refine AW.skip ?_
        simp only [Post.seq, Post.block, if_true]
        refine AW.last (by simp; rfl) ?_
        simp only [Post.seq, Post.block, if_true]
        refine ⟨k + 1, Weak.cut 1 (by omega) (by have e := i64_succ (show k + 1 + 1 ≤ 9223372036854775807 by omega); simp at e; simp [e]) (by simp) rfl, ⟨by omega, ?_⟩, by omega⟩
        rw [cmT_succ hy hx, if_neg (fun e => h6 e.symm), g2, take_snoc hx]
    · simp at h4
      have hc : compL l = l := by
        have e := cmT_all l
        have e2 : k + 1 = l.length := by omega
        rw [← e2, g2, e2, List.take_length] at e
        exact e.symm
      refine AW.exit ?_
      simp only [Post.seq, Post.block, if_true]
      refine AW.step (by simp [hc]; rfl) ?_
      refine AW.ret ?_
      refine Left.of (av := _) (by simp [Try.f44, resV, resC, comp, hc]; rfl) ?_
      exact LeftV.rows [some 0] (by simp; omega) (nd_one) rfl rfl (by simp [pickOb, hc]) (by simp [hc])
theorem en_cm_I : Enters Try.prog 44 := enters Try.func44 (by kernel_rfl) rfl
def cmB (l : List Int) : Bool := decide (l.length ≤ 1000000000)
theorem sm_I (l : List Int) (h : cmB l = true) : Sound Try.prog 44 [.l (.r 0 1 0 l.length)] [⟨3, 1, true, none, lvs (encI l)⟩] (.l (.r 0 1 0 (compL l).length)) [some ⟨3, 1, true, none, lvs (encI (compL l))⟩] := s_cm_I l (by simpa [cmB] using h)
end Go.Proofs.Ytaibolmbafacpaa

/- Walks: Go's Insert of ints. -/
namespace Go.Proofs.Ytaibolmbafacpaa
open Go Go.RowKit
set_option linter.unusedVariables false
set_option linter.unusedSimpArgs false
set_option maxRecDepth 8000 in
set_option maxHeartbeats 8000000 in
theorem s_in_I (l : List Int) (i : Nat) (x : Int) (hi : i ≤ l.length) (hl : l.length ≤ 1000000000) : Sound Try.prog 31 [.l (.r 0 1 0 l.length), .l (.s (.int .i64 i)), .l (.r 1 1 0 1)] [⟨3, 1, true, none, lvs (encI l)⟩, ⟨3, 1, true, none, lvs (encI [x])⟩] (.l (.r 0 1 0 (l.length + 1))) [some ⟨3, 1, true, none, lvs (encI (insL l i x))⟩, some ⟨3, 1, true, none, lvs (encI [x])⟩] := by
  refine Sound.of_aw (fn := Try.f31) (c := _) Try.func31 rfl (by simp [Try.f31]) fun cx hG hnb => ?_
  rw [show Try.f31.ntmps = 95 from rfl]
  have hn0 : cx.nb = 2 := hnb
  have hlv : (lvs (encI l)).length = l.length := by rw [lvs_length (encI_sz l)]; simp
  have hw1 := i64_succ (show l.length + 1 ≤ 9223372036854775807 by omega)
  have hlx : (lvs (encI [x])).length = 1 := by rw [lvs_length (encI_sz _)]; simp
  refine AW.step (by simp [hi, hw1]; rfl) ?_
  refine AW.step (by simp [hi, hw1, hlv]; rfl) ?_
  refine AW.step (by simp [hi, hw1]; rfl) ?_
  refine AW.seq ?_
  refine AW.step (by simp [hi, hw1]; rfl) ?_
  refine AW.cond rfl (fun h3 => ?_) (fun h3 => ?_)
  · simp at h3
  · try simp at h3
    refine AW.skip ?_
    simp only [Post.seq, Post.block, if_true]
    refine AW.step (by simp [hi, hw1]; rfl) ?_
    refine AW.seq ?_
    refine AW.step (by simp [hi, hw1]; rfl) ?_
    refine AW.cond rfl (fun h6 => ?_) (fun h6 => ?_)
    · simp at h6
      have hins : insL l i x = l ++ [x] := by simp [insL, show i = l.length by omega]
      apply AW.step
      · simp [hi, hw1]
        refine xapp_push (acc := encI l) (ys := encI [x]) (cap := none) (k := 1) tb_el33 tb_ti3 (by simp) (src_row (e := 3) (cap := none) (by simp) (encI_sz _) (by simp)) (encI_sz _) (by simp) (by simp) (by omega) ?_
        simp [St.grow, obsBut, ← encI_append, ← hins]
        try simp [hi, hw1]
        rfl
      refine AW.ret ?_
      refine Left.of (av := _) (by simp [Try.f31, resV, resC, comp, hi, hw1]; rfl) ?_
      exact LeftV.rows [some 0, some 1] (by simp; omega) (nd_pair (by omega)) rfl rfl (by simp [pickOb, hi, hw1]) (by simp [hi, hw1])
    · simp at h6
      have hil : i < l.length := by omega
      have hin : (i : Int) + (l.length + 1 - i : Nat) = l.length + 1 := by omega
      have hin2 : i + (l.length + 1 - i) = l.length + 1 := by omega
      have hw2 := i64_succ (show i + 1 ≤ 9223372036854775807 by omega)
      refine AW.skip ?_
      simp only [Post.seq, Post.block, if_true]
      refine AW.seq ?_
      apply AW.stepK
      simp [hi, hw1]
      refine xcap_row tb_el33 rfl rfl fun c hc1 _ hc3 => ?_
      simp [hw1]
      unfold KK
      refine AW.cond rfl (fun h8 => ?_) (fun h8 => ?_)
      · simp at h8
        have hcl : c = l.length := by omega
        obtain ⟨es2, he2⟩ : ∃ es2, es2 = (encI l).take i ++ List.replicate (l.length + 1 - i) [.v (.int .i64 0)] := ⟨_, rfl⟩
        have hs2 : ∀ e ∈ es2, e.length = 1 := by
          intro e he
          rw [he2] at he
          rcases List.mem_append.1 he with h | h
          · exact encI_sz l e (List.mem_of_mem_take h)
          · rw [(List.mem_replicate.1 h).2]; rfl
        have hn2 : es2.length = l.length + 1 := by rw [he2]; simp; omega
        have hv2 : (lvs es2).length = (l.length + 1) := by rw [lvs_length hs2, hn2, Nat.mul_one]
        obtain ⟨es3, he3⟩ : ∃ es3, es3 = es2.take i ++ encI [x] ++ es2.drop (i + 1) := ⟨_, rfl⟩
        have hs3 : ∀ e ∈ es3, e.length = 1 := by
          intro e he
          rw [he3] at he
          simp only [List.mem_append] at he
          rcases he with (h | h) | h
          · exact hs2 e (List.mem_of_mem_take h)
          · exact encI_sz _ e h
          · exact hs2 e (List.mem_of_mem_drop h)
        have hn3 : es3.length = l.length + 1 := by rw [he3]; simp [hn2]; omega
        have hv3 : (lvs es3).length = (l.length + 1) := by rw [lvs_length hs3, hn3, Nat.mul_one]
        have hend : es3.take (i + 1) ++ ((encI l).drop i).take (l.length - i) = encI (insL l i x) := by
          rw [List.take_of_length_le (l := (encI l).drop i) (by simp)]
          rw [he3, List.take_append_of_le_length (by simp [hn2]; omega), List.take_of_length_le (by simp; omega), he2, List.take_append_of_le_length (by simp; omega)]
          simp [encI, insL, List.take_take]
        apply AW.step
        · simp [hi, hw1, hlv]
          repeat refine ⟨by omega, ?_⟩
          refine xmake_own (zr := [.v (.int .i64 0)]) (es := encI l) tb_el33 tb_ti3 rfl ⟨rfl, rfl, by omega⟩ rfl rfl (encI_sz _) (by simp; omega) (l.length + 1 - i) (by rw [i64_in (by omega) (by omega)]; omega) (by omega) (by omega) (by omega) (by omega) ?_
          simp [hin2]
          try simp [hi, hw1, hlv]
          rfl
        apply AW.step
        · simp [hi, hw1, hv2, ← he2]
          repeat refine ⟨by omega, ?_⟩
          refine xcopy_own tb_el33 tb_ti3 rfl (by simp [hv2]) (by omega) 1 (by omega) (by omega) (src_at (cap := none) rfl (encI_sz [x]) (by simp)) (setAt_mid (fs := encI [x]) hs2 (encI_sz _) (by simp [hn2]; omega)) ?_
          simp [← he3]
          try simp [hi, hw1, hv2, ← he2]
          rfl
        apply AW.drawnP (V := [_, _, _, _, _, _, _, _]) mixed [⟨[0], [], [(9, none)], false⟩, ⟨[0], [], [(1, none)], false⟩, ⟨[0], [], [(7, none)], false⟩, ⟨[0], [1, 2], [(47, some 1), (48, some 2)], false⟩, ⟨[0], [0, 1, 2, 3], [(46, some 0), (49, some 3)], false⟩, ⟨[0], [], [(0, none)], false⟩, ⟨[0], [], [(1, none)], false⟩, ⟨[0], [5, 6], [(51, some 5), (52, some 6)], false⟩, ⟨[], [0, 1, 2, 3, 4, 5, 6, 7], [], false⟩] 8 (by kernel_rfl) (by kernel_rfl)
        · refine ⟨?_, ?_, ?_, ?_, ?_, ?_, ?_, ?_, trivial⟩
          · intro tm hr
            simp [AllL, rdV] at hr
            simp [hr, hi, hw1, hv3, hw2, hlv]
            repeat refine ⟨by omega, ?_⟩
            exact KD.mk
          · intro tm hr
            simp [AllL, rdV] at hr
            simp [hr, hi, hw1, hv3, hw2, hlv]
            repeat refine ⟨by omega, ?_⟩
            exact KD.mk
          · intro tm hr
            simp [AllL, rdV] at hr
            simp [hr, hi, hw1, hv3, hw2, hlv]
            repeat refine ⟨by omega, ?_⟩
            exact KD.mk
          · intro tm hr
            simp [AllL, rdV] at hr
            simp [hr, hi, hw1, hv3, hw2, hlv]
            repeat refine ⟨by omega, ?_⟩
            exact KD.mk
          · intro tm hr
            simp [AllL, rdV] at hr
            simp [hr, hi, hw1, hv3, hw2, hlv]
            repeat refine ⟨by omega, ?_⟩
            exact KD.mk
          · intro tm hr
            simp [AllL, rdV] at hr
            simp [hr, hi, hw1, hv3, hw2, hlv]
            repeat refine ⟨by omega, ?_⟩
            exact KD.mk
          · intro tm hr
            simp [AllL, rdV] at hr
            simp [hr, hi, hw1, hv3, hw2, hlv]
            repeat refine ⟨by omega, ?_⟩
            exact KD.mk
          · intro tm hr
            simp [AllL, rdV] at hr
            simp [hr, hi, hw1, hv3, hw2, hlv]
            repeat refine ⟨by omega, ?_⟩
            exact KD.mk
        · rfl
        · simp [tmD, putD, hi, hw1, hv3, hw2, hlv]; rfl
        · simp [hi, hw1, hv3, hw2, hlv]
          repeat refine ⟨by omega, ?_⟩
          refine xcopy_own tb_el33 tb_ti3 rfl (by simp [hv3]) (by omega) (l.length - i) (by omega) (by omega) (src_at (cap := some c) rfl (encI_sz l) (by simp; omega)) (setAt_end0 (fs := ((encI l).drop i).take (l.length - i)) hs3 (fun e he => encI_sz l e (List.mem_of_mem_drop (List.mem_of_mem_take he))) (by omega) (by simp [hn3]; omega)) ?_
          try simp [hend]
          try simp [hi, hw1, hv3, hw2, hlv]
          rfl
        refine AW.step (by simp [hi, hw1]; rfl) ?_
        refine AW.ret ?_
        refine Left.of (av := _) (by simp [Try.f31, resV, resC, comp, hi, hw1]; rfl) ?_
        exact LeftV.rows [some 2, some 1] (by simp; omega) (nd_pair (by omega)) rfl rfl (by simp [pickOb, hi, hw1]) (by simp [hi, hw1])
      · have hc' : l.length + 1 ≤ c := by
          simp at h8
          omega
        refine AW.room 0 1 rfl rfl rfl (by simp [hlv]; omega) rfl rfl ?_
        have hlv3 : (lvs (encI l) ++ [LV.u]).length = (l.length + 1) := by simp [hlv]
        refine AW.skip ?_
        simp only [Post.seq, Post.block, if_true]
        refine AW.step (by simp [hi, hw1, hlv3, hlv]; (repeat refine ⟨by omega, ?_⟩); rfl) ?_
        refine AW.seq ?_
        apply AW.step
        · simp [hi, hw1, hlv3, hw2]
          repeat refine ⟨by omega, ?_⟩
          refine xcall_overlaps (t := 33) (tb := 4) Try.func48 (by kernel_rfl) (by kernel_rfl) (by kernel_rfl) (by kernel_rfl) tb_el33 tb_ti3 rfl rfl (by omega) (by simp) ?_
          try simp [hi, hw1, hlv3, hw2]
          rfl
        refine AW.cond rfl (fun h14 => ?_) (fun h14 => ?_)
        · try simp at h14
          apply AW.drawnP (V := [_, _, _, _, _, _, _, _]) mixed [⟨[0], [], [(0, none)], false⟩, ⟨[0], [], [(1, none)], false⟩, ⟨[0], [], [(7, none)], false⟩, ⟨[0], [1, 2], [(70, some 1), (71, some 2)], false⟩, ⟨[0], [0, 1, 2, 3], [(69, some 0), (72, some 3)], false⟩, ⟨[0], [], [(0, none)], false⟩, ⟨[0], [], [(1, none)], false⟩, ⟨[0], [5, 6], [(74, some 5), (75, some 6)], false⟩, ⟨[], [0, 1, 2, 3, 4, 5, 6, 7], [], false⟩] 8 (by kernel_rfl) (by kernel_rfl)
          · refine ⟨?_, ?_, ?_, ?_, ?_, ?_, ?_, ?_, trivial⟩
            · intro tm hr
              simp [AllL, rdV] at hr
              simp [hr, hi, hw1, hlv3, hw2]
              repeat refine ⟨by omega, ?_⟩
              exact KD.mk
            · intro tm hr
              simp [AllL, rdV] at hr
              simp [hr, hi, hw1, hlv3, hw2]
              repeat refine ⟨by omega, ?_⟩
              exact KD.mk
            · intro tm hr
              simp [AllL, rdV] at hr
              simp [hr, hi, hw1, hlv3, hw2]
              repeat refine ⟨by omega, ?_⟩
              exact KD.mk
            · intro tm hr
              simp [AllL, rdV] at hr
              simp [hr, hi, hw1, hlv3, hw2]
              repeat refine ⟨by omega, ?_⟩
              exact KD.mk
            · intro tm hr
              simp [AllL, rdV] at hr
              simp [hr, hi, hw1, hlv3, hw2]
              repeat refine ⟨by omega, ?_⟩
              exact KD.mk
            · intro tm hr
              simp [AllL, rdV] at hr
              simp [hr, hi, hw1, hlv3, hw2]
              repeat refine ⟨by omega, ?_⟩
              exact KD.mk
            · intro tm hr
              simp [AllL, rdV] at hr
              simp [hr, hi, hw1, hlv3, hw2]
              repeat refine ⟨by omega, ?_⟩
              exact KD.mk
            · intro tm hr
              simp [AllL, rdV] at hr
              simp [hr, hi, hw1, hlv3, hw2]
              repeat refine ⟨by omega, ?_⟩
              exact KD.mk
          · rfl
          · simp [tmD, putD, hi, hw1, hlv3, hw2]; rfl
          · simp [hi, hw1, hlv3, hw2]
            repeat refine ⟨by omega, ?_⟩
            refine xcopy_own tb_el33 tb_ti3 rfl (by simp [hlv3]) (by omega) (l.length - i) (by omega) (by omega) (src_atP (cap := some c) (us := [.u]) rfl (encI_sz l) (by simp; omega)) (setAt_end (fs := ((encI l).drop i).take (l.length - i)) (encI_sz l) (fun e he => encI_sz l e (List.mem_of_mem_drop (List.mem_of_mem_take he))) (by simp; omega) (by simp; omega)) ?_
            try simp [hi, hw1, hlv3, hw2]
            rfl
          obtain ⟨es4, he4⟩ : ∃ es4, es4 = (encI l).take (i + 1) ++ ((encI l).drop i).take (l.length - i) := ⟨_, rfl⟩
          have hs4 : ∀ e ∈ es4, e.length = 1 := by
            intro e he
            rw [he4] at he
            rcases List.mem_append.1 he with h | h
            · exact encI_sz l e (List.mem_of_mem_take h)
            · exact encI_sz l e (List.mem_of_mem_drop (List.mem_of_mem_take h))
          have hn4 : es4.length = l.length + 1 := by rw [he4]; simp; omega
          have hend : es4.take i ++ encI [x] ++ es4.drop (i + 1) = encI (insL l i x) := by
            have hA : ((encI l).take (i + 1)).length = i + 1 := by simp; omega
            rw [he4, List.drop_left' hA, List.take_append_of_le_length (by omega), List.take_take, Nat.min_eq_left (by omega), List.take_of_length_le (l := (encI l).drop i) (by simp)]
            simp [encI, insL]
          have hv4 : (lvs es4).length = (l.length + 1) := by rw [lvs_length hs4, hn4, Nat.mul_one]
          simp only [← he4]
          apply AW.step
          · simp [hi, hw1, hv4]
            repeat refine ⟨by omega, ?_⟩
            refine xcopy_own tb_el33 tb_ti3 rfl (by simp [hv4]) (by omega) 1 (by omega) (by omega) (src_at (cap := none) rfl (encI_sz [x]) (by simp)) (setAt_mid (fs := encI [x]) hs4 (encI_sz _) (by rw [hn4, encI_length]; simp; omega)) ?_
            simp [hend]
            try simp [hi, hw1, hv4]
            rfl
          refine AW.step (by simp [hi, hw1]; rfl) ?_
          refine AW.ret ?_
          refine Left.of (av := _) (by simp [Try.f31, resV, resC, comp, hi, hw1]; rfl) ?_
          refine LeftV.shrink 0 ((l.length + 1)) rfl rfl rfl rfl ?_
          have hlf : (lvs (encI (insL l i x))).take ((l.length + 1)) = lvs (encI (insL l i x)) := List.take_of_length_le (by rw [lvs_length (encI_sz _)]; simp [insL_length l i x hi])
          exact LeftV.rows [some 0, some 1] (by simp; omega) (nd_pair (by omega)) rfl rfl (by simp [pickOb, hlf]) (by simp)
        · simp at h14
theorem en_in_I : Enters Try.prog 31 := enters Try.func31 (by kernel_rfl) rfl
theorem si_I (l : List Int) (i : Int) (x : Int) (h : insB l i = true) : Sound Try.prog 31 [.l (.r 0 1 0 l.length), .l (.s (.int .i64 i)), .l (.r 1 1 0 1)] [⟨3, 1, true, none, lvs (encI l)⟩, ⟨3, 1, true, none, lvs (encI [x])⟩] (.l (.r 0 1 0 (l.length + 1)))
    [some ⟨3, 1, true, none, lvs (encI (insL l i.toNat x))⟩, some ⟨3, 1, true, none, lvs (encI [x])⟩] := by
  simp [insB] at h
  have := s_in_I l i.toNat x (by omega) (by omega)
  rwa [show ((i.toNat : Nat) : Int) = i by omega] at this
end Go.Proofs.Ytaibolmbafacpaa

/- Operations, told by shallow code: what simp makes of them. -/
namespace Go.Proofs.Ytaibolmbafacpaa
open Go Go.RowKit
set_option linter.unusedVariables false
set_option linter.unusedSimpArgs false
/-! ### Operations, told by such code -/
section
variable {P : Program} {d : Option Nat} {t : Nat} {st : St} {K : St → Prop} {k : IntKind} {a b : Int} {x y : ByteArray} {p q : Bool}
@[simp high] theorem xs_add : xeq P .add t (.l (.s (.int k a))) (.l (.s (.int k b))) st d K = K (st.put d (.l (.s (.int k (addI k a b))))) := by simp [xeq, bopP, bop, addI]
@[simp high] theorem xs_sub : xeq P .sub t (.l (.s (.int k a))) (.l (.s (.int k b))) st d K = K (st.put d (.l (.s (.int k (subI k a b))))) := by simp [xeq, bopP, bop, subI]
@[simp high] theorem xs_mul : xeq P .mul t (.l (.s (.int k a))) (.l (.s (.int k b))) st d K = K (st.put d (.l (.s (.int k (mulI k a b))))) := by simp [xeq, bopP, bop, mulI]
@[simp high] theorem xs_and : xeq P .and t (.l (.s (.int k a))) (.l (.s (.int k b))) st d K = K (st.put d (.l (.s (.int k (andI k a b))))) := by simp [xeq, bopP, bop, andI]
@[simp high] theorem xs_or : xeq P .or t (.l (.s (.int k a))) (.l (.s (.int k b))) st d K = K (st.put d (.l (.s (.int k (orI k a b))))) := by simp [xeq, bopP, bop, orI]
@[simp high] theorem xs_xor : xeq P .xor t (.l (.s (.int k a))) (.l (.s (.int k b))) st d K = K (st.put d (.l (.s (.int k (xorI k a b))))) := by simp [xeq, bopP, bop, xorI]
@[simp high] theorem xs_quo : xeq P .quo t (.l (.s (.int k a))) (.l (.s (.int k b))) st d K = wh (quoI k a b) fun c => K (st.put d (.l (.s (.int k c)))) := by
  unfold quoI; split <;> simp_all [xeq, bopP, bop]
@[simp high] theorem xs_rem : xeq P .rem t (.l (.s (.int k a))) (.l (.s (.int k b))) st d K = wh (remI k a b) fun c => K (st.put d (.l (.s (.int k c)))) := by
  unfold remI; split <;> simp_all [xeq, bopP, bop]
@[simp high] theorem xs_shl {k' : IntKind} : xeq P .shl t (.l (.s (.int k a))) (.l (.s (.int k' b))) st d K = wh (shlI k a b) fun c => K (st.put d (.l (.s (.int k c)))) := by
  unfold shlI; simp only [xeq, bopP, bop]; split <;> rfl
@[simp high] theorem xs_shr {k' : IntKind} : xeq P .shr t (.l (.s (.int k a))) (.l (.s (.int k' b))) st d K = wh (shrI k a b) fun c => K (st.put d (.l (.s (.int k c)))) := by
  unfold shrI; simp only [xeq, bopP, bop]; split <;> rfl
@[simp high] theorem xs_eql : xeq P .eql t (.l (.s (.int k a))) (.l (.s (.int k b))) st d K = K (st.put d (.l (.s (.bool (eqI a b))))) := by simp [xeq, bopP, bop, eqI]
@[simp high] theorem xs_neq : xeq P .neq t (.l (.s (.int k a))) (.l (.s (.int k b))) st d K = K (st.put d (.l (.s (.bool (neI a b))))) := by simp [xeq, bopP, bop, neI]
@[simp high] theorem xs_lss : xeq P .lss t (.l (.s (.int k a))) (.l (.s (.int k b))) st d K = K (st.put d (.l (.s (.bool (ltI a b))))) := by simp [xeq, bopP, bop, ltI]
@[simp high] theorem xs_leq : xeq P .leq t (.l (.s (.int k a))) (.l (.s (.int k b))) st d K = K (st.put d (.l (.s (.bool (leI a b))))) := by simp [xeq, bopP, bop, leI]
@[simp high] theorem xs_gtr : xeq P .gtr t (.l (.s (.int k a))) (.l (.s (.int k b))) st d K = K (st.put d (.l (.s (.bool (gtI a b))))) := by simp [xeq, bopP, bop, gtI]
@[simp high] theorem xs_geq : xeq P .geq t (.l (.s (.int k a))) (.l (.s (.int k b))) st d K = K (st.put d (.l (.s (.bool (geI a b))))) := by simp [xeq, bopP, bop, geI]
@[simp high] theorem xs_eqlS : xeq P .eql t (.l (.s (.string x))) (.l (.s (.string y))) st d K = K (st.put d (.l (.s (.bool (eqS x y))))) := by simp [xeq, bopP, bop, eqS]
@[simp high] theorem xs_neqS : xeq P .neq t (.l (.s (.string x))) (.l (.s (.string y))) st d K = K (st.put d (.l (.s (.bool (neS x y))))) := by simp [xeq, bopP, bop, neS]
@[simp high] theorem xs_lssS : xeq P .lss t (.l (.s (.string x))) (.l (.s (.string y))) st d K = K (st.put d (.l (.s (.bool (ltS x y))))) := by simp [xeq, bopP, bop, ltS]
@[simp high] theorem xs_leqS : xeq P .leq t (.l (.s (.string x))) (.l (.s (.string y))) st d K = K (st.put d (.l (.s (.bool (leS x y))))) := by simp [xeq, bopP, bop, leS]
@[simp high] theorem xs_gtrS : xeq P .gtr t (.l (.s (.string x))) (.l (.s (.string y))) st d K = K (st.put d (.l (.s (.bool (gtS x y))))) := by simp [xeq, bopP, bop, gtS]
@[simp high] theorem xs_geqS : xeq P .geq t (.l (.s (.string x))) (.l (.s (.string y))) st d K = K (st.put d (.l (.s (.bool (geS x y))))) := by simp [xeq, bopP, bop, geS]
@[simp high] theorem xs_cat : xeq P .add t (.l (.s (.string x))) (.l (.s (.string y))) st d K = wh (catS x y) fun c => K (st.put d (.l (.s (.string c)))) := by
  unfold catS; simp only [xeq, bopP, bop]; split <;> rfl
@[simp high] theorem xs_eqlB : xeq P .eql t (.l (.s (.bool p))) (.l (.s (.bool q))) st d K = (sk P t = some 2 ∧ K (st.put d (.l (.s (.bool (eqB p q)))))) := by
  simp only [xeq, bopP, eqB]; split <;> simp_all
@[simp high] theorem xs_neqB : xeq P .neq t (.l (.s (.bool p))) (.l (.s (.bool q))) st d K = (sk P t = some 2 ∧ K (st.put d (.l (.s (.bool (neB p q)))))) := by
  simp only [xeq, bopP, neB]; split <;> simp_all
@[simp high] theorem xs_eqlG (xs ys : List LV) : xeq P .eql t (.g xs) (.g ys) st d K = wh (seqF P t) fun ks => wh (veqs ks xs ys) fun b => K (st.put d (.l (.s (.bool b)))) := by rw [xeq_g']; simp
@[simp high] theorem xs_neqG (xs ys : List LV) : xeq P .neq t (.g xs) (.g ys) st d K = wh (seqF P t) fun ks => wh (veqs ks xs ys) fun b => K (st.put d (.l (.s (.bool (notB b))))) := by rw [xeq_g']; simp [notB]
def andO : Option Bool → Option Bool → Option Bool
  | some b, some c => some (andB b c)
  | _, _ => none
@[simp high] theorem veqs_0 {ks : List Nat} {xs ys : List LV} {k k' : IntKind} : veqs (0 :: ks) (.s (.int k a) :: xs) (.s (.int k' b) :: ys) = if k = k' then andO (some (eqI a b)) (veqs ks xs ys) else none := by
  simp only [veqs, veq, eqI]
  by_cases h : k = k'
  · simp only [h, if_true]; cases veqs ks xs ys <;> rfl
  · simp [h]
@[simp high] theorem veqs_1 {ks : List Nat} {xs ys : List LV} : veqs (1 :: ks) (.s (.string x) :: xs) (.s (.string y) :: ys) = andO (some (eqS x y)) (veqs ks xs ys) := by
  simp only [veqs, veq, eqS]; cases veqs ks xs ys <;> rfl
@[simp high] theorem veqs_2 {ks : List Nat} {xs ys : List LV} : veqs (2 :: ks) (.s (.bool p) :: xs) (.s (.bool q) :: ys) = andO (some (eqB p q)) (veqs ks xs ys) := by
  simp only [veqs, veq, eqB]; cases veqs ks xs ys <;> rfl
@[simp] theorem veqs_n : veqs [] [] [] = some true := rfl
@[simp] theorem andO_s (b c : Bool) : andO (some b) (some c) = some (andB b c) := rfl
@[simp high] theorem xs_not {ty : TypeId} {pos : String} {af : Array Edge} {g : Option (Nat × Bool)} {x' : Operand} : xo P ⟨d, .unOp .not t x', ty, pos, af, g⟩ st K = wb (st.ev x') fun b => K (st.put d (.l (.s (.bool (notB b))))) := by
  rw [xo_unOp]
  generalize st.ev x' = v
  cases v with
  | l y =>
    cases y with
    | s z => cases z <;> first | rfl | (simp [ws, wb, uop])
    | _ => rfl
  | _ => rfl
def wik (v : AV) (k : IntKind → Int → Prop) : Prop :=
  match v with
  | .l (.s (.int kd n)) => k kd n
  | _ => False
@[congr] theorem wik_congr {x y : AV} {k : IntKind → Int → Prop} (h : x = y) : wik x k = wik y k := by rw [h]
@[simp] theorem wik_i (kd : IntKind) (n : Int) (k : IntKind → Int → Prop) : wik (.l (.s (.int kd n))) k = k kd n := nr rfl
@[simp high] theorem xs_neg {ty : TypeId} {pos : String} {af : Array Edge} {g : Option (Nat × Bool)} {x' : Operand} : xo P ⟨d, .unOp .neg t x', ty, pos, af, g⟩ st K = wik (st.ev x') fun k b => K (st.put d (.l (.s (.int k (negI k b))))) := by
  rw [xo_unOp]
  generalize st.ev x' = v
  cases v with
  | l y =>
    cases y with
    | s z => cases z <;> first | rfl | (simp [ws, wik, uop])
    | _ => rfl
  | _ => rfl
@[simp high] theorem xs_conv (s t : Nat) : xconv P s t (.l (.s (.int k a))) st d K = ((P.underlying s).isSome = true ∧ wh (intF P t) fun k => K (st.put d (.l (.s (.int k (cvI k a)))))) := nr rfl
@[simp high] theorem xs_max : xmm max (.l (.s (.int k a))) (.l (.s (.int k b))) st d K = K (st.put d (.l (.s (.int k (maxI a b))))) := by simp [xmm, maxI]
@[simp high] theorem xs_min : xmm min (.l (.s (.int k a))) (.l (.s (.int k b))) st d K = K (st.put d (.l (.s (.int k (minI a b))))) := by simp [xmm, minI]
end
section
variable {P : Program} {d : Option Nat} {t : Nat} {st : St} {K : St → Prop} {x : ByteArray} {ob sz lo hi : Nat} {al : Bool}
@[simp high] theorem xs_lenS : xlen P t (.l (.s (.string x))) st d K = (strF P t = true ∧ K (st.put d (.l (.s (.int .i64 (lenS x)))))) := nr rfl
end

/-- Where a byte stands in a text (-1: nowhere). -/
def idxB (a : ByteArray) (c : Int) : Int := Lib.indexByte a.data.toList c.toNat.toUInt8
def bytesI (s : ByteArray) : List Int := s.data.toList.map fun b => (b.toNat : Int)
@[simp] theorem bytesT_eq (s : ByteArray) : bytesT s = encU (bytesI s) := by simp [bytesT, encU, bytesI, Function.comp_def]
end Go.Proofs.Ytaibolmbafacpaa

/- Plain laws: how shallow code runs. -/
namespace Go.Proofs.Ytaibolmbafacpaa
open Go Go.RowKit
set_option linter.unusedVariables false
set_option linter.unusedSimpArgs false
/-- Rounds enough for whatever lies in memory. -/
def big : Nat := 281474976710656
section
variable {α β γ : Type}
theorem iter_go {f : α → Option (α ⊕ β)} (Q : β → Prop) (I : Nat → α → Prop) (N : Nat)
    (h : ∀ k a, k ≤ N → I k a → (∃ a', k < N ∧ f a = some (.inl a') ∧ I (k + 1) a') ∨ ∃ b, f a = some (.inr b) ∧ Q b) :
    ∀ (d k : Nat) (a : α), k + d = N → I k a → ∀ n, d < n → ∃ b, iter n f a = some b ∧ Q b
  | d, k, a, hd, hI, 0, hn => by omega
  | d, k, a, hd, hI, n + 1, hn => by
    rcases h k a (by omega) hI with ⟨a', hk, h1, h2⟩ | ⟨b, h1, h2⟩
    · rw [iter_inl h1]
      match d with
      | 0 => omega
      | d + 1 => exact iter_go Q I N h d (k + 1) a' (by omega) h2 n (by omega)
    · exact ⟨b, iter_inr h1, h2⟩
/-- Rounds that end: what holds at the end. -/
theorem iter_inv {f : α → Option (α ⊕ β)} {a : α} (Q : β → Prop) (I : Nat → α → Prop) (N : Nat) (hN : N < big)
    (h0 : I 0 a) (h : ∀ k a, k ≤ N → I k a → (∃ a', k < N ∧ f a = some (.inl a') ∧ I (k + 1) a') ∨ ∃ b, f a = some (.inr b) ∧ Q b) : ∃ b, iter big f a = some b ∧ Q b :=
  iter_go Q I N h N 0 a (by omega) h0 big hN
/-- Code runs, and what it yields is such. -/
def Rn (m : Option α) (Q : α → Prop) : Prop := ∃ v, m = some v ∧ Q v
theorem Rn.some {v : α} {Q : α → Prop} (h : Q v) : Rn (some v) Q := ⟨v, rfl, h⟩
theorem Rn.mono {m : Option α} {Q R : α → Prop} (h : Rn m Q) (hk : ∀ v, Q v → R v) : Rn m R := ⟨h.choose, h.choose_spec.1, hk _ h.choose_spec.2⟩
theorem Rn.lt {a : α} {k : α → Option β} {Q : β → Prop} (h : Rn (k a) Q) : Rn (lt a k) Q := h
theorem Rn.bn {m : Option α} {k : α → Option β} {P : α → Prop} {Q : β → Prop} (h : Rn m P) (hk : ∀ v, P v → Rn (k v) Q) : Rn (bn m k) Q := by
  obtain ⟨v, rfl, hv⟩ := h
  exact hk v hv
theorem Rn.bnE {m : Option α} {k : α → Option β} {v : α} {Q : β → Prop} (h : m = Option.some v) (hk : Rn (k v) Q) : Rn (Go.Proofs.Ytaibolmbafacpaa.bn m k) Q := by
  subst h
  exact hk
theorem Rn.chk {b : Bool} {k : Option β} {Q : β → Prop} (h : b = true) (hk : Rn k Q) : Rn (chk b k) Q := by
  subst h
  exact hk
theorem Rn.room {m c : Nat} {k : Option β} {Q : β → Prop} (h : m * c ≤ 140737488355328) (h2 : m ≤ 140737488355328) (hk : Rn k Q) : Rn (Go.Proofs.Ytaibolmbafacpaa.chk (Go.Proofs.Ytaibolmbafacpaa.room m c) k) Q := Rn.chk (by simp [Go.Proofs.Ytaibolmbafacpaa.room, h, h2]) hk
theorem Rn.ite {b : Bool} {x y : Option β} {Q : β → Prop} (h : b = true → Rn x Q) (h2 : b = false → Rn y Q) : Rn (ite' b x y) Q := by
  cases b
  · exact h2 rfl
  · exact h rfl
theorem Rn.sm {s : α ⊕ β} {f : α → Option γ} {g : β → Option γ} {Q : γ → Prop} (h : ∀ a, s = .inl a → Rn (f a) Q) (h2 : ∀ b, s = .inr b → Rn (g b) Q) : Rn (sm s f g) Q := by
  cases s with
  | inl a => exact h a rfl
  | inr b => exact h2 b rfl
/-- Rounds: I holds ahead of each, and N of them are enough. -/
theorem Rn.iter {f : α → Option (α ⊕ β)} {a : α} (Q : β → Prop) (I : Nat → α → Prop) (N : Nat) (hN : N < big) (h0 : I 0 a)
    (h : ∀ k a, k ≤ N → I k a → Rn (f a) fun x => match x with | .inl a' => k < N ∧ I (k + 1) a' | .inr b => Q b) : Rn (iter big f a) Q := by
  refine iter_inv Q I N hN h0 fun k a hk hI => ?_
  obtain ⟨x, h1, h2⟩ := h k a hk hI
  cases x with
  | inl a' => exact .inl ⟨a', h2.1, h1, h2.2⟩
  | inr b => exact .inr ⟨b, h1, h2⟩
theorem nth_some {l : List α} {i : Nat} (h : i < l.length) : nth l (i : Int) = some l[i] := by rw [nth_nat, List.getElem?_eq_getElem h]
end
theorem wrap64 {a : Int} (h : -9223372036854775808 ≤ a) (h2 : a ≤ 9223372036854775807) : IntKind.i64.wrap a = a := by
  simp [IntKind.wrap, IntKind.bits, IntKind.signed]
  omega
theorem addI_64 {a b : Int} (h : -9223372036854775808 ≤ a + b) (h2 : a + b ≤ 9223372036854775807) : addI .i64 a b = a + b := wrap64 h h2
theorem cvI_64 {a : Int} (h : -9223372036854775808 ≤ a) (h2 : a ≤ 9223372036854775807) : cvI .i64 a = a := wrap64 h h2
end Go.Proofs.Ytaibolmbafacpaa

