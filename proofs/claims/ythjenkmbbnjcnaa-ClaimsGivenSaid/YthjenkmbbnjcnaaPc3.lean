/- Part 3 of the proof. -/
import Derived.Test.YthjenkmbbnjcnaaPc2
import Derived.Test.YthjenkmbbnjcnaaProg
namespace Go.Proofs.Ythjenkmbbnjcnaa
open Go Go.RowKit
@[simp] theorem tb_ti1 : tiF Try.prog 1 = some ⟨false, 1, 8, [.nilFunc]⟩ := by kernel_rfl
@[simp] theorem tb_un1 : (Try.prog.underlying 1).isSome = true := by kernel_rfl
@[simp] theorem tb_ti2 : tiF Try.prog 2 = some ⟨false, 1, 8, [.int .i64 0]⟩ := by kernel_rfl
@[simp] theorem tb_un2 : (Try.prog.underlying 2).isSome = true := by kernel_rfl
@[simp] theorem tb_ti3 : tiF Try.prog 3 = some ⟨false, 1, 8, [.int .i64 0]⟩ := by kernel_rfl
@[simp] theorem tb_un3 : (Try.prog.underlying 3).isSome = true := by kernel_rfl
@[simp] theorem tb_ti4 : tiF Try.prog 4 = some ⟨false, 1, 1, [.bool false]⟩ := by kernel_rfl
@[simp] theorem tb_un4 : (Try.prog.underlying 4).isSome = true := by kernel_rfl
@[simp] theorem tb_ti5 : tiF Try.prog 5 = some ⟨false, 1, 1, [.int .u8 0]⟩ := by kernel_rfl
@[simp] theorem tb_un5 : (Try.prog.underlying 5).isSome = true := by kernel_rfl
@[simp] theorem tb_ti6 : tiF Try.prog 6 = some ⟨false, 1, 1, [.int .u8 0]⟩ := by kernel_rfl
@[simp] theorem tb_un6 : (Try.prog.underlying 6).isSome = true := by kernel_rfl
@[simp] theorem tb_ti7 : tiF Try.prog 7 = some ⟨true, 4, 24, [.int .i64 0, .int .i64 0, .bool false, .int .u8 0]⟩ := by kernel_rfl
@[simp] theorem tb_un7 : (Try.prog.underlying 7).isSome = true := by kernel_rfl
@[simp] theorem tb_ti8 : tiF Try.prog 8 = some ⟨true, 4, 24, [.int .i64 0, .int .i64 0, .bool false, .int .u8 0]⟩ := by kernel_rfl
@[simp] theorem tb_un8 : (Try.prog.underlying 8).isSome = true := by kernel_rfl
@[simp] theorem tb_ti9 : tiF Try.prog 9 = some ⟨false, 1, 16, [.string ⟨#[]⟩]⟩ := by kernel_rfl
@[simp] theorem tb_un9 : (Try.prog.underlying 9).isSome = true := by kernel_rfl
@[simp] theorem tb_ti10 : tiF Try.prog 10 = some ⟨false, 1, 16, [.string ⟨#[]⟩]⟩ := by kernel_rfl
@[simp] theorem tb_un10 : (Try.prog.underlying 10).isSome = true := by kernel_rfl
@[simp] theorem tb_ti11 : tiF Try.prog 11 = some ⟨false, 1, 16, [.string ⟨#[]⟩]⟩ := by kernel_rfl
@[simp] theorem tb_un11 : (Try.prog.underlying 11).isSome = true := by kernel_rfl
@[simp] theorem tb_ti12 : tiF Try.prog 12 = some ⟨false, 1, 8, [.int .u64 0]⟩ := by kernel_rfl
@[simp] theorem tb_un12 : (Try.prog.underlying 12).isSome = true := by kernel_rfl
@[simp] theorem tb_ti13 : tiF Try.prog 13 = some ⟨true, 2, 24, [.string ⟨#[]⟩, .int .u64 0]⟩ := by kernel_rfl
@[simp] theorem tb_un13 : (Try.prog.underlying 13).isSome = true := by kernel_rfl
@[simp] theorem tb_ti14 : tiF Try.prog 14 = some ⟨true, 2, 24, [.string ⟨#[]⟩, .int .u64 0]⟩ := by kernel_rfl
@[simp] theorem tb_un14 : (Try.prog.underlying 14).isSome = true := by kernel_rfl
@[simp] theorem tb_ti15 : tiF Try.prog 15 = some ⟨false, 1, 8, [.pointer none]⟩ := by kernel_rfl
@[simp] theorem tb_un15 : (Try.prog.underlying 15).isSome = true := by kernel_rfl
@[simp] theorem tb_ti16 : tiF Try.prog 16 = some ⟨false, 1, 8, [.pointer none]⟩ := by kernel_rfl
@[simp] theorem tb_un16 : (Try.prog.underlying 16).isSome = true := by kernel_rfl
@[simp] theorem tb_ti17 : tiF Try.prog 17 = some ⟨false, 1, 8, [.pointer none]⟩ := by kernel_rfl
@[simp] theorem tb_un17 : (Try.prog.underlying 17).isSome = true := by kernel_rfl
@[simp] theorem tb_ti18 : tiF Try.prog 18 = some ⟨true, 1, 8, [.pointer none]⟩ := by kernel_rfl
@[simp] theorem tb_un18 : (Try.prog.underlying 18).isSome = true := by kernel_rfl
@[simp] theorem tb_ti19 : tiF Try.prog 19 = some ⟨true, 1, 8, [.pointer none]⟩ := by kernel_rfl
@[simp] theorem tb_un19 : (Try.prog.underlying 19).isSome = true := by kernel_rfl
@[simp] theorem tb_ti20 : tiF Try.prog 20 = some ⟨false, 1, 16, [.nilIface]⟩ := by kernel_rfl
@[simp] theorem tb_un20 : (Try.prog.underlying 20).isSome = true := by kernel_rfl
@[simp] theorem tb_ti21 : tiF Try.prog 21 = some ⟨false, 1, 4, [.int .i32 0]⟩ := by kernel_rfl
@[simp] theorem tb_un21 : (Try.prog.underlying 21).isSome = true := by kernel_rfl
@[simp] theorem tb_ti22 : tiF Try.prog 22 = some ⟨false, 1, 24, [.slice none 0 0]⟩ := by kernel_rfl
@[simp] theorem tb_un22 : (Try.prog.underlying 22).isSome = true := by kernel_rfl
@[simp] theorem tb_ti23 : tiF Try.prog 23 = some ⟨false, 1, 8, [.nilFunc]⟩ := by kernel_rfl
@[simp] theorem tb_un23 : (Try.prog.underlying 23).isSome = true := by kernel_rfl
@[simp] theorem tb_ti24 : tiF Try.prog 24 = some ⟨false, 1, 24, [.slice none 0 0]⟩ := by kernel_rfl
@[simp] theorem tb_un24 : (Try.prog.underlying 24).isSome = true := by kernel_rfl
@[simp] theorem tb_ti25 : tiF Try.prog 25 = some ⟨false, 1, 8, [.nilFunc]⟩ := by kernel_rfl
@[simp] theorem tb_un25 : (Try.prog.underlying 25).isSome = true := by kernel_rfl
@[simp] theorem tb_ti26 : tiF Try.prog 26 = some ⟨false, 1, 8, [.nilFunc]⟩ := by kernel_rfl
@[simp] theorem tb_un26 : (Try.prog.underlying 26).isSome = true := by kernel_rfl
@[simp] theorem tb_ti27 : tiF Try.prog 27 = some ⟨false, 1, 8, [.nilFunc]⟩ := by kernel_rfl
@[simp] theorem tb_un27 : (Try.prog.underlying 27).isSome = true := by kernel_rfl
@[simp] theorem tb_ti28 : tiF Try.prog 28 = some ⟨false, 1, 8, [.nilFunc]⟩ := by kernel_rfl
@[simp] theorem tb_un28 : (Try.prog.underlying 28).isSome = true := by kernel_rfl
@[simp] theorem tb_ti29 : tiF Try.prog 29 = some ⟨false, 1, 24, [.slice none 0 0]⟩ := by kernel_rfl
@[simp] theorem tb_un29 : (Try.prog.underlying 29).isSome = true := by kernel_rfl
@[simp] theorem tb_ti30 : tiF Try.prog 30 = some ⟨false, 1, 8, [.nilFunc]⟩ := by kernel_rfl
@[simp] theorem tb_un30 : (Try.prog.underlying 30).isSome = true := by kernel_rfl
@[simp] theorem tb_ti31 : tiF Try.prog 31 = some ⟨false, 1, 8, [.nilFunc]⟩ := by kernel_rfl
@[simp] theorem tb_un31 : (Try.prog.underlying 31).isSome = true := by kernel_rfl
@[simp] theorem tb_ti32 : tiF Try.prog 32 = some ⟨false, 1, 8, [.nilFunc]⟩ := by kernel_rfl
@[simp] theorem tb_un32 : (Try.prog.underlying 32).isSome = true := by kernel_rfl
@[simp] theorem tb_ti33 : tiF Try.prog 33 = some ⟨false, 1, 2, [.int .u16 0]⟩ := by kernel_rfl
@[simp] theorem tb_un33 : (Try.prog.underlying 33).isSome = true := by kernel_rfl
@[simp] theorem tb_ti35 : tiF Try.prog 35 = some ⟨false, 1, 8, [.nilFunc]⟩ := by kernel_rfl
@[simp] theorem tb_un35 : (Try.prog.underlying 35).isSome = true := by kernel_rfl
@[simp] theorem tb_ti36 : tiF Try.prog 36 = some ⟨false, 1, 8, [.nilFunc]⟩ := by kernel_rfl
@[simp] theorem tb_un36 : (Try.prog.underlying 36).isSome = true := by kernel_rfl
@[simp] theorem tb_ti37 : tiF Try.prog 37 = some ⟨false, 1, 8, [.nilFunc]⟩ := by kernel_rfl
@[simp] theorem tb_un37 : (Try.prog.underlying 37).isSome = true := by kernel_rfl
@[simp] theorem tb_ti38 : tiF Try.prog 38 = some ⟨false, 1, 8, [.nilFunc]⟩ := by kernel_rfl
@[simp] theorem tb_un38 : (Try.prog.underlying 38).isSome = true := by kernel_rfl
@[simp] theorem tb_ti39 : tiF Try.prog 39 = some ⟨false, 1, 8, [.nilFunc]⟩ := by kernel_rfl
@[simp] theorem tb_un39 : (Try.prog.underlying 39).isSome = true := by kernel_rfl
@[simp] theorem tb_ti40 : tiF Try.prog 40 = some ⟨true, 4, 32, [.int .i64 0, .int .i64 0, .int .i64 0, .int .i64 0]⟩ := by kernel_rfl
@[simp] theorem tb_un40 : (Try.prog.underlying 40).isSome = true := by kernel_rfl
@[simp] theorem tb_ti41 : tiF Try.prog 41 = some ⟨true, 4, 32, [.int .i64 0, .int .i64 0, .int .i64 0, .int .i64 0]⟩ := by kernel_rfl
@[simp] theorem tb_un41 : (Try.prog.underlying 41).isSome = true := by kernel_rfl
@[simp] theorem tb_ti42 : tiF Try.prog 42 = some ⟨true, 2, 16, [.int .i64 0, .int .i64 0]⟩ := by kernel_rfl
@[simp] theorem tb_un42 : (Try.prog.underlying 42).isSome = true := by kernel_rfl
@[simp] theorem tb_ti43 : tiF Try.prog 43 = some ⟨true, 2, 16, [.int .i64 0, .int .i64 0]⟩ := by kernel_rfl
@[simp] theorem tb_un43 : (Try.prog.underlying 43).isSome = true := by kernel_rfl
@[simp] theorem tb_ti44 : tiF Try.prog 44 = some ⟨false, 1, 24, [.slice none 0 0]⟩ := by kernel_rfl
@[simp] theorem tb_un44 : (Try.prog.underlying 44).isSome = true := by kernel_rfl
@[simp] theorem tb_ti45 : tiF Try.prog 45 = some ⟨false, 1, 8, [.nilFunc]⟩ := by kernel_rfl
@[simp] theorem tb_un45 : (Try.prog.underlying 45).isSome = true := by kernel_rfl
@[simp] theorem tb_ti46 : tiF Try.prog 46 = some ⟨false, 1, 8, [.nilFunc]⟩ := by kernel_rfl
@[simp] theorem tb_un46 : (Try.prog.underlying 46).isSome = true := by kernel_rfl
@[simp] theorem tb_ti47 : tiF Try.prog 47 = some ⟨false, 1, 8, [.nilFunc]⟩ := by kernel_rfl
@[simp] theorem tb_un47 : (Try.prog.underlying 47).isSome = true := by kernel_rfl
@[simp] theorem tb_ti48 : tiF Try.prog 48 = some ⟨false, 1, 8, [.nilFunc]⟩ := by kernel_rfl
@[simp] theorem tb_un48 : (Try.prog.underlying 48).isSome = true := by kernel_rfl
@[simp] theorem tb_ti49 : tiF Try.prog 49 = some ⟨false, 1, 8, [.nilFunc]⟩ := by kernel_rfl
@[simp] theorem tb_un49 : (Try.prog.underlying 49).isSome = true := by kernel_rfl
@[simp] theorem tb_ti50 : tiF Try.prog 50 = some ⟨false, 1, 8, [.nilFunc]⟩ := by kernel_rfl
@[simp] theorem tb_un50 : (Try.prog.underlying 50).isSome = true := by kernel_rfl
@[simp] theorem tb_ti51 : tiF Try.prog 51 = some ⟨false, 1, 8, [.nilFunc]⟩ := by kernel_rfl
@[simp] theorem tb_un51 : (Try.prog.underlying 51).isSome = true := by kernel_rfl
@[simp] theorem tb_ti53 : tiF Try.prog 53 = some ⟨false, 1, 8, [.nilFunc]⟩ := by kernel_rfl
@[simp] theorem tb_un53 : (Try.prog.underlying 53).isSome = true := by kernel_rfl
@[simp] theorem tb_ti54 : tiF Try.prog 54 = some ⟨false, 1, 8, [.nilFunc]⟩ := by kernel_rfl
@[simp] theorem tb_un54 : (Try.prog.underlying 54).isSome = true := by kernel_rfl
@[simp] theorem tb_ti55 : tiF Try.prog 55 = some ⟨false, 1, 8, [.nilFunc]⟩ := by kernel_rfl
@[simp] theorem tb_un55 : (Try.prog.underlying 55).isSome = true := by kernel_rfl
@[simp] theorem tb_ti56 : tiF Try.prog 56 = some ⟨false, 1, 8, [.nilFunc]⟩ := by kernel_rfl
@[simp] theorem tb_un56 : (Try.prog.underlying 56).isSome = true := by kernel_rfl
@[simp] theorem tb_ti57 : tiF Try.prog 57 = some ⟨false, 1, 24, [.slice none 0 0]⟩ := by kernel_rfl
@[simp] theorem tb_un57 : (Try.prog.underlying 57).isSome = true := by kernel_rfl
@[simp] theorem tb_ti58 : tiF Try.prog 58 = some ⟨false, 1, 24, [.slice none 0 0]⟩ := by kernel_rfl
@[simp] theorem tb_un58 : (Try.prog.underlying 58).isSome = true := by kernel_rfl
@[simp] theorem tb_ti59 : tiF Try.prog 59 = some ⟨false, 1, 24, [.slice none 0 0]⟩ := by kernel_rfl
@[simp] theorem tb_un59 : (Try.prog.underlying 59).isSome = true := by kernel_rfl
@[simp] theorem tb_ti60 : tiF Try.prog 60 = some ⟨true, 2, 16, [.int .i64 0, .int .i64 0]⟩ := by kernel_rfl
@[simp] theorem tb_un60 : (Try.prog.underlying 60).isSome = true := by kernel_rfl
@[simp] theorem tb_ti61 : tiF Try.prog 61 = some ⟨true, 2, 16, [.int .i64 0, .int .i64 0]⟩ := by kernel_rfl
@[simp] theorem tb_un61 : (Try.prog.underlying 61).isSome = true := by kernel_rfl
@[simp] theorem tb_ti62 : tiF Try.prog 62 = some ⟨false, 1, 24, [.slice none 0 0]⟩ := by kernel_rfl
@[simp] theorem tb_un62 : (Try.prog.underlying 62).isSome = true := by kernel_rfl
@[simp] theorem tb_ti63 : tiF Try.prog 63 = some ⟨true, 7, 72, [.int .i64 0, .int .i64 0, .int .i64 0, .slice none 0 0, .int .i64 0, .int .i64 0, .int .i64 0]⟩ := by kernel_rfl
@[simp] theorem tb_un63 : (Try.prog.underlying 63).isSome = true := by kernel_rfl
@[simp] theorem tb_ti64 : tiF Try.prog 64 = some ⟨true, 7, 72, [.int .i64 0, .int .i64 0, .int .i64 0, .slice none 0 0, .int .i64 0, .int .i64 0, .int .i64 0]⟩ := by kernel_rfl
@[simp] theorem tb_un64 : (Try.prog.underlying 64).isSome = true := by kernel_rfl
@[simp] theorem tb_ti65 : tiF Try.prog 65 = some ⟨false, 1, 24, [.slice none 0 0]⟩ := by kernel_rfl
@[simp] theorem tb_un65 : (Try.prog.underlying 65).isSome = true := by kernel_rfl
@[simp] theorem tb_ti66 : tiF Try.prog 66 = some ⟨true, 2, 48, [.slice none 0 0, .slice none 0 0]⟩ := by kernel_rfl
@[simp] theorem tb_un66 : (Try.prog.underlying 66).isSome = true := by kernel_rfl
@[simp] theorem tb_ti67 : tiF Try.prog 67 = some ⟨true, 2, 48, [.slice none 0 0, .slice none 0 0]⟩ := by kernel_rfl
@[simp] theorem tb_un67 : (Try.prog.underlying 67).isSome = true := by kernel_rfl
@[simp] theorem tb_ti68 : tiF Try.prog 68 = some ⟨true, 22, 304, [.int .i64 0, .int .i64 0, .int .i64 0, .int .i64 0, .int .i64 0, .slice none 0 0, .slice none 0 0, .slice none 0 0, .int .i64 0, .slice none 0 0, .int .i64 0, .int .i64 0, .int .i64 0, .slice none 0 0, .int .i64 0, .int .i64 0, .int .i64 0, .slice none 0 0, .slice none 0 0, .int .i64 0, .slice none 0 0, .int .i64 0]⟩ := by kernel_rfl
@[simp] theorem tb_un68 : (Try.prog.underlying 68).isSome = true := by kernel_rfl
@[simp] theorem tb_ti69 : tiF Try.prog 69 = some ⟨true, 22, 304, [.int .i64 0, .int .i64 0, .int .i64 0, .int .i64 0, .int .i64 0, .slice none 0 0, .slice none 0 0, .slice none 0 0, .int .i64 0, .slice none 0 0, .int .i64 0, .int .i64 0, .int .i64 0, .slice none 0 0, .int .i64 0, .int .i64 0, .int .i64 0, .slice none 0 0, .slice none 0 0, .int .i64 0, .slice none 0 0, .int .i64 0]⟩ := by kernel_rfl
@[simp] theorem tb_un69 : (Try.prog.underlying 69).isSome = true := by kernel_rfl
@[simp] theorem tb_ti70 : tiF Try.prog 70 = some ⟨false, 1, 8, [.nilFunc]⟩ := by kernel_rfl
@[simp] theorem tb_un70 : (Try.prog.underlying 70).isSome = true := by kernel_rfl
@[simp] theorem tb_ti71 : tiF Try.prog 71 = some ⟨true, 4, 40, [.int .i64 0, .int .i64 0, .int .i64 0, .string ⟨#[]⟩]⟩ := by kernel_rfl
@[simp] theorem tb_un71 : (Try.prog.underlying 71).isSome = true := by kernel_rfl
@[simp] theorem tb_ti72 : tiF Try.prog 72 = some ⟨true, 4, 40, [.int .i64 0, .int .i64 0, .int .i64 0, .string ⟨#[]⟩]⟩ := by kernel_rfl
@[simp] theorem tb_un72 : (Try.prog.underlying 72).isSome = true := by kernel_rfl
@[simp] theorem tb_ti73 : tiF Try.prog 73 = some ⟨false, 1, 8, [.int .i64 0]⟩ := by kernel_rfl
@[simp] theorem tb_un73 : (Try.prog.underlying 73).isSome = true := by kernel_rfl
@[simp] theorem tb_ti75 : tiF Try.prog 75 = some ⟨false, 1, 8, [.nilFunc]⟩ := by kernel_rfl
@[simp] theorem tb_un75 : (Try.prog.underlying 75).isSome = true := by kernel_rfl
@[simp] theorem tb_ti76 : tiF Try.prog 76 = some ⟨false, 1, 8, [.nilFunc]⟩ := by kernel_rfl
@[simp] theorem tb_un76 : (Try.prog.underlying 76).isSome = true := by kernel_rfl
@[simp] theorem tb_ti77 : tiF Try.prog 77 = some ⟨false, 1, 8, [.nilFunc]⟩ := by kernel_rfl
@[simp] theorem tb_un77 : (Try.prog.underlying 77).isSome = true := by kernel_rfl
@[simp] theorem tb_ti78 : tiF Try.prog 78 = some ⟨false, 1, 24, [.slice none 0 0]⟩ := by kernel_rfl
@[simp] theorem tb_un78 : (Try.prog.underlying 78).isSome = true := by kernel_rfl
@[simp] theorem tb_ti79 : tiF Try.prog 79 = some ⟨false, 1, 8, [.nilFunc]⟩ := by kernel_rfl
@[simp] theorem tb_un79 : (Try.prog.underlying 79).isSome = true := by kernel_rfl
@[simp] theorem tb_ti80 : tiF Try.prog 80 = some ⟨false, 1, 8, [.nilFunc]⟩ := by kernel_rfl
@[simp] theorem tb_un80 : (Try.prog.underlying 80).isSome = true := by kernel_rfl
@[simp] theorem tb_ti81 : tiF Try.prog 81 = some ⟨false, 1, 8, [.nilFunc]⟩ := by kernel_rfl
@[simp] theorem tb_un81 : (Try.prog.underlying 81).isSome = true := by kernel_rfl
@[simp] theorem tb_ti82 : tiF Try.prog 82 = some ⟨true, 3, 24, [.int .i64 0, .int .i64 0, .int .i64 0]⟩ := by kernel_rfl
@[simp] theorem tb_un82 : (Try.prog.underlying 82).isSome = true := by kernel_rfl
@[simp] theorem tb_ti83 : tiF Try.prog 83 = some ⟨true, 3, 24, [.int .i64 0, .int .i64 0, .int .i64 0]⟩ := by kernel_rfl
@[simp] theorem tb_un83 : (Try.prog.underlying 83).isSome = true := by kernel_rfl
@[simp] theorem tb_ti84 : tiF Try.prog 84 = some ⟨false, 1, 8, [.nilFunc]⟩ := by kernel_rfl
@[simp] theorem tb_un84 : (Try.prog.underlying 84).isSome = true := by kernel_rfl
@[simp] theorem tb_ti85 : tiF Try.prog 85 = some ⟨false, 1, 8, [.nilFunc]⟩ := by kernel_rfl
@[simp] theorem tb_un85 : (Try.prog.underlying 85).isSome = true := by kernel_rfl
@[simp] theorem tb_ti86 : tiF Try.prog 86 = some ⟨false, 1, 8, [.nilFunc]⟩ := by kernel_rfl
@[simp] theorem tb_un86 : (Try.prog.underlying 86).isSome = true := by kernel_rfl
@[simp] theorem tb_ti87 : tiF Try.prog 87 = some ⟨false, 1, 24, [.slice none 0 0]⟩ := by kernel_rfl
@[simp] theorem tb_un87 : (Try.prog.underlying 87).isSome = true := by kernel_rfl
@[simp] theorem tb_ti88 : tiF Try.prog 88 = some ⟨false, 1, 8, [.nilFunc]⟩ := by kernel_rfl
@[simp] theorem tb_un88 : (Try.prog.underlying 88).isSome = true := by kernel_rfl
@[simp] theorem tb_ti89 : tiF Try.prog 89 = some ⟨false, 1, 8, [.nilFunc]⟩ := by kernel_rfl
@[simp] theorem tb_un89 : (Try.prog.underlying 89).isSome = true := by kernel_rfl
@[simp] theorem tb_ti90 : tiF Try.prog 90 = some ⟨false, 1, 8, [.nilFunc]⟩ := by kernel_rfl
@[simp] theorem tb_un90 : (Try.prog.underlying 90).isSome = true := by kernel_rfl
@[simp] theorem tb_ti91 : tiF Try.prog 91 = some ⟨false, 1, 8, [.nilFunc]⟩ := by kernel_rfl
@[simp] theorem tb_un91 : (Try.prog.underlying 91).isSome = true := by kernel_rfl
@[simp] theorem tb_ti92 : tiF Try.prog 92 = some ⟨false, 1, 8, [.nilFunc]⟩ := by kernel_rfl
@[simp] theorem tb_un92 : (Try.prog.underlying 92).isSome = true := by kernel_rfl
@[simp] theorem tb_ti93 : tiF Try.prog 93 = some ⟨false, 1, 8, [.nilFunc]⟩ := by kernel_rfl
@[simp] theorem tb_un93 : (Try.prog.underlying 93).isSome = true := by kernel_rfl
@[simp] theorem tb_ti94 : tiF Try.prog 94 = some ⟨true, 8, 64, [.int .i64 0, .int .i64 0, .int .i64 0, .int .i64 0, .int .i64 0, .int .i64 0, .int .i64 0, .int .i64 0]⟩ := by kernel_rfl
@[simp] theorem tb_un94 : (Try.prog.underlying 94).isSome = true := by kernel_rfl
@[simp] theorem tb_ti95 : tiF Try.prog 95 = some ⟨true, 8, 64, [.int .i64 0, .int .i64 0, .int .i64 0, .int .i64 0, .int .i64 0, .int .i64 0, .int .i64 0, .int .i64 0]⟩ := by kernel_rfl
@[simp] theorem tb_un95 : (Try.prog.underlying 95).isSome = true := by kernel_rfl
@[simp] theorem tb_ti96 : tiF Try.prog 96 = some ⟨false, 1, 8, [.nilFunc]⟩ := by kernel_rfl
@[simp] theorem tb_un96 : (Try.prog.underlying 96).isSome = true := by kernel_rfl
@[simp] theorem tb_ti97 : tiF Try.prog 97 = some ⟨false, 1, 8, [.nilFunc]⟩ := by kernel_rfl
@[simp] theorem tb_un97 : (Try.prog.underlying 97).isSome = true := by kernel_rfl
@[simp] theorem tb_ti98 : tiF Try.prog 98 = some ⟨false, 1, 8, [.nilFunc]⟩ := by kernel_rfl
@[simp] theorem tb_un98 : (Try.prog.underlying 98).isSome = true := by kernel_rfl
@[simp] theorem tb_ti99 : tiF Try.prog 99 = some ⟨false, 1, 8, [.nilFunc]⟩ := by kernel_rfl
@[simp] theorem tb_un99 : (Try.prog.underlying 99).isSome = true := by kernel_rfl
@[simp] theorem tb_ti100 : tiF Try.prog 100 = some ⟨false, 1, 8, [.nilFunc]⟩ := by kernel_rfl
@[simp] theorem tb_un100 : (Try.prog.underlying 100).isSome = true := by kernel_rfl
@[simp] theorem tb_ti101 : tiF Try.prog 101 = some ⟨false, 1, 8, [.nilFunc]⟩ := by kernel_rfl
@[simp] theorem tb_un101 : (Try.prog.underlying 101).isSome = true := by kernel_rfl
@[simp] theorem tb_ti102 : tiF Try.prog 102 = some ⟨false, 1, 8, [.nilFunc]⟩ := by kernel_rfl
@[simp] theorem tb_un102 : (Try.prog.underlying 102).isSome = true := by kernel_rfl
@[simp] theorem tb_ti103 : tiF Try.prog 103 = some ⟨false, 1, 8, [.nilFunc]⟩ := by kernel_rfl
@[simp] theorem tb_un103 : (Try.prog.underlying 103).isSome = true := by kernel_rfl
@[simp] theorem tb_ti104 : tiF Try.prog 104 = some ⟨false, 1, 8, [.nilFunc]⟩ := by kernel_rfl
@[simp] theorem tb_un104 : (Try.prog.underlying 104).isSome = true := by kernel_rfl
@[simp] theorem tb_ti105 : tiF Try.prog 105 = some ⟨false, 1, 8, [.nilFunc]⟩ := by kernel_rfl
@[simp] theorem tb_un105 : (Try.prog.underlying 105).isSome = true := by kernel_rfl
@[simp] theorem tb_ti107 : tiF Try.prog 107 = some ⟨false, 1, 8, [.nilFunc]⟩ := by kernel_rfl
@[simp] theorem tb_un107 : (Try.prog.underlying 107).isSome = true := by kernel_rfl
@[simp] theorem tb_ti108 : tiF Try.prog 108 = some ⟨false, 1, 8, [.nilFunc]⟩ := by kernel_rfl
@[simp] theorem tb_un108 : (Try.prog.underlying 108).isSome = true := by kernel_rfl
@[simp] theorem tb_ti109 : tiF Try.prog 109 = some ⟨false, 1, 24, [.slice none 0 0]⟩ := by kernel_rfl
@[simp] theorem tb_un109 : (Try.prog.underlying 109).isSome = true := by kernel_rfl
@[simp] theorem tb_ti111 : tiF Try.prog 111 = some ⟨false, 1, 8, [.nilFunc]⟩ := by kernel_rfl
@[simp] theorem tb_un111 : (Try.prog.underlying 111).isSome = true := by kernel_rfl
@[simp] theorem tb_ti112 : tiF Try.prog 112 = some ⟨false, 1, 24, [.slice none 0 0]⟩ := by kernel_rfl
@[simp] theorem tb_un112 : (Try.prog.underlying 112).isSome = true := by kernel_rfl
@[simp] theorem tb_ti113 : tiF Try.prog 113 = some ⟨true, 3, 40, [.int .i64 0, .slice none 0 0, .int .i64 0]⟩ := by kernel_rfl
@[simp] theorem tb_un113 : (Try.prog.underlying 113).isSome = true := by kernel_rfl
@[simp] theorem tb_ti114 : tiF Try.prog 114 = some ⟨true, 3, 40, [.int .i64 0, .slice none 0 0, .int .i64 0]⟩ := by kernel_rfl
@[simp] theorem tb_un114 : (Try.prog.underlying 114).isSome = true := by kernel_rfl
@[simp] theorem tb_ti115 : tiF Try.prog 115 = some ⟨false, 1, 8, [.nilFunc]⟩ := by kernel_rfl
@[simp] theorem tb_un115 : (Try.prog.underlying 115).isSome = true := by kernel_rfl
@[simp] theorem tb_ti116 : tiF Try.prog 116 = some ⟨false, 1, 8, [.nilFunc]⟩ := by kernel_rfl
@[simp] theorem tb_un116 : (Try.prog.underlying 116).isSome = true := by kernel_rfl
@[simp] theorem tb_ti117 : tiF Try.prog 117 = some ⟨false, 1, 8, [.nilFunc]⟩ := by kernel_rfl
@[simp] theorem tb_un117 : (Try.prog.underlying 117).isSome = true := by kernel_rfl
@[simp] theorem tb_ti118 : tiF Try.prog 118 = some ⟨false, 1, 8, [.nilFunc]⟩ := by kernel_rfl
@[simp] theorem tb_un118 : (Try.prog.underlying 118).isSome = true := by kernel_rfl
@[simp] theorem tb_ti119 : tiF Try.prog 119 = some ⟨false, 1, 8, [.nilFunc]⟩ := by kernel_rfl
@[simp] theorem tb_un119 : (Try.prog.underlying 119).isSome = true := by kernel_rfl
@[simp] theorem tb_ti121 : tiF Try.prog 121 = some ⟨false, 1, 8, [.nilFunc]⟩ := by kernel_rfl
@[simp] theorem tb_un121 : (Try.prog.underlying 121).isSome = true := by kernel_rfl
@[simp] theorem tb_ti122 : tiF Try.prog 122 = some ⟨false, 1, 8, [.nilFunc]⟩ := by kernel_rfl
@[simp] theorem tb_un122 : (Try.prog.underlying 122).isSome = true := by kernel_rfl
@[simp] theorem tb_ti123 : tiF Try.prog 123 = some ⟨false, 1, 8, [.nilFunc]⟩ := by kernel_rfl
@[simp] theorem tb_un123 : (Try.prog.underlying 123).isSome = true := by kernel_rfl
@[simp] theorem tb_ti124 : tiF Try.prog 124 = some ⟨false, 1, 8, [.int .u64 0]⟩ := by kernel_rfl
@[simp] theorem tb_un124 : (Try.prog.underlying 124).isSome = true := by kernel_rfl
@[simp] theorem tb_ti125 : tiF Try.prog 125 = some ⟨false, 1, 8, [.nilFunc]⟩ := by kernel_rfl
@[simp] theorem tb_un125 : (Try.prog.underlying 125).isSome = true := by kernel_rfl
@[simp] theorem tb_ti126 : tiF Try.prog 126 = some ⟨false, 1, 8, [.nilFunc]⟩ := by kernel_rfl
@[simp] theorem tb_un126 : (Try.prog.underlying 126).isSome = true := by kernel_rfl
@[simp] theorem tb_ti127 : tiF Try.prog 127 = some ⟨false, 1, 8, [.nilFunc]⟩ := by kernel_rfl
@[simp] theorem tb_un127 : (Try.prog.underlying 127).isSome = true := by kernel_rfl
@[simp] theorem tb_ti128 : tiF Try.prog 128 = some ⟨false, 1, 8, [.nilFunc]⟩ := by kernel_rfl
@[simp] theorem tb_un128 : (Try.prog.underlying 128).isSome = true := by kernel_rfl
@[simp] theorem tb_ti129 : tiF Try.prog 129 = some ⟨false, 1, 8, [.nilFunc]⟩ := by kernel_rfl
@[simp] theorem tb_un129 : (Try.prog.underlying 129).isSome = true := by kernel_rfl
@[simp] theorem tb_ti130 : tiF Try.prog 130 = some ⟨true, 3, 24, [.int .i64 0, .int .i64 0, .int .i64 0]⟩ := by kernel_rfl
@[simp] theorem tb_un130 : (Try.prog.underlying 130).isSome = true := by kernel_rfl
@[simp] theorem tb_ti131 : tiF Try.prog 131 = some ⟨true, 3, 24, [.int .i64 0, .int .i64 0, .int .i64 0]⟩ := by kernel_rfl
@[simp] theorem tb_un131 : (Try.prog.underlying 131).isSome = true := by kernel_rfl
@[simp] theorem tb_ti132 : tiF Try.prog 132 = some ⟨false, 1, 8, [.nilFunc]⟩ := by kernel_rfl
@[simp] theorem tb_un132 : (Try.prog.underlying 132).isSome = true := by kernel_rfl
@[simp] theorem tb_ti133 : tiF Try.prog 133 = some ⟨false, 1, 24, [.slice none 0 0]⟩ := by kernel_rfl
@[simp] theorem tb_un133 : (Try.prog.underlying 133).isSome = true := by kernel_rfl
@[simp] theorem tb_ti134 : tiF Try.prog 134 = some ⟨false, 1, 24, [.slice none 0 0]⟩ := by kernel_rfl
@[simp] theorem tb_un134 : (Try.prog.underlying 134).isSome = true := by kernel_rfl
@[simp] theorem tb_ti135 : tiF Try.prog 135 = some ⟨true, 5, 80, [.int .i64 0, .string ⟨#[]⟩, .slice none 0 0, .slice none 0 0, .int .i64 0]⟩ := by kernel_rfl
@[simp] theorem tb_un135 : (Try.prog.underlying 135).isSome = true := by kernel_rfl
@[simp] theorem tb_ti136 : tiF Try.prog 136 = some ⟨true, 5, 80, [.int .i64 0, .string ⟨#[]⟩, .slice none 0 0, .slice none 0 0, .int .i64 0]⟩ := by kernel_rfl
@[simp] theorem tb_un136 : (Try.prog.underlying 136).isSome = true := by kernel_rfl
@[simp] theorem tb_ti137 : tiF Try.prog 137 = some ⟨true, 6, 96, [.string ⟨#[]⟩, .int .i64 0, .string ⟨#[]⟩, .slice none 0 0, .slice none 0 0, .int .i64 0]⟩ := by kernel_rfl
@[simp] theorem tb_un137 : (Try.prog.underlying 137).isSome = true := by kernel_rfl
@[simp] theorem tb_ti138 : tiF Try.prog 138 = some ⟨true, 6, 96, [.string ⟨#[]⟩, .int .i64 0, .string ⟨#[]⟩, .slice none 0 0, .slice none 0 0, .int .i64 0]⟩ := by kernel_rfl
@[simp] theorem tb_un138 : (Try.prog.underlying 138).isSome = true := by kernel_rfl
@[simp] theorem tb_ti139 : tiF Try.prog 139 = some ⟨false, 1, 8, [.nilFunc]⟩ := by kernel_rfl
@[simp] theorem tb_un139 : (Try.prog.underlying 139).isSome = true := by kernel_rfl
@[simp] theorem tb_ti140 : tiF Try.prog 140 = some ⟨true, 7, 104, [.string ⟨#[]⟩, .bool false, .int .i64 0, .string ⟨#[]⟩, .slice none 0 0, .slice none 0 0, .int .i64 0]⟩ := by kernel_rfl
@[simp] theorem tb_un140 : (Try.prog.underlying 140).isSome = true := by kernel_rfl
@[simp] theorem tb_ti141 : tiF Try.prog 141 = some ⟨true, 7, 104, [.string ⟨#[]⟩, .bool false, .int .i64 0, .string ⟨#[]⟩, .slice none 0 0, .slice none 0 0, .int .i64 0]⟩ := by kernel_rfl
@[simp] theorem tb_un141 : (Try.prog.underlying 141).isSome = true := by kernel_rfl
@[simp] theorem tb_ti142 : tiF Try.prog 142 = some ⟨false, 1, 8, [.nilFunc]⟩ := by kernel_rfl
@[simp] theorem tb_un142 : (Try.prog.underlying 142).isSome = true := by kernel_rfl
@[simp] theorem tb_ti143 : tiF Try.prog 143 = some ⟨false, 1, 8, [.nilFunc]⟩ := by kernel_rfl
@[simp] theorem tb_un143 : (Try.prog.underlying 143).isSome = true := by kernel_rfl
@[simp] theorem tb_ti144 : tiF Try.prog 144 = some ⟨false, 1, 8, [.nilFunc]⟩ := by kernel_rfl
@[simp] theorem tb_un144 : (Try.prog.underlying 144).isSome = true := by kernel_rfl
@[simp] theorem tb_ti145 : tiF Try.prog 145 = some ⟨false, 1, 8, [.nilFunc]⟩ := by kernel_rfl
@[simp] theorem tb_un145 : (Try.prog.underlying 145).isSome = true := by kernel_rfl
@[simp] theorem tb_ti146 : tiF Try.prog 146 = some ⟨false, 1, 8, [.nilFunc]⟩ := by kernel_rfl
@[simp] theorem tb_un146 : (Try.prog.underlying 146).isSome = true := by kernel_rfl
@[simp] theorem tb_ti147 : tiF Try.prog 147 = some ⟨false, 1, 8, [.nilFunc]⟩ := by kernel_rfl
@[simp] theorem tb_un147 : (Try.prog.underlying 147).isSome = true := by kernel_rfl
@[simp] theorem tb_ti148 : tiF Try.prog 148 = some ⟨false, 1, 8, [.nilFunc]⟩ := by kernel_rfl
@[simp] theorem tb_un148 : (Try.prog.underlying 148).isSome = true := by kernel_rfl
@[simp] theorem tb_ti149 : tiF Try.prog 149 = some ⟨false, 1, 8, [.nilFunc]⟩ := by kernel_rfl
@[simp] theorem tb_un149 : (Try.prog.underlying 149).isSome = true := by kernel_rfl
@[simp] theorem tb_ti150 : tiF Try.prog 150 = some ⟨false, 1, 8, [.nilFunc]⟩ := by kernel_rfl
@[simp] theorem tb_un150 : (Try.prog.underlying 150).isSome = true := by kernel_rfl
@[simp] theorem tb_ti151 : tiF Try.prog 151 = some ⟨false, 1, 8, [.nilFunc]⟩ := by kernel_rfl
@[simp] theorem tb_un151 : (Try.prog.underlying 151).isSome = true := by kernel_rfl
@[simp] theorem tb_ti152 : tiF Try.prog 152 = some ⟨false, 1, 8, [.nilFunc]⟩ := by kernel_rfl
@[simp] theorem tb_un152 : (Try.prog.underlying 152).isSome = true := by kernel_rfl
@[simp] theorem tb_ti153 : tiF Try.prog 153 = some ⟨false, 1, 8, [.nilFunc]⟩ := by kernel_rfl
@[simp] theorem tb_un153 : (Try.prog.underlying 153).isSome = true := by kernel_rfl
@[simp] theorem tb_ti154 : tiF Try.prog 154 = some ⟨true, 15, 168, [.int .i64 0, .int .i64 0, .int .i64 0, .int .i64 0, .slice none 0 0, .slice none 0 0, .int .i64 0, .int .i64 0, .int .i64 0, .int .i64 0, .int .i64 0, .int .i64 0, .int .i64 0, .int .i64 0, .slice none 0 0]⟩ := by kernel_rfl
@[simp] theorem tb_un154 : (Try.prog.underlying 154).isSome = true := by kernel_rfl
@[simp] theorem tb_ti155 : tiF Try.prog 155 = some ⟨true, 15, 168, [.int .i64 0, .int .i64 0, .int .i64 0, .int .i64 0, .slice none 0 0, .slice none 0 0, .int .i64 0, .int .i64 0, .int .i64 0, .int .i64 0, .int .i64 0, .int .i64 0, .int .i64 0, .int .i64 0, .slice none 0 0]⟩ := by kernel_rfl
@[simp] theorem tb_un155 : (Try.prog.underlying 155).isSome = true := by kernel_rfl
@[simp] theorem tb_ti156 : tiF Try.prog 156 = some ⟨false, 1, 8, [.nilFunc]⟩ := by kernel_rfl
@[simp] theorem tb_un156 : (Try.prog.underlying 156).isSome = true := by kernel_rfl
@[simp] theorem tb_ti157 : tiF Try.prog 157 = some ⟨false, 1, 8, [.nilFunc]⟩ := by kernel_rfl
@[simp] theorem tb_un157 : (Try.prog.underlying 157).isSome = true := by kernel_rfl
@[simp] theorem tb_ti158 : tiF Try.prog 158 = some ⟨false, 1, 8, [.nilFunc]⟩ := by kernel_rfl
@[simp] theorem tb_un158 : (Try.prog.underlying 158).isSome = true := by kernel_rfl
@[simp] theorem tb_ti159 : tiF Try.prog 159 = some ⟨false, 1, 8, [.nilFunc]⟩ := by kernel_rfl
@[simp] theorem tb_un159 : (Try.prog.underlying 159).isSome = true := by kernel_rfl
@[simp] theorem tb_ti160 : tiF Try.prog 160 = some ⟨false, 1, 8, [.nilFunc]⟩ := by kernel_rfl
@[simp] theorem tb_un160 : (Try.prog.underlying 160).isSome = true := by kernel_rfl
@[simp] theorem tb_ti161 : tiF Try.prog 161 = some ⟨false, 1, 8, [.nilFunc]⟩ := by kernel_rfl
@[simp] theorem tb_un161 : (Try.prog.underlying 161).isSome = true := by kernel_rfl
@[simp] theorem tb_ti162 : tiF Try.prog 162 = some ⟨false, 1, 8, [.nilFunc]⟩ := by kernel_rfl
@[simp] theorem tb_un162 : (Try.prog.underlying 162).isSome = true := by kernel_rfl
@[simp] theorem tb_ti163 : tiF Try.prog 163 = some ⟨false, 1, 8, [.int .i64 0]⟩ := by kernel_rfl
@[simp] theorem tb_un163 : (Try.prog.underlying 163).isSome = true := by kernel_rfl
@[simp] theorem tb_ti165 : tiF Try.prog 165 = some ⟨false, 1, 8, [.nilFunc]⟩ := by kernel_rfl
@[simp] theorem tb_un165 : (Try.prog.underlying 165).isSome = true := by kernel_rfl
@[simp] theorem tb_ti166 : tiF Try.prog 166 = some ⟨false, 1, 8, [.nilFunc]⟩ := by kernel_rfl
@[simp] theorem tb_un166 : (Try.prog.underlying 166).isSome = true := by kernel_rfl
@[simp] theorem tb_ti167 : tiF Try.prog 167 = some ⟨false, 1, 8, [.nilFunc]⟩ := by kernel_rfl
@[simp] theorem tb_un167 : (Try.prog.underlying 167).isSome = true := by kernel_rfl
@[simp] theorem tb_ti168 : tiF Try.prog 168 = some ⟨false, 1, 8, [.nilFunc]⟩ := by kernel_rfl
@[simp] theorem tb_un168 : (Try.prog.underlying 168).isSome = true := by kernel_rfl
@[simp] theorem tb_ti169 : tiF Try.prog 169 = some ⟨false, 1, 8, [.nilFunc]⟩ := by kernel_rfl
@[simp] theorem tb_un169 : (Try.prog.underlying 169).isSome = true := by kernel_rfl
@[simp] theorem tb_ti170 : tiF Try.prog 170 = some ⟨false, 1, 8, [.nilFunc]⟩ := by kernel_rfl
@[simp] theorem tb_un170 : (Try.prog.underlying 170).isSome = true := by kernel_rfl
@[simp] theorem tb_ti171 : tiF Try.prog 171 = some ⟨false, 1, 4, [.int .u32 0]⟩ := by kernel_rfl
@[simp] theorem tb_un171 : (Try.prog.underlying 171).isSome = true := by kernel_rfl
@[simp] theorem tb_ti172 : tiF Try.prog 172 = some ⟨false, 1, 8, [.nilFunc]⟩ := by kernel_rfl
@[simp] theorem tb_un172 : (Try.prog.underlying 172).isSome = true := by kernel_rfl
@[simp] theorem tb_ti173 : tiF Try.prog 173 = some ⟨false, 1, 8, [.int .u64 0]⟩ := by kernel_rfl
@[simp] theorem tb_un173 : (Try.prog.underlying 173).isSome = true := by kernel_rfl
@[simp] theorem tb_ti174 : tiF Try.prog 174 = some ⟨false, 1, 8, [.nilFunc]⟩ := by kernel_rfl
@[simp] theorem tb_un174 : (Try.prog.underlying 174).isSome = true := by kernel_rfl
@[simp] theorem tb_ti175 : tiF Try.prog 175 = some ⟨false, 1, 8, [.nilFunc]⟩ := by kernel_rfl
@[simp] theorem tb_un175 : (Try.prog.underlying 175).isSome = true := by kernel_rfl
@[simp] theorem tb_ti176 : tiF Try.prog 176 = some ⟨false, 1, 8, [.nilFunc]⟩ := by kernel_rfl
@[simp] theorem tb_un176 : (Try.prog.underlying 176).isSome = true := by kernel_rfl
@[simp] theorem tb_ti177 : tiF Try.prog 177 = some ⟨false, 1, 8, [.nilFunc]⟩ := by kernel_rfl
@[simp] theorem tb_un177 : (Try.prog.underlying 177).isSome = true := by kernel_rfl
@[simp] theorem tb_ti178 : tiF Try.prog 178 = some ⟨true, 2, 32, [.string ⟨#[]⟩, .string ⟨#[]⟩]⟩ := by kernel_rfl
@[simp] theorem tb_un178 : (Try.prog.underlying 178).isSome = true := by kernel_rfl
@[simp] theorem tb_ti179 : tiF Try.prog 179 = some ⟨true, 2, 32, [.string ⟨#[]⟩, .string ⟨#[]⟩]⟩ := by kernel_rfl
@[simp] theorem tb_un179 : (Try.prog.underlying 179).isSome = true := by kernel_rfl
@[simp] theorem tb_ti180 : tiF Try.prog 180 = some ⟨false, 1, 8, [.nilFunc]⟩ := by kernel_rfl
@[simp] theorem tb_un180 : (Try.prog.underlying 180).isSome = true := by kernel_rfl
@[simp] theorem tb_ti181 : tiF Try.prog 181 = some ⟨false, 1, 8, [.nilFunc]⟩ := by kernel_rfl
@[simp] theorem tb_un181 : (Try.prog.underlying 181).isSome = true := by kernel_rfl
@[simp] theorem tb_ti182 : tiF Try.prog 182 = some ⟨false, 1, 8, [.nilFunc]⟩ := by kernel_rfl
@[simp] theorem tb_un182 : (Try.prog.underlying 182).isSome = true := by kernel_rfl
@[simp] theorem tb_ti183 : tiF Try.prog 183 = some ⟨false, 1, 8, [.nilFunc]⟩ := by kernel_rfl
@[simp] theorem tb_un183 : (Try.prog.underlying 183).isSome = true := by kernel_rfl
@[simp] theorem tb_ti184 : tiF Try.prog 184 = some ⟨false, 1, 8, [.nilFunc]⟩ := by kernel_rfl
@[simp] theorem tb_un184 : (Try.prog.underlying 184).isSome = true := by kernel_rfl
@[simp] theorem tb_ti185 : tiF Try.prog 185 = some ⟨false, 1, 8, [.nilFunc]⟩ := by kernel_rfl
@[simp] theorem tb_un185 : (Try.prog.underlying 185).isSome = true := by kernel_rfl
@[simp] theorem tb_ti187 : tiF Try.prog 187 = some ⟨false, 1, 8, [.nilFunc]⟩ := by kernel_rfl
@[simp] theorem tb_un187 : (Try.prog.underlying 187).isSome = true := by kernel_rfl
@[simp] theorem tb_ti188 : tiF Try.prog 188 = some ⟨false, 1, 8, [.nilFunc]⟩ := by kernel_rfl
@[simp] theorem tb_un188 : (Try.prog.underlying 188).isSome = true := by kernel_rfl
@[simp] theorem tb_ti189 : tiF Try.prog 189 = some ⟨false, 1, 8, [.nilFunc]⟩ := by kernel_rfl
@[simp] theorem tb_un189 : (Try.prog.underlying 189).isSome = true := by kernel_rfl
@[simp] theorem tb_ti190 : tiF Try.prog 190 = some ⟨false, 1, 8, [.nilFunc]⟩ := by kernel_rfl
@[simp] theorem tb_un190 : (Try.prog.underlying 190).isSome = true := by kernel_rfl
@[simp] theorem tb_ti191 : tiF Try.prog 191 = some ⟨false, 1, 8, [.nilFunc]⟩ := by kernel_rfl
@[simp] theorem tb_un191 : (Try.prog.underlying 191).isSome = true := by kernel_rfl
@[simp] theorem tb_ti192 : tiF Try.prog 192 = some ⟨false, 1, 8, [.nilFunc]⟩ := by kernel_rfl
@[simp] theorem tb_un192 : (Try.prog.underlying 192).isSome = true := by kernel_rfl
@[simp] theorem tb_ti193 : tiF Try.prog 193 = some ⟨false, 1, 8, [.nilFunc]⟩ := by kernel_rfl
@[simp] theorem tb_un193 : (Try.prog.underlying 193).isSome = true := by kernel_rfl
@[simp] theorem tb_ti194 : tiF Try.prog 194 = some ⟨false, 1, 8, [.int .u64 0]⟩ := by kernel_rfl
@[simp] theorem tb_un194 : (Try.prog.underlying 194).isSome = true := by kernel_rfl
@[simp] theorem tb_ti195 : tiF Try.prog 195 = some ⟨false, 1, 8, [.nilFunc]⟩ := by kernel_rfl
@[simp] theorem tb_un195 : (Try.prog.underlying 195).isSome = true := by kernel_rfl
@[simp] theorem tb_ti196 : tiF Try.prog 196 = some ⟨false, 1, 8, [.nilFunc]⟩ := by kernel_rfl
@[simp] theorem tb_un196 : (Try.prog.underlying 196).isSome = true := by kernel_rfl
@[simp] theorem tb_ti197 : tiF Try.prog 197 = some ⟨false, 1, 8, [.nilFunc]⟩ := by kernel_rfl
@[simp] theorem tb_un197 : (Try.prog.underlying 197).isSome = true := by kernel_rfl
@[simp] theorem tb_ti198 : tiF Try.prog 198 = some ⟨false, 1, 8, [.pointer none]⟩ := by kernel_rfl
@[simp] theorem tb_un198 : (Try.prog.underlying 198).isSome = true := by kernel_rfl
@[simp] theorem tb_ti199 : tiF Try.prog 199 = some ⟨false, 1, 8, [.nilFunc]⟩ := by kernel_rfl
@[simp] theorem tb_un199 : (Try.prog.underlying 199).isSome = true := by kernel_rfl
@[simp] theorem tb_ti200 : tiF Try.prog 200 = some ⟨false, 1, 8, [.nilFunc]⟩ := by kernel_rfl
@[simp] theorem tb_un200 : (Try.prog.underlying 200).isSome = true := by kernel_rfl
@[simp] theorem tb_ti201 : tiF Try.prog 201 = some ⟨false, 1, 8, [.nilFunc]⟩ := by kernel_rfl
@[simp] theorem tb_un201 : (Try.prog.underlying 201).isSome = true := by kernel_rfl
@[simp] theorem tb_ti202 : tiF Try.prog 202 = some ⟨false, 1, 8, [.nilFunc]⟩ := by kernel_rfl
@[simp] theorem tb_un202 : (Try.prog.underlying 202).isSome = true := by kernel_rfl
@[simp] theorem tb_ti203 : tiF Try.prog 203 = some ⟨false, 1, 8, [.nilFunc]⟩ := by kernel_rfl
@[simp] theorem tb_un203 : (Try.prog.underlying 203).isSome = true := by kernel_rfl
@[simp] theorem tb_ti204 : tiF Try.prog 204 = some ⟨false, 1, 8, [.nilFunc]⟩ := by kernel_rfl
@[simp] theorem tb_un204 : (Try.prog.underlying 204).isSome = true := by kernel_rfl
@[simp] theorem tb_ti205 : tiF Try.prog 205 = some ⟨false, 1, 8, [.nilFunc]⟩ := by kernel_rfl
@[simp] theorem tb_un205 : (Try.prog.underlying 205).isSome = true := by kernel_rfl
@[simp] theorem tb_ti206 : tiF Try.prog 206 = some ⟨false, 1, 8, [.nilFunc]⟩ := by kernel_rfl
@[simp] theorem tb_un206 : (Try.prog.underlying 206).isSome = true := by kernel_rfl
@[simp] theorem tb_ti207 : tiF Try.prog 207 = some ⟨false, 1, 8, [.nilFunc]⟩ := by kernel_rfl
@[simp] theorem tb_un207 : (Try.prog.underlying 207).isSome = true := by kernel_rfl
@[simp] theorem tb_ti208 : tiF Try.prog 208 = some ⟨false, 1, 8, [.nilFunc]⟩ := by kernel_rfl
@[simp] theorem tb_un208 : (Try.prog.underlying 208).isSome = true := by kernel_rfl
@[simp] theorem tb_ti209 : tiF Try.prog 209 = some ⟨false, 1, 8, [.nilFunc]⟩ := by kernel_rfl
@[simp] theorem tb_un209 : (Try.prog.underlying 209).isSome = true := by kernel_rfl
@[simp] theorem tb_ti210 : tiF Try.prog 210 = some ⟨false, 1, 8, [.nilFunc]⟩ := by kernel_rfl
@[simp] theorem tb_un210 : (Try.prog.underlying 210).isSome = true := by kernel_rfl
@[simp] theorem tb_ti211 : tiF Try.prog 211 = some ⟨false, 1, 8, [.nilFunc]⟩ := by kernel_rfl
@[simp] theorem tb_un211 : (Try.prog.underlying 211).isSome = true := by kernel_rfl
@[simp] theorem tb_ti212 : tiF Try.prog 212 = some ⟨false, 1, 8, [.nilFunc]⟩ := by kernel_rfl
@[simp] theorem tb_un212 : (Try.prog.underlying 212).isSome = true := by kernel_rfl
@[simp] theorem tb_ti213 : tiF Try.prog 213 = some ⟨false, 1, 8, [.nilFunc]⟩ := by kernel_rfl
@[simp] theorem tb_un213 : (Try.prog.underlying 213).isSome = true := by kernel_rfl
@[simp] theorem tb_ti214 : tiF Try.prog 214 = some ⟨false, 1, 24, [.slice none 0 0]⟩ := by kernel_rfl
@[simp] theorem tb_un214 : (Try.prog.underlying 214).isSome = true := by kernel_rfl
@[simp] theorem tb_ti215 : tiF Try.prog 215 = some ⟨false, 1, 8, [.nilFunc]⟩ := by kernel_rfl
@[simp] theorem tb_un215 : (Try.prog.underlying 215).isSome = true := by kernel_rfl
@[simp] theorem tb_ti216 : tiF Try.prog 216 = some ⟨false, 1, 8, [.nilFunc]⟩ := by kernel_rfl
@[simp] theorem tb_un216 : (Try.prog.underlying 216).isSome = true := by kernel_rfl
@[simp] theorem tb_ti217 : tiF Try.prog 217 = some ⟨false, 1, 8, [.nilFunc]⟩ := by kernel_rfl
@[simp] theorem tb_un217 : (Try.prog.underlying 217).isSome = true := by kernel_rfl
@[simp] theorem tb_ti218 : tiF Try.prog 218 = some ⟨false, 1, 8, [.nilFunc]⟩ := by kernel_rfl
@[simp] theorem tb_un218 : (Try.prog.underlying 218).isSome = true := by kernel_rfl
@[simp] theorem tb_ti219 : tiF Try.prog 219 = some ⟨false, 1, 8, [.nilFunc]⟩ := by kernel_rfl
@[simp] theorem tb_un219 : (Try.prog.underlying 219).isSome = true := by kernel_rfl
@[simp] theorem tb_ti220 : tiF Try.prog 220 = some ⟨false, 1, 8, [.nilFunc]⟩ := by kernel_rfl
@[simp] theorem tb_un220 : (Try.prog.underlying 220).isSome = true := by kernel_rfl
@[simp] theorem tb_ti221 : tiF Try.prog 221 = some ⟨false, 1, 8, [.pointer none]⟩ := by kernel_rfl
@[simp] theorem tb_un221 : (Try.prog.underlying 221).isSome = true := by kernel_rfl
@[simp] theorem tb_ti222 : tiF Try.prog 222 = some ⟨false, 1, 8, [.nilFunc]⟩ := by kernel_rfl
@[simp] theorem tb_un222 : (Try.prog.underlying 222).isSome = true := by kernel_rfl
@[simp] theorem tb_ti223 : tiF Try.prog 223 = some ⟨false, 1, 8, [.nilFunc]⟩ := by kernel_rfl
@[simp] theorem tb_un223 : (Try.prog.underlying 223).isSome = true := by kernel_rfl
@[simp] theorem tb_ti224 : tiF Try.prog 224 = some ⟨false, 1, 8, [.nilFunc]⟩ := by kernel_rfl
@[simp] theorem tb_un224 : (Try.prog.underlying 224).isSome = true := by kernel_rfl
@[simp] theorem tb_ti225 : tiF Try.prog 225 = some ⟨false, 1, 8, [.nilFunc]⟩ := by kernel_rfl
@[simp] theorem tb_un225 : (Try.prog.underlying 225).isSome = true := by kernel_rfl
@[simp] theorem tb_ti226 : tiF Try.prog 226 = some ⟨false, 1, 8, [.nilFunc]⟩ := by kernel_rfl
@[simp] theorem tb_un226 : (Try.prog.underlying 226).isSome = true := by kernel_rfl
@[simp] theorem tb_ti227 : tiF Try.prog 227 = some ⟨false, 1, 8, [.nilFunc]⟩ := by kernel_rfl
@[simp] theorem tb_un227 : (Try.prog.underlying 227).isSome = true := by kernel_rfl
@[simp] theorem tb_ti228 : tiF Try.prog 228 = some ⟨false, 1, 8, [.nilFunc]⟩ := by kernel_rfl
@[simp] theorem tb_un228 : (Try.prog.underlying 228).isSome = true := by kernel_rfl
@[simp] theorem tb_ti229 : tiF Try.prog 229 = some ⟨false, 1, 8, [.nilFunc]⟩ := by kernel_rfl
@[simp] theorem tb_un229 : (Try.prog.underlying 229).isSome = true := by kernel_rfl
@[simp] theorem tb_ti230 : tiF Try.prog 230 = some ⟨false, 1, 8, [.nilFunc]⟩ := by kernel_rfl
@[simp] theorem tb_un230 : (Try.prog.underlying 230).isSome = true := by kernel_rfl
@[simp] theorem tb_ti231 : tiF Try.prog 231 = some ⟨false, 1, 8, [.nilFunc]⟩ := by kernel_rfl
@[simp] theorem tb_un231 : (Try.prog.underlying 231).isSome = true := by kernel_rfl
@[simp] theorem tb_ti233 : tiF Try.prog 233 = some ⟨false, 1, 8, [.nilFunc]⟩ := by kernel_rfl
@[simp] theorem tb_un233 : (Try.prog.underlying 233).isSome = true := by kernel_rfl
@[simp] theorem tb_ti234 : tiF Try.prog 234 = some ⟨false, 1, 8, [.nilFunc]⟩ := by kernel_rfl
@[simp] theorem tb_un234 : (Try.prog.underlying 234).isSome = true := by kernel_rfl
@[simp] theorem tb_ti235 : tiF Try.prog 235 = some ⟨false, 1, 8, [.nilFunc]⟩ := by kernel_rfl
@[simp] theorem tb_un235 : (Try.prog.underlying 235).isSome = true := by kernel_rfl
@[simp] theorem tb_ti236 : tiF Try.prog 236 = some ⟨false, 1, 8, [.nilFunc]⟩ := by kernel_rfl
@[simp] theorem tb_un236 : (Try.prog.underlying 236).isSome = true := by kernel_rfl
@[simp] theorem tb_ti238 : tiF Try.prog 238 = some ⟨false, 1, 8, [.nilFunc]⟩ := by kernel_rfl
@[simp] theorem tb_un238 : (Try.prog.underlying 238).isSome = true := by kernel_rfl
@[simp] theorem tb_ti239 : tiF Try.prog 239 = some ⟨false, 1, 8, [.nilFunc]⟩ := by kernel_rfl
@[simp] theorem tb_un239 : (Try.prog.underlying 239).isSome = true := by kernel_rfl
@[simp] theorem tb_ti240 : tiF Try.prog 240 = some ⟨true, 4, 40, [.pointer none, .pointer none, .pointer none, .string ⟨#[]⟩]⟩ := by kernel_rfl
@[simp] theorem tb_un240 : (Try.prog.underlying 240).isSome = true := by kernel_rfl
@[simp] theorem tb_ti241 : tiF Try.prog 241 = some ⟨true, 4, 40, [.pointer none, .pointer none, .pointer none, .string ⟨#[]⟩]⟩ := by kernel_rfl
@[simp] theorem tb_un241 : (Try.prog.underlying 241).isSome = true := by kernel_rfl
@[simp] theorem tb_ti242 : tiF Try.prog 242 = some ⟨true, 0, 0, []⟩ := by kernel_rfl
@[simp] theorem tb_un242 : (Try.prog.underlying 242).isSome = true := by kernel_rfl
@[simp] theorem tb_ti243 : tiF Try.prog 243 = some ⟨true, 0, 0, []⟩ := by kernel_rfl
@[simp] theorem tb_un243 : (Try.prog.underlying 243).isSome = true := by kernel_rfl
@[simp] theorem tb_ti244 : tiF Try.prog 244 = some ⟨true, 0, 0, []⟩ := by kernel_rfl
@[simp] theorem tb_un244 : (Try.prog.underlying 244).isSome = true := by kernel_rfl
@[simp] theorem tb_ti245 : tiF Try.prog 245 = some ⟨false, 1, 8, [.nilFunc]⟩ := by kernel_rfl
@[simp] theorem tb_un245 : (Try.prog.underlying 245).isSome = true := by kernel_rfl
@[simp] theorem tb_ti246 : tiF Try.prog 246 = some ⟨false, 1, 1, [.int .u8 0]⟩ := by kernel_rfl
@[simp] theorem tb_un246 : (Try.prog.underlying 246).isSome = true := by kernel_rfl
@[simp] theorem tb_ti247 : tiF Try.prog 247 = some ⟨false, 1, 1, [.int .u8 0]⟩ := by kernel_rfl
@[simp] theorem tb_un247 : (Try.prog.underlying 247).isSome = true := by kernel_rfl
@[simp] theorem tb_ti248 : tiF Try.prog 248 = some ⟨false, 1, 8, [.nilFunc]⟩ := by kernel_rfl
@[simp] theorem tb_un248 : (Try.prog.underlying 248).isSome = true := by kernel_rfl
@[simp] theorem tb_ti249 : tiF Try.prog 249 = some ⟨false, 1, 8, [.pointer none]⟩ := by kernel_rfl
@[simp] theorem tb_un249 : (Try.prog.underlying 249).isSome = true := by kernel_rfl
@[simp] theorem tb_ti250 : tiF Try.prog 250 = some ⟨false, 1, 4, [.int .i32 0]⟩ := by kernel_rfl
@[simp] theorem tb_un250 : (Try.prog.underlying 250).isSome = true := by kernel_rfl
@[simp] theorem tb_ti251 : tiF Try.prog 251 = some ⟨false, 1, 4, [.int .i32 0]⟩ := by kernel_rfl
@[simp] theorem tb_un251 : (Try.prog.underlying 251).isSome = true := by kernel_rfl
@[simp] theorem tb_ti252 : tiF Try.prog 252 = some ⟨true, 11, 48, [.int .u64 0, .int .u64 0, .int .u32 0, .int .u8 0, .int .u8 0, .int .u8 0, .int .u8 0, .nilFunc, .pointer none, .int .i32 0, .int .i32 0]⟩ := by kernel_rfl
@[simp] theorem tb_un252 : (Try.prog.underlying 252).isSome = true := by kernel_rfl
@[simp] theorem tb_ti253 : tiF Try.prog 253 = some ⟨true, 11, 48, [.int .u64 0, .int .u64 0, .int .u32 0, .int .u8 0, .int .u8 0, .int .u8 0, .int .u8 0, .nilFunc, .pointer none, .int .i32 0, .int .i32 0]⟩ := by kernel_rfl
@[simp] theorem tb_un253 : (Try.prog.underlying 253).isSome = true := by kernel_rfl
@[simp] theorem tb_ti254 : tiF Try.prog 254 = some ⟨false, 1, 8, [.pointer none]⟩ := by kernel_rfl
@[simp] theorem tb_un254 : (Try.prog.underlying 254).isSome = true := by kernel_rfl
@[simp] theorem tb_el22 : elemF Try.prog 22 = some 33 := by kernel_rfl
@[simp] theorem tb_ns22 : strF Try.prog 22 = false := by kernel_rfl
@[simp] theorem tb_el24 : elemF Try.prog 24 = some 41 := by kernel_rfl
@[simp] theorem tb_ns24 : strF Try.prog 24 = false := by kernel_rfl
@[simp] theorem tb_el29 : elemF Try.prog 29 = some 43 := by kernel_rfl
@[simp] theorem tb_ns29 : strF Try.prog 29 = false := by kernel_rfl
@[simp] theorem tb_el44 : elemF Try.prog 44 = some 3 := by kernel_rfl
@[simp] theorem tb_ns44 : strF Try.prog 44 = false := by kernel_rfl
@[simp] theorem tb_el57 : elemF Try.prog 57 = some 138 := by kernel_rfl
@[simp] theorem tb_ns57 : strF Try.prog 57 = false := by kernel_rfl
@[simp] theorem tb_el58 : elemF Try.prog 58 = some 72 := by kernel_rfl
@[simp] theorem tb_ns58 : strF Try.prog 58 = false := by kernel_rfl
@[simp] theorem tb_el59 : elemF Try.prog 59 = some 131 := by kernel_rfl
@[simp] theorem tb_ns59 : strF Try.prog 59 = false := by kernel_rfl
@[simp] theorem tb_el62 : elemF Try.prog 62 = some 141 := by kernel_rfl
@[simp] theorem tb_ns62 : strF Try.prog 62 = false := by kernel_rfl
@[simp] theorem tb_el65 : elemF Try.prog 65 = some 44 := by kernel_rfl
@[simp] theorem tb_ns65 : strF Try.prog 65 = false := by kernel_rfl
@[simp] theorem tb_el78 : elemF Try.prog 78 = some 83 := by kernel_rfl
@[simp] theorem tb_ns78 : strF Try.prog 78 = false := by kernel_rfl
@[simp] theorem tb_el87 : elemF Try.prog 87 = some 5 := by kernel_rfl
@[simp] theorem tb_ns87 : strF Try.prog 87 = false := by kernel_rfl
@[simp] theorem tb_el109 : elemF Try.prog 109 = some 155 := by kernel_rfl
@[simp] theorem tb_ns109 : strF Try.prog 109 = false := by kernel_rfl
@[simp] theorem tb_el112 : elemF Try.prog 112 = some 114 := by kernel_rfl
@[simp] theorem tb_ns112 : strF Try.prog 112 = false := by kernel_rfl
@[simp] theorem tb_el133 : elemF Try.prog 133 = some 179 := by kernel_rfl
@[simp] theorem tb_ns133 : strF Try.prog 133 = false := by kernel_rfl
@[simp] theorem tb_el134 : elemF Try.prog 134 = some 9 := by kernel_rfl
@[simp] theorem tb_ns134 : strF Try.prog 134 = false := by kernel_rfl
@[simp] theorem tb_el214 : elemF Try.prog 214 = some 29 := by kernel_rfl
@[simp] theorem tb_ns214 : strF Try.prog 214 = false := by kernel_rfl
@[simp] theorem tb_fl7 : flds Try.prog 7 = some [(0, 1, false), (1, 1, false), (2, 1, false), (3, 1, false)] := by kernel_rfl
@[simp] theorem tb_fl8 : flds Try.prog 8 = some [(0, 1, false), (1, 1, false), (2, 1, false), (3, 1, false)] := by kernel_rfl
@[simp] theorem tb_fl13 : flds Try.prog 13 = some [(0, 1, false), (1, 1, false)] := by kernel_rfl
@[simp] theorem tb_fl14 : flds Try.prog 14 = some [(0, 1, false), (1, 1, false)] := by kernel_rfl
@[simp] theorem tb_fl18 : flds Try.prog 18 = some [(0, 1, false)] := by kernel_rfl
@[simp] theorem tb_fl19 : flds Try.prog 19 = some [(0, 1, false)] := by kernel_rfl
@[simp] theorem tb_fl40 : flds Try.prog 40 = some [(0, 1, false), (1, 1, false), (2, 1, false), (3, 1, false)] := by kernel_rfl
@[simp] theorem tb_fl41 : flds Try.prog 41 = some [(0, 1, false), (1, 1, false), (2, 1, false), (3, 1, false)] := by kernel_rfl
@[simp] theorem tb_fl42 : flds Try.prog 42 = some [(0, 1, false), (1, 1, false)] := by kernel_rfl
@[simp] theorem tb_fl43 : flds Try.prog 43 = some [(0, 1, false), (1, 1, false)] := by kernel_rfl
@[simp] theorem tb_fl60 : flds Try.prog 60 = some [(0, 1, false), (1, 1, false)] := by kernel_rfl
@[simp] theorem tb_fl61 : flds Try.prog 61 = some [(0, 1, false), (1, 1, false)] := by kernel_rfl
@[simp] theorem tb_fl63 : flds Try.prog 63 = some [(0, 2, true), (2, 1, false), (3, 1, false), (4, 2, true), (6, 1, false)] := by kernel_rfl
@[simp] theorem tb_fl64 : flds Try.prog 64 = some [(0, 2, true), (2, 1, false), (3, 1, false), (4, 2, true), (6, 1, false)] := by kernel_rfl
@[simp] theorem tb_fl66 : flds Try.prog 66 = some [(0, 1, false), (1, 1, false)] := by kernel_rfl
@[simp] theorem tb_fl67 : flds Try.prog 67 = some [(0, 1, false), (1, 1, false)] := by kernel_rfl
@[simp] theorem tb_fl68 : flds Try.prog 68 = some [(0, 1, false), (1, 1, false), (2, 1, false), (3, 1, false), (4, 1, false), (5, 1, false), (6, 1, false), (7, 1, false), (8, 1, false), (9, 1, false), (10, 7, true), (17, 2, true), (19, 1, false), (20, 1, false), (21, 1, false)] := by kernel_rfl
@[simp] theorem tb_fl69 : flds Try.prog 69 = some [(0, 1, false), (1, 1, false), (2, 1, false), (3, 1, false), (4, 1, false), (5, 1, false), (6, 1, false), (7, 1, false), (8, 1, false), (9, 1, false), (10, 7, true), (17, 2, true), (19, 1, false), (20, 1, false), (21, 1, false)] := by kernel_rfl
@[simp] theorem tb_fl71 : flds Try.prog 71 = some [(0, 1, false), (1, 1, false), (2, 1, false), (3, 1, false)] := by kernel_rfl
@[simp] theorem tb_fl72 : flds Try.prog 72 = some [(0, 1, false), (1, 1, false), (2, 1, false), (3, 1, false)] := by kernel_rfl
@[simp] theorem tb_fl82 : flds Try.prog 82 = some [(0, 1, false), (1, 1, false), (2, 1, false)] := by kernel_rfl
@[simp] theorem tb_fl83 : flds Try.prog 83 = some [(0, 1, false), (1, 1, false), (2, 1, false)] := by kernel_rfl
@[simp] theorem tb_fl94 : flds Try.prog 94 = some [(0, 4, true), (4, 4, true)] := by kernel_rfl
@[simp] theorem tb_fl95 : flds Try.prog 95 = some [(0, 4, true), (4, 4, true)] := by kernel_rfl
@[simp] theorem tb_fl113 : flds Try.prog 113 = some [(0, 1, false), (1, 1, false), (2, 1, false)] := by kernel_rfl
@[simp] theorem tb_fl114 : flds Try.prog 114 = some [(0, 1, false), (1, 1, false), (2, 1, false)] := by kernel_rfl
@[simp] theorem tb_fl130 : flds Try.prog 130 = some [(0, 1, false), (1, 1, false), (2, 1, false)] := by kernel_rfl
@[simp] theorem tb_fl131 : flds Try.prog 131 = some [(0, 1, false), (1, 1, false), (2, 1, false)] := by kernel_rfl
@[simp] theorem tb_fl135 : flds Try.prog 135 = some [(0, 1, false), (1, 1, false), (2, 1, false), (3, 1, false), (4, 1, false)] := by kernel_rfl
@[simp] theorem tb_fl136 : flds Try.prog 136 = some [(0, 1, false), (1, 1, false), (2, 1, false), (3, 1, false), (4, 1, false)] := by kernel_rfl
@[simp] theorem tb_fl137 : flds Try.prog 137 = some [(0, 1, false), (1, 5, true)] := by kernel_rfl
@[simp] theorem tb_fl138 : flds Try.prog 138 = some [(0, 1, false), (1, 5, true)] := by kernel_rfl
@[simp] theorem tb_fl140 : flds Try.prog 140 = some [(0, 1, false), (1, 1, false), (2, 5, true)] := by kernel_rfl
@[simp] theorem tb_fl141 : flds Try.prog 141 = some [(0, 1, false), (1, 1, false), (2, 5, true)] := by kernel_rfl
@[simp] theorem tb_fl154 : flds Try.prog 154 = some [(0, 1, false), (1, 1, false), (2, 1, false), (3, 1, false), (4, 1, false), (5, 1, false), (6, 1, false), (7, 1, false), (8, 1, false), (9, 2, true), (11, 2, true), (13, 1, false), (14, 1, false)] := by kernel_rfl
@[simp] theorem tb_fl155 : flds Try.prog 155 = some [(0, 1, false), (1, 1, false), (2, 1, false), (3, 1, false), (4, 1, false), (5, 1, false), (6, 1, false), (7, 1, false), (8, 1, false), (9, 2, true), (11, 2, true), (13, 1, false), (14, 1, false)] := by kernel_rfl
@[simp] theorem tb_fl178 : flds Try.prog 178 = some [(0, 1, false), (1, 1, false)] := by kernel_rfl
@[simp] theorem tb_fl179 : flds Try.prog 179 = some [(0, 1, false), (1, 1, false)] := by kernel_rfl
@[simp] theorem tb_fl240 : flds Try.prog 240 = some [(0, 1, false), (1, 1, false), (2, 1, false), (3, 1, false)] := by kernel_rfl
@[simp] theorem tb_fl241 : flds Try.prog 241 = some [(0, 1, false), (1, 1, false), (2, 1, false), (3, 1, false)] := by kernel_rfl
@[simp] theorem tb_fl243 : flds Try.prog 243 = some [(0, 0, true)] := by kernel_rfl
@[simp] theorem tb_fl244 : flds Try.prog 244 = some [(0, 0, true)] := by kernel_rfl
@[simp] theorem tb_fl252 : flds Try.prog 252 = some [(0, 1, false), (1, 1, false), (2, 1, false), (3, 1, false), (4, 1, false), (5, 1, false), (6, 1, false), (7, 1, false), (8, 1, false), (9, 1, false), (10, 1, false)] := by kernel_rfl
@[simp] theorem tb_fl253 : flds Try.prog 253 = some [(0, 1, false), (1, 1, false), (2, 1, false), (3, 1, false), (4, 1, false), (5, 1, false), (6, 1, false), (7, 1, false), (8, 1, false), (9, 1, false), (10, 1, false)] := by kernel_rfl
@[simp] theorem tb_st9 : strF Try.prog 9 = true := by kernel_rfl
@[simp] theorem tb_st10 : strF Try.prog 10 = true := by kernel_rfl
@[simp] theorem tb_st11 : strF Try.prog 11 = true := by kernel_rfl
@[simp] theorem tb_in2 : intF Try.prog 2 = some .i64 := by kernel_rfl
@[simp] theorem tb_in3 : intF Try.prog 3 = some .i64 := by kernel_rfl
@[simp] theorem tb_in5 : intF Try.prog 5 = some .u8 := by kernel_rfl
@[simp] theorem tb_in6 : intF Try.prog 6 = some .u8 := by kernel_rfl
@[simp] theorem tb_in12 : intF Try.prog 12 = some .u64 := by kernel_rfl
@[simp] theorem tb_in21 : intF Try.prog 21 = some .i32 := by kernel_rfl
@[simp] theorem tb_in33 : intF Try.prog 33 = some .u16 := by kernel_rfl
@[simp] theorem tb_in73 : intF Try.prog 73 = some .i64 := by kernel_rfl
@[simp] theorem tb_in124 : intF Try.prog 124 = some .u64 := by kernel_rfl
@[simp] theorem tb_in163 : intF Try.prog 163 = some .i64 := by kernel_rfl
@[simp] theorem tb_in171 : intF Try.prog 171 = some .u32 := by kernel_rfl
@[simp] theorem tb_in173 : intF Try.prog 173 = some .u64 := by kernel_rfl
@[simp] theorem tb_in194 : intF Try.prog 194 = some .u64 := by kernel_rfl
@[simp] theorem tb_in246 : intF Try.prog 246 = some .u8 := by kernel_rfl
@[simp] theorem tb_in247 : intF Try.prog 247 = some .u8 := by kernel_rfl
@[simp] theorem tb_in250 : intF Try.prog 250 = some .i32 := by kernel_rfl
@[simp] theorem tb_in251 : intF Try.prog 251 = some .i32 := by kernel_rfl
@[simp] theorem tb_sq7 : seqF Try.prog 7 = some [0, 0, 2, 0] := by kernel_rfl
@[simp] theorem tb_sq8 : seqF Try.prog 8 = some [0, 0, 2, 0] := by kernel_rfl
@[simp] theorem tb_sq40 : seqF Try.prog 40 = some [0, 0, 0, 0] := by kernel_rfl
@[simp] theorem tb_sq41 : seqF Try.prog 41 = some [0, 0, 0, 0] := by kernel_rfl
@[simp] theorem tb_sq42 : seqF Try.prog 42 = some [0, 0] := by kernel_rfl
@[simp] theorem tb_sq43 : seqF Try.prog 43 = some [0, 0] := by kernel_rfl
@[simp] theorem tb_sq60 : seqF Try.prog 60 = some [0, 0] := by kernel_rfl
@[simp] theorem tb_sq61 : seqF Try.prog 61 = some [0, 0] := by kernel_rfl
@[simp] theorem tb_sq71 : seqF Try.prog 71 = some [0, 0, 0, 1] := by kernel_rfl
@[simp] theorem tb_sq72 : seqF Try.prog 72 = some [0, 0, 0, 1] := by kernel_rfl
@[simp] theorem tb_sq82 : seqF Try.prog 82 = some [0, 0, 0] := by kernel_rfl
@[simp] theorem tb_sq83 : seqF Try.prog 83 = some [0, 0, 0] := by kernel_rfl
@[simp] theorem tb_sq130 : seqF Try.prog 130 = some [0, 0, 0] := by kernel_rfl
@[simp] theorem tb_sq131 : seqF Try.prog 131 = some [0, 0, 0] := by kernel_rfl
@[simp] theorem tb_sq178 : seqF Try.prog 178 = some [1, 1] := by kernel_rfl
@[simp] theorem tb_sq179 : seqF Try.prog 179 = some [1, 1] := by kernel_rfl
@[simp] theorem tb_sk4 : sk Try.prog 4 = some 2 := by kernel_rfl
end Go.Proofs.Ythjenkmbbnjcnaa

/- The program's data, as it lies in memory. -/
namespace Go.Proofs.Ythjenkmbbnjcnaa
open Go Go.RowKit
set_option linter.unusedVariables false
set_option linter.unusedSimpArgs false
def encS (l : List ByteArray) : List (List T) := l.map fun x => [.v (.string x)]
@[simp] theorem encS_length (l : List ByteArray) : (encS l).length = l.length := by simp [encS]
@[simp high] theorem encS_get (l : List ByteArray) (i : Nat) : (encS l)[i]? = (l[i]?).map fun x => [.v (.string x)] := by simp [encS]
@[simp] theorem encS_nil : encS [] = [] := rfl
@[simp] theorem encS_eq_nil (l : List ByteArray) : (encS l = []) = (l = []) := by simp [encS]
def encI (l : List Int) : List (List T) := l.map fun x => [.v (.int .i64 x)]
@[simp] theorem encI_length (l : List Int) : (encI l).length = l.length := by simp [encI]
@[simp high] theorem encI_get (l : List Int) (i : Nat) : (encI l)[i]? = (l[i]?).map fun x => [.v (.int .i64 x)] := by simp [encI]
@[simp] theorem encI_nil : encI [] = [] := rfl
theorem encI_append (l m : List Int) : encI (l ++ m) = encI l ++ encI m := by simp [encI]
theorem encI_sz (l : List Int) : ∀ e ∈ encI l, e.length = 1 := by
  intro e h
  obtain ⟨x, _, rfl⟩ := List.mem_map.1 h
  rfl
@[simp] theorem encI_eq_nil (l : List Int) : (encI l = []) = (l = []) := by simp [encI]
def encB (l : List Bool) : List (List T) := l.map fun x => [.v (.bool x)]
@[simp] theorem encB_length (l : List Bool) : (encB l).length = l.length := by simp [encB]
@[simp high] theorem encB_get (l : List Bool) (i : Nat) : (encB l)[i]? = (l[i]?).map fun x => [.v (.bool x)] := by simp [encB]
@[simp] theorem encB_nil : encB [] = [] := rfl
@[simp] theorem encB_eq_nil (l : List Bool) : (encB l = []) = (l = []) := by simp [encB]
def encU (l : List Int) : List (List T) := l.map fun x => [.v (.int .u8 x)]
@[simp] theorem encU_length (l : List Int) : (encU l).length = l.length := by simp [encU]
@[simp high] theorem encU_get (l : List Int) (i : Nat) : (encU l)[i]? = (l[i]?).map fun x => [.v (.int .u8 x)] := by simp [encU]
@[simp] theorem encU_nil : encU [] = [] := rfl
@[simp] theorem encU_eq_nil (l : List Int) : (encU l = []) = (l = []) := by simp [encU]
structure Field where
  name : ByteArray
  val : ByteArray
deriving DecidableEq, Inhabited
attribute [ext] Field
def encField (l : List Field) : List (List T) := l.map fun x => [.v (.string x.name), .v (.string x.val)]
@[simp] theorem encField_length (l : List Field) : (encField l).length = l.length := by simp [encField]
@[simp high] theorem encField_get (l : List Field) (i : Nat) : (encField l)[i]? = (l[i]?).map fun x => [.v (.string x.name), .v (.string x.val)] := by simp [encField]
@[simp] theorem encField_nil : encField [] = [] := rfl
@[simp] theorem encField_eq_nil (l : List Field) : (encField l = []) = (l = []) := by simp [encField]
structure Item where
  kind : Int
  s : ByteArray
  f : List Field
  l : List ByteArray
  exp : Int
deriving DecidableEq, Inhabited
attribute [ext] Item
def encItem (l : List Item) : List (List T) := l.map fun x => [.v (.int .i64 x.kind), .v (.string x.s), .sl 2 (encField x.f), .sl 1 (encS x.l), .v (.int .i64 x.exp)]
@[simp] theorem encItem_length (l : List Item) : (encItem l).length = l.length := by simp [encItem]
@[simp high] theorem encItem_get (l : List Item) (i : Nat) : (encItem l)[i]? = (l[i]?).map fun x => [.v (.int .i64 x.kind), .v (.string x.s), .sl 2 (encField x.f), .sl 1 (encS x.l), .v (.int .i64 x.exp)] := by simp [encItem]
@[simp] theorem encItem_nil : encItem [] = [] := rfl
@[simp] theorem encItem_eq_nil (l : List Item) : (encItem l = []) = (l = []) := by simp [encItem]
structure Pair where
  key : ByteArray
  item : Item
deriving DecidableEq, Inhabited
attribute [ext] Pair
def encPair (l : List Pair) : List (List T) := l.map fun x => [.v (.string x.key), .v (.int .i64 x.item.kind), .v (.string x.item.s), .sl 2 (encField x.item.f), .sl 1 (encS x.item.l), .v (.int .i64 x.item.exp)]
@[simp] theorem encPair_length (l : List Pair) : (encPair l).length = l.length := by simp [encPair]
@[simp high] theorem encPair_get (l : List Pair) (i : Nat) : (encPair l)[i]? = (l[i]?).map fun x => [.v (.string x.key), .v (.int .i64 x.item.kind), .v (.string x.item.s), .sl 2 (encField x.item.f), .sl 1 (encS x.item.l), .v (.int .i64 x.item.exp)] := by simp [encPair]
@[simp] theorem encPair_nil : encPair [] = [] := rfl
@[simp] theorem encPair_eq_nil (l : List Pair) : (encPair l = []) = (l = []) := by simp [encPair]
structure Effect where
  key : ByteArray
  gone : Bool
  item : Item
deriving DecidableEq, Inhabited
attribute [ext] Effect
def encEffect (l : List Effect) : List (List T) := l.map fun x => [.v (.string x.key), .v (.bool x.gone), .v (.int .i64 x.item.kind), .v (.string x.item.s), .sl 2 (encField x.item.f), .sl 1 (encS x.item.l), .v (.int .i64 x.item.exp)]
@[simp] theorem encEffect_length (l : List Effect) : (encEffect l).length = l.length := by simp [encEffect]
@[simp high] theorem encEffect_get (l : List Effect) (i : Nat) : (encEffect l)[i]? = (l[i]?).map fun x => [.v (.string x.key), .v (.bool x.gone), .v (.int .i64 x.item.kind), .v (.string x.item.s), .sl 2 (encField x.item.f), .sl 1 (encS x.item.l), .v (.int .i64 x.item.exp)] := by simp [encEffect]
@[simp] theorem encEffect_nil : encEffect [] = [] := rfl
@[simp] theorem encEffect_eq_nil (l : List Effect) : (encEffect l = []) = (l = []) := by simp [encEffect]
structure Rid where
  node : Int
  epoch : Int
deriving DecidableEq, Inhabited
attribute [ext] Rid
def encRid (l : List Rid) : List (List T) := l.map fun x => [.v (.int .i64 x.node), .v (.int .i64 x.epoch)]
@[simp] theorem encRid_length (l : List Rid) : (encRid l).length = l.length := by simp [encRid]
@[simp high] theorem encRid_get (l : List Rid) (i : Nat) : (encRid l)[i]? = (l[i]?).map fun x => [.v (.int .i64 x.node), .v (.int .i64 x.epoch)] := by simp [encRid]
@[simp] theorem encRid_nil : encRid [] = [] := rfl
@[simp] theorem encRid_eq_nil (l : List Rid) : (encRid l = []) = (l = []) := by simp [encRid]
structure Feed where
  rid : Rid
  off : Int
  back : List Effect
  prev : Rid
  upto : Int
deriving DecidableEq, Inhabited
attribute [ext] Feed
def encFeed (l : List Feed) : List (List T) := l.map fun x => [.v (.int .i64 x.rid.node), .v (.int .i64 x.rid.epoch), .v (.int .i64 x.off), .sl 7 (encEffect x.back), .v (.int .i64 x.prev.node), .v (.int .i64 x.prev.epoch), .v (.int .i64 x.upto)]
@[simp] theorem encFeed_length (l : List Feed) : (encFeed l).length = l.length := by simp [encFeed]
@[simp high] theorem encFeed_get (l : List Feed) (i : Nat) : (encFeed l)[i]? = (l[i]?).map fun x => [.v (.int .i64 x.rid.node), .v (.int .i64 x.rid.epoch), .v (.int .i64 x.off), .sl 7 (encEffect x.back), .v (.int .i64 x.prev.node), .v (.int .i64 x.prev.epoch), .v (.int .i64 x.upto)] := by simp [encFeed]
@[simp] theorem encFeed_nil : encFeed [] = [] := rfl
@[simp] theorem encFeed_eq_nil (l : List Feed) : (encFeed l = []) = (l = []) := by simp [encFeed]
structure Claim where
  frm : Int
  to : Int
  node : Int
  epoch : Int
deriving DecidableEq, Inhabited
attribute [ext] Claim
def encClaim (l : List Claim) : List (List T) := l.map fun x => [.v (.int .i64 x.frm), .v (.int .i64 x.to), .v (.int .i64 x.node), .v (.int .i64 x.epoch)]
theorem lvs_encClaim1 (x : Claim) : lvs (encClaim [x]) = [.s (.int .i64 x.frm), .s (.int .i64 x.to), .s (.int .i64 x.node), .s (.int .i64 x.epoch)] := rfl
@[simp] theorem encClaim_length (l : List Claim) : (encClaim l).length = l.length := by simp [encClaim]
@[simp high] theorem encClaim_get (l : List Claim) (i : Nat) : (encClaim l)[i]? = (l[i]?).map fun x => [.v (.int .i64 x.frm), .v (.int .i64 x.to), .v (.int .i64 x.node), .v (.int .i64 x.epoch)] := by simp [encClaim]
@[simp] theorem encClaim_nil : encClaim [] = [] := rfl
theorem encClaim_append (l m : List Claim) : encClaim (l ++ m) = encClaim l ++ encClaim m := by simp [encClaim]
theorem encClaim_sz (l : List Claim) : ∀ e ∈ encClaim l, e.length = 4 := by
  intro e h
  obtain ⟨x, _, rfl⟩ := List.mem_map.1 h
  rfl
@[simp] theorem encClaim_eq_nil (l : List Claim) : (encClaim l = []) = (l = []) := by simp [encClaim]
structure Msg where
  kind : Int
  frm : Int
  to : Int
  epoch : Int
  claims : List Claim
  nodes : List Int
  node : Int
  slot : Int
  num : Int
  rid : Rid
  prev : Rid
  off : Int
  effects : List Effect
deriving DecidableEq, Inhabited
attribute [ext] Msg
def encMsg (l : List Msg) : List (List T) := l.map fun x => [.v (.int .i64 x.kind), .v (.int .i64 x.frm), .v (.int .i64 x.to), .v (.int .i64 x.epoch), .sl 4 (encClaim x.claims), .sl 1 (encI x.nodes), .v (.int .i64 x.node), .v (.int .i64 x.slot), .v (.int .i64 x.num), .v (.int .i64 x.rid.node), .v (.int .i64 x.rid.epoch), .v (.int .i64 x.prev.node), .v (.int .i64 x.prev.epoch), .v (.int .i64 x.off), .sl 7 (encEffect x.effects)]
@[simp] theorem encMsg_length (l : List Msg) : (encMsg l).length = l.length := by simp [encMsg]
@[simp high] theorem encMsg_get (l : List Msg) (i : Nat) : (encMsg l)[i]? = (l[i]?).map fun x => [.v (.int .i64 x.kind), .v (.int .i64 x.frm), .v (.int .i64 x.to), .v (.int .i64 x.epoch), .sl 4 (encClaim x.claims), .sl 1 (encI x.nodes), .v (.int .i64 x.node), .v (.int .i64 x.slot), .v (.int .i64 x.num), .v (.int .i64 x.rid.node), .v (.int .i64 x.rid.epoch), .v (.int .i64 x.prev.node), .v (.int .i64 x.prev.epoch), .v (.int .i64 x.off), .sl 7 (encEffect x.effects)] := by simp [encMsg]
@[simp] theorem encMsg_nil : encMsg [] = [] := rfl
@[simp] theorem encMsg_eq_nil (l : List Msg) : (encMsg l = []) = (l = []) := by simp [encMsg]
theorem mixed : Try.prog.follows .mixedOrders = true := by kernel_rfl
/-- The first place where p no longer holds, sought by halves. -/
def bs (p : Nat → Bool) (lo hi : Nat) : Nat :=
  if h : lo < hi then (if p ((lo + hi) / 2) then bs p ((lo + hi) / 2 + 1) hi else bs p lo ((lo + hi) / 2)) else lo
termination_by hi - lo
end Go.Proofs.Ythjenkmbbnjcnaa

/- No texts are compared here. -/
namespace Go.Proofs.Ythjenkmbbnjcnaa
open Go Go.RowKit
end Go.Proofs.Ythjenkmbbnjcnaa

/- The order of texts. No program in sight. -/
namespace Go.Proofs.Ythjenkmbbnjcnaa
open Go Go.RowKit
set_option linter.unusedVariables false
set_option linter.unusedSimpArgs false
end Go.Proofs.Ythjenkmbbnjcnaa

/- Elements of a row of data: their cells told, and stored. -/
namespace Go.Proofs.Ythjenkmbbnjcnaa
open Go Go.RowKit
set_option linter.unusedVariables false
set_option linter.unusedSimpArgs false
section
variable {es : List (List T)} {sz i j k : Nat} {e e' : List T}
theorem lvs_from (hes : ∀ e ∈ es, e.length = sz) (hi : es[i]? = some e) : (lvs es).drop (i * sz) = lvs [e] ++ lvs (es.drop (i + 1)) := by
  obtain ⟨hlt, he⟩ := List.getElem?_eq_some_iff.1 hi
  rw [lvs_dropN hes, List.drop_eq_getElem_cons hlt, he]
  simp [lvs]
theorem lvs_one_length (hes : ∀ e ∈ es, e.length = sz) (hi : es[i]? = some e) : (lvs [e]).length = sz := by
  have := hes e (List.mem_of_getElem? hi)
  simp [lvs, this]
theorem lvs_seg (hes : ∀ e ∈ es, e.length = sz) (hi : es[i]? = some e) (hjk : j + k ≤ sz) : ((lvs es).drop (i * sz + j)).take k = ((lvs [e]).drop j).take k := by
  have h1 := lvs_one_length hes hi
  rw [← List.drop_drop, lvs_from hes hi, List.drop_append_of_le_length (by omega), List.take_append_of_le_length (by rw [List.length_drop]; omega)]
theorem lvs_cell (hes : ∀ e ∈ es, e.length = sz) (hi : es[i]? = some e) (hj : j < sz) : (lvs es)[i * sz + j]? = (lvs [e])[j]? := by
  have h1 := lvs_one_length hes hi
  have h2 : ((lvs es).drop (i * sz))[j]? = (lvs [e])[j]? := by rw [lvs_from hes hi, List.getElem?_append_left (by omega)]
  rwa [List.getElem?_drop] at h2
theorem setAt_behind (A B cs : List LV) (j : Nat) (h : j + cs.length ≤ B.length) : setAt (A ++ B) (A.length + j) cs = A ++ setAt B j cs := by
  rw [setAt_eq _ _ _ (by simp; omega), setAt_eq _ _ _ h]
  rw [List.take_length_add_append, Nat.add_assoc, List.drop_length_add_append]
  simp [List.append_assoc]
theorem setAt_left (A B cs : List LV) (j : Nat) (h : j + cs.length ≤ A.length) : setAt (A ++ B) j cs = setAt A j cs ++ B := by
  rw [setAt_eq _ _ _ (by simp; omega), setAt_eq _ _ _ h, List.take_append_of_le_length (by omega), List.drop_append_of_le_length (by omega), List.append_assoc, List.append_assoc, List.append_assoc]
theorem lvs_put {cs : List LV} (hes : ∀ e ∈ es, e.length = sz) (hi : es[i]? = some e) (hj : j + cs.length ≤ sz) (he' : setAt (lvs [e]) j cs = lvs [e']) : setAt (lvs es) (i * sz + j) cs = lvs (es.set i e') := by
  obtain ⟨hlt, he⟩ := List.getElem?_eq_some_iff.1 hi
  have h1 := lvs_one_length hes hi
  have h2 : lvs es = lvs (es.take i) ++ (lvs [e] ++ lvs (es.drop (i + 1))) := by
    rw [← lvs_from hes hi, ← lvs_takeN hes, List.take_append_drop]
  have h3 : (lvs (es.take i)).length = i * sz := by
    rw [lvs_length fun e he => hes e (List.mem_of_mem_take he), List.length_take]
    congr 1
    omega
  rw [h2, ← h3, setAt_behind _ _ _ _ (by rw [List.length_append]; omega), setAt_left _ _ _ _ (by omega), he', List.set_eq_take_append_cons_drop, if_pos hlt]
  simp [lvs]
end
/-- An own row becomes data. -/
theorem AW.frzRow {P : Program} {R : Option Nat} {cx : Cx} {Q : Post} {c : Code} {tm tm' : Tm} {ob ob' : List (Option Ob)} {nt : Nat} {gh gh' : List Tm} {ls : Option Code} (o : Nat) {ty sz : Nat} {cap : Option Nat} {es : List (List T)} (hz : ob[o]? = some (some ⟨ty, sz, true, cap, lvs es⟩)) (h0 : 0 < sz) (hes : ∀ e ∈ es, e.length = sz)
    (hm : es.length ≤ 140737488355328) (h1 : Tm.frz o sz es tm = tm') (h2 : (ob.set o none).map (Option.map (Ob.frz o sz es)) = ob') (h3 : gh.map (Tm.frz o sz es) = gh') (k : AW P R cx c Q ⟨tm', ob', nt, gh', ls⟩) : AW P R cx c Q ⟨tm, ob, nt, gh, ls⟩ := by
  subst h1
  subst h2
  subst h3
  exact AW.weak (Weak.freeze (st := ⟨tm, ob, nt, gh, ls⟩) (o := o) (sz := sz) (z := ⟨ty, sz, true, cap, lvs es⟩) (es := es) (by simp [St.obj, hz]) rfl rfl h0 rfl hes hm) k
/-- Objects picked and ordered, boxes too, where none was handed over. -/
theorem Weak.mixN {cx : Cx} {tm tm' : Tm} {ob ob' : List (Option Ob)} {nt : Nat} {gh gh' : List Tm} {ls : Option Code} (ids : List (Option Nat)) (hn : cx.nb = 0) (hnd : (ids.filterMap fun x => x).Nodup) (htm : ∀ e ∈ tm', (lk tm e.1).ren (inv ids) = e.2) (hob : pickOb ids ob = ob') (hgh : gh.map (Tm.ren (inv ids)) = gh') :
    Weak cx ⟨tm, ob, nt, gh, ls⟩ ⟨tm', ob', nt, gh', ls⟩ := by
  subst hob
  subst hgh
  have key : ∀ l : Tm, (∀ e ∈ l, (lk tm e.1).ren (inv ids) = e.2) → ∀ i, lk l i = (lk tm i).ren (inv ids) ∨ lk l i = .l .u := by
    intro l
    induction l with
    | nil => intro _ i; exact .inr rfl
    | cons e l ih =>
      intro h i
      rw [lk_cons]
      split
      · rename_i hi
        subst hi
        exact .inl (h e (by simp)).symm
      · exact ih (fun e' he' => h e' (by simp [he'])) i
  exact Weak.ren (st := ⟨tm, ob, nt, gh, ls⟩) ids tm' (nd_of ids hnd) (by omega) (fun i o hi ho => by omega) (key tm' htm)
section
variable {P : Program} {R : Option Nat} {cx : Cx} {Q : Post} {c : Code} {tm : Tm} {ob ob' : List (Option Ob)} {nt : Nat} {gh : List Tm} {ls : Option Code}
end
end Go.Proofs.Ythjenkmbbnjcnaa

/- Drawn regions with effects: what each operation yields, and what it makes, is found while it is shown. -/
namespace Go.Proofs.Ythjenkmbbnjcnaa
open Go Go.RowKit
set_option linter.unusedVariables false
set_option linter.unusedSimpArgs false
def ObE (P : Program) (ops : Array Oper) (tm0 : Tm) (V : List AV) (M : List (List (Option Ob))) (nt : Nat) (gh : List Tm) (ls : Option Code) : List Oper → List DI → List AV → Prop
  | o :: os, d :: ds, v :: vs => (AllL (fun k => ∀ tm, AllL (fun r => lk tm r.1 = rdV V tm0 r) d.rd → xg P ops o ⟨tm, M.getD k [], nt, gh, ls⟩ (KD o.dst v tm (M.getD (bif d.ef then k + 1 else k) []) nt gh ls)) d.ks) ∧ ObE P ops tm0 V M nt gh ls os ds vs
  | _, _, [] => True
  | _, _, _ => False
section
variable {P : Program} {cx : Cx} {ops : Array Oper} {D : List DI} {n1 : Nat} {V : List AV} {M : List (List (Option Ob))} {Q : Post} {R : Option Nat} {tm tm' : Tm} {ob me : List (Option Ob)} {nt : Nat} {gh : List Tm} {ls : Option Code}
theorem ObE.obl (tm0 : Tm) : ∀ (os : List Oper) (ds : List DI) (vs : List AV), ObE P ops tm0 V M nt gh ls os ds vs → Obl P ops V M ⟨tm0, ob, nt, gh, ls⟩ os ds vs
  | _, _, [], _ => by simp [Obl]
  | [], _, _ :: _, h => by simp [ObE] at h
  | _ :: _, [], _ :: _, h => by simp [ObE] at h
  | o :: os, d :: ds, v :: vs, h => ⟨h.1, ObE.obl tm0 os ds vs h.2⟩
theorem ef_zero (D : List DI) (p : Nat → Bool) (h : ∀ e, p e = false) : efCount D p = 0 := by
  simp only [efCount, List.length_eq_zero_iff, List.filter_eq_nil_iff]
  intro a ha
  simp [h]
theorem AW.drawnE (hm : P.follows .mixedOrders = true) {id : Nat} {c : Code} {st' : St} (D : List DI) (n1 ne : Nat) (hc : chkD ops D n1 = true) (he : (efCount D fun e => decide (e < n1)) = ne) (hM : M.getD 0 [] = ob) (hO : ObE P ops tm V M nt gh ls ops.toList D V) (hV : V.length = n1)
    (htm : tmD ops.toList V tm = tm') (hx : xops P ops (ops.toList.drop n1) ⟨tm', M.getD ne [], nt, gh, ls⟩ (fun s => s = st')) (k : AW P R cx c Q st') : AW P R cx (.seq (.region id ops true) c) Q ⟨tm, ob, nt, gh, ls⟩ := by
  subst htm
  subst he
  exact AW.drawn hm D n1 V M st' hc hV hM (ObE.obl tm _ _ _ hO) rfl hx k
theorem AW.drawnF (hm : P.follows .mixedOrders = true) {id : Nat} (D : List DI) (n1 ne : Nat) (hc : chkD ops D n1 = true) (he : (efCount D fun e => decide (e < n1)) = ne) (hM : M.getD 0 [] = ob) (hO : ObE P ops tm V M nt gh ls ops.toList D V) (hV : V.length = n1)
    (htm : tmD ops.toList V tm = tm') {st' : St} (hx : xops P ops (ops.toList.drop n1) ⟨tm', M.getD ne [], nt, gh, ls⟩ (fun s => s = st')) (k : Q .normal st') : AW P R cx (.region id ops true) Q ⟨tm, ob, nt, gh, ls⟩ := by
  subst htm
  subst he
  have hO2 : Obl P ops V M ⟨tm, ob, nt, gh, ls⟩ ops.toList D V := ObE.obl tm _ _ _ hO
  have hn : n1 ≤ ops.size := by
    simp only [chkD, Bool.and_eq_true, decide_eq_true_eq] at hc
    exact hc.1.2
  have h1' : AW P R cx (.region id ops true) (fun e s => e = .normal ∧ s = st') ⟨tm, ob, nt, gh, ls⟩ := by
    intro σ a w hr
    refine wpIn_region_any hm ?_
    have hLf : ∀ j, Ls (Array.replicate ops.size false) j = false := fun j => by
      simp only [Ls, Array.getD_eq_getD_getElem?, Array.getElem?_replicate]
      split <;> rfl
    have hr' : RelS cx σ ⟨tm, ob, nt, gh, ls⟩ a { w with drawn := w.drawn + 1 } := hr.drewN 1
    refine drawn1 hc hV hn hO2 ?_ ops.size _ ⟨tm, ob, nt, gh, ls⟩ σ a _ (by simp) (fun i hi h => by rw [hLf] at h; simp at h) ?_ (fun j _ _ => hLf j) ⟨rfl, rfl, rfl, ?_, fun t j _ h => by rw [hLf] at h; simp at h, fun t _ => rfl⟩ hr'
    · have h2 := xops_Y (R := R) (cx := cx) _ n1 _ rfl hx
      simpa using h2
    · have : ((List.range n1).filter fun i => !Ls (Array.replicate ops.size false) i).length ≤ n1 := by
        have := List.length_filter_le (fun i => !Ls (Array.replicate ops.size false) i) (List.range n1)
        simpa using this
      omega
    · rw [ef_zero D _ fun j => by simp [hLf]]
      exact hM.symm
  refine AW.mono h1' ?_
  rintro e s ⟨rfl, hs⟩
  subst hs
  exact k
end
end Go.Proofs.Ythjenkmbbnjcnaa

/- Rows that keep their place: handed over in place, as boxes are. -/
namespace Go.Proofs.Ythjenkmbbnjcnaa
open Go Go.RowKit
set_option linter.unusedVariables false
set_option linter.unusedSimpArgs false
/-- An own row is seen as one that keeps its place, or the other way round. -/
theorem Weak.flip {cx : Cx} {tm : Tm} {ob : List (Option Ob)} {nt : Nat} {gh : List Tm} {ls : Option Code} (o : Nat) {x x' : Ob} (ho : ob[o]? = some (some x)) (hcs : x'.cs = x.cs) (hty : x'.ty = x.ty) (hsz : x'.sz = x.sz) (hb : x.bx = false) (hb' : x'.bx = false)
    (hcap : x'.row = true → x'.cap = none) (hnb : x'.row = false → x.row = false ∨ cx.nb ≤ o) : Weak cx ⟨tm, ob, nt, gh, ls⟩ ⟨tm, ob.set o (some x'), nt, gh, ls⟩ := by
  intro σ a w hr
  have hl : o < ob.length := (List.getElem?_eq_some_iff.1 ho).1
  have hO := hr.h.obs o x ho
  have hget : ∀ (i : Nat) (y : Ob), (ob.set o (some x'))[i]? = some (some y) → (i = o ∧ y = x') ∨ (i ≠ o ∧ ob[i]? = some (some y)) := by
    intro i y hy
    by_cases e : i = o
    · subst e
      rw [List.getElem?_set_self hl] at hy
      simp at hy
      exact .inl ⟨rfl, hy.symm⟩
    · rw [List.getElem?_set_ne (Ne.symm e)] at hy
      exact .inr ⟨e, hy⟩
  have hOc : RelO w (Xd cx w σ ob) (Xe w σ ob) σ (σ o) x' := by
    revert hO
    unfold RelO
    cases σ o with
    | none => exact id
    | some hd =>
      cases hd with
      | none => exact fun h => ⟨hb', by rw [hcs]; exact h.2.1, fun r => .inl (hcap r)⟩
      | some bk =>
        rintro ⟨vs, rest, g1, g2, g4, g5⟩
        refine ⟨vs, rest, by rw [hty]; exact g1, by rw [hcs]; exact g2, fun e => by rw [hb'] at e; simp at e, fun _ => ⟨by rw [hsz]; exact (g5 hb).1, (g5 hb).2.1, fun r k' e => by rw [hcap r] at e; simp at e⟩⟩
  have hs : Step σ ob w σ (ob.set o (some x')) w some := by
    refine ⟨Evo.refl _ _ _, fun i j h e hi => by cases e; exact hi, ?_⟩
    rintro b ⟨i, y, k, hi, hb⟩
    rcases hget i y hi with ⟨rfl, rfl⟩ | ⟨_, hy⟩
    · exact .inl ⟨i, x, k, ho, hb⟩
    · exact .inl ⟨i, y, k, hy, hb⟩
  refine ⟨σ, RelS.step_some (st := ⟨tm, ob, nt, gh, ls⟩) hr hs (hs.relH hr.h ?_ ?_ ?_ (by have := hr.h.nbl; simpa using this) ?_)⟩
  · intro i y hi
    rcases hget i y hi with ⟨rfl, rfl⟩ | ⟨_, hy⟩
    · have := hs.relO (cx := cx) (fun b k e => rfl) hOc
      rwa [Ob.ren_some] at this
    · have := hs.relO (cx := cx) (fun b k e => rfl) (hr.h.obs i y hy)
      rwa [Ob.ren_some] at this
  · intro i j y y' b k k' hi hj e1 e2
    rcases hget i y hi with ⟨rfl, rfl⟩ | ⟨_, hy⟩ <;> rcases hget j y' hj with ⟨rfl, rfl⟩ | ⟨_, hy'⟩
    · rfl
    · exact hr.h.inj _ _ _ _ b k k' ho hy' e1 e2
    · exact hr.h.inj _ _ _ _ b k k' hy ho e1 e2
    · exact hr.h.inj _ _ _ _ b k k' hy hy' e1 e2
  · intro i hi
    exact hr.h.dom i (by simpa using hi)
  · intro i y hi hrow hlt
    rcases hget i y hi with ⟨rfl, rfl⟩ | ⟨_, hy⟩
    · rcases hnb hrow with h | h
      · exact hr.h.box i x ho h hlt
      · omega
    · exact hr.h.box i y hy hrow hlt
section
variable {P : Program} {R : Option Nat} {cx : Cx} {Q : Post} {c : Code} {tm : Tm} {ob ob' : List (Option Ob)} {nt : Nat} {gh : List Tm} {ls : Option Code}
/-- An own row keeps its place from here on. -/
theorem AW.pin (o : Nat) {ty sz n : Nat} {cs : List LV} (hz : ob[o]? = some (some ⟨ty, sz, true, none, cs⟩)) (hn : cx.nb = n) (ho : n ≤ o) (h : ob.set o (some ⟨ty, sz, false, some 0, cs⟩) = ob') (k : AW P R cx c Q ⟨tm, ob', nt, gh, ls⟩) : AW P R cx c Q ⟨tm, ob, nt, gh, ls⟩ := by
  subst h
  exact AW.weak (Weak.flip o (x' := ⟨ty, sz, false, some 0, cs⟩) hz rfl rfl rfl rfl rfl (fun h => by simp at h) (fun _ => .inr (by omega))) k
/-- It need not any more. -/
theorem AW.unpin (o : Nat) {ty sz : Nat} {cs : List LV} (hz : ob[o]? = some (some ⟨ty, sz, false, some 0, cs⟩)) (h : ob.set o (some ⟨ty, sz, true, none, cs⟩) = ob') (k : AW P R cx c Q ⟨tm, ob', nt, gh, ls⟩) : AW P R cx c Q ⟨tm, ob, nt, gh, ls⟩ := by
  subst h
  exact AW.weak (Weak.flip o (x' := ⟨ty, sz, true, none, cs⟩) hz rfl rfl rfl rfl rfl (fun _ => rfl) (fun h => by simp at h)) k
end
end Go.Proofs.Ythjenkmbbnjcnaa

/- Shallow code: what walks that are printed by a program are told by. -/
namespace Go.Proofs.Ythjenkmbbnjcnaa
open Go Go.RowKit
set_option linter.unusedVariables false
set_option linter.unusedSimpArgs false

/-! ### Code of values -/
section
variable {α β γ : Type}
def lt (a : α) (k : α → Option β) : Option β := k a
theorem lt_eq (a : α) (k : α → Option β) : lt a k = k a := rfl
theorem ltE {a : α} {k : α → Option β} {r : β} (h : lt a k = some r) : ∃ x, x = a ∧ k x = some r := ⟨a, rfl, h⟩
def bn (m : Option α) (k : α → Option β) : Option β := m.bind k
theorem bn_some (a : α) (k : α → Option β) : bn (some a) k = k a := rfl
theorem bnE {m : Option α} {k : α → Option β} {r : β} (h : bn m k = some r) : ∃ x, m = some x ∧ k x = some r := Option.bind_eq_some_iff.1 h
/-- What follows is for where all went on; what went off goes by. -/
def bf (m : Option (α ⊕ γ)) (k : α → Option (β ⊕ γ)) : Option (β ⊕ γ) := m.bind fun | .inl a => k a | .inr c => some (.inr c)
def chk (b : Bool) (k : Option β) : Option β := bif b then k else none
theorem chkE {b : Bool} {k : Option β} {r : β} (h : chk b k = some r) : b = true ∧ k = some r := by
  cases b
  · simp [chk] at h
  · exact ⟨rfl, h⟩
def ite' (b : Bool) (x y : Option β) : Option β := bif b then x else y
theorem iteT {b : Bool} {x y : Option β} {r : β} (hb : b = true) (h : ite' b x y = some r) : x = some r := by subst hb; exact h
theorem iteF {b : Bool} {x y : Option β} {r : β} (hb : b = false) (h : ite' b x y = some r) : y = some r := by subst hb; exact h
theorem ite_t (x y : Option β) : ite' true x y = x := rfl
theorem ite_f (x y : Option β) : ite' false x y = y := rfl
/-- Rounds, at most n. -/
def iter : Nat → (α → Option (α ⊕ β)) → α → Option β
  | 0, _, _ => none
  | n + 1, f, a => match f a with
    | some (.inl a') => iter n f a'
    | some (.inr b) => some b
    | none => none
theorem iter_inl {n : Nat} {f : α → Option (α ⊕ β)} {a a' : α} (h : f a = some (.inl a')) : iter (n + 1) f a = iter n f a' := by rw [iter, h]
theorem iter_inr {n : Nat} {f : α → Option (α ⊕ β)} {a : α} {b : β} (h : f a = some (.inr b)) : iter (n + 1) f a = some b := by rw [iter, h]
def nth (l : List α) (i : Int) : Option α := if 0 ≤ i then l[i.toNat]? else none
theorem nth_d {l : List α} {i : Int} {x : α} (h : nth l i = some x) : 0 ≤ i ∧ l[i.toNat]? = some x := by
  unfold nth at h
  split at h
  · exact ⟨by assumption, h⟩
  · simp at h
theorem nth_lt {l : List α} {i : Int} {x : α} (h : nth l i = some x) : i.toNat < l.length ∧ i < (l.length : Int) := by
  have h1 := (List.getElem?_eq_some_iff.1 (nth_d h).2).1
  have h2 := (nth_d h).1
  exact ⟨h1, by omega⟩
theorem nth_nat (l : List α) (i : Nat) : nth l (i : Int) = l[i]? := by simp [nth]
def seg (l : List α) (a b : Int) : Option (List α) := if 0 ≤ a ∧ a ≤ b ∧ b ≤ l.length then some ((l.drop a.toNat).take (b.toNat - a.toNat)) else none
theorem seg_d {l m : List α} {a b : Int} (h : seg l a b = some m) : 0 ≤ a ∧ 0 ≤ b ∧ a.toNat ≤ b.toNat ∧ b.toNat ≤ l.length ∧ (l.drop a.toNat).take (b.toNat - a.toNat) = m ∧ a ≤ b ∧ b ≤ (l.length : Int) ∧ max a 0 ≤ b := by
  unfold seg at h
  split at h
  · rename_i hc
    simp at h
    exact ⟨by omega, by omega, by omega, by omega, h, by omega, by omega, by omega⟩
  · simp at h
def segS (s : ByteArray) (a b : Int) : Option ByteArray := if 0 ≤ a ∧ a ≤ b ∧ b ≤ s.size then some (s.extract a.toNat b.toNat) else none
def segSl (s : ByteArray) (a : Int) : Option ByteArray := if 0 ≤ a ∧ a ≤ s.size then some (s.extract a.toNat s.size) else none
def segSh (s : ByteArray) (b : Int) : Option ByteArray := if 0 ≤ b ∧ b ≤ s.size then some (s.extract 0 b.toNat) else none
def segSlh (s : ByteArray) (a b : Int) : Option ByteArray := segS s a b
def atS (s : ByteArray) (i : Int) : Option Int := if 0 ≤ i ∧ i.toNat < s.size then some (bAt s i.toNat) else none
theorem atS_d {s : ByteArray} {i x : Int} (h : atS s i = some x) : 0 ≤ i ∧ i.toNat < s.size ∧ bAt s i.toNat = x ∧ i < (s.size : Int) := by
  unfold atS at h
  split at h
  · rename_i hc
    simp at h
    exact ⟨hc.1, hc.2, h, by omega⟩
  · simp at h
/-- A row may grow so far. -/
def room (n b : Nat) : Bool := decide (n * b ≤ 140737488355328 ∧ n ≤ 140737488355328)
def posN (n : Nat) : Bool := decide (0 < n)
theorem room_d {n b : Nat} (h : room n b = true) : n * b ≤ 140737488355328 ∧ n ≤ 140737488355328 := by simpa [room] using h
end
def addI (k : IntKind) (a b : Int) : Int := k.wrap (a + b)
def subI (k : IntKind) (a b : Int) : Int := k.wrap (a - b)
def mulI (k : IntKind) (a b : Int) : Int := k.wrap (a * b)
def quoI (k : IntKind) (a b : Int) : Option Int := if b ≠ 0 then some (k.wrap (a.tdiv b)) else none
def remI (k : IntKind) (a b : Int) : Option Int := if b ≠ 0 then some (a.tmod b) else none
def andI (k : IntKind) (a b : Int) : Int := k.wrap (BitVec.ofInt k.bits a &&& BitVec.ofInt k.bits b).toNat
def orI (k : IntKind) (a b : Int) : Int := k.wrap (BitVec.ofInt k.bits a ||| BitVec.ofInt k.bits b).toNat
def xorI (k : IntKind) (a b : Int) : Int := k.wrap (BitVec.ofInt k.bits a ^^^ BitVec.ofInt k.bits b).toNat
def shlI (k : IntKind) (a b : Int) : Option Int := if 0 ≤ b then some (k.wrap (a * 2 ^ (min b.toNat k.bits))) else none
def shrI (k : IntKind) (a b : Int) : Option Int := if 0 ≤ b then some (a.fdiv (2 ^ (min b.toNat k.bits))) else none
def negI (k : IntKind) (a : Int) : Int := k.wrap (0 - a)
def cvI (k : IntKind) (a : Int) : Int := k.wrap a
def minI (a b : Int) : Int := min a b
def maxI (a b : Int) : Int := max a b
def eqI (a b : Int) : Bool := decide (a = b)
def neI (a b : Int) : Bool := !decide (a = b)
def ltI (a b : Int) : Bool := decide (a < b)
def leI (a b : Int) : Bool := decide (a ≤ b)
def gtI (a b : Int) : Bool := decide (b < a)
def geI (a b : Int) : Bool := decide (b ≤ a)
def eqS (a b : ByteArray) : Bool := decide (a = b)
def neS (a b : ByteArray) : Bool := !decide (a = b)
def ltS (a b : ByteArray) : Bool := slt a b
def leS (a b : ByteArray) : Bool := !slt b a
def gtS (a b : ByteArray) : Bool := slt b a
def geS (a b : ByteArray) : Bool := !slt a b
def catS (a b : ByteArray) : Option ByteArray := if a.size + b.size ≤ 9223372036854775807 then some (a ++ b) else none
def eqB (a b : Bool) : Bool := decide (a = b)
def neB (a b : Bool) : Bool := !decide (a = b)
def notB (a : Bool) : Bool := !a
@[simp] theorem notB_t : notB true = false := rfl
@[simp] theorem notB_f : notB false = true := rfl
def andB (a b : Bool) : Bool := a && b
def lenI {α : Type} (l : List α) : Int := (l.length : Int)
def lenS (s : ByteArray) : Int := (s.size : Int)
theorem lenI_cast {α : Type} {l : List α} {n : Int} (h : n = lenI l) : (l.length : Int) = n := h.symm
section
variable {k : IntKind} {a b c : Int}
end
/-- What some function of the kit's own does with a word of its own. -/
def wo {α : Type} (x : Option α) (k : α → Prop) : Prop := wh x k
/-! ### Structure of code -/
section
variable {α β γ : Type} {P : Program} {R : Option Nat} {cx : Cx} {Q : Post} {c c' : Code} {st st' : St} {tm tm' : Tm} {ob ob' : List (Option Ob)} {nt : Nat} {gh gh' : List Tm} {ls : Option Code}
/-- Code that went on: where its state is told by a. -/
def nP (mk : α → St) (a : α) : Post := fun e s => e = .normal ∧ Weak cx s (mk a)
def xP (id : Nat) (mk : α → St) (a : α) : Post := fun e s => e = .exit id ∧ Weak cx s (mk a)
def rP (fn : Func) (res : β → AV) (obs : β → List (Option Ob)) (q : β) : Post := fun e s => e = .ret ∧ Left P cx fn (res q) (obs q) s
def sp (p : α → Post) (q : β → Post) : α ⊕ β → Post
  | .inl a => p a
  | .inr b => q b
theorem sp_l {p : α → Post} {q : β → Post} {a : α} : sp p q (.inl a) = p a := rfl
theorem sp_r {p : α → Post} {q : β → Post} {b : β} : sp p q (.inr b) = q b := rfl
theorem nP_i {mk : α → St} {a : α} {s : St} (h : Weak cx s (mk a)) : nP (cx := cx) mk a .normal s := ⟨rfl, h⟩
theorem xP_i {id : Nat} {mk : α → St} {a : α} {s : St} (h : Weak cx s (mk a)) : xP (cx := cx) id mk a (.exit id) s := ⟨rfl, h⟩
theorem rP_i {fn : Func} {res : β → AV} {obs : β → List (Option Ob)} {q : β} {s : St} (h : Left P cx fn (res q) (obs q) s) : rP (P := P) (cx := cx) fn res obs q .ret s := ⟨rfl, h⟩
theorem noX {id : Nat} {mk : α → St} : ∀ a s, ¬ xP (cx := cx) id mk a .normal s := fun a s h => by simp [xP] at h
theorem noR {fn : Func} {res : β → AV} {obs : β → List (Option Ob)} : ∀ q s, ¬ rP (P := P) (cx := cx) fn res obs q .normal s := fun a s h => by simp [rP] at h
theorem noS {p : α → Post} {q : β → Post} (h1 : ∀ a s, ¬ p a .normal s) (h2 : ∀ b s, ¬ q b .normal s) : ∀ y s, ¬ sp p q y .normal s
  | .inl a, s => h1 a s
  | .inr b, s => h2 b s
def sm (y : α ⊕ β) (f : α → Option γ) (g : β → Option γ) : Option γ := match y with | .inl a => f a | .inr b => g b
theorem sm_inl (a : α) (f : α → Option γ) (g : β → Option γ) : sm (.inl a) f g = f a := rfl
theorem sm_inr (b : β) (f : α → Option γ) (g : β → Option γ) : sm (.inr b) f g = g b := rfl
theorem smL {a : α} {f : α → Option γ} {g : β → Option γ} {r : γ} (h : sm (.inl a) f g = some r) : f a = some r := h
theorem smR {b : β} {f : α → Option γ} {g : β → Option γ} {r : γ} (h : sm (.inr b) f g = some r) : g b = some r := h
/-- Code, told by what it leaves; what follows may look at less. -/
theorem AW.flowR {p : List Tm → Option Code → Post} (hc : AW P R cx c (p gh ls) ⟨tm, ob, nt, gh, ls⟩) (k : ∀ e s, p gh ls e s → ∃ s2, Weak cx s s2 ∧ Q e s2) : AW P R cx c Q ⟨tm, ob, nt, gh, ls⟩ := by
  intro σ a w hr
  refine wpIn_mono (hc σ a w hr) ?_
  rintro e a' w' ⟨σ', s, hs, hp⟩
  obtain ⟨s2, hw, hq⟩ := k e s hp
  obtain ⟨σ2, hs2⟩ := hw σ' a' w' hs
  exact ⟨σ2, s2, hs2, hq⟩
theorem AW.flow {p : List Tm → Option Code → Post} (hc : AW P R cx c (p gh ls) ⟨tm, ob, nt, gh, ls⟩) (k : ∀ e s, p gh ls e s → ∃ s2, Weak cx s s2 ∧ Post.seq (AW P R cx c' Q) Q e s2) : AW P R cx (.seq c c') Q ⟨tm, ob, nt, gh, ls⟩ :=
  AW.seq (AW.flowR hc k)
/-- A loop, told by its rounds. -/
theorem AW.iterP {n : Nat} {f : α → Option (α ⊕ β)} {a0 : α} {b : β} (h : iter n f a0 = some b) {mk : List Tm → Option Code → α → St} {N : List Tm → Option Code → β → Post} (h0 : Weak cx ⟨tm, ob, nt, gh, ls⟩ (mk gh ls a0)) (hN : ∀ b s, ¬ N gh ls b .normal s)
    (body : ∀ a o, f a = some o → AW P R cx c (sp (nP (cx := cx) (mk gh ls)) (N gh ls) o) (mk gh ls a)) (k : ∀ e s, N gh ls b e s → ∃ s2, Weak cx s s2 ∧ Q e s2) : AW P R cx (.loop c) Q ⟨tm, ob, nt, gh, ls⟩ := by
  refine AW.flowR (p := fun gh ls => N gh ls b) ?_ k
  refine AW.loop (fun s m => ∃ a, s = mk gh ls a ∧ iter m f a = some b) (n := n) ⟨_, h0, a0, rfl, h⟩ ?_
  rintro s m ⟨a, rfl, hm⟩
  cases m with
  | zero => simp [iter] at hm
  | succ m =>
    rw [iter] at hm
    cases hf : f a with
    | none => rw [hf] at hm; simp at hm
    | some o =>
      rw [hf] at hm
      refine AW.mono (body a o hf) ?_
      intro e s' hs
      cases o with
      | inl a' =>
        obtain ⟨rfl, hw⟩ := hs
        exact ⟨_, m, hw, ⟨a', rfl, hm⟩, Nat.lt_succ_self m⟩
      | inr b' =>
        simp at hm
        subst hm
        have hs' : N gh ls b' e s' := hs
        cases e with
        | normal => exact (hN _ _ hs').elim
        | _ => exact hs'
/-- Code that gave back, inside a range over a function. -/
def tP (mk : α → St) (a : α) : Post := fun e s => e = .ret ∧ Weak cx s (mk a)
theorem Weak.mixB (nb : Nat) (ids : List (Option Nat)) (hn : cx.nb = nb) (hpre : ids.take nb = idr nb) (hnd : (ids.filterMap fun x => x).Nodup) (htm : ∀ e ∈ tm', (lk tm e.1).ren (inv ids) = e.2) (hob : pickOb ids ob = ob') (hgh : gh.map (Tm.ren (inv ids)) = gh') :
    Weak cx ⟨tm, ob, nt, gh, ls⟩ ⟨tm', ob', nt, gh', ls⟩ := by
  subst hob
  subst hgh
  have key : ∀ l : Tm, (∀ e ∈ l, (lk tm e.1).ren (inv ids) = e.2) → ∀ i, lk l i = (lk tm i).ren (inv ids) ∨ lk l i = .l .u := by
    intro l
    induction l with
    | nil => intro _ i; exact .inr rfl
    | cons e l ih =>
      intro h i
      rw [lk_cons]
      split
      · rename_i hi
        subst hi
        exact .inl (h e (by simp)).symm
      · exact ih (fun e' he' => h e' (by simp [he'])) i
  have hlen : nb ≤ ids.length := by
    have := congrArg List.length hpre
    simp [idr] at this
    omega
  refine Weak.ren (st := ⟨tm, ob, nt, gh, ls⟩) ids tm' (nd_of ids hnd) (by omega) (fun i o hi ho => ?_) (key tm' htm)
  rw [hn] at hi
  have h1 : (ids.take nb)[i]? = some (some o) := by rw [List.getElem?_take_of_lt hi]; exact ho
  rw [hpre, idr, List.getElem?_map, List.getElem?_range hi] at h1
  simp at h1
  exact h1.symm
theorem W.nilRow (i ty sz n : Nat) {s' : St} (h : lk tm i = .l (.s (.slice none 0 0))) (hn : ob.length = n) (ho : ob ++ [some ⟨ty, sz, true, none, []⟩] = ob') (k : Weak cx ⟨(i, .l (.r n sz 0 0)) :: tm, ob', nt, gh, ls⟩ s') : Weak cx ⟨tm, ob, nt, gh, ls⟩ s' := by
  subst hn
  subst ho
  exact Weak.trans (Weak.nilRow (st := ⟨tm, ob, nt, gh, ls⟩) i ty sz h) k
theorem Weak.nilD (i sz : Nat) (h : lk tm i = .l (.s (.slice none 0 0))) : Weak cx ⟨tm, ob, nt, gh, ls⟩ ⟨(i, .l (.d false sz [])) :: tm, ob, nt, gh, ls⟩ := by
  intro σ a w hr
  have hv := hr.tm i
  rw [h] at hv
  refine ⟨σ, hr.h, fun j => ?_, hr.nt, hr.gh, hr.dm⟩
  show RelV _ _ _ _ _ (lk ((i, .l (.d false sz [])) :: tm) j)
  rw [lk_cons]
  split
  · rename_i e
    subst e
    have e := hv.1
    show Rd w _ _ _
    rw [e]
    exact .sl none 0 0 sz [] 0 0 (fun _ _ => undef) rfl (Nat.le_refl _) (by omega) (fun e he => by simp at he) (fun h => by omega) (fun _ => rfl) (fun i j hi => by omega) (fun i j e t he => by simp at he)
  · exact hr.tm j
theorem W.nilD (i sz : Nat) {s' : St} (h : lk tm i = .l (.s (.slice none 0 0))) (k : Weak cx ⟨(i, .l (.d false sz [])) :: tm, ob, nt, gh, ls⟩ s') : Weak cx ⟨tm, ob, nt, gh, ls⟩ s' := Weak.trans (Weak.nilD i sz h) k
theorem W.nilCell (o j ty sz n : Nat) {z : Ob} {s' : St} (hz : ob[o]? = some (some z)) (hj : z.cs[j]? = some (.s (.slice none 0 0))) (hrow : z.row = false) (hn : ob.length = n) (ho : ob.set o (some { z with cs := z.cs.set j (.r n sz 0 0) }) ++ [some ⟨ty, sz, true, none, []⟩] = ob') (k : Weak cx ⟨tm, ob', nt, gh, ls⟩ s') : Weak cx ⟨tm, ob, nt, gh, ls⟩ s' := by
  subst hn
  subst ho
  exact Weak.trans (Weak.nilCell (z := z) o j ty sz hz hj hrow) k
theorem W.frzRow (o : Nat) {ty sz : Nat} {cap : Option Nat} {es : List (List T)} {s' : St} (hz : ob[o]? = some (some ⟨ty, sz, true, cap, lvs es⟩)) (h0 : 0 < sz) (hes : ∀ e ∈ es, e.length = sz)
    (hm : es.length ≤ 140737488355328) (h1 : Tm.frz o sz es tm = tm') (h2 : (ob.set o none).map (Option.map (Ob.frz o sz es)) = ob') (h3 : gh.map (Tm.frz o sz es) = gh') (k : Weak cx ⟨tm', ob', nt, gh', ls⟩ s') : Weak cx ⟨tm, ob, nt, gh, ls⟩ s' := by
  subst h1
  subst h2
  subst h3
  exact Weak.trans (Weak.freeze (st := ⟨tm, ob, nt, gh, ls⟩) (o := o) (sz := sz) (z := ⟨ty, sz, true, cap, lvs es⟩) (es := es) (by simp [St.obj, hz]) rfl rfl h0 rfl hes hm) k
end
section
variable {P : Program} {st : St} {t e o n k : Nat} {x : AV} {z : List Value} {ag : Bool} {sz by' : Nat} {acc ys : List (List T)} {d : Option Nat} {K : St → Prop}
/-- Data is pushed to the end of an own row of data; what comes is told as a new object. -/
theorem xapp_pushN {t e n k : Nat} {x : AV} {z : List Value} {ag : Bool} {sz by' o : Nat} {cap : Option Nat} {acc ys : List (List T)} {d : Option Nat} {K : St → Prop} (he : elemF P t = some e) (hti : tiF P e = some ⟨ag, sz, by', z⟩) (hz : st.obj o = some ⟨e, sz, true, cap, lvs acc⟩)
    (hq : st.src sz x = some (k, lvs ys)) (hacc : ∀ e ∈ acc, e.length = sz) (hn : acc.length = n) (h1 : z.length = sz ∧ 0 < sz ∧ 0 < by') (h4 : (n + k) * by' ≤ 140737488355328)
    (hk : K (St.put { st with ob := st.ob.set o none ++ [some ⟨e, sz, true, none, lvs (acc ++ ys)⟩] } d (.l (.r st.ob.length sz 0 (n + k))))) : xapp P t (.l (.r o sz 0 n)) x st d K := by
  subst hn
  refine xapp_new (ti := ⟨ag, sz, by', z⟩) (q := (k, lvs ys)) he hti h1 hq hz ⟨rfl, rfl, rfl, rfl⟩ (by simp [lvs_length hacc]) h4 ?_
  rw [show (⟨e, sz, true, cap, lvs acc⟩ : Ob).cs ++ (k, lvs ys).2 = lvs (acc ++ ys) from (lvs_append _ _).symm]
  exact hk
end
@[simp] theorem lvs_nil : lvs [] = [] := rfl
theorem VwL.own' {st : St} {ids : List Nat} {o i sz lo hi hi' : Nat} (h : inv (ids.map some) o = some i) (e : hi = hi') : VwL st ids (.r o sz lo hi) (.r i sz lo hi') := by
  subst e
  exact .own h
def lenB {α β : Type} (l : List α) (m : List β) : Bool := decide (l.length = m.length)
theorem lenB_d {α β : Type} {l : List α} {m : List β} (h : lenB l m = true) : l.length = m.length := of_decide_eq_true h
theorem lenB_e {α β : Type} {l : List α} {m : List β} (h : lenB l m = true) : m.length = l.length := (lenB_d h).symm
theorem ptrV {st : St} {ids : List Nat} {o i off : Nat} (h : inv (ids.map some) o = some i) : VwL st ids (.p o off) (.p i off) := by
  have := VwL.ren (st := st) (ids := ids) (.p o off)
  simpa [h] using this
@[simp] theorem lvs_frz (o sz : Nat) (fs es : List (List T)) : (lvs es).map (LV.frz o sz fs) = lvs es := by
  unfold lvs
  rw [List.map_flatMap]
  congr 1
  funext e
  rw [List.map_map]
  congr 1
  funext x
  cases x <;> rfl
/-- An operation that yields, among others: the loop's body runs as the n-th operation. -/
theorem xopsY.yield {P : Program} {cxI : Cx} {l nt : Nat} {ps : Array Tmp} {assign body : Code} {ops : Array Oper} {K : St → Prop} (hY : YCx cxI l nt ps assign body) (i n : Nat) {o : Oper} {c0 : Call} {g : Operand} {st : St} {tm1 : Tm} {ob1 : List (Option Ob)} {nt1 : Nat} {tmO : Tm} {gh : List Tm}
    (ho : ops[n]? = some o) (hop : o.op = .call c0) (hc : c0.callee = .value g) (hin : i ≤ n) {s1 : St} (hpre : xops P ops ((ops.toList.drop i).take (n - i)) st (fun s => s = s1)) (hs1 : s1 = ⟨tm1, ob1, nt1, tmO :: gh, none⟩)
    (hgd : match o.guard with | none => True | some (j, want) => yd ops ⟨tm1, ob1, nt1, tmO :: gh, none⟩ j = some (some want)) (hg : St.ev ⟨tm1, ob1, nt1, tmO :: gh, none⟩ g = .l (.s (.func (.yield l) #[] #[])))
    (hlen : c0.args.size = ps.size) {st2 : St} (hst2 : puts (ps.toList.zip (c0.args.toList.map (St.ev ⟨tm1, ob1, nt1, tmO :: gh, none⟩))) ⟨tmO, ob1, nt, tm1 :: tmO :: gh, none⟩ = st2)
    (h : ∀ cxR, cxR.nb = cxI.nb → AW P (some l) cxR assign (asgQ fun s1 => AW P (some l) cxR body (roundQ o.dst nt1 fun s3 => xopsY P none cxI ops (ops.toList.drop (n + 1)) (n + 1) s3 K) { s1 with ls := some .skip }) st2) :
    xopsY P none cxI ops (ops.toList.drop i) i st K := by
  subst hst2
  subst hs1
  have hn : n < ops.size := (Array.getElem?_eq_some_iff.1 ho).1
  have h1 : ops.toList.drop n = o :: ops.toList.drop (n + 1) := by
    have hl : n < ops.toList.length := by simpa using hn
    rw [List.drop_eq_getElem_cons hl]
    congr 1
    have := (Array.getElem?_eq_some_iff.1 ho).2
    simpa using this
  have hsplit : ops.toList.drop i = (ops.toList.drop i).take (n - i) ++ o :: ops.toList.drop (n + 1) := by
    rw [← h1]
    have : ops.toList.drop n = (ops.toList.drop i).drop (n - i) := by rw [List.drop_drop]; congr 1; omega
    rw [this, List.take_append_drop]
  have htl : ((ops.toList.drop i).take (n - i)).length = n - i := by simp; omega
  have key := xopsY_pre (P := P) (R := none) (cx := cxI) (ops := ops) (K := K) (s1 := ⟨tm1, ob1, nt1, tmO :: gh, none⟩) (o :: ops.toList.drop (n + 1)) ((ops.toList.drop i).take (n - i)) i st hsplit hpre (by
    rw [htl, show i + (n - i) = n by omega]
    show OpG P none cxI ops n _ _
    exact OpG.fam ho hgd (OpFam.yield hY hop hc hg rfl rfl hlen fun cxR hR => h cxR hR))
  rw [← hsplit] at key
  exact key
theorem AW.stepYK {P : Program} {R : Option Nat} {cx : Cx} {ops : Array Oper} {Q : Post} {st : St} {id : Nat} {c : Code} (h : xopsY P R cx ops (ops.toList.drop 0) 0 st (KK (AW P R cx c Q))) : AW P R cx (.seq (.region id ops false) c) Q st :=
  AW.stepY (KK (AW P R cx c Q)) h fun s hs => hs
theorem KD.mkN {tm : Tm} {ob : List (Option Ob)} {nt : Nat} {gh : List Tm} {ls : Option Code} : KD none (.l .u) tm ob nt gh ls ⟨tm, ob, nt, gh, ls⟩ := ⟨.l .u, fun _ => rfl, rfl, rfl, rfl, rfl, rfl⟩
theorem xopsY.run {P : Program} {R : Option Nat} {cx : Cx} {ops : Array Oper} {K : St → Prop} {st s1 : St} (i n : Nat) (hin : i ≤ n) (hn : n ≤ ops.size) (hpre : xops P ops ((ops.toList.drop i).take (n - i)) st (fun s => s = s1)) (k : xopsY P R cx ops (ops.toList.drop n) n s1 K) : xopsY P R cx ops (ops.toList.drop i) i st K := by
  have hsplit : ops.toList.drop i = (ops.toList.drop i).take (n - i) ++ ops.toList.drop n := by
    have : ops.toList.drop n = (ops.toList.drop i).drop (n - i) := by rw [List.drop_drop]; congr 1; omega
    rw [this, List.take_append_drop]
  have htl : ((ops.toList.drop i).take (n - i)).length = n - i := by simp; omega
  have key := xopsY_pre (P := P) (R := R) (cx := cx) (ops := ops) (K := K) (s1 := s1) (ops.toList.drop n) ((ops.toList.drop i).take (n - i)) i st hsplit hpre (by
    rw [htl, show i + (n - i) = n by omega]; exact k)
  rw [← hsplit] at key
  exact key
@[simp] theorem nl_eq (a : LV) : NilLe a a = True := eq_true (Or.inl rfl)
@[simp] theorem nl_nil (k : Nat) : NilLe (.s (.slice none 0 0)) (.d false k []) = True := eq_true (Or.inr ⟨rfl, k, rfl⟩)
theorem xrow_own {st : St} {dst : Option Nat} {e sz len : Nat} {cs : List LV} {p : Prop} {K : St → Prop} (k : K ((st.add ⟨e, sz, true, none, cs⟩).put dst (hdr st.ob.length sz len))) : xrow st dst e sz len cs p K := Or.inl ⟨cs, NilLe.refls cs, k⟩
def strL (xs : List Int) : ByteArray := ⟨(xs.map fun x => UInt8.ofNat x.toNat).toArray⟩
theorem lvs1 (e : List T) : lvs [e] = e.map (T.lv false) := by simp [lvs]
theorem set_len {α : Type} {l m : List α} {i : Nat} {x : α} (h : m = l.set i x) : l.length = m.length := by simp [h]
theorem app_len {α : Type} {l m k : List α} (h : k = l ++ m) : l.length + m.length = k.length := by simp [h]
theorem app_len1 {α : Type} {l k : List α} {x : α} (h : k = l ++ [x]) : l.length + 1 = k.length := by simp [h]
/-! ### Rows of elements that are told by a function -/
section
variable {α : Type} {r : α → List T} {n : Nat} {xs ys : List α} {i j k : Nat} {x x' : α} {cs : List LV}
theorem g_sz (hr : ∀ x, (r x).length = n) : ∀ e ∈ xs.map r, e.length = n := by
  intro e he
  obtain ⟨x, _, rfl⟩ := List.mem_map.1 he
  exact hr x
theorem g_get (hx : xs[i]? = some x) : (xs.map r)[i]? = some (r x) := by simp [hx]
theorem g_cell (hr : ∀ x, (r x).length = n) (hx : xs[i]? = some x) (hj : j < n) : (lvs (xs.map r))[i * n + j]? = (lvs [r x])[j]? := lvs_cell (g_sz hr) (g_get hx) hj
theorem g_seg0 (hr : ∀ x, (r x).length = n) (hx : xs[i]? = some x) (hk : k ≤ n) : ((lvs (xs.map r)).drop (i * n)).take k = ((lvs [r x]).drop 0).take k := by
  have := lvs_seg (j := 0) (k := k) (g_sz hr) (g_get (r := r) hx) (by omega)
  simpa using this
theorem g_put (hr : ∀ x, (r x).length = n) (hx : xs[i]? = some x) (hy : ys = xs.set i x') (hj : j + cs.length ≤ n) (he : setAt (lvs [r x]) j cs = lvs [r x']) : setAt (lvs (xs.map r)) (i * n + j) cs = lvs (ys.map r) := by
  rw [lvs_put (g_sz hr) (g_get hx) hj he, hy, List.map_set]
theorem g_put0 (hr : ∀ x, (r x).length = n) (hx : xs[i]? = some x) (hy : ys = xs.set i x') (hj : cs.length ≤ n) (he : setAt (lvs [r x]) 0 cs = lvs [r x']) : setAt (lvs (xs.map r)) (i * n) cs = lvs (ys.map r) := by
  have := g_put (j := 0) hr hx hy (by omega) he
  simpa using this
theorem g_fit (hr : ∀ x, (r x).length = n) (hx : xs[i]? = some x) {m : Nat} (hm : m ≤ n) : i * n + m ≤ (lvs (xs.map r)).length := by
  have h1 := lvs_length (g_sz (xs := xs) hr)
  rw [h1, List.length_map]
  have hi := (List.getElem?_eq_some_iff.1 hx).1
  have h2 : (i + 1) * n ≤ xs.length * n := Nat.mul_le_mul_right _ hi
  rw [Nat.add_mul] at h2
  omega
end
section
variable {α : Type} {l m : List α} {a b : Int}
def segl (l : List α) (a : Int) : Option (List α) := if 0 ≤ a ∧ a ≤ l.length then some (l.drop a.toNat) else none
def segh (l : List α) (b : Int) : Option (List α) := if 0 ≤ b ∧ b ≤ l.length then some (l.take b.toNat) else none
def seglh (l : List α) (a b : Int) : Option (List α) := seg l a b
theorem segl_d (h : segl l a = some m) : 0 ≤ a ∧ a.toNat ≤ l.length ∧ l.drop a.toNat = m ∧ a ≤ (l.length : Int) := by
  unfold segl at h
  split at h
  · simp at h; exact ⟨by omega, by omega, h, by omega⟩
  · simp at h
theorem segh_d (h : segh l b = some m) : 0 ≤ b ∧ b.toNat ≤ l.length ∧ l.take b.toNat = m ∧ b ≤ (l.length : Int) := by
  unfold segh at h
  split at h
  · simp at h; exact ⟨by omega, by omega, h, by omega⟩
  · simp at h
variable {β : Type} {r : α → β}
theorem g_segl (h : segl l a = some m) : 0 ≤ a ∧ a.toNat ≤ l.length ∧ List.take (l.length - a.toNat) (List.drop a.toNat (l.map r)) = m.map r ∧ a ≤ (l.length : Int) := by
  obtain ⟨h1, h2, h3, h4⟩ := segl_d h
  refine ⟨h1, h2, ?_, h4⟩
  rw [← h3, List.map_drop, List.take_of_length_le]
  simp
theorem g_segh (h : segh l b = some m) : 0 ≤ b ∧ b.toNat ≤ l.length ∧ List.take b.toNat (l.map r) = m.map r ∧ b ≤ (l.length : Int) := by
  obtain ⟨h1, h2, h3, h4⟩ := segh_d h
  exact ⟨h1, h2, by rw [← h3, List.map_take], h4⟩
theorem g_seglh (h : seglh l a b = some m) : 0 ≤ a ∧ 0 ≤ b ∧ a.toNat ≤ b.toNat ∧ b.toNat ≤ l.length ∧ List.take (b.toNat - a.toNat) (List.drop a.toNat (l.map r)) = m.map r ∧ a ≤ b ∧ b ≤ (l.length : Int) ∧ max a 0 ≤ b := by
  obtain ⟨h1, h2, h3, h4, h5, h6, h7⟩ := seg_d h
  exact ⟨h1, h2, h3, h4, by rw [← h5, List.map_take, List.map_drop], h6, h7⟩
end
/-! ### make -/
def mkB (n : Int) (b : Nat) : Bool := decide (0 ≤ n ∧ n.toNat * b ≤ 140737488355328 ∧ n ≤ 140737488355328)
section
variable {P : Program} {t e : Nat} {ti : TI} {n : Int} {k k' : IntKind} {st : St} {dst : Option Nat} {K : St → Prop} {α : Type} {enc : List α → List (List T)} {r : α → List T} {z : α} {v : List α}
end
end Go.Proofs.Ythjenkmbbnjcnaa

/- The program's data types: rows of each. -/
namespace Go.Proofs.Ythjenkmbbnjcnaa
open Go Go.RowKit
set_option linter.unusedVariables false
set_option linter.unusedSimpArgs false
def encIu16 (l : List Int) : List (List T) := l.map fun x => [.v (.int .u16 x)]
@[simp] theorem encIu16_length (l : List Int) : (encIu16 l).length = l.length := by simp [encIu16]
@[simp high] theorem encIu16_get (l : List Int) (i : Nat) : (encIu16 l)[i]? = (l[i]?).map fun x => [.v (.int .u16 x)] := by simp [encIu16]
@[simp] theorem encIu16_nil : encIu16 [] = [] := rfl
@[simp] theorem encIu16_eq_nil (l : List Int) : (encIu16 l = []) = (l = []) := by simp [encIu16]
@[simp] theorem encIu16_tk (l : List Int) : (encIu16 l).take l.length = encIu16 l := List.take_of_length_le (by simp)
theorem encIu16_seglh {l m : List Int} {a b : Int} (h : seglh l a b = some m) : 0 ≤ a ∧ 0 ≤ b ∧ a.toNat ≤ b.toNat ∧ b.toNat ≤ l.length ∧ List.take (b.toNat - a.toNat) (List.drop a.toNat (encIu16 l)) = encIu16 m ∧ a ≤ b ∧ b ≤ (l.length : Int) ∧ max a 0 ≤ b := g_seglh h
@[simp] theorem encI_tk (l : List Int) : (encI l).take l.length = encI l := List.take_of_length_le (by simp)
theorem encI_segl {l m : List Int} {a : Int} (h : segl l a = some m) : 0 ≤ a ∧ a.toNat ≤ l.length ∧ List.take (l.length - a.toNat) (List.drop a.toNat (encI l)) = encI m ∧ a ≤ (l.length : Int) := g_segl h
theorem encI_segh {l m : List Int} {b : Int} (h : segh l b = some m) : 0 ≤ b ∧ b.toNat ≤ l.length ∧ List.take b.toNat (encI l) = encI m ∧ b ≤ (l.length : Int) := g_segh h
theorem encClaim_cell {xs : List Claim} {i j : Nat} {x : Claim} (hx : xs[i]? = some x) (hj : j < 4) : (lvs (encClaim xs))[i * 4 + j]? = (lvs [[.v (.int .i64 x.frm), .v (.int .i64 x.to), .v (.int .i64 x.node), .v (.int .i64 x.epoch)]])[j]? := g_cell (r := fun x : Claim => [.v (.int .i64 x.frm), .v (.int .i64 x.to), .v (.int .i64 x.node), .v (.int .i64 x.epoch)]) (fun _ => rfl) hx hj
theorem encClaim_seg0 {xs : List Claim} {i k : Nat} {x : Claim} (hx : xs[i]? = some x) (hk : k ≤ 4) : ((lvs (encClaim xs)).drop (i * 4)).take k = ((lvs [[.v (.int .i64 x.frm), .v (.int .i64 x.to), .v (.int .i64 x.node), .v (.int .i64 x.epoch)]]).drop 0).take k := g_seg0 (r := fun x : Claim => [.v (.int .i64 x.frm), .v (.int .i64 x.to), .v (.int .i64 x.node), .v (.int .i64 x.epoch)]) (fun _ => rfl) hx hk
theorem encClaim_put {xs ys : List Claim} {i j : Nat} {x x' : Claim} {cs : List LV} (hx : xs[i]? = some x) (hy : ys = xs.set i x') (hj : j + cs.length ≤ 4) (he : setAt (lvs [[.v (.int .i64 x.frm), .v (.int .i64 x.to), .v (.int .i64 x.node), .v (.int .i64 x.epoch)]]) j cs = lvs [[.v (.int .i64 x'.frm), .v (.int .i64 x'.to), .v (.int .i64 x'.node), .v (.int .i64 x'.epoch)]]) : setAt (lvs (encClaim xs)) (i * 4 + j) cs = lvs (encClaim ys) := g_put (r := fun x : Claim => [.v (.int .i64 x.frm), .v (.int .i64 x.to), .v (.int .i64 x.node), .v (.int .i64 x.epoch)]) (fun _ => rfl) hx hy hj he
theorem encClaim_fit {xs : List Claim} {i : Nat} {x : Claim} (hx : xs[i]? = some x) {m : Nat} (hm : m ≤ 4) : i * 4 + m ≤ (lvs (encClaim xs)).length := g_fit (r := fun x : Claim => [.v (.int .i64 x.frm), .v (.int .i64 x.to), .v (.int .i64 x.node), .v (.int .i64 x.epoch)]) (fun _ => rfl) hx hm
theorem encClaim_fitj {xs : List Claim} {i j : Nat} {x : Claim} (hx : xs[i]? = some x) {m : Nat} (hm : j + m ≤ 4) : i * 4 + j + m ≤ (lvs (encClaim xs)).length := by rw [Nat.add_assoc]; exact encClaim_fit hx hm
@[simp] theorem encClaim_tk (l : List Claim) : (encClaim l).take l.length = encClaim l := List.take_of_length_le (by simp)
theorem encClaim_segl {l m : List Claim} {a : Int} (h : segl l a = some m) : 0 ≤ a ∧ a.toNat ≤ l.length ∧ List.take (l.length - a.toNat) (List.drop a.toNat (encClaim l)) = encClaim m ∧ a ≤ (l.length : Int) := g_segl h
structure Span where
  frm : Int
  to : Int
deriving DecidableEq, Inhabited
attribute [ext] Span
def encSpan (l : List Span) : List (List T) := l.map fun x => [.v (.int .i64 x.frm), .v (.int .i64 x.to)]
theorem lvs_encSpan1 (x : Span) : lvs (encSpan [x]) = [.s (.int .i64 x.frm), .s (.int .i64 x.to)] := rfl
@[simp] theorem encSpan_length (l : List Span) : (encSpan l).length = l.length := by simp [encSpan]
@[simp high] theorem encSpan_get (l : List Span) (i : Nat) : (encSpan l)[i]? = (l[i]?).map fun x => [.v (.int .i64 x.frm), .v (.int .i64 x.to)] := by simp [encSpan]
@[simp] theorem encSpan_nil : encSpan [] = [] := rfl
theorem encSpan_append (l m : List Span) : encSpan (l ++ m) = encSpan l ++ encSpan m := by simp [encSpan]
theorem encSpan_sz (l : List Span) : ∀ e ∈ encSpan l, e.length = 2 := by
  intro e h
  obtain ⟨x, _, rfl⟩ := List.mem_map.1 h
  rfl
@[simp] theorem encSpan_eq_nil (l : List Span) : (encSpan l = []) = (l = []) := by simp [encSpan]
theorem encSpan_cell {xs : List Span} {i j : Nat} {x : Span} (hx : xs[i]? = some x) (hj : j < 2) : (lvs (encSpan xs))[i * 2 + j]? = (lvs [[.v (.int .i64 x.frm), .v (.int .i64 x.to)]])[j]? := g_cell (r := fun x : Span => [.v (.int .i64 x.frm), .v (.int .i64 x.to)]) (fun _ => rfl) hx hj
theorem encSpan_seg0 {xs : List Span} {i k : Nat} {x : Span} (hx : xs[i]? = some x) (hk : k ≤ 2) : ((lvs (encSpan xs)).drop (i * 2)).take k = ((lvs [[.v (.int .i64 x.frm), .v (.int .i64 x.to)]]).drop 0).take k := g_seg0 (r := fun x : Span => [.v (.int .i64 x.frm), .v (.int .i64 x.to)]) (fun _ => rfl) hx hk
theorem encSpan_put {xs ys : List Span} {i j : Nat} {x x' : Span} {cs : List LV} (hx : xs[i]? = some x) (hy : ys = xs.set i x') (hj : j + cs.length ≤ 2) (he : setAt (lvs [[.v (.int .i64 x.frm), .v (.int .i64 x.to)]]) j cs = lvs [[.v (.int .i64 x'.frm), .v (.int .i64 x'.to)]]) : setAt (lvs (encSpan xs)) (i * 2 + j) cs = lvs (encSpan ys) := g_put (r := fun x : Span => [.v (.int .i64 x.frm), .v (.int .i64 x.to)]) (fun _ => rfl) hx hy hj he
theorem encSpan_put0 {xs ys : List Span} {i : Nat} {x x' : Span} {cs : List LV} (hx : xs[i]? = some x) (hy : ys = xs.set i x') (hj : cs.length ≤ 2) (he : setAt (lvs [[.v (.int .i64 x.frm), .v (.int .i64 x.to)]]) 0 cs = lvs [[.v (.int .i64 x'.frm), .v (.int .i64 x'.to)]]) : setAt (lvs (encSpan xs)) (i * 2) cs = lvs (encSpan ys) := g_put0 (r := fun x : Span => [.v (.int .i64 x.frm), .v (.int .i64 x.to)]) (fun _ => rfl) hx hy hj he
theorem encSpan_fit {xs : List Span} {i : Nat} {x : Span} (hx : xs[i]? = some x) {m : Nat} (hm : m ≤ 2) : i * 2 + m ≤ (lvs (encSpan xs)).length := g_fit (r := fun x : Span => [.v (.int .i64 x.frm), .v (.int .i64 x.to)]) (fun _ => rfl) hx hm
theorem encSpan_fitj {xs : List Span} {i j : Nat} {x : Span} (hx : xs[i]? = some x) {m : Nat} (hm : j + m ≤ 2) : i * 2 + j + m ≤ (lvs (encSpan xs)).length := by rw [Nat.add_assoc]; exact encSpan_fit hx hm
@[simp] theorem encSpan_tk (l : List Span) : (encSpan l).take l.length = encSpan l := List.take_of_length_le (by simp)
@[simp] theorem encS_tk (l : List ByteArray) : (encS l).take l.length = encS l := List.take_of_length_le (by simp)
@[simp] theorem encField_tk (l : List Field) : (encField l).take l.length = encField l := List.take_of_length_le (by simp)
def encLField (l : List (List Field)) : List (List T) := l.map fun x => [.sl 2 (encField x)]
@[simp] theorem encLField_length (l : List (List Field)) : (encLField l).length = l.length := by simp [encLField]
@[simp high] theorem encLField_get (l : List (List Field)) (i : Nat) : (encLField l)[i]? = (l[i]?).map fun x => [.sl 2 (encField x)] := by simp [encLField]
@[simp] theorem encLField_nil : encLField [] = [] := rfl
@[simp] theorem encLField_eq_nil (l : List (List Field)) : (encLField l = []) = (l = []) := by simp [encLField]
@[simp] theorem encLField_tk (l : List (List Field)) : (encLField l).take l.length = encLField l := List.take_of_length_le (by simp)
def encLS (l : List (List ByteArray)) : List (List T) := l.map fun x => [.sl 1 (encS x)]
@[simp] theorem encLS_length (l : List (List ByteArray)) : (encLS l).length = l.length := by simp [encLS]
@[simp high] theorem encLS_get (l : List (List ByteArray)) (i : Nat) : (encLS l)[i]? = (l[i]?).map fun x => [.sl 1 (encS x)] := by simp [encLS]
@[simp] theorem encLS_nil : encLS [] = [] := rfl
@[simp] theorem encLS_eq_nil (l : List (List ByteArray)) : (encLS l = []) = (l = []) := by simp [encLS]
@[simp] theorem encLS_tk (l : List (List ByteArray)) : (encLS l).take l.length = encLS l := List.take_of_length_le (by simp)
@[simp] theorem encItem_tk (l : List Item) : (encItem l).take l.length = encItem l := List.take_of_length_le (by simp)
@[simp] theorem encPair_tk (l : List Pair) : (encPair l).take l.length = encPair l := List.take_of_length_le (by simp)
structure Move where
  slot : Int
  to : Int
  num : Int
  key : ByteArray
deriving DecidableEq, Inhabited
attribute [ext] Move
def encMove (l : List Move) : List (List T) := l.map fun x => [.v (.int .i64 x.slot), .v (.int .i64 x.to), .v (.int .i64 x.num), .v (.string x.key)]
@[simp] theorem encMove_length (l : List Move) : (encMove l).length = l.length := by simp [encMove]
@[simp high] theorem encMove_get (l : List Move) (i : Nat) : (encMove l)[i]? = (l[i]?).map fun x => [.v (.int .i64 x.slot), .v (.int .i64 x.to), .v (.int .i64 x.num), .v (.string x.key)] := by simp [encMove]
@[simp] theorem encMove_nil : encMove [] = [] := rfl
@[simp] theorem encMove_eq_nil (l : List Move) : (encMove l = []) = (l = []) := by simp [encMove]
@[simp] theorem encMove_tk (l : List Move) : (encMove l).take l.length = encMove l := List.take_of_length_le (by simp)
structure Seen where
  node : Int
  slot : Int
  num : Int
deriving DecidableEq, Inhabited
attribute [ext] Seen
def encSeen (l : List Seen) : List (List T) := l.map fun x => [.v (.int .i64 x.node), .v (.int .i64 x.slot), .v (.int .i64 x.num)]
@[simp] theorem encSeen_length (l : List Seen) : (encSeen l).length = l.length := by simp [encSeen]
@[simp high] theorem encSeen_get (l : List Seen) (i : Nat) : (encSeen l)[i]? = (l[i]?).map fun x => [.v (.int .i64 x.node), .v (.int .i64 x.slot), .v (.int .i64 x.num)] := by simp [encSeen]
@[simp] theorem encSeen_nil : encSeen [] = [] := rfl
@[simp] theorem encSeen_eq_nil (l : List Seen) : (encSeen l = []) = (l = []) := by simp [encSeen]
@[simp] theorem encSeen_tk (l : List Seen) : (encSeen l).take l.length = encSeen l := List.take_of_length_le (by simp)
@[simp] theorem encRid_tk (l : List Rid) : (encRid l).take l.length = encRid l := List.take_of_length_le (by simp)
@[simp] theorem encB_tk (l : List Bool) : (encB l).take l.length = encB l := List.take_of_length_le (by simp)
@[simp] theorem encEffect_tk (l : List Effect) : (encEffect l).take l.length = encEffect l := List.take_of_length_le (by simp)
def encLEffect (l : List (List Effect)) : List (List T) := l.map fun x => [.sl 7 (encEffect x)]
@[simp] theorem encLEffect_length (l : List (List Effect)) : (encLEffect l).length = l.length := by simp [encLEffect]
@[simp high] theorem encLEffect_get (l : List (List Effect)) (i : Nat) : (encLEffect l)[i]? = (l[i]?).map fun x => [.sl 7 (encEffect x)] := by simp [encLEffect]
@[simp] theorem encLEffect_nil : encLEffect [] = [] := rfl
@[simp] theorem encLEffect_eq_nil (l : List (List Effect)) : (encLEffect l = []) = (l = []) := by simp [encLEffect]
@[simp] theorem encLEffect_tk (l : List (List Effect)) : (encLEffect l).take l.length = encLEffect l := List.take_of_length_le (by simp)
@[simp] theorem encFeed_tk (l : List Feed) : (encFeed l).take l.length = encFeed l := List.take_of_length_le (by simp)
def encLI (l : List (List Int)) : List (List T) := l.map fun x => [.sl 1 (encI x)]
@[simp] theorem encLI_length (l : List (List Int)) : (encLI l).length = l.length := by simp [encLI]
@[simp high] theorem encLI_get (l : List (List Int)) (i : Nat) : (encLI l)[i]? = (l[i]?).map fun x => [.sl 1 (encI x)] := by simp [encLI]
@[simp] theorem encLI_nil : encLI [] = [] := rfl
@[simp] theorem encLI_eq_nil (l : List (List Int)) : (encLI l = []) = (l = []) := by simp [encLI]
@[simp] theorem encLI_tk (l : List (List Int)) : (encLI l).take l.length = encLI l := List.take_of_length_le (by simp)
def encLLI (l : List (List (List Int))) : List (List T) := l.map fun x => [.sl 1 (encLI x)]
@[simp] theorem encLLI_length (l : List (List (List Int))) : (encLLI l).length = l.length := by simp [encLLI]
@[simp high] theorem encLLI_get (l : List (List (List Int))) (i : Nat) : (encLLI l)[i]? = (l[i]?).map fun x => [.sl 1 (encLI x)] := by simp [encLLI]
@[simp] theorem encLLI_nil : encLLI [] = [] := rfl
@[simp] theorem encLLI_eq_nil (l : List (List (List Int))) : (encLLI l = []) = (l = []) := by simp [encLLI]
@[simp] theorem encLLI_tk (l : List (List (List Int))) : (encLLI l).take l.length = encLLI l := List.take_of_length_le (by simp)
structure Watch where
  heard : List Int
  says : List (List Int)
deriving DecidableEq, Inhabited
attribute [ext] Watch
def encWatch (l : List Watch) : List (List T) := l.map fun x => [.sl 1 (encI x.heard), .sl 1 (encLI x.says)]
@[simp] theorem encWatch_length (l : List Watch) : (encWatch l).length = l.length := by simp [encWatch]
@[simp high] theorem encWatch_get (l : List Watch) (i : Nat) : (encWatch l)[i]? = (l[i]?).map fun x => [.sl 1 (encI x.heard), .sl 1 (encLI x.says)] := by simp [encWatch]
@[simp] theorem encWatch_nil : encWatch [] = [] := rfl
@[simp] theorem encWatch_eq_nil (l : List Watch) : (encWatch l = []) = (l = []) := by simp [encWatch]
@[simp] theorem encWatch_tk (l : List Watch) : (encWatch l).take l.length = encWatch l := List.take_of_length_le (by simp)
def encLClaim (l : List (List Claim)) : List (List T) := l.map fun x => [.sl 4 (encClaim x)]
@[simp] theorem encLClaim_length (l : List (List Claim)) : (encLClaim l).length = l.length := by simp [encLClaim]
@[simp high] theorem encLClaim_get (l : List (List Claim)) (i : Nat) : (encLClaim l)[i]? = (l[i]?).map fun x => [.sl 4 (encClaim x)] := by simp [encLClaim]
@[simp] theorem encLClaim_nil : encLClaim [] = [] := rfl
@[simp] theorem encLClaim_eq_nil (l : List (List Claim)) : (encLClaim l = []) = (l = []) := by simp [encLClaim]
@[simp] theorem encLClaim_tk (l : List (List Claim)) : (encLClaim l).take l.length = encLClaim l := List.take_of_length_le (by simp)
def encLPair (l : List (List Pair)) : List (List T) := l.map fun x => [.sl 6 (encPair x)]
@[simp] theorem encLPair_length (l : List (List Pair)) : (encLPair l).length = l.length := by simp [encLPair]
@[simp high] theorem encLPair_get (l : List (List Pair)) (i : Nat) : (encLPair l)[i]? = (l[i]?).map fun x => [.sl 6 (encPair x)] := by simp [encLPair]
@[simp] theorem encLPair_nil : encLPair [] = [] := rfl
@[simp] theorem encLPair_eq_nil (l : List (List Pair)) : (encLPair l = []) = (l = []) := by simp [encLPair]
@[simp] theorem encLPair_tk (l : List (List Pair)) : (encLPair l).take l.length = encLPair l := List.take_of_length_le (by simp)
def encLMove (l : List (List Move)) : List (List T) := l.map fun x => [.sl 4 (encMove x)]
@[simp] theorem encLMove_length (l : List (List Move)) : (encLMove l).length = l.length := by simp [encLMove]
@[simp high] theorem encLMove_get (l : List (List Move)) (i : Nat) : (encLMove l)[i]? = (l[i]?).map fun x => [.sl 4 (encMove x)] := by simp [encLMove]
@[simp] theorem encLMove_nil : encLMove [] = [] := rfl
@[simp] theorem encLMove_eq_nil (l : List (List Move)) : (encLMove l = []) = (l = []) := by simp [encLMove]
@[simp] theorem encLMove_tk (l : List (List Move)) : (encLMove l).take l.length = encLMove l := List.take_of_length_le (by simp)
def encLSeen (l : List (List Seen)) : List (List T) := l.map fun x => [.sl 3 (encSeen x)]
@[simp] theorem encLSeen_length (l : List (List Seen)) : (encLSeen l).length = l.length := by simp [encLSeen]
@[simp high] theorem encLSeen_get (l : List (List Seen)) (i : Nat) : (encLSeen l)[i]? = (l[i]?).map fun x => [.sl 3 (encSeen x)] := by simp [encLSeen]
@[simp] theorem encLSeen_nil : encLSeen [] = [] := rfl
@[simp] theorem encLSeen_eq_nil (l : List (List Seen)) : (encLSeen l = []) = (l = []) := by simp [encLSeen]
@[simp] theorem encLSeen_tk (l : List (List Seen)) : (encLSeen l).take l.length = encLSeen l := List.take_of_length_le (by simp)
structure Node where
  count : Int
  id : Int
  master : Int
  epoch : Int
  voted : Int
  claims : List Claim
  db : List Pair
  moves : List Move
  last : Int
  seen : List Seen
  feed : Feed
  watch : Watch
  asked : Int
  votes : List Int
  wait : Int
deriving DecidableEq, Inhabited
attribute [ext] Node
def encNode (l : List Node) : List (List T) := l.map fun x => [.v (.int .i64 x.count), .v (.int .i64 x.id), .v (.int .i64 x.master), .v (.int .i64 x.epoch), .v (.int .i64 x.voted), .sl 4 (encClaim x.claims), .sl 6 (encPair x.db), .sl 4 (encMove x.moves), .v (.int .i64 x.last), .sl 3 (encSeen x.seen), .v (.int .i64 x.feed.rid.node), .v (.int .i64 x.feed.rid.epoch), .v (.int .i64 x.feed.off), .sl 7 (encEffect x.feed.back), .v (.int .i64 x.feed.prev.node), .v (.int .i64 x.feed.prev.epoch), .v (.int .i64 x.feed.upto), .sl 1 (encI x.watch.heard), .sl 1 (encLI x.watch.says), .v (.int .i64 x.asked), .sl 1 (encI x.votes), .v (.int .i64 x.wait)]
@[simp] theorem encNode_length (l : List Node) : (encNode l).length = l.length := by simp [encNode]
@[simp high] theorem encNode_get (l : List Node) (i : Nat) : (encNode l)[i]? = (l[i]?).map fun x => [.v (.int .i64 x.count), .v (.int .i64 x.id), .v (.int .i64 x.master), .v (.int .i64 x.epoch), .v (.int .i64 x.voted), .sl 4 (encClaim x.claims), .sl 6 (encPair x.db), .sl 4 (encMove x.moves), .v (.int .i64 x.last), .sl 3 (encSeen x.seen), .v (.int .i64 x.feed.rid.node), .v (.int .i64 x.feed.rid.epoch), .v (.int .i64 x.feed.off), .sl 7 (encEffect x.feed.back), .v (.int .i64 x.feed.prev.node), .v (.int .i64 x.feed.prev.epoch), .v (.int .i64 x.feed.upto), .sl 1 (encI x.watch.heard), .sl 1 (encLI x.watch.says), .v (.int .i64 x.asked), .sl 1 (encI x.votes), .v (.int .i64 x.wait)] := by simp [encNode]
@[simp] theorem encNode_nil : encNode [] = [] := rfl
@[simp] theorem encNode_eq_nil (l : List Node) : (encNode l = []) = (l = []) := by simp [encNode]
@[simp] theorem encNode_tk (l : List Node) : (encNode l).take l.length = encNode l := List.take_of_length_le (by simp)
structure ApiStep where
  slot : Int
  frm : Int
  to : Int
deriving DecidableEq, Inhabited
attribute [ext] ApiStep
def encApiStep (l : List ApiStep) : List (List T) := l.map fun x => [.v (.int .i64 x.slot), .v (.int .i64 x.frm), .v (.int .i64 x.to)]
@[simp] theorem encApiStep_length (l : List ApiStep) : (encApiStep l).length = l.length := by simp [encApiStep]
@[simp high] theorem encApiStep_get (l : List ApiStep) (i : Nat) : (encApiStep l)[i]? = (l[i]?).map fun x => [.v (.int .i64 x.slot), .v (.int .i64 x.frm), .v (.int .i64 x.to)] := by simp [encApiStep]
@[simp] theorem encApiStep_nil : encApiStep [] = [] := rfl
@[simp] theorem encApiStep_eq_nil (l : List ApiStep) : (encApiStep l = []) = (l = []) := by simp [encApiStep]
@[simp] theorem encApiStep_tk (l : List ApiStep) : (encApiStep l).take l.length = encApiStep l := List.take_of_length_le (by simp)
@[simp] theorem encU_tk (l : List Int) : (encU l).take l.length = encU l := List.take_of_length_le (by simp)
structure ClaimsPiece where
  a : Claim
  b : Claim
deriving DecidableEq, Inhabited
attribute [ext] ClaimsPiece
def encClaimsPiece (l : List ClaimsPiece) : List (List T) := l.map fun x => [.v (.int .i64 x.a.frm), .v (.int .i64 x.a.to), .v (.int .i64 x.a.node), .v (.int .i64 x.a.epoch), .v (.int .i64 x.b.frm), .v (.int .i64 x.b.to), .v (.int .i64 x.b.node), .v (.int .i64 x.b.epoch)]
@[simp] theorem encClaimsPiece_length (l : List ClaimsPiece) : (encClaimsPiece l).length = l.length := by simp [encClaimsPiece]
@[simp high] theorem encClaimsPiece_get (l : List ClaimsPiece) (i : Nat) : (encClaimsPiece l)[i]? = (l[i]?).map fun x => [.v (.int .i64 x.a.frm), .v (.int .i64 x.a.to), .v (.int .i64 x.a.node), .v (.int .i64 x.a.epoch), .v (.int .i64 x.b.frm), .v (.int .i64 x.b.to), .v (.int .i64 x.b.node), .v (.int .i64 x.b.epoch)] := by simp [encClaimsPiece]
@[simp] theorem encClaimsPiece_nil : encClaimsPiece [] = [] := rfl
@[simp] theorem encClaimsPiece_eq_nil (l : List ClaimsPiece) : (encClaimsPiece l = []) = (l = []) := by simp [encClaimsPiece]
@[simp] theorem encClaimsPiece_tk (l : List ClaimsPiece) : (encClaimsPiece l).take l.length = encClaimsPiece l := List.take_of_length_le (by simp)
@[simp] theorem encMsg_tk (l : List Msg) : (encMsg l).take l.length = encMsg l := List.take_of_length_le (by simp)
def encLSpan (l : List (List Span)) : List (List T) := l.map fun x => [.sl 2 (encSpan x)]
@[simp] theorem encLSpan_length (l : List (List Span)) : (encLSpan l).length = l.length := by simp [encLSpan]
@[simp high] theorem encLSpan_get (l : List (List Span)) (i : Nat) : (encLSpan l)[i]? = (l[i]?).map fun x => [.sl 2 (encSpan x)] := by simp [encLSpan]
@[simp] theorem encLSpan_nil : encLSpan [] = [] := rfl
@[simp] theorem encLSpan_eq_nil (l : List (List Span)) : (encLSpan l = []) = (l = []) := by simp [encLSpan]
@[simp] theorem encLSpan_tk (l : List (List Span)) : (encLSpan l).take l.length = encLSpan l := List.take_of_length_le (by simp)
structure BalanceShare where
  node : Int
  own : List Span
  n : Int
deriving DecidableEq, Inhabited
attribute [ext] BalanceShare
def encBalanceShare (l : List BalanceShare) : List (List T) := l.map fun x => [.v (.int .i64 x.node), .sl 2 (encSpan x.own), .v (.int .i64 x.n)]
@[simp] theorem encBalanceShare_length (l : List BalanceShare) : (encBalanceShare l).length = l.length := by simp [encBalanceShare]
@[simp high] theorem encBalanceShare_get (l : List BalanceShare) (i : Nat) : (encBalanceShare l)[i]? = (l[i]?).map fun x => [.v (.int .i64 x.node), .sl 2 (encSpan x.own), .v (.int .i64 x.n)] := by simp [encBalanceShare]
@[simp] theorem encBalanceShare_nil : encBalanceShare [] = [] := rfl
@[simp] theorem encBalanceShare_eq_nil (l : List BalanceShare) : (encBalanceShare l = []) = (l = []) := by simp [encBalanceShare]
@[simp] theorem encBalanceShare_tk (l : List BalanceShare) : (encBalanceShare l).take l.length = encBalanceShare l := List.take_of_length_le (by simp)
end Go.Proofs.Ythjenkmbbnjcnaa

/- Walks: Go's slices functions. -/
namespace Go.Proofs.Ythjenkmbbnjcnaa
open Go Go.RowKit
set_option linter.unusedVariables false
set_option linter.unusedSimpArgs false
def small {α : Type} (c : Nat) (l : List α) : Bool := decide (l.length * c ≤ 140737488355328 ∧ l.length ≤ 140737488355328)
def insL {α : Type} (l : List α) (i : Nat) (x : α) : List α := l.take i ++ x :: l.drop i
def delL {α : Type} (l : List α) (i : Nat) : List α := l.take i ++ l.drop (i + 1)
def insB {α : Type} (l : List α) (i : Int) : Bool := decide (0 ≤ i ∧ i ≤ l.length ∧ l.length ≤ 1000000000)
def delB {α : Type} (l : List α) (i j : Int) : Bool := decide (0 ≤ i ∧ i < l.length ∧ j = i + 1 ∧ l.length ≤ 1000000000)
def flatL {α : Type} (ss : List (List α)) (i : Nat) : List α := (ss.take i).flatten
def catB {α : Type} (ss : List (List α)) : Bool := decide (ss.flatten.length ≤ 1000000000 ∧ ss.length ≤ 1000000000)
def zero_Span : List Value := [.int .i64 0, .int .i64 0]
end Go.Proofs.Ythjenkmbbnjcnaa

/- Operations, told by shallow code: what simp makes of them. -/
namespace Go.Proofs.Ythjenkmbbnjcnaa
open Go Go.RowKit
set_option linter.unusedVariables false
set_option linter.unusedSimpArgs false
/-! ### Operations, told by such code -/
section
variable {P : Program} {d : Option Nat} {t : Nat} {st : St} {K : St → Prop} {k : IntKind} {a b : Int} {x y : ByteArray} {p q : Bool}
@[simp high] theorem xs_add : xeq P .add t (.l (.s (.int k a))) (.l (.s (.int k b))) st d K = K (st.put d (.l (.s (.int k (addI k a b))))) := by simp [xeq, bopP, bop, addI]
@[simp high] theorem xs_sub : xeq P .sub t (.l (.s (.int k a))) (.l (.s (.int k b))) st d K = K (st.put d (.l (.s (.int k (subI k a b))))) := by simp [xeq, bopP, bop, subI]
@[simp high] theorem xs_mul : xeq P .mul t (.l (.s (.int k a))) (.l (.s (.int k b))) st d K = K (st.put d (.l (.s (.int k (mulI k a b))))) := by simp [xeq, bopP, bop, mulI]
@[simp high] theorem xs_and : xeq P .and t (.l (.s (.int k a))) (.l (.s (.int k b))) st d K = K (st.put d (.l (.s (.int k (andI k a b))))) := by simp [xeq, bopP, bop, andI]
@[simp high] theorem xs_or : xeq P .or t (.l (.s (.int k a))) (.l (.s (.int k b))) st d K = K (st.put d (.l (.s (.int k (orI k a b))))) := by simp [xeq, bopP, bop, orI]
@[simp high] theorem xs_xor : xeq P .xor t (.l (.s (.int k a))) (.l (.s (.int k b))) st d K = K (st.put d (.l (.s (.int k (xorI k a b))))) := by simp [xeq, bopP, bop, xorI]
@[simp high] theorem xs_quo : xeq P .quo t (.l (.s (.int k a))) (.l (.s (.int k b))) st d K = wh (quoI k a b) fun c => K (st.put d (.l (.s (.int k c)))) := by
  unfold quoI; split <;> simp_all [xeq, bopP, bop]
@[simp high] theorem xs_rem : xeq P .rem t (.l (.s (.int k a))) (.l (.s (.int k b))) st d K = wh (remI k a b) fun c => K (st.put d (.l (.s (.int k c)))) := by
  unfold remI; split <;> simp_all [xeq, bopP, bop]
@[simp high] theorem xs_shl {k' : IntKind} : xeq P .shl t (.l (.s (.int k a))) (.l (.s (.int k' b))) st d K = wh (shlI k a b) fun c => K (st.put d (.l (.s (.int k c)))) := by
  unfold shlI; simp only [xeq, bopP, bop]; split <;> rfl
@[simp high] theorem xs_shr {k' : IntKind} : xeq P .shr t (.l (.s (.int k a))) (.l (.s (.int k' b))) st d K = wh (shrI k a b) fun c => K (st.put d (.l (.s (.int k c)))) := by
  unfold shrI; simp only [xeq, bopP, bop]; split <;> rfl
@[simp high] theorem xs_eql : xeq P .eql t (.l (.s (.int k a))) (.l (.s (.int k b))) st d K = K (st.put d (.l (.s (.bool (eqI a b))))) := by simp [xeq, bopP, bop, eqI]
@[simp high] theorem xs_neq : xeq P .neq t (.l (.s (.int k a))) (.l (.s (.int k b))) st d K = K (st.put d (.l (.s (.bool (neI a b))))) := by simp [xeq, bopP, bop, neI]
@[simp high] theorem xs_lss : xeq P .lss t (.l (.s (.int k a))) (.l (.s (.int k b))) st d K = K (st.put d (.l (.s (.bool (ltI a b))))) := by simp [xeq, bopP, bop, ltI]
@[simp high] theorem xs_leq : xeq P .leq t (.l (.s (.int k a))) (.l (.s (.int k b))) st d K = K (st.put d (.l (.s (.bool (leI a b))))) := by simp [xeq, bopP, bop, leI]
@[simp high] theorem xs_gtr : xeq P .gtr t (.l (.s (.int k a))) (.l (.s (.int k b))) st d K = K (st.put d (.l (.s (.bool (gtI a b))))) := by simp [xeq, bopP, bop, gtI]
@[simp high] theorem xs_geq : xeq P .geq t (.l (.s (.int k a))) (.l (.s (.int k b))) st d K = K (st.put d (.l (.s (.bool (geI a b))))) := by simp [xeq, bopP, bop, geI]
@[simp high] theorem xs_eqlS : xeq P .eql t (.l (.s (.string x))) (.l (.s (.string y))) st d K = K (st.put d (.l (.s (.bool (eqS x y))))) := by simp [xeq, bopP, bop, eqS]
@[simp high] theorem xs_neqS : xeq P .neq t (.l (.s (.string x))) (.l (.s (.string y))) st d K = K (st.put d (.l (.s (.bool (neS x y))))) := by simp [xeq, bopP, bop, neS]
@[simp high] theorem xs_lssS : xeq P .lss t (.l (.s (.string x))) (.l (.s (.string y))) st d K = K (st.put d (.l (.s (.bool (ltS x y))))) := by simp [xeq, bopP, bop, ltS]
@[simp high] theorem xs_leqS : xeq P .leq t (.l (.s (.string x))) (.l (.s (.string y))) st d K = K (st.put d (.l (.s (.bool (leS x y))))) := by simp [xeq, bopP, bop, leS]
@[simp high] theorem xs_gtrS : xeq P .gtr t (.l (.s (.string x))) (.l (.s (.string y))) st d K = K (st.put d (.l (.s (.bool (gtS x y))))) := by simp [xeq, bopP, bop, gtS]
@[simp high] theorem xs_geqS : xeq P .geq t (.l (.s (.string x))) (.l (.s (.string y))) st d K = K (st.put d (.l (.s (.bool (geS x y))))) := by simp [xeq, bopP, bop, geS]
@[simp high] theorem xs_cat : xeq P .add t (.l (.s (.string x))) (.l (.s (.string y))) st d K = wh (catS x y) fun c => K (st.put d (.l (.s (.string c)))) := by
  unfold catS; simp only [xeq, bopP, bop]; split <;> rfl
@[simp high] theorem xs_eqlB : xeq P .eql t (.l (.s (.bool p))) (.l (.s (.bool q))) st d K = (sk P t = some 2 ∧ K (st.put d (.l (.s (.bool (eqB p q)))))) := by
  simp only [xeq, bopP, eqB]; split <;> simp_all
@[simp high] theorem xs_neqB : xeq P .neq t (.l (.s (.bool p))) (.l (.s (.bool q))) st d K = (sk P t = some 2 ∧ K (st.put d (.l (.s (.bool (neB p q)))))) := by
  simp only [xeq, bopP, neB]; split <;> simp_all
@[simp high] theorem xs_eqlG (xs ys : List LV) : xeq P .eql t (.g xs) (.g ys) st d K = wh (seqF P t) fun ks => wh (veqs ks xs ys) fun b => K (st.put d (.l (.s (.bool b)))) := by rw [xeq_g']; simp
@[simp high] theorem xs_neqG (xs ys : List LV) : xeq P .neq t (.g xs) (.g ys) st d K = wh (seqF P t) fun ks => wh (veqs ks xs ys) fun b => K (st.put d (.l (.s (.bool (notB b))))) := by rw [xeq_g']; simp [notB]
def andO : Option Bool → Option Bool → Option Bool
  | some b, some c => some (andB b c)
  | _, _ => none
@[simp high] theorem veqs_0 {ks : List Nat} {xs ys : List LV} {k k' : IntKind} : veqs (0 :: ks) (.s (.int k a) :: xs) (.s (.int k' b) :: ys) = if k = k' then andO (some (eqI a b)) (veqs ks xs ys) else none := by
  simp only [veqs, veq, eqI]
  by_cases h : k = k'
  · simp only [h, if_true]; cases veqs ks xs ys <;> rfl
  · simp [h]
@[simp high] theorem veqs_1 {ks : List Nat} {xs ys : List LV} : veqs (1 :: ks) (.s (.string x) :: xs) (.s (.string y) :: ys) = andO (some (eqS x y)) (veqs ks xs ys) := by
  simp only [veqs, veq, eqS]; cases veqs ks xs ys <;> rfl
@[simp high] theorem veqs_2 {ks : List Nat} {xs ys : List LV} : veqs (2 :: ks) (.s (.bool p) :: xs) (.s (.bool q) :: ys) = andO (some (eqB p q)) (veqs ks xs ys) := by
  simp only [veqs, veq, eqB]; cases veqs ks xs ys <;> rfl
@[simp] theorem veqs_n : veqs [] [] [] = some true := rfl
@[simp] theorem andO_s (b c : Bool) : andO (some b) (some c) = some (andB b c) := rfl
@[simp high] theorem xs_not {ty : TypeId} {pos : String} {af : Array Edge} {g : Option (Nat × Bool)} {x' : Operand} : xo P ⟨d, .unOp .not t x', ty, pos, af, g⟩ st K = wb (st.ev x') fun b => K (st.put d (.l (.s (.bool (notB b))))) := by
  rw [xo_unOp]
  generalize st.ev x' = v
  cases v with
  | l y =>
    cases y with
    | s z => cases z <;> first | rfl | (simp [ws, wb, uop])
    | _ => rfl
  | _ => rfl
def wik (v : AV) (k : IntKind → Int → Prop) : Prop :=
  match v with
  | .l (.s (.int kd n)) => k kd n
  | _ => False
@[congr] theorem wik_congr {x y : AV} {k : IntKind → Int → Prop} (h : x = y) : wik x k = wik y k := by rw [h]
@[simp] theorem wik_i (kd : IntKind) (n : Int) (k : IntKind → Int → Prop) : wik (.l (.s (.int kd n))) k = k kd n := nr rfl
@[simp high] theorem xs_neg {ty : TypeId} {pos : String} {af : Array Edge} {g : Option (Nat × Bool)} {x' : Operand} : xo P ⟨d, .unOp .neg t x', ty, pos, af, g⟩ st K = wik (st.ev x') fun k b => K (st.put d (.l (.s (.int k (negI k b))))) := by
  rw [xo_unOp]
  generalize st.ev x' = v
  cases v with
  | l y =>
    cases y with
    | s z => cases z <;> first | rfl | (simp [ws, wik, uop])
    | _ => rfl
  | _ => rfl
@[simp high] theorem xs_conv (s t : Nat) : xconv P s t (.l (.s (.int k a))) st d K = ((P.underlying s).isSome = true ∧ wh (intF P t) fun k => K (st.put d (.l (.s (.int k (cvI k a)))))) := nr rfl
@[simp high] theorem xs_max : xmm max (.l (.s (.int k a))) (.l (.s (.int k b))) st d K = K (st.put d (.l (.s (.int k (maxI a b))))) := by simp [xmm, maxI]
@[simp high] theorem xs_min : xmm min (.l (.s (.int k a))) (.l (.s (.int k b))) st d K = K (st.put d (.l (.s (.int k (minI a b))))) := by simp [xmm, minI]
end
section
variable {P : Program} {d : Option Nat} {t : Nat} {st : St} {K : St → Prop} {x : ByteArray} {ob sz lo hi : Nat} {al : Bool}
@[simp high] theorem xs_lenS : xlen P t (.l (.s (.string x))) st d K = (strF P t = true ∧ K (st.put d (.l (.s (.int .i64 (lenS x)))))) := nr rfl
end

/-- Where a byte stands in a text (-1: nowhere). -/
def idxB (a : ByteArray) (c : Int) : Int := Lib.indexByte a.data.toList c.toNat.toUInt8
def bytesI (s : ByteArray) : List Int := s.data.toList.map fun b => (b.toNat : Int)
@[simp] theorem bytesT_eq (s : ByteArray) : bytesT s = encU (bytesI s) := by simp [bytesT, encU, bytesI, Function.comp_def]
end Go.Proofs.Ythjenkmbbnjcnaa

/- Walks, printed: r1_Mark, r1_marks, r1_Has, r1_Mix, r1_Norm, r13_marks, r13_Of, r13_more, r13_more_xf, r13_Give, r13_Join, r13_SameClaims -/
namespace Go.Proofs.Ythjenkmbbnjcnaa
open Go Go.RowKit
set_option linter.unusedVariables false
set_option linter.unusedSimpArgs false
def r1_Mark_sh (n : Nat) (a0 : List Int) (a1 : Int) : Option (List Int) :=
lt (lenI a0) fun v1 =>
bn (iter n (fun (y2 : Int) =>
bn (lt (gtI y2 0) fun v6 =>
ite' v6 (lt (subI .i64 y2 1) fun v7 =>
bn (nth a0 v7) fun v8 =>
lt (geI v8 a1) fun v9 =>
some (v9)) (some (false))) fun (y5 : Bool) =>
lt (y5) fun v10 =>
ite' v10 (lt (subI .i64 y2 1) fun v11 =>
some (.inl v11)) (some (.inr y2))) v1) fun (y3 : Int) =>
bn (lt (ltI a1 0) fun v13 =>
ite' v13 (some (true)) (lt (gtI a1 16384) fun v14 =>
ite' v14 (some (true)) (lt (lenI a0) fun v15 =>
lt (ltI y3 v15) fun v16 =>
ite' v16 (bn (nth a0 y3) fun v17 =>
lt (eqI v17 a1) fun v18 =>
some (v18)) (some (false))))) fun (y12 : Bool) =>
lt (y12) fun v19 =>
ite' v19 (some a0) (bn (segh a0 y3) fun v20 =>
chk (room v20.length 8) <|
chk (room (v20.length + 1) 8) <|
lt (v20 ++ [a1]) fun v24 =>
bn (segl a0 y3) fun v25 =>
chk (room (v24.length + v25.length) 8) <|
lt (v24 ++ v25) fun v28 =>
chk (room v28.length 1) <|
some v28)
set_option maxRecDepth 8000 in
set_option maxHeartbeats 8000000 in
theorem s_r1_Mark {n : Nat} {a0 : List Int} {a1 : Int} {r : List Int} (h : r1_Mark_sh n a0 a1 = some r) : Sound Try.prog 56 [.l (.d false 1 (encI a0)), .l (.s (.int .i64 a1))] [] (.l (.d false 1 (encI r))) [] := by
 unfold r1_Mark_sh at h
 refine Sound.of_aw (fn := Try.f56) (c := _) Try.func56 rfl (by simp [Try.f56]) fun cx hG hnb => ?_
 rw [show Try.f56.ntmps = 57 from rfl]
 have hn0 : cx.nb = 0 := hnb
 simp only [st0_mk, initTm, List.map_cons, List.map_nil]
 apply AW.step
 ·simp
  intros; rfl
 replace h := ltE h; obtain ⟨v1, e1, h⟩ := h
 apply AW.step
 ·simp [lenI_cast e1]
  intros; rfl
 refine AW.seq ?_
 refine AW.block ?_
 replace h := bnE h; obtain ⟨y3, g3, h⟩ := h
 refine AW.iterP g3 (mk := fun gh ls q => (⟨[(0, .l (.d false 1 (encI a0))), (1, .l (.s (.int .i64 a1))), (5, .l (.s (.int .i64 q)))], [], 57, gh, ls⟩ : St)) (N := fun gh ls => (xP 0 (cx := cx) (fun q => (⟨[(0, .l (.d false 1 (encI a0))), (1, .l (.s (.int .i64 a1))), (5, .l (.s (.int .i64 q)))], [], 57, gh, ls⟩ : St)))) ?_ noX ?_ ?_
 ·refine Weak.mixN [] hn0 (by decide) ?_ ?_ rfl
  all_goals first | (simp [inv_cons, inv_nil, pickOb]; done) | rfl
 ·clear h; intro y2 y4 h
  refine AW.seq ?_
  replace h := bnE h; obtain ⟨y5, g5, h⟩ := h
  refine AW.flow (p := fun gh ls => (nP (cx := cx) (fun q => (⟨[(0, .l (.d false 1 (encI a0))), (1, .l (.s (.int .i64 a1))), (5, .l (.s (.int .i64 y2))), (19, .l (.s (.bool q)))], [], 57, gh, ls⟩ : St))) y5) ?_ ?_
  ·replace h := g5; clear g5
   replace h := ltE h; obtain ⟨v6, e6, h⟩ := h
   cases v6 with
   | true =>
    replace h := iteT rfl h
    replace h := ltE h; obtain ⟨v7, e7, h⟩ := h
    replace h := bnE h; obtain ⟨v8, e8, h⟩ := h
    replace h := ltE h; obtain ⟨v9, e9, h⟩ := h
    apply AW.last
    ·simp [← e6, ← e7, nth_d e8, ← e9]
     intros; rfl
    obtain rfl := Option.some.inj h
    refine nP_i ?_
    refine Weak.mixN [] hn0 (by decide) ?_ ?_ rfl
    all_goals first | (simp [inv_cons, inv_nil, pickOb]; done) | rfl
   | false =>
    replace h := iteF rfl h
    apply AW.last
    ·simp [← e6]
     intros; rfl
    obtain rfl := Option.some.inj h
    refine nP_i ?_
    refine Weak.mixN [] hn0 (by decide) ?_ ?_ rfl
    all_goals first | (simp [inv_cons, inv_nil, pickOb]; done) | rfl
  ·rintro e s hp
   obtain ⟨rfl, hw⟩ := hp
   refine ⟨_, hw, ?_⟩
   try simp only [sp_l, sp_r, Post.seq, Post.block, Nat.reduceEqDiff, reduceIte, Nat.zero_ne_one, Nat.one_ne_zero]
   replace h := ltE h; obtain ⟨v10, e10, h⟩ := h
   rw [← e10]
   cases v10 with
   | true =>
    replace h := iteT rfl h
    refine AW.cond_true (by simp) ?_
    refine AW.skip ?_
    try simp only [sp_l, sp_r, Post.seq, Post.block, Nat.reduceEqDiff, reduceIte, Nat.zero_ne_one, Nat.one_ne_zero]
    try simp only [sp_l, sp_r, Post.seq, Post.block, Nat.reduceEqDiff, reduceIte, Nat.zero_ne_one, Nat.one_ne_zero]
    refine AW.block ?_
    replace h := ltE h; obtain ⟨v11, e11, h⟩ := h
    apply AW.last
    ·simp [← e11]
     intros; rfl
    obtain rfl := Option.some.inj h
    refine nP_i ?_
    refine Weak.mixN [] hn0 (by decide) ?_ ?_ rfl
    all_goals first | (simp [inv_cons, inv_nil, pickOb]; done) | rfl
   | false =>
    replace h := iteF rfl h
    refine AW.cond_false (by simp) ?_
    refine AW.exit ?_
    try simp only [sp_l, sp_r, Post.seq, Post.block, Nat.reduceEqDiff, reduceIte, Nat.zero_ne_one, Nat.one_ne_zero]
    obtain rfl := Option.some.inj h
    refine xP_i ?_
    refine Weak.mixN [] hn0 (by decide) ?_ ?_ rfl
    all_goals first | (simp [inv_cons, inv_nil, pickOb]; done) | rfl
 ·rintro e s hp
  obtain ⟨rfl, hw⟩ := hp
  refine ⟨_, hw, ?_⟩
  try simp only [sp_l, sp_r, Post.seq, Post.block, Nat.reduceEqDiff, reduceIte, Nat.zero_ne_one, Nat.one_ne_zero]
  refine AW.seq ?_
  replace h := bnE h; obtain ⟨y12, g12, h⟩ := h
  refine AW.flow (p := fun gh ls => (nP (cx := cx) (fun q => (⟨[(0, .l (.d false 1 (encI a0))), (1, .l (.s (.int .i64 a1))), (5, .l (.s (.int .i64 y3))), (41, .l (.s (.bool q)))], [], 57, gh, ls⟩ : St))) y12) ?_ ?_
  ·replace h := g12; clear g12
   replace h := ltE h; obtain ⟨v13, e13, h⟩ := h
   cases v13 with
   | true =>
    replace h := iteT rfl h
    apply AW.last
    ·simp [← e13]
     intros; rfl
    obtain rfl := Option.some.inj h
    refine nP_i ?_
    refine Weak.mixN [] hn0 (by decide) ?_ ?_ rfl
    all_goals first | (simp [inv_cons, inv_nil, pickOb]; done) | rfl
   | false =>
    replace h := iteF rfl h
    replace h := ltE h; obtain ⟨v14, e14, h⟩ := h
    cases v14 with
    | true =>
     replace h := iteT rfl h
     apply AW.last
     ·simp [← e13, ← e14]
      intros; rfl
     obtain rfl := Option.some.inj h
     refine nP_i ?_
     refine Weak.mixN [] hn0 (by decide) ?_ ?_ rfl
     all_goals first | (simp [inv_cons, inv_nil, pickOb]; done) | rfl
    | false =>
     replace h := iteF rfl h
     replace h := ltE h; obtain ⟨v15, e15, h⟩ := h
     replace h := ltE h; obtain ⟨v16, e16, h⟩ := h
     cases v16 with
     | true =>
      replace h := iteT rfl h
      replace h := bnE h; obtain ⟨v17, e17, h⟩ := h
      replace h := ltE h; obtain ⟨v18, e18, h⟩ := h
      apply AW.last
      ·simp [← e13, ← e14, lenI_cast e15, ← e16, nth_d e17, ← e18]
       intros; rfl
      obtain rfl := Option.some.inj h
      refine nP_i ?_
      refine Weak.mixN [] hn0 (by decide) ?_ ?_ rfl
      all_goals first | (simp [inv_cons, inv_nil, pickOb]; done) | rfl
     | false =>
      replace h := iteF rfl h
      apply AW.last
      ·simp [← e13, ← e14, lenI_cast e15, ← e16]
       intros; rfl
      obtain rfl := Option.some.inj h
      refine nP_i ?_
      refine Weak.mixN [] hn0 (by decide) ?_ ?_ rfl
      all_goals first | (simp [inv_cons, inv_nil, pickOb]; done) | rfl
  ·rintro e s hp
   obtain ⟨rfl, hw⟩ := hp
   refine ⟨_, hw, ?_⟩
   try simp only [sp_l, sp_r, Post.seq, Post.block, Nat.reduceEqDiff, reduceIte, Nat.zero_ne_one, Nat.one_ne_zero]
   replace h := ltE h; obtain ⟨v19, e19, h⟩ := h
   rw [← e19]
   cases v19 with
   | true =>
    replace h := iteT rfl h
    refine AW.cond_true (by simp) ?_
    apply AW.step
    ·simp
     intros; rfl
    obtain rfl := Option.some.inj h
    refine AW.ret ?_
    refine Left.plain hnb (by simp [Try.f56, resV, resC, comp]; rfl) rfl rfl ?_
    simp
   | false =>
    replace h := iteF rfl h
    refine AW.cond_false (by simp) ?_
    refine AW.skip ?_
    try simp only [sp_l, sp_r, Post.seq, Post.block, Nat.reduceEqDiff, reduceIte, Nat.zero_ne_one, Nat.one_ne_zero]
    try simp only [sp_l, sp_r, Post.seq, Post.block, Nat.reduceEqDiff, reduceIte, Nat.zero_ne_one, Nat.one_ne_zero]
    replace h := bnE h; obtain ⟨v20, e20, h⟩ := h
    have f21 := encI_segh e20
    try simp at f21
    replace h := chkE h; obtain ⟨e22, h⟩ := h
    apply AW.step
    ·simp [f21]
     intros
     refine xrow_own ?_
     try simp [f21]
     intros
     refine xapp_pushN (acc := []) (ys := encI v20) (cap := none) (k := v20.length) tb_el44 tb_ti3 (by simp) (by rw [src_d]; simp) (by simp) (by simp) (by simp) (by first | (simp; done) | simpa using (room_d e22).1) ?_
     try simp [f21]
     intros; rfl
    replace h := chkE h; obtain ⟨e23, h⟩ := h
    replace h := ltE h; obtain ⟨v24, e24, h⟩ := h
    apply AW.step
    ·simp [← encI_append, ← e24, app_len1 e24]
     intros
     refine xrow_own ?_
     try simp [← encI_append, ← e24, app_len1 e24]
     intros
     refine xapp_pushN (acc := encI v20) (ys := encI [a1]) (cap := none) (k := 1) tb_el44 tb_ti3 (by simp) (by simp [encI, lvs]) (encI_sz _) (by simp) (by simp) (by first | (simp; done) | simpa using (room_d e23).1) ?_
     try simp [← encI_append, ← e24, app_len1 e24]
     intros; rfl
    replace h := bnE h; obtain ⟨v25, e25, h⟩ := h
    have f26 := encI_segl e25
    try simp at f26
    replace h := chkE h; obtain ⟨e27, h⟩ := h
    replace h := ltE h; obtain ⟨v28, e28, h⟩ := h
    apply AW.step
    ·simp [f26, ← encI_append, ← e28, app_len e28]
     intros
     refine xapp_pushN (acc := encI v24) (ys := encI v25) (cap := none) (k := v25.length) tb_el44 tb_ti3 (by simp) (by rw [src_d]; simp) (encI_sz _) (by simp) (by simp) (by first | (simp; done) | simpa using (room_d e27).1) ?_
     try simp [f26, ← encI_append, ← e28, app_len e28]
     intros; rfl
    replace h := chkE h; obtain ⟨e29, h⟩ := h
    refine AW.frzRow 4 (ty := 3) (cap := none) (sz := 1) (es := encI v28) (by simp) (by omega) (encI_sz _) (by first | exact (room_d e29).2 | simpa using (room_d e29).2 | simp) (by simp [Tm.frz, AV.frz, LV.frz]; rfl) (by simp [Ob.frz, LV.frz]; rfl) rfl ?_
    obtain rfl := Option.some.inj h
    refine AW.ret ?_
    refine Left.plain hnb (by simp [Try.f56, resV, resC, comp]; rfl) rfl rfl ?_
    simp
theorem en_r1_Mark : Enters Try.prog 56 := enters Try.func56 (by kernel_rfl) rfl
def r1_marks_sh (n : Nat) (a0 : List Span) (a1 : List Span) : Option (List Int) :=
chk (room 2 1) <|
bn (iter n (fun (y1 : List Int × Int) =>
lt (lenI a0) fun v5 =>
lt (lenI a1) fun v6 =>
lt (addI .i64 v5 v6) fun v7 =>
lt (ltI y1.2 v7) fun v8 =>
ite' v8 (bn (bn (lt (ltI y1.2 v5) fun v11 =>
ite' v11 (bn (nth a0 y1.2) fun v12 =>
some (v12)) (lt (subI .i64 y1.2 v5) fun v13 =>
bn (nth a1 v13) fun v14 =>
some (v14))) fun (y10 : Span) =>
bn (lt (leI y10.frm y10.to) fun v16 =>
ite' v16 (bn (r1_Mark_sh n y1.1 y10.frm) fun v17 =>
some (v17)) (some (y1.1))) fun (y15 : List Int) =>
bn (lt (leI y10.frm y10.to) fun v19 =>
ite' v19 (lt (ltI y10.to 16384) fun v20 =>
some (v20)) (some (false))) fun (y18 : Bool) =>
lt (y18) fun v21 =>
ite' v21 (lt (addI .i64 y10.to 1) fun v22 =>
bn (r1_Mark_sh n y15 v22) fun v23 =>
some (v23)) (some (y15))) fun (y9 : List Int) =>
lt (addI .i64 y1.2 1) fun v24 =>
some (.inl (y9, v24))) (some (.inr y1.1))) ([0, 16384], 0)) fun (y2 : List Int) =>
some y2
set_option maxRecDepth 8000 in
set_option maxHeartbeats 8000000 in
theorem s_r1_marks {n : Nat} {a0 : List Span} {a1 : List Span} {r : List Int} (h : r1_marks_sh n a0 a1 = some r) : Sound Try.prog 50 [.l (.d false 2 (encSpan a0)), .l (.d false 2 (encSpan a1))] [] (.l (.d false 1 (encI r))) [] := by
 unfold r1_marks_sh at h
 refine Sound.of_aw (fn := Try.f50) (c := _) Try.func50 rfl (by simp [Try.f50]) fun cx hG hnb => ?_
 rw [show Try.f50.ntmps = 59 from rfl]
 have hn0 : cx.nb = 0 := hnb
 simp only [st0_mk, initTm, List.map_cons, List.map_nil]
 apply AW.step
 ·simp
  intros; rfl
 apply AW.step
 ·simp
  intros
  refine xrow_own ?_
  try simp
  intros; rfl
 refine AW.seq ?_
 apply AW.step
 ·simp
  intros; rfl
 refine AW.block ?_
 replace h := chkE h; obtain ⟨e3, h⟩ := h
 replace h := bnE h; obtain ⟨y2, g2, h⟩ := h
 refine AW.iterP g2 (mk := fun gh ls q => (⟨[(0, .l (.d false 2 (encSpan a0))), (1, .l (.d false 2 (encSpan a1))), (5, .l (.d false 1 (encI q.1))), (6, .l (.s (.int .i64 q.2)))], [], 59, gh, ls⟩ : St)) (N := fun gh ls => (xP 0 (cx := cx) (fun q => (⟨[(5, .l (.d false 1 (encI q)))], [], 59, gh, ls⟩ : St)))) ?_ noX ?_ ?_
 ·refine W.frzRow 0 (ty := 3) (cap := none) (sz := 1) (es := encI [0, 16384]) (by simp [encI, lvs]) (by omega) (encI_sz _) (by first | exact (room_d e3).2 | simpa using (room_d e3).2 | simp) (by simp [Tm.frz, AV.frz, LV.frz, (show List.take 2 (encI [0, 16384]) = encI [0, 16384] from rfl)]; rfl) (by simp [Ob.frz, LV.frz, (show List.take 2 (encI [0, 16384]) = encI [0, 16384] from rfl)]; rfl) rfl ?_
  refine Weak.mixN [] hn0 (by decide) ?_ ?_ rfl
  all_goals first | (simp [inv_cons, inv_nil, pickOb]; done) | rfl
 ·clear h; intro y1 y4 h
  refine AW.seq ?_
  replace h := ltE h; obtain ⟨v5, e5, h⟩ := h
  replace h := ltE h; obtain ⟨v6, e6, h⟩ := h
  replace h := ltE h; obtain ⟨v7, e7, h⟩ := h
  replace h := ltE h; obtain ⟨v8, e8, h⟩ := h
  apply AW.step
  ·simp [lenI_cast e5, lenI_cast e6, ← e7, ← e8]
   intros; rfl
  cases v8 with
  | true =>
   replace h := iteT rfl h
   refine AW.cond_true (by simp) ?_
   refine AW.skip ?_
   try simp only [sp_l, sp_r, Post.seq, Post.block, Nat.reduceEqDiff, reduceIte, Nat.zero_ne_one, Nat.one_ne_zero]
   try simp only [sp_l, sp_r, Post.seq, Post.block, Nat.reduceEqDiff, reduceIte, Nat.zero_ne_one, Nat.one_ne_zero]
   replace h := bnE h; obtain ⟨y9, g9, h⟩ := h
   refine AW.flow (p := fun gh ls => (nP (cx := cx) (fun q => (⟨[(0, .l (.d false 2 (encSpan a0))), (1, .l (.d false 2 (encSpan a1))), (5, .l (.d false 1 (encI q))), (6, .l (.s (.int .i64 y1.2)))], [], 59, gh, ls⟩ : St))) y9) ?_ ?_
   ·replace h := g9; clear g9
    refine AW.block ?_
    apply AW.step
    ·simp
     intros; rfl
    replace h := bnE h; obtain ⟨y10, g10, h⟩ := h
    refine AW.flow (p := fun gh ls => (nP (cx := cx) (fun q => (⟨[(0, .l (.d false 2 (encSpan a0))), (1, .l (.d false 2 (encSpan a1))), (5, .l (.d false 1 (encI y1.1))), (6, .l (.s (.int .i64 y1.2))), (7, .l (.p 0 0))], [some ⟨43, 2, false, none, [.s (.int .i64 q.frm), .s (.int .i64 q.to)]⟩], 59, gh, ls⟩ : St))) y10) ?_ ?_
    ·replace h := g10; clear g10
     replace h := ltE h; obtain ⟨v11, e11, h⟩ := h
     apply AW.step
     ·simp [lenI_cast e5, ← e11]
      intros; rfl
     cases v11 with
     | true =>
      replace h := iteT rfl h
      refine AW.cond_true (by simp) ?_
      replace h := bnE h; obtain ⟨v12, e12, h⟩ := h
      apply AW.last
      ·simp [nth_d e12]
       intros; rfl
      obtain rfl := Option.some.inj h
      refine nP_i ?_
      refine Weak.mixN [some 0] hn0 (by decide) ?_ ?_ rfl
      all_goals first | (simp [inv_cons, inv_nil, pickOb]; done) | rfl
     | false =>
      replace h := iteF rfl h
      refine AW.cond_false (by simp) ?_
      replace h := ltE h; obtain ⟨v13, e13, h⟩ := h
      replace h := bnE h; obtain ⟨v14, e14, h⟩ := h
      apply AW.last
      ·simp [lenI_cast e5, ← e13, nth_d e14]
       intros; rfl
      obtain rfl := Option.some.inj h
      refine nP_i ?_
      refine Weak.mixN [some 0] hn0 (by decide) ?_ ?_ rfl
      all_goals first | (simp [inv_cons, inv_nil, pickOb]; done) | rfl
    ·rintro e s hp
     obtain ⟨rfl, hw⟩ := hp
     refine ⟨_, hw, ?_⟩
     try simp only [sp_l, sp_r, Post.seq, Post.block, Nat.reduceEqDiff, reduceIte, Nat.zero_ne_one, Nat.one_ne_zero]
     replace h := bnE h; obtain ⟨y15, g15, h⟩ := h
     refine AW.flow (p := fun gh ls => (nP (cx := cx) (fun q => (⟨[(0, .l (.d false 2 (encSpan a0))), (1, .l (.d false 2 (encSpan a1))), (5, .l (.d false 1 (encI q))), (6, .l (.s (.int .i64 y1.2))), (7, .l (.p 0 0))], [some ⟨43, 2, false, none, [.s (.int .i64 y10.frm), .s (.int .i64 y10.to)]⟩], 59, gh, ls⟩ : St))) y15) ?_ ?_
     ·replace h := g15; clear g15
      replace h := ltE h; obtain ⟨v16, e16, h⟩ := h
      apply AW.step
      ·simp [← e16]
       intros; rfl
      cases v16 with
      | true =>
       replace h := iteT rfl h
       refine AW.cond_true (by simp) ?_
       replace h := bnE h; obtain ⟨v17, e17, h⟩ := h
       apply AW.last
       ·simp
        intros
        refine xcall_plain en_r1_Mark (s_r1_Mark e17) rfl ⟨.same rfl, .same rfl, trivial⟩ ?_
        try simp
        intros; rfl
       obtain rfl := Option.some.inj h
       refine nP_i ?_
       refine Weak.mixN [some 0] hn0 (by decide) ?_ ?_ rfl
       all_goals first | (simp [inv_cons, inv_nil, pickOb]; done) | rfl
      | false =>
       replace h := iteF rfl h
       refine AW.cond_false (by simp) ?_
       refine AW.skip ?_
       try simp only [sp_l, sp_r, Post.seq, Post.block, Nat.reduceEqDiff, reduceIte, Nat.zero_ne_one, Nat.one_ne_zero]
       obtain rfl := Option.some.inj h
       refine nP_i ?_
       refine Weak.mixN [some 0] hn0 (by decide) ?_ ?_ rfl
       all_goals first | (simp [inv_cons, inv_nil, pickOb]; done) | rfl
     ·rintro e s hp
      obtain ⟨rfl, hw⟩ := hp
      refine ⟨_, hw, ?_⟩
      try simp only [sp_l, sp_r, Post.seq, Post.block, Nat.reduceEqDiff, reduceIte, Nat.zero_ne_one, Nat.one_ne_zero]
      replace h := bnE h; obtain ⟨y18, g18, h⟩ := h
      refine AW.flow (p := fun gh ls => (nP (cx := cx) (fun q => (⟨[(0, .l (.d false 2 (encSpan a0))), (1, .l (.d false 2 (encSpan a1))), (5, .l (.d false 1 (encI y15))), (6, .l (.s (.int .i64 y1.2))), (7, .l (.p 0 0)), (52, .l (.s (.bool q)))], [some ⟨43, 2, false, none, [.s (.int .i64 y10.frm), .s (.int .i64 y10.to)]⟩], 59, gh, ls⟩ : St))) y18) ?_ ?_
      ·replace h := g18; clear g18
       replace h := ltE h; obtain ⟨v19, e19, h⟩ := h
       cases v19 with
       | true =>
        replace h := iteT rfl h
        replace h := ltE h; obtain ⟨v20, e20, h⟩ := h
        apply AW.last
        ·simp [← e19, ← e20]
         intros; rfl
        obtain rfl := Option.some.inj h
        refine nP_i ?_
        refine Weak.mixN [some 0] hn0 (by decide) ?_ ?_ rfl
        all_goals first | (simp [inv_cons, inv_nil, pickOb]; done) | rfl
       | false =>
        replace h := iteF rfl h
        apply AW.last
        ·simp [← e19]
         intros; rfl
        obtain rfl := Option.some.inj h
        refine nP_i ?_
        refine Weak.mixN [some 0] hn0 (by decide) ?_ ?_ rfl
        all_goals first | (simp [inv_cons, inv_nil, pickOb]; done) | rfl
      ·rintro e s hp
       obtain ⟨rfl, hw⟩ := hp
       refine ⟨_, hw, ?_⟩
       try simp only [sp_l, sp_r, Post.seq, Post.block, Nat.reduceEqDiff, reduceIte, Nat.zero_ne_one, Nat.one_ne_zero]
       replace h := ltE h; obtain ⟨v21, e21, h⟩ := h
       rw [← e21]
       cases v21 with
       | true =>
        replace h := iteT rfl h
        refine AW.cond_true (by simp) ?_
        replace h := ltE h; obtain ⟨v22, e22, h⟩ := h
        replace h := bnE h; obtain ⟨v23, e23, h⟩ := h
        apply AW.last
        ·simp [← e22]
         intros
         refine xcall_plain en_r1_Mark (s_r1_Mark e23) rfl ⟨.same rfl, .same rfl, trivial⟩ ?_
         try simp [← e22]
         intros; rfl
        obtain rfl := Option.some.inj h
        refine nP_i ?_
        refine Weak.mixN [] hn0 (by decide) ?_ ?_ rfl
        all_goals first | (simp [inv_cons, inv_nil, pickOb]; done) | rfl
       | false =>
        replace h := iteF rfl h
        refine AW.cond_false (by simp) ?_
        refine AW.skip ?_
        try simp only [sp_l, sp_r, Post.seq, Post.block, Nat.reduceEqDiff, reduceIte, Nat.zero_ne_one, Nat.one_ne_zero]
        obtain rfl := Option.some.inj h
        refine nP_i ?_
        refine Weak.mixN [] hn0 (by decide) ?_ ?_ rfl
        all_goals first | (simp [inv_cons, inv_nil, pickOb]; done) | rfl
   ·rintro e s hp
    obtain ⟨rfl, hw⟩ := hp
    refine ⟨_, hw, ?_⟩
    try simp only [sp_l, sp_r, Post.seq, Post.block, Nat.reduceEqDiff, reduceIte, Nat.zero_ne_one, Nat.one_ne_zero]
    replace h := ltE h; obtain ⟨v24, e24, h⟩ := h
    apply AW.last
    ·simp [← e24]
     intros; rfl
    obtain rfl := Option.some.inj h
    refine nP_i ?_
    refine Weak.mixN [] hn0 (by decide) ?_ ?_ rfl
    all_goals first | (simp [inv_cons, inv_nil, pickOb]; done) | rfl
  | false =>
   replace h := iteF rfl h
   refine AW.cond_false (by simp) ?_
   refine AW.exit ?_
   try simp only [sp_l, sp_r, Post.seq, Post.block, Nat.reduceEqDiff, reduceIte, Nat.zero_ne_one, Nat.one_ne_zero]
   obtain rfl := Option.some.inj h
   refine xP_i ?_
   refine Weak.mixN [] hn0 (by decide) ?_ ?_ rfl
   all_goals first | (simp [inv_cons, inv_nil, pickOb]; done) | rfl
 ·rintro e s hp
  obtain ⟨rfl, hw⟩ := hp
  refine ⟨_, hw, ?_⟩
  try simp only [sp_l, sp_r, Post.seq, Post.block, Nat.reduceEqDiff, reduceIte, Nat.zero_ne_one, Nat.one_ne_zero]
  apply AW.step
  ·simp
   intros; rfl
  obtain rfl := Option.some.inj h
  refine AW.ret ?_
  refine Left.plain hnb (by simp [Try.f50, resV, resC, comp]; rfl) rfl rfl ?_
  simp
theorem en_r1_marks : Enters Try.prog 50 := enters Try.func50 (by kernel_rfl) rfl
def r1_Has_sh (n : Nat) (a0 : List Span) (a1 : Int) : Option Bool :=
bn (iter n (fun (y1 : Int) =>
lt (lenI a0) fun v4 =>
lt (ltI y1 v4) fun v5 =>
ite' v5 (bn (lt (geI a1 0) fun v7 =>
ite' v7 (lt (ltI a1 16384) fun v8 =>
ite' v8 (bn (nth a0 y1) fun v9 =>
lt (leI v9.frm a1) fun v10 =>
ite' v10 (lt (leI a1 v9.to) fun v11 =>
some (v11)) (some (false))) (some (false))) (some (false))) fun (y6 : Bool) =>
lt (y6) fun v12 =>
ite' v12 (some (.inr (.inr true))) (lt (addI .i64 y1 1) fun v13 =>
some (.inl v13))) (some (.inr (.inl ())))) 0) fun (y2 : Unit ⊕ Bool) =>
sm y2 (fun y14 => some false) (fun y15 => some y15)
set_option maxRecDepth 8000 in
set_option maxHeartbeats 8000000 in
theorem s_r1_Has {n : Nat} {a0 : List Span} {a1 : Int} {r : Bool} (h : r1_Has_sh n a0 a1 = some r) : Sound Try.prog 21 [.l (.d false 2 (encSpan a0)), .l (.s (.int .i64 a1))] [] (.l (.s (.bool r))) [] := by
 unfold r1_Has_sh at h
 refine Sound.of_aw (fn := Try.f21) (c := _) Try.func21 rfl (by simp [Try.f21]) fun cx hG hnb => ?_
 rw [show Try.f21.ntmps = 36 from rfl]
 have hn0 : cx.nb = 0 := hnb
 simp only [st0_mk, initTm, List.map_cons, List.map_nil]
 apply AW.step
 ·simp
  intros; rfl
 refine AW.seq ?_
 apply AW.step
 ·simp
  intros; rfl
 refine AW.block ?_
 replace h := bnE h; obtain ⟨y2, g2, h⟩ := h
 refine AW.iterP g2 (mk := fun gh ls q => (⟨[(0, .l (.d false 2 (encSpan a0))), (1, .l (.s (.int .i64 a1))), (5, .l (.s (.int .i64 q)))], [], 36, gh, ls⟩ : St)) (N := fun gh ls => (sp (xP 0 (cx := cx) (fun _ => (⟨[], [], 36, gh, ls⟩ : St))) (rP (cx := cx) (P := Try.prog) Try.f21 (fun q => .l (.s (.bool q))) (fun q => [])))) ?_ (noS noX noR) ?_ ?_
 ·refine Weak.mixN [] hn0 (by decide) ?_ ?_ rfl
  all_goals first | (simp [inv_cons, inv_nil, pickOb]; done) | rfl
 ·clear h; intro y1 y3 h
  refine AW.seq ?_
  replace h := ltE h; obtain ⟨v4, e4, h⟩ := h
  replace h := ltE h; obtain ⟨v5, e5, h⟩ := h
  apply AW.step
  ·simp [lenI_cast e4, ← e5]
   intros; rfl
  cases v5 with
  | true =>
   replace h := iteT rfl h
   refine AW.cond_true (by simp) ?_
   refine AW.skip ?_
   try simp only [sp_l, sp_r, Post.seq, Post.block, Nat.reduceEqDiff, reduceIte, Nat.zero_ne_one, Nat.one_ne_zero]
   try simp only [sp_l, sp_r, Post.seq, Post.block, Nat.reduceEqDiff, reduceIte, Nat.zero_ne_one, Nat.one_ne_zero]
   refine AW.seq ?_
   refine AW.block ?_
   replace h := bnE h; obtain ⟨y6, g6, h⟩ := h
   refine AW.flow (p := fun gh ls => (nP (cx := cx) (fun q => (⟨[(0, .l (.d false 2 (encSpan a0))), (1, .l (.s (.int .i64 a1))), (5, .l (.s (.int .i64 y1))), (35, .l (.s (.bool q)))], [], 36, gh, ls⟩ : St))) y6) ?_ ?_
   ·replace h := g6; clear g6
    replace h := ltE h; obtain ⟨v7, e7, h⟩ := h
    cases v7 with
    | true =>
     replace h := iteT rfl h
     replace h := ltE h; obtain ⟨v8, e8, h⟩ := h
     cases v8 with
     | true =>
      replace h := iteT rfl h
      replace h := bnE h; obtain ⟨v9, e9, h⟩ := h
      replace h := ltE h; obtain ⟨v10, e10, h⟩ := h
      cases v10 with
      | true =>
       replace h := iteT rfl h
       replace h := ltE h; obtain ⟨v11, e11, h⟩ := h
       apply AW.last
       ·simp [← e7, ← e8, nth_d e9, ← e10, ← e11]
        intros; rfl
       obtain rfl := Option.some.inj h
       refine nP_i ?_
       refine Weak.mixN [] hn0 (by decide) ?_ ?_ rfl
       all_goals first | (simp [inv_cons, inv_nil, pickOb]; done) | rfl
      | false =>
       replace h := iteF rfl h
       apply AW.last
       ·simp [← e7, ← e8, nth_d e9, ← e10]
        intros; rfl
       obtain rfl := Option.some.inj h
       refine nP_i ?_
       refine Weak.mixN [] hn0 (by decide) ?_ ?_ rfl
       all_goals first | (simp [inv_cons, inv_nil, pickOb]; done) | rfl
     | false =>
      replace h := iteF rfl h
      apply AW.last
      ·simp [← e7, ← e8]
       intros; rfl
      obtain rfl := Option.some.inj h
      refine nP_i ?_
      refine Weak.mixN [] hn0 (by decide) ?_ ?_ rfl
      all_goals first | (simp [inv_cons, inv_nil, pickOb]; done) | rfl
    | false =>
     replace h := iteF rfl h
     apply AW.last
     ·simp [← e7]
      intros; rfl
     obtain rfl := Option.some.inj h
     refine nP_i ?_
     refine Weak.mixN [] hn0 (by decide) ?_ ?_ rfl
     all_goals first | (simp [inv_cons, inv_nil, pickOb]; done) | rfl
   ·rintro e s hp
    obtain ⟨rfl, hw⟩ := hp
    refine ⟨_, hw, ?_⟩
    try simp only [sp_l, sp_r, Post.seq, Post.block, Nat.reduceEqDiff, reduceIte, Nat.zero_ne_one, Nat.one_ne_zero]
    replace h := ltE h; obtain ⟨v12, e12, h⟩ := h
    rw [← e12]
    cases v12 with
    | true =>
     replace h := iteT rfl h
     refine AW.cond_true (by simp) ?_
     apply AW.step
     ·simp
      intros; rfl
     obtain rfl := Option.some.inj h
     refine AW.ret ?_
     try simp only [sp_l, sp_r, Post.seq, Post.block, Nat.reduceEqDiff, reduceIte, Nat.zero_ne_one, Nat.one_ne_zero]
     refine rP_i ?_
     refine Left.plain hnb (by simp [Try.f21, resV, resC, comp]; rfl) rfl rfl ?_
     simp
    | false =>
     replace h := iteF rfl h
     refine AW.cond_false (by simp) ?_
     refine AW.skip ?_
     try simp only [sp_l, sp_r, Post.seq, Post.block, Nat.reduceEqDiff, reduceIte, Nat.zero_ne_one, Nat.one_ne_zero]
     try simp only [sp_l, sp_r, Post.seq, Post.block, Nat.reduceEqDiff, reduceIte, Nat.zero_ne_one, Nat.one_ne_zero]
     replace h := ltE h; obtain ⟨v13, e13, h⟩ := h
     apply AW.last
     ·simp [← e13]
      intros; rfl
     obtain rfl := Option.some.inj h
     refine nP_i ?_
     refine Weak.mixN [] hn0 (by decide) ?_ ?_ rfl
     all_goals first | (simp [inv_cons, inv_nil, pickOb]; done) | rfl
  | false =>
   replace h := iteF rfl h
   refine AW.cond_false (by simp) ?_
   refine AW.exit ?_
   try simp only [sp_l, sp_r, Post.seq, Post.block, Nat.reduceEqDiff, reduceIte, Nat.zero_ne_one, Nat.one_ne_zero]
   obtain rfl := Option.some.inj h
   try simp only [sp_l, sp_r]
   refine xP_i ?_
   refine Weak.mixN [] hn0 (by decide) ?_ ?_ rfl
   all_goals first | (simp [inv_cons, inv_nil, pickOb]; done) | rfl
 ·rintro e s hp
  rcases y2 with y14 | y15
  ·replace h := smL h
   obtain ⟨rfl, hw⟩ := hp
   refine ⟨_, hw, ?_⟩
   try simp only [sp_l, sp_r, Post.seq, Post.block, Nat.reduceEqDiff, reduceIte, Nat.zero_ne_one, Nat.one_ne_zero]
   apply AW.step
   ·simp
    intros; rfl
   obtain rfl := Option.some.inj h
   refine AW.ret ?_
   refine Left.plain hnb (by simp [Try.f21, resV, resC, comp]; rfl) rfl rfl ?_
   simp
  ·replace h := smR h
   obtain ⟨rfl, hl⟩ := hp
   refine ⟨_, Weak.refl _, ?_⟩
   obtain rfl := Option.some.inj h
   exact hl
theorem en_r1_Has : Enters Try.prog 21 := enters Try.func21 (by kernel_rfl) rfl
def r1_Mix_sh (n : Nat) (a0 : Int) (a1 : List Span) (a2 : List Span) : Option (List Span) :=
bn (r1_marks_sh n a1 a2) fun v1 =>
bn (iter n (fun (y2 : Int × List Span) =>
lt (addI .i64 y2.1 1) fun v5 =>
lt (lenI v1) fun v6 =>
lt (ltI v5 v6) fun v7 =>
ite' v7 (bn (bn (nth v1 y2.1) fun v9 =>
bn (r1_Has_sh n a1 v9) fun v10 =>
bn (r1_Has_sh n a2 v9) fun v11 =>
bn (ite' v10 (some ((true, true))) (some ((false, v11)))) fun (y12 : Bool × Bool) =>
bn (lt (eqI a0 1) fun v14 =>
ite' v14 (lt (y12.1) fun v15 =>
ite' v15 (lt (notB v11) fun v16 =>
some (v16)) (some (false))) (lt (eqI a0 2) fun v17 =>
ite' v17 (lt (y12.1) fun v18 =>
ite' v18 (some (v11)) (some (false))) (some (y12.2)))) fun (y13 : Bool) =>
lt (notB y13) fun v19 =>
ite' v19 (some (y2.2)) (bn (lt (lenI y2.2) fun v21 =>
lt (gtI v21 0) fun v22 =>
ite' v22 (lt (subI .i64 v21 1) fun v23 =>
bn (nth y2.2 v23) fun v24 =>
bn (nth v1 y2.1) fun v26 =>
lt (subI .i64 v26 1) fun v27 =>
lt (eqI v24.to v27) fun v28 =>
some (v28)) (some (false))) fun (y20 : Bool) =>
lt (y20) fun v29 =>
ite' v29 (lt (lenI y2.2) fun v30 =>
lt (subI .i64 v30 1) fun v31 =>
lt (addI .i64 y2.1 1) fun v32 =>
bn (nth v1 v32) fun v33 =>
lt (subI .i64 v33 1) fun v34 =>
bn (nth y2.2 v31) fun v35 =>
lt (y2.2.set v31.toNat (⟨v35.frm, v34⟩ : Span)) fun v37 =>
some (v37)) (bn (nth v1 y2.1) fun v40 =>
lt (addI .i64 y2.1 1) fun v41 =>
bn (nth v1 v41) fun v42 =>
lt (subI .i64 v42 1) fun v43 =>
chk (room (y2.2.length + 1) 16) <|
lt (y2.2 ++ [(⟨v40, v43⟩ : Span)]) fun v45 =>
some (v45)))) fun (y8 : List Span) =>
lt (addI .i64 y2.1 1) fun v46 =>
some (.inl (v46, y8))) (some (.inr y2.2))) (0, [])) fun (y3 : List Span) =>
chk (room y3.length 1) <|
some y3
set_option maxRecDepth 8000 in
set_option maxHeartbeats 8000000 in
theorem s_r1_Mix {n : Nat} {a0 : Int} {a1 : List Span} {a2 : List Span} {r : List Span} (h : r1_Mix_sh n a0 a1 a2 = some r) : Sound Try.prog 22 [.l (.s (.int .i64 a0)), .l (.d false 2 (encSpan a1)), .l (.d false 2 (encSpan a2))] [] (.l (.d false 2 (encSpan r))) [] := by
 unfold r1_Mix_sh at h
 refine Sound.of_aw (fn := Try.f22) (c := _) Try.func22 rfl (by simp [Try.f22]) fun cx hG hnb => ?_
 rw [show Try.f22.ntmps = 102 from rfl]
 have hn0 : cx.nb = 0 := hnb
 simp only [st0_mk, initTm, List.map_cons, List.map_nil]
 apply AW.step
 ·simp
  intros; rfl
 replace h := bnE h; obtain ⟨v1, e1, h⟩ := h
 apply AW.step
 ·simp
  intros
  refine xcall_plain en_r1_marks (s_r1_marks e1) rfl ⟨.same rfl, .same rfl, trivial⟩ ?_
  try simp
  intros; rfl
 apply AW.step
 ·simp
  intros; rfl
 refine AW.seq ?_
 apply AW.step
 ·simp
  intros; rfl
 refine AW.block ?_
 replace h := bnE h; obtain ⟨y3, g3, h⟩ := h
 refine AW.iterP g3 (mk := fun gh ls q => (⟨[(0, .l (.s (.int .i64 a0))), (1, .l (.d false 2 (encSpan a1))), (2, .l (.d false 2 (encSpan a2))), (7, .l (.d false 1 (encI v1))), (8, .l (.r 0 2 0 q.2.length)), (9, .l (.s (.int .i64 q.1)))], [some ⟨43, 2, true, none, lvs (encSpan q.2)⟩], 102, gh, ls⟩ : St)) (N := fun gh ls => (xP 0 (cx := cx) (fun q => (⟨[(8, .l (.r 0 2 0 q.length))], [some ⟨43, 2, true, none, lvs (encSpan q)⟩], 102, gh, ls⟩ : St)))) ?_ noX ?_ ?_
 ·refine W.nilRow 8 43 2 0 (by simp) rfl rfl ?_
  refine Weak.mixN [some 0] hn0 (by decide) ?_ ?_ rfl
  all_goals first | (simp [inv_cons, inv_nil, pickOb]; done) | rfl
 ·clear h; intro y2 y4 h
  refine AW.seq ?_
  replace h := ltE h; obtain ⟨v5, e5, h⟩ := h
  replace h := ltE h; obtain ⟨v6, e6, h⟩ := h
  replace h := ltE h; obtain ⟨v7, e7, h⟩ := h
  apply AW.step
  ·simp [← e5, lenI_cast e6, ← e7]
   intros; rfl
  cases v7 with
  | true =>
   replace h := iteT rfl h
   refine AW.cond_true (by simp) ?_
   refine AW.skip ?_
   try simp only [sp_l, sp_r, Post.seq, Post.block, Nat.reduceEqDiff, reduceIte, Nat.zero_ne_one, Nat.one_ne_zero]
   try simp only [sp_l, sp_r, Post.seq, Post.block, Nat.reduceEqDiff, reduceIte, Nat.zero_ne_one, Nat.one_ne_zero]
   replace h := bnE h; obtain ⟨y8, g8, h⟩ := h
   refine AW.flow (p := fun gh ls => (nP (cx := cx) (fun q => (⟨[(0, .l (.s (.int .i64 a0))), (1, .l (.d false 2 (encSpan a1))), (2, .l (.d false 2 (encSpan a2))), (7, .l (.d false 1 (encI v1))), (8, .l (.r 0 2 0 q.length)), (9, .l (.s (.int .i64 y2.1)))], [some ⟨43, 2, true, none, lvs (encSpan q)⟩], 102, gh, ls⟩ : St))) y8) ?_ ?_
   ·replace h := g8; clear g8
    refine AW.block ?_
    replace h := bnE h; obtain ⟨v9, e9, h⟩ := h
    replace h := bnE h; obtain ⟨v10, e10, h⟩ := h
    replace h := bnE h; obtain ⟨v11, e11, h⟩ := h
    apply AW.drawnP (V := [_, _, _, _, _, _, _, _, _, _, _]) mixed [⟨[0], [], [(1, none)], false⟩, ⟨[0], [], [(7, none)], false⟩, ⟨[0], [], [(9, none)], false⟩, ⟨[0], [1, 2], [(24, some 1), (25, some 2)], false⟩, ⟨[0], [1, 2, 3], [(26, some 3)], false⟩, ⟨[0], [0, 1, 2, 3, 4], [(23, some 0), (27, some 4)], false⟩, ⟨[0], [], [(2, none)], false⟩, ⟨[0], [], [(7, none)], false⟩, ⟨[0], [], [(9, none)], false⟩, ⟨[0], [7, 8], [(30, some 7), (31, some 8)], false⟩, ⟨[0], [7, 8, 9], [(32, some 9)], false⟩, ⟨[], [0, 1, 2, 3, 4, 5, 6, 7, 8, 9, 10], [], false⟩, ⟨[], [0, 1, 2, 3, 4, 5, 6, 7, 8, 9, 10, 11], [], false⟩, ⟨[], [0, 1, 2, 3, 4, 5, 6, 7, 8, 9, 10, 11, 12], [], false⟩] 11 (by kernel_rfl) (by kernel_rfl)
    ·refine ⟨?_, ?_, ?_, ?_, ?_, ?_, ?_, ?_, ?_, ?_, ?_, trivial⟩
     iterate 5 (· intro tm hr; simp [AllL, rdV] at hr; simp [hr, nth_d e9]; intros; first | exact KD.mk | exact KD.mkN)
     ·intro tm hr
      simp [AllL, rdV] at hr
      simp [hr, nth_d e9]
      intros
      refine xcall_plain en_r1_Has (s_r1_Has e10) rfl ⟨.same rfl, .same rfl, trivial⟩ ?_
      try simp [nth_d e9]
      intros; first | exact KD.mk | exact KD.mkN
     iterate 5 (· intro tm hr; simp [AllL, rdV] at hr; simp [hr, nth_d e9]; intros; first | exact KD.mk | exact KD.mkN)
    ·rfl
    ·simp [tmD, putD, nth_d e9]; rfl
    ·simp [nth_d e9]
     intros
     refine xcall_plain en_r1_Has (s_r1_Has e11) rfl ⟨.same rfl, .same rfl, trivial⟩ ?_
     try simp [nth_d e9]
     intros; rfl
    replace h := bnE h; obtain ⟨y12, g12, h⟩ := h
    refine AW.flow (p := fun gh ls => (nP (cx := cx) (fun q => (⟨[(0, .l (.s (.int .i64 a0))), (1, .l (.d false 2 (encSpan a1))), (2, .l (.d false 2 (encSpan a2))), (7, .l (.d false 1 (encI v1))), (8, .l (.r 0 2 0 y2.2.length)), (9, .l (.s (.int .i64 y2.1))), (10, .l (.s (.bool q.1))), (11, .l (.s (.bool v11))), (12, .l (.s (.bool q.2)))], [some ⟨43, 2, true, none, lvs (encSpan y2.2)⟩], 102, gh, ls⟩ : St))) y12) ?_ ?_
    ·replace h := g12; clear g12
     cases v10 with
     | true =>
      replace h := iteT rfl h
      apply AW.last
      ·simp
       intros; rfl
      obtain rfl := Option.some.inj h
      refine nP_i ?_
      refine Weak.mixN [some 0] hn0 (by decide) ?_ ?_ rfl
      all_goals first | (simp [inv_cons, inv_nil, pickOb]; done) | rfl
     | false =>
      replace h := iteF rfl h
      apply AW.last
      ·simp
       intros; rfl
      obtain rfl := Option.some.inj h
      refine nP_i ?_
      refine Weak.mixN [some 0] hn0 (by decide) ?_ ?_ rfl
      all_goals first | (simp [inv_cons, inv_nil, pickOb]; done) | rfl
    ·rintro e s hp
     obtain ⟨rfl, hw⟩ := hp
     refine ⟨_, hw, ?_⟩
     try simp only [sp_l, sp_r, Post.seq, Post.block, Nat.reduceEqDiff, reduceIte, Nat.zero_ne_one, Nat.one_ne_zero]
     replace h := bnE h; obtain ⟨y13, g13, h⟩ := h
     refine AW.flow (p := fun gh ls => (nP (cx := cx) (fun q => (⟨[(0, .l (.s (.int .i64 a0))), (1, .l (.d false 2 (encSpan a1))), (2, .l (.d false 2 (encSpan a2))), (7, .l (.d false 1 (encI v1))), (8, .l (.r 0 2 0 y2.2.length)), (9, .l (.s (.int .i64 y2.1))), (12, .l (.s (.bool q)))], [some ⟨43, 2, true, none, lvs (encSpan y2.2)⟩], 102, gh, ls⟩ : St))) y13) ?_ ?_
     ·replace h := g13; clear g13
      apply AW.step
      ·simp
       intros; rfl
      refine AW.block ?_
      replace h := ltE h; obtain ⟨v14, e14, h⟩ := h
      apply AW.step
      ·simp [← e14]
       intros; rfl
      cases v14 with
      | true =>
       replace h := iteT rfl h
       refine AW.cond_true (by simp) ?_
       replace h := ltE h; obtain ⟨v15, e15, h⟩ := h
       cases v15 with
       | true =>
        replace h := iteT rfl h
        replace h := ltE h; obtain ⟨v16, e16, h⟩ := h
        apply AW.last
        ·simp [← e15, ← e16]
         intros; rfl
        obtain rfl := Option.some.inj h
        refine nP_i ?_
        refine Weak.mixN [some 0] hn0 (by decide) ?_ ?_ rfl
        all_goals first | (simp [inv_cons, inv_nil, pickOb]; done) | rfl
       | false =>
        replace h := iteF rfl h
        apply AW.last
        ·simp [← e15]
         intros; rfl
        obtain rfl := Option.some.inj h
        refine nP_i ?_
        refine Weak.mixN [some 0] hn0 (by decide) ?_ ?_ rfl
        all_goals first | (simp [inv_cons, inv_nil, pickOb]; done) | rfl
      | false =>
       replace h := iteF rfl h
       refine AW.cond_false (by simp) ?_
       replace h := ltE h; obtain ⟨v17, e17, h⟩ := h
       apply AW.step
       ·simp [← e17]
        intros; rfl
       cases v17 with
       | true =>
        replace h := iteT rfl h
        refine AW.cond_true (by simp) ?_
        replace h := ltE h; obtain ⟨v18, e18, h⟩ := h
        cases v18 with
        | true =>
         replace h := iteT rfl h
         apply AW.last
         ·simp [← e18]
          intros; rfl
         obtain rfl := Option.some.inj h
         refine nP_i ?_
         refine Weak.mixN [some 0] hn0 (by decide) ?_ ?_ rfl
         all_goals first | (simp [inv_cons, inv_nil, pickOb]; done) | rfl
        | false =>
         replace h := iteF rfl h
         apply AW.last
         ·simp [← e18]
          intros; rfl
         obtain rfl := Option.some.inj h
         refine nP_i ?_
         refine Weak.mixN [some 0] hn0 (by decide) ?_ ?_ rfl
         all_goals first | (simp [inv_cons, inv_nil, pickOb]; done) | rfl
       | false =>
        replace h := iteF rfl h
        refine AW.cond_false (by simp) ?_
        refine AW.skip ?_
        try simp only [sp_l, sp_r, Post.seq, Post.block, Nat.reduceEqDiff, reduceIte, Nat.zero_ne_one, Nat.one_ne_zero]
        obtain rfl := Option.some.inj h
        refine nP_i ?_
        refine Weak.mixN [some 0] hn0 (by decide) ?_ ?_ rfl
        all_goals first | (simp [inv_cons, inv_nil, pickOb]; done) | rfl
     ·rintro e s hp
      obtain ⟨rfl, hw⟩ := hp
      refine ⟨_, hw, ?_⟩
      try simp only [sp_l, sp_r, Post.seq, Post.block, Nat.reduceEqDiff, reduceIte, Nat.zero_ne_one, Nat.one_ne_zero]
      refine AW.block ?_
      replace h := ltE h; obtain ⟨v19, e19, h⟩ := h
      apply AW.step
      ·simp [← e19]
       intros; rfl
      cases v19 with
      | true =>
       replace h := iteT rfl h
       refine AW.cond_true (by simp) ?_
       refine AW.exit ?_
       try simp only [sp_l, sp_r, Post.seq, Post.block, Nat.reduceEqDiff, reduceIte, Nat.zero_ne_one, Nat.one_ne_zero]
       obtain rfl := Option.some.inj h
       refine nP_i ?_
       refine Weak.mixN [some 0] hn0 (by decide) ?_ ?_ rfl
       all_goals first | (simp [inv_cons, inv_nil, pickOb]; done) | rfl
      | false =>
       replace h := iteF rfl h
       refine AW.cond_false (by simp) ?_
       replace h := bnE h; obtain ⟨y20, g20, h⟩ := h
       refine AW.flow (p := fun gh ls => (nP (cx := cx) (fun q => (⟨[(0, .l (.s (.int .i64 a0))), (1, .l (.d false 2 (encSpan a1))), (2, .l (.d false 2 (encSpan a2))), (7, .l (.d false 1 (encI v1))), (8, .l (.r 0 2 0 y2.2.length)), (9, .l (.s (.int .i64 y2.1))), (70, .l (.s (.bool q)))], [some ⟨43, 2, true, none, lvs (encSpan y2.2)⟩], 102, gh, ls⟩ : St))) y20) ?_ ?_
       ·replace h := g20; clear g20
        replace h := ltE h; obtain ⟨v21, e21, h⟩ := h
        replace h := ltE h; obtain ⟨v22, e22, h⟩ := h
        cases v22 with
        | true =>
         replace h := iteT rfl h
         replace h := ltE h; obtain ⟨v23, e23, h⟩ := h
         replace h := bnE h; obtain ⟨v24, e24, h⟩ := h
         have f25 := nth_lt e24
         try simp [lenI_cast e21, ← e22, ← e23, nth_d e24] at f25
         replace h := bnE h; obtain ⟨v26, e26, h⟩ := h
         replace h := ltE h; obtain ⟨v27, e27, h⟩ := h
         replace h := ltE h; obtain ⟨v28, e28, h⟩ := h
         apply AW.drawnR (V := [_, _, _, _, _, _, _, _, _, _, _, _, _, _, _, _]) mixed [⟨[0], [], [(8, none)], false⟩, ⟨[0], [0], [(71, some 0)], false⟩, ⟨[0], [0, 1], [(72, some 1)], false⟩, ⟨[0], [0, 1, 2], [(73, some 2)], false⟩, ⟨[0], [0, 1, 2, 3], [(8, none), (74, some 3)], false⟩, ⟨[0], [0, 1, 2, 3], [(8, none), (74, some 3)], false⟩, ⟨[0], [0, 1, 2, 3, 5], [(74, some 3), (76, some 5)], false⟩, ⟨[0], [0, 1, 2, 3, 5, 6], [(74, some 3), (77, some 6)], false⟩, ⟨[0], [0, 1, 2, 3, 4, 5, 6, 7], [(74, some 3), (75, some 4), (78, some 7)], false⟩, ⟨[0], [0, 1, 2, 3, 4, 5, 6, 7, 8], [(74, some 3), (79, some 8)], false⟩, ⟨[0], [0, 1, 2, 3, 4, 5, 6, 7, 8, 9], [(74, some 3), (80, some 9)], false⟩, ⟨[0], [0, 1, 2, 3], [(7, none), (74, some 3)], false⟩, ⟨[0], [0, 1, 2, 3], [(9, none), (74, some 3)], false⟩, ⟨[0], [0, 1, 2, 3, 11, 12], [(74, some 3), (82, some 11), (83, some 12)], false⟩, ⟨[0], [0, 1, 2, 3, 11, 12, 13], [(74, some 3), (84, some 13)], false⟩, ⟨[0], [0, 1, 2, 3, 11, 12, 13, 14], [(74, some 3), (85, some 14)], false⟩, ⟨[], [0, 1, 2, 3, 4, 5, 6, 7, 8, 9, 10, 11, 12, 13, 14, 15], [], false⟩, ⟨[], [0, 1, 2, 3, 4, 5, 6, 7, 8, 9, 10, 11, 12, 13, 14, 15, 16], [], false⟩, ⟨[], [0, 1, 2, 3, 4, 5, 6, 7, 8, 9, 10, 11, 12, 13, 14, 15, 16, 17], [], false⟩] 16 (by kernel_rfl) (by kernel_rfl)
         ·refine ⟨?_, ?_, ?_, ?_, ?_, ?_, ?_, ?_, ?_, ?_, ?_, ?_, ?_, ?_, ?_, ?_, trivial⟩
          iterate 16 (· intro tm hr; simp [AllL, rdV] at hr; simp [hr, lenI_cast e21, ← e22, ← e23, nth_d e24, f25, encSpan_cell (nth_d e24).2 (j := 1) (by decide), lvs1, nth_d e26, ← e27, ← e28]; intros; first | exact KD.mk | exact KD.mkN)
         ·rfl
         ·simp [tmD, putD, lenI_cast e21, ← e22, ← e23, nth_d e24, f25, encSpan_cell (nth_d e24).2 (j := 1) (by decide), lvs1, nth_d e26, ← e27, ← e28]; rfl
         ·simp [lenI_cast e21, ← e22, ← e23, nth_d e24, f25, encSpan_cell (nth_d e24).2 (j := 1) (by decide), lvs1, nth_d e26, ← e27, ← e28]
          intros; rfl
         obtain rfl := Option.some.inj h
         refine nP_i ?_
         refine Weak.mixN [some 0] hn0 (by decide) ?_ ?_ rfl
         all_goals first | (simp [inv_cons, inv_nil, pickOb]; done) | rfl
        | false =>
         replace h := iteF rfl h
         apply AW.drawnR (V := [_, _, _, _, _, _, _, _, _, _, _, _, _, _, _, _]) mixed [⟨[0], [], [(8, none)], false⟩, ⟨[0], [0], [(71, some 0)], false⟩, ⟨[0], [0, 1], [(72, some 1)], false⟩, ⟨[0], [0, 1, 2], [(73, some 2)], false⟩, ⟨[0], [0, 1, 2, 3], [(8, none), (74, some 3)], false⟩, ⟨[0], [0, 1, 2, 3], [(8, none), (74, some 3)], false⟩, ⟨[0], [0, 1, 2, 3, 5], [(74, some 3), (76, some 5)], false⟩, ⟨[0], [0, 1, 2, 3, 5, 6], [(74, some 3), (77, some 6)], false⟩, ⟨[0], [0, 1, 2, 3, 4, 5, 6, 7], [(74, some 3), (75, some 4), (78, some 7)], false⟩, ⟨[0], [0, 1, 2, 3, 4, 5, 6, 7, 8], [(74, some 3), (79, some 8)], false⟩, ⟨[0], [0, 1, 2, 3, 4, 5, 6, 7, 8, 9], [(74, some 3), (80, some 9)], false⟩, ⟨[0], [0, 1, 2, 3], [(7, none), (74, some 3)], false⟩, ⟨[0], [0, 1, 2, 3], [(9, none), (74, some 3)], false⟩, ⟨[0], [0, 1, 2, 3, 11, 12], [(74, some 3), (82, some 11), (83, some 12)], false⟩, ⟨[0], [0, 1, 2, 3, 11, 12, 13], [(74, some 3), (84, some 13)], false⟩, ⟨[0], [0, 1, 2, 3, 11, 12, 13, 14], [(74, some 3), (85, some 14)], false⟩, ⟨[], [0, 1, 2, 3, 4, 5, 6, 7, 8, 9, 10, 11, 12, 13, 14, 15], [], false⟩, ⟨[], [0, 1, 2, 3, 4, 5, 6, 7, 8, 9, 10, 11, 12, 13, 14, 15, 16], [], false⟩, ⟨[], [0, 1, 2, 3, 4, 5, 6, 7, 8, 9, 10, 11, 12, 13, 14, 15, 16, 17], [], false⟩] 16 (by kernel_rfl) (by kernel_rfl)
         ·refine ⟨?_, ?_, ?_, ?_, ?_, ?_, ?_, ?_, ?_, ?_, ?_, ?_, ?_, ?_, ?_, ?_, trivial⟩
          iterate 16 (· intro tm hr; simp [AllL, rdV] at hr; simp [hr, lenI_cast e21, ← e22]; intros; first | exact KD.mk | exact KD.mkN)
         ·rfl
         ·simp [tmD, putD, lenI_cast e21, ← e22]; rfl
         ·simp [lenI_cast e21, ← e22]
          intros; rfl
         obtain rfl := Option.some.inj h
         refine nP_i ?_
         refine Weak.mixN [some 0] hn0 (by decide) ?_ ?_ rfl
         all_goals first | (simp [inv_cons, inv_nil, pickOb]; done) | rfl
       ·rintro e s hp
        obtain ⟨rfl, hw⟩ := hp
        refine ⟨_, hw, ?_⟩
        try simp only [sp_l, sp_r, Post.seq, Post.block, Nat.reduceEqDiff, reduceIte, Nat.zero_ne_one, Nat.one_ne_zero]
        replace h := ltE h; obtain ⟨v29, e29, h⟩ := h
        rw [← e29]
        cases v29 with
        | true =>
         replace h := iteT rfl h
         refine AW.cond_true (by simp) ?_
         replace h := ltE h; obtain ⟨v30, e30, h⟩ := h
         replace h := ltE h; obtain ⟨v31, e31, h⟩ := h
         replace h := ltE h; obtain ⟨v32, e32, h⟩ := h
         replace h := bnE h; obtain ⟨v33, e33, h⟩ := h
         replace h := ltE h; obtain ⟨v34, e34, h⟩ := h
         replace h := bnE h; obtain ⟨v35, e35, h⟩ := h
         have f36 := nth_lt e35
         try simp [lenI_cast e30, ← e31, ← e32, nth_d e33, ← e34, nth_d e35] at f36
         replace h := ltE h; obtain ⟨v37, e37, h⟩ := h
         have f38 := encSpan_put (nth_d e35).2 e37 (j := 1) (cs := [.s (.int .i64 v34)]) (by simp) rfl
         try simp at f38
         have f39 := f36
         try simp only [set_len e37] at f39
         apply AW.last
         ·simp [lenI_cast e30, ← e31, ← e32, nth_d e33, ← e34, nth_d e35, f36, encSpan_fitj (nth_d e35).2 (j := 1) (m := 1) (by decide), f38, f39]
          intros; rfl
         obtain rfl := Option.some.inj h
         refine nP_i ?_
         refine Weak.mixN [some 0] hn0 (by decide) ?_ ?_ rfl
         all_goals first | (simp [inv_cons, inv_nil, pickOb, set_len e37]; done) | rfl
        | false =>
         replace h := iteF rfl h
         refine AW.cond_false (by simp) ?_
         replace h := bnE h; obtain ⟨v40, e40, h⟩ := h
         replace h := ltE h; obtain ⟨v41, e41, h⟩ := h
         replace h := bnE h; obtain ⟨v42, e42, h⟩ := h
         replace h := ltE h; obtain ⟨v43, e43, h⟩ := h
         replace h := chkE h; obtain ⟨e44, h⟩ := h
         replace h := ltE h; obtain ⟨v45, e45, h⟩ := h
         apply AW.drawnF (V := [_, _, _, _, _, _, _, _, _, _, _, _, _]) (M := [[some ⟨43, 2, true, none, lvs (encSpan y2.2)⟩], [some ⟨43, 2, true, none, lvs (encSpan y2.2)⟩, some ⟨43, 2, true, none, [.s (.int .i64 v40), .s (.int .i64 v43)]⟩]]) mixed [⟨[0, 1], [], [(8, none)], false⟩, ⟨[0], [], [(7, none)], false⟩, ⟨[0], [], [(9, none)], false⟩, ⟨[0], [1, 2], [(54, some 1), (55, some 2)], false⟩, ⟨[0], [1, 2, 3], [(56, some 3)], false⟩, ⟨[0], [], [(7, none)], false⟩, ⟨[0], [], [(9, none)], false⟩, ⟨[0], [6], [(59, some 6)], false⟩, ⟨[0], [5, 6, 7], [(58, some 5), (60, some 7)], false⟩, ⟨[0], [5, 6, 7, 8], [(61, some 8)], false⟩, ⟨[0], [5, 6, 7, 8, 9], [(62, some 9)], false⟩, ⟨[0], [1, 2, 3, 4, 5, 6, 7, 8, 9, 10], [(57, some 4), (63, some 10)], false⟩, ⟨[0], [1, 2, 3, 4, 5, 6, 7, 8, 9, 10, 11], [(64, some 11)], true⟩, ⟨[], [0, 1, 2, 3, 4, 5, 6, 7, 8, 9, 10, 11, 12], [], false⟩, ⟨[], [0, 1, 2, 3, 4, 5, 6, 7, 8, 9, 10, 11, 12, 13], [], false⟩] 13 1 (by kernel_rfl) (by kernel_rfl)
         ·rfl
         ·refine ⟨⟨?_, ?_⟩, ?_, ?_, ?_, ?_, ?_, ?_, ?_, ?_, ?_, ?_, ?_, ?_, trivial⟩
          iterate 13 (· intro tm hr; simp [AllL, rdV] at hr; simp [hr, nth_d e40, ← e41, nth_d e42, ← e43, ← encSpan_append, ← e45, app_len1 e45]; intros; first | exact KD.mk | exact KD.mkN)
          ·intro tm hr
           simp [AllL, rdV] at hr
           simp [hr, nth_d e40, ← e41, nth_d e42, ← e43, ← encSpan_append, ← e45, app_len1 e45]
           intros
           refine xrow_own ?_
           try simp [nth_d e40, ← e41, nth_d e42, ← e43, ← encSpan_append, ← e45, app_len1 e45]
           intros; first | exact KD.mk | exact KD.mkN
         ·rfl
         ·simp [tmD, putD, nth_d e40, ← e41, nth_d e42, ← e43, ← encSpan_append, ← e45, app_len1 e45]; rfl
         ·simp [nth_d e40, ← e41, nth_d e42, ← e43, ← encSpan_append, ← e45, app_len1 e45]
          intros
          refine xapp_pushN (acc := encSpan y2.2) (ys := encSpan [(⟨v40, v43⟩ : Span)]) (cap := none) (k := 1) tb_el29 tb_ti43 (by simp) (by simp [encSpan, lvs]) (encSpan_sz _) (by simp) (by simp) (by first | (simp; done) | simpa using (room_d e44).1) ?_
          try simp [nth_d e40, ← e41, nth_d e42, ← e43, ← encSpan_append, ← e45, app_len1 e45]
          intros; rfl
         obtain rfl := Option.some.inj h
         refine nP_i ?_
         refine Weak.mixN [some 2] hn0 (by decide) ?_ ?_ rfl
         all_goals first | (simp [inv_cons, inv_nil, pickOb, lvs_encSpan1]; done) | rfl
   ·rintro e s hp
    obtain ⟨rfl, hw⟩ := hp
    refine ⟨_, hw, ?_⟩
    try simp only [sp_l, sp_r, Post.seq, Post.block, Nat.reduceEqDiff, reduceIte, Nat.zero_ne_one, Nat.one_ne_zero]
    replace h := ltE h; obtain ⟨v46, e46, h⟩ := h
    apply AW.last
    ·simp [← e46]
     intros; rfl
    obtain rfl := Option.some.inj h
    refine nP_i ?_
    refine Weak.mixN [some 0] hn0 (by decide) ?_ ?_ rfl
    all_goals first | (simp [inv_cons, inv_nil, pickOb]; done) | rfl
  | false =>
   replace h := iteF rfl h
   refine AW.cond_false (by simp) ?_
   refine AW.exit ?_
   try simp only [sp_l, sp_r, Post.seq, Post.block, Nat.reduceEqDiff, reduceIte, Nat.zero_ne_one, Nat.one_ne_zero]
   obtain rfl := Option.some.inj h
   refine xP_i ?_
   refine Weak.mixN [some 0] hn0 (by decide) ?_ ?_ rfl
   all_goals first | (simp [inv_cons, inv_nil, pickOb]; done) | rfl
 ·rintro e s hp
  obtain ⟨rfl, hw⟩ := hp
  refine ⟨_, hw, ?_⟩
  try simp only [sp_l, sp_r, Post.seq, Post.block, Nat.reduceEqDiff, reduceIte, Nat.zero_ne_one, Nat.one_ne_zero]
  apply AW.step
  ·simp
   intros; rfl
  replace h := chkE h; obtain ⟨e47, h⟩ := h
  refine AW.frzRow 0 (ty := 43) (cap := none) (sz := 2) (es := encSpan y3) (by simp) (by omega) (encSpan_sz _) (by first | exact (room_d e47).2 | simpa using (room_d e47).2 | simp) (by simp [Tm.frz, AV.frz, LV.frz]; rfl) (by simp [Ob.frz, LV.frz]; rfl) rfl ?_
  obtain rfl := Option.some.inj h
  refine AW.ret ?_
  refine Left.plain hnb (by simp [Try.f22, resV, resC, comp]; rfl) rfl rfl ?_
  simp
theorem en_r1_Mix : Enters Try.prog 22 := enters Try.func22 (by kernel_rfl) rfl
def r1_Norm_sh (n : Nat) (a0 : List Span) : Option (List Span) :=
bn (r1_Mix_sh n 0 a0 []) fun v1 =>
some v1
set_option maxRecDepth 8000 in
set_option maxHeartbeats 8000000 in
theorem s_r1_Norm {n : Nat} {a0 : List Span} {r : List Span} (h : r1_Norm_sh n a0 = some r) : Sound Try.prog 28 [.l (.d false 2 (encSpan a0))] [] (.l (.d false 2 (encSpan r))) [] := by
 unfold r1_Norm_sh at h
 refine Sound.of_aw (fn := Try.f28) (c := _) Try.func28 rfl (by simp [Try.f28]) fun cx hG hnb => ?_
 rw [show Try.f28.ntmps = 5 from rfl]
 have hn0 : cx.nb = 0 := hnb
 simp only [st0_mk, initTm, List.map_cons, List.map_nil]
 apply AW.step
 ·simp
  intros; rfl
 replace h := bnE h; obtain ⟨v1, e1, h⟩ := h
 apply AW.step
 ·simp
  intros
  refine xcall_plain en_r1_Mix (s_r1_Mix e1) rfl ⟨.same rfl, .same rfl, .nil _ _, trivial⟩ ?_
  try simp
  intros; rfl
 obtain rfl := Option.some.inj h
 refine AW.ret ?_
 refine Left.plain hnb (by simp [Try.f28, resV, resC, comp]; rfl) rfl rfl ?_
 simp
theorem en_r1_Norm : Enters Try.prog 28 := enters Try.func28 (by kernel_rfl) rfl
def r13_marks_sh (n : Nat) (a0 : List Int) (a1 : List Claim) : Option (List Int) :=
bn (iter n (fun (y1 : List Int × Int) =>
lt (lenI a1) fun v4 =>
lt (ltI y1.2 v4) fun v5 =>
ite' v5 (bn (nth a1 y1.2) fun v6 =>
bn (r1_Mark_sh n y1.1 v6.frm) fun v7 =>
lt (addI .i64 v6.to 1) fun v8 =>
bn (r1_Mark_sh n v7 v8) fun v9 =>
lt (addI .i64 y1.2 1) fun v10 =>
some (.inl (v9, v10))) (some (.inr y1.1))) (a0, 0)) fun (y2 : List Int) =>
some y2
set_option maxRecDepth 8000 in
set_option maxHeartbeats 8000000 in
theorem s_r13_marks {n : Nat} {a0 : List Int} {a1 : List Claim} {r : List Int} (h : r13_marks_sh n a0 a1 = some r) : Sound Try.prog 54 [.l (.d false 1 (encI a0)), .l (.d false 4 (encClaim a1))] [] (.l (.d false 1 (encI r))) [] := by
 unfold r13_marks_sh at h
 refine Sound.of_aw (fn := Try.f54) (c := _) Try.func54 rfl (by simp [Try.f54]) fun cx hG hnb => ?_
 rw [show Try.f54.ntmps = 28 from rfl]
 have hn0 : cx.nb = 0 := hnb
 simp only [st0_mk, initTm, List.map_cons, List.map_nil]
 apply AW.step
 ·simp
  intros; rfl
 refine AW.seq ?_
 apply AW.step
 ·simp
  intros; rfl
 refine AW.block ?_
 replace h := bnE h; obtain ⟨y2, g2, h⟩ := h
 refine AW.iterP g2 (mk := fun gh ls q => (⟨[(0, .l (.d false 1 (encI q.1))), (1, .l (.d false 4 (encClaim a1))), (5, .l (.s (.int .i64 q.2)))], [], 28, gh, ls⟩ : St)) (N := fun gh ls => (xP 0 (cx := cx) (fun q => (⟨[(0, .l (.d false 1 (encI q)))], [], 28, gh, ls⟩ : St)))) ?_ noX ?_ ?_
 ·refine Weak.mixN [] hn0 (by decide) ?_ ?_ rfl
  all_goals first | (simp [inv_cons, inv_nil, pickOb]; done) | rfl
 ·clear h; intro y1 y3 h
  refine AW.seq ?_
  replace h := ltE h; obtain ⟨v4, e4, h⟩ := h
  replace h := ltE h; obtain ⟨v5, e5, h⟩ := h
  apply AW.step
  ·simp [lenI_cast e4, ← e5]
   intros; rfl
  cases v5 with
  | true =>
   replace h := iteT rfl h
   refine AW.cond_true (by simp) ?_
   refine AW.skip ?_
   try simp only [sp_l, sp_r, Post.seq, Post.block, Nat.reduceEqDiff, reduceIte, Nat.zero_ne_one, Nat.one_ne_zero]
   try simp only [sp_l, sp_r, Post.seq, Post.block, Nat.reduceEqDiff, reduceIte, Nat.zero_ne_one, Nat.one_ne_zero]
   refine AW.seq ?_
   refine AW.block ?_
   replace h := bnE h; obtain ⟨v6, e6, h⟩ := h
   replace h := bnE h; obtain ⟨v7, e7, h⟩ := h
   apply AW.step
   ·simp [nth_d e6]
    intros
    refine xcall_plain en_r1_Mark (s_r1_Mark e7) rfl ⟨.same rfl, .same rfl, trivial⟩ ?_
    try simp [nth_d e6]
    intros; rfl
   replace h := ltE h; obtain ⟨v8, e8, h⟩ := h
   replace h := bnE h; obtain ⟨v9, e9, h⟩ := h
   apply AW.last
   ·simp [nth_d e6, ← e8]
    intros
    refine xcall_plain en_r1_Mark (s_r1_Mark e9) rfl ⟨.same rfl, .same rfl, trivial⟩ ?_
    try simp [nth_d e6, ← e8]
    intros; rfl
   try simp only [sp_l, sp_r, Post.seq, Post.block, Nat.reduceEqDiff, reduceIte, Nat.zero_ne_one, Nat.one_ne_zero]
   replace h := ltE h; obtain ⟨v10, e10, h⟩ := h
   apply AW.last
   ·simp [← e10]
    intros; rfl
   obtain rfl := Option.some.inj h
   refine nP_i ?_
   refine Weak.mixN [] hn0 (by decide) ?_ ?_ rfl
   all_goals first | (simp [inv_cons, inv_nil, pickOb]; done) | rfl
  | false =>
   replace h := iteF rfl h
   refine AW.cond_false (by simp) ?_
   refine AW.exit ?_
   try simp only [sp_l, sp_r, Post.seq, Post.block, Nat.reduceEqDiff, reduceIte, Nat.zero_ne_one, Nat.one_ne_zero]
   obtain rfl := Option.some.inj h
   refine xP_i ?_
   refine Weak.mixN [] hn0 (by decide) ?_ ?_ rfl
   all_goals first | (simp [inv_cons, inv_nil, pickOb]; done) | rfl
 ·rintro e s hp
  obtain ⟨rfl, hw⟩ := hp
  refine ⟨_, hw, ?_⟩
  try simp only [sp_l, sp_r, Post.seq, Post.block, Nat.reduceEqDiff, reduceIte, Nat.zero_ne_one, Nat.one_ne_zero]
  apply AW.step
  ·simp
   intros; rfl
  obtain rfl := Option.some.inj h
  refine AW.ret ?_
  refine Left.plain hnb (by simp [Try.f54, resV, resC, comp]; rfl) rfl rfl ?_
  simp
theorem en_r13_marks : Enters Try.prog 54 := enters Try.func54 (by kernel_rfl) rfl
def r13_Of_sh (n : Nat) (a0 : List Claim) (a1 : Int) : Option (Int × Int) :=
bn (iter n (fun (y1 : Int) =>
lt (lenI a0) fun v4 =>
lt (ltI y1 v4) fun v5 =>
ite' v5 (bn (bn (nth a0 y1) fun v7 =>
lt (leI v7.frm a1) fun v8 =>
ite' v8 (lt (leI a1 v7.to) fun v9 =>
some (v9)) (some (false))) fun (y6 : Bool) =>
lt (y6) fun v10 =>
ite' v10 (bn (nth a0 y1) fun v11 =>
some (.inr (.inr (v11.node, v11.epoch)))) (lt (addI .i64 y1 1) fun v12 =>
some (.inl v12))) (some (.inr (.inl ())))) 0) fun (y2 : Unit ⊕ (Int × Int)) =>
sm y2 (fun y13 => some (-1, 0)) (fun y14 => some y14)
set_option maxRecDepth 8000 in
set_option maxHeartbeats 8000000 in
theorem s_r13_Of {n : Nat} {a0 : List Claim} {a1 : Int} {r : Int × Int} (h : r13_Of_sh n a0 a1 = some r) : Sound Try.prog 31 [.l (.d false 4 (encClaim a0)), .l (.s (.int .i64 a1))] [] (.t [(false, [.s (.int .i64 r.1)]), (false, [.s (.int .i64 r.2)])]) [] := by
 unfold r13_Of_sh at h
 refine Sound.of_aw (fn := Try.f31) (c := _) Try.func31 rfl (by simp [Try.f31]) fun cx hG hnb => ?_
 rw [show Try.f31.ntmps = 39 from rfl]
 have hn0 : cx.nb = 0 := hnb
 simp only [st0_mk, initTm, List.map_cons, List.map_nil]
 apply AW.step
 ·simp
  intros; rfl
 refine AW.seq ?_
 apply AW.step
 ·simp
  intros; rfl
 refine AW.block ?_
 replace h := bnE h; obtain ⟨y2, g2, h⟩ := h
 refine AW.iterP g2 (mk := fun gh ls q => (⟨[(0, .l (.d false 4 (encClaim a0))), (1, .l (.s (.int .i64 a1))), (6, .l (.s (.int .i64 q)))], [], 39, gh, ls⟩ : St)) (N := fun gh ls => (sp (xP 0 (cx := cx) (fun _ => (⟨[], [], 39, gh, ls⟩ : St))) (rP (cx := cx) (P := Try.prog) Try.f31 (fun q => .t [(false, [.s (.int .i64 q.1)]), (false, [.s (.int .i64 q.2)])]) (fun q => [])))) ?_ (noS noX noR) ?_ ?_
 ·refine Weak.mixN [] hn0 (by decide) ?_ ?_ rfl
  all_goals first | (simp [inv_cons, inv_nil, pickOb]; done) | rfl
 ·clear h; intro y1 y3 h
  refine AW.seq ?_
  replace h := ltE h; obtain ⟨v4, e4, h⟩ := h
  replace h := ltE h; obtain ⟨v5, e5, h⟩ := h
  apply AW.step
  ·simp [lenI_cast e4, ← e5]
   intros; rfl
  cases v5 with
  | true =>
   replace h := iteT rfl h
   refine AW.cond_true (by simp) ?_
   refine AW.skip ?_
   try simp only [sp_l, sp_r, Post.seq, Post.block, Nat.reduceEqDiff, reduceIte, Nat.zero_ne_one, Nat.one_ne_zero]
   try simp only [sp_l, sp_r, Post.seq, Post.block, Nat.reduceEqDiff, reduceIte, Nat.zero_ne_one, Nat.one_ne_zero]
   refine AW.seq ?_
   refine AW.block ?_
   replace h := bnE h; obtain ⟨y6, g6, h⟩ := h
   refine AW.flow (p := fun gh ls => (nP (cx := cx) (fun q => (⟨[(0, .l (.d false 4 (encClaim a0))), (1, .l (.s (.int .i64 a1))), (6, .l (.s (.int .i64 y1))), (28, .l (.s (.bool q)))], [], 39, gh, ls⟩ : St))) y6) ?_ ?_
   ·replace h := g6; clear g6
    replace h := bnE h; obtain ⟨v7, e7, h⟩ := h
    replace h := ltE h; obtain ⟨v8, e8, h⟩ := h
    cases v8 with
    | true =>
     replace h := iteT rfl h
     replace h := ltE h; obtain ⟨v9, e9, h⟩ := h
     apply AW.last
     ·simp [nth_d e7, ← e8, ← e9]
      intros; rfl
     obtain rfl := Option.some.inj h
     refine nP_i ?_
     refine Weak.mixN [] hn0 (by decide) ?_ ?_ rfl
     all_goals first | (simp [inv_cons, inv_nil, pickOb]; done) | rfl
    | false =>
     replace h := iteF rfl h
     apply AW.last
     ·simp [nth_d e7, ← e8]
      intros; rfl
     obtain rfl := Option.some.inj h
     refine nP_i ?_
     refine Weak.mixN [] hn0 (by decide) ?_ ?_ rfl
     all_goals first | (simp [inv_cons, inv_nil, pickOb]; done) | rfl
   ·rintro e s hp
    obtain ⟨rfl, hw⟩ := hp
    refine ⟨_, hw, ?_⟩
    try simp only [sp_l, sp_r, Post.seq, Post.block, Nat.reduceEqDiff, reduceIte, Nat.zero_ne_one, Nat.one_ne_zero]
    replace h := ltE h; obtain ⟨v10, e10, h⟩ := h
    rw [← e10]
    cases v10 with
    | true =>
     replace h := iteT rfl h
     refine AW.cond_true (by simp) ?_
     replace h := bnE h; obtain ⟨v11, e11, h⟩ := h
     apply AW.drawnP (V := [_, _, _, _, _, _, _, _, _, _, _]) mixed [⟨[0], [], [(0, none)], false⟩, ⟨[0], [], [(6, none)], false⟩, ⟨[0], [0, 1], [(29, some 0), (30, some 1)], false⟩, ⟨[0], [0, 1, 2], [(31, some 2)], false⟩, ⟨[0], [0, 1, 2, 3], [(32, some 3)], false⟩, ⟨[0], [], [(0, none)], false⟩, ⟨[0], [], [(6, none)], false⟩, ⟨[0], [5, 6], [(34, some 5), (35, some 6)], false⟩, ⟨[0], [5, 6, 7], [(36, some 7)], false⟩, ⟨[0], [5, 6, 7, 8], [(37, some 8)], false⟩, ⟨[0], [0, 1, 2, 3, 4], [(33, some 4)], false⟩, ⟨[], [0, 1, 2, 3, 4, 5, 6, 7, 8, 9, 10], [], false⟩] 11 (by kernel_rfl) (by kernel_rfl)
     ·refine ⟨?_, ?_, ?_, ?_, ?_, ?_, ?_, ?_, ?_, ?_, ?_, trivial⟩
      iterate 11 (· intro tm hr; simp [AllL, rdV] at hr; simp [hr, nth_d e11]; intros; first | exact KD.mk | exact KD.mkN)
     ·rfl
     ·simp [tmD, putD, nth_d e11]; rfl
     ·simp [nth_d e11]
      intros; rfl
     obtain rfl := Option.some.inj h
     refine AW.ret ?_
     try simp only [sp_l, sp_r, Post.seq, Post.block, Nat.reduceEqDiff, reduceIte, Nat.zero_ne_one, Nat.one_ne_zero]
     refine rP_i ?_
     refine Left.plain hnb (by simp [Try.f31, resV, resC, comp]; rfl) rfl rfl ?_
     simp
    | false =>
     replace h := iteF rfl h
     refine AW.cond_false (by simp) ?_
     refine AW.skip ?_
     try simp only [sp_l, sp_r, Post.seq, Post.block, Nat.reduceEqDiff, reduceIte, Nat.zero_ne_one, Nat.one_ne_zero]
     try simp only [sp_l, sp_r, Post.seq, Post.block, Nat.reduceEqDiff, reduceIte, Nat.zero_ne_one, Nat.one_ne_zero]
     replace h := ltE h; obtain ⟨v12, e12, h⟩ := h
     apply AW.last
     ·simp [← e12]
      intros; rfl
     obtain rfl := Option.some.inj h
     refine nP_i ?_
     refine Weak.mixN [] hn0 (by decide) ?_ ?_ rfl
     all_goals first | (simp [inv_cons, inv_nil, pickOb]; done) | rfl
  | false =>
   replace h := iteF rfl h
   refine AW.cond_false (by simp) ?_
   refine AW.exit ?_
   try simp only [sp_l, sp_r, Post.seq, Post.block, Nat.reduceEqDiff, reduceIte, Nat.zero_ne_one, Nat.one_ne_zero]
   obtain rfl := Option.some.inj h
   try simp only [sp_l, sp_r]
   refine xP_i ?_
   refine Weak.mixN [] hn0 (by decide) ?_ ?_ rfl
   all_goals first | (simp [inv_cons, inv_nil, pickOb]; done) | rfl
 ·rintro e s hp
  rcases y2 with y13 | y14
  ·replace h := smL h
   obtain ⟨rfl, hw⟩ := hp
   refine ⟨_, hw, ?_⟩
   try simp only [sp_l, sp_r, Post.seq, Post.block, Nat.reduceEqDiff, reduceIte, Nat.zero_ne_one, Nat.one_ne_zero]
   apply AW.step
   ·simp
    intros; rfl
   obtain rfl := Option.some.inj h
   refine AW.ret ?_
   refine Left.plain hnb (by simp [Try.f31, resV, resC, comp]; rfl) rfl rfl ?_
   simp
  ·replace h := smR h
   obtain ⟨rfl, hl⟩ := hp
   refine ⟨_, Weak.refl _, ?_⟩
   obtain rfl := Option.some.inj h
   exact hl
theorem en_r13_Of : Enters Try.prog 31 := enters Try.func31 (by kernel_rfl) rfl
def r13_more_xf_sh (n : Nat) (a0 : List Claim) (a1 : Claim) : Option (List Claim) :=
lt (lenI a0) fun v1 =>
lt (subI .i64 v1 1) fun v2 =>
bn (lt (geI v2 0) fun v4 =>
ite' v4 (bn (nth a0 v2) fun v5 =>
lt (subI .i64 a1.frm 1) fun v7 =>
lt (eqI v5.to v7) fun v8 =>
ite' v8 (lt (eqI v5.node a1.node) fun v10 =>
ite' v10 (lt (eqI v5.epoch a1.epoch) fun v12 =>
some (v12)) (some (false))) (some (false))) (some (false))) fun (y3 : Bool) =>
lt (y3) fun v13 =>
ite' v13 (bn (nth a0 v2) fun v14 =>
lt (a0.set v2.toNat (⟨v14.frm, a1.to, v14.node, v14.epoch⟩ : Claim)) fun v16 =>
some v16) (chk (room (a0.length + 1) 32) <|
lt (a0 ++ [a1]) fun v20 =>
some v20)
set_option maxRecDepth 8000 in
set_option maxHeartbeats 8000000 in
theorem s_r13_more_xf {n : Nat} {a0 : List Claim} {a1 : Claim} {r : List Claim} (h : r13_more_xf_sh n a0 a1 = some r) : Sound Try.prog 55 [.l (.r 0 4 0 a0.length), .g [.s (.int .i64 a1.frm), .s (.int .i64 a1.to), .s (.int .i64 a1.node), .s (.int .i64 a1.epoch)]] [⟨41, 4, true, none, lvs (encClaim a0)⟩] (.l (.r 0 4 0 r.length)) [some ⟨41, 4, true, none, lvs (encClaim r)⟩] := by
 unfold r13_more_xf_sh at h
 refine Sound.of_aw (fn := Try.f55) (c := _) Try.func55 rfl (by simp [Try.f55]) fun cx hG hnb => ?_
 rw [show Try.f55.ntmps = 53 from rfl]
 have hn0 : cx.nb = 1 := hnb
 simp only [st0_mk, initTm, List.map_cons, List.map_nil]
 apply AW.step
 ·simp
  intros; rfl
 refine AW.seq ?_
 replace h := ltE h; obtain ⟨v1, e1, h⟩ := h
 replace h := ltE h; obtain ⟨v2, e2, h⟩ := h
 apply AW.step
 ·simp [lenI_cast e1, ← e2]
  intros; rfl
 replace h := bnE h; obtain ⟨y3, g3, h⟩ := h
 refine AW.flow (p := fun gh ls => (nP (cx := cx) (fun q => (⟨[(0, .l (.r 0 4 0 a0.length)), (3, .l (.p 1 0)), (5, .l (.s (.int .i64 v2))), (41, .l (.s (.bool q)))], [some ⟨41, 4, true, none, lvs (encClaim a0)⟩, some ⟨41, 4, false, none, [.s (.int .i64 a1.frm), .s (.int .i64 a1.to), .s (.int .i64 a1.node), .s (.int .i64 a1.epoch)]⟩], 53, gh, ls⟩ : St))) y3) ?_ ?_
 ·replace h := g3; clear g3
  replace h := ltE h; obtain ⟨v4, e4, h⟩ := h
  cases v4 with
  | true =>
   replace h := iteT rfl h
   replace h := bnE h; obtain ⟨v5, e5, h⟩ := h
   have f6 := nth_lt e5
   try simp [← e4, nth_d e5] at f6
   replace h := ltE h; obtain ⟨v7, e7, h⟩ := h
   replace h := ltE h; obtain ⟨v8, e8, h⟩ := h
   cases v8 with
   | true =>
    replace h := iteT rfl h
    have f9 := nth_lt e5
    try simp [← e4, nth_d e5, f6, encClaim_cell (nth_d e5).2 (j := 1) (by decide), lvs1, ← e7, ← e8] at f9
    replace h := ltE h; obtain ⟨v10, e10, h⟩ := h
    cases v10 with
    | true =>
     replace h := iteT rfl h
     have f11 := nth_lt e5
     try simp [← e4, nth_d e5, f6, encClaim_cell (nth_d e5).2 (j := 1) (by decide), lvs1, ← e7, ← e8, f9, encClaim_cell (nth_d e5).2 (j := 2) (by decide), ← e10] at f11
     replace h := ltE h; obtain ⟨v12, e12, h⟩ := h
     apply AW.drawnR (V := [_, _, _, _, _, _, _, _, _, _, _, _, _, _, _, _, _, _, _, _, _, _, _, _, _, _, _, _, _, _, _]) mixed [⟨[0], [], [(5, none)], false⟩, ⟨[0], [0], [(9, some 0)], false⟩, ⟨[0], [0, 1], [(10, some 1)], false⟩, ⟨[0], [0, 1, 2], [(0, none), (11, some 2)], false⟩, ⟨[0], [0, 1, 2], [(5, none), (11, some 2)], false⟩, ⟨[0], [0, 1, 2, 3, 4], [(11, some 2), (12, some 3), (13, some 4)], false⟩, ⟨[0], [0, 1, 2, 3, 4, 5], [(11, some 2), (14, some 5)], false⟩, ⟨[0], [0, 1, 2, 3, 4, 5, 6], [(11, some 2), (15, some 6)], false⟩, ⟨[0], [0, 1, 2], [(3, none), (11, some 2)], false⟩, ⟨[0], [0, 1, 2, 8], [(11, some 2), (17, some 8)], false⟩, ⟨[0], [0, 1, 2, 8, 9], [(11, some 2), (18, some 9)], false⟩, ⟨[0], [0, 1, 2, 3, 4, 5, 6, 7, 8, 9, 10], [(11, some 2), (16, some 7), (19, some 10)], false⟩, ⟨[0], [0, 1, 2, 3, 4, 5, 6, 7, 8, 9, 10, 11], [(11, some 2), (20, some 11)], false⟩, ⟨[0], [0, 1, 2, 3, 4, 5, 6, 7, 8, 9, 10, 11, 12], [(21, some 12)], false⟩, ⟨[0], [0, 1, 2, 3, 4, 5, 6, 7, 8, 9, 10, 11, 12, 13], [(0, none), (22, some 13)], false⟩, ⟨[0], [0, 1, 2, 3, 4, 5, 6, 7, 8, 9, 10, 11, 12, 13], [(5, none), (22, some 13)], false⟩, ⟨[0], [0, 1, 2, 3, 4, 5, 6, 7, 8, 9, 10, 11, 12, 13, 14, 15], [(22, some 13), (23, some 14), (24, some 15)], false⟩, ⟨[0], [0, 1, 2, 3, 4, 5, 6, 7, 8, 9, 10, 11, 12, 13, 14, 15, 16], [(22, some 13), (25, some 16)], false⟩, ⟨[0], [0, 1, 2, 3, 4, 5, 6, 7, 8, 9, 10, 11, 12, 13, 14, 15, 16, 17], [(22, some 13), (26, some 17)], false⟩, ⟨[0], [0, 1, 2, 3, 4, 5, 6, 7, 8, 9, 10, 11, 12, 13], [(3, none), (22, some 13)], false⟩, ⟨[0], [0, 1, 2, 3, 4, 5, 6, 7, 8, 9, 10, 11, 12, 13, 19], [(22, some 13), (28, some 19)], false⟩, ⟨[0], [0, 1, 2, 3, 4, 5, 6, 7, 8, 9, 10, 11, 12, 13, 14, 15, 16, 17, 18, 19, 20], [(22, some 13), (27, some 18), (29, some 20)], false⟩, ⟨[0], [0, 1, 2, 3, 4, 5, 6, 7, 8, 9, 10, 11, 12, 13, 14, 15, 16, 17, 18, 19, 20, 21], [(22, some 13), (30, some 21)], false⟩, ⟨[0], [0, 1, 2, 3, 4, 5, 6, 7, 8, 9, 10, 11, 12, 13, 14, 15, 16, 17, 18, 19, 20, 21, 22], [(31, some 22)], false⟩, ⟨[0], [0, 1, 2, 3, 4, 5, 6, 7, 8, 9, 10, 11, 12, 13, 14, 15, 16, 17, 18, 19, 20, 21, 22, 23], [(0, none), (32, some 23)], false⟩, ⟨[0], [0, 1, 2, 3, 4, 5, 6, 7, 8, 9, 10, 11, 12, 13, 14, 15, 16, 17, 18, 19, 20, 21, 22, 23], [(5, none), (32, some 23)], false⟩, ⟨[0], [0, 1, 2, 3, 4, 5, 6, 7, 8, 9, 10, 11, 12, 13, 14, 15, 16, 17, 18, 19, 20, 21, 22, 23, 24, 25], [(32, some 23), (33, some 24), (34, some 25)], false⟩, ⟨[0], [0, 1, 2, 3, 4, 5, 6, 7, 8, 9, 10, 11, 12, 13, 14, 15, 16, 17, 18, 19, 20, 21, 22, 23, 24, 25, 26], [(32, some 23), (35, some 26)], false⟩, ⟨[0], [0, 1, 2, 3, 4, 5, 6, 7, 8, 9, 10, 11, 12, 13, 14, 15, 16, 17, 18, 19, 20, 21, 22, 23, 24, 25, 26, 27], [(32, some 23), (36, some 27)], false⟩, ⟨[0], [0, 1, 2, 3, 4, 5, 6, 7, 8, 9, 10, 11, 12, 13, 14, 15, 16, 17, 18, 19, 20, 21, 22, 23], [(3, none), (32, some 23)], false⟩, ⟨[0], [0, 1, 2, 3, 4, 5, 6, 7, 8, 9, 10, 11, 12, 13, 14, 15, 16, 17, 18, 19, 20, 21, 22, 23, 29], [(32, some 23), (38, some 29)], false⟩, ⟨[], [0, 1, 2, 3, 4, 5, 6, 7, 8, 9, 10, 11, 12, 13, 14, 15, 16, 17, 18, 19, 20, 21, 22, 23, 24, 25, 26, 27, 28, 29, 30], [], false⟩, ⟨[], [0, 1, 2, 3, 4, 5, 6, 7, 8, 9, 10, 11, 12, 13, 14, 15, 16, 17, 18, 19, 20, 21, 22, 23, 24, 25, 26, 27, 28, 29, 30, 31], [], false⟩] 31 (by kernel_rfl) (by kernel_rfl)
     ·refine ⟨?_, ?_, ?_, ?_, ?_, ?_, ?_, ?_, ?_, ?_, ?_, ?_, ?_, ?_, ?_, ?_, ?_, ?_, ?_, ?_, ?_, ?_, ?_, ?_, ?_, ?_, ?_, ?_, ?_, ?_, ?_, trivial⟩
      iterate 31 (· intro tm hr; simp [AllL, rdV] at hr; simp [hr, ← e4, nth_d e5, f6, encClaim_cell (nth_d e5).2 (j := 1) (by decide), lvs1, ← e7, ← e8, f9, encClaim_cell (nth_d e5).2 (j := 2) (by decide), ← e10, f11, encClaim_cell (nth_d e5).2 (j := 3) (by decide), ← e12]; intros; first | exact KD.mk | exact KD.mkN)
     ·rfl
     ·simp [tmD, putD, ← e4, nth_d e5, f6, encClaim_cell (nth_d e5).2 (j := 1) (by decide), lvs1, ← e7, ← e8, f9, encClaim_cell (nth_d e5).2 (j := 2) (by decide), ← e10, f11, encClaim_cell (nth_d e5).2 (j := 3) (by decide), ← e12]; rfl
     ·simp [← e4, nth_d e5, f6, encClaim_cell (nth_d e5).2 (j := 1) (by decide), lvs1, ← e7, ← e8, f9, encClaim_cell (nth_d e5).2 (j := 2) (by decide), ← e10, f11, encClaim_cell (nth_d e5).2 (j := 3) (by decide), ← e12]
      intros; rfl
     obtain rfl := Option.some.inj h
     refine nP_i ?_
     refine Weak.mixB 1 [some 0, some 1] hn0 (by decide) (by decide) ?_ ?_ ?_
     all_goals first | (simp [inv_cons, inv_nil, pickOb]; done) | rfl
    | false =>
     replace h := iteF rfl h
     apply AW.drawnR (V := [_, _, _, _, _, _, _, _, _, _, _, _, _, _, _, _, _, _, _, _, _, _, _, _, _, _, _, _, _, _, _]) mixed [⟨[0], [], [(5, none)], false⟩, ⟨[0], [0], [(9, some 0)], false⟩, ⟨[0], [0, 1], [(10, some 1)], false⟩, ⟨[0], [0, 1, 2], [(0, none), (11, some 2)], false⟩, ⟨[0], [0, 1, 2], [(5, none), (11, some 2)], false⟩, ⟨[0], [0, 1, 2, 3, 4], [(11, some 2), (12, some 3), (13, some 4)], false⟩, ⟨[0], [0, 1, 2, 3, 4, 5], [(11, some 2), (14, some 5)], false⟩, ⟨[0], [0, 1, 2, 3, 4, 5, 6], [(11, some 2), (15, some 6)], false⟩, ⟨[0], [0, 1, 2], [(3, none), (11, some 2)], false⟩, ⟨[0], [0, 1, 2, 8], [(11, some 2), (17, some 8)], false⟩, ⟨[0], [0, 1, 2, 8, 9], [(11, some 2), (18, some 9)], false⟩, ⟨[0], [0, 1, 2, 3, 4, 5, 6, 7, 8, 9, 10], [(11, some 2), (16, some 7), (19, some 10)], false⟩, ⟨[0], [0, 1, 2, 3, 4, 5, 6, 7, 8, 9, 10, 11], [(11, some 2), (20, some 11)], false⟩, ⟨[0], [0, 1, 2, 3, 4, 5, 6, 7, 8, 9, 10, 11, 12], [(21, some 12)], false⟩, ⟨[0], [0, 1, 2, 3, 4, 5, 6, 7, 8, 9, 10, 11, 12, 13], [(0, none), (22, some 13)], false⟩, ⟨[0], [0, 1, 2, 3, 4, 5, 6, 7, 8, 9, 10, 11, 12, 13], [(5, none), (22, some 13)], false⟩, ⟨[0], [0, 1, 2, 3, 4, 5, 6, 7, 8, 9, 10, 11, 12, 13, 14, 15], [(22, some 13), (23, some 14), (24, some 15)], false⟩, ⟨[0], [0, 1, 2, 3, 4, 5, 6, 7, 8, 9, 10, 11, 12, 13, 14, 15, 16], [(22, some 13), (25, some 16)], false⟩, ⟨[0], [0, 1, 2, 3, 4, 5, 6, 7, 8, 9, 10, 11, 12, 13, 14, 15, 16, 17], [(22, some 13), (26, some 17)], false⟩, ⟨[0], [0, 1, 2, 3, 4, 5, 6, 7, 8, 9, 10, 11, 12, 13], [(3, none), (22, some 13)], false⟩, ⟨[0], [0, 1, 2, 3, 4, 5, 6, 7, 8, 9, 10, 11, 12, 13, 19], [(22, some 13), (28, some 19)], false⟩, ⟨[0], [0, 1, 2, 3, 4, 5, 6, 7, 8, 9, 10, 11, 12, 13, 14, 15, 16, 17, 18, 19, 20], [(22, some 13), (27, some 18), (29, some 20)], false⟩, ⟨[0], [0, 1, 2, 3, 4, 5, 6, 7, 8, 9, 10, 11, 12, 13, 14, 15, 16, 17, 18, 19, 20, 21], [(22, some 13), (30, some 21)], false⟩, ⟨[0], [0, 1, 2, 3, 4, 5, 6, 7, 8, 9, 10, 11, 12, 13, 14, 15, 16, 17, 18, 19, 20, 21, 22], [(31, some 22)], false⟩, ⟨[0], [0, 1, 2, 3, 4, 5, 6, 7, 8, 9, 10, 11, 12, 13, 14, 15, 16, 17, 18, 19, 20, 21, 22, 23], [(0, none), (32, some 23)], false⟩, ⟨[0], [0, 1, 2, 3, 4, 5, 6, 7, 8, 9, 10, 11, 12, 13, 14, 15, 16, 17, 18, 19, 20, 21, 22, 23], [(5, none), (32, some 23)], false⟩, ⟨[0], [0, 1, 2, 3, 4, 5, 6, 7, 8, 9, 10, 11, 12, 13, 14, 15, 16, 17, 18, 19, 20, 21, 22, 23, 24, 25], [(32, some 23), (33, some 24), (34, some 25)], false⟩, ⟨[0], [0, 1, 2, 3, 4, 5, 6, 7, 8, 9, 10, 11, 12, 13, 14, 15, 16, 17, 18, 19, 20, 21, 22, 23, 24, 25, 26], [(32, some 23), (35, some 26)], false⟩, ⟨[0], [0, 1, 2, 3, 4, 5, 6, 7, 8, 9, 10, 11, 12, 13, 14, 15, 16, 17, 18, 19, 20, 21, 22, 23, 24, 25, 26, 27], [(32, some 23), (36, some 27)], false⟩, ⟨[0], [0, 1, 2, 3, 4, 5, 6, 7, 8, 9, 10, 11, 12, 13, 14, 15, 16, 17, 18, 19, 20, 21, 22, 23], [(3, none), (32, some 23)], false⟩, ⟨[0], [0, 1, 2, 3, 4, 5, 6, 7, 8, 9, 10, 11, 12, 13, 14, 15, 16, 17, 18, 19, 20, 21, 22, 23, 29], [(32, some 23), (38, some 29)], false⟩, ⟨[], [0, 1, 2, 3, 4, 5, 6, 7, 8, 9, 10, 11, 12, 13, 14, 15, 16, 17, 18, 19, 20, 21, 22, 23, 24, 25, 26, 27, 28, 29, 30], [], false⟩, ⟨[], [0, 1, 2, 3, 4, 5, 6, 7, 8, 9, 10, 11, 12, 13, 14, 15, 16, 17, 18, 19, 20, 21, 22, 23, 24, 25, 26, 27, 28, 29, 30, 31], [], false⟩] 31 (by kernel_rfl) (by kernel_rfl)
     ·refine ⟨?_, ?_, ?_, ?_, ?_, ?_, ?_, ?_, ?_, ?_, ?_, ?_, ?_, ?_, ?_, ?_, ?_, ?_, ?_, ?_, ?_, ?_, ?_, ?_, ?_, ?_, ?_, ?_, ?_, ?_, ?_, trivial⟩
      iterate 31 (· intro tm hr; simp [AllL, rdV] at hr; simp [hr, ← e4, nth_d e5, f6, encClaim_cell (nth_d e5).2 (j := 1) (by decide), lvs1, ← e7, ← e8, f9, encClaim_cell (nth_d e5).2 (j := 2) (by decide), ← e10]; intros; first | exact KD.mk | exact KD.mkN)
     ·rfl
     ·simp [tmD, putD, ← e4, nth_d e5, f6, encClaim_cell (nth_d e5).2 (j := 1) (by decide), lvs1, ← e7, ← e8, f9, encClaim_cell (nth_d e5).2 (j := 2) (by decide), ← e10]; rfl
     ·simp [← e4, nth_d e5, f6, encClaim_cell (nth_d e5).2 (j := 1) (by decide), lvs1, ← e7, ← e8, f9, encClaim_cell (nth_d e5).2 (j := 2) (by decide), ← e10]
      intros; rfl
     obtain rfl := Option.some.inj h
     refine nP_i ?_
     refine Weak.mixB 1 [some 0, some 1] hn0 (by decide) (by decide) ?_ ?_ ?_
     all_goals first | (simp [inv_cons, inv_nil, pickOb]; done) | rfl
   | false =>
    replace h := iteF rfl h
    apply AW.drawnR (V := [_, _, _, _, _, _, _, _, _, _, _, _, _, _, _, _, _, _, _, _, _, _, _, _, _, _, _, _, _, _, _]) mixed [⟨[0], [], [(5, none)], false⟩, ⟨[0], [0], [(9, some 0)], false⟩, ⟨[0], [0, 1], [(10, some 1)], false⟩, ⟨[0], [0, 1, 2], [(0, none), (11, some 2)], false⟩, ⟨[0], [0, 1, 2], [(5, none), (11, some 2)], false⟩, ⟨[0], [0, 1, 2, 3, 4], [(11, some 2), (12, some 3), (13, some 4)], false⟩, ⟨[0], [0, 1, 2, 3, 4, 5], [(11, some 2), (14, some 5)], false⟩, ⟨[0], [0, 1, 2, 3, 4, 5, 6], [(11, some 2), (15, some 6)], false⟩, ⟨[0], [0, 1, 2], [(3, none), (11, some 2)], false⟩, ⟨[0], [0, 1, 2, 8], [(11, some 2), (17, some 8)], false⟩, ⟨[0], [0, 1, 2, 8, 9], [(11, some 2), (18, some 9)], false⟩, ⟨[0], [0, 1, 2, 3, 4, 5, 6, 7, 8, 9, 10], [(11, some 2), (16, some 7), (19, some 10)], false⟩, ⟨[0], [0, 1, 2, 3, 4, 5, 6, 7, 8, 9, 10, 11], [(11, some 2), (20, some 11)], false⟩, ⟨[0], [0, 1, 2, 3, 4, 5, 6, 7, 8, 9, 10, 11, 12], [(21, some 12)], false⟩, ⟨[0], [0, 1, 2, 3, 4, 5, 6, 7, 8, 9, 10, 11, 12, 13], [(0, none), (22, some 13)], false⟩, ⟨[0], [0, 1, 2, 3, 4, 5, 6, 7, 8, 9, 10, 11, 12, 13], [(5, none), (22, some 13)], false⟩, ⟨[0], [0, 1, 2, 3, 4, 5, 6, 7, 8, 9, 10, 11, 12, 13, 14, 15], [(22, some 13), (23, some 14), (24, some 15)], false⟩, ⟨[0], [0, 1, 2, 3, 4, 5, 6, 7, 8, 9, 10, 11, 12, 13, 14, 15, 16], [(22, some 13), (25, some 16)], false⟩, ⟨[0], [0, 1, 2, 3, 4, 5, 6, 7, 8, 9, 10, 11, 12, 13, 14, 15, 16, 17], [(22, some 13), (26, some 17)], false⟩, ⟨[0], [0, 1, 2, 3, 4, 5, 6, 7, 8, 9, 10, 11, 12, 13], [(3, none), (22, some 13)], false⟩, ⟨[0], [0, 1, 2, 3, 4, 5, 6, 7, 8, 9, 10, 11, 12, 13, 19], [(22, some 13), (28, some 19)], false⟩, ⟨[0], [0, 1, 2, 3, 4, 5, 6, 7, 8, 9, 10, 11, 12, 13, 14, 15, 16, 17, 18, 19, 20], [(22, some 13), (27, some 18), (29, some 20)], false⟩, ⟨[0], [0, 1, 2, 3, 4, 5, 6, 7, 8, 9, 10, 11, 12, 13, 14, 15, 16, 17, 18, 19, 20, 21], [(22, some 13), (30, some 21)], false⟩, ⟨[0], [0, 1, 2, 3, 4, 5, 6, 7, 8, 9, 10, 11, 12, 13, 14, 15, 16, 17, 18, 19, 20, 21, 22], [(31, some 22)], false⟩, ⟨[0], [0, 1, 2, 3, 4, 5, 6, 7, 8, 9, 10, 11, 12, 13, 14, 15, 16, 17, 18, 19, 20, 21, 22, 23], [(0, none), (32, some 23)], false⟩, ⟨[0], [0, 1, 2, 3, 4, 5, 6, 7, 8, 9, 10, 11, 12, 13, 14, 15, 16, 17, 18, 19, 20, 21, 22, 23], [(5, none), (32, some 23)], false⟩, ⟨[0], [0, 1, 2, 3, 4, 5, 6, 7, 8, 9, 10, 11, 12, 13, 14, 15, 16, 17, 18, 19, 20, 21, 22, 23, 24, 25], [(32, some 23), (33, some 24), (34, some 25)], false⟩, ⟨[0], [0, 1, 2, 3, 4, 5, 6, 7, 8, 9, 10, 11, 12, 13, 14, 15, 16, 17, 18, 19, 20, 21, 22, 23, 24, 25, 26], [(32, some 23), (35, some 26)], false⟩, ⟨[0], [0, 1, 2, 3, 4, 5, 6, 7, 8, 9, 10, 11, 12, 13, 14, 15, 16, 17, 18, 19, 20, 21, 22, 23, 24, 25, 26, 27], [(32, some 23), (36, some 27)], false⟩, ⟨[0], [0, 1, 2, 3, 4, 5, 6, 7, 8, 9, 10, 11, 12, 13, 14, 15, 16, 17, 18, 19, 20, 21, 22, 23], [(3, none), (32, some 23)], false⟩, ⟨[0], [0, 1, 2, 3, 4, 5, 6, 7, 8, 9, 10, 11, 12, 13, 14, 15, 16, 17, 18, 19, 20, 21, 22, 23, 29], [(32, some 23), (38, some 29)], false⟩, ⟨[], [0, 1, 2, 3, 4, 5, 6, 7, 8, 9, 10, 11, 12, 13, 14, 15, 16, 17, 18, 19, 20, 21, 22, 23, 24, 25, 26, 27, 28, 29, 30], [], false⟩, ⟨[], [0, 1, 2, 3, 4, 5, 6, 7, 8, 9, 10, 11, 12, 13, 14, 15, 16, 17, 18, 19, 20, 21, 22, 23, 24, 25, 26, 27, 28, 29, 30, 31], [], false⟩] 31 (by kernel_rfl) (by kernel_rfl)
    ·refine ⟨?_, ?_, ?_, ?_, ?_, ?_, ?_, ?_, ?_, ?_, ?_, ?_, ?_, ?_, ?_, ?_, ?_, ?_, ?_, ?_, ?_, ?_, ?_, ?_, ?_, ?_, ?_, ?_, ?_, ?_, ?_, trivial⟩
     iterate 31 (· intro tm hr; simp [AllL, rdV] at hr; simp [hr, ← e4, nth_d e5, f6, encClaim_cell (nth_d e5).2 (j := 1) (by decide), lvs1, ← e7, ← e8]; intros; first | exact KD.mk | exact KD.mkN)
    ·rfl
    ·simp [tmD, putD, ← e4, nth_d e5, f6, encClaim_cell (nth_d e5).2 (j := 1) (by decide), lvs1, ← e7, ← e8]; rfl
    ·simp [← e4, nth_d e5, f6, encClaim_cell (nth_d e5).2 (j := 1) (by decide), lvs1, ← e7, ← e8]
     intros; rfl
    obtain rfl := Option.some.inj h
    refine nP_i ?_
    refine Weak.mixB 1 [some 0, some 1] hn0 (by decide) (by decide) ?_ ?_ ?_
    all_goals first | (simp [inv_cons, inv_nil, pickOb]; done) | rfl
  | false =>
   replace h := iteF rfl h
   apply AW.drawnR (V := [_, _, _, _, _, _, _, _, _, _, _, _, _, _, _, _, _, _, _, _, _, _, _, _, _, _, _, _, _, _, _]) mixed [⟨[0], [], [(5, none)], false⟩, ⟨[0], [0], [(9, some 0)], false⟩, ⟨[0], [0, 1], [(10, some 1)], false⟩, ⟨[0], [0, 1, 2], [(0, none), (11, some 2)], false⟩, ⟨[0], [0, 1, 2], [(5, none), (11, some 2)], false⟩, ⟨[0], [0, 1, 2, 3, 4], [(11, some 2), (12, some 3), (13, some 4)], false⟩, ⟨[0], [0, 1, 2, 3, 4, 5], [(11, some 2), (14, some 5)], false⟩, ⟨[0], [0, 1, 2, 3, 4, 5, 6], [(11, some 2), (15, some 6)], false⟩, ⟨[0], [0, 1, 2], [(3, none), (11, some 2)], false⟩, ⟨[0], [0, 1, 2, 8], [(11, some 2), (17, some 8)], false⟩, ⟨[0], [0, 1, 2, 8, 9], [(11, some 2), (18, some 9)], false⟩, ⟨[0], [0, 1, 2, 3, 4, 5, 6, 7, 8, 9, 10], [(11, some 2), (16, some 7), (19, some 10)], false⟩, ⟨[0], [0, 1, 2, 3, 4, 5, 6, 7, 8, 9, 10, 11], [(11, some 2), (20, some 11)], false⟩, ⟨[0], [0, 1, 2, 3, 4, 5, 6, 7, 8, 9, 10, 11, 12], [(21, some 12)], false⟩, ⟨[0], [0, 1, 2, 3, 4, 5, 6, 7, 8, 9, 10, 11, 12, 13], [(0, none), (22, some 13)], false⟩, ⟨[0], [0, 1, 2, 3, 4, 5, 6, 7, 8, 9, 10, 11, 12, 13], [(5, none), (22, some 13)], false⟩, ⟨[0], [0, 1, 2, 3, 4, 5, 6, 7, 8, 9, 10, 11, 12, 13, 14, 15], [(22, some 13), (23, some 14), (24, some 15)], false⟩, ⟨[0], [0, 1, 2, 3, 4, 5, 6, 7, 8, 9, 10, 11, 12, 13, 14, 15, 16], [(22, some 13), (25, some 16)], false⟩, ⟨[0], [0, 1, 2, 3, 4, 5, 6, 7, 8, 9, 10, 11, 12, 13, 14, 15, 16, 17], [(22, some 13), (26, some 17)], false⟩, ⟨[0], [0, 1, 2, 3, 4, 5, 6, 7, 8, 9, 10, 11, 12, 13], [(3, none), (22, some 13)], false⟩, ⟨[0], [0, 1, 2, 3, 4, 5, 6, 7, 8, 9, 10, 11, 12, 13, 19], [(22, some 13), (28, some 19)], false⟩, ⟨[0], [0, 1, 2, 3, 4, 5, 6, 7, 8, 9, 10, 11, 12, 13, 14, 15, 16, 17, 18, 19, 20], [(22, some 13), (27, some 18), (29, some 20)], false⟩, ⟨[0], [0, 1, 2, 3, 4, 5, 6, 7, 8, 9, 10, 11, 12, 13, 14, 15, 16, 17, 18, 19, 20, 21], [(22, some 13), (30, some 21)], false⟩, ⟨[0], [0, 1, 2, 3, 4, 5, 6, 7, 8, 9, 10, 11, 12, 13, 14, 15, 16, 17, 18, 19, 20, 21, 22], [(31, some 22)], false⟩, ⟨[0], [0, 1, 2, 3, 4, 5, 6, 7, 8, 9, 10, 11, 12, 13, 14, 15, 16, 17, 18, 19, 20, 21, 22, 23], [(0, none), (32, some 23)], false⟩, ⟨[0], [0, 1, 2, 3, 4, 5, 6, 7, 8, 9, 10, 11, 12, 13, 14, 15, 16, 17, 18, 19, 20, 21, 22, 23], [(5, none), (32, some 23)], false⟩, ⟨[0], [0, 1, 2, 3, 4, 5, 6, 7, 8, 9, 10, 11, 12, 13, 14, 15, 16, 17, 18, 19, 20, 21, 22, 23, 24, 25], [(32, some 23), (33, some 24), (34, some 25)], false⟩, ⟨[0], [0, 1, 2, 3, 4, 5, 6, 7, 8, 9, 10, 11, 12, 13, 14, 15, 16, 17, 18, 19, 20, 21, 22, 23, 24, 25, 26], [(32, some 23), (35, some 26)], false⟩, ⟨[0], [0, 1, 2, 3, 4, 5, 6, 7, 8, 9, 10, 11, 12, 13, 14, 15, 16, 17, 18, 19, 20, 21, 22, 23, 24, 25, 26, 27], [(32, some 23), (36, some 27)], false⟩, ⟨[0], [0, 1, 2, 3, 4, 5, 6, 7, 8, 9, 10, 11, 12, 13, 14, 15, 16, 17, 18, 19, 20, 21, 22, 23], [(3, none), (32, some 23)], false⟩, ⟨[0], [0, 1, 2, 3, 4, 5, 6, 7, 8, 9, 10, 11, 12, 13, 14, 15, 16, 17, 18, 19, 20, 21, 22, 23, 29], [(32, some 23), (38, some 29)], false⟩, ⟨[], [0, 1, 2, 3, 4, 5, 6, 7, 8, 9, 10, 11, 12, 13, 14, 15, 16, 17, 18, 19, 20, 21, 22, 23, 24, 25, 26, 27, 28, 29, 30], [], false⟩, ⟨[], [0, 1, 2, 3, 4, 5, 6, 7, 8, 9, 10, 11, 12, 13, 14, 15, 16, 17, 18, 19, 20, 21, 22, 23, 24, 25, 26, 27, 28, 29, 30, 31], [], false⟩] 31 (by kernel_rfl) (by kernel_rfl)
   ·refine ⟨?_, ?_, ?_, ?_, ?_, ?_, ?_, ?_, ?_, ?_, ?_, ?_, ?_, ?_, ?_, ?_, ?_, ?_, ?_, ?_, ?_, ?_, ?_, ?_, ?_, ?_, ?_, ?_, ?_, ?_, ?_, trivial⟩
    iterate 31 (· intro tm hr; simp [AllL, rdV] at hr; simp [hr, ← e4]; intros; first | exact KD.mk | exact KD.mkN)
   ·rfl
   ·simp [tmD, putD, ← e4]; rfl
   ·simp [← e4]
    intros; rfl
   obtain rfl := Option.some.inj h
   refine nP_i ?_
   refine Weak.mixB 1 [some 0, some 1] hn0 (by decide) (by decide) ?_ ?_ ?_
   all_goals first | (simp [inv_cons, inv_nil, pickOb]; done) | rfl
 ·rintro e s hp
  obtain ⟨rfl, hw⟩ := hp
  refine ⟨_, hw, ?_⟩
  try simp only [sp_l, sp_r, Post.seq, Post.block, Nat.reduceEqDiff, reduceIte, Nat.zero_ne_one, Nat.one_ne_zero]
  replace h := ltE h; obtain ⟨v13, e13, h⟩ := h
  rw [← e13]
  cases v13 with
  | true =>
   replace h := iteT rfl h
   refine AW.cond_true (by simp) ?_
   replace h := bnE h; obtain ⟨v14, e14, h⟩ := h
   have f15 := nth_lt e14
   try simp [nth_d e14] at f15
   replace h := ltE h; obtain ⟨v16, e16, h⟩ := h
   have f17 := encClaim_put (nth_d e14).2 e16 (j := 1) (cs := [.s (.int .i64 a1.to)]) (by simp) rfl
   try simp at f17
   have f18 := f15
   try simp only [set_len e16] at f18
   apply AW.step
   ·simp [nth_d e14, f15, encClaim_fitj (nth_d e14).2 (j := 1) (m := 1) (by decide), f17, f18]
    intros; rfl
   apply AW.step
   ·simp
    intros; rfl
   obtain rfl := Option.some.inj h
   refine AW.ret ?_
   refine Left.of (av := _) (by simp [Try.f55, resV, resC, comp]; rfl) ?_
   exact LeftV.mix 1 [some 0] hn0 rfl (by decide) rfl (by simp [pickOb, inv_cons, inv_nil, set_len e16]) (by simp [inv_cons, inv_nil, set_len e16])
  | false =>
   replace h := iteF rfl h
   refine AW.cond_false (by simp) ?_
   refine AW.skip ?_
   try simp only [sp_l, sp_r, Post.seq, Post.block, Nat.reduceEqDiff, reduceIte, Nat.zero_ne_one, Nat.one_ne_zero]
   try simp only [sp_l, sp_r, Post.seq, Post.block, Nat.reduceEqDiff, reduceIte, Nat.zero_ne_one, Nat.one_ne_zero]
   replace h := chkE h; obtain ⟨e19, h⟩ := h
   replace h := ltE h; obtain ⟨v20, e20, h⟩ := h
   apply AW.step
   ·simp [St.grow, obsBut, ← encClaim_append, ← e20, app_len1 e20]
    intros
    refine xrow_own ?_
    try simp [St.grow, obsBut, ← encClaim_append, ← e20, app_len1 e20]
    intros
    refine xapp_push (acc := encClaim a0) (ys := encClaim [a1]) (cap := none) (k := 1) tb_el24 tb_ti41 (by simp) (by simp [encClaim, lvs]) (encClaim_sz _) (by simp) (by simp) (by first | (simp; done) | simpa using (room_d e19).1) ?_
    try simp [St.grow, obsBut, ← encClaim_append, ← e20, app_len1 e20]
    intros; rfl
   obtain rfl := Option.some.inj h
   refine AW.ret ?_
   refine Left.of (av := _) (by simp [Try.f55, resV, resC, comp]; rfl) ?_
   exact LeftV.mix 1 [some 0] hn0 rfl (by decide) rfl (by simp [pickOb, inv_cons, inv_nil, lvs_encClaim1]) (by simp [inv_cons, inv_nil, lvs_encClaim1])
theorem en_r13_more_xf : Enters Try.prog 55 := enters Try.func55 (by kernel_rfl) rfl
def r13_Give_sh (n : Nat) (a0 : List Claim) (a1 : List Span) (a2 : Int) (a3 : Int) : Option (List Claim) :=
bn (r1_Norm_sh n a1) fun v1 =>
bn (r13_marks_sh n [] a0) fun v2 =>
bn (iter n (fun (y3 : List Int × Int) =>
lt (lenI v1) fun v6 =>
lt (ltI y3.2 v6) fun v7 =>
ite' v7 (bn (nth v1 y3.2) fun v8 =>
bn (r1_Mark_sh n y3.1 v8.frm) fun v9 =>
lt (addI .i64 v8.to 1) fun v10 =>
bn (r1_Mark_sh n v9 v10) fun v11 =>
lt (addI .i64 y3.2 1) fun v12 =>
some (.inl (v11, v12))) (some (.inr y3.1))) (v2, 0)) fun (y4 : List Int) =>
bn (iter n (fun (y13 : Int × List Claim) =>
lt (addI .i64 y13.1 1) fun v16 =>
lt (lenI y4) fun v17 =>
lt (ltI v16 v17) fun v18 =>
ite' v18 (bn (bn (nth y4 y13.1) fun v20 =>
bn (r13_Of_sh n a0 v20) fun v21 =>
bn (bn (r1_Has_sh n v1 v20) fun v23 =>
ite' v23 (some ((a2, a3))) (some ((v21.1, v21.2)))) fun (y22 : Int × Int) =>
lt (geI y22.1 0) fun v24 =>
ite' v24 (bn (nth y4 y13.1) fun v25 =>
lt (addI .i64 y13.1 1) fun v26 =>
bn (nth y4 v26) fun v27 =>
lt (subI .i64 v27 1) fun v28 =>
bn (r13_more_xf_sh n y13.2 (⟨v25, v28, y22.1, y22.2⟩ : Claim)) fun v29 =>
some (v29)) (some (y13.2))) fun (y19 : List Claim) =>
lt (addI .i64 y13.1 1) fun v30 =>
some (.inl (v30, y19))) (some (.inr y13.2))) (0, [])) fun (y14 : List Claim) =>
chk (room y14.length 1) <|
some y14
set_option maxRecDepth 8000 in
set_option maxHeartbeats 8000000 in
theorem s_r13_Give {n : Nat} {a0 : List Claim} {a1 : List Span} {a2 : Int} {a3 : Int} {r : List Claim} (h : r13_Give_sh n a0 a1 a2 a3 = some r) : Sound Try.prog 36 [.l (.d false 4 (encClaim a0)), .l (.d false 2 (encSpan a1)), .l (.s (.int .i64 a2)), .l (.s (.int .i64 a3))] [] (.l (.d false 4 (encClaim r))) [] := by
 unfold r13_Give_sh at h
 refine Sound.of_aw (fn := Try.f36) (c := _) Try.func36 rfl (by simp [Try.f36]) fun cx hG hnb => ?_
 rw [show Try.f36.ntmps = 83 from rfl]
 have hn0 : cx.nb = 0 := hnb
 simp only [st0_mk, initTm, List.map_cons, List.map_nil]
 apply AW.step
 ·simp
  intros; rfl
 replace h := bnE h; obtain ⟨v1, e1, h⟩ := h
 apply AW.step
 ·simp
  intros
  refine xcall_plain en_r1_Norm (s_r1_Norm e1) rfl ⟨.same rfl, trivial⟩ ?_
  try simp
  intros; rfl
 replace h := bnE h; obtain ⟨v2, e2, h⟩ := h
 apply AW.step
 ·simp
  intros
  refine xcall_plain en_r13_marks (s_r13_marks e2) rfl ⟨.nil _ _, .same rfl, trivial⟩ ?_
  try simp
  intros; rfl
 refine AW.seq ?_
 apply AW.step
 ·simp
  intros; rfl
 refine AW.block ?_
 replace h := bnE h; obtain ⟨y4, g4, h⟩ := h
 refine AW.iterP g4 (mk := fun gh ls q => (⟨[(0, .l (.d false 4 (encClaim a0))), (2, .l (.s (.int .i64 a2))), (3, .l (.s (.int .i64 a3))), (9, .l (.d false 2 (encSpan v1))), (10, .l (.d false 1 (encI q.1))), (11, .l (.s (.int .i64 q.2)))], [], 83, gh, ls⟩ : St)) (N := fun gh ls => (xP 0 (cx := cx) (fun q => (⟨[(0, .l (.d false 4 (encClaim a0))), (2, .l (.s (.int .i64 a2))), (3, .l (.s (.int .i64 a3))), (9, .l (.d false 2 (encSpan v1))), (10, .l (.d false 1 (encI q)))], [], 83, gh, ls⟩ : St)))) ?_ noX ?_ ?_
 ·refine Weak.mixN [] hn0 (by decide) ?_ ?_ rfl
  all_goals first | (simp [inv_cons, inv_nil, pickOb]; done) | rfl
 ·clear h; intro y3 y5 h
  refine AW.seq ?_
  replace h := ltE h; obtain ⟨v6, e6, h⟩ := h
  replace h := ltE h; obtain ⟨v7, e7, h⟩ := h
  apply AW.step
  ·simp [lenI_cast e6, ← e7]
   intros; rfl
  cases v7 with
  | true =>
   replace h := iteT rfl h
   refine AW.cond_true (by simp) ?_
   refine AW.skip ?_
   try simp only [sp_l, sp_r, Post.seq, Post.block, Nat.reduceEqDiff, reduceIte, Nat.zero_ne_one, Nat.one_ne_zero]
   try simp only [sp_l, sp_r, Post.seq, Post.block, Nat.reduceEqDiff, reduceIte, Nat.zero_ne_one, Nat.one_ne_zero]
   refine AW.seq ?_
   refine AW.block ?_
   replace h := bnE h; obtain ⟨v8, e8, h⟩ := h
   replace h := bnE h; obtain ⟨v9, e9, h⟩ := h
   apply AW.step
   ·simp [nth_d e8]
    intros
    refine xcall_plain en_r1_Mark (s_r1_Mark e9) rfl ⟨.same rfl, .same rfl, trivial⟩ ?_
    try simp [nth_d e8]
    intros; rfl
   replace h := ltE h; obtain ⟨v10, e10, h⟩ := h
   replace h := bnE h; obtain ⟨v11, e11, h⟩ := h
   apply AW.last
   ·simp [nth_d e8, ← e10]
    intros
    refine xcall_plain en_r1_Mark (s_r1_Mark e11) rfl ⟨.same rfl, .same rfl, trivial⟩ ?_
    try simp [nth_d e8, ← e10]
    intros; rfl
   try simp only [sp_l, sp_r, Post.seq, Post.block, Nat.reduceEqDiff, reduceIte, Nat.zero_ne_one, Nat.one_ne_zero]
   replace h := ltE h; obtain ⟨v12, e12, h⟩ := h
   apply AW.last
   ·simp [← e12]
    intros; rfl
   obtain rfl := Option.some.inj h
   refine nP_i ?_
   refine Weak.mixN [] hn0 (by decide) ?_ ?_ rfl
   all_goals first | (simp [inv_cons, inv_nil, pickOb]; done) | rfl
  | false =>
   replace h := iteF rfl h
   refine AW.cond_false (by simp) ?_
   refine AW.exit ?_
   try simp only [sp_l, sp_r, Post.seq, Post.block, Nat.reduceEqDiff, reduceIte, Nat.zero_ne_one, Nat.one_ne_zero]
   obtain rfl := Option.some.inj h
   refine xP_i ?_
   refine Weak.mixN [] hn0 (by decide) ?_ ?_ rfl
   all_goals first | (simp [inv_cons, inv_nil, pickOb]; done) | rfl
 ·rintro e s hp
  obtain ⟨rfl, hw⟩ := hp
  refine ⟨_, hw, ?_⟩
  try simp only [sp_l, sp_r, Post.seq, Post.block, Nat.reduceEqDiff, reduceIte, Nat.zero_ne_one, Nat.one_ne_zero]
  apply AW.step
  ·simp
   intros; rfl
  refine AW.seq ?_
  apply AW.step
  ·simp
   intros; rfl
  refine AW.block ?_
  replace h := bnE h; obtain ⟨y14, g14, h⟩ := h
  refine AW.iterP g14 (mk := fun gh ls q => (⟨[(0, .l (.d false 4 (encClaim a0))), (2, .l (.s (.int .i64 a2))), (3, .l (.s (.int .i64 a3))), (9, .l (.d false 2 (encSpan v1))), (10, .l (.d false 1 (encI y4))), (12, .l (.r 0 4 0 q.2.length)), (13, .l (.s (.int .i64 q.1)))], [some ⟨41, 4, true, none, lvs (encClaim q.2)⟩], 83, gh, ls⟩ : St)) (N := fun gh ls => (xP 2 (cx := cx) (fun q => (⟨[(12, .l (.r 0 4 0 q.length))], [some ⟨41, 4, true, none, lvs (encClaim q)⟩], 83, gh, ls⟩ : St)))) ?_ noX ?_ ?_
  ·refine W.nilRow 12 41 4 0 (by simp) rfl rfl ?_
   refine Weak.mixN [some 0] hn0 (by decide) ?_ ?_ rfl
   all_goals first | (simp [inv_cons, inv_nil, pickOb]; done) | rfl
  ·clear h; intro y13 y15 h
   refine AW.seq ?_
   replace h := ltE h; obtain ⟨v16, e16, h⟩ := h
   replace h := ltE h; obtain ⟨v17, e17, h⟩ := h
   replace h := ltE h; obtain ⟨v18, e18, h⟩ := h
   apply AW.step
   ·simp [← e16, lenI_cast e17, ← e18]
    intros; rfl
   cases v18 with
   | true =>
    replace h := iteT rfl h
    refine AW.cond_true (by simp) ?_
    refine AW.skip ?_
    try simp only [sp_l, sp_r, Post.seq, Post.block, Nat.reduceEqDiff, reduceIte, Nat.zero_ne_one, Nat.one_ne_zero]
    try simp only [sp_l, sp_r, Post.seq, Post.block, Nat.reduceEqDiff, reduceIte, Nat.zero_ne_one, Nat.one_ne_zero]
    replace h := bnE h; obtain ⟨y19, g19, h⟩ := h
    refine AW.flow (p := fun gh ls => (nP (cx := cx) (fun q => (⟨[(0, .l (.d false 4 (encClaim a0))), (2, .l (.s (.int .i64 a2))), (3, .l (.s (.int .i64 a3))), (9, .l (.d false 2 (encSpan v1))), (10, .l (.d false 1 (encI y4))), (12, .l (.r 0 4 0 q.length)), (13, .l (.s (.int .i64 y13.1)))], [some ⟨41, 4, true, none, lvs (encClaim q)⟩], 83, gh, ls⟩ : St))) y19) ?_ ?_
    ·replace h := g19; clear g19
     refine AW.block ?_
     replace h := bnE h; obtain ⟨v20, e20, h⟩ := h
     replace h := bnE h; obtain ⟨v21, e21, h⟩ := h
     apply AW.step
     ·simp [nth_d e20]
      intros
      refine xcall_plain en_r13_Of (s_r13_Of e21) rfl ⟨.same rfl, .same rfl, trivial⟩ ?_
      try simp [nth_d e20]
      intros; rfl
     replace h := bnE h; obtain ⟨y22, g22, h⟩ := h
     refine AW.flow (p := fun gh ls => (nP (cx := cx) (fun q => (⟨[(0, .l (.d false 4 (encClaim a0))), (2, .l (.s (.int .i64 a2))), (3, .l (.s (.int .i64 a3))), (9, .l (.d false 2 (encSpan v1))), (10, .l (.d false 1 (encI y4))), (12, .l (.r 0 4 0 y13.2.length)), (13, .l (.s (.int .i64 y13.1))), (14, .l (.s (.int .i64 q.1))), (15, .l (.s (.int .i64 q.2)))], [some ⟨41, 4, true, none, lvs (encClaim y13.2)⟩], 83, gh, ls⟩ : St))) y22) ?_ ?_
     ·replace h := g22; clear g22
      replace h := bnE h; obtain ⟨v23, e23, h⟩ := h
      apply AW.step
      ·simp [nth_d e20]
       intros
       refine xcall_plain en_r1_Has (s_r1_Has e23) rfl ⟨.same rfl, .same rfl, trivial⟩ ?_
       try simp [nth_d e20]
       intros; rfl
      cases v23 with
      | true =>
       replace h := iteT rfl h
       refine AW.cond_true (by simp) ?_
       apply AW.step
       ·simp
        intros; rfl
       apply AW.last
       ·simp
        intros; rfl
       obtain rfl := Option.some.inj h
       refine nP_i ?_
       refine Weak.mixN [some 0] hn0 (by decide) ?_ ?_ rfl
       all_goals first | (simp [inv_cons, inv_nil, pickOb]; done) | rfl
      | false =>
       replace h := iteF rfl h
       refine AW.cond_false (by simp) ?_
       refine AW.skip ?_
       try simp only [sp_l, sp_r, Post.seq, Post.block, Nat.reduceEqDiff, reduceIte, Nat.zero_ne_one, Nat.one_ne_zero]
       obtain rfl := Option.some.inj h
       refine nP_i ?_
       refine Weak.mixN [some 0] hn0 (by decide) ?_ ?_ rfl
       all_goals first | (simp [inv_cons, inv_nil, pickOb]; done) | rfl
     ·rintro e s hp
      obtain ⟨rfl, hw⟩ := hp
      refine ⟨_, hw, ?_⟩
      try simp only [sp_l, sp_r, Post.seq, Post.block, Nat.reduceEqDiff, reduceIte, Nat.zero_ne_one, Nat.one_ne_zero]
      replace h := ltE h; obtain ⟨v24, e24, h⟩ := h
      apply AW.step
      ·simp [← e24]
       intros; rfl
      cases v24 with
      | true =>
       replace h := iteT rfl h
       refine AW.cond_true (by simp) ?_
       replace h := bnE h; obtain ⟨v25, e25, h⟩ := h
       replace h := ltE h; obtain ⟨v26, e26, h⟩ := h
       replace h := bnE h; obtain ⟨v27, e27, h⟩ := h
       replace h := ltE h; obtain ⟨v28, e28, h⟩ := h
       replace h := bnE h; obtain ⟨v29, e29, h⟩ := h
       apply AW.drawnR (V := [_, _, _, _, _, _, _, _, _, _, _, _, _, _]) mixed [⟨[0], [], [(12, none)], false⟩, ⟨[0], [], [(10, none)], false⟩, ⟨[0], [], [(13, none)], false⟩, ⟨[0], [1, 2], [(68, some 1), (69, some 2)], false⟩, ⟨[0], [1, 2, 3], [(70, some 3)], false⟩, ⟨[0], [], [(10, none)], false⟩, ⟨[0], [], [(13, none)], false⟩, ⟨[0], [6], [(73, some 6)], false⟩, ⟨[0], [5, 6, 7], [(72, some 5), (74, some 7)], false⟩, ⟨[0], [5, 6, 7, 8], [(75, some 8)], false⟩, ⟨[0], [5, 6, 7, 8, 9], [(76, some 9)], false⟩, ⟨[0], [], [(14, none)], false⟩, ⟨[0], [], [(15, none)], false⟩, ⟨[0], [1, 2, 3, 4, 5, 6, 7, 8, 9, 10, 11, 12], [(71, some 4), (77, some 10), (78, some 11), (79, some 12)], false⟩, ⟨[], [0, 1, 2, 3, 4, 5, 6, 7, 8, 9, 10, 11, 12, 13], [], false⟩, ⟨[], [0, 1, 2, 3, 4, 5, 6, 7, 8, 9, 10, 11, 12, 13, 14], [], false⟩] 14 (by kernel_rfl) (by kernel_rfl)
       ·refine ⟨?_, ?_, ?_, ?_, ?_, ?_, ?_, ?_, ?_, ?_, ?_, ?_, ?_, ?_, trivial⟩
        iterate 14 (· intro tm hr; simp [AllL, rdV] at hr; simp [hr, nth_d e25, ← e26, nth_d e27, ← e28, obAfter, outR, keptR, inv_cons, inv_nil]; intros; first | exact KD.mk | exact KD.mkN)
       ·rfl
       ·simp [tmD, putD, nth_d e25, ← e26, nth_d e27, ← e28, obAfter, outR, keptR, inv_cons, inv_nil]; rfl
       ·simp [nth_d e25, ← e26, nth_d e27, ← e28, obAfter, outR, keptR, inv_cons, inv_nil]
        intros
        refine xcall_obs [0] en_r13_more_xf (s_r13_more_xf e29) (by decide) (by simp [pickOb, inv_cons, inv_nil]) rfl rfl (by simp) ⟨.l (.own' (by simp [inv_cons, inv_nil]) (by simp)), .g ⟨.s _, .s _, .s _, .s _, trivial⟩, trivial⟩ ?_
        try simp [nth_d e25, ← e26, nth_d e27, ← e28, obAfter, outR, keptR, inv_cons, inv_nil]
        intros; rfl
       obtain rfl := Option.some.inj h
       refine nP_i ?_
       refine Weak.mixN [some 0] hn0 (by decide) ?_ ?_ rfl
       all_goals first | (simp [inv_cons, inv_nil, pickOb]; done) | rfl
      | false =>
       replace h := iteF rfl h
       refine AW.cond_false (by simp) ?_
       refine AW.skip ?_
       try simp only [sp_l, sp_r, Post.seq, Post.block, Nat.reduceEqDiff, reduceIte, Nat.zero_ne_one, Nat.one_ne_zero]
       obtain rfl := Option.some.inj h
       refine nP_i ?_
       refine Weak.mixN [some 0] hn0 (by decide) ?_ ?_ rfl
       all_goals first | (simp [inv_cons, inv_nil, pickOb]; done) | rfl
    ·rintro e s hp
     obtain ⟨rfl, hw⟩ := hp
     refine ⟨_, hw, ?_⟩
     try simp only [sp_l, sp_r, Post.seq, Post.block, Nat.reduceEqDiff, reduceIte, Nat.zero_ne_one, Nat.one_ne_zero]
     replace h := ltE h; obtain ⟨v30, e30, h⟩ := h
     apply AW.last
     ·simp [← e30]
      intros; rfl
     obtain rfl := Option.some.inj h
     refine nP_i ?_
     refine Weak.mixN [some 0] hn0 (by decide) ?_ ?_ rfl
     all_goals first | (simp [inv_cons, inv_nil, pickOb]; done) | rfl
   | false =>
    replace h := iteF rfl h
    refine AW.cond_false (by simp) ?_
    refine AW.exit ?_
    try simp only [sp_l, sp_r, Post.seq, Post.block, Nat.reduceEqDiff, reduceIte, Nat.zero_ne_one, Nat.one_ne_zero]
    obtain rfl := Option.some.inj h
    refine xP_i ?_
    refine Weak.mixN [some 0] hn0 (by decide) ?_ ?_ rfl
    all_goals first | (simp [inv_cons, inv_nil, pickOb]; done) | rfl
  ·rintro e s hp
   obtain ⟨rfl, hw⟩ := hp
   refine ⟨_, hw, ?_⟩
   try simp only [sp_l, sp_r, Post.seq, Post.block, Nat.reduceEqDiff, reduceIte, Nat.zero_ne_one, Nat.one_ne_zero]
   apply AW.step
   ·simp
    intros; rfl
   replace h := chkE h; obtain ⟨e31, h⟩ := h
   refine AW.frzRow 0 (ty := 41) (cap := none) (sz := 4) (es := encClaim y14) (by simp) (by omega) (encClaim_sz _) (by first | exact (room_d e31).2 | simpa using (room_d e31).2 | simp) (by simp [Tm.frz, AV.frz, LV.frz]; rfl) (by simp [Ob.frz, LV.frz]; rfl) rfl ?_
   obtain rfl := Option.some.inj h
   refine AW.ret ?_
   refine Left.plain hnb (by simp [Try.f36, resV, resC, comp]; rfl) rfl rfl ?_
   simp
theorem en_r13_Give : Enters Try.prog 36 := enters Try.func36 (by kernel_rfl) rfl
def r13_SameClaims_sh (n : Nat) (a0 : List Claim) (a1 : List Claim) : Option Bool :=
lt (lenI a0) fun v1 =>
lt (lenI a1) fun v2 =>
lt (neI v1 v2) fun v3 =>
ite' v3 (some false) (bn (iter n (fun (y4 : Int) =>
lt (lenI a0) fun v7 =>
lt (ltI y4 v7) fun v8 =>
ite' v8 (bn (nth a0 y4) fun v9 =>
bn (nth a1 y4) fun v10 =>
lt (notB (andB (eqI v9.frm v10.frm) (andB (eqI v9.to v10.to) (andB (eqI v9.node v10.node) (andB (eqI v9.epoch v10.epoch) true))))) fun v11 =>
ite' v11 (some (.inr (.inr false))) (lt (addI .i64 y4 1) fun v12 =>
some (.inl v12))) (some (.inr (.inl ())))) 0) fun (y5 : Unit ⊕ Bool) =>
sm y5 (fun y13 => some true) (fun y14 => some y14))
set_option maxRecDepth 8000 in
set_option maxHeartbeats 8000000 in
theorem s_r13_SameClaims {n : Nat} {a0 : List Claim} {a1 : List Claim} {r : Bool} (h : r13_SameClaims_sh n a0 a1 = some r) : Sound Try.prog 17 [.l (.d false 4 (encClaim a0)), .l (.d false 4 (encClaim a1))] [] (.l (.s (.bool r))) [] := by
 unfold r13_SameClaims_sh at h
 refine Sound.of_aw (fn := Try.f17) (c := _) Try.func17 rfl (by simp [Try.f17]) fun cx hG hnb => ?_
 rw [show Try.f17.ntmps = 26 from rfl]
 have hn0 : cx.nb = 0 := hnb
 simp only [st0_mk, initTm, List.map_cons, List.map_nil]
 apply AW.step
 ·simp
  intros; rfl
 refine AW.seq ?_
 replace h := ltE h; obtain ⟨v1, e1, h⟩ := h
 replace h := ltE h; obtain ⟨v2, e2, h⟩ := h
 replace h := ltE h; obtain ⟨v3, e3, h⟩ := h
 apply AW.step
 ·simp [lenI_cast e1, lenI_cast e2, ← e3]
  intros; rfl
 cases v3 with
 | true =>
  replace h := iteT rfl h
  refine AW.cond_true (by simp) ?_
  apply AW.step
  ·simp
   intros; rfl
  obtain rfl := Option.some.inj h
  refine AW.ret ?_
  refine Left.plain hnb (by simp [Try.f17, resV, resC, comp]; rfl) rfl rfl ?_
  simp
 | false =>
  replace h := iteF rfl h
  refine AW.cond_false (by simp) ?_
  refine AW.skip ?_
  try simp only [sp_l, sp_r, Post.seq, Post.block, Nat.reduceEqDiff, reduceIte, Nat.zero_ne_one, Nat.one_ne_zero]
  try simp only [sp_l, sp_r, Post.seq, Post.block, Nat.reduceEqDiff, reduceIte, Nat.zero_ne_one, Nat.one_ne_zero]
  refine AW.seq ?_
  apply AW.step
  ·simp
   intros; rfl
  refine AW.block ?_
  replace h := bnE h; obtain ⟨y5, g5, h⟩ := h
  refine AW.iterP g5 (mk := fun gh ls q => (⟨[(0, .l (.d false 4 (encClaim a0))), (1, .l (.d false 4 (encClaim a1))), (5, .l (.s (.int .i64 q)))], [], 26, gh, ls⟩ : St)) (N := fun gh ls => (sp (xP 0 (cx := cx) (fun _ => (⟨[], [], 26, gh, ls⟩ : St))) (rP (cx := cx) (P := Try.prog) Try.f17 (fun q => .l (.s (.bool q))) (fun q => [])))) ?_ (noS noX noR) ?_ ?_
  ·refine Weak.mixN [] hn0 (by decide) ?_ ?_ rfl
   all_goals first | (simp [inv_cons, inv_nil, pickOb]; done) | rfl
  ·clear h; intro y4 y6 h
   refine AW.seq ?_
   replace h := ltE h; obtain ⟨v7, e7, h⟩ := h
   replace h := ltE h; obtain ⟨v8, e8, h⟩ := h
   apply AW.step
   ·simp [lenI_cast e7, ← e8]
    intros; rfl
   cases v8 with
   | true =>
    replace h := iteT rfl h
    refine AW.cond_true (by simp) ?_
    refine AW.skip ?_
    try simp only [sp_l, sp_r, Post.seq, Post.block, Nat.reduceEqDiff, reduceIte, Nat.zero_ne_one, Nat.one_ne_zero]
    try simp only [sp_l, sp_r, Post.seq, Post.block, Nat.reduceEqDiff, reduceIte, Nat.zero_ne_one, Nat.one_ne_zero]
    refine AW.seq ?_
    refine AW.block ?_
    replace h := bnE h; obtain ⟨v9, e9, h⟩ := h
    replace h := bnE h; obtain ⟨v10, e10, h⟩ := h
    replace h := ltE h; obtain ⟨v11, e11, h⟩ := h
    apply AW.drawnP (V := [_, _, _, _, _, _, _, _]) mixed [⟨[0], [], [(0, none)], false⟩, ⟨[0], [], [(5, none)], false⟩, ⟨[0], [0, 1], [(17, some 0), (18, some 1)], false⟩, ⟨[0], [0, 1, 2], [(19, some 2)], false⟩, ⟨[0], [], [(1, none)], false⟩, ⟨[0], [], [(5, none)], false⟩, ⟨[0], [4, 5], [(21, some 4), (22, some 5)], false⟩, ⟨[0], [4, 5, 6], [(23, some 6)], false⟩, ⟨[], [0, 1, 2, 3, 4, 5, 6, 7], [], false⟩] 8 (by kernel_rfl) (by kernel_rfl)
    ·refine ⟨?_, ?_, ?_, ?_, ?_, ?_, ?_, ?_, trivial⟩
     iterate 8 (· intro tm hr; simp [AllL, rdV] at hr; simp [hr, nth_d e9, nth_d e10, ← e11]; intros; first | exact KD.mk | exact KD.mkN)
    ·rfl
    ·simp [tmD, putD, nth_d e9, nth_d e10, ← e11]; rfl
    ·simp [nth_d e9, nth_d e10, ← e11]
     intros; rfl
    cases v11 with
    | true =>
     replace h := iteT rfl h
     refine AW.cond_true (by simp) ?_
     apply AW.step
     ·simp
      intros; rfl
     obtain rfl := Option.some.inj h
     refine AW.ret ?_
     try simp only [sp_l, sp_r, Post.seq, Post.block, Nat.reduceEqDiff, reduceIte, Nat.zero_ne_one, Nat.one_ne_zero]
     refine rP_i ?_
     refine Left.plain hnb (by simp [Try.f17, resV, resC, comp]; rfl) rfl rfl ?_
     simp
    | false =>
     replace h := iteF rfl h
     refine AW.cond_false (by simp) ?_
     refine AW.skip ?_
     try simp only [sp_l, sp_r, Post.seq, Post.block, Nat.reduceEqDiff, reduceIte, Nat.zero_ne_one, Nat.one_ne_zero]
     try simp only [sp_l, sp_r, Post.seq, Post.block, Nat.reduceEqDiff, reduceIte, Nat.zero_ne_one, Nat.one_ne_zero]
     replace h := ltE h; obtain ⟨v12, e12, h⟩ := h
     apply AW.last
     ·simp [← e12]
      intros; rfl
     obtain rfl := Option.some.inj h
     refine nP_i ?_
     refine Weak.mixN [] hn0 (by decide) ?_ ?_ rfl
     all_goals first | (simp [inv_cons, inv_nil, pickOb]; done) | rfl
   | false =>
    replace h := iteF rfl h
    refine AW.cond_false (by simp) ?_
    refine AW.exit ?_
    try simp only [sp_l, sp_r, Post.seq, Post.block, Nat.reduceEqDiff, reduceIte, Nat.zero_ne_one, Nat.one_ne_zero]
    obtain rfl := Option.some.inj h
    try simp only [sp_l, sp_r]
    refine xP_i ?_
    refine Weak.mixN [] hn0 (by decide) ?_ ?_ rfl
    all_goals first | (simp [inv_cons, inv_nil, pickOb]; done) | rfl
  ·rintro e s hp
   rcases y5 with y13 | y14
   ·replace h := smL h
    obtain ⟨rfl, hw⟩ := hp
    refine ⟨_, hw, ?_⟩
    try simp only [sp_l, sp_r, Post.seq, Post.block, Nat.reduceEqDiff, reduceIte, Nat.zero_ne_one, Nat.one_ne_zero]
    apply AW.step
    ·simp
     intros; rfl
    obtain rfl := Option.some.inj h
    refine AW.ret ?_
    refine Left.plain hnb (by simp [Try.f17, resV, resC, comp]; rfl) rfl rfl ?_
    simp
   ·replace h := smR h
    obtain ⟨rfl, hl⟩ := hp
    refine ⟨_, Weak.refl _, ?_⟩
    obtain rfl := Option.some.inj h
    exact hl
theorem en_r13_SameClaims : Enters Try.prog 17 := enters Try.func17 (by kernel_rfl) rfl
end Go.Proofs.Ythjenkmbbnjcnaa

/- Plain laws: how shallow code runs. -/
namespace Go.Proofs.Ythjenkmbbnjcnaa
open Go Go.RowKit
set_option linter.unusedVariables false
set_option linter.unusedSimpArgs false
/-- Rounds enough for whatever lies in memory. -/
def big : Nat := 281474976710656
section
variable {α β γ : Type}
theorem iter_go {f : α → Option (α ⊕ β)} (Q : β → Prop) (I : Nat → α → Prop) (N : Nat)
    (h : ∀ k a, k ≤ N → I k a → (∃ a', k < N ∧ f a = some (.inl a') ∧ I (k + 1) a') ∨ ∃ b, f a = some (.inr b) ∧ Q b) :
    ∀ (d k : Nat) (a : α), k + d = N → I k a → ∀ n, d < n → ∃ b, iter n f a = some b ∧ Q b
  | d, k, a, hd, hI, 0, hn => by omega
  | d, k, a, hd, hI, n + 1, hn => by
    rcases h k a (by omega) hI with ⟨a', hk, h1, h2⟩ | ⟨b, h1, h2⟩
    · rw [iter_inl h1]
      match d with
      | 0 => omega
      | d + 1 => exact iter_go Q I N h d (k + 1) a' (by omega) h2 n (by omega)
    · exact ⟨b, iter_inr h1, h2⟩
/-- Rounds that end: what holds at the end. -/
theorem iter_inv {f : α → Option (α ⊕ β)} {a : α} (Q : β → Prop) (I : Nat → α → Prop) (N : Nat) (hN : N < big)
    (h0 : I 0 a) (h : ∀ k a, k ≤ N → I k a → (∃ a', k < N ∧ f a = some (.inl a') ∧ I (k + 1) a') ∨ ∃ b, f a = some (.inr b) ∧ Q b) : ∃ b, iter big f a = some b ∧ Q b :=
  iter_go Q I N h N 0 a (by omega) h0 big hN
theorem chk_t {b : Bool} {k : Option β} (h : b = true) : chk b k = k := by subst h; rfl
/-- Code runs, and what it yields is such. -/
def Rn (m : Option α) (Q : α → Prop) : Prop := ∃ v, m = some v ∧ Q v
theorem Rn.some {v : α} {Q : α → Prop} (h : Q v) : Rn (some v) Q := ⟨v, rfl, h⟩
theorem Rn.mono {m : Option α} {Q R : α → Prop} (h : Rn m Q) (hk : ∀ v, Q v → R v) : Rn m R := ⟨h.choose, h.choose_spec.1, hk _ h.choose_spec.2⟩
theorem Rn.lt {a : α} {k : α → Option β} {Q : β → Prop} (h : Rn (k a) Q) : Rn (lt a k) Q := h
theorem Rn.bn {m : Option α} {k : α → Option β} {P : α → Prop} {Q : β → Prop} (h : Rn m P) (hk : ∀ v, P v → Rn (k v) Q) : Rn (bn m k) Q := by
  obtain ⟨v, rfl, hv⟩ := h
  exact hk v hv
theorem Rn.bnE {m : Option α} {k : α → Option β} {v : α} {Q : β → Prop} (h : m = Option.some v) (hk : Rn (k v) Q) : Rn (Go.Proofs.Ythjenkmbbnjcnaa.bn m k) Q := by
  subst h
  exact hk
theorem Rn.chk {b : Bool} {k : Option β} {Q : β → Prop} (h : b = true) (hk : Rn k Q) : Rn (chk b k) Q := by
  subst h
  exact hk
theorem Rn.room {m c : Nat} {k : Option β} {Q : β → Prop} (h : m * c ≤ 140737488355328) (h2 : m ≤ 140737488355328) (hk : Rn k Q) : Rn (Go.Proofs.Ythjenkmbbnjcnaa.chk (Go.Proofs.Ythjenkmbbnjcnaa.room m c) k) Q := Rn.chk (by simp [Go.Proofs.Ythjenkmbbnjcnaa.room, h, h2]) hk
theorem Rn.ite {b : Bool} {x y : Option β} {Q : β → Prop} (h : b = true → Rn x Q) (h2 : b = false → Rn y Q) : Rn (ite' b x y) Q := by
  cases b
  · exact h2 rfl
  · exact h rfl
theorem Rn.sm {s : α ⊕ β} {f : α → Option γ} {g : β → Option γ} {Q : γ → Prop} (h : ∀ a, s = .inl a → Rn (f a) Q) (h2 : ∀ b, s = .inr b → Rn (g b) Q) : Rn (sm s f g) Q := by
  cases s with
  | inl a => exact h a rfl
  | inr b => exact h2 b rfl
/-- Rounds: I holds ahead of each, and N of them are enough. -/
theorem Rn.iter {f : α → Option (α ⊕ β)} {a : α} (Q : β → Prop) (I : Nat → α → Prop) (N : Nat) (hN : N < big) (h0 : I 0 a)
    (h : ∀ k a, k ≤ N → I k a → Rn (f a) fun x => match x with | .inl a' => k < N ∧ I (k + 1) a' | .inr b => Q b) : Rn (iter big f a) Q := by
  refine iter_inv Q I N hN h0 fun k a hk hI => ?_
  obtain ⟨x, h1, h2⟩ := h k a hk hI
  cases x with
  | inl a' => exact .inl ⟨a', h2.1, h1, h2.2⟩
  | inr b => exact .inr ⟨b, h1, h2⟩
theorem lenI_eq (l : List α) : lenI l = (l.length : Int) := rfl
theorem nth_some {l : List α} {i : Nat} (h : i < l.length) : nth l (i : Int) = some l[i] := by rw [nth_nat, List.getElem?_eq_getElem h]
theorem segl_nat {l : List α} {i : Nat} (h : i ≤ l.length) : segl l (i : Int) = some (l.drop i) := by simp [segl, h]
theorem segh_nat {l : List α} {i : Nat} (h : i ≤ l.length) : segh l (i : Int) = some (l.take i) := by simp [segh, h]
theorem seglh_nat {l : List α} {i j : Nat} (h : i ≤ j) (h2 : j ≤ l.length) : seglh l (i : Int) (j : Int) = some ((l.drop i).take (j - i)) := by
  have h3 : (i : Int) ≤ j := by omega
  have h4 : (j : Int) ≤ l.length := by omega
  simp [seglh, seg, h3, h4]
end
theorem wrap64 {a : Int} (h : -9223372036854775808 ≤ a) (h2 : a ≤ 9223372036854775807) : IntKind.i64.wrap a = a := by
  simp [IntKind.wrap, IntKind.bits, IntKind.signed]
  omega
theorem addI_64 {a b : Int} (h : -9223372036854775808 ≤ a + b) (h2 : a + b ≤ 9223372036854775807) : addI .i64 a b = a + b := wrap64 h h2
theorem subI_64 {a b : Int} (h : -9223372036854775808 ≤ a - b) (h2 : a - b ≤ 9223372036854775807) : subI .i64 a b = a - b := wrap64 h h2
theorem cvI_64 {a : Int} (h : -9223372036854775808 ≤ a) (h2 : a ≤ 9223372036854775807) : cvI .i64 a = a := wrap64 h h2
end Go.Proofs.Ythjenkmbbnjcnaa

/- Pieces: what a list of pieces tells of each slot; lists that stand as they should are one, if they tell the same. -/
namespace Go.Proofs.Ythjenkmbbnjcnaa
open Go Go.RowKit
set_option linter.unusedVariables false
set_option linter.unusedSimpArgs false
section
variable {β : Type}
/-- What the first piece that holds a slot tells. -/
def fnP : List (Int × Int × β) → Int → Option β
  | [], _ => none
  | p :: l, s => if p.1 ≤ s ∧ s ≤ p.2.1 then some p.2.2 else fnP l s
def canP : List (Int × Int × β) → Prop
  | [] => True
  | [p] => p.1 ≤ p.2.1
  | p :: q :: l => p.1 ≤ p.2.1 ∧ p.2.1 < q.1 ∧ ¬ (p.2.1 + 1 = q.1 ∧ p.2.2 = q.2.2) ∧ canP (q :: l)
theorem canP.head {p : Int × Int × β} {l : List (Int × Int × β)} (h : canP (p :: l)) : p.1 ≤ p.2.1 := by
  cases l with
  | nil => exact h
  | cons q l => exact h.1
theorem canP.tail {p : Int × Int × β} {l : List (Int × Int × β)} (h : canP (p :: l)) : canP l := by
  cases l with
  | nil => trivial
  | cons q l => exact h.2.2.2
theorem canP.lt {p : Int × Int × β} : ∀ {l : List (Int × Int × β)}, canP (p :: l) → ∀ q ∈ l, p.2.1 < q.1
  | [], _, q, hq => by simp at hq
  | r :: l, h, q, hq => by
    rcases List.mem_cons.1 hq with rfl | hq
    · exact h.2.1
    · have h1 := canP.lt h.2.2.2 q hq
      have h2 := canP.head h.2.2.2
      have h3 := h.2.1
      omega
theorem fnP_none {l : List (Int × Int × β)} {s : Int} (h : ∀ p ∈ l, ¬ (p.1 ≤ s ∧ s ≤ p.2.1)) : fnP l s = none := by
  induction l with
  | nil => rfl
  | cons p l ih =>
    simp only [fnP]
    rw [if_neg (h p (by simp)), ih fun q hq => h q (by simp [hq])]
theorem fnP_below {p : Int × Int × β} {l : List (Int × Int × β)} (h : canP (p :: l)) {s : Int} (hs : s ≤ p.2.1) : fnP l s = none :=
  fnP_none fun q hq hc => by have := h.lt q hq; omega
theorem fnP_head {p : Int × Int × β} {l : List (Int × Int × β)} {s : Int} (h1 : p.1 ≤ s) (h2 : s ≤ p.2.1) : fnP (p :: l) s = some p.2.2 := by
  simp only [fnP]
  rw [if_pos ⟨h1, h2⟩]
theorem fnP_out {p : Int × Int × β} {l : List (Int × Int × β)} {s : Int} (h : ¬ (p.1 ≤ s ∧ s ≤ p.2.1)) : fnP (p :: l) s = fnP l s := by
  simp only [fnP]
  rw [if_neg h]
/-- Lists that stand as they should and tell the same are one. -/
theorem canP_ext : ∀ {l m : List (Int × Int × β)}, canP l → canP m → (∀ s, fnP l s = fnP m s) → l = m
  | [], [], _, _, _ => rfl
  | [], q :: m, _, hm, h => by
    have := h q.1
    rw [fnP_head (Int.le_refl _) hm.head] at this
    simp [fnP] at this
  | p :: l, [], hl, _, h => by
    have := h p.1
    rw [fnP_head (Int.le_refl _) hl.head] at this
    simp [fnP] at this
  | p :: l, q :: m, hl, hm, h => by
    have hp := hl.head
    have hq := hm.head
    have e1 : p.1 = q.1 := by
      rcases Int.lt_trichotomy p.1 q.1 with hlt | he | hgt
      · exfalso
        have := h p.1
        rw [fnP_head (Int.le_refl _) hp, fnP_out (by omega), fnP_below hm (by omega)] at this
        simp at this
      · exact he
      · exfalso
        have := h q.1
        rw [fnP_head (p := q) (Int.le_refl _) hq, fnP_out (by omega), fnP_below hl (by omega)] at this
        simp at this
    have e2 : p.2.2 = q.2.2 := by
      have := h p.1
      rw [fnP_head (Int.le_refl _) hp, fnP_head (by omega) (by omega)] at this
      exact Option.some.inj this
    have key : ∀ {p q : Int × Int × β} {l m : List (Int × Int × β)}, canP (p :: l) → canP (q :: m) → (∀ s, fnP (p :: l) s = fnP (q :: m) s) → p.1 = q.1 → p.2.2 = q.2.2 → ¬ p.2.1 < q.2.1 := by
      intro p q l m hl hm h e1 e2 hlt
      have hp := hl.head
      have := h (p.2.1 + 1)
      rw [fnP_out (by omega), fnP_head (p := q) (by omega) (by omega)] at this
      cases l with
      | nil => simp [fnP] at this
      | cons r l =>
        have hr := hl.2.1
        have hr2 := canP.head hl.2.2.2
        rcases Decidable.em (p.2.1 + 1 = r.1) with e | e
        · rw [fnP_head (by omega) (by omega)] at this
          have := Option.some.inj this
          exact hl.2.2.1 ⟨e, by rw [e2, this]⟩
        · rw [fnP_out (by omega), fnP_below hl.2.2.2 (by omega)] at this
          simp at this
    have e3 : p.2.1 = q.2.1 := by
      have a := key hl hm h e1 e2
      have b := key hm hl (fun s => (h s).symm) e1.symm e2.symm
      omega
    have e4 : p = q := Prod.ext e1 (Prod.ext e3 e2)
    subst e4
    rw [canP_ext hl.tail hm.tail fun s => ?_]
    rcases Decidable.em (s ≤ p.2.1) with hs | hs
    · rw [fnP_below hl hs, fnP_below hm hs]
    · have := h s
      rwa [fnP_out (by omega), fnP_out (by omega)] at this
theorem fnP_append (l m : List (Int × Int × β)) (s : Int) : fnP (l ++ m) s = match fnP l s with | some v => some v | none => fnP m s := by
  induction l with
  | nil => rfl
  | cons p l ih =>
    simp only [List.cons_append, fnP]
    split
    · rfl
    · exact ih
theorem canP_snoc : ∀ {l : List (Int × Int × β)} {p : Int × Int × β}, canP l → p.1 ≤ p.2.1 → (∀ q, l.getLast? = some q → q.2.1 < p.1 ∧ ¬ (q.2.1 + 1 = p.1 ∧ q.2.2 = p.2.2)) → canP (l ++ [p])
  | [], p, _, hp, _ => hp
  | [q], p, hq, hp, h => by
    obtain ⟨h1, h2⟩ := h q rfl
    exact ⟨hq, h1, h2, hp⟩
  | q :: r :: l, p, hl, hp, h => by
    refine ⟨hl.1, hl.2.1, hl.2.2.1, ?_⟩
    exact canP_snoc (l := r :: l) hl.2.2.2 hp fun x hx => h x (by rw [List.getLast?_cons_cons]; exact hx)
theorem canP_init : ∀ {l : List (Int × Int × β)} {p : Int × Int × β}, canP (l ++ [p]) → canP l ∧ p.1 ≤ p.2.1 ∧ (∀ q, l.getLast? = some q → q.2.1 < p.1 ∧ ¬ (q.2.1 + 1 = p.1 ∧ q.2.2 = p.2.2))
  | [], p, h => ⟨trivial, h, fun q hq => by simp at hq⟩
  | [q], p, h => by
    refine ⟨h.1, h.2.2.2, fun x hx => ?_⟩
    simp at hx
    subst hx
    exact ⟨h.2.1, h.2.2.1⟩
  | q :: r :: l, p, h => by
    have h' : canP ((r :: l) ++ [p]) := h.2.2.2
    obtain ⟨a, b, c⟩ := canP_init h'
    exact ⟨⟨h.1, h.2.1, h.2.2.1, a⟩, b, fun x hx => c x (by rw [List.getLast?_cons_cons] at hx; exact hx)⟩
/-- A list that has told all slots below one, as f tells them. -/
structure BdP (at_ : Int) (out : List (Int × Int × β)) (f : Int → Option β) : Prop where
  can : canP out
  pos : ∀ p ∈ out, p.2.1 < at_
  fn : ∀ s, s < at_ → fnP out s = f s
/-- One more piece behind a list: one with the last one, where it goes on. -/
def putP [DecidableEq β] (l : List (Int × Int × β)) (p : Int × Int × β) : List (Int × Int × β) :=
  match l.getLast? with
  | some q => if q.2.1 + 1 = p.1 ∧ q.2.2 = p.2.2 then l.dropLast ++ [(q.1, p.2.1, q.2.2)] else l ++ [p]
  | none => [p]
theorem BdP.skip {a b : Int} {out : List (Int × Int × β)} {f : Int → Option β} (h : BdP a out f) (hab : a ≤ b) (hf : ∀ s, a ≤ s → s < b → f s = none) : BdP b out f := by
  refine ⟨h.can, fun p hp => by have := h.pos p hp; omega, fun s hs => ?_⟩
  rcases Decidable.em (s < a) with h1 | h1
  · exact h.fn s h1
  · rw [hf s (by omega) hs]
    exact fnP_none fun p hp hc => by have := h.pos p hp; omega
theorem BdP.put [DecidableEq β] {a b : Int} {v : β} {out : List (Int × Int × β)} {f : Int → Option β} (h : BdP a out f) (hab : a ≤ b) (hf : ∀ s, a ≤ s → s ≤ b → f s = some v) : BdP (b + 1) (putP out (a, b, v)) f := by
  have hcan := h.can
  unfold putP
  split
  · rename_i q hq
    obtain ⟨l, hl⟩ := List.getLast?_eq_some_iff.1 hq
    subst hl
    have hqp := h.pos q (by simp)
    obtain ⟨c1, c2, c3⟩ := canP_init hcan
    split
    · rename_i hc
      obtain ⟨g1, g2⟩ := hc
      rw [List.dropLast_concat]
      refine ⟨canP_snoc c1 (by simp only at g1 ⊢; omega) (fun x hx => ?_), ?_, ?_⟩
      · exact c3 x hx
      · intro p hp
        rcases List.mem_append.1 hp with hp | hp
        · have := h.pos p (by simp [hp])
          omega
        · simp at hp
          subst hp
          simp only
          omega
      · intro s hs
        rw [fnP_append]
        rcases Decidable.em (s < a) with h1 | h1
        · have := h.fn s h1
          rw [← this, fnP_append]
          cases fnP l s with
          | some w => rfl
          | none =>
            simp only [fnP]
            simp only at g1
            rcases Decidable.em (q.1 ≤ s ∧ s ≤ q.2.1) with h2 | h2
            · rw [if_pos h2, if_pos ⟨h2.1, by omega⟩]
            · rw [if_neg h2, if_neg (by omega)]
        · rw [hf s (by omega) (by omega)]
          have : fnP l s = none := fnP_none fun p hp hc => by have := h.pos p (by simp [hp]); omega
          rw [this]
          simp only [fnP]
          simp only at g1 g2
          rw [if_pos ⟨by omega, by omega⟩, g2]
    · rename_i hc
      refine ⟨canP_snoc hcan hab fun x hx => ?_, ?_, ?_⟩
      · rw [hq] at hx
        have := Option.some.inj hx
        subst this
        exact ⟨hqp, hc⟩
      · intro p hp
        rcases List.mem_append.1 hp with hp | hp
        · have := h.pos p hp
          omega
        · simp at hp
          subst hp
          simp only
          omega
      · intro s hs
        rw [fnP_append]
        rcases Decidable.em (s < a) with h1 | h1
        · rw [h.fn s h1]
          cases f s with
          | some w => rfl
          | none =>
            simp only [fnP]
            rw [if_neg (by omega)]
        · rw [hf s (by omega) (by omega)]
          have : fnP (l ++ [q]) s = none := fnP_none fun p hp hc => by have := h.pos p hp; omega
          rw [this]
          simp only [fnP]
          rw [if_pos ⟨by omega, by omega⟩]
  · rename_i hn
    have : out = [] := List.getLast?_eq_none_iff.1 hn
    subst this
    refine ⟨hab, ?_, ?_⟩
    · intro p hp
      simp at hp
      subst hp
      simp only
      omega
    · intro s hs
      simp only [fnP]
      rcases Decidable.em (s < a) with h1 | h1
      · have := h.fn s h1
        rw [if_neg (by omega), ← this]
        rfl
      · rw [if_pos ⟨by omega, by omega⟩, hf s (by omega) (by omega)]
theorem BdP.nil {a : Int} {f : Int → Option β} (hf : ∀ s, s < a → f s = none) : BdP a [] f := ⟨trivial, fun p hp => by simp at hp, fun s hs => by rw [hf s hs]; rfl⟩
/-- Two lists that have told all are one. -/
theorem BdP.ext {a b : Int} {l m : List (Int × Int × β)} {f : Int → Option β} (hl : BdP a l f) (hm : BdP b m f) (hf : ∀ s, a ≤ s ∨ b ≤ s → f s = none) : l = m := by
  refine canP_ext hl.can hm.can fun s => ?_
  have h1 : fnP l s = f s := by
    rcases Decidable.em (s < a) with h | h
    · exact hl.fn s h
    · rw [hf s (.inl (by omega))]
      exact fnP_none fun p hp hc => by have := hl.pos p hp; omega
  have h2 : fnP m s = f s := by
    rcases Decidable.em (s < b) with h | h
    · exact hm.fn s h
    · rw [hf s (.inr (by omega))]
      exact fnP_none fun p hp hc => by have := hm.pos p hp; omega
  rw [h1, h2]
/-- Where no piece begins, or has ended, just now, it is as one slot ahead. -/
theorem fnP_step {s : Int} : ∀ {l : List (Int × Int × β)}, (∀ p ∈ l, s + 1 ≠ p.1 ∧ s + 1 ≠ p.2.1 + 1) → fnP l (s + 1) = fnP l s
  | [], _ => rfl
  | p :: l, h => by
    have h1 := h p (by simp)
    have ih := fnP_step (l := l) fun q hq => h q (by simp [hq])
    simp only [fnP]
    rcases Decidable.em (p.1 ≤ s ∧ s ≤ p.2.1) with h2 | h2
    · rw [if_pos h2, if_pos (by omega)]
    · rw [if_neg h2, ih]
      rcases Decidable.em (p.1 ≤ s + 1 ∧ s + 1 ≤ p.2.1) with h3 | h3
      · omega
      · rw [if_neg h3]
end
end Go.Proofs.Ythjenkmbbnjcnaa

