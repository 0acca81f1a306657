import Derived.Test.YtlkhfdccapkcdaaA24
import Derived.Test.YtlkhfdccapkcdaaProg
namespace Go.Proofs.Ytlkhfdccapkcdaa
open Go Go.RowKit
@[simp] theorem tb_ti1 : tiF Try.prog 1 = some ⟨false, 1, 8, [.nilFunc]⟩ := by kernel_rfl
@[simp] theorem tb_un1 : (Try.prog.underlying 1).isSome = true := by kernel_rfl
@[simp] theorem tb_ti2 : tiF Try.prog 2 = some ⟨false, 1, 8, [.int .i64 0]⟩ := by kernel_rfl
@[simp] theorem tb_un2 : (Try.prog.underlying 2).isSome = true := by kernel_rfl
@[simp] theorem tb_ti3 : tiF Try.prog 3 = some ⟨false, 1, 8, [.int .i64 0]⟩ := by kernel_rfl
@[simp] theorem tb_un3 : (Try.prog.underlying 3).isSome = true := by kernel_rfl
@[simp] theorem tb_ti4 : tiF Try.prog 4 = some ⟨false, 1, 1, [.bool false]⟩ := by kernel_rfl
@[simp] theorem tb_un4 : (Try.prog.underlying 4).isSome = true := by kernel_rfl
@[simp] theorem tb_ti5 : tiF Try.prog 5 = some ⟨false, 1, 1, [.int .u8 0]⟩ := by kernel_rfl
@[simp] theorem tb_un5 : (Try.prog.underlying 5).isSome = true := by kernel_rfl
@[simp] theorem tb_ti6 : tiF Try.prog 6 = some ⟨false, 1, 1, [.int .u8 0]⟩ := by kernel_rfl
@[simp] theorem tb_un6 : (Try.prog.underlying 6).isSome = true := by kernel_rfl
@[simp] theorem tb_ti7 : tiF Try.prog 7 = some ⟨true, 4, 24, [.int .i64 0, .int .i64 0, .bool false, .int .u8 0]⟩ := by kernel_rfl
@[simp] theorem tb_un7 : (Try.prog.underlying 7).isSome = true := by kernel_rfl
@[simp] theorem tb_ti8 : tiF Try.prog 8 = some ⟨true, 4, 24, [.int .i64 0, .int .i64 0, .bool false, .int .u8 0]⟩ := by kernel_rfl
@[simp] theorem tb_un8 : (Try.prog.underlying 8).isSome = true := by kernel_rfl
@[simp] theorem tb_ti9 : tiF Try.prog 9 = some ⟨false, 1, 16, [.string ⟨#[]⟩]⟩ := by kernel_rfl
@[simp] theorem tb_un9 : (Try.prog.underlying 9).isSome = true := by kernel_rfl
@[simp] theorem tb_ti10 : tiF Try.prog 10 = some ⟨false, 1, 16, [.string ⟨#[]⟩]⟩ := by kernel_rfl
@[simp] theorem tb_un10 : (Try.prog.underlying 10).isSome = true := by kernel_rfl
@[simp] theorem tb_ti11 : tiF Try.prog 11 = some ⟨false, 1, 16, [.string ⟨#[]⟩]⟩ := by kernel_rfl
@[simp] theorem tb_un11 : (Try.prog.underlying 11).isSome = true := by kernel_rfl
@[simp] theorem tb_ti12 : tiF Try.prog 12 = some ⟨false, 1, 8, [.int .u64 0]⟩ := by kernel_rfl
@[simp] theorem tb_un12 : (Try.prog.underlying 12).isSome = true := by kernel_rfl
@[simp] theorem tb_ti13 : tiF Try.prog 13 = some ⟨true, 2, 24, [.string ⟨#[]⟩, .int .u64 0]⟩ := by kernel_rfl
@[simp] theorem tb_un13 : (Try.prog.underlying 13).isSome = true := by kernel_rfl
@[simp] theorem tb_ti14 : tiF Try.prog 14 = some ⟨true, 2, 24, [.string ⟨#[]⟩, .int .u64 0]⟩ := by kernel_rfl
@[simp] theorem tb_un14 : (Try.prog.underlying 14).isSome = true := by kernel_rfl
@[simp] theorem tb_ti15 : tiF Try.prog 15 = some ⟨false, 1, 8, [.pointer none]⟩ := by kernel_rfl
@[simp] theorem tb_un15 : (Try.prog.underlying 15).isSome = true := by kernel_rfl
@[simp] theorem tb_ti16 : tiF Try.prog 16 = some ⟨false, 1, 8, [.pointer none]⟩ := by kernel_rfl
@[simp] theorem tb_un16 : (Try.prog.underlying 16).isSome = true := by kernel_rfl
@[simp] theorem tb_ti17 : tiF Try.prog 17 = some ⟨false, 1, 8, [.pointer none]⟩ := by kernel_rfl
@[simp] theorem tb_un17 : (Try.prog.underlying 17).isSome = true := by kernel_rfl
@[simp] theorem tb_ti18 : tiF Try.prog 18 = some ⟨true, 1, 8, [.pointer none]⟩ := by kernel_rfl
@[simp] theorem tb_un18 : (Try.prog.underlying 18).isSome = true := by kernel_rfl
@[simp] theorem tb_ti19 : tiF Try.prog 19 = some ⟨true, 1, 8, [.pointer none]⟩ := by kernel_rfl
@[simp] theorem tb_un19 : (Try.prog.underlying 19).isSome = true := by kernel_rfl
@[simp] theorem tb_ti20 : tiF Try.prog 20 = some ⟨false, 1, 16, [.nilIface]⟩ := by kernel_rfl
@[simp] theorem tb_un20 : (Try.prog.underlying 20).isSome = true := by kernel_rfl
@[simp] theorem tb_ti21 : tiF Try.prog 21 = some ⟨false, 1, 4, [.int .i32 0]⟩ := by kernel_rfl
@[simp] theorem tb_un21 : (Try.prog.underlying 21).isSome = true := by kernel_rfl
@[simp] theorem tb_ti22 : tiF Try.prog 22 = some ⟨false, 1, 24, [.slice none 0 0]⟩ := by kernel_rfl
@[simp] theorem tb_un22 : (Try.prog.underlying 22).isSome = true := by kernel_rfl
@[simp] theorem tb_ti23 : tiF Try.prog 23 = some ⟨false, 1, 8, [.nilFunc]⟩ := by kernel_rfl
@[simp] theorem tb_un23 : (Try.prog.underlying 23).isSome = true := by kernel_rfl
@[simp] theorem tb_ti24 : tiF Try.prog 24 = some ⟨false, 1, 24, [.slice none 0 0]⟩ := by kernel_rfl
@[simp] theorem tb_un24 : (Try.prog.underlying 24).isSome = true := by kernel_rfl
@[simp] theorem tb_ti25 : tiF Try.prog 25 = some ⟨false, 1, 8, [.nilFunc]⟩ := by kernel_rfl
@[simp] theorem tb_un25 : (Try.prog.underlying 25).isSome = true := by kernel_rfl
@[simp] theorem tb_ti26 : tiF Try.prog 26 = some ⟨true, 2, 16, [.int .i64 0, .int .i64 0]⟩ := by kernel_rfl
@[simp] theorem tb_un26 : (Try.prog.underlying 26).isSome = true := by kernel_rfl
@[simp] theorem tb_ti27 : tiF Try.prog 27 = some ⟨true, 2, 16, [.int .i64 0, .int .i64 0]⟩ := by kernel_rfl
@[simp] theorem tb_un27 : (Try.prog.underlying 27).isSome = true := by kernel_rfl
@[simp] theorem tb_ti28 : tiF Try.prog 28 = some ⟨true, 7, 72, [.int .i64 0, .int .i64 0, .int .i64 0, .slice none 0 0, .int .i64 0, .int .i64 0, .int .i64 0]⟩ := by kernel_rfl
@[simp] theorem tb_un28 : (Try.prog.underlying 28).isSome = true := by kernel_rfl
@[simp] theorem tb_ti29 : tiF Try.prog 29 = some ⟨true, 7, 72, [.int .i64 0, .int .i64 0, .int .i64 0, .slice none 0 0, .int .i64 0, .int .i64 0, .int .i64 0]⟩ := by kernel_rfl
@[simp] theorem tb_un29 : (Try.prog.underlying 29).isSome = true := by kernel_rfl
@[simp] theorem tb_ti30 : tiF Try.prog 30 = some ⟨false, 1, 8, [.nilFunc]⟩ := by kernel_rfl
@[simp] theorem tb_un30 : (Try.prog.underlying 30).isSome = true := by kernel_rfl
@[simp] theorem tb_ti31 : tiF Try.prog 31 = some ⟨false, 1, 24, [.slice none 0 0]⟩ := by kernel_rfl
@[simp] theorem tb_un31 : (Try.prog.underlying 31).isSome = true := by kernel_rfl
@[simp] theorem tb_ti32 : tiF Try.prog 32 = some ⟨false, 1, 24, [.slice none 0 0]⟩ := by kernel_rfl
@[simp] theorem tb_un32 : (Try.prog.underlying 32).isSome = true := by kernel_rfl
@[simp] theorem tb_ti33 : tiF Try.prog 33 = some ⟨true, 5, 80, [.int .i64 0, .string ⟨#[]⟩, .slice none 0 0, .slice none 0 0, .int .i64 0]⟩ := by kernel_rfl
@[simp] theorem tb_un33 : (Try.prog.underlying 33).isSome = true := by kernel_rfl
@[simp] theorem tb_ti34 : tiF Try.prog 34 = some ⟨true, 5, 80, [.int .i64 0, .string ⟨#[]⟩, .slice none 0 0, .slice none 0 0, .int .i64 0]⟩ := by kernel_rfl
@[simp] theorem tb_un34 : (Try.prog.underlying 34).isSome = true := by kernel_rfl
@[simp] theorem tb_ti35 : tiF Try.prog 35 = some ⟨true, 7, 104, [.string ⟨#[]⟩, .bool false, .int .i64 0, .string ⟨#[]⟩, .slice none 0 0, .slice none 0 0, .int .i64 0]⟩ := by kernel_rfl
@[simp] theorem tb_un35 : (Try.prog.underlying 35).isSome = true := by kernel_rfl
@[simp] theorem tb_ti36 : tiF Try.prog 36 = some ⟨true, 7, 104, [.string ⟨#[]⟩, .bool false, .int .i64 0, .string ⟨#[]⟩, .slice none 0 0, .slice none 0 0, .int .i64 0]⟩ := by kernel_rfl
@[simp] theorem tb_un36 : (Try.prog.underlying 36).isSome = true := by kernel_rfl
@[simp] theorem tb_ti37 : tiF Try.prog 37 = some ⟨false, 1, 8, [.nilFunc]⟩ := by kernel_rfl
@[simp] theorem tb_un37 : (Try.prog.underlying 37).isSome = true := by kernel_rfl
@[simp] theorem tb_ti38 : tiF Try.prog 38 = some ⟨false, 1, 8, [.nilFunc]⟩ := by kernel_rfl
@[simp] theorem tb_un38 : (Try.prog.underlying 38).isSome = true := by kernel_rfl
@[simp] theorem tb_ti39 : tiF Try.prog 39 = some ⟨false, 1, 8, [.nilFunc]⟩ := by kernel_rfl
@[simp] theorem tb_un39 : (Try.prog.underlying 39).isSome = true := by kernel_rfl
@[simp] theorem tb_ti40 : tiF Try.prog 40 = some ⟨false, 1, 8, [.nilFunc]⟩ := by kernel_rfl
@[simp] theorem tb_un40 : (Try.prog.underlying 40).isSome = true := by kernel_rfl
@[simp] theorem tb_ti42 : tiF Try.prog 42 = some ⟨false, 1, 8, [.nilFunc]⟩ := by kernel_rfl
@[simp] theorem tb_un42 : (Try.prog.underlying 42).isSome = true := by kernel_rfl
@[simp] theorem tb_ti43 : tiF Try.prog 43 = some ⟨false, 1, 8, [.nilFunc]⟩ := by kernel_rfl
@[simp] theorem tb_un43 : (Try.prog.underlying 43).isSome = true := by kernel_rfl
@[simp] theorem tb_ti44 : tiF Try.prog 44 = some ⟨false, 1, 8, [.nilFunc]⟩ := by kernel_rfl
@[simp] theorem tb_un44 : (Try.prog.underlying 44).isSome = true := by kernel_rfl
@[simp] theorem tb_ti45 : tiF Try.prog 45 = some ⟨false, 1, 8, [.nilFunc]⟩ := by kernel_rfl
@[simp] theorem tb_un45 : (Try.prog.underlying 45).isSome = true := by kernel_rfl
@[simp] theorem tb_ti46 : tiF Try.prog 46 = some ⟨false, 1, 8, [.nilFunc]⟩ := by kernel_rfl
@[simp] theorem tb_un46 : (Try.prog.underlying 46).isSome = true := by kernel_rfl
@[simp] theorem tb_ti47 : tiF Try.prog 47 = some ⟨false, 1, 8, [.nilFunc]⟩ := by kernel_rfl
@[simp] theorem tb_un47 : (Try.prog.underlying 47).isSome = true := by kernel_rfl
@[simp] theorem tb_ti48 : tiF Try.prog 48 = some ⟨false, 1, 8, [.nilFunc]⟩ := by kernel_rfl
@[simp] theorem tb_un48 : (Try.prog.underlying 48).isSome = true := by kernel_rfl
@[simp] theorem tb_ti49 : tiF Try.prog 49 = some ⟨false, 1, 8, [.nilFunc]⟩ := by kernel_rfl
@[simp] theorem tb_un49 : (Try.prog.underlying 49).isSome = true := by kernel_rfl
@[simp] theorem tb_ti50 : tiF Try.prog 50 = some ⟨true, 2, 24, [.string ⟨#[]⟩, .bool false]⟩ := by kernel_rfl
@[simp] theorem tb_un50 : (Try.prog.underlying 50).isSome = true := by kernel_rfl
@[simp] theorem tb_ti51 : tiF Try.prog 51 = some ⟨true, 2, 24, [.string ⟨#[]⟩, .bool false]⟩ := by kernel_rfl
@[simp] theorem tb_un51 : (Try.prog.underlying 51).isSome = true := by kernel_rfl
@[simp] theorem tb_ti52 : tiF Try.prog 52 = some ⟨false, 1, 8, [.nilFunc]⟩ := by kernel_rfl
@[simp] theorem tb_un52 : (Try.prog.underlying 52).isSome = true := by kernel_rfl
@[simp] theorem tb_ti53 : tiF Try.prog 53 = some ⟨false, 1, 8, [.nilFunc]⟩ := by kernel_rfl
@[simp] theorem tb_un53 : (Try.prog.underlying 53).isSome = true := by kernel_rfl
@[simp] theorem tb_ti54 : tiF Try.prog 54 = some ⟨false, 1, 8, [.nilFunc]⟩ := by kernel_rfl
@[simp] theorem tb_un54 : (Try.prog.underlying 54).isSome = true := by kernel_rfl
@[simp] theorem tb_ti55 : tiF Try.prog 55 = some ⟨false, 1, 1, [.int .i8 0]⟩ := by kernel_rfl
@[simp] theorem tb_un55 : (Try.prog.underlying 55).isSome = true := by kernel_rfl
@[simp] theorem tb_ti56 : tiF Try.prog 56 = some ⟨false, 1, 24, [.slice none 0 0]⟩ := by kernel_rfl
@[simp] theorem tb_un56 : (Try.prog.underlying 56).isSome = true := by kernel_rfl
@[simp] theorem tb_ti58 : tiF Try.prog 58 = some ⟨false, 1, 8, [.nilFunc]⟩ := by kernel_rfl
@[simp] theorem tb_un58 : (Try.prog.underlying 58).isSome = true := by kernel_rfl
@[simp] theorem tb_ti59 : tiF Try.prog 59 = some ⟨false, 1, 24, [.slice none 0 0]⟩ := by kernel_rfl
@[simp] theorem tb_un59 : (Try.prog.underlying 59).isSome = true := by kernel_rfl
@[simp] theorem tb_ti60 : tiF Try.prog 60 = some ⟨false, 1, 24, [.slice none 0 0]⟩ := by kernel_rfl
@[simp] theorem tb_un60 : (Try.prog.underlying 60).isSome = true := by kernel_rfl
@[simp] theorem tb_ti61 : tiF Try.prog 61 = some ⟨true, 15, 168, [.int .i64 0, .int .i64 0, .int .i64 0, .int .i64 0, .slice none 0 0, .slice none 0 0, .int .i64 0, .int .i64 0, .int .i64 0, .int .i64 0, .int .i64 0, .int .i64 0, .int .i64 0, .int .i64 0, .slice none 0 0]⟩ := by kernel_rfl
@[simp] theorem tb_un61 : (Try.prog.underlying 61).isSome = true := by kernel_rfl
@[simp] theorem tb_ti62 : tiF Try.prog 62 = some ⟨true, 15, 168, [.int .i64 0, .int .i64 0, .int .i64 0, .int .i64 0, .slice none 0 0, .slice none 0 0, .int .i64 0, .int .i64 0, .int .i64 0, .int .i64 0, .int .i64 0, .int .i64 0, .int .i64 0, .int .i64 0, .slice none 0 0]⟩ := by kernel_rfl
@[simp] theorem tb_un62 : (Try.prog.underlying 62).isSome = true := by kernel_rfl
@[simp] theorem tb_ti63 : tiF Try.prog 63 = some ⟨false, 1, 8, [.nilFunc]⟩ := by kernel_rfl
@[simp] theorem tb_un63 : (Try.prog.underlying 63).isSome = true := by kernel_rfl
@[simp] theorem tb_ti65 : tiF Try.prog 65 = some ⟨false, 1, 8, [.nilFunc]⟩ := by kernel_rfl
@[simp] theorem tb_un65 : (Try.prog.underlying 65).isSome = true := by kernel_rfl
@[simp] theorem tb_ti66 : tiF Try.prog 66 = some ⟨true, 9, 104, [.int .i64 0, .int .i64 0, .int .i64 0, .slice none 0 0, .int .i64 0, .int .i64 0, .int .i64 0, .slice none 0 0, .bool false]⟩ := by kernel_rfl
@[simp] theorem tb_un66 : (Try.prog.underlying 66).isSome = true := by kernel_rfl
@[simp] theorem tb_ti67 : tiF Try.prog 67 = some ⟨true, 9, 104, [.int .i64 0, .int .i64 0, .int .i64 0, .slice none 0 0, .int .i64 0, .int .i64 0, .int .i64 0, .slice none 0 0, .bool false]⟩ := by kernel_rfl
@[simp] theorem tb_un67 : (Try.prog.underlying 67).isSome = true := by kernel_rfl
@[simp] theorem tb_ti68 : tiF Try.prog 68 = some ⟨false, 1, 8, [.nilFunc]⟩ := by kernel_rfl
@[simp] theorem tb_un68 : (Try.prog.underlying 68).isSome = true := by kernel_rfl
@[simp] theorem tb_ti69 : tiF Try.prog 69 = some ⟨false, 1, 8, [.nilFunc]⟩ := by kernel_rfl
@[simp] theorem tb_un69 : (Try.prog.underlying 69).isSome = true := by kernel_rfl
@[simp] theorem tb_ti70 : tiF Try.prog 70 = some ⟨false, 1, 8, [.nilFunc]⟩ := by kernel_rfl
@[simp] theorem tb_un70 : (Try.prog.underlying 70).isSome = true := by kernel_rfl
@[simp] theorem tb_ti71 : tiF Try.prog 71 = some ⟨false, 1, 8, [.nilFunc]⟩ := by kernel_rfl
@[simp] theorem tb_un71 : (Try.prog.underlying 71).isSome = true := by kernel_rfl
@[simp] theorem tb_ti72 : tiF Try.prog 72 = some ⟨false, 1, 24, [.slice none 0 0]⟩ := by kernel_rfl
@[simp] theorem tb_un72 : (Try.prog.underlying 72).isSome = true := by kernel_rfl
@[simp] theorem tb_ti73 : tiF Try.prog 73 = some ⟨false, 1, 8, [.nilFunc]⟩ := by kernel_rfl
@[simp] theorem tb_un73 : (Try.prog.underlying 73).isSome = true := by kernel_rfl
@[simp] theorem tb_ti74 : tiF Try.prog 74 = some ⟨false, 1, 8, [.nilFunc]⟩ := by kernel_rfl
@[simp] theorem tb_un74 : (Try.prog.underlying 74).isSome = true := by kernel_rfl
@[simp] theorem tb_ti75 : tiF Try.prog 75 = some ⟨false, 1, 8, [.nilFunc]⟩ := by kernel_rfl
@[simp] theorem tb_un75 : (Try.prog.underlying 75).isSome = true := by kernel_rfl
@[simp] theorem tb_ti76 : tiF Try.prog 76 = some ⟨false, 1, 8, [.nilFunc]⟩ := by kernel_rfl
@[simp] theorem tb_un76 : (Try.prog.underlying 76).isSome = true := by kernel_rfl
@[simp] theorem tb_ti77 : tiF Try.prog 77 = some ⟨false, 1, 8, [.nilFunc]⟩ := by kernel_rfl
@[simp] theorem tb_un77 : (Try.prog.underlying 77).isSome = true := by kernel_rfl
@[simp] theorem tb_ti78 : tiF Try.prog 78 = some ⟨false, 1, 8, [.nilFunc]⟩ := by kernel_rfl
@[simp] theorem tb_un78 : (Try.prog.underlying 78).isSome = true := by kernel_rfl
@[simp] theorem tb_ti79 : tiF Try.prog 79 = some ⟨false, 1, 8, [.nilFunc]⟩ := by kernel_rfl
@[simp] theorem tb_un79 : (Try.prog.underlying 79).isSome = true := by kernel_rfl
@[simp] theorem tb_ti80 : tiF Try.prog 80 = some ⟨false, 1, 8, [.nilFunc]⟩ := by kernel_rfl
@[simp] theorem tb_un80 : (Try.prog.underlying 80).isSome = true := by kernel_rfl
@[simp] theorem tb_ti81 : tiF Try.prog 81 = some ⟨false, 1, 8, [.nilFunc]⟩ := by kernel_rfl
@[simp] theorem tb_un81 : (Try.prog.underlying 81).isSome = true := by kernel_rfl
@[simp] theorem tb_ti82 : tiF Try.prog 82 = some ⟨false, 1, 8, [.nilFunc]⟩ := by kernel_rfl
@[simp] theorem tb_un82 : (Try.prog.underlying 82).isSome = true := by kernel_rfl
@[simp] theorem tb_ti84 : tiF Try.prog 84 = some ⟨false, 1, 8, [.nilFunc]⟩ := by kernel_rfl
@[simp] theorem tb_un84 : (Try.prog.underlying 84).isSome = true := by kernel_rfl
@[simp] theorem tb_ti85 : tiF Try.prog 85 = some ⟨false, 1, 8, [.nilFunc]⟩ := by kernel_rfl
@[simp] theorem tb_un85 : (Try.prog.underlying 85).isSome = true := by kernel_rfl
@[simp] theorem tb_ti86 : tiF Try.prog 86 = some ⟨false, 1, 8, [.nilFunc]⟩ := by kernel_rfl
@[simp] theorem tb_un86 : (Try.prog.underlying 86).isSome = true := by kernel_rfl
@[simp] theorem tb_ti87 : tiF Try.prog 87 = some ⟨false, 1, 8, [.nilFunc]⟩ := by kernel_rfl
@[simp] theorem tb_un87 : (Try.prog.underlying 87).isSome = true := by kernel_rfl
@[simp] theorem tb_ti88 : tiF Try.prog 88 = some ⟨false, 1, 8, [.nilFunc]⟩ := by kernel_rfl
@[simp] theorem tb_un88 : (Try.prog.underlying 88).isSome = true := by kernel_rfl
@[simp] theorem tb_ti89 : tiF Try.prog 89 = some ⟨false, 1, 8, [.nilFunc]⟩ := by kernel_rfl
@[simp] theorem tb_un89 : (Try.prog.underlying 89).isSome = true := by kernel_rfl
@[simp] theorem tb_ti90 : tiF Try.prog 90 = some ⟨false, 1, 8, [.nilFunc]⟩ := by kernel_rfl
@[simp] theorem tb_un90 : (Try.prog.underlying 90).isSome = true := by kernel_rfl
@[simp] theorem tb_ti91 : tiF Try.prog 91 = some ⟨false, 1, 8, [.nilFunc]⟩ := by kernel_rfl
@[simp] theorem tb_un91 : (Try.prog.underlying 91).isSome = true := by kernel_rfl
@[simp] theorem tb_ti92 : tiF Try.prog 92 = some ⟨true, 6, 88, [.int .i64 0, .string ⟨#[]⟩, .slice none 0 0, .slice none 0 0, .int .i64 0, .bool false]⟩ := by kernel_rfl
@[simp] theorem tb_un92 : (Try.prog.underlying 92).isSome = true := by kernel_rfl
@[simp] theorem tb_ti93 : tiF Try.prog 93 = some ⟨true, 6, 88, [.int .i64 0, .string ⟨#[]⟩, .slice none 0 0, .slice none 0 0, .int .i64 0, .bool false]⟩ := by kernel_rfl
@[simp] theorem tb_un93 : (Try.prog.underlying 93).isSome = true := by kernel_rfl
@[simp] theorem tb_ti94 : tiF Try.prog 94 = some ⟨false, 1, 8, [.nilFunc]⟩ := by kernel_rfl
@[simp] theorem tb_un94 : (Try.prog.underlying 94).isSome = true := by kernel_rfl
@[simp] theorem tb_ti95 : tiF Try.prog 95 = some ⟨false, 1, 8, [.nilFunc]⟩ := by kernel_rfl
@[simp] theorem tb_un95 : (Try.prog.underlying 95).isSome = true := by kernel_rfl
@[simp] theorem tb_ti96 : tiF Try.prog 96 = some ⟨false, 1, 8, [.nilFunc]⟩ := by kernel_rfl
@[simp] theorem tb_un96 : (Try.prog.underlying 96).isSome = true := by kernel_rfl
@[simp] theorem tb_ti97 : tiF Try.prog 97 = some ⟨false, 1, 8, [.nilFunc]⟩ := by kernel_rfl
@[simp] theorem tb_un97 : (Try.prog.underlying 97).isSome = true := by kernel_rfl
@[simp] theorem tb_ti98 : tiF Try.prog 98 = some ⟨false, 1, 8, [.nilFunc]⟩ := by kernel_rfl
@[simp] theorem tb_un98 : (Try.prog.underlying 98).isSome = true := by kernel_rfl
@[simp] theorem tb_ti99 : tiF Try.prog 99 = some ⟨false, 1, 8, [.nilFunc]⟩ := by kernel_rfl
@[simp] theorem tb_un99 : (Try.prog.underlying 99).isSome = true := by kernel_rfl
@[simp] theorem tb_ti100 : tiF Try.prog 100 = some ⟨false, 1, 8, [.nilFunc]⟩ := by kernel_rfl
@[simp] theorem tb_un100 : (Try.prog.underlying 100).isSome = true := by kernel_rfl
@[simp] theorem tb_ti101 : tiF Try.prog 101 = some ⟨false, 1, 8, [.nilFunc]⟩ := by kernel_rfl
@[simp] theorem tb_un101 : (Try.prog.underlying 101).isSome = true := by kernel_rfl
@[simp] theorem tb_ti102 : tiF Try.prog 102 = some ⟨false, 1, 8, [.nilFunc]⟩ := by kernel_rfl
@[simp] theorem tb_un102 : (Try.prog.underlying 102).isSome = true := by kernel_rfl
@[simp] theorem tb_ti103 : tiF Try.prog 103 = some ⟨false, 1, 8, [.nilFunc]⟩ := by kernel_rfl
@[simp] theorem tb_un103 : (Try.prog.underlying 103).isSome = true := by kernel_rfl
@[simp] theorem tb_ti104 : tiF Try.prog 104 = some ⟨true, 2, 32, [.string ⟨#[]⟩, .string ⟨#[]⟩]⟩ := by kernel_rfl
@[simp] theorem tb_un104 : (Try.prog.underlying 104).isSome = true := by kernel_rfl
@[simp] theorem tb_ti105 : tiF Try.prog 105 = some ⟨true, 2, 32, [.string ⟨#[]⟩, .string ⟨#[]⟩]⟩ := by kernel_rfl
@[simp] theorem tb_un105 : (Try.prog.underlying 105).isSome = true := by kernel_rfl
@[simp] theorem tb_ti107 : tiF Try.prog 107 = some ⟨false, 1, 8, [.nilFunc]⟩ := by kernel_rfl
@[simp] theorem tb_un107 : (Try.prog.underlying 107).isSome = true := by kernel_rfl
@[simp] theorem tb_ti108 : tiF Try.prog 108 = some ⟨false, 1, 8, [.nilFunc]⟩ := by kernel_rfl
@[simp] theorem tb_un108 : (Try.prog.underlying 108).isSome = true := by kernel_rfl
@[simp] theorem tb_ti109 : tiF Try.prog 109 = some ⟨false, 1, 8, [.nilFunc]⟩ := by kernel_rfl
@[simp] theorem tb_un109 : (Try.prog.underlying 109).isSome = true := by kernel_rfl
@[simp] theorem tb_ti110 : tiF Try.prog 110 = some ⟨false, 1, 8, [.nilFunc]⟩ := by kernel_rfl
@[simp] theorem tb_un110 : (Try.prog.underlying 110).isSome = true := by kernel_rfl
@[simp] theorem tb_ti111 : tiF Try.prog 111 = some ⟨false, 1, 8, [.int .u64 0]⟩ := by kernel_rfl
@[simp] theorem tb_un111 : (Try.prog.underlying 111).isSome = true := by kernel_rfl
@[simp] theorem tb_ti112 : tiF Try.prog 112 = some ⟨false, 1, 8, [.nilFunc]⟩ := by kernel_rfl
@[simp] theorem tb_un112 : (Try.prog.underlying 112).isSome = true := by kernel_rfl
@[simp] theorem tb_ti113 : tiF Try.prog 113 = some ⟨false, 1, 8, [.nilFunc]⟩ := by kernel_rfl
@[simp] theorem tb_un113 : (Try.prog.underlying 113).isSome = true := by kernel_rfl
@[simp] theorem tb_ti114 : tiF Try.prog 114 = some ⟨false, 1, 8, [.nilFunc]⟩ := by kernel_rfl
@[simp] theorem tb_un114 : (Try.prog.underlying 114).isSome = true := by kernel_rfl
@[simp] theorem tb_ti115 : tiF Try.prog 115 = some ⟨false, 1, 8, [.nilFunc]⟩ := by kernel_rfl
@[simp] theorem tb_un115 : (Try.prog.underlying 115).isSome = true := by kernel_rfl
@[simp] theorem tb_ti116 : tiF Try.prog 116 = some ⟨false, 1, 8, [.nilFunc]⟩ := by kernel_rfl
@[simp] theorem tb_un116 : (Try.prog.underlying 116).isSome = true := by kernel_rfl
@[simp] theorem tb_ti117 : tiF Try.prog 117 = some ⟨false, 1, 8, [.nilFunc]⟩ := by kernel_rfl
@[simp] theorem tb_un117 : (Try.prog.underlying 117).isSome = true := by kernel_rfl
@[simp] theorem tb_ti118 : tiF Try.prog 118 = some ⟨false, 1, 8, [.nilFunc]⟩ := by kernel_rfl
@[simp] theorem tb_un118 : (Try.prog.underlying 118).isSome = true := by kernel_rfl
@[simp] theorem tb_ti119 : tiF Try.prog 119 = some ⟨false, 1, 8, [.nilFunc]⟩ := by kernel_rfl
@[simp] theorem tb_un119 : (Try.prog.underlying 119).isSome = true := by kernel_rfl
@[simp] theorem tb_ti120 : tiF Try.prog 120 = some ⟨false, 1, 8, [.nilFunc]⟩ := by kernel_rfl
@[simp] theorem tb_un120 : (Try.prog.underlying 120).isSome = true := by kernel_rfl
@[simp] theorem tb_ti121 : tiF Try.prog 121 = some ⟨false, 1, 8, [.nilFunc]⟩ := by kernel_rfl
@[simp] theorem tb_un121 : (Try.prog.underlying 121).isSome = true := by kernel_rfl
@[simp] theorem tb_ti122 : tiF Try.prog 122 = some ⟨false, 1, 8, [.nilFunc]⟩ := by kernel_rfl
@[simp] theorem tb_un122 : (Try.prog.underlying 122).isSome = true := by kernel_rfl
@[simp] theorem tb_ti123 : tiF Try.prog 123 = some ⟨false, 1, 8, [.nilFunc]⟩ := by kernel_rfl
@[simp] theorem tb_un123 : (Try.prog.underlying 123).isSome = true := by kernel_rfl
@[simp] theorem tb_ti124 : tiF Try.prog 124 = some ⟨true, 6, 96, [.string ⟨#[]⟩, .int .i64 0, .string ⟨#[]⟩, .slice none 0 0, .slice none 0 0, .int .i64 0]⟩ := by kernel_rfl
@[simp] theorem tb_un124 : (Try.prog.underlying 124).isSome = true := by kernel_rfl
@[simp] theorem tb_ti125 : tiF Try.prog 125 = some ⟨true, 6, 96, [.string ⟨#[]⟩, .int .i64 0, .string ⟨#[]⟩, .slice none 0 0, .slice none 0 0, .int .i64 0]⟩ := by kernel_rfl
@[simp] theorem tb_un125 : (Try.prog.underlying 125).isSome = true := by kernel_rfl
@[simp] theorem tb_ti126 : tiF Try.prog 126 = some ⟨false, 1, 8, [.nilFunc]⟩ := by kernel_rfl
@[simp] theorem tb_un126 : (Try.prog.underlying 126).isSome = true := by kernel_rfl
@[simp] theorem tb_ti127 : tiF Try.prog 127 = some ⟨false, 1, 8, [.nilFunc]⟩ := by kernel_rfl
@[simp] theorem tb_un127 : (Try.prog.underlying 127).isSome = true := by kernel_rfl
@[simp] theorem tb_ti128 : tiF Try.prog 128 = some ⟨false, 1, 8, [.nilFunc]⟩ := by kernel_rfl
@[simp] theorem tb_un128 : (Try.prog.underlying 128).isSome = true := by kernel_rfl
@[simp] theorem tb_ti129 : tiF Try.prog 129 = some ⟨false, 1, 8, [.nilFunc]⟩ := by kernel_rfl
@[simp] theorem tb_un129 : (Try.prog.underlying 129).isSome = true := by kernel_rfl
@[simp] theorem tb_ti130 : tiF Try.prog 130 = some ⟨false, 1, 8, [.nilFunc]⟩ := by kernel_rfl
@[simp] theorem tb_un130 : (Try.prog.underlying 130).isSome = true := by kernel_rfl
@[simp] theorem tb_ti131 : tiF Try.prog 131 = some ⟨false, 1, 8, [.nilFunc]⟩ := by kernel_rfl
@[simp] theorem tb_un131 : (Try.prog.underlying 131).isSome = true := by kernel_rfl
@[simp] theorem tb_ti132 : tiF Try.prog 132 = some ⟨false, 1, 8, [.nilFunc]⟩ := by kernel_rfl
@[simp] theorem tb_un132 : (Try.prog.underlying 132).isSome = true := by kernel_rfl
@[simp] theorem tb_ti133 : tiF Try.prog 133 = some ⟨false, 1, 8, [.nilFunc]⟩ := by kernel_rfl
@[simp] theorem tb_un133 : (Try.prog.underlying 133).isSome = true := by kernel_rfl
@[simp] theorem tb_ti134 : tiF Try.prog 134 = some ⟨false, 1, 8, [.nilFunc]⟩ := by kernel_rfl
@[simp] theorem tb_un134 : (Try.prog.underlying 134).isSome = true := by kernel_rfl
@[simp] theorem tb_ti135 : tiF Try.prog 135 = some ⟨false, 1, 8, [.nilFunc]⟩ := by kernel_rfl
@[simp] theorem tb_un135 : (Try.prog.underlying 135).isSome = true := by kernel_rfl
@[simp] theorem tb_ti136 : tiF Try.prog 136 = some ⟨false, 1, 8, [.nilFunc]⟩ := by kernel_rfl
@[simp] theorem tb_un136 : (Try.prog.underlying 136).isSome = true := by kernel_rfl
@[simp] theorem tb_ti137 : tiF Try.prog 137 = some ⟨false, 1, 8, [.nilFunc]⟩ := by kernel_rfl
@[simp] theorem tb_un137 : (Try.prog.underlying 137).isSome = true := by kernel_rfl
@[simp] theorem tb_ti138 : tiF Try.prog 138 = some ⟨false, 1, 8, [.nilFunc]⟩ := by kernel_rfl
@[simp] theorem tb_un138 : (Try.prog.underlying 138).isSome = true := by kernel_rfl
@[simp] theorem tb_ti139 : tiF Try.prog 139 = some ⟨false, 1, 8, [.nilFunc]⟩ := by kernel_rfl
@[simp] theorem tb_un139 : (Try.prog.underlying 139).isSome = true := by kernel_rfl
@[simp] theorem tb_ti140 : tiF Try.prog 140 = some ⟨false, 1, 24, [.slice none 0 0]⟩ := by kernel_rfl
@[simp] theorem tb_un140 : (Try.prog.underlying 140).isSome = true := by kernel_rfl
@[simp] theorem tb_ti141 : tiF Try.prog 141 = some ⟨false, 1, 8, [.nilFunc]⟩ := by kernel_rfl
@[simp] theorem tb_un141 : (Try.prog.underlying 141).isSome = true := by kernel_rfl
@[simp] theorem tb_ti142 : tiF Try.prog 142 = some ⟨false, 1, 8, [.nilFunc]⟩ := by kernel_rfl
@[simp] theorem tb_un142 : (Try.prog.underlying 142).isSome = true := by kernel_rfl
@[simp] theorem tb_ti143 : tiF Try.prog 143 = some ⟨false, 1, 8, [.nilFunc]⟩ := by kernel_rfl
@[simp] theorem tb_un143 : (Try.prog.underlying 143).isSome = true := by kernel_rfl
@[simp] theorem tb_ti144 : tiF Try.prog 144 = some ⟨false, 1, 8, [.nilFunc]⟩ := by kernel_rfl
@[simp] theorem tb_un144 : (Try.prog.underlying 144).isSome = true := by kernel_rfl
@[simp] theorem tb_ti145 : tiF Try.prog 145 = some ⟨false, 1, 8, [.nilFunc]⟩ := by kernel_rfl
@[simp] theorem tb_un145 : (Try.prog.underlying 145).isSome = true := by kernel_rfl
@[simp] theorem tb_ti146 : tiF Try.prog 146 = some ⟨false, 1, 8, [.nilFunc]⟩ := by kernel_rfl
@[simp] theorem tb_un146 : (Try.prog.underlying 146).isSome = true := by kernel_rfl
@[simp] theorem tb_ti147 : tiF Try.prog 147 = some ⟨false, 1, 8, [.nilFunc]⟩ := by kernel_rfl
@[simp] theorem tb_un147 : (Try.prog.underlying 147).isSome = true := by kernel_rfl
@[simp] theorem tb_ti148 : tiF Try.prog 148 = some ⟨true, 4, 32, [.int .i64 0, .int .i64 0, .int .i64 0, .int .i64 0]⟩ := by kernel_rfl
@[simp] theorem tb_un148 : (Try.prog.underlying 148).isSome = true := by kernel_rfl
@[simp] theorem tb_ti149 : tiF Try.prog 149 = some ⟨true, 4, 32, [.int .i64 0, .int .i64 0, .int .i64 0, .int .i64 0]⟩ := by kernel_rfl
@[simp] theorem tb_un149 : (Try.prog.underlying 149).isSome = true := by kernel_rfl
@[simp] theorem tb_ti150 : tiF Try.prog 150 = some ⟨false, 1, 8, [.int .u64 0]⟩ := by kernel_rfl
@[simp] theorem tb_un150 : (Try.prog.underlying 150).isSome = true := by kernel_rfl
@[simp] theorem tb_ti151 : tiF Try.prog 151 = some ⟨false, 1, 8, [.nilFunc]⟩ := by kernel_rfl
@[simp] theorem tb_un151 : (Try.prog.underlying 151).isSome = true := by kernel_rfl
@[simp] theorem tb_ti152 : tiF Try.prog 152 = some ⟨false, 1, 8, [.nilFunc]⟩ := by kernel_rfl
@[simp] theorem tb_un152 : (Try.prog.underlying 152).isSome = true := by kernel_rfl
@[simp] theorem tb_ti153 : tiF Try.prog 153 = some ⟨false, 1, 8, [.nilFunc]⟩ := by kernel_rfl
@[simp] theorem tb_un153 : (Try.prog.underlying 153).isSome = true := by kernel_rfl
@[simp] theorem tb_ti154 : tiF Try.prog 154 = some ⟨false, 1, 8, [.nilFunc]⟩ := by kernel_rfl
@[simp] theorem tb_un154 : (Try.prog.underlying 154).isSome = true := by kernel_rfl
@[simp] theorem tb_ti155 : tiF Try.prog 155 = some ⟨false, 1, 8, [.nilFunc]⟩ := by kernel_rfl
@[simp] theorem tb_un155 : (Try.prog.underlying 155).isSome = true := by kernel_rfl
@[simp] theorem tb_ti156 : tiF Try.prog 156 = some ⟨false, 1, 8, [.nilFunc]⟩ := by kernel_rfl
@[simp] theorem tb_un156 : (Try.prog.underlying 156).isSome = true := by kernel_rfl
@[simp] theorem tb_ti157 : tiF Try.prog 157 = some ⟨false, 1, 8, [.nilFunc]⟩ := by kernel_rfl
@[simp] theorem tb_un157 : (Try.prog.underlying 157).isSome = true := by kernel_rfl
@[simp] theorem tb_ti158 : tiF Try.prog 158 = some ⟨false, 1, 8, [.nilFunc]⟩ := by kernel_rfl
@[simp] theorem tb_un158 : (Try.prog.underlying 158).isSome = true := by kernel_rfl
@[simp] theorem tb_ti159 : tiF Try.prog 159 = some ⟨false, 1, 8, [.nilFunc]⟩ := by kernel_rfl
@[simp] theorem tb_un159 : (Try.prog.underlying 159).isSome = true := by kernel_rfl
@[simp] theorem tb_ti160 : tiF Try.prog 160 = some ⟨false, 1, 8, [.nilFunc]⟩ := by kernel_rfl
@[simp] theorem tb_un160 : (Try.prog.underlying 160).isSome = true := by kernel_rfl
@[simp] theorem tb_ti161 : tiF Try.prog 161 = some ⟨false, 1, 8, [.nilFunc]⟩ := by kernel_rfl
@[simp] theorem tb_un161 : (Try.prog.underlying 161).isSome = true := by kernel_rfl
@[simp] theorem tb_ti162 : tiF Try.prog 162 = some ⟨false, 1, 2, [.int .u16 0]⟩ := by kernel_rfl
@[simp] theorem tb_un162 : (Try.prog.underlying 162).isSome = true := by kernel_rfl
@[simp] theorem tb_ti164 : tiF Try.prog 164 = some ⟨false, 1, 8, [.nilFunc]⟩ := by kernel_rfl
@[simp] theorem tb_un164 : (Try.prog.underlying 164).isSome = true := by kernel_rfl
@[simp] theorem tb_ti165 : tiF Try.prog 165 = some ⟨false, 1, 8, [.nilFunc]⟩ := by kernel_rfl
@[simp] theorem tb_un165 : (Try.prog.underlying 165).isSome = true := by kernel_rfl
@[simp] theorem tb_ti166 : tiF Try.prog 166 = some ⟨false, 1, 8, [.nilFunc]⟩ := by kernel_rfl
@[simp] theorem tb_un166 : (Try.prog.underlying 166).isSome = true := by kernel_rfl
@[simp] theorem tb_ti167 : tiF Try.prog 167 = some ⟨false, 1, 8, [.nilFunc]⟩ := by kernel_rfl
@[simp] theorem tb_un167 : (Try.prog.underlying 167).isSome = true := by kernel_rfl
@[simp] theorem tb_ti168 : tiF Try.prog 168 = some ⟨false, 1, 4, [.int .u32 0]⟩ := by kernel_rfl
@[simp] theorem tb_un168 : (Try.prog.underlying 168).isSome = true := by kernel_rfl
@[simp] theorem tb_ti170 : tiF Try.prog 170 = some ⟨false, 1, 8, [.nilFunc]⟩ := by kernel_rfl
@[simp] theorem tb_un170 : (Try.prog.underlying 170).isSome = true := by kernel_rfl
@[simp] theorem tb_ti171 : tiF Try.prog 171 = some ⟨false, 1, 8, [.nilFunc]⟩ := by kernel_rfl
@[simp] theorem tb_un171 : (Try.prog.underlying 171).isSome = true := by kernel_rfl
@[simp] theorem tb_ti172 : tiF Try.prog 172 = some ⟨true, 4, 40, [.pointer none, .pointer none, .pointer none, .string ⟨#[]⟩]⟩ := by kernel_rfl
@[simp] theorem tb_un172 : (Try.prog.underlying 172).isSome = true := by kernel_rfl
@[simp] theorem tb_ti173 : tiF Try.prog 173 = some ⟨true, 4, 40, [.pointer none, .pointer none, .pointer none, .string ⟨#[]⟩]⟩ := by kernel_rfl
@[simp] theorem tb_un173 : (Try.prog.underlying 173).isSome = true := by kernel_rfl
@[simp] theorem tb_ti174 : tiF Try.prog 174 = some ⟨true, 0, 0, []⟩ := by kernel_rfl
@[simp] theorem tb_un174 : (Try.prog.underlying 174).isSome = true := by kernel_rfl
@[simp] theorem tb_ti175 : tiF Try.prog 175 = some ⟨true, 0, 0, []⟩ := by kernel_rfl
@[simp] theorem tb_un175 : (Try.prog.underlying 175).isSome = true := by kernel_rfl
@[simp] theorem tb_ti176 : tiF Try.prog 176 = some ⟨true, 0, 0, []⟩ := by kernel_rfl
@[simp] theorem tb_un176 : (Try.prog.underlying 176).isSome = true := by kernel_rfl
@[simp] theorem tb_ti177 : tiF Try.prog 177 = some ⟨false, 1, 8, [.nilFunc]⟩ := by kernel_rfl
@[simp] theorem tb_un177 : (Try.prog.underlying 177).isSome = true := by kernel_rfl
@[simp] theorem tb_ti178 : tiF Try.prog 178 = some ⟨false, 1, 1, [.int .u8 0]⟩ := by kernel_rfl
@[simp] theorem tb_un178 : (Try.prog.underlying 178).isSome = true := by kernel_rfl
@[simp] theorem tb_ti179 : tiF Try.prog 179 = some ⟨false, 1, 1, [.int .u8 0]⟩ := by kernel_rfl
@[simp] theorem tb_un179 : (Try.prog.underlying 179).isSome = true := by kernel_rfl
@[simp] theorem tb_ti180 : tiF Try.prog 180 = some ⟨false, 1, 8, [.nilFunc]⟩ := by kernel_rfl
@[simp] theorem tb_un180 : (Try.prog.underlying 180).isSome = true := by kernel_rfl
@[simp] theorem tb_ti181 : tiF Try.prog 181 = some ⟨false, 1, 8, [.pointer none]⟩ := by kernel_rfl
@[simp] theorem tb_un181 : (Try.prog.underlying 181).isSome = true := by kernel_rfl
@[simp] theorem tb_ti182 : tiF Try.prog 182 = some ⟨false, 1, 4, [.int .i32 0]⟩ := by kernel_rfl
@[simp] theorem tb_un182 : (Try.prog.underlying 182).isSome = true := by kernel_rfl
@[simp] theorem tb_ti183 : tiF Try.prog 183 = some ⟨false, 1, 4, [.int .i32 0]⟩ := by kernel_rfl
@[simp] theorem tb_un183 : (Try.prog.underlying 183).isSome = true := by kernel_rfl
@[simp] theorem tb_ti184 : tiF Try.prog 184 = some ⟨true, 11, 48, [.int .u64 0, .int .u64 0, .int .u32 0, .int .u8 0, .int .u8 0, .int .u8 0, .int .u8 0, .nilFunc, .pointer none, .int .i32 0, .int .i32 0]⟩ := by kernel_rfl
@[simp] theorem tb_un184 : (Try.prog.underlying 184).isSome = true := by kernel_rfl
@[simp] theorem tb_ti185 : tiF Try.prog 185 = some ⟨true, 11, 48, [.int .u64 0, .int .u64 0, .int .u32 0, .int .u8 0, .int .u8 0, .int .u8 0, .int .u8 0, .nilFunc, .pointer none, .int .i32 0, .int .i32 0]⟩ := by kernel_rfl
@[simp] theorem tb_un185 : (Try.prog.underlying 185).isSome = true := by kernel_rfl
@[simp] theorem tb_ti186 : tiF Try.prog 186 = some ⟨false, 1, 8, [.pointer none]⟩ := by kernel_rfl
@[simp] theorem tb_un186 : (Try.prog.underlying 186).isSome = true := by kernel_rfl
@[simp] theorem tb_el22 : elemF Try.prog 22 = some 5 := by kernel_rfl
@[simp] theorem tb_el24 : elemF Try.prog 24 = some 36 := by kernel_rfl
@[simp] theorem tb_el31 : elemF Try.prog 31 = some 105 := by kernel_rfl
@[simp] theorem tb_el32 : elemF Try.prog 32 = some 9 := by kernel_rfl
@[simp] theorem tb_el56 : elemF Try.prog 56 = some 125 := by kernel_rfl
@[simp] theorem tb_el59 : elemF Try.prog 59 = some 149 := by kernel_rfl
@[simp] theorem tb_el60 : elemF Try.prog 60 = some 3 := by kernel_rfl
@[simp] theorem tb_el72 : elemF Try.prog 72 = some 62 := by kernel_rfl
@[simp] theorem tb_el140 : elemF Try.prog 140 = some 24 := by kernel_rfl
@[simp] theorem tb_fl7 : flds Try.prog 7 = some [(0, 1, false), (1, 1, false), (2, 1, false), (3, 1, false)] := by kernel_rfl
@[simp] theorem tb_fl8 : flds Try.prog 8 = some [(0, 1, false), (1, 1, false), (2, 1, false), (3, 1, false)] := by kernel_rfl
@[simp] theorem tb_fl13 : flds Try.prog 13 = some [(0, 1, false), (1, 1, false)] := by kernel_rfl
@[simp] theorem tb_fl14 : flds Try.prog 14 = some [(0, 1, false), (1, 1, false)] := by kernel_rfl
@[simp] theorem tb_fl18 : flds Try.prog 18 = some [(0, 1, false)] := by kernel_rfl
@[simp] theorem tb_fl19 : flds Try.prog 19 = some [(0, 1, false)] := by kernel_rfl
@[simp] theorem tb_fl26 : flds Try.prog 26 = some [(0, 1, false), (1, 1, false)] := by kernel_rfl
@[simp] theorem tb_fl27 : flds Try.prog 27 = some [(0, 1, false), (1, 1, false)] := by kernel_rfl
@[simp] theorem tb_fl28 : flds Try.prog 28 = some [(0, 2, true), (2, 1, false), (3, 1, false), (4, 2, true), (6, 1, false)] := by kernel_rfl
@[simp] theorem tb_fl29 : flds Try.prog 29 = some [(0, 2, true), (2, 1, false), (3, 1, false), (4, 2, true), (6, 1, false)] := by kernel_rfl
@[simp] theorem tb_fl33 : flds Try.prog 33 = some [(0, 1, false), (1, 1, false), (2, 1, false), (3, 1, false), (4, 1, false)] := by kernel_rfl
@[simp] theorem tb_fl34 : flds Try.prog 34 = some [(0, 1, false), (1, 1, false), (2, 1, false), (3, 1, false), (4, 1, false)] := by kernel_rfl
@[simp] theorem tb_fl35 : flds Try.prog 35 = some [(0, 1, false), (1, 1, false), (2, 5, true)] := by kernel_rfl
@[simp] theorem tb_fl36 : flds Try.prog 36 = some [(0, 1, false), (1, 1, false), (2, 5, true)] := by kernel_rfl
@[simp] theorem tb_fl50 : flds Try.prog 50 = some [(0, 1, false), (1, 1, false)] := by kernel_rfl
@[simp] theorem tb_fl51 : flds Try.prog 51 = some [(0, 1, false), (1, 1, false)] := by kernel_rfl
@[simp] theorem tb_fl61 : flds Try.prog 61 = some [(0, 1, false), (1, 1, false), (2, 1, false), (3, 1, false), (4, 1, false), (5, 1, false), (6, 1, false), (7, 1, false), (8, 1, false), (9, 2, true), (11, 2, true), (13, 1, false), (14, 1, false)] := by kernel_rfl
@[simp] theorem tb_fl62 : flds Try.prog 62 = some [(0, 1, false), (1, 1, false), (2, 1, false), (3, 1, false), (4, 1, false), (5, 1, false), (6, 1, false), (7, 1, false), (8, 1, false), (9, 2, true), (11, 2, true), (13, 1, false), (14, 1, false)] := by kernel_rfl
@[simp] theorem tb_fl66 : flds Try.prog 66 = some [(0, 7, true), (7, 1, false), (8, 1, false)] := by kernel_rfl
@[simp] theorem tb_fl67 : flds Try.prog 67 = some [(0, 7, true), (7, 1, false), (8, 1, false)] := by kernel_rfl
@[simp] theorem tb_fl92 : flds Try.prog 92 = some [(0, 5, true), (5, 1, false)] := by kernel_rfl
@[simp] theorem tb_fl93 : flds Try.prog 93 = some [(0, 5, true), (5, 1, false)] := by kernel_rfl
@[simp] theorem tb_fl104 : flds Try.prog 104 = some [(0, 1, false), (1, 1, false)] := by kernel_rfl
@[simp] theorem tb_fl105 : flds Try.prog 105 = some [(0, 1, false), (1, 1, false)] := by kernel_rfl
@[simp] theorem tb_fl124 : flds Try.prog 124 = some [(0, 1, false), (1, 5, true)] := by kernel_rfl
@[simp] theorem tb_fl125 : flds Try.prog 125 = some [(0, 1, false), (1, 5, true)] := by kernel_rfl
@[simp] theorem tb_fl148 : flds Try.prog 148 = some [(0, 1, false), (1, 1, false), (2, 1, false), (3, 1, false)] := by kernel_rfl
@[simp] theorem tb_fl149 : flds Try.prog 149 = some [(0, 1, false), (1, 1, false), (2, 1, false), (3, 1, false)] := by kernel_rfl
@[simp] theorem tb_fl172 : flds Try.prog 172 = some [(0, 1, false), (1, 1, false), (2, 1, false), (3, 1, false)] := by kernel_rfl
@[simp] theorem tb_fl173 : flds Try.prog 173 = some [(0, 1, false), (1, 1, false), (2, 1, false), (3, 1, false)] := by kernel_rfl
@[simp] theorem tb_fl175 : flds Try.prog 175 = some [(0, 0, true)] := by kernel_rfl
@[simp] theorem tb_fl176 : flds Try.prog 176 = some [(0, 0, true)] := by kernel_rfl
@[simp] theorem tb_fl184 : flds Try.prog 184 = some [(0, 1, false), (1, 1, false), (2, 1, false), (3, 1, false), (4, 1, false), (5, 1, false), (6, 1, false), (7, 1, false), (8, 1, false), (9, 1, false), (10, 1, false)] := by kernel_rfl
@[simp] theorem tb_fl185 : flds Try.prog 185 = some [(0, 1, false), (1, 1, false), (2, 1, false), (3, 1, false), (4, 1, false), (5, 1, false), (6, 1, false), (7, 1, false), (8, 1, false), (9, 1, false), (10, 1, false)] := by kernel_rfl
@[simp] theorem tb_st9 : strF Try.prog 9 = true := by kernel_rfl
@[simp] theorem tb_st10 : strF Try.prog 10 = true := by kernel_rfl
@[simp] theorem tb_st11 : strF Try.prog 11 = true := by kernel_rfl
@[simp] theorem tb_in2 : intF Try.prog 2 = some .i64 := by kernel_rfl
@[simp] theorem tb_in3 : intF Try.prog 3 = some .i64 := by kernel_rfl
@[simp] theorem tb_in5 : intF Try.prog 5 = some .u8 := by kernel_rfl
@[simp] theorem tb_in6 : intF Try.prog 6 = some .u8 := by kernel_rfl
@[simp] theorem tb_in12 : intF Try.prog 12 = some .u64 := by kernel_rfl
@[simp] theorem tb_in21 : intF Try.prog 21 = some .i32 := by kernel_rfl
@[simp] theorem tb_in55 : intF Try.prog 55 = some .i8 := by kernel_rfl
@[simp] theorem tb_in111 : intF Try.prog 111 = some .u64 := by kernel_rfl
@[simp] theorem tb_in150 : intF Try.prog 150 = some .u64 := by kernel_rfl
@[simp] theorem tb_in162 : intF Try.prog 162 = some .u16 := by kernel_rfl
@[simp] theorem tb_in168 : intF Try.prog 168 = some .u32 := by kernel_rfl
@[simp] theorem tb_in178 : intF Try.prog 178 = some .u8 := by kernel_rfl
@[simp] theorem tb_in179 : intF Try.prog 179 = some .u8 := by kernel_rfl
@[simp] theorem tb_in182 : intF Try.prog 182 = some .i32 := by kernel_rfl
@[simp] theorem tb_in183 : intF Try.prog 183 = some .i32 := by kernel_rfl
@[simp] theorem tb_sq7 : seqF Try.prog 7 = some [0, 0, 2, 0] := by kernel_rfl
@[simp] theorem tb_sq8 : seqF Try.prog 8 = some [0, 0, 2, 0] := by kernel_rfl
@[simp] theorem tb_sq26 : seqF Try.prog 26 = some [0, 0] := by kernel_rfl
@[simp] theorem tb_sq27 : seqF Try.prog 27 = some [0, 0] := by kernel_rfl
@[simp] theorem tb_sq50 : seqF Try.prog 50 = some [1, 2] := by kernel_rfl
@[simp] theorem tb_sq51 : seqF Try.prog 51 = some [1, 2] := by kernel_rfl
@[simp] theorem tb_sq104 : seqF Try.prog 104 = some [1, 1] := by kernel_rfl
@[simp] theorem tb_sq105 : seqF Try.prog 105 = some [1, 1] := by kernel_rfl
@[simp] theorem tb_sq148 : seqF Try.prog 148 = some [0, 0, 0, 0] := by kernel_rfl
@[simp] theorem tb_sq149 : seqF Try.prog 149 = some [0, 0, 0, 0] := by kernel_rfl
@[simp] theorem tb_sk4 : sk Try.prog 4 = some 2 := by kernel_rfl
end Go.Proofs.Ytlkhfdccapkcdaa
