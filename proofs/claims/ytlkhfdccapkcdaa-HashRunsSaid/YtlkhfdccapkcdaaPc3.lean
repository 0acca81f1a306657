/- Part 3 of the proof. -/
import Derived.Test.YtlkhfdccapkcdaaPc2
import Derived.Test.YtlkhfdccapkcdaaProg
namespace Go.Proofs.Ytlkhfdccapkcdaa
open Go Go.RowKit
@[simp] theorem tb_ti1 : tiF Try.prog 1 = some ⟨false, 1, 8, [.nilFunc]⟩ := by kernel_rfl
@[simp] theorem tb_un1 : (Try.prog.underlying 1).isSome = true := by kernel_rfl
@[simp] theorem tb_ti2 : tiF Try.prog 2 = some ⟨false, 1, 8, [.int .i64 0]⟩ := by kernel_rfl
@[simp] theorem tb_un2 : (Try.prog.underlying 2).isSome = true := by kernel_rfl
@[simp] theorem tb_ti3 : tiF Try.prog 3 = some ⟨false, 1, 8, [.int .i64 0]⟩ := by kernel_rfl
@[simp] theorem tb_un3 : (Try.prog.underlying 3).isSome = true := by kernel_rfl
@[simp] theorem tb_ti4 : tiF Try.prog 4 = some ⟨false, 1, 1, [.bool false]⟩ := by kernel_rfl
@[simp] theorem tb_un4 : (Try.prog.underlying 4).isSome = true := by kernel_rfl
@[simp] theorem tb_ti5 : tiF Try.prog 5 = some ⟨false, 1, 1, [.int .u8 0]⟩ := by kernel_rfl
@[simp] theorem tb_un5 : (Try.prog.underlying 5).isSome = true := by kernel_rfl
@[simp] theorem tb_ti6 : tiF Try.prog 6 = some ⟨false, 1, 1, [.int .u8 0]⟩ := by kernel_rfl
@[simp] theorem tb_un6 : (Try.prog.underlying 6).isSome = true := by kernel_rfl
@[simp] theorem tb_ti7 : tiF Try.prog 7 = some ⟨true, 4, 24, [.int .i64 0, .int .i64 0, .bool false, .int .u8 0]⟩ := by kernel_rfl
@[simp] theorem tb_un7 : (Try.prog.underlying 7).isSome = true := by kernel_rfl
@[simp] theorem tb_ti8 : tiF Try.prog 8 = some ⟨true, 4, 24, [.int .i64 0, .int .i64 0, .bool false, .int .u8 0]⟩ := by kernel_rfl
@[simp] theorem tb_un8 : (Try.prog.underlying 8).isSome = true := by kernel_rfl
@[simp] theorem tb_ti9 : tiF Try.prog 9 = some ⟨false, 1, 16, [.string ⟨#[]⟩]⟩ := by kernel_rfl
@[simp] theorem tb_un9 : (Try.prog.underlying 9).isSome = true := by kernel_rfl
@[simp] theorem tb_ti10 : tiF Try.prog 10 = some ⟨false, 1, 16, [.string ⟨#[]⟩]⟩ := by kernel_rfl
@[simp] theorem tb_un10 : (Try.prog.underlying 10).isSome = true := by kernel_rfl
@[simp] theorem tb_ti11 : tiF Try.prog 11 = some ⟨false, 1, 16, [.string ⟨#[]⟩]⟩ := by kernel_rfl
@[simp] theorem tb_un11 : (Try.prog.underlying 11).isSome = true := by kernel_rfl
@[simp] theorem tb_ti12 : tiF Try.prog 12 = some ⟨false, 1, 8, [.int .u64 0]⟩ := by kernel_rfl
@[simp] theorem tb_un12 : (Try.prog.underlying 12).isSome = true := by kernel_rfl
@[simp] theorem tb_ti13 : tiF Try.prog 13 = some ⟨true, 2, 24, [.string ⟨#[]⟩, .int .u64 0]⟩ := by kernel_rfl
@[simp] theorem tb_un13 : (Try.prog.underlying 13).isSome = true := by kernel_rfl
@[simp] theorem tb_ti14 : tiF Try.prog 14 = some ⟨true, 2, 24, [.string ⟨#[]⟩, .int .u64 0]⟩ := by kernel_rfl
@[simp] theorem tb_un14 : (Try.prog.underlying 14).isSome = true := by kernel_rfl
@[simp] theorem tb_ti15 : tiF Try.prog 15 = some ⟨false, 1, 8, [.pointer none]⟩ := by kernel_rfl
@[simp] theorem tb_un15 : (Try.prog.underlying 15).isSome = true := by kernel_rfl
@[simp] theorem tb_ti16 : tiF Try.prog 16 = some ⟨false, 1, 8, [.pointer none]⟩ := by kernel_rfl
@[simp] theorem tb_un16 : (Try.prog.underlying 16).isSome = true := by kernel_rfl
@[simp] theorem tb_ti17 : tiF Try.prog 17 = some ⟨false, 1, 8, [.pointer none]⟩ := by kernel_rfl
@[simp] theorem tb_un17 : (Try.prog.underlying 17).isSome = true := by kernel_rfl
@[simp] theorem tb_ti18 : tiF Try.prog 18 = some ⟨true, 1, 8, [.pointer none]⟩ := by kernel_rfl
@[simp] theorem tb_un18 : (Try.prog.underlying 18).isSome = true := by kernel_rfl
@[simp] theorem tb_ti19 : tiF Try.prog 19 = some ⟨true, 1, 8, [.pointer none]⟩ := by kernel_rfl
@[simp] theorem tb_un19 : (Try.prog.underlying 19).isSome = true := by kernel_rfl
@[simp] theorem tb_ti20 : tiF Try.prog 20 = some ⟨false, 1, 16, [.nilIface]⟩ := by kernel_rfl
@[simp] theorem tb_un20 : (Try.prog.underlying 20).isSome = true := by kernel_rfl
@[simp] theorem tb_ti21 : tiF Try.prog 21 = some ⟨false, 1, 4, [.int .i32 0]⟩ := by kernel_rfl
@[simp] theorem tb_un21 : (Try.prog.underlying 21).isSome = true := by kernel_rfl
@[simp] theorem tb_ti22 : tiF Try.prog 22 = some ⟨false, 1, 24, [.slice none 0 0]⟩ := by kernel_rfl
@[simp] theorem tb_un22 : (Try.prog.underlying 22).isSome = true := by kernel_rfl
@[simp] theorem tb_ti23 : tiF Try.prog 23 = some ⟨false, 1, 8, [.nilFunc]⟩ := by kernel_rfl
@[simp] theorem tb_un23 : (Try.prog.underlying 23).isSome = true := by kernel_rfl
@[simp] theorem tb_ti24 : tiF Try.prog 24 = some ⟨false, 1, 24, [.slice none 0 0]⟩ := by kernel_rfl
@[simp] theorem tb_un24 : (Try.prog.underlying 24).isSome = true := by kernel_rfl
@[simp] theorem tb_ti25 : tiF Try.prog 25 = some ⟨false, 1, 8, [.nilFunc]⟩ := by kernel_rfl
@[simp] theorem tb_un25 : (Try.prog.underlying 25).isSome = true := by kernel_rfl
@[simp] theorem tb_ti26 : tiF Try.prog 26 = some ⟨true, 2, 16, [.int .i64 0, .int .i64 0]⟩ := by kernel_rfl
@[simp] theorem tb_un26 : (Try.prog.underlying 26).isSome = true := by kernel_rfl
@[simp] theorem tb_ti27 : tiF Try.prog 27 = some ⟨true, 2, 16, [.int .i64 0, .int .i64 0]⟩ := by kernel_rfl
@[simp] theorem tb_un27 : (Try.prog.underlying 27).isSome = true := by kernel_rfl
@[simp] theorem tb_ti28 : tiF Try.prog 28 = some ⟨true, 7, 72, [.int .i64 0, .int .i64 0, .int .i64 0, .slice none 0 0, .int .i64 0, .int .i64 0, .int .i64 0]⟩ := by kernel_rfl
@[simp] theorem tb_un28 : (Try.prog.underlying 28).isSome = true := by kernel_rfl
@[simp] theorem tb_ti29 : tiF Try.prog 29 = some ⟨true, 7, 72, [.int .i64 0, .int .i64 0, .int .i64 0, .slice none 0 0, .int .i64 0, .int .i64 0, .int .i64 0]⟩ := by kernel_rfl
@[simp] theorem tb_un29 : (Try.prog.underlying 29).isSome = true := by kernel_rfl
@[simp] theorem tb_ti30 : tiF Try.prog 30 = some ⟨false, 1, 8, [.nilFunc]⟩ := by kernel_rfl
@[simp] theorem tb_un30 : (Try.prog.underlying 30).isSome = true := by kernel_rfl
@[simp] theorem tb_ti31 : tiF Try.prog 31 = some ⟨false, 1, 24, [.slice none 0 0]⟩ := by kernel_rfl
@[simp] theorem tb_un31 : (Try.prog.underlying 31).isSome = true := by kernel_rfl
@[simp] theorem tb_ti32 : tiF Try.prog 32 = some ⟨false, 1, 24, [.slice none 0 0]⟩ := by kernel_rfl
@[simp] theorem tb_un32 : (Try.prog.underlying 32).isSome = true := by kernel_rfl
@[simp] theorem tb_ti33 : tiF Try.prog 33 = some ⟨true, 5, 80, [.int .i64 0, .string ⟨#[]⟩, .slice none 0 0, .slice none 0 0, .int .i64 0]⟩ := by kernel_rfl
@[simp] theorem tb_un33 : (Try.prog.underlying 33).isSome = true := by kernel_rfl
@[simp] theorem tb_ti34 : tiF Try.prog 34 = some ⟨true, 5, 80, [.int .i64 0, .string ⟨#[]⟩, .slice none 0 0, .slice none 0 0, .int .i64 0]⟩ := by kernel_rfl
@[simp] theorem tb_un34 : (Try.prog.underlying 34).isSome = true := by kernel_rfl
@[simp] theorem tb_ti35 : tiF Try.prog 35 = some ⟨true, 7, 104, [.string ⟨#[]⟩, .bool false, .int .i64 0, .string ⟨#[]⟩, .slice none 0 0, .slice none 0 0, .int .i64 0]⟩ := by kernel_rfl
@[simp] theorem tb_un35 : (Try.prog.underlying 35).isSome = true := by kernel_rfl
@[simp] theorem tb_ti36 : tiF Try.prog 36 = some ⟨true, 7, 104, [.string ⟨#[]⟩, .bool false, .int .i64 0, .string ⟨#[]⟩, .slice none 0 0, .slice none 0 0, .int .i64 0]⟩ := by kernel_rfl
@[simp] theorem tb_un36 : (Try.prog.underlying 36).isSome = true := by kernel_rfl
@[simp] theorem tb_ti37 : tiF Try.prog 37 = some ⟨false, 1, 8, [.nilFunc]⟩ := by kernel_rfl
@[simp] theorem tb_un37 : (Try.prog.underlying 37).isSome = true := by kernel_rfl
@[simp] theorem tb_ti38 : tiF Try.prog 38 = some ⟨false, 1, 8, [.nilFunc]⟩ := by kernel_rfl
@[simp] theorem tb_un38 : (Try.prog.underlying 38).isSome = true := by kernel_rfl
@[simp] theorem tb_ti39 : tiF Try.prog 39 = some ⟨false, 1, 8, [.nilFunc]⟩ := by kernel_rfl
@[simp] theorem tb_un39 : (Try.prog.underlying 39).isSome = true := by kernel_rfl
@[simp] theorem tb_ti40 : tiF Try.prog 40 = some ⟨false, 1, 8, [.nilFunc]⟩ := by kernel_rfl
@[simp] theorem tb_un40 : (Try.prog.underlying 40).isSome = true := by kernel_rfl
@[simp] theorem tb_ti42 : tiF Try.prog 42 = some ⟨false, 1, 8, [.nilFunc]⟩ := by kernel_rfl
@[simp] theorem tb_un42 : (Try.prog.underlying 42).isSome = true := by kernel_rfl
@[simp] theorem tb_ti43 : tiF Try.prog 43 = some ⟨false, 1, 8, [.nilFunc]⟩ := by kernel_rfl
@[simp] theorem tb_un43 : (Try.prog.underlying 43).isSome = true := by kernel_rfl
@[simp] theorem tb_ti44 : tiF Try.prog 44 = some ⟨false, 1, 8, [.nilFunc]⟩ := by kernel_rfl
@[simp] theorem tb_un44 : (Try.prog.underlying 44).isSome = true := by kernel_rfl
@[simp] theorem tb_ti45 : tiF Try.prog 45 = some ⟨false, 1, 8, [.nilFunc]⟩ := by kernel_rfl
@[simp] theorem tb_un45 : (Try.prog.underlying 45).isSome = true := by kernel_rfl
@[simp] theorem tb_ti46 : tiF Try.prog 46 = some ⟨false, 1, 8, [.nilFunc]⟩ := by kernel_rfl
@[simp] theorem tb_un46 : (Try.prog.underlying 46).isSome = true := by kernel_rfl
@[simp] theorem tb_ti47 : tiF Try.prog 47 = some ⟨false, 1, 8, [.nilFunc]⟩ := by kernel_rfl
@[simp] theorem tb_un47 : (Try.prog.underlying 47).isSome = true := by kernel_rfl
@[simp] theorem tb_ti48 : tiF Try.prog 48 = some ⟨false, 1, 8, [.nilFunc]⟩ := by kernel_rfl
@[simp] theorem tb_un48 : (Try.prog.underlying 48).isSome = true := by kernel_rfl
@[simp] theorem tb_ti49 : tiF Try.prog 49 = some ⟨false, 1, 8, [.nilFunc]⟩ := by kernel_rfl
@[simp] theorem tb_un49 : (Try.prog.underlying 49).isSome = true := by kernel_rfl
@[simp] theorem tb_ti50 : tiF Try.prog 50 = some ⟨true, 2, 24, [.string ⟨#[]⟩, .bool false]⟩ := by kernel_rfl
@[simp] theorem tb_un50 : (Try.prog.underlying 50).isSome = true := by kernel_rfl
@[simp] theorem tb_ti51 : tiF Try.prog 51 = some ⟨true, 2, 24, [.string ⟨#[]⟩, .bool false]⟩ := by kernel_rfl
@[simp] theorem tb_un51 : (Try.prog.underlying 51).isSome = true := by kernel_rfl
@[simp] theorem tb_ti52 : tiF Try.prog 52 = some ⟨false, 1, 8, [.nilFunc]⟩ := by kernel_rfl
@[simp] theorem tb_un52 : (Try.prog.underlying 52).isSome = true := by kernel_rfl
@[simp] theorem tb_ti53 : tiF Try.prog 53 = some ⟨false, 1, 8, [.nilFunc]⟩ := by kernel_rfl
@[simp] theorem tb_un53 : (Try.prog.underlying 53).isSome = true := by kernel_rfl
@[simp] theorem tb_ti54 : tiF Try.prog 54 = some ⟨false, 1, 8, [.nilFunc]⟩ := by kernel_rfl
@[simp] theorem tb_un54 : (Try.prog.underlying 54).isSome = true := by kernel_rfl
@[simp] theorem tb_ti55 : tiF Try.prog 55 = some ⟨false, 1, 1, [.int .i8 0]⟩ := by kernel_rfl
@[simp] theorem tb_un55 : (Try.prog.underlying 55).isSome = true := by kernel_rfl
@[simp] theorem tb_ti56 : tiF Try.prog 56 = some ⟨false, 1, 24, [.slice none 0 0]⟩ := by kernel_rfl
@[simp] theorem tb_un56 : (Try.prog.underlying 56).isSome = true := by kernel_rfl
@[simp] theorem tb_ti58 : tiF Try.prog 58 = some ⟨false, 1, 8, [.nilFunc]⟩ := by kernel_rfl
@[simp] theorem tb_un58 : (Try.prog.underlying 58).isSome = true := by kernel_rfl
@[simp] theorem tb_ti59 : tiF Try.prog 59 = some ⟨false, 1, 24, [.slice none 0 0]⟩ := by kernel_rfl
@[simp] theorem tb_un59 : (Try.prog.underlying 59).isSome = true := by kernel_rfl
@[simp] theorem tb_ti60 : tiF Try.prog 60 = some ⟨false, 1, 24, [.slice none 0 0]⟩ := by kernel_rfl
@[simp] theorem tb_un60 : (Try.prog.underlying 60).isSome = true := by kernel_rfl
@[simp] theorem tb_ti61 : tiF Try.prog 61 = some ⟨true, 15, 168, [.int .i64 0, .int .i64 0, .int .i64 0, .int .i64 0, .slice none 0 0, .slice none 0 0, .int .i64 0, .int .i64 0, .int .i64 0, .int .i64 0, .int .i64 0, .int .i64 0, .int .i64 0, .int .i64 0, .slice none 0 0]⟩ := by kernel_rfl
@[simp] theorem tb_un61 : (Try.prog.underlying 61).isSome = true := by kernel_rfl
@[simp] theorem tb_ti62 : tiF Try.prog 62 = some ⟨true, 15, 168, [.int .i64 0, .int .i64 0, .int .i64 0, .int .i64 0, .slice none 0 0, .slice none 0 0, .int .i64 0, .int .i64 0, .int .i64 0, .int .i64 0, .int .i64 0, .int .i64 0, .int .i64 0, .int .i64 0, .slice none 0 0]⟩ := by kernel_rfl
@[simp] theorem tb_un62 : (Try.prog.underlying 62).isSome = true := by kernel_rfl
@[simp] theorem tb_ti63 : tiF Try.prog 63 = some ⟨false, 1, 8, [.nilFunc]⟩ := by kernel_rfl
@[simp] theorem tb_un63 : (Try.prog.underlying 63).isSome = true := by kernel_rfl
@[simp] theorem tb_ti65 : tiF Try.prog 65 = some ⟨false, 1, 8, [.nilFunc]⟩ := by kernel_rfl
@[simp] theorem tb_un65 : (Try.prog.underlying 65).isSome = true := by kernel_rfl
@[simp] theorem tb_ti66 : tiF Try.prog 66 = some ⟨true, 9, 104, [.int .i64 0, .int .i64 0, .int .i64 0, .slice none 0 0, .int .i64 0, .int .i64 0, .int .i64 0, .slice none 0 0, .bool false]⟩ := by kernel_rfl
@[simp] theorem tb_un66 : (Try.prog.underlying 66).isSome = true := by kernel_rfl
@[simp] theorem tb_ti67 : tiF Try.prog 67 = some ⟨true, 9, 104, [.int .i64 0, .int .i64 0, .int .i64 0, .slice none 0 0, .int .i64 0, .int .i64 0, .int .i64 0, .slice none 0 0, .bool false]⟩ := by kernel_rfl
@[simp] theorem tb_un67 : (Try.prog.underlying 67).isSome = true := by kernel_rfl
@[simp] theorem tb_ti68 : tiF Try.prog 68 = some ⟨false, 1, 8, [.nilFunc]⟩ := by kernel_rfl
@[simp] theorem tb_un68 : (Try.prog.underlying 68).isSome = true := by kernel_rfl
@[simp] theorem tb_ti69 : tiF Try.prog 69 = some ⟨false, 1, 8, [.nilFunc]⟩ := by kernel_rfl
@[simp] theorem tb_un69 : (Try.prog.underlying 69).isSome = true := by kernel_rfl
@[simp] theorem tb_ti70 : tiF Try.prog 70 = some ⟨false, 1, 8, [.nilFunc]⟩ := by kernel_rfl
@[simp] theorem tb_un70 : (Try.prog.underlying 70).isSome = true := by kernel_rfl
@[simp] theorem tb_ti71 : tiF Try.prog 71 = some ⟨false, 1, 8, [.nilFunc]⟩ := by kernel_rfl
@[simp] theorem tb_un71 : (Try.prog.underlying 71).isSome = true := by kernel_rfl
@[simp] theorem tb_ti72 : tiF Try.prog 72 = some ⟨false, 1, 24, [.slice none 0 0]⟩ := by kernel_rfl
@[simp] theorem tb_un72 : (Try.prog.underlying 72).isSome = true := by kernel_rfl
@[simp] theorem tb_ti73 : tiF Try.prog 73 = some ⟨false, 1, 8, [.nilFunc]⟩ := by kernel_rfl
@[simp] theorem tb_un73 : (Try.prog.underlying 73).isSome = true := by kernel_rfl
@[simp] theorem tb_ti74 : tiF Try.prog 74 = some ⟨false, 1, 8, [.nilFunc]⟩ := by kernel_rfl
@[simp] theorem tb_un74 : (Try.prog.underlying 74).isSome = true := by kernel_rfl
@[simp] theorem tb_ti75 : tiF Try.prog 75 = some ⟨false, 1, 8, [.nilFunc]⟩ := by kernel_rfl
@[simp] theorem tb_un75 : (Try.prog.underlying 75).isSome = true := by kernel_rfl
@[simp] theorem tb_ti76 : tiF Try.prog 76 = some ⟨false, 1, 8, [.nilFunc]⟩ := by kernel_rfl
@[simp] theorem tb_un76 : (Try.prog.underlying 76).isSome = true := by kernel_rfl
@[simp] theorem tb_ti77 : tiF Try.prog 77 = some ⟨false, 1, 8, [.nilFunc]⟩ := by kernel_rfl
@[simp] theorem tb_un77 : (Try.prog.underlying 77).isSome = true := by kernel_rfl
@[simp] theorem tb_ti78 : tiF Try.prog 78 = some ⟨false, 1, 8, [.nilFunc]⟩ := by kernel_rfl
@[simp] theorem tb_un78 : (Try.prog.underlying 78).isSome = true := by kernel_rfl
@[simp] theorem tb_ti79 : tiF Try.prog 79 = some ⟨false, 1, 8, [.nilFunc]⟩ := by kernel_rfl
@[simp] theorem tb_un79 : (Try.prog.underlying 79).isSome = true := by kernel_rfl
@[simp] theorem tb_ti80 : tiF Try.prog 80 = some ⟨false, 1, 8, [.nilFunc]⟩ := by kernel_rfl
@[simp] theorem tb_un80 : (Try.prog.underlying 80).isSome = true := by kernel_rfl
@[simp] theorem tb_ti81 : tiF Try.prog 81 = some ⟨false, 1, 8, [.nilFunc]⟩ := by kernel_rfl
@[simp] theorem tb_un81 : (Try.prog.underlying 81).isSome = true := by kernel_rfl
@[simp] theorem tb_ti82 : tiF Try.prog 82 = some ⟨false, 1, 8, [.nilFunc]⟩ := by kernel_rfl
@[simp] theorem tb_un82 : (Try.prog.underlying 82).isSome = true := by kernel_rfl
@[simp] theorem tb_ti84 : tiF Try.prog 84 = some ⟨false, 1, 8, [.nilFunc]⟩ := by kernel_rfl
@[simp] theorem tb_un84 : (Try.prog.underlying 84).isSome = true := by kernel_rfl
@[simp] theorem tb_ti85 : tiF Try.prog 85 = some ⟨false, 1, 8, [.nilFunc]⟩ := by kernel_rfl
@[simp] theorem tb_un85 : (Try.prog.underlying 85).isSome = true := by kernel_rfl
@[simp] theorem tb_ti86 : tiF Try.prog 86 = some ⟨false, 1, 8, [.nilFunc]⟩ := by kernel_rfl
@[simp] theorem tb_un86 : (Try.prog.underlying 86).isSome = true := by kernel_rfl
@[simp] theorem tb_ti87 : tiF Try.prog 87 = some ⟨false, 1, 8, [.nilFunc]⟩ := by kernel_rfl
@[simp] theorem tb_un87 : (Try.prog.underlying 87).isSome = true := by kernel_rfl
@[simp] theorem tb_ti88 : tiF Try.prog 88 = some ⟨false, 1, 8, [.nilFunc]⟩ := by kernel_rfl
@[simp] theorem tb_un88 : (Try.prog.underlying 88).isSome = true := by kernel_rfl
@[simp] theorem tb_ti89 : tiF Try.prog 89 = some ⟨false, 1, 8, [.nilFunc]⟩ := by kernel_rfl
@[simp] theorem tb_un89 : (Try.prog.underlying 89).isSome = true := by kernel_rfl
@[simp] theorem tb_ti90 : tiF Try.prog 90 = some ⟨false, 1, 8, [.nilFunc]⟩ := by kernel_rfl
@[simp] theorem tb_un90 : (Try.prog.underlying 90).isSome = true := by kernel_rfl
@[simp] theorem tb_ti91 : tiF Try.prog 91 = some ⟨false, 1, 8, [.nilFunc]⟩ := by kernel_rfl
@[simp] theorem tb_un91 : (Try.prog.underlying 91).isSome = true := by kernel_rfl
@[simp] theorem tb_ti92 : tiF Try.prog 92 = some ⟨true, 6, 88, [.int .i64 0, .string ⟨#[]⟩, .slice none 0 0, .slice none 0 0, .int .i64 0, .bool false]⟩ := by kernel_rfl
@[simp] theorem tb_un92 : (Try.prog.underlying 92).isSome = true := by kernel_rfl
@[simp] theorem tb_ti93 : tiF Try.prog 93 = some ⟨true, 6, 88, [.int .i64 0, .string ⟨#[]⟩, .slice none 0 0, .slice none 0 0, .int .i64 0, .bool false]⟩ := by kernel_rfl
@[simp] theorem tb_un93 : (Try.prog.underlying 93).isSome = true := by kernel_rfl
@[simp] theorem tb_ti94 : tiF Try.prog 94 = some ⟨false, 1, 8, [.nilFunc]⟩ := by kernel_rfl
@[simp] theorem tb_un94 : (Try.prog.underlying 94).isSome = true := by kernel_rfl
@[simp] theorem tb_ti95 : tiF Try.prog 95 = some ⟨false, 1, 8, [.nilFunc]⟩ := by kernel_rfl
@[simp] theorem tb_un95 : (Try.prog.underlying 95).isSome = true := by kernel_rfl
@[simp] theorem tb_ti96 : tiF Try.prog 96 = some ⟨false, 1, 8, [.nilFunc]⟩ := by kernel_rfl
@[simp] theorem tb_un96 : (Try.prog.underlying 96).isSome = true := by kernel_rfl
@[simp] theorem tb_ti97 : tiF Try.prog 97 = some ⟨false, 1, 8, [.nilFunc]⟩ := by kernel_rfl
@[simp] theorem tb_un97 : (Try.prog.underlying 97).isSome = true := by kernel_rfl
@[simp] theorem tb_ti98 : tiF Try.prog 98 = some ⟨false, 1, 8, [.nilFunc]⟩ := by kernel_rfl
@[simp] theorem tb_un98 : (Try.prog.underlying 98).isSome = true := by kernel_rfl
@[simp] theorem tb_ti99 : tiF Try.prog 99 = some ⟨false, 1, 8, [.nilFunc]⟩ := by kernel_rfl
@[simp] theorem tb_un99 : (Try.prog.underlying 99).isSome = true := by kernel_rfl
@[simp] theorem tb_ti100 : tiF Try.prog 100 = some ⟨false, 1, 8, [.nilFunc]⟩ := by kernel_rfl
@[simp] theorem tb_un100 : (Try.prog.underlying 100).isSome = true := by kernel_rfl
@[simp] theorem tb_ti101 : tiF Try.prog 101 = some ⟨false, 1, 8, [.nilFunc]⟩ := by kernel_rfl
@[simp] theorem tb_un101 : (Try.prog.underlying 101).isSome = true := by kernel_rfl
@[simp] theorem tb_ti102 : tiF Try.prog 102 = some ⟨false, 1, 8, [.nilFunc]⟩ := by kernel_rfl
@[simp] theorem tb_un102 : (Try.prog.underlying 102).isSome = true := by kernel_rfl
@[simp] theorem tb_ti103 : tiF Try.prog 103 = some ⟨false, 1, 8, [.nilFunc]⟩ := by kernel_rfl
@[simp] theorem tb_un103 : (Try.prog.underlying 103).isSome = true := by kernel_rfl
@[simp] theorem tb_ti104 : tiF Try.prog 104 = some ⟨true, 2, 32, [.string ⟨#[]⟩, .string ⟨#[]⟩]⟩ := by kernel_rfl
@[simp] theorem tb_un104 : (Try.prog.underlying 104).isSome = true := by kernel_rfl
@[simp] theorem tb_ti105 : tiF Try.prog 105 = some ⟨true, 2, 32, [.string ⟨#[]⟩, .string ⟨#[]⟩]⟩ := by kernel_rfl
@[simp] theorem tb_un105 : (Try.prog.underlying 105).isSome = true := by kernel_rfl
@[simp] theorem tb_ti107 : tiF Try.prog 107 = some ⟨false, 1, 8, [.nilFunc]⟩ := by kernel_rfl
@[simp] theorem tb_un107 : (Try.prog.underlying 107).isSome = true := by kernel_rfl
@[simp] theorem tb_ti108 : tiF Try.prog 108 = some ⟨false, 1, 8, [.nilFunc]⟩ := by kernel_rfl
@[simp] theorem tb_un108 : (Try.prog.underlying 108).isSome = true := by kernel_rfl
@[simp] theorem tb_ti109 : tiF Try.prog 109 = some ⟨false, 1, 8, [.nilFunc]⟩ := by kernel_rfl
@[simp] theorem tb_un109 : (Try.prog.underlying 109).isSome = true := by kernel_rfl
@[simp] theorem tb_ti110 : tiF Try.prog 110 = some ⟨false, 1, 8, [.nilFunc]⟩ := by kernel_rfl
@[simp] theorem tb_un110 : (Try.prog.underlying 110).isSome = true := by kernel_rfl
@[simp] theorem tb_ti111 : tiF Try.prog 111 = some ⟨false, 1, 8, [.int .u64 0]⟩ := by kernel_rfl
@[simp] theorem tb_un111 : (Try.prog.underlying 111).isSome = true := by kernel_rfl
@[simp] theorem tb_ti112 : tiF Try.prog 112 = some ⟨false, 1, 8, [.nilFunc]⟩ := by kernel_rfl
@[simp] theorem tb_un112 : (Try.prog.underlying 112).isSome = true := by kernel_rfl
@[simp] theorem tb_ti113 : tiF Try.prog 113 = some ⟨false, 1, 8, [.nilFunc]⟩ := by kernel_rfl
@[simp] theorem tb_un113 : (Try.prog.underlying 113).isSome = true := by kernel_rfl
@[simp] theorem tb_ti114 : tiF Try.prog 114 = some ⟨false, 1, 8, [.nilFunc]⟩ := by kernel_rfl
@[simp] theorem tb_un114 : (Try.prog.underlying 114).isSome = true := by kernel_rfl
@[simp] theorem tb_ti115 : tiF Try.prog 115 = some ⟨false, 1, 8, [.nilFunc]⟩ := by kernel_rfl
@[simp] theorem tb_un115 : (Try.prog.underlying 115).isSome = true := by kernel_rfl
@[simp] theorem tb_ti116 : tiF Try.prog 116 = some ⟨false, 1, 8, [.nilFunc]⟩ := by kernel_rfl
@[simp] theorem tb_un116 : (Try.prog.underlying 116).isSome = true := by kernel_rfl
@[simp] theorem tb_ti117 : tiF Try.prog 117 = some ⟨false, 1, 8, [.nilFunc]⟩ := by kernel_rfl
@[simp] theorem tb_un117 : (Try.prog.underlying 117).isSome = true := by kernel_rfl
@[simp] theorem tb_ti118 : tiF Try.prog 118 = some ⟨false, 1, 8, [.nilFunc]⟩ := by kernel_rfl
@[simp] theorem tb_un118 : (Try.prog.underlying 118).isSome = true := by kernel_rfl
@[simp] theorem tb_ti119 : tiF Try.prog 119 = some ⟨false, 1, 8, [.nilFunc]⟩ := by kernel_rfl
@[simp] theorem tb_un119 : (Try.prog.underlying 119).isSome = true := by kernel_rfl
@[simp] theorem tb_ti120 : tiF Try.prog 120 = some ⟨false, 1, 8, [.nilFunc]⟩ := by kernel_rfl
@[simp] theorem tb_un120 : (Try.prog.underlying 120).isSome = true := by kernel_rfl
@[simp] theorem tb_ti121 : tiF Try.prog 121 = some ⟨false, 1, 8, [.nilFunc]⟩ := by kernel_rfl
@[simp] theorem tb_un121 : (Try.prog.underlying 121).isSome = true := by kernel_rfl
@[simp] theorem tb_ti122 : tiF Try.prog 122 = some ⟨false, 1, 8, [.nilFunc]⟩ := by kernel_rfl
@[simp] theorem tb_un122 : (Try.prog.underlying 122).isSome = true := by kernel_rfl
@[simp] theorem tb_ti123 : tiF Try.prog 123 = some ⟨false, 1, 8, [.nilFunc]⟩ := by kernel_rfl
@[simp] theorem tb_un123 : (Try.prog.underlying 123).isSome = true := by kernel_rfl
@[simp] theorem tb_ti124 : tiF Try.prog 124 = some ⟨true, 6, 96, [.string ⟨#[]⟩, .int .i64 0, .string ⟨#[]⟩, .slice none 0 0, .slice none 0 0, .int .i64 0]⟩ := by kernel_rfl
@[simp] theorem tb_un124 : (Try.prog.underlying 124).isSome = true := by kernel_rfl
@[simp] theorem tb_ti125 : tiF Try.prog 125 = some ⟨true, 6, 96, [.string ⟨#[]⟩, .int .i64 0, .string ⟨#[]⟩, .slice none 0 0, .slice none 0 0, .int .i64 0]⟩ := by kernel_rfl
@[simp] theorem tb_un125 : (Try.prog.underlying 125).isSome = true := by kernel_rfl
@[simp] theorem tb_ti126 : tiF Try.prog 126 = some ⟨false, 1, 8, [.nilFunc]⟩ := by kernel_rfl
@[simp] theorem tb_un126 : (Try.prog.underlying 126).isSome = true := by kernel_rfl
@[simp] theorem tb_ti127 : tiF Try.prog 127 = some ⟨false, 1, 8, [.nilFunc]⟩ := by kernel_rfl
@[simp] theorem tb_un127 : (Try.prog.underlying 127).isSome = true := by kernel_rfl
@[simp] theorem tb_ti128 : tiF Try.prog 128 = some ⟨false, 1, 8, [.nilFunc]⟩ := by kernel_rfl
@[simp] theorem tb_un128 : (Try.prog.underlying 128).isSome = true := by kernel_rfl
@[simp] theorem tb_ti129 : tiF Try.prog 129 = some ⟨false, 1, 8, [.nilFunc]⟩ := by kernel_rfl
@[simp] theorem tb_un129 : (Try.prog.underlying 129).isSome = true := by kernel_rfl
@[simp] theorem tb_ti130 : tiF Try.prog 130 = some ⟨false, 1, 8, [.nilFunc]⟩ := by kernel_rfl
@[simp] theorem tb_un130 : (Try.prog.underlying 130).isSome = true := by kernel_rfl
@[simp] theorem tb_ti131 : tiF Try.prog 131 = some ⟨false, 1, 8, [.nilFunc]⟩ := by kernel_rfl
@[simp] theorem tb_un131 : (Try.prog.underlying 131).isSome = true := by kernel_rfl
@[simp] theorem tb_ti132 : tiF Try.prog 132 = some ⟨false, 1, 8, [.nilFunc]⟩ := by kernel_rfl
@[simp] theorem tb_un132 : (Try.prog.underlying 132).isSome = true := by kernel_rfl
@[simp] theorem tb_ti133 : tiF Try.prog 133 = some ⟨false, 1, 8, [.nilFunc]⟩ := by kernel_rfl
@[simp] theorem tb_un133 : (Try.prog.underlying 133).isSome = true := by kernel_rfl
@[simp] theorem tb_ti134 : tiF Try.prog 134 = some ⟨false, 1, 8, [.nilFunc]⟩ := by kernel_rfl
@[simp] theorem tb_un134 : (Try.prog.underlying 134).isSome = true := by kernel_rfl
@[simp] theorem tb_ti135 : tiF Try.prog 135 = some ⟨false, 1, 8, [.nilFunc]⟩ := by kernel_rfl
@[simp] theorem tb_un135 : (Try.prog.underlying 135).isSome = true := by kernel_rfl
@[simp] theorem tb_ti136 : tiF Try.prog 136 = some ⟨false, 1, 8, [.nilFunc]⟩ := by kernel_rfl
@[simp] theorem tb_un136 : (Try.prog.underlying 136).isSome = true := by kernel_rfl
@[simp] theorem tb_ti137 : tiF Try.prog 137 = some ⟨false, 1, 8, [.nilFunc]⟩ := by kernel_rfl
@[simp] theorem tb_un137 : (Try.prog.underlying 137).isSome = true := by kernel_rfl
@[simp] theorem tb_ti138 : tiF Try.prog 138 = some ⟨false, 1, 8, [.nilFunc]⟩ := by kernel_rfl
@[simp] theorem tb_un138 : (Try.prog.underlying 138).isSome = true := by kernel_rfl
@[simp] theorem tb_ti139 : tiF Try.prog 139 = some ⟨false, 1, 8, [.nilFunc]⟩ := by kernel_rfl
@[simp] theorem tb_un139 : (Try.prog.underlying 139).isSome = true := by kernel_rfl
@[simp] theorem tb_ti140 : tiF Try.prog 140 = some ⟨false, 1, 24, [.slice none 0 0]⟩ := by kernel_rfl
@[simp] theorem tb_un140 : (Try.prog.underlying 140).isSome = true := by kernel_rfl
@[simp] theorem tb_ti141 : tiF Try.prog 141 = some ⟨false, 1, 8, [.nilFunc]⟩ := by kernel_rfl
@[simp] theorem tb_un141 : (Try.prog.underlying 141).isSome = true := by kernel_rfl
@[simp] theorem tb_ti142 : tiF Try.prog 142 = some ⟨false, 1, 8, [.nilFunc]⟩ := by kernel_rfl
@[simp] theorem tb_un142 : (Try.prog.underlying 142).isSome = true := by kernel_rfl
@[simp] theorem tb_ti143 : tiF Try.prog 143 = some ⟨false, 1, 8, [.nilFunc]⟩ := by kernel_rfl
@[simp] theorem tb_un143 : (Try.prog.underlying 143).isSome = true := by kernel_rfl
@[simp] theorem tb_ti144 : tiF Try.prog 144 = some ⟨false, 1, 8, [.nilFunc]⟩ := by kernel_rfl
@[simp] theorem tb_un144 : (Try.prog.underlying 144).isSome = true := by kernel_rfl
@[simp] theorem tb_ti145 : tiF Try.prog 145 = some ⟨false, 1, 8, [.nilFunc]⟩ := by kernel_rfl
@[simp] theorem tb_un145 : (Try.prog.underlying 145).isSome = true := by kernel_rfl
@[simp] theorem tb_ti146 : tiF Try.prog 146 = some ⟨false, 1, 8, [.nilFunc]⟩ := by kernel_rfl
@[simp] theorem tb_un146 : (Try.prog.underlying 146).isSome = true := by kernel_rfl
@[simp] theorem tb_ti147 : tiF Try.prog 147 = some ⟨false, 1, 8, [.nilFunc]⟩ := by kernel_rfl
@[simp] theorem tb_un147 : (Try.prog.underlying 147).isSome = true := by kernel_rfl
@[simp] theorem tb_ti148 : tiF Try.prog 148 = some ⟨true, 4, 32, [.int .i64 0, .int .i64 0, .int .i64 0, .int .i64 0]⟩ := by kernel_rfl
@[simp] theorem tb_un148 : (Try.prog.underlying 148).isSome = true := by kernel_rfl
@[simp] theorem tb_ti149 : tiF Try.prog 149 = some ⟨true, 4, 32, [.int .i64 0, .int .i64 0, .int .i64 0, .int .i64 0]⟩ := by kernel_rfl
@[simp] theorem tb_un149 : (Try.prog.underlying 149).isSome = true := by kernel_rfl
@[simp] theorem tb_ti150 : tiF Try.prog 150 = some ⟨false, 1, 8, [.int .u64 0]⟩ := by kernel_rfl
@[simp] theorem tb_un150 : (Try.prog.underlying 150).isSome = true := by kernel_rfl
@[simp] theorem tb_ti151 : tiF Try.prog 151 = some ⟨false, 1, 8, [.nilFunc]⟩ := by kernel_rfl
@[simp] theorem tb_un151 : (Try.prog.underlying 151).isSome = true := by kernel_rfl
@[simp] theorem tb_ti152 : tiF Try.prog 152 = some ⟨false, 1, 8, [.nilFunc]⟩ := by kernel_rfl
@[simp] theorem tb_un152 : (Try.prog.underlying 152).isSome = true := by kernel_rfl
@[simp] theorem tb_ti153 : tiF Try.prog 153 = some ⟨false, 1, 8, [.nilFunc]⟩ := by kernel_rfl
@[simp] theorem tb_un153 : (Try.prog.underlying 153).isSome = true := by kernel_rfl
@[simp] theorem tb_ti154 : tiF Try.prog 154 = some ⟨false, 1, 8, [.nilFunc]⟩ := by kernel_rfl
@[simp] theorem tb_un154 : (Try.prog.underlying 154).isSome = true := by kernel_rfl
@[simp] theorem tb_ti155 : tiF Try.prog 155 = some ⟨false, 1, 8, [.nilFunc]⟩ := by kernel_rfl
@[simp] theorem tb_un155 : (Try.prog.underlying 155).isSome = true := by kernel_rfl
@[simp] theorem tb_ti156 : tiF Try.prog 156 = some ⟨false, 1, 8, [.nilFunc]⟩ := by kernel_rfl
@[simp] theorem tb_un156 : (Try.prog.underlying 156).isSome = true := by kernel_rfl
@[simp] theorem tb_ti157 : tiF Try.prog 157 = some ⟨false, 1, 8, [.nilFunc]⟩ := by kernel_rfl
@[simp] theorem tb_un157 : (Try.prog.underlying 157).isSome = true := by kernel_rfl
@[simp] theorem tb_ti158 : tiF Try.prog 158 = some ⟨false, 1, 8, [.nilFunc]⟩ := by kernel_rfl
@[simp] theorem tb_un158 : (Try.prog.underlying 158).isSome = true := by kernel_rfl
@[simp] theorem tb_ti159 : tiF Try.prog 159 = some ⟨false, 1, 8, [.nilFunc]⟩ := by kernel_rfl
@[simp] theorem tb_un159 : (Try.prog.underlying 159).isSome = true := by kernel_rfl
@[simp] theorem tb_ti160 : tiF Try.prog 160 = some ⟨false, 1, 8, [.nilFunc]⟩ := by kernel_rfl
@[simp] theorem tb_un160 : (Try.prog.underlying 160).isSome = true := by kernel_rfl
@[simp] theorem tb_ti161 : tiF Try.prog 161 = some ⟨false, 1, 8, [.nilFunc]⟩ := by kernel_rfl
@[simp] theorem tb_un161 : (Try.prog.underlying 161).isSome = true := by kernel_rfl
@[simp] theorem tb_ti162 : tiF Try.prog 162 = some ⟨false, 1, 2, [.int .u16 0]⟩ := by kernel_rfl
@[simp] theorem tb_un162 : (Try.prog.underlying 162).isSome = true := by kernel_rfl
@[simp] theorem tb_ti164 : tiF Try.prog 164 = some ⟨false, 1, 8, [.nilFunc]⟩ := by kernel_rfl
@[simp] theorem tb_un164 : (Try.prog.underlying 164).isSome = true := by kernel_rfl
@[simp] theorem tb_ti165 : tiF Try.prog 165 = some ⟨false, 1, 8, [.nilFunc]⟩ := by kernel_rfl
@[simp] theorem tb_un165 : (Try.prog.underlying 165).isSome = true := by kernel_rfl
@[simp] theorem tb_ti166 : tiF Try.prog 166 = some ⟨false, 1, 8, [.nilFunc]⟩ := by kernel_rfl
@[simp] theorem tb_un166 : (Try.prog.underlying 166).isSome = true := by kernel_rfl
@[simp] theorem tb_ti167 : tiF Try.prog 167 = some ⟨false, 1, 8, [.nilFunc]⟩ := by kernel_rfl
@[simp] theorem tb_un167 : (Try.prog.underlying 167).isSome = true := by kernel_rfl
@[simp] theorem tb_ti168 : tiF Try.prog 168 = some ⟨false, 1, 4, [.int .u32 0]⟩ := by kernel_rfl
@[simp] theorem tb_un168 : (Try.prog.underlying 168).isSome = true := by kernel_rfl
@[simp] theorem tb_ti170 : tiF Try.prog 170 = some ⟨false, 1, 8, [.nilFunc]⟩ := by kernel_rfl
@[simp] theorem tb_un170 : (Try.prog.underlying 170).isSome = true := by kernel_rfl
@[simp] theorem tb_ti171 : tiF Try.prog 171 = some ⟨false, 1, 8, [.nilFunc]⟩ := by kernel_rfl
@[simp] theorem tb_un171 : (Try.prog.underlying 171).isSome = true := by kernel_rfl
@[simp] theorem tb_ti172 : tiF Try.prog 172 = some ⟨true, 4, 40, [.pointer none, .pointer none, .pointer none, .string ⟨#[]⟩]⟩ := by kernel_rfl
@[simp] theorem tb_un172 : (Try.prog.underlying 172).isSome = true := by kernel_rfl
@[simp] theorem tb_ti173 : tiF Try.prog 173 = some ⟨true, 4, 40, [.pointer none, .pointer none, .pointer none, .string ⟨#[]⟩]⟩ := by kernel_rfl
@[simp] theorem tb_un173 : (Try.prog.underlying 173).isSome = true := by kernel_rfl
@[simp] theorem tb_ti174 : tiF Try.prog 174 = some ⟨true, 0, 0, []⟩ := by kernel_rfl
@[simp] theorem tb_un174 : (Try.prog.underlying 174).isSome = true := by kernel_rfl
@[simp] theorem tb_ti175 : tiF Try.prog 175 = some ⟨true, 0, 0, []⟩ := by kernel_rfl
@[simp] theorem tb_un175 : (Try.prog.underlying 175).isSome = true := by kernel_rfl
@[simp] theorem tb_ti176 : tiF Try.prog 176 = some ⟨true, 0, 0, []⟩ := by kernel_rfl
@[simp] theorem tb_un176 : (Try.prog.underlying 176).isSome = true := by kernel_rfl
@[simp] theorem tb_ti177 : tiF Try.prog 177 = some ⟨false, 1, 8, [.nilFunc]⟩ := by kernel_rfl
@[simp] theorem tb_un177 : (Try.prog.underlying 177).isSome = true := by kernel_rfl
@[simp] theorem tb_ti178 : tiF Try.prog 178 = some ⟨false, 1, 1, [.int .u8 0]⟩ := by kernel_rfl
@[simp] theorem tb_un178 : (Try.prog.underlying 178).isSome = true := by kernel_rfl
@[simp] theorem tb_ti179 : tiF Try.prog 179 = some ⟨false, 1, 1, [.int .u8 0]⟩ := by kernel_rfl
@[simp] theorem tb_un179 : (Try.prog.underlying 179).isSome = true := by kernel_rfl
@[simp] theorem tb_ti180 : tiF Try.prog 180 = some ⟨false, 1, 8, [.nilFunc]⟩ := by kernel_rfl
@[simp] theorem tb_un180 : (Try.prog.underlying 180).isSome = true := by kernel_rfl
@[simp] theorem tb_ti181 : tiF Try.prog 181 = some ⟨false, 1, 8, [.pointer none]⟩ := by kernel_rfl
@[simp] theorem tb_un181 : (Try.prog.underlying 181).isSome = true := by kernel_rfl
@[simp] theorem tb_ti182 : tiF Try.prog 182 = some ⟨false, 1, 4, [.int .i32 0]⟩ := by kernel_rfl
@[simp] theorem tb_un182 : (Try.prog.underlying 182).isSome = true := by kernel_rfl
@[simp] theorem tb_ti183 : tiF Try.prog 183 = some ⟨false, 1, 4, [.int .i32 0]⟩ := by kernel_rfl
@[simp] theorem tb_un183 : (Try.prog.underlying 183).isSome = true := by kernel_rfl
@[simp] theorem tb_ti184 : tiF Try.prog 184 = some ⟨true, 11, 48, [.int .u64 0, .int .u64 0, .int .u32 0, .int .u8 0, .int .u8 0, .int .u8 0, .int .u8 0, .nilFunc, .pointer none, .int .i32 0, .int .i32 0]⟩ := by kernel_rfl
@[simp] theorem tb_un184 : (Try.prog.underlying 184).isSome = true := by kernel_rfl
@[simp] theorem tb_ti185 : tiF Try.prog 185 = some ⟨true, 11, 48, [.int .u64 0, .int .u64 0, .int .u32 0, .int .u8 0, .int .u8 0, .int .u8 0, .int .u8 0, .nilFunc, .pointer none, .int .i32 0, .int .i32 0]⟩ := by kernel_rfl
@[simp] theorem tb_un185 : (Try.prog.underlying 185).isSome = true := by kernel_rfl
@[simp] theorem tb_ti186 : tiF Try.prog 186 = some ⟨false, 1, 8, [.pointer none]⟩ := by kernel_rfl
@[simp] theorem tb_un186 : (Try.prog.underlying 186).isSome = true := by kernel_rfl
@[simp] theorem tb_el22 : elemF Try.prog 22 = some 5 := by kernel_rfl
@[simp] theorem tb_el24 : elemF Try.prog 24 = some 36 := by kernel_rfl
@[simp] theorem tb_el31 : elemF Try.prog 31 = some 105 := by kernel_rfl
@[simp] theorem tb_el32 : elemF Try.prog 32 = some 9 := by kernel_rfl
@[simp] theorem tb_el56 : elemF Try.prog 56 = some 125 := by kernel_rfl
@[simp] theorem tb_el59 : elemF Try.prog 59 = some 149 := by kernel_rfl
@[simp] theorem tb_el60 : elemF Try.prog 60 = some 3 := by kernel_rfl
@[simp] theorem tb_el72 : elemF Try.prog 72 = some 62 := by kernel_rfl
@[simp] theorem tb_el140 : elemF Try.prog 140 = some 24 := by kernel_rfl
@[simp] theorem tb_fl7 : flds Try.prog 7 = some [(0, 1, false), (1, 1, false), (2, 1, false), (3, 1, false)] := by kernel_rfl
@[simp] theorem tb_fl8 : flds Try.prog 8 = some [(0, 1, false), (1, 1, false), (2, 1, false), (3, 1, false)] := by kernel_rfl
@[simp] theorem tb_fl13 : flds Try.prog 13 = some [(0, 1, false), (1, 1, false)] := by kernel_rfl
@[simp] theorem tb_fl14 : flds Try.prog 14 = some [(0, 1, false), (1, 1, false)] := by kernel_rfl
@[simp] theorem tb_fl18 : flds Try.prog 18 = some [(0, 1, false)] := by kernel_rfl
@[simp] theorem tb_fl19 : flds Try.prog 19 = some [(0, 1, false)] := by kernel_rfl
@[simp] theorem tb_fl26 : flds Try.prog 26 = some [(0, 1, false), (1, 1, false)] := by kernel_rfl
@[simp] theorem tb_fl27 : flds Try.prog 27 = some [(0, 1, false), (1, 1, false)] := by kernel_rfl
@[simp] theorem tb_fl28 : flds Try.prog 28 = some [(0, 2, true), (2, 1, false), (3, 1, false), (4, 2, true), (6, 1, false)] := by kernel_rfl
@[simp] theorem tb_fl29 : flds Try.prog 29 = some [(0, 2, true), (2, 1, false), (3, 1, false), (4, 2, true), (6, 1, false)] := by kernel_rfl
@[simp] theorem tb_fl33 : flds Try.prog 33 = some [(0, 1, false), (1, 1, false), (2, 1, false), (3, 1, false), (4, 1, false)] := by kernel_rfl
@[simp] theorem tb_fl34 : flds Try.prog 34 = some [(0, 1, false), (1, 1, false), (2, 1, false), (3, 1, false), (4, 1, false)] := by kernel_rfl
@[simp] theorem tb_fl35 : flds Try.prog 35 = some [(0, 1, false), (1, 1, false), (2, 5, true)] := by kernel_rfl
@[simp] theorem tb_fl36 : flds Try.prog 36 = some [(0, 1, false), (1, 1, false), (2, 5, true)] := by kernel_rfl
@[simp] theorem tb_fl50 : flds Try.prog 50 = some [(0, 1, false), (1, 1, false)] := by kernel_rfl
@[simp] theorem tb_fl51 : flds Try.prog 51 = some [(0, 1, false), (1, 1, false)] := by kernel_rfl
@[simp] theorem tb_fl61 : flds Try.prog 61 = some [(0, 1, false), (1, 1, false), (2, 1, false), (3, 1, false), (4, 1, false), (5, 1, false), (6, 1, false), (7, 1, false), (8, 1, false), (9, 2, true), (11, 2, true), (13, 1, false), (14, 1, false)] := by kernel_rfl
@[simp] theorem tb_fl62 : flds Try.prog 62 = some [(0, 1, false), (1, 1, false), (2, 1, false), (3, 1, false), (4, 1, false), (5, 1, false), (6, 1, false), (7, 1, false), (8, 1, false), (9, 2, true), (11, 2, true), (13, 1, false), (14, 1, false)] := by kernel_rfl
@[simp] theorem tb_fl66 : flds Try.prog 66 = some [(0, 7, true), (7, 1, false), (8, 1, false)] := by kernel_rfl
@[simp] theorem tb_fl67 : flds Try.prog 67 = some [(0, 7, true), (7, 1, false), (8, 1, false)] := by kernel_rfl
@[simp] theorem tb_fl92 : flds Try.prog 92 = some [(0, 5, true), (5, 1, false)] := by kernel_rfl
@[simp] theorem tb_fl93 : flds Try.prog 93 = some [(0, 5, true), (5, 1, false)] := by kernel_rfl
@[simp] theorem tb_fl104 : flds Try.prog 104 = some [(0, 1, false), (1, 1, false)] := by kernel_rfl
@[simp] theorem tb_fl105 : flds Try.prog 105 = some [(0, 1, false), (1, 1, false)] := by kernel_rfl
@[simp] theorem tb_fl124 : flds Try.prog 124 = some [(0, 1, false), (1, 5, true)] := by kernel_rfl
@[simp] theorem tb_fl125 : flds Try.prog 125 = some [(0, 1, false), (1, 5, true)] := by kernel_rfl
@[simp] theorem tb_fl148 : flds Try.prog 148 = some [(0, 1, false), (1, 1, false), (2, 1, false), (3, 1, false)] := by kernel_rfl
@[simp] theorem tb_fl149 : flds Try.prog 149 = some [(0, 1, false), (1, 1, false), (2, 1, false), (3, 1, false)] := by kernel_rfl
@[simp] theorem tb_fl172 : flds Try.prog 172 = some [(0, 1, false), (1, 1, false), (2, 1, false), (3, 1, false)] := by kernel_rfl
@[simp] theorem tb_fl173 : flds Try.prog 173 = some [(0, 1, false), (1, 1, false), (2, 1, false), (3, 1, false)] := by kernel_rfl
@[simp] theorem tb_fl175 : flds Try.prog 175 = some [(0, 0, true)] := by kernel_rfl
@[simp] theorem tb_fl176 : flds Try.prog 176 = some [(0, 0, true)] := by kernel_rfl
@[simp] theorem tb_fl184 : flds Try.prog 184 = some [(0, 1, false), (1, 1, false), (2, 1, false), (3, 1, false), (4, 1, false), (5, 1, false), (6, 1, false), (7, 1, false), (8, 1, false), (9, 1, false), (10, 1, false)] := by kernel_rfl
@[simp] theorem tb_fl185 : flds Try.prog 185 = some [(0, 1, false), (1, 1, false), (2, 1, false), (3, 1, false), (4, 1, false), (5, 1, false), (6, 1, false), (7, 1, false), (8, 1, false), (9, 1, false), (10, 1, false)] := by kernel_rfl
@[simp] theorem tb_st9 : strF Try.prog 9 = true := by kernel_rfl
@[simp] theorem tb_st10 : strF Try.prog 10 = true := by kernel_rfl
@[simp] theorem tb_st11 : strF Try.prog 11 = true := by kernel_rfl
@[simp] theorem tb_in2 : intF Try.prog 2 = some .i64 := by kernel_rfl
@[simp] theorem tb_in3 : intF Try.prog 3 = some .i64 := by kernel_rfl
@[simp] theorem tb_in5 : intF Try.prog 5 = some .u8 := by kernel_rfl
@[simp] theorem tb_in6 : intF Try.prog 6 = some .u8 := by kernel_rfl
@[simp] theorem tb_in12 : intF Try.prog 12 = some .u64 := by kernel_rfl
@[simp] theorem tb_in21 : intF Try.prog 21 = some .i32 := by kernel_rfl
@[simp] theorem tb_in55 : intF Try.prog 55 = some .i8 := by kernel_rfl
@[simp] theorem tb_in111 : intF Try.prog 111 = some .u64 := by kernel_rfl
@[simp] theorem tb_in150 : intF Try.prog 150 = some .u64 := by kernel_rfl
@[simp] theorem tb_in162 : intF Try.prog 162 = some .u16 := by kernel_rfl
@[simp] theorem tb_in168 : intF Try.prog 168 = some .u32 := by kernel_rfl
@[simp] theorem tb_in178 : intF Try.prog 178 = some .u8 := by kernel_rfl
@[simp] theorem tb_in179 : intF Try.prog 179 = some .u8 := by kernel_rfl
@[simp] theorem tb_in182 : intF Try.prog 182 = some .i32 := by kernel_rfl
@[simp] theorem tb_in183 : intF Try.prog 183 = some .i32 := by kernel_rfl
@[simp] theorem tb_sq7 : seqF Try.prog 7 = some [0, 0, 2, 0] := by kernel_rfl
@[simp] theorem tb_sq8 : seqF Try.prog 8 = some [0, 0, 2, 0] := by kernel_rfl
@[simp] theorem tb_sq26 : seqF Try.prog 26 = some [0, 0] := by kernel_rfl
@[simp] theorem tb_sq27 : seqF Try.prog 27 = some [0, 0] := by kernel_rfl
@[simp] theorem tb_sq50 : seqF Try.prog 50 = some [1, 2] := by kernel_rfl
@[simp] theorem tb_sq51 : seqF Try.prog 51 = some [1, 2] := by kernel_rfl
@[simp] theorem tb_sq104 : seqF Try.prog 104 = some [1, 1] := by kernel_rfl
@[simp] theorem tb_sq105 : seqF Try.prog 105 = some [1, 1] := by kernel_rfl
@[simp] theorem tb_sq148 : seqF Try.prog 148 = some [0, 0, 0, 0] := by kernel_rfl
@[simp] theorem tb_sq149 : seqF Try.prog 149 = some [0, 0, 0, 0] := by kernel_rfl
@[simp] theorem tb_sk4 : sk Try.prog 4 = some 2 := by kernel_rfl
end Go.Proofs.Ytlkhfdccapkcdaa
/- The program's data, as it lies in memory. -/
namespace Go.Proofs.Ytlkhfdccapkcdaa
open Go Go.RowKit
set_option linter.unusedVariables false
set_option linter.unusedSimpArgs false
def encS (l : List ByteArray) : List (List T) := l.map fun x => [.v (.string x)]
theorem lvs_encS1 (x : ByteArray) : lvs (encS [x]) = [.s (.string x)] := rfl
@[simp] theorem encS_length (l : List ByteArray) : (encS l).length = l.length := by simp [encS]
@[simp high] theorem encS_get (l : List ByteArray) (i : Nat) : (encS l)[i]? = (l[i]?).map fun x => [.v (.string x)] := by simp [encS]
@[simp] theorem encS_nil : encS [] = [] := rfl
theorem encS_cons (x : ByteArray) (l : List ByteArray) : encS (x :: l) = [.v (.string x)] :: encS l := rfl
theorem encS_append (l m : List ByteArray) : encS (l ++ m) = encS l ++ encS m := by simp [encS]
theorem encS_take (l : List ByteArray) (n : Nat) : (encS l).take n = encS (l.take n) := by simp [encS]
theorem encS_drop (l : List ByteArray) (n : Nat) : (encS l).drop n = encS (l.drop n) := by simp [encS]
theorem encS_sz (l : List ByteArray) : ∀ e ∈ encS l, e.length = 1 := by
  intro e h
  obtain ⟨x, _, rfl⟩ := List.mem_map.1 h
  rfl
@[simp] theorem encS_eq_nil (l : List ByteArray) : (encS l = []) = (l = []) := by simp [encS]
def encI (l : List Int) : List (List T) := l.map fun x => [.v (.int .i64 x)]
theorem lvs_encI1 (x : Int) : lvs (encI [x]) = [.s (.int .i64 x)] := rfl
@[simp] theorem encI_length (l : List Int) : (encI l).length = l.length := by simp [encI]
@[simp high] theorem encI_get (l : List Int) (i : Nat) : (encI l)[i]? = (l[i]?).map fun x => [.v (.int .i64 x)] := by simp [encI]
@[simp] theorem encI_nil : encI [] = [] := rfl
theorem encI_cons (x : Int) (l : List Int) : encI (x :: l) = [.v (.int .i64 x)] :: encI l := rfl
theorem encI_append (l m : List Int) : encI (l ++ m) = encI l ++ encI m := by simp [encI]
theorem encI_take (l : List Int) (n : Nat) : (encI l).take n = encI (l.take n) := by simp [encI]
theorem encI_drop (l : List Int) (n : Nat) : (encI l).drop n = encI (l.drop n) := by simp [encI]
theorem encI_sz (l : List Int) : ∀ e ∈ encI l, e.length = 1 := by
  intro e h
  obtain ⟨x, _, rfl⟩ := List.mem_map.1 h
  rfl
@[simp] theorem encI_eq_nil (l : List Int) : (encI l = []) = (l = []) := by simp [encI]
def encB (l : List Bool) : List (List T) := l.map fun x => [.v (.bool x)]
theorem lvs_encB1 (x : Bool) : lvs (encB [x]) = [.s (.bool x)] := rfl
@[simp] theorem encB_length (l : List Bool) : (encB l).length = l.length := by simp [encB]
@[simp high] theorem encB_get (l : List Bool) (i : Nat) : (encB l)[i]? = (l[i]?).map fun x => [.v (.bool x)] := by simp [encB]
@[simp] theorem encB_nil : encB [] = [] := rfl
theorem encB_cons (x : Bool) (l : List Bool) : encB (x :: l) = [.v (.bool x)] :: encB l := rfl
theorem encB_append (l m : List Bool) : encB (l ++ m) = encB l ++ encB m := by simp [encB]
theorem encB_take (l : List Bool) (n : Nat) : (encB l).take n = encB (l.take n) := by simp [encB]
theorem encB_drop (l : List Bool) (n : Nat) : (encB l).drop n = encB (l.drop n) := by simp [encB]
theorem encB_sz (l : List Bool) : ∀ e ∈ encB l, e.length = 1 := by
  intro e h
  obtain ⟨x, _, rfl⟩ := List.mem_map.1 h
  rfl
@[simp] theorem encB_eq_nil (l : List Bool) : (encB l = []) = (l = []) := by simp [encB]
def encU (l : List Int) : List (List T) := l.map fun x => [.v (.int .u8 x)]
theorem lvs_encU1 (x : Int) : lvs (encU [x]) = [.s (.int .u8 x)] := rfl
@[simp] theorem encU_length (l : List Int) : (encU l).length = l.length := by simp [encU]
@[simp high] theorem encU_get (l : List Int) (i : Nat) : (encU l)[i]? = (l[i]?).map fun x => [.v (.int .u8 x)] := by simp [encU]
@[simp] theorem encU_nil : encU [] = [] := rfl
theorem encU_cons (x : Int) (l : List Int) : encU (x :: l) = [.v (.int .u8 x)] :: encU l := rfl
theorem encU_append (l m : List Int) : encU (l ++ m) = encU l ++ encU m := by simp [encU]
theorem encU_take (l : List Int) (n : Nat) : (encU l).take n = encU (l.take n) := by simp [encU]
theorem encU_drop (l : List Int) (n : Nat) : (encU l).drop n = encU (l.drop n) := by simp [encU]
theorem encU_sz (l : List Int) : ∀ e ∈ encU l, e.length = 1 := by
  intro e h
  obtain ⟨x, _, rfl⟩ := List.mem_map.1 h
  rfl
@[simp] theorem encU_eq_nil (l : List Int) : (encU l = []) = (l = []) := by simp [encU]
structure Field where
  name : ByteArray
  val : ByteArray
deriving DecidableEq, Inhabited
attribute [ext] Field
def encField (l : List Field) : List (List T) := l.map fun x => [.v (.string x.name), .v (.string x.val)]
theorem lvs_encField1 (x : Field) : lvs (encField [x]) = [.s (.string x.name), .s (.string x.val)] := rfl
@[simp] theorem encField_length (l : List Field) : (encField l).length = l.length := by simp [encField]
@[simp high] theorem encField_get (l : List Field) (i : Nat) : (encField l)[i]? = (l[i]?).map fun x => [.v (.string x.name), .v (.string x.val)] := by simp [encField]
@[simp] theorem encField_nil : encField [] = [] := rfl
theorem encField_cons (x : Field) (l : List Field) : encField (x :: l) = [.v (.string x.name), .v (.string x.val)] :: encField l := rfl
theorem encField_append (l m : List Field) : encField (l ++ m) = encField l ++ encField m := by simp [encField]
theorem encField_take (l : List Field) (n : Nat) : (encField l).take n = encField (l.take n) := by simp [encField]
theorem encField_drop (l : List Field) (n : Nat) : (encField l).drop n = encField (l.drop n) := by simp [encField]
theorem encField_sz (l : List Field) : ∀ e ∈ encField l, e.length = 2 := by
  intro e h
  obtain ⟨x, _, rfl⟩ := List.mem_map.1 h
  rfl
@[simp] theorem encField_eq_nil (l : List Field) : (encField l = []) = (l = []) := by simp [encField]
structure Item where
  kind : Int
  s : ByteArray
  f : List Field
  l : List ByteArray
  exp : Int
deriving DecidableEq, Inhabited
attribute [ext] Item
def encItem (l : List Item) : List (List T) := l.map fun x => [.v (.int .i64 x.kind), .v (.string x.s), .sl 2 (encField x.f), .sl 1 (encS x.l), .v (.int .i64 x.exp)]
theorem lvs_encItem1 (x : Item) : lvs (encItem [x]) = [.s (.int .i64 x.kind), .s (.string x.s), .d false 2 (encField x.f), .d false 1 (encS x.l), .s (.int .i64 x.exp)] := rfl
@[simp] theorem encItem_length (l : List Item) : (encItem l).length = l.length := by simp [encItem]
@[simp high] theorem encItem_get (l : List Item) (i : Nat) : (encItem l)[i]? = (l[i]?).map fun x => [.v (.int .i64 x.kind), .v (.string x.s), .sl 2 (encField x.f), .sl 1 (encS x.l), .v (.int .i64 x.exp)] := by simp [encItem]
@[simp] theorem encItem_nil : encItem [] = [] := rfl
theorem encItem_cons (x : Item) (l : List Item) : encItem (x :: l) = [.v (.int .i64 x.kind), .v (.string x.s), .sl 2 (encField x.f), .sl 1 (encS x.l), .v (.int .i64 x.exp)] :: encItem l := rfl
theorem encItem_append (l m : List Item) : encItem (l ++ m) = encItem l ++ encItem m := by simp [encItem]
theorem encItem_take (l : List Item) (n : Nat) : (encItem l).take n = encItem (l.take n) := by simp [encItem]
theorem encItem_drop (l : List Item) (n : Nat) : (encItem l).drop n = encItem (l.drop n) := by simp [encItem]
theorem encItem_sz (l : List Item) : ∀ e ∈ encItem l, e.length = 5 := by
  intro e h
  obtain ⟨x, _, rfl⟩ := List.mem_map.1 h
  rfl
@[simp] theorem encItem_eq_nil (l : List Item) : (encItem l = []) = (l = []) := by simp [encItem]
structure Pair where
  key : ByteArray
  item : Item
deriving DecidableEq, Inhabited
attribute [ext] Pair
def encPair (l : List Pair) : List (List T) := l.map fun x => [.v (.string x.key), .v (.int .i64 x.item.kind), .v (.string x.item.s), .sl 2 (encField x.item.f), .sl 1 (encS x.item.l), .v (.int .i64 x.item.exp)]
theorem lvs_encPair1 (x : Pair) : lvs (encPair [x]) = [.s (.string x.key), .s (.int .i64 x.item.kind), .s (.string x.item.s), .d false 2 (encField x.item.f), .d false 1 (encS x.item.l), .s (.int .i64 x.item.exp)] := rfl
@[simp] theorem encPair_length (l : List Pair) : (encPair l).length = l.length := by simp [encPair]
@[simp high] theorem encPair_get (l : List Pair) (i : Nat) : (encPair l)[i]? = (l[i]?).map fun x => [.v (.string x.key), .v (.int .i64 x.item.kind), .v (.string x.item.s), .sl 2 (encField x.item.f), .sl 1 (encS x.item.l), .v (.int .i64 x.item.exp)] := by simp [encPair]
@[simp] theorem encPair_nil : encPair [] = [] := rfl
theorem encPair_cons (x : Pair) (l : List Pair) : encPair (x :: l) = [.v (.string x.key), .v (.int .i64 x.item.kind), .v (.string x.item.s), .sl 2 (encField x.item.f), .sl 1 (encS x.item.l), .v (.int .i64 x.item.exp)] :: encPair l := rfl
theorem encPair_append (l m : List Pair) : encPair (l ++ m) = encPair l ++ encPair m := by simp [encPair]
theorem encPair_take (l : List Pair) (n : Nat) : (encPair l).take n = encPair (l.take n) := by simp [encPair]
theorem encPair_drop (l : List Pair) (n : Nat) : (encPair l).drop n = encPair (l.drop n) := by simp [encPair]
theorem encPair_sz (l : List Pair) : ∀ e ∈ encPair l, e.length = 6 := by
  intro e h
  obtain ⟨x, _, rfl⟩ := List.mem_map.1 h
  rfl
@[simp] theorem encPair_eq_nil (l : List Pair) : (encPair l = []) = (l = []) := by simp [encPair]
structure Effect where
  key : ByteArray
  gone : Bool
  item : Item
deriving DecidableEq, Inhabited
attribute [ext] Effect
def encEffect (l : List Effect) : List (List T) := l.map fun x => [.v (.string x.key), .v (.bool x.gone), .v (.int .i64 x.item.kind), .v (.string x.item.s), .sl 2 (encField x.item.f), .sl 1 (encS x.item.l), .v (.int .i64 x.item.exp)]
theorem lvs_encEffect1 (x : Effect) : lvs (encEffect [x]) = [.s (.string x.key), .s (.bool x.gone), .s (.int .i64 x.item.kind), .s (.string x.item.s), .d false 2 (encField x.item.f), .d false 1 (encS x.item.l), .s (.int .i64 x.item.exp)] := rfl
@[simp] theorem encEffect_length (l : List Effect) : (encEffect l).length = l.length := by simp [encEffect]
@[simp high] theorem encEffect_get (l : List Effect) (i : Nat) : (encEffect l)[i]? = (l[i]?).map fun x => [.v (.string x.key), .v (.bool x.gone), .v (.int .i64 x.item.kind), .v (.string x.item.s), .sl 2 (encField x.item.f), .sl 1 (encS x.item.l), .v (.int .i64 x.item.exp)] := by simp [encEffect]
@[simp] theorem encEffect_nil : encEffect [] = [] := rfl
theorem encEffect_cons (x : Effect) (l : List Effect) : encEffect (x :: l) = [.v (.string x.key), .v (.bool x.gone), .v (.int .i64 x.item.kind), .v (.string x.item.s), .sl 2 (encField x.item.f), .sl 1 (encS x.item.l), .v (.int .i64 x.item.exp)] :: encEffect l := rfl
theorem encEffect_append (l m : List Effect) : encEffect (l ++ m) = encEffect l ++ encEffect m := by simp [encEffect]
theorem encEffect_take (l : List Effect) (n : Nat) : (encEffect l).take n = encEffect (l.take n) := by simp [encEffect]
theorem encEffect_drop (l : List Effect) (n : Nat) : (encEffect l).drop n = encEffect (l.drop n) := by simp [encEffect]
theorem encEffect_sz (l : List Effect) : ∀ e ∈ encEffect l, e.length = 7 := by
  intro e h
  obtain ⟨x, _, rfl⟩ := List.mem_map.1 h
  rfl
@[simp] theorem encEffect_eq_nil (l : List Effect) : (encEffect l = []) = (l = []) := by simp [encEffect]
structure Rid where
  node : Int
  epoch : Int
deriving DecidableEq, Inhabited
attribute [ext] Rid
def encRid (l : List Rid) : List (List T) := l.map fun x => [.v (.int .i64 x.node), .v (.int .i64 x.epoch)]
theorem lvs_encRid1 (x : Rid) : lvs (encRid [x]) = [.s (.int .i64 x.node), .s (.int .i64 x.epoch)] := rfl
@[simp] theorem encRid_length (l : List Rid) : (encRid l).length = l.length := by simp [encRid]
@[simp high] theorem encRid_get (l : List Rid) (i : Nat) : (encRid l)[i]? = (l[i]?).map fun x => [.v (.int .i64 x.node), .v (.int .i64 x.epoch)] := by simp [encRid]
@[simp] theorem encRid_nil : encRid [] = [] := rfl
theorem encRid_cons (x : Rid) (l : List Rid) : encRid (x :: l) = [.v (.int .i64 x.node), .v (.int .i64 x.epoch)] :: encRid l := rfl
theorem encRid_append (l m : List Rid) : encRid (l ++ m) = encRid l ++ encRid m := by simp [encRid]
theorem encRid_take (l : List Rid) (n : Nat) : (encRid l).take n = encRid (l.take n) := by simp [encRid]
theorem encRid_drop (l : List Rid) (n : Nat) : (encRid l).drop n = encRid (l.drop n) := by simp [encRid]
theorem encRid_sz (l : List Rid) : ∀ e ∈ encRid l, e.length = 2 := by
  intro e h
  obtain ⟨x, _, rfl⟩ := List.mem_map.1 h
  rfl
@[simp] theorem encRid_eq_nil (l : List Rid) : (encRid l = []) = (l = []) := by simp [encRid]
structure Feed where
  rid : Rid
  off : Int
  back : List Effect
  prev : Rid
  upto : Int
deriving DecidableEq, Inhabited
attribute [ext] Feed
def encFeed (l : List Feed) : List (List T) := l.map fun x => [.v (.int .i64 x.rid.node), .v (.int .i64 x.rid.epoch), .v (.int .i64 x.off), .sl 7 (encEffect x.back), .v (.int .i64 x.prev.node), .v (.int .i64 x.prev.epoch), .v (.int .i64 x.upto)]
theorem lvs_encFeed1 (x : Feed) : lvs (encFeed [x]) = [.s (.int .i64 x.rid.node), .s (.int .i64 x.rid.epoch), .s (.int .i64 x.off), .d false 7 (encEffect x.back), .s (.int .i64 x.prev.node), .s (.int .i64 x.prev.epoch), .s (.int .i64 x.upto)] := rfl
@[simp] theorem encFeed_length (l : List Feed) : (encFeed l).length = l.length := by simp [encFeed]
@[simp high] theorem encFeed_get (l : List Feed) (i : Nat) : (encFeed l)[i]? = (l[i]?).map fun x => [.v (.int .i64 x.rid.node), .v (.int .i64 x.rid.epoch), .v (.int .i64 x.off), .sl 7 (encEffect x.back), .v (.int .i64 x.prev.node), .v (.int .i64 x.prev.epoch), .v (.int .i64 x.upto)] := by simp [encFeed]
@[simp] theorem encFeed_nil : encFeed [] = [] := rfl
theorem encFeed_cons (x : Feed) (l : List Feed) : encFeed (x :: l) = [.v (.int .i64 x.rid.node), .v (.int .i64 x.rid.epoch), .v (.int .i64 x.off), .sl 7 (encEffect x.back), .v (.int .i64 x.prev.node), .v (.int .i64 x.prev.epoch), .v (.int .i64 x.upto)] :: encFeed l := rfl
theorem encFeed_append (l m : List Feed) : encFeed (l ++ m) = encFeed l ++ encFeed m := by simp [encFeed]
theorem encFeed_take (l : List Feed) (n : Nat) : (encFeed l).take n = encFeed (l.take n) := by simp [encFeed]
theorem encFeed_drop (l : List Feed) (n : Nat) : (encFeed l).drop n = encFeed (l.drop n) := by simp [encFeed]
theorem encFeed_sz (l : List Feed) : ∀ e ∈ encFeed l, e.length = 7 := by
  intro e h
  obtain ⟨x, _, rfl⟩ := List.mem_map.1 h
  rfl
@[simp] theorem encFeed_eq_nil (l : List Feed) : (encFeed l = []) = (l = []) := by simp [encFeed]
structure Claim where
  frm : Int
  to : Int
  node : Int
  epoch : Int
deriving DecidableEq, Inhabited
attribute [ext] Claim
def encClaim (l : List Claim) : List (List T) := l.map fun x => [.v (.int .i64 x.frm), .v (.int .i64 x.to), .v (.int .i64 x.node), .v (.int .i64 x.epoch)]
theorem lvs_encClaim1 (x : Claim) : lvs (encClaim [x]) = [.s (.int .i64 x.frm), .s (.int .i64 x.to), .s (.int .i64 x.node), .s (.int .i64 x.epoch)] := rfl
@[simp] theorem encClaim_length (l : List Claim) : (encClaim l).length = l.length := by simp [encClaim]
@[simp high] theorem encClaim_get (l : List Claim) (i : Nat) : (encClaim l)[i]? = (l[i]?).map fun x => [.v (.int .i64 x.frm), .v (.int .i64 x.to), .v (.int .i64 x.node), .v (.int .i64 x.epoch)] := by simp [encClaim]
@[simp] theorem encClaim_nil : encClaim [] = [] := rfl
theorem encClaim_cons (x : Claim) (l : List Claim) : encClaim (x :: l) = [.v (.int .i64 x.frm), .v (.int .i64 x.to), .v (.int .i64 x.node), .v (.int .i64 x.epoch)] :: encClaim l := rfl
theorem encClaim_append (l m : List Claim) : encClaim (l ++ m) = encClaim l ++ encClaim m := by simp [encClaim]
theorem encClaim_take (l : List Claim) (n : Nat) : (encClaim l).take n = encClaim (l.take n) := by simp [encClaim]
theorem encClaim_drop (l : List Claim) (n : Nat) : (encClaim l).drop n = encClaim (l.drop n) := by simp [encClaim]
theorem encClaim_sz (l : List Claim) : ∀ e ∈ encClaim l, e.length = 4 := by
  intro e h
  obtain ⟨x, _, rfl⟩ := List.mem_map.1 h
  rfl
@[simp] theorem encClaim_eq_nil (l : List Claim) : (encClaim l = []) = (l = []) := by simp [encClaim]
structure Msg where
  kind : Int
  frm : Int
  to : Int
  epoch : Int
  claims : List Claim
  nodes : List Int
  node : Int
  slot : Int
  num : Int
  rid : Rid
  prev : Rid
  off : Int
  effects : List Effect
deriving DecidableEq, Inhabited
attribute [ext] Msg
def encMsg (l : List Msg) : List (List T) := l.map fun x => [.v (.int .i64 x.kind), .v (.int .i64 x.frm), .v (.int .i64 x.to), .v (.int .i64 x.epoch), .sl 4 (encClaim x.claims), .sl 1 (encI x.nodes), .v (.int .i64 x.node), .v (.int .i64 x.slot), .v (.int .i64 x.num), .v (.int .i64 x.rid.node), .v (.int .i64 x.rid.epoch), .v (.int .i64 x.prev.node), .v (.int .i64 x.prev.epoch), .v (.int .i64 x.off), .sl 7 (encEffect x.effects)]
theorem lvs_encMsg1 (x : Msg) : lvs (encMsg [x]) = [.s (.int .i64 x.kind), .s (.int .i64 x.frm), .s (.int .i64 x.to), .s (.int .i64 x.epoch), .d false 4 (encClaim x.claims), .d false 1 (encI x.nodes), .s (.int .i64 x.node), .s (.int .i64 x.slot), .s (.int .i64 x.num), .s (.int .i64 x.rid.node), .s (.int .i64 x.rid.epoch), .s (.int .i64 x.prev.node), .s (.int .i64 x.prev.epoch), .s (.int .i64 x.off), .d false 7 (encEffect x.effects)] := rfl
@[simp] theorem encMsg_length (l : List Msg) : (encMsg l).length = l.length := by simp [encMsg]
@[simp high] theorem encMsg_get (l : List Msg) (i : Nat) : (encMsg l)[i]? = (l[i]?).map fun x => [.v (.int .i64 x.kind), .v (.int .i64 x.frm), .v (.int .i64 x.to), .v (.int .i64 x.epoch), .sl 4 (encClaim x.claims), .sl 1 (encI x.nodes), .v (.int .i64 x.node), .v (.int .i64 x.slot), .v (.int .i64 x.num), .v (.int .i64 x.rid.node), .v (.int .i64 x.rid.epoch), .v (.int .i64 x.prev.node), .v (.int .i64 x.prev.epoch), .v (.int .i64 x.off), .sl 7 (encEffect x.effects)] := by simp [encMsg]
@[simp] theorem encMsg_nil : encMsg [] = [] := rfl
theorem encMsg_cons (x : Msg) (l : List Msg) : encMsg (x :: l) = [.v (.int .i64 x.kind), .v (.int .i64 x.frm), .v (.int .i64 x.to), .v (.int .i64 x.epoch), .sl 4 (encClaim x.claims), .sl 1 (encI x.nodes), .v (.int .i64 x.node), .v (.int .i64 x.slot), .v (.int .i64 x.num), .v (.int .i64 x.rid.node), .v (.int .i64 x.rid.epoch), .v (.int .i64 x.prev.node), .v (.int .i64 x.prev.epoch), .v (.int .i64 x.off), .sl 7 (encEffect x.effects)] :: encMsg l := rfl
theorem encMsg_append (l m : List Msg) : encMsg (l ++ m) = encMsg l ++ encMsg m := by simp [encMsg]
theorem encMsg_take (l : List Msg) (n : Nat) : (encMsg l).take n = encMsg (l.take n) := by simp [encMsg]
theorem encMsg_drop (l : List Msg) (n : Nat) : (encMsg l).drop n = encMsg (l.drop n) := by simp [encMsg]
theorem encMsg_sz (l : List Msg) : ∀ e ∈ encMsg l, e.length = 15 := by
  intro e h
  obtain ⟨x, _, rfl⟩ := List.mem_map.1 h
  rfl
@[simp] theorem encMsg_eq_nil (l : List Msg) : (encMsg l = []) = (l = []) := by simp [encMsg]
theorem mixed : Try.prog.follows .mixedOrders = true := by kernel_rfl
theorem encField_lvsA (al : Bool) (l : List Field) : lvsA al (encField l) = lvs (encField l) := by
  simp [lvsA, lvs, encField, List.flatMap_map]
theorem encS_lvsA (al : Bool) (l : List ByteArray) : lvsA al (encS l) = lvs (encS l) := by
  simp [lvsA, lvs, encS, List.flatMap_map]
theorem encI_lvsA (al : Bool) (l : List Int) : lvsA al (encI l) = lvs (encI l) := by
  simp [lvsA, lvs, encI, List.flatMap_map]
/-- The first place where p no longer holds, sought by halves. -/
def bs (p : Nat → Bool) (lo hi : Nat) : Nat :=
  if h : lo < hi then (if p ((lo + hi) / 2) then bs p ((lo + hi) / 2 + 1) hi else bs p lo ((lo + hi) / 2)) else lo
termination_by hi - lo
theorem bs_le (p : Nat → Bool) (lo hi : Nat) (h : lo ≤ hi) : bs p lo hi ≤ hi ∧ lo ≤ bs p lo hi := by
  fun_induction bs p lo hi with
  | case1 lo hi h1 hp ih => have := ih (by omega); omega
  | case2 lo hi h1 hp ih => have := ih (by omega); omega
  | case3 lo hi h1 => omega
theorem take_eq {α : Type} {l m : List α} {i : Nat} {x y : α} (hx : l[i]? = some x) (hy : m[i]? = some y) (h : l.take i = m.take i) : l.take (i + 1) = m.take (i + 1) ↔ x = y := by
  rw [List.take_add_one, List.take_add_one, h, hx, hy]
  simp
theorem take_all {α : Type} {l m : List α} {i : Nat} (hl : l.length ≤ i) (hlm : l.length = m.length) (h : l.take i = m.take i) : l = m := by
  rwa [List.take_of_length_le hl, List.take_of_length_le (by omega)] at h
theorem get_some {α : Type} {l : List α} {i : Nat} (h : i < l.length) : ∃ x, l[i]? = some x := ⟨_, List.getElem?_eq_getElem h⟩
theorem ne_of_get {α : Type} {l m : List α} {i : Nat} {x y : α} (hx : l[i]? = some x) (hy : m[i]? = some y) (h : x ≠ y) : l ≠ m := by
  rintro rfl
  rw [hx] at hy
  exact h (by simpa using hy)
end Go.Proofs.Ytlkhfdccapkcdaa
/- Walks: texts compared, sought by halves; fields compared. -/
namespace Go.Proofs.Ytlkhfdccapkcdaa
open Go Go.RowKit
set_option linter.unusedVariables false
set_option linter.unusedSimpArgs false
set_option maxRecDepth 8000 in
set_option maxHeartbeats 8000000 in
theorem s_cmpStr (a b : ByteArray) : Sound Try.prog 127 [.l (.s (.string a)), .l (.s (.string b))] [] (.l (.s (.int .i64 ((cmpB a b))))) [] := by
  refine Sound.of_aw (fn := Try.f127) (c := _) Try.func127 rfl (by simp [Try.f127]) fun cx hG hnb => ?_
  rw [show Try.f127.ntmps = 8 from rfl]
  have hn0 : cx.nb = 0 := hnb
  refine AW.step (by simp; rfl) ?_
  apply AW.step
  · simp
    refine xcall_cmp Try.func138 (by kernel_rfl) (by kernel_rfl) (by kernel_rfl) (by kernel_rfl) ?_
    try simp
    rfl
  refine AW.ret ?_
  refine Left.plain hnb (by simp [Try.f127, resV, resC, comp]; rfl) rfl rfl ?_
  simp
theorem en_cmpStr : Enters Try.prog 127 := enters Try.func127 (by kernel_rfl) rfl
set_option maxRecDepth 8000 in
set_option maxHeartbeats 8000000 in
theorem s_strCompare (a b : ByteArray) : Sound Try.prog 110 [.l (.s (.string a)), .l (.s (.string b))] [] (.l (.s (.int .i64 ((cmpB a b))))) [] := by
  refine Sound.of_aw (fn := Try.f110) (c := _) Try.func110 rfl (by simp [Try.f110]) fun cx hG hnb => ?_
  rw [show Try.f110.ntmps = 8 from rfl]
  have hn0 : cx.nb = 0 := hnb
  refine AW.step (by simp; rfl) ?_
  apply AW.step
  · simp
    refine xcall_plain en_cmpStr (s_cmpStr _ _) rfl ⟨.same rfl, .same rfl, trivial⟩ ?_
    try simp
    rfl
  refine AW.ret ?_
  refine Left.plain hnb (by simp [Try.f110, resV, resC, comp]; rfl) rfl rfl ?_
  simp
theorem en_strCompare : Enters Try.prog 110 := enters Try.func110 (by kernel_rfl) rfl
set_option maxRecDepth 8000 in
set_option maxHeartbeats 8000000 in
theorem s_hFind1 (x : Field) (c : ByteArray) : Sound Try.prog 109 [.g [.s (.string x.name), .s (.string x.val)], .l (.s (.string c))] [] (.l (.s (.int .i64 ((cmpB x.name c))))) [] := by
  refine Sound.of_aw (fn := Try.f109) (c := _) Try.func109 rfl (by simp [Try.f109]) fun cx hG hnb => ?_
  rw [show Try.f109.ntmps = 9 from rfl]
  have hn0 : cx.nb = 0 := hnb
  refine AW.step (by simp; rfl) ?_
  apply AW.step
  · simp
    refine xcall_plain en_strCompare (s_strCompare _ _) rfl ⟨.same rfl, .same rfl, trivial⟩ ?_
    try simp
    rfl
  refine AW.ret ?_
  refine Left.plain hnb (by simp [Try.f109, resV, resC, comp]; rfl) rfl rfl ?_
  simp
theorem en_hFind1 : Enters Try.prog 109 := enters Try.func109 (by kernel_rfl) rfl
set_option maxRecDepth 8000 in
set_option maxHeartbeats 8000000 in
theorem s_spFind1 (x : Pair) (c : ByteArray) : Sound Try.prog 121 [.g [.s (.string x.key), .s (.int .i64 x.item.kind), .s (.string x.item.s), .d true 2 (encField x.item.f), .d true 1 (encS x.item.l), .s (.int .i64 x.item.exp)], .l (.s (.string c))] [] (.l (.s (.int .i64 ((cmpB x.key c))))) [] := by
  refine Sound.of_aw (fn := Try.f121) (c := _) Try.func121 rfl (by simp [Try.f121]) fun cx hG hnb => ?_
  rw [show Try.f121.ntmps = 9 from rfl]
  have hn0 : cx.nb = 0 := hnb
  refine AW.step (by simp; rfl) ?_
  apply AW.step
  · simp
    refine xcall_plain en_strCompare (s_strCompare _ _) rfl ⟨.same rfl, .same rfl, trivial⟩ ?_
    try simp
    rfl
  refine AW.ret ?_
  refine Left.plain hnb (by simp [Try.f121, resV, resC, comp]; rfl) rfl rfl ?_
  simp
theorem en_spFind1 : Enters Try.prog 121 := enters Try.func121 (by kernel_rfl) rfl
def underField (l : List Field) (name : ByteArray) (i : Nat) : Bool := decide (cmpB (l.getD i default).name name < 0)
def seekField (l : List Field) (name : ByteArray) : Nat := bs (underField l name) 0 l.length
def hasField (l : List Field) (name : ByteArray) : Bool := decide (seekField l name < l.length ∧ cmpB (l.getD (seekField l name) default).name name = 0)
theorem seekField_le (l : List Field) (name : ByteArray) : seekField l name ≤ l.length := (bs_le _ _ _ (Nat.zero_le _)).1
theorem hasField_at (l : List Field) (name : ByteArray) (h : hasField l name = true) : ∃ x, l[seekField l name]? = some x := by
  simp [hasField] at h
  exact ⟨_, List.getElem?_eq_getElem h.1⟩
set_option maxRecDepth 8000 in
set_option maxHeartbeats 8000000 in
theorem s_bsField (l : List Field) (name : ByteArray) : Sound Try.prog 108 [.l (.d true 2 ((encField l))), .l (.s (.string name)), .l (.s (.func (.func 109) #[] #[]))] [] (.t [(false, [.s (.int .i64 ((seekField l name)))]), (false, [.s (.bool ((hasField l name)))])]) [] := by
  refine Sound.of_aw (fn := Try.f108) (c := _) Try.func108 rfl (by simp [Try.f108]) fun cx hG hnb => ?_
  rw [show Try.f108.ntmps = 49 from rfl]
  have hn0 : cx.nb = 0 := hnb
  refine AW.len_d 0 rfl fun hl => ?_
  simp only [encField_length] at hl
  refine AW.step (by simp [hl]; rfl) ?_
  refine AW.step (by simp [hl]; rfl) ?_
  refine AW.step (by simp [hl]; rfl) ?_
  refine AW.seq ?_
  refine AW.block ?_
  refine AW.loopF (α := Nat × Nat) [9, 10, 11, 15, 16, 17, 18, 19, 20, 21, 22, 23, 24, 25, 26, 27, 28, 29, 30, 31, 32, 33, 34] (fun x => [(9, .l (.s (.int .i64 x.1))), (10, .l (.s (.int .i64 x.2)))]) (fun _ => []) (fun x => x.2 ≤ l.length ∧ x.1 ≤ x.2 ∧ bs (underField l name) x.1 x.2 = seekField l name) (fun x => x.2 - x.1) (0, l.length) (by simp; rfl) (by simp) rfl ⟨Nat.le_refl _, Nat.zero_le _, rfl⟩ ?_
  rintro ⟨lo, hi⟩ ⟨g1, g2, g3⟩
  simp only at g1 g2 g3 ⊢
  refine AW.seq ?_
  refine AW.step (by simp [hl]; rfl) ?_
  refine AW.cond rfl (fun h3 => ?_) (fun h3 => ?_)
  · try simp at h3
    refine AW.skip ?_
    simp only [Post.seq, Post.block, if_true]
    refine AW.block ?_
    have hm := mid lo hi (by omega)
    obtain ⟨m, hmd⟩ : ∃ m, m = (lo + hi) / 2 := ⟨_, rfl⟩
    have hlt : lo < hi := by omega
    rw [← hmd] at hm
    obtain ⟨x, hx⟩ : ∃ x, l[m]? = some x := ⟨_, List.getElem?_eq_getElem (show m < l.length by omega)⟩
    have hbs : bs (underField l name) lo hi = if underField l name m then bs (underField l name) (m + 1) hi else bs (underField l name) lo m := by
      rw [bs, dif_pos hlt, hmd]
    refine AW.step (by simp [hl, hm]; rfl) ?_
    apply AW.step
    · simp [hl, hx]
      refine xcall_plain en_hFind1 (s_hFind1 x _) rfl ⟨.same rfl, .same rfl, trivial⟩ ?_
      try simp [hl, hx]
      rfl
    refine AW.cond rfl (fun h5 => ?_) (fun h5 => ?_)
    · try simp at h5
      refine AW.last (by simp [hl, i64_succ (show m + 1 ≤ 9223372036854775807 by omega)]; rfl) ?_
      simp only [Post.seq, Post.block, if_true]
      first
        | exact ⟨(m + 1, hi), Weak.keep _ (by simp), ⟨g1, by simp; omega, by rw [← g3, hbs, if_pos (by simpa [underField, hx] using h5)]⟩, by simp; omega⟩
        | exact ⟨(lo, m), Weak.keep _ (by simp), ⟨by simp; omega, by simp; omega, by rw [← g3, hbs, if_neg (by simpa [underField, hx] using h5)]⟩, by simp; omega⟩
    · try simp at h5
      refine AW.last (by simp [hl]; rfl) ?_
      simp only [Post.seq, Post.block, if_true]
      first
        | exact ⟨(m + 1, hi), Weak.keep _ (by simp), ⟨g1, by simp; omega, by rw [← g3, hbs, if_pos (by simpa [underField, hx] using h5)]⟩, by simp; omega⟩
        | exact ⟨(lo, m), Weak.keep _ (by simp), ⟨by simp; omega, by simp; omega, by rw [← g3, hbs, if_neg (by simpa [underField, hx] using h5)]⟩, by simp; omega⟩
  · try simp at h3
    refine AW.exit ?_
    simp only [Post.seq, Post.block, if_true]
    have hi0 : seekField l name = lo := by rw [← g3, bs, dif_neg (by omega)]
    by_cases hlt : lo < l.length
    · obtain ⟨x, hx⟩ : ∃ x, l[lo]? = some x := ⟨_, List.getElem?_eq_getElem hlt⟩
      apply AW.step
      · simp [show decide (lo < l.length) = true by simpa using hlt, hx]
        refine xcall_plain en_hFind1 (s_hFind1 x _) rfl ⟨.same rfl, .same rfl, trivial⟩ ?_
        simp
        rfl
      refine AW.ret (Left.plain hnb (by simp [Try.f108, resV, resC, comp]; rfl) rfl rfl ?_)
      have hd : l.getD lo default = x := by simp [List.getD_eq_getElem?_getD, hx]
      simp only [hi0, hasField, hd]
      simp [hlt]
    · apply AW.step
      · simp [hlt]
        rfl
      refine AW.ret (Left.plain hnb (by simp [Try.f108, resV, resC, comp]; rfl) rfl rfl ?_)
      simp [hi0, hasField, hlt]
theorem en_bsField : Enters Try.prog 108 := enters Try.func108 (by kernel_rfl) rfl
set_option maxRecDepth 8000 in
set_option maxHeartbeats 8000000 in
theorem s_hFind (l : List Field) (name : ByteArray) : Sound Try.prog 74 [.l (.d true 2 ((encField l))), .l (.s (.string name))] [] (.t [(false, [.s (.int .i64 ((seekField l name)))]), (false, [.s (.bool ((hasField l name)))])]) [] := by
  refine Sound.of_aw (fn := Try.f74) (c := _) Try.func74 rfl (by simp [Try.f74]) fun cx hG hnb => ?_
  rw [show Try.f74.ntmps = 11 from rfl]
  have hn0 : cx.nb = 0 := hnb
  refine AW.step (by simp; rfl) ?_
  apply AW.step
  · simp
    refine xcall_plain en_bsField (s_bsField _ _) rfl ⟨.d _ _ _, .same rfl, .same rfl, trivial⟩ ?_
    try simp
    rfl
  refine AW.ret ?_
  refine Left.plain hnb (by simp [Try.f74, resV, resC, comp]; rfl) rfl rfl ?_
  simp
theorem en_hFind : Enters Try.prog 74 := enters Try.func74 (by kernel_rfl) rfl
def underPair (l : List Pair) (name : ByteArray) (i : Nat) : Bool := decide (cmpB (l.getD i default).key name < 0)
def seekPair (l : List Pair) (name : ByteArray) : Nat := bs (underPair l name) 0 l.length
def hasPair (l : List Pair) (name : ByteArray) : Bool := decide (seekPair l name < l.length ∧ cmpB (l.getD (seekPair l name) default).key name = 0)
theorem seekPair_le (l : List Pair) (name : ByteArray) : seekPair l name ≤ l.length := (bs_le _ _ _ (Nat.zero_le _)).1
theorem hasPair_at (l : List Pair) (name : ByteArray) (h : hasPair l name = true) : ∃ x, l[seekPair l name]? = some x := by
  simp [hasPair] at h
  exact ⟨_, List.getElem?_eq_getElem h.1⟩
set_option maxRecDepth 8000 in
set_option maxHeartbeats 8000000 in
theorem s_bsPair (l : List Pair) (name : ByteArray) : Sound Try.prog 120 [.l (.d true 6 ((encPair l))), .l (.s (.string name)), .l (.s (.func (.func 121) #[] #[]))] [] (.t [(false, [.s (.int .i64 ((seekPair l name)))]), (false, [.s (.bool ((hasPair l name)))])]) [] := by
  refine Sound.of_aw (fn := Try.f120) (c := _) Try.func120 rfl (by simp [Try.f120]) fun cx hG hnb => ?_
  rw [show Try.f120.ntmps = 49 from rfl]
  have hn0 : cx.nb = 0 := hnb
  refine AW.len_d 0 rfl fun hl => ?_
  simp only [encPair_length] at hl
  refine AW.step (by simp [hl]; rfl) ?_
  refine AW.step (by simp [hl]; rfl) ?_
  refine AW.step (by simp [hl]; rfl) ?_
  refine AW.seq ?_
  refine AW.block ?_
  refine AW.loopF (α := Nat × Nat) [9, 10, 11, 15, 16, 17, 18, 19, 20, 21, 22, 23, 24, 25, 26, 27, 28, 29, 30, 31, 32, 33, 34] (fun x => [(9, .l (.s (.int .i64 x.1))), (10, .l (.s (.int .i64 x.2)))]) (fun _ => []) (fun x => x.2 ≤ l.length ∧ x.1 ≤ x.2 ∧ bs (underPair l name) x.1 x.2 = seekPair l name) (fun x => x.2 - x.1) (0, l.length) (by simp; rfl) (by simp) rfl ⟨Nat.le_refl _, Nat.zero_le _, rfl⟩ ?_
  rintro ⟨lo, hi⟩ ⟨g1, g2, g3⟩
  simp only at g1 g2 g3 ⊢
  refine AW.seq ?_
  refine AW.step (by simp [hl]; rfl) ?_
  refine AW.cond rfl (fun h3 => ?_) (fun h3 => ?_)
  · try simp at h3
    refine AW.skip ?_
    simp only [Post.seq, Post.block, if_true]
    refine AW.block ?_
    have hm := mid lo hi (by omega)
    obtain ⟨m, hmd⟩ : ∃ m, m = (lo + hi) / 2 := ⟨_, rfl⟩
    have hlt : lo < hi := by omega
    rw [← hmd] at hm
    obtain ⟨x, hx⟩ : ∃ x, l[m]? = some x := ⟨_, List.getElem?_eq_getElem (show m < l.length by omega)⟩
    have hbs : bs (underPair l name) lo hi = if underPair l name m then bs (underPair l name) (m + 1) hi else bs (underPair l name) lo m := by
      rw [bs, dif_pos hlt, hmd]
    refine AW.step (by simp [hl, hm]; rfl) ?_
    apply AW.step
    · simp [hl, hx]
      refine xcall_plain en_spFind1 (s_spFind1 x _) rfl ⟨.g ⟨.s _,.s _,.s _,.al _ _ _,.al _ _ _,.s _,trivial⟩, .same rfl, trivial⟩ ?_
      try simp [hl, hx]
      rfl
    refine AW.cond rfl (fun h5 => ?_) (fun h5 => ?_)
    · try simp at h5
      refine AW.last (by simp [hl, i64_succ (show m + 1 ≤ 9223372036854775807 by omega)]; rfl) ?_
      simp only [Post.seq, Post.block, if_true]
      first
        | exact ⟨(m + 1, hi), Weak.keep _ (by simp), ⟨g1, by simp; omega, by rw [← g3, hbs, if_pos (by simpa [underPair, hx] using h5)]⟩, by simp; omega⟩
        | exact ⟨(lo, m), Weak.keep _ (by simp), ⟨by simp; omega, by simp; omega, by rw [← g3, hbs, if_neg (by simpa [underPair, hx] using h5)]⟩, by simp; omega⟩
    · try simp at h5
      refine AW.last (by simp [hl]; rfl) ?_
      simp only [Post.seq, Post.block, if_true]
      first
        | exact ⟨(m + 1, hi), Weak.keep _ (by simp), ⟨g1, by simp; omega, by rw [← g3, hbs, if_pos (by simpa [underPair, hx] using h5)]⟩, by simp; omega⟩
        | exact ⟨(lo, m), Weak.keep _ (by simp), ⟨by simp; omega, by simp; omega, by rw [← g3, hbs, if_neg (by simpa [underPair, hx] using h5)]⟩, by simp; omega⟩
  · try simp at h3
    refine AW.exit ?_
    simp only [Post.seq, Post.block, if_true]
    have hi0 : seekPair l name = lo := by rw [← g3, bs, dif_neg (by omega)]
    by_cases hlt : lo < l.length
    · obtain ⟨x, hx⟩ : ∃ x, l[lo]? = some x := ⟨_, List.getElem?_eq_getElem hlt⟩
      apply AW.step
      · simp [show decide (lo < l.length) = true by simpa using hlt, hx]
        refine xcall_plain en_spFind1 (s_spFind1 x _) rfl ⟨.g ⟨.s _,.s _,.s _,.al _ _ _,.al _ _ _,.s _,trivial⟩, .same rfl, trivial⟩ ?_
        simp
        rfl
      refine AW.ret (Left.plain hnb (by simp [Try.f120, resV, resC, comp]; rfl) rfl rfl ?_)
      have hd : l.getD lo default = x := by simp [List.getD_eq_getElem?_getD, hx]
      simp only [hi0, hasPair, hd]
      simp [hlt]
    · apply AW.step
      · simp [hlt]
        rfl
      refine AW.ret (Left.plain hnb (by simp [Try.f120, resV, resC, comp]; rfl) rfl rfl ?_)
      simp [hi0, hasPair, hlt]
theorem en_bsPair : Enters Try.prog 120 := enters Try.func120 (by kernel_rfl) rfl
set_option maxRecDepth 8000 in
set_option maxHeartbeats 8000000 in
theorem s_spFind (l : List Pair) (name : ByteArray) : Sound Try.prog 93 [.l (.d true 6 ((encPair l))), .l (.s (.string name))] [] (.t [(false, [.s (.int .i64 ((seekPair l name)))]), (false, [.s (.bool ((hasPair l name)))])]) [] := by
  refine Sound.of_aw (fn := Try.f93) (c := _) Try.func93 rfl (by simp [Try.f93]) fun cx hG hnb => ?_
  rw [show Try.f93.ntmps = 11 from rfl]
  have hn0 : cx.nb = 0 := hnb
  refine AW.step (by simp; rfl) ?_
  apply AW.step
  · simp
    refine xcall_plain en_bsPair (s_bsPair _ _) rfl ⟨.d _ _ _, .same rfl, .same rfl, trivial⟩ ?_
    try simp
    rfl
  refine AW.ret ?_
  refine Left.plain hnb (by simp [Try.f93, resV, resC, comp]; rfl) rfl rfl ?_
  simp
theorem en_spFind : Enters Try.prog 93 := enters Try.func93 (by kernel_rfl) rfl
set_option maxRecDepth 8000 in
set_option maxHeartbeats 8000000 in
theorem s_hGet (l : List Field) (name : ByteArray) : Sound Try.prog 22 [.l (.d true 2 ((encField l))), .l (.s (.string name))] [] (.t [(false, [.s (.string ((bif hasField l name then (l.getD (seekField l name) default).val else ⟨#[]⟩)))]), (false, [.s (.bool ((hasField l name)))])]) [] := by
  refine Sound.of_aw (fn := Try.f22) (c := _) Try.func22 rfl (by simp [Try.f22]) fun cx hG hnb => ?_
  rw [show Try.f22.ntmps = 21 from rfl]
  have hn0 : cx.nb = 0 := hnb
  refine AW.step (by simp; rfl) ?_
  apply AW.step
  · simp
    refine xcall_plain en_hFind (s_hFind _ _) rfl ⟨.d _ _ _, .same rfl, trivial⟩ ?_
    try simp
    rfl
  refine AW.seq ?_
  refine AW.step (by simp; rfl) ?_
  refine AW.cond rfl (fun h2 => ?_) (fun h2 => ?_)
  · try simp at h2
    refine AW.step (by simp; rfl) ?_
    refine AW.ret ?_
    refine Left.plain hnb (by simp [Try.f22, resV, resC, comp]; rfl) rfl rfl ?_
    simp [h2]
  · have hf : hasField l name = true := by simpa using h2
    obtain ⟨x, hx⟩ := hasField_at l name hf
    refine AW.skip ?_
    simp only [Post.seq, Post.block, if_true]
    refine AW.step (by simp [hx]; rfl) ?_
    refine AW.ret ?_
    refine Left.plain hnb (by simp [Try.f22, resV, resC, comp, hx]; rfl) rfl rfl ?_
    simp [hf, hx]
theorem en_hGet : Enters Try.prog 22 := enters Try.func22 (by kernel_rfl) rfl
end Go.Proofs.Ytlkhfdccapkcdaa
/- Walks: lists copied, lists held against one another. -/
namespace Go.Proofs.Ytlkhfdccapkcdaa
open Go Go.RowKit
set_option linter.unusedVariables false
set_option linter.unusedSimpArgs false
set_option maxRecDepth 8000 in
theorem s_cloneField (l : List Field) (hl : l.length ≤ 1000000000) : Sound Try.prog 75 [.l (.d true 2 ((encField l)))] [] (.l (.r 0 2 0 l.length)) [some ⟨105, 2, true, none, lvs (encField l)⟩] := by
  refine Sound.of_aw (fn := Try.f75) (c := _) Try.func75 rfl (by simp [Try.f75]) fun cx hG hnb => ?_
  rw [show Try.f75.ntmps = 8 from rfl]
  have hn0 : cx.nb = 0 := hnb
  refine AW.step (by simp; rfl) ?_
  refine AW.seq ?_
  refine AW.stepN (fun s => ∃ b : Bool, (encField l ≠ [] → b = false) ∧ s = ⟨[(4, .l (.s (.bool b))), (3, .l (.d true 2 (encField l))), (2, .l (.s (.slice none 0 0))), (0, .l (.d true 2 (encField l)))], [], 8, [], none⟩) ?_ ?_
  · simp
  rintro s ⟨b, hb, rfl⟩
  refine AW.cond rfl (fun h => ?_) (fun h => AW.skip ?_)
  · have he : l = [] := by
      cases l with
      | nil => rfl
      | cons x l => simp at hb; rw [hb] at h; simp at h
    subst he
    refine AW.step (by simp; rfl) ?_
    refine AW.ret (Left.of (av := .l (.s (.slice none 0 0))) (by simp [Try.f75, resV, resC]) ?_)
    refine LeftV.weak (Weak.nilRow 0 105 2 rfl) ?_
    refine LeftV.now hnb [some 0] (fun i j o hi hj => ?_) rfl ?_ ?_
    · cases i <;> cases j <;> simp_all
    · simp [pickOb, St.add, Ob.ren, lvs]
    · rfl
  · simp only [Post.seq]
    apply AW.step
    · simp [Value.oneCell']
      refine xapp_grow (q := (l.length, lvs (encField l))) (z := ⟨105, 2, true, none, []⟩) tb_el31 tb_ti105 (by simp) (by simp [encField_lvsA]) (by simp) (by simp) (by simp) (by simp; omega) ?_
      simp [St.grow, obsBut, lvs_ren]
      rfl
    refine AW.ret (Left.of (av := .l (.r 0 2 0 l.length)) (by simp [Try.f75, resV, resC]) ?_)
    refine LeftV.now hnb [some 0] (fun i j o hi hj => ?_) rfl ?_ rfl
    · cases i <;> cases j <;> simp_all
    · simp [pickOb, Ob.ren, lvs_ren]
theorem en_cloneField : Enters Try.prog 75 := enters Try.func75 (by kernel_rfl) rfl
theorem z_cloneField (l : List Field) (hl : l.length ≤ 1000000000) : Sound Try.prog 75 [.l (.d true 2 (encField l))] [] (.l (.d false 2 (encField l))) [] :=
  (s_cloneField l hl).frz (by simp) (by omega) (encField_sz l) (by omega)
set_option maxRecDepth 8000 in
theorem s_cloneString (l : List ByteArray) (hl : l.length ≤ 1000000000) : Sound Try.prog 122 [.l (.d true 1 ((encS l)))] [] (.l (.r 0 1 0 l.length)) [some ⟨9, 1, true, none, lvs (encS l)⟩] := by
  refine Sound.of_aw (fn := Try.f122) (c := _) Try.func122 rfl (by simp [Try.f122]) fun cx hG hnb => ?_
  rw [show Try.f122.ntmps = 8 from rfl]
  have hn0 : cx.nb = 0 := hnb
  refine AW.step (by simp; rfl) ?_
  refine AW.seq ?_
  refine AW.stepN (fun s => ∃ b : Bool, (encS l ≠ [] → b = false) ∧ s = ⟨[(4, .l (.s (.bool b))), (3, .l (.d true 1 (encS l))), (2, .l (.s (.slice none 0 0))), (0, .l (.d true 1 (encS l)))], [], 8, [], none⟩) ?_ ?_
  · simp
  rintro s ⟨b, hb, rfl⟩
  refine AW.cond rfl (fun h => ?_) (fun h => AW.skip ?_)
  · have he : l = [] := by
      cases l with
      | nil => rfl
      | cons x l => simp at hb; rw [hb] at h; simp at h
    subst he
    refine AW.step (by simp; rfl) ?_
    refine AW.ret (Left.of (av := .l (.s (.slice none 0 0))) (by simp [Try.f122, resV, resC]) ?_)
    refine LeftV.weak (Weak.nilRow 0 9 1 rfl) ?_
    refine LeftV.now hnb [some 0] (fun i j o hi hj => ?_) rfl ?_ ?_
    · cases i <;> cases j <;> simp_all
    · simp [pickOb, St.add, Ob.ren, lvs]
    · rfl
  · simp only [Post.seq]
    apply AW.step
    · simp [Value.oneCell']
      refine xapp_grow (q := (l.length, lvs (encS l))) (z := ⟨9, 1, true, none, []⟩) tb_el32 tb_ti9 (by simp) (by simp [encS_lvsA]) (by simp) (by simp) (by simp) (by simp; omega) ?_
      simp [St.grow, obsBut, lvs_ren]
      rfl
    refine AW.ret (Left.of (av := .l (.r 0 1 0 l.length)) (by simp [Try.f122, resV, resC]) ?_)
    refine LeftV.now hnb [some 0] (fun i j o hi hj => ?_) rfl ?_ rfl
    · cases i <;> cases j <;> simp_all
    · simp [pickOb, Ob.ren, lvs_ren]
theorem en_cloneString : Enters Try.prog 122 := enters Try.func122 (by kernel_rfl) rfl
theorem z_cloneString (l : List ByteArray) (hl : l.length ≤ 1000000000) : Sound Try.prog 122 [.l (.d true 1 (encS l))] [] (.l (.d false 1 (encS l))) [] :=
  (s_cloneString l hl).frz (by simp) (by omega) (encS_sz l) (by omega)
set_option maxRecDepth 8000 in
theorem s_clonePair (l : List Pair) (hl : l.length ≤ 1000000000) : Sound Try.prog 95 [.l (.d false 6 ((encPair l)))] [] (.l (.r 0 6 0 l.length)) [some ⟨125, 6, true, none, lvs (encPair l)⟩] := by
  refine Sound.of_aw (fn := Try.f95) (c := _) Try.func95 rfl (by simp [Try.f95]) fun cx hG hnb => ?_
  rw [show Try.f95.ntmps = 8 from rfl]
  have hn0 : cx.nb = 0 := hnb
  refine AW.step (by simp; rfl) ?_
  refine AW.seq ?_
  refine AW.stepN (fun s => ∃ b : Bool, (encPair l ≠ [] → b = false) ∧ s = ⟨[(4, .l (.s (.bool b))), (3, .l (.d false 6 (encPair l))), (2, .l (.s (.slice none 0 0))), (0, .l (.d false 6 (encPair l)))], [], 8, [], none⟩) ?_ ?_
  · simp
  rintro s ⟨b, hb, rfl⟩
  refine AW.cond rfl (fun h => ?_) (fun h => AW.skip ?_)
  · have he : l = [] := by
      cases l with
      | nil => rfl
      | cons x l => simp at hb; rw [hb] at h; simp at h
    subst he
    refine AW.step (by simp; rfl) ?_
    refine AW.ret (Left.of (av := .l (.s (.slice none 0 0))) (by simp [Try.f95, resV, resC]) ?_)
    refine LeftV.weak (Weak.nilRow 0 125 6 rfl) ?_
    refine LeftV.now hnb [some 0] (fun i j o hi hj => ?_) rfl ?_ ?_
    · cases i <;> cases j <;> simp_all
    · simp [pickOb, St.add, Ob.ren, lvs]
    · rfl
  · simp only [Post.seq]
    apply AW.step
    · simp [Value.oneCell']
      refine xapp_grow (q := (l.length, lvs (encPair l))) (z := ⟨125, 6, true, none, []⟩) tb_el56 tb_ti125 (by simp) (by simp [← lvs_eq]) (by simp) (by simp) (by simp) (by simp; omega) ?_
      simp [St.grow, obsBut, lvs_ren]
      rfl
    refine AW.ret (Left.of (av := .l (.r 0 6 0 l.length)) (by simp [Try.f95, resV, resC]) ?_)
    refine LeftV.now hnb [some 0] (fun i j o hi hj => ?_) rfl ?_ rfl
    · cases i <;> cases j <;> simp_all
    · simp [pickOb, Ob.ren, lvs_ren]
theorem en_clonePair : Enters Try.prog 95 := enters Try.func95 (by kernel_rfl) rfl
theorem z_clonePair (l : List Pair) (hl : l.length ≤ 1000000000) : Sound Try.prog 95 [.l (.d false 6 (encPair l))] [] (.l (.d false 6 (encPair l))) [] :=
  (s_clonePair l hl).frz (by simp) (by omega) (encPair_sz l) (by omega)
set_option maxRecDepth 8000 in
theorem s_cloneEffect (l : List Effect) (hl : l.length ≤ 1000000000) : Sound Try.prog 116 [.l (.d false 7 ((encEffect l)))] [] (.l (.r 0 7 0 l.length)) [some ⟨36, 7, true, none, lvs (encEffect l)⟩] := by
  refine Sound.of_aw (fn := Try.f116) (c := _) Try.func116 rfl (by simp [Try.f116]) fun cx hG hnb => ?_
  rw [show Try.f116.ntmps = 8 from rfl]
  have hn0 : cx.nb = 0 := hnb
  refine AW.step (by simp; rfl) ?_
  refine AW.seq ?_
  refine AW.stepN (fun s => ∃ b : Bool, (encEffect l ≠ [] → b = false) ∧ s = ⟨[(4, .l (.s (.bool b))), (3, .l (.d false 7 (encEffect l))), (2, .l (.s (.slice none 0 0))), (0, .l (.d false 7 (encEffect l)))], [], 8, [], none⟩) ?_ ?_
  · simp
  rintro s ⟨b, hb, rfl⟩
  refine AW.cond rfl (fun h => ?_) (fun h => AW.skip ?_)
  · have he : l = [] := by
      cases l with
      | nil => rfl
      | cons x l => simp at hb; rw [hb] at h; simp at h
    subst he
    refine AW.step (by simp; rfl) ?_
    refine AW.ret (Left.of (av := .l (.s (.slice none 0 0))) (by simp [Try.f116, resV, resC]) ?_)
    refine LeftV.weak (Weak.nilRow 0 36 7 rfl) ?_
    refine LeftV.now hnb [some 0] (fun i j o hi hj => ?_) rfl ?_ ?_
    · cases i <;> cases j <;> simp_all
    · simp [pickOb, St.add, Ob.ren, lvs]
    · rfl
  · simp only [Post.seq]
    apply AW.step
    · simp [Value.oneCell']
      refine xapp_grow (q := (l.length, lvs (encEffect l))) (z := ⟨36, 7, true, none, []⟩) tb_el24 tb_ti36 (by simp) (by simp [← lvs_eq]) (by simp) (by simp) (by simp) (by simp; omega) ?_
      simp [St.grow, obsBut, lvs_ren]
      rfl
    refine AW.ret (Left.of (av := .l (.r 0 7 0 l.length)) (by simp [Try.f116, resV, resC]) ?_)
    refine LeftV.now hnb [some 0] (fun i j o hi hj => ?_) rfl ?_ rfl
    · cases i <;> cases j <;> simp_all
    · simp [pickOb, Ob.ren, lvs_ren]
theorem en_cloneEffect : Enters Try.prog 116 := enters Try.func116 (by kernel_rfl) rfl
theorem z_cloneEffect (l : List Effect) (hl : l.length ≤ 1000000000) : Sound Try.prog 116 [.l (.d false 7 (encEffect l))] [] (.l (.d false 7 (encEffect l))) [] :=
  (s_cloneEffect l hl).frz (by simp) (by omega) (encEffect_sz l) (by omega)
end Go.Proofs.Ytlkhfdccapkcdaa
/- Walks: lists held against one another. -/
namespace Go.Proofs.Ytlkhfdccapkcdaa
open Go Go.RowKit
set_option linter.unusedVariables false
set_option linter.unusedSimpArgs false
set_option maxRecDepth 8000 in
theorem s_r1Texts (l m : List ByteArray) : Sound Try.prog 31 [.l (.d true 1 ((encS l))), .l (.d true 1 ((encS m)))] [] (.l (.s (.bool ((decide (l = m)))))) [] := by
  refine Sound.of_aw (fn := Try.f31) (c := _) Try.func31 rfl (by simp [Try.f31]) fun cx hG hnb => ?_
  rw [show Try.f31.ntmps = 26 from rfl]
  have hn0 : cx.nb = 0 := hnb
  refine AW.len_d 0 rfl fun hl => ?_
  refine AW.len_d 1 rfl fun hm => ?_
  simp only [encS_length] at hl hm
  refine AW.step (by simp [hl, hm]; rfl) ?_
  refine AW.seq ?_
  refine AW.step (by simp [hl, hm]; rfl) ?_
  refine AW.cond rfl (fun h1 => ?_) (fun h1 => ?_)
  · try simp at h1
    refine AW.step (by simp [hl, hm]; rfl) ?_
    refine AW.ret ?_
    refine Left.plain hnb (by simp [Try.f31, resV, resC, comp, hl, hm]; rfl) rfl rfl ?_
    have : l ≠ m := by
      rintro rfl
      simp at h1
    simp [this]
  · have hlm : l.length = m.length := by
      simp at h1
      omega
    refine AW.skip ?_
    simp only [Post.seq, Post.block, if_true]
    refine AW.seq ?_
    refine AW.step (by simp [hl, hm]; rfl) ?_
    refine AW.block ?_
    refine AW.loopF (α := Nat) [4, 5, 11, 12, 13, 14, 15, 16, 17, 18, 19, 20, 21, 22, 23, 24, 25] (fun i => [(5, .l (.s (.int .i64 i)))]) (fun _ => []) (fun i => i ≤ l.length ∧ l.take i = m.take i) (fun i => l.length - i) 0 (by simp; rfl) (by simp) rfl ⟨Nat.zero_le _, rfl⟩ ?_
    rintro i ⟨g1, g2⟩
    refine AW.seq ?_
    refine AW.step (by simp [hl, hm]; rfl) ?_
    refine AW.cond rfl (fun h4 => ?_) (fun h4 => ?_)
    · simp at h4
      obtain ⟨x, hx⟩ := get_some h4
      obtain ⟨y, hy⟩ := get_some (show i < m.length by omega)
      refine AW.skip ?_
      simp only [Post.seq, Post.block, if_true]
      refine AW.seq ?_
      refine AW.block ?_
      apply AW.drawnP (V := [_, _, _, _, _, _, _, _]) mixed [⟨[0], [], [(0, none)], false⟩, ⟨[0], [], [(5, none)], false⟩, ⟨[0], [0, 1], [(17, some 0), (18, some 1)], false⟩, ⟨[0], [0, 1, 2], [(19, some 2)], false⟩, ⟨[0], [], [(1, none)], false⟩, ⟨[0], [], [(5, none)], false⟩, ⟨[0], [4, 5], [(21, some 4), (22, some 5)], false⟩, ⟨[0], [4, 5, 6], [(23, some 6)], false⟩, ⟨[], [0, 1, 2, 3, 4, 5, 6, 7], [], false⟩] 8 (by kernel_rfl) (by kernel_rfl)
      · refine ⟨?_, ?_, ?_, ?_, ?_, ?_, ?_, ?_, trivial⟩
        · intro tm hr
          simp [AllL, rdV] at hr
          simp [hr, hl, hm, hx, hy]
          exact KD.mk
        · intro tm hr
          simp [AllL, rdV] at hr
          simp [hr, hl, hm, hx, hy]
          exact KD.mk
        · intro tm hr
          simp [AllL, rdV] at hr
          simp [hr, hl, hm, hx, hy]
          exact KD.mk
        · intro tm hr
          simp [AllL, rdV] at hr
          simp [hr, hl, hm, hx, hy]
          exact KD.mk
        · intro tm hr
          simp [AllL, rdV] at hr
          simp [hr, hl, hm, hx, hy]
          exact KD.mk
        · intro tm hr
          simp [AllL, rdV] at hr
          simp [hr, hl, hm, hx, hy]
          exact KD.mk
        · intro tm hr
          simp [AllL, rdV] at hr
          simp [hr, hl, hm, hx, hy]
          exact KD.mk
        · intro tm hr
          simp [AllL, rdV] at hr
          simp [hr, hl, hm, hx, hy]
          exact KD.mk
      · rfl
      · simp [tmD, putD, hl, hm, hx, hy]; rfl
      · simp [hl, hm, hx, hy]
        rfl
      refine AW.cond rfl (fun h6 => ?_) (fun h6 => ?_)
      · try simp at h6
        have hne := ne_of_get hx hy (by rintro rfl; simp at h6)
        refine AW.step (by simp [hl, hm]; rfl) ?_
        refine AW.ret ?_
        refine Left.plain hnb (by simp [Try.f31, resV, resC, comp, hl, hm]; rfl) rfl rfl ?_
        simp [hne]
      · try simp at h6
        refine AW.skip ?_
        simp only [Post.seq, Post.block, if_true]
        refine AW.last (by simp [hl, hm]; rfl) ?_
        simp only [Post.seq, Post.block, if_true]
        refine ⟨i + 1, Weak.keep _ (by simp [i64_succ (show i + 1 ≤ 9223372036854775807 by omega)]), ⟨by omega, (take_eq hx hy g2).2 (by simpa [ByteArray.ext_iff] using h6)⟩, by omega⟩
    · try simp at h4
      refine AW.exit ?_
      simp only [Post.seq, Post.block, if_true]
      have hq : l = m := take_all (by simpa using h4) hlm g2
      refine AW.step (by simp [hl, hm]; rfl) ?_
      refine AW.ret ?_
      refine Left.plain hnb (by simp [Try.f31, resV, resC, comp, hl, hm]; rfl) rfl rfl ?_
      simp [hq]
theorem en_r1Texts : Enters Try.prog 31 := enters Try.func31 (by kernel_rfl) rfl
set_option maxRecDepth 8000 in
theorem s_sameFields (l m : List Field) : Sound Try.prog 23 [.l (.d true 2 ((encField l))), .l (.d true 2 ((encField m)))] [] (.l (.s (.bool ((decide (l = m)))))) [] := by
  refine Sound.of_aw (fn := Try.f23) (c := _) Try.func23 rfl (by simp [Try.f23]) fun cx hG hnb => ?_
  rw [show Try.f23.ntmps = 26 from rfl]
  have hn0 : cx.nb = 0 := hnb
  refine AW.len_d 0 rfl fun hl => ?_
  refine AW.len_d 1 rfl fun hm => ?_
  simp only [encField_length] at hl hm
  refine AW.step (by simp [hl, hm]; rfl) ?_
  refine AW.seq ?_
  refine AW.step (by simp [hl, hm]; rfl) ?_
  refine AW.cond rfl (fun h1 => ?_) (fun h1 => ?_)
  · try simp at h1
    refine AW.step (by simp [hl, hm]; rfl) ?_
    refine AW.ret ?_
    refine Left.plain hnb (by simp [Try.f23, resV, resC, comp, hl, hm]; rfl) rfl rfl ?_
    have : l ≠ m := by
      rintro rfl
      simp at h1
    simp [this]
  · have hlm : l.length = m.length := by
      simp at h1
      omega
    refine AW.skip ?_
    simp only [Post.seq, Post.block, if_true]
    refine AW.seq ?_
    refine AW.step (by simp [hl, hm]; rfl) ?_
    refine AW.block ?_
    refine AW.loopF (α := Nat) [4, 5, 11, 12, 13, 14, 15, 16, 17, 18, 19, 20, 21, 22, 23, 24, 25] (fun i => [(5, .l (.s (.int .i64 i)))]) (fun _ => []) (fun i => i ≤ l.length ∧ l.take i = m.take i) (fun i => l.length - i) 0 (by simp; rfl) (by simp) rfl ⟨Nat.zero_le _, rfl⟩ ?_
    rintro i ⟨g1, g2⟩
    refine AW.seq ?_
    refine AW.step (by simp [hl, hm]; rfl) ?_
    refine AW.cond rfl (fun h4 => ?_) (fun h4 => ?_)
    · simp at h4
      obtain ⟨x, hx⟩ := get_some h4
      obtain ⟨y, hy⟩ := get_some (show i < m.length by omega)
      refine AW.skip ?_
      simp only [Post.seq, Post.block, if_true]
      refine AW.seq ?_
      refine AW.block ?_
      apply AW.drawnP (V := [_, _, _, _, _, _, _, _]) mixed [⟨[0], [], [(0, none)], false⟩, ⟨[0], [], [(5, none)], false⟩, ⟨[0], [0, 1], [(17, some 0), (18, some 1)], false⟩, ⟨[0], [0, 1, 2], [(19, some 2)], false⟩, ⟨[0], [], [(1, none)], false⟩, ⟨[0], [], [(5, none)], false⟩, ⟨[0], [4, 5], [(21, some 4), (22, some 5)], false⟩, ⟨[0], [4, 5, 6], [(23, some 6)], false⟩, ⟨[], [0, 1, 2, 3, 4, 5, 6, 7], [], false⟩] 8 (by kernel_rfl) (by kernel_rfl)
      · refine ⟨?_, ?_, ?_, ?_, ?_, ?_, ?_, ?_, trivial⟩
        · intro tm hr
          simp [AllL, rdV] at hr
          simp [hr, hl, hm, hx, hy]
          exact KD.mk
        · intro tm hr
          simp [AllL, rdV] at hr
          simp [hr, hl, hm, hx, hy]
          exact KD.mk
        · intro tm hr
          simp [AllL, rdV] at hr
          simp [hr, hl, hm, hx, hy]
          exact KD.mk
        · intro tm hr
          simp [AllL, rdV] at hr
          simp [hr, hl, hm, hx, hy]
          exact KD.mk
        · intro tm hr
          simp [AllL, rdV] at hr
          simp [hr, hl, hm, hx, hy]
          exact KD.mk
        · intro tm hr
          simp [AllL, rdV] at hr
          simp [hr, hl, hm, hx, hy]
          exact KD.mk
        · intro tm hr
          simp [AllL, rdV] at hr
          simp [hr, hl, hm, hx, hy]
          exact KD.mk
        · intro tm hr
          simp [AllL, rdV] at hr
          simp [hr, hl, hm, hx, hy]
          exact KD.mk
      · rfl
      · simp [tmD, putD, hl, hm, hx, hy]; rfl
      · simp [hl, hm, hx, hy]
        rfl
      refine AW.cond rfl (fun h6 => ?_) (fun h6 => ?_)
      · try simp at h6
        have hne := ne_of_get hx hy (by rintro rfl; simp at h6)
        refine AW.step (by simp [hl, hm]; rfl) ?_
        refine AW.ret ?_
        refine Left.plain hnb (by simp [Try.f23, resV, resC, comp, hl, hm]; rfl) rfl rfl ?_
        simp [hne]
      · try simp at h6
        refine AW.skip ?_
        simp only [Post.seq, Post.block, if_true]
        refine AW.last (by simp [hl, hm]; rfl) ?_
        simp only [Post.seq, Post.block, if_true]
        refine ⟨i + 1, Weak.keep _ (by simp [i64_succ (show i + 1 ≤ 9223372036854775807 by omega)]), ⟨by omega, (take_eq hx hy g2).2 (by simpa [Field.ext_iff] using h6)⟩, by omega⟩
    · try simp at h4
      refine AW.exit ?_
      simp only [Post.seq, Post.block, if_true]
      have hq : l = m := take_all (by simpa using h4) hlm g2
      refine AW.step (by simp [hl, hm]; rfl) ?_
      refine AW.ret ?_
      refine Left.plain hnb (by simp [Try.f23, resV, resC, comp, hl, hm]; rfl) rfl rfl ?_
      simp [hq]
theorem en_sameFields : Enters Try.prog 23 := enters Try.func23 (by kernel_rfl) rfl
set_option maxRecDepth 8000 in
theorem s_eqString (l m : List ByteArray) : Sound Try.prog 107 [.l (.d true 1 ((encS l))), .l (.d true 1 ((encS m)))] [] (.l (.s (.bool ((decide (l = m)))))) [] := by
  refine Sound.of_aw (fn := Try.f107) (c := _) Try.func107 rfl (by simp [Try.f107]) fun cx hG hnb => ?_
  rw [show Try.f107.ntmps = 26 from rfl]
  have hn0 : cx.nb = 0 := hnb
  refine AW.len_d 0 rfl fun hl => ?_
  refine AW.len_d 1 rfl fun hm => ?_
  simp only [encS_length] at hl hm
  refine AW.step (by simp [hl, hm]; rfl) ?_
  refine AW.seq ?_
  refine AW.step (by simp [hl, hm]; rfl) ?_
  refine AW.cond rfl (fun h1 => ?_) (fun h1 => ?_)
  · try simp at h1
    refine AW.step (by simp [hl, hm]; rfl) ?_
    refine AW.ret ?_
    refine Left.plain hnb (by simp [Try.f107, resV, resC, comp, hl, hm]; rfl) rfl rfl ?_
    have : l ≠ m := by
      rintro rfl
      simp at h1
    simp [this]
  · have hlm : l.length = m.length := by
      simp at h1
      omega
    refine AW.skip ?_
    simp only [Post.seq, Post.block, if_true]
    refine AW.seq ?_
    refine AW.step (by simp [hl, hm]; rfl) ?_
    refine AW.block ?_
    refine AW.loopF (α := Nat) [4, 5, 13, 14, 15, 16, 17, 18, 19, 20, 21, 22, 23, 24, 25] (fun i => [(13, .l (.s (.int .i64 i)))]) (fun _ => []) (fun i => i ≤ l.length ∧ l.take i = m.take i) (fun i => l.length - i) 0 (by simp; rfl) (by simp) rfl ⟨Nat.zero_le _, rfl⟩ ?_
    rintro i ⟨g1, g2⟩
    refine AW.step (by simp [hl, hm]; rfl) ?_
    refine AW.seq ?_
    refine AW.cond rfl (fun h4 => ?_) (fun h4 => ?_)
    · simp at h4
      obtain ⟨x, hx⟩ := get_some h4
      obtain ⟨y, hy⟩ := get_some (show i < m.length by omega)
      refine AW.skip ?_
      simp only [Post.seq, Post.block, if_true]
      refine AW.seq ?_
      refine AW.block ?_
      refine AW.step (by simp [hl, hm]; rfl) ?_
      apply AW.drawnP (V := [_, _, _, _, _, _, _, _]) mixed [⟨[0], [], [(0, none)], false⟩, ⟨[0], [], [(5, none)], false⟩, ⟨[0], [0, 1], [(16, some 0), (17, some 1)], false⟩, ⟨[0], [0, 1, 2], [(18, some 2)], false⟩, ⟨[0], [], [(1, none)], false⟩, ⟨[0], [], [(5, none)], false⟩, ⟨[0], [4, 5], [(20, some 4), (21, some 5)], false⟩, ⟨[0], [4, 5, 6], [(22, some 6)], false⟩, ⟨[], [0, 1, 2, 3, 4, 5, 6, 7], [], false⟩] 8 (by kernel_rfl) (by kernel_rfl)
      · refine ⟨?_, ?_, ?_, ?_, ?_, ?_, ?_, ?_, trivial⟩
        · intro tm hr
          simp [AllL, rdV] at hr
          simp [hr, hl, hm, hx, hy]
          exact KD.mk
        · intro tm hr
          simp [AllL, rdV] at hr
          simp [hr, hl, hm, hx, hy]
          exact KD.mk
        · intro tm hr
          simp [AllL, rdV] at hr
          simp [hr, hl, hm, hx, hy]
          exact KD.mk
        · intro tm hr
          simp [AllL, rdV] at hr
          simp [hr, hl, hm, hx, hy]
          exact KD.mk
        · intro tm hr
          simp [AllL, rdV] at hr
          simp [hr, hl, hm, hx, hy]
          exact KD.mk
        · intro tm hr
          simp [AllL, rdV] at hr
          simp [hr, hl, hm, hx, hy]
          exact KD.mk
        · intro tm hr
          simp [AllL, rdV] at hr
          simp [hr, hl, hm, hx, hy]
          exact KD.mk
        · intro tm hr
          simp [AllL, rdV] at hr
          simp [hr, hl, hm, hx, hy]
          exact KD.mk
      · rfl
      · simp [tmD, putD, hl, hm, hx, hy]; rfl
      · simp [hl, hm, hx, hy]
        rfl
      refine AW.cond rfl (fun h6 => ?_) (fun h6 => ?_)
      · try simp at h6
        have hne := ne_of_get hx hy (by rintro rfl; simp at h6)
        refine AW.step (by simp [hl, hm]; rfl) ?_
        refine AW.ret ?_
        refine Left.plain hnb (by simp [Try.f107, resV, resC, comp, hl, hm]; rfl) rfl rfl ?_
        simp [hne]
      · try simp at h6
        refine AW.skip ?_
        simp only [Post.seq, Post.block, if_true]
        refine AW.last (by simp [hl, hm]; rfl) ?_
        simp only [Post.seq, Post.block, if_true]
        refine ⟨i + 1, Weak.keep _ (by simp [i64_succ (show i + 1 ≤ 9223372036854775807 by omega)]), ⟨by omega, (take_eq hx hy g2).2 (by simpa [ByteArray.ext_iff] using h6)⟩, by omega⟩
    · try simp at h4
      refine AW.exit ?_
      simp only [Post.seq, Post.block, if_true]
      have hq : l = m := take_all (by simpa using h4) hlm g2
      refine AW.step (by simp [hl, hm]; rfl) ?_
      refine AW.ret ?_
      refine Left.plain hnb (by simp [Try.f107, resV, resC, comp, hl, hm]; rfl) rfl rfl ?_
      simp [hq]
theorem en_eqString : Enters Try.prog 107 := enters Try.func107 (by kernel_rfl) rfl
set_option maxRecDepth 8000 in
theorem s_eqField (l m : List Field) : Sound Try.prog 106 [.l (.d true 2 ((encField l))), .l (.d true 2 ((encField m)))] [] (.l (.s (.bool ((decide (l = m)))))) [] := by
  refine Sound.of_aw (fn := Try.f106) (c := _) Try.func106 rfl (by simp [Try.f106]) fun cx hG hnb => ?_
  rw [show Try.f106.ntmps = 26 from rfl]
  have hn0 : cx.nb = 0 := hnb
  refine AW.len_d 0 rfl fun hl => ?_
  refine AW.len_d 1 rfl fun hm => ?_
  simp only [encField_length] at hl hm
  refine AW.step (by simp [hl, hm]; rfl) ?_
  refine AW.seq ?_
  refine AW.step (by simp [hl, hm]; rfl) ?_
  refine AW.cond rfl (fun h1 => ?_) (fun h1 => ?_)
  · try simp at h1
    refine AW.step (by simp [hl, hm]; rfl) ?_
    refine AW.ret ?_
    refine Left.plain hnb (by simp [Try.f106, resV, resC, comp, hl, hm]; rfl) rfl rfl ?_
    have : l ≠ m := by
      rintro rfl
      simp at h1
    simp [this]
  · have hlm : l.length = m.length := by
      simp at h1
      omega
    refine AW.skip ?_
    simp only [Post.seq, Post.block, if_true]
    refine AW.seq ?_
    refine AW.step (by simp [hl, hm]; rfl) ?_
    refine AW.block ?_
    refine AW.loopF (α := Nat) [4, 5, 13, 14, 15, 16, 17, 18, 19, 20, 21, 22, 23, 24, 25] (fun i => [(13, .l (.s (.int .i64 i)))]) (fun _ => []) (fun i => i ≤ l.length ∧ l.take i = m.take i) (fun i => l.length - i) 0 (by simp; rfl) (by simp) rfl ⟨Nat.zero_le _, rfl⟩ ?_
    rintro i ⟨g1, g2⟩
    refine AW.step (by simp [hl, hm]; rfl) ?_
    refine AW.seq ?_
    refine AW.cond rfl (fun h4 => ?_) (fun h4 => ?_)
    · simp at h4
      obtain ⟨x, hx⟩ := get_some h4
      obtain ⟨y, hy⟩ := get_some (show i < m.length by omega)
      refine AW.skip ?_
      simp only [Post.seq, Post.block, if_true]
      refine AW.seq ?_
      refine AW.block ?_
      refine AW.step (by simp [hl, hm]; rfl) ?_
      apply AW.drawnP (V := [_, _, _, _, _, _, _, _]) mixed [⟨[0], [], [(0, none)], false⟩, ⟨[0], [], [(5, none)], false⟩, ⟨[0], [0, 1], [(16, some 0), (17, some 1)], false⟩, ⟨[0], [0, 1, 2], [(18, some 2)], false⟩, ⟨[0], [], [(1, none)], false⟩, ⟨[0], [], [(5, none)], false⟩, ⟨[0], [4, 5], [(20, some 4), (21, some 5)], false⟩, ⟨[0], [4, 5, 6], [(22, some 6)], false⟩, ⟨[], [0, 1, 2, 3, 4, 5, 6, 7], [], false⟩] 8 (by kernel_rfl) (by kernel_rfl)
      · refine ⟨?_, ?_, ?_, ?_, ?_, ?_, ?_, ?_, trivial⟩
        · intro tm hr
          simp [AllL, rdV] at hr
          simp [hr, hl, hm, hx, hy]
          exact KD.mk
        · intro tm hr
          simp [AllL, rdV] at hr
          simp [hr, hl, hm, hx, hy]
          exact KD.mk
        · intro tm hr
          simp [AllL, rdV] at hr
          simp [hr, hl, hm, hx, hy]
          exact KD.mk
        · intro tm hr
          simp [AllL, rdV] at hr
          simp [hr, hl, hm, hx, hy]
          exact KD.mk
        · intro tm hr
          simp [AllL, rdV] at hr
          simp [hr, hl, hm, hx, hy]
          exact KD.mk
        · intro tm hr
          simp [AllL, rdV] at hr
          simp [hr, hl, hm, hx, hy]
          exact KD.mk
        · intro tm hr
          simp [AllL, rdV] at hr
          simp [hr, hl, hm, hx, hy]
          exact KD.mk
        · intro tm hr
          simp [AllL, rdV] at hr
          simp [hr, hl, hm, hx, hy]
          exact KD.mk
      · rfl
      · simp [tmD, putD, hl, hm, hx, hy]; rfl
      · simp [hl, hm, hx, hy]
        rfl
      refine AW.cond rfl (fun h6 => ?_) (fun h6 => ?_)
      · try simp at h6
        have hne := ne_of_get hx hy (by rintro rfl; simp at h6)
        refine AW.step (by simp [hl, hm]; rfl) ?_
        refine AW.ret ?_
        refine Left.plain hnb (by simp [Try.f106, resV, resC, comp, hl, hm]; rfl) rfl rfl ?_
        simp [hne]
      · try simp at h6
        refine AW.skip ?_
        simp only [Post.seq, Post.block, if_true]
        refine AW.last (by simp [hl, hm]; rfl) ?_
        simp only [Post.seq, Post.block, if_true]
        refine ⟨i + 1, Weak.keep _ (by simp [i64_succ (show i + 1 ≤ 9223372036854775807 by omega)]), ⟨by omega, (take_eq hx hy g2).2 (by simpa [Field.ext_iff] using h6)⟩, by omega⟩
    · try simp at h4
      refine AW.exit ?_
      simp only [Post.seq, Post.block, if_true]
      have hq : l = m := take_all (by simpa using h4) hlm g2
      refine AW.step (by simp [hl, hm]; rfl) ?_
      refine AW.ret ?_
      refine Left.plain hnb (by simp [Try.f106, resV, resC, comp, hl, hm]; rfl) rfl rfl ?_
      simp [hq]
theorem en_eqField : Enters Try.prog 106 := enters Try.func106 (by kernel_rfl) rfl
end Go.Proofs.Ytlkhfdccapkcdaa
/- The order of texts. No program in sight. -/
namespace Go.Proofs.Ytlkhfdccapkcdaa
open Go Go.RowKit
set_option linter.unusedVariables false
set_option linter.unusedSimpArgs false
theorem bl_irrefl : ∀ x : List UInt8, Op.bytesLess x x = false
  | [] => rfl
  | a :: x => by simp [Op.bytesLess, bl_irrefl x]
theorem cmp_lt : ∀ x y : List UInt8, (Lib.compareBytes x y < 0 ↔ Op.bytesLess x y = true) ∧ (Lib.compareBytes x y = 0 ↔ x = y)
  | [], [] => by simp [Lib.compareBytes, Op.bytesLess]
  | [], _ :: _ => by simp [Lib.compareBytes, Op.bytesLess]
  | _ :: _, [] => by simp [Lib.compareBytes, Op.bytesLess]
  | a :: x, b :: y => by
    have ih := cmp_lt x y
    simp only [Lib.compareBytes, Op.bytesLess]
    by_cases h : a < b
    · have h' : a.toNat < b.toNat := h
      have : a ≠ b := by rintro rfl; exact absurd h' (by omega)
      simp [h, h', this]
    · by_cases h2 : b < a
      · have h' : b.toNat < a.toNat := h2
        have h3 : ¬ a.toNat < b.toNat := by omega
        have : a ≠ b := by rintro rfl; exact absurd h' (by omega)
        simp [h, h2, h', h3, this]
      · have h3 : ¬ a.toNat < b.toNat := h
        have h4 : ¬ b.toNat < a.toNat := h2
        have : a = b := UInt8.toNat_inj.1 (by omega)
        subst this
        simp [h3, ih.1, ih.2]
theorem bl_trans : ∀ x y z : List UInt8, Op.bytesLess x y = true → Op.bytesLess y z = true → Op.bytesLess x z = true
  | [], [], z, h, _ => by simp [Op.bytesLess] at h
  | [], _ :: _, [], _, h => by simp [Op.bytesLess] at h
  | [], _ :: _, _ :: _, _, _ => by simp [Op.bytesLess]
  | _ :: _, [], _, h, _ => by simp [Op.bytesLess] at h
  | _ :: _, _ :: _, [], _, h => by simp [Op.bytesLess] at h
  | a :: x, b :: y, c :: z, h, k => by
    have ih := bl_trans x y z
    simp only [Op.bytesLess, Bool.or_eq_true, Bool.and_eq_true, decide_eq_true_eq, beq_iff_eq] at h k ⊢
    rcases h with h | ⟨rfl, h⟩
    · rcases k with k | ⟨rfl, k⟩
      · exact .inl (UInt8.lt_trans h k)
      · exact .inl h
    · rcases k with k | ⟨rfl, k⟩
      · exact .inl k
      · exact .inr ⟨rfl, ih h k⟩
theorem ba_ext {a b : ByteArray} (h : a.data.toList = b.data.toList) : a = b := by
  cases a; cases b; simp at h; rw [h]
theorem cmpB_lt (a b : ByteArray) : cmpB a b < 0 ↔ slt a b = true := (cmp_lt _ _).1
theorem cmpB_eq (a b : ByteArray) : cmpB a b = 0 ↔ a = b := (cmp_lt _ _).2.trans ⟨ba_ext, fun h => by rw [h]⟩
theorem slt_irrefl (a : ByteArray) : slt a a = false := bl_irrefl _
theorem slt_trans {a b c : ByteArray} (h : slt a b = true) (k : slt b c = true) : slt a c = true := bl_trans _ _ _ h k
theorem slt_total (a b : ByteArray) : slt a b = true ∨ a = b ∨ slt b a = true := by
  have h := bytesLess_or a.data.toList b.data.toList
  cases h1 : Op.bytesLess a.data.toList b.data.toList
  · cases h2 : Op.bytesLess b.data.toList a.data.toList
    · rw [h1, h2] at h
      simp at h
      exact .inr (.inl (ba_ext (by simpa using h)))
    · exact .inr (.inr h2)
  · exact .inl h1
theorem slt_asymm {a b : ByteArray} (h : slt a b = true) : slt b a = false := by
  cases k : slt b a
  · rfl
  · have := slt_trans h k
    rw [slt_irrefl] at this
    simp at this
theorem slt_ne {a b : ByteArray} (h : slt a b = true) : a ≠ b := by
  rintro rfl
  rw [slt_irrefl] at h
  simp at h
theorem slt_or (a b : ByteArray) : slt a b = false ↔ a = b ∨ slt b a = true := by
  constructor
  · intro h
    rcases slt_total a b with k | k | k
    · rw [h] at k; simp at k
    · exact .inl k
    · exact .inr k
  · rintro (rfl | h)
    · exact slt_irrefl _
    · exact slt_asymm h
/-- By halves the first place is found where p no longer holds, if it holds up to there. -/
theorem bs_first (p : Nat → Bool) (k : Nat) : ∀ (lo hi : Nat), lo ≤ k → k ≤ hi → (∀ i, lo ≤ i → i < hi → p i = decide (i < k)) → bs p lo hi = k := by
  intro lo hi
  fun_induction bs p lo hi with
  | case1 lo hi h1 hp ih =>
    intro g1 g2 g3
    have g4 := g3 ((lo + hi) / 2) (by omega) (by omega)
    rw [hp] at g4
    have g5 : (lo + hi) / 2 < k := by simpa using g4.symm
    exact ih (by omega) g2 fun i g6 g7 => g3 i (by omega) g7
  | case2 lo hi h1 hp ih =>
    intro g1 g2 g3
    have g4 := g3 ((lo + hi) / 2) (by omega) (by omega)
    have g5 : ¬ (lo + hi) / 2 < k := by
      intro h
      rw [decide_eq_true h] at g4
      exact hp g4
    exact ih g1 (by omega) fun i g6 g7 => g3 i g6 (by omega)
  | case3 lo hi h1 =>
    intro g1 g2 _
    omega
theorem find_hit {α : Type} {p : α → Bool} {l : List α} {i : Nat} {x : α} (h : (l.take i).find? p = none) (hx : l[i]? = some x) (hp : p x = true) : l.find? p = some x := by
  have e : l = l.take i ++ (x :: l.drop (i + 1)) := by
    have hi := (List.getElem?_eq_some_iff.1 hx).1
    have h2 := List.drop_eq_getElem_cons hi
    rw [(List.getElem?_eq_some_iff.1 hx).2] at h2
    rw [← h2, List.take_append_drop]
  rw [e, List.find?_append, h]
  simp [hp]
theorem find_miss {α : Type} {p : α → Bool} {l : List α} {i : Nat} {x : α} (h : (l.take i).find? p = none) (hx : l[i]? = some x) (hp : p x = false) : (l.take (i + 1)).find? p = none := by
  rw [List.take_add_one, hx, List.find?_append, h]
  simp [hp]
theorem filter_yes {α : Type} {p : α → Bool} {l : List α} {i : Nat} {x : α} (hx : l[i]? = some x) (hp : p x = true) : (l.take (i + 1)).filter p = (l.take i).filter p ++ [x] := by
  rw [List.take_add_one, hx]
  simp [hp]
theorem filter_no {α : Type} {p : α → Bool} {l : List α} {i : Nat} {x : α} (hx : l[i]? = some x) (hp : p x = false) : (l.take (i + 1)).filter p = (l.take i).filter p := by
  rw [List.take_add_one, hx]
  simp [hp]
theorem foldl_take {α β : Type} (f : β → α → β) (b : β) {l : List α} {i : Nat} {x : α} (hx : l[i]? = some x) : (l.take (i + 1)).foldl f b = f ((l.take i).foldl f b) x := by
  rw [List.take_add_one, hx]
  simp
theorem filter_take_le {α : Type} {p : α → Bool} (l : List α) (i : Nat) : ((l.take i).filter p).length ≤ i := by
  have := List.length_filter_le p (l.take i)
  simp at this
  omega
theorem take_snoc {α : Type} {l : List α} {i : Nat} {x : α} (h : l[i]? = some x) : l.take i ++ [x] = l.take (i + 1) := by
  rw [List.take_add_one, h]
  simp
end Go.Proofs.Ytlkhfdccapkcdaa
/- Walks: the document's fields. -/
namespace Go.Proofs.Ytlkhfdccapkcdaa
open Go Go.RowKit
set_option linter.unusedVariables false
set_option linter.unusedSimpArgs false
set_option maxRecDepth 8000 in
set_option maxHeartbeats 8000000 in
theorem s_r5HNames (l : List Field) (hl : l.length ≤ 1000000000) : Sound Try.prog 32 [.l (.d true 2 ((encField l)))] [] (.l (.r 0 1 0 l.length)) [some ⟨9, 1, true, none, lvs (encS (l.map (·.name)))⟩] := by
  refine Sound.of_aw (fn := Try.f32) (c := _) Try.func32 rfl (by simp [Try.f32]) fun cx hG hnb => ?_
  rw [show Try.f32.ntmps = 20 from rfl]
  have hn0 : cx.nb = 0 := hnb
  have hl' : l.length ≤ 140737488355328 := by omega
  refine AW.step (by simp [hl']; rfl) ?_
  refine AW.step (by simp [hl']; rfl) ?_
  refine AW.seq ?_
  refine AW.step (by simp [hl']; rfl) ?_
  refine AW.block ?_
  refine AW.nilRow 3 9 1 0 (by simp) rfl rfl ?_
  refine AW.loopF (α := Nat) [3, 4, 5, 6, 7, 8, 9, 10, 11, 12, 13, 14, 15, 16, 17, 18] (fun i => [(4, .l (.s (.int .i64 i))), (3, .l (.r 0 1 0 i))]) (fun i => [some ⟨9, 1, true, none, lvs (encS ((l.map (·.name)).take i))⟩]) (fun i => i ≤ l.length) (fun i => l.length - i) 0 (by simp; rfl) (by simp) (by simp [lvs]) (Nat.zero_le _) ?_
  intro i g1
  refine AW.seq ?_
  refine AW.step (by simp [hl']; rfl) ?_
  refine AW.cond rfl (fun h3 => ?_) (fun h3 => ?_)
  · simp at h3
    obtain ⟨x, hx⟩ := get_some h3
    have hm : (l.map (·.name))[i]? = some x.name := by simp [hx]
    refine AW.skip ?_
    simp only [Post.seq, Post.block, if_true]
    refine AW.seq ?_
    refine AW.block ?_
    apply AW.last
    · simp [hl', hx]
      refine xapp_push (acc := encS ((l.map (·.name)).take i)) (ys := encS [x.name]) (cap := none) (k := 1) tb_el32 tb_ti9 (by simp) (by simp [encS, lvs]) (encS_sz _) (by simp <;> omega) (by simp) (by omega) ?_
      simp [St.grow, obsBut, lvs_ren, ← encS_append, take_snoc hm]
      try simp [hl', hx]
      rfl
    simp only [Post.seq, Post.block, if_true]
    refine AW.last (by simp [hl']; rfl) ?_
    simp only [Post.seq, Post.block, if_true]
    refine ⟨i + 1, Weak.cut 1 (by omega) (by simp [i64_succ (show i + 1 ≤ 9223372036854775807 by omega)]) (by simp) rfl, by omega, by omega⟩
  · try simp at h3
    refine AW.exit ?_
    simp only [Post.seq, Post.block, if_true]
    have hi : i = l.length := by omega
    subst hi
    have htk : (l.map (·.name)).take l.length = l.map (·.name) := List.take_of_length_le (by simp)
    refine AW.step (by simp [hl']; rfl) ?_
    refine AW.ret ?_
    refine Left.of (av := _) (by simp [Try.f32, resV, resC, comp, hl']; rfl) ?_
    exact LeftV.nowN 1 hn0 (by simp [htk]) (by simp) rfl
theorem en_r5HNames : Enters Try.prog 32 := enters Try.func32 (by kernel_rfl) rfl
set_option maxRecDepth 8000 in
set_option maxHeartbeats 8000000 in
theorem s_r5HVals (l : List Field) (hl : l.length ≤ 1000000000) : Sound Try.prog 34 [.l (.d true 2 ((encField l)))] [] (.l (.r 0 1 0 l.length)) [some ⟨9, 1, true, none, lvs (encS (l.map (·.val)))⟩] := by
  refine Sound.of_aw (fn := Try.f34) (c := _) Try.func34 rfl (by simp [Try.f34]) fun cx hG hnb => ?_
  rw [show Try.f34.ntmps = 20 from rfl]
  have hn0 : cx.nb = 0 := hnb
  have hl' : l.length ≤ 140737488355328 := by omega
  refine AW.step (by simp [hl']; rfl) ?_
  refine AW.step (by simp [hl']; rfl) ?_
  refine AW.seq ?_
  refine AW.step (by simp [hl']; rfl) ?_
  refine AW.block ?_
  refine AW.nilRow 3 9 1 0 (by simp) rfl rfl ?_
  refine AW.loopF (α := Nat) [3, 4, 5, 6, 7, 8, 9, 10, 11, 12, 13, 14, 15, 16, 17, 18] (fun i => [(4, .l (.s (.int .i64 i))), (3, .l (.r 0 1 0 i))]) (fun i => [some ⟨9, 1, true, none, lvs (encS ((l.map (·.val)).take i))⟩]) (fun i => i ≤ l.length) (fun i => l.length - i) 0 (by simp; rfl) (by simp) (by simp [lvs]) (Nat.zero_le _) ?_
  intro i g1
  refine AW.seq ?_
  refine AW.step (by simp [hl']; rfl) ?_
  refine AW.cond rfl (fun h3 => ?_) (fun h3 => ?_)
  · simp at h3
    obtain ⟨x, hx⟩ := get_some h3
    have hm : (l.map (·.val))[i]? = some x.val := by simp [hx]
    refine AW.skip ?_
    simp only [Post.seq, Post.block, if_true]
    refine AW.seq ?_
    refine AW.block ?_
    apply AW.last
    · simp [hl', hx]
      refine xapp_push (acc := encS ((l.map (·.val)).take i)) (ys := encS [x.val]) (cap := none) (k := 1) tb_el32 tb_ti9 (by simp) (by simp [encS, lvs]) (encS_sz _) (by simp <;> omega) (by simp) (by omega) ?_
      simp [St.grow, obsBut, lvs_ren, ← encS_append, take_snoc hm]
      try simp [hl', hx]
      rfl
    simp only [Post.seq, Post.block, if_true]
    refine AW.last (by simp [hl']; rfl) ?_
    simp only [Post.seq, Post.block, if_true]
    refine ⟨i + 1, Weak.cut 1 (by omega) (by simp [i64_succ (show i + 1 ≤ 9223372036854775807 by omega)]) (by simp) rfl, by omega, by omega⟩
  · try simp at h3
    refine AW.exit ?_
    simp only [Post.seq, Post.block, if_true]
    have hi : i = l.length := by omega
    subst hi
    have htk : (l.map (·.val)).take l.length = l.map (·.val) := List.take_of_length_le (by simp)
    refine AW.step (by simp [hl']; rfl) ?_
    refine AW.ret ?_
    refine Left.of (av := _) (by simp [Try.f34, resV, resC, comp, hl']; rfl) ?_
    exact LeftV.nowN 1 hn0 (by simp [htk]) (by simp) rfl
theorem en_r5HVals : Enters Try.prog 34 := enters Try.func34 (by kernel_rfl) rfl
def valOf (o : Option Field) : ByteArray := match o with | some f => f.val | none => ⟨#[]⟩
def hgetF (l : List Field) (name : ByteArray) : Option Field := l.find? fun f => decide (f.name = name)
set_option maxRecDepth 8000 in
set_option maxHeartbeats 8000000 in
theorem s_r5HGet (l : List Field) (name : ByteArray) : Sound Try.prog 28 [.l (.d true 2 ((encField l))), .l (.s (.string name))] [] (.g [.s (.string ((valOf (hgetF l name)))), .s (.bool ((hgetF l name).isSome))]) [] := by
  refine Sound.of_aw (fn := Try.f28) (c := _) Try.func28 rfl (by simp [Try.f28]) fun cx hG hnb => ?_
  rw [show Try.f28.ntmps = 26 from rfl]
  have hn0 : cx.nb = 0 := hnb
  refine AW.len_d 0 rfl fun hl => ?_
  simp only [encField_length] at hl
  refine AW.step (by simp [hl]; rfl) ?_
  refine AW.seq ?_
  refine AW.step (by simp [hl]; rfl) ?_
  refine AW.block ?_
  refine AW.loopF (α := Nat) [5, 6, 7, 8, 9, 10, 11, 12, 13, 14, 15, 16, 17, 18, 19, 20, 21, 22, 23, 24] (fun i => [(4, .l (.p 0 0)), (5, .l (.s (.int .i64 i)))]) (fun _ => [some ⟨51, 2, false, none, [.s (.string ⟨#[]⟩), .s (.bool false)]⟩]) (fun i => i ≤ l.length ∧ (l.take i).find? (fun f => decide (f.name = name)) = none) (fun i => l.length - i) 0 (by simp; rfl) (by simp) rfl ⟨Nat.zero_le _, rfl⟩ ?_
  rintro i ⟨g1, g2⟩
  refine AW.seq ?_
  refine AW.step (by simp [hl]; rfl) ?_
  refine AW.cond rfl (fun h2 => ?_) (fun h2 => ?_)
  · simp at h2
    obtain ⟨x, hx⟩ := get_some h2
    refine AW.skip ?_
    simp only [Post.seq, Post.block, if_true]
    refine AW.seq ?_
    refine AW.block ?_
    refine AW.step (by simp [hl, hx]; rfl) ?_
    refine AW.cond rfl (fun h4 => ?_) (fun h4 => ?_)
    · try simp at h4
      have hf : hgetF l name = some x := find_hit g2 hx (by simpa using h4)
      refine AW.step (by simp [hl, hx]; rfl) ?_
      refine AW.ret ?_
      refine Left.plain hnb (by simp [Try.f28, resV, resC, comp, hl, hx]; rfl) rfl rfl ?_
      simp [hf, valOf]
    · try simp at h4
      refine AW.skip ?_
      simp only [Post.seq, Post.block, if_true]
      refine AW.last (by simp [hl]; rfl) ?_
      simp only [Post.seq, Post.block, if_true]
      refine ⟨i + 1, Weak.keep _ (by simp [i64_succ (show i + 1 ≤ 9223372036854775807 by omega)]), ⟨by omega, find_miss g2 hx (by simpa using h4)⟩, by omega⟩
  · try simp at h2
    refine AW.exit ?_
    simp only [Post.seq, Post.block, if_true]
    have hf : hgetF l name = none := by rwa [List.take_of_length_le (by omega)] at g2
    refine AW.step (by simp [hl]; rfl) ?_
    refine AW.ret ?_
    refine Left.plain hnb (by simp [Try.f28, resV, resC, comp, hl]; rfl) rfl rfl ?_
    simp [hf, valOf]
theorem en_r5HGet : Enters Try.prog 28 := enters Try.func28 (by kernel_rfl) rfl
def hdelF (l : List Field) (name : ByteArray) : List Field := l.filter fun f => !decide (f.name = name)
set_option maxRecDepth 8000 in
set_option maxHeartbeats 8000000 in
theorem s_r5HDel (l : List Field) (name : ByteArray) (hl : l.length ≤ 1000000000) : Sound Try.prog 30 [.l (.d true 2 ((encField l))), .l (.s (.string name))] [] (.l (.r 0 2 0 (hdelF l name).length)) [some ⟨105, 2, true, none, lvs (encField (hdelF l name))⟩] := by
  refine Sound.of_aw (fn := Try.f30) (c := _) Try.func30 rfl (by simp [Try.f30]) fun cx hG hnb => ?_
  rw [show Try.f30.ntmps = 28 from rfl]
  have hn0 : cx.nb = 0 := hnb
  have hl' : l.length ≤ 140737488355328 := by omega
  refine AW.step (by simp [hl']; rfl) ?_
  refine AW.step (by simp [hl']; rfl) ?_
  refine AW.seq ?_
  refine AW.step (by simp [hl']; rfl) ?_
  refine AW.block ?_
  refine AW.nilRow 5 105 2 0 (by simp) rfl rfl ?_
  refine AW.loopF (α := Nat) [5, 6, 7, 8, 9, 10, 11, 12, 13, 14, 15, 16, 17, 18, 19, 20, 21, 22, 23, 24, 25, 26] (fun i => [(6, .l (.s (.int .i64 i))), (5, .l (.r 0 2 0 (hdelF (l.take i) name).length))]) (fun i => [some ⟨105, 2, true, none, lvs (encField (hdelF (l.take i) name))⟩]) (fun i => i ≤ l.length) (fun i => l.length - i) 0 (by simp; rfl) (by simp [hdelF]) (by simp [lvs, hdelF]) (Nat.zero_le _) ?_
  intro i g1
  refine AW.seq ?_
  refine AW.step (by simp [hl']; rfl) ?_
  refine AW.cond rfl (fun h3 => ?_) (fun h3 => ?_)
  · simp at h3
    obtain ⟨x, hx⟩ := get_some h3
    have hle : (hdelF (l.take i) name).length ≤ i := filter_take_le l i
    refine AW.skip ?_
    simp only [Post.seq, Post.block, if_true]
    refine AW.seq ?_
    refine AW.block ?_
    refine AW.step (by simp [hl', hx]; rfl) ?_
    refine AW.cond rfl (fun h5 => ?_) (fun h5 => ?_)
    · have hn : hdelF (l.take (i + 1)) name = hdelF (l.take i) name ++ [x] := filter_yes hx (by simpa using h5)
      apply AW.last
      · simp [hl', hx]
        refine xapp_push (acc := encField (hdelF (l.take i) name)) (ys := encField [x]) (cap := none) (k := 1) tb_el31 tb_ti105 (by simp) (by simp [encField, lvs]) (encField_sz _) (by simp <;> omega) (by simp) (by omega) ?_
        simp [St.grow, obsBut, ← encField_append, ← hn]
        try simp [hl', hx]
        rfl
      simp only [Post.seq, Post.block, if_true]
      refine AW.last (by simp [hl']; rfl) ?_
      simp only [Post.seq, Post.block, if_true]
      refine ⟨i + 1, Weak.cut 1 (by omega) (by simp [i64_succ (show i + 1 ≤ 9223372036854775807 by omega), hn]) (by simp [hn]) rfl, by omega, by omega⟩
    · have hn : hdelF (l.take (i + 1)) name = hdelF (l.take i) name := filter_no hx (by simpa using h5)
      refine AW.skip ?_
      simp only [Post.seq, Post.block, if_true]
      refine AW.last (by simp [hl']; rfl) ?_
      simp only [Post.seq, Post.block, if_true]
      refine ⟨i + 1, Weak.cut 1 (by omega) (by simp [i64_succ (show i + 1 ≤ 9223372036854775807 by omega), hn]) (by simp [hn]) rfl, by omega, by omega⟩
  · try simp at h3
    refine AW.exit ?_
    simp only [Post.seq, Post.block, if_true]
    have hi : i = l.length := by omega
    subst hi
    refine AW.step (by simp [hl']; rfl) ?_
    refine AW.ret ?_
    refine Left.of (av := _) (by simp [Try.f30, resV, resC, comp, hl']; rfl) ?_
    exact LeftV.nowN 1 hn0 (by simp [hl']) (by simp [hl']) rfl
theorem en_r5HDel : Enters Try.prog 30 := enters Try.func30 (by kernel_rfl) rfl
def hsetS1 (name val : ByteArray) (s : List Field × Bool) (f : Field) : List Field × Bool :=
  if s.2 = false ∧ slt f.name name = false then (s.1 ++ [⟨name, val⟩], true) else s
def hsetS (name val : ByteArray) (s : List Field × Bool) (f : Field) : List Field × Bool :=
  if f.name = name then hsetS1 name val s f else ((hsetS1 name val s f).1 ++ [f], (hsetS1 name val s f).2)
theorem hsetS1_le (name val : ByteArray) (s : List Field × Bool) (f : Field) : (hsetS1 name val s f).1.length ≤ s.1.length + 1 := by
  unfold hsetS1
  split <;> simp
def hsetA (l : List Field) (name val : ByteArray) (i : Nat) : List Field × Bool := (l.take i).foldl (hsetS name val) ([], false)
def hsetF (l : List Field) (name val : ByteArray) : List Field := if (hsetA l name val l.length).2 = true then (hsetA l name val l.length).1 else (hsetA l name val l.length).1 ++ [⟨name, val⟩]
set_option maxRecDepth 8000 in
set_option maxHeartbeats 8000000 in
theorem s_r5HSet (l : List Field) (name val : ByteArray) (hl : l.length ≤ 100000000) : Sound Try.prog 29 [.l (.d true 2 ((encField l))), .l (.s (.string name)), .l (.s (.string val))] [] (.l (.r 0 2 0 (hsetF l name val).length)) [some ⟨105, 2, true, none, lvs (encField (hsetF l name val))⟩] := by
  refine Sound.of_aw (fn := Try.f29) (c := _) Try.func29 rfl (by simp [Try.f29]) fun cx hG hnb => ?_
  rw [show Try.f29.ntmps = 56 from rfl]
  have hn0 : cx.nb = 0 := hnb
  have hl' : l.length ≤ 140737488355328 := by omega
  refine AW.step (by simp [hl']; rfl) ?_
  refine AW.step (by simp [hl']; rfl) ?_
  refine AW.step (by simp [hl']; rfl) ?_
  refine AW.seq ?_
  refine AW.step (by simp [hl']; rfl) ?_
  refine AW.block ?_
  refine AW.nilRow 7 105 2 0 (by simp) rfl rfl ?_
  refine AW.loopF (α := Nat) [7, 8, 9, 10, 11, 12, 13, 14, 15, 16, 17, 18, 19, 20, 21, 22, 23, 24, 25, 26, 27, 28, 29, 30, 31, 32, 33, 34, 35, 36, 37, 38, 39, 40, 41, 42, 43, 44, 45, 46] (fun i => [(9, .l (.s (.int .i64 i))), (8, .l (.s (.bool (hsetA l name val i).2))), (7, .l (.r 0 2 0 (hsetA l name val i).1.length))]) (fun i => [some ⟨105, 2, true, none, lvs (encField (hsetA l name val i).1)⟩]) (fun i => i ≤ l.length ∧ (hsetA l name val i).1.length ≤ 2 * i) (fun i => l.length - i) 0 (by simp; rfl) (by simp [hsetA]) (by simp [lvs, hsetA]) ⟨Nat.zero_le _, by simp [hsetA]⟩ ?_
  rintro i ⟨g1, g2⟩
  refine AW.seq ?_
  refine AW.step (by simp [hl']; rfl) ?_
  refine AW.cond rfl (fun h4 => ?_) (fun h4 => ?_)
  · simp at h4
    obtain ⟨x, hx⟩ := get_some h4
    have hn : hsetA l name val (i + 1) = hsetS name val (hsetA l name val i) x := foldl_take _ _ hx
    generalize hsetA l name val i = a at *
    refine AW.skip ?_
    simp only [Post.seq, Post.block, if_true]
    refine AW.seq ?_
    refine AW.block ?_
    refine AW.joinF [7, 8, 16, 17, 18, 19, 20, 21, 22, 23, 24, 25, 26, 27, 28, 29, 30, 31, 32] [(8, .l (.s (.bool (hsetS1 name val a x).2))), (7, .l (.r 0 2 0 (hsetS1 name val a x).1.length))] [some ⟨105, 2, true, none, lvs (encField (hsetS1 name val a x).1)⟩] (by simp; rfl) ?_ ?_
    · refine AW.stepU [(26, .l (.s (.bool (!a.2 && !slt x.name name))))] ?_ ?_
      · obtain ⟨a1, a2⟩ := a
        cases a2 <;> simp [hx] <;> exact KU.mk (by simp)
      simp only [List.cons_append, List.nil_append]
      refine AW.cond rfl (fun h6 => ?_) (fun h6 => ?_)
      · simp at h6
        have hs : hsetS1 name val a x = (a.1 ++ [⟨name, val⟩], true) := if_pos h6
        apply AW.step
        · simp [hl']
          refine xapp_push (acc := encField (a.1)) (ys := encField [⟨name, val⟩]) (cap := none) (k := 1) tb_el31 tb_ti105 (by simp) (by simp [encField, lvs]) (encField_sz _) (by simp <;> omega) (by simp) (by omega) ?_
          simp [St.grow, obsBut, ← encField_append]
          try simp [hl']
          rfl
        refine AW.last (by simp [hl', hs]; rfl) ?_
        simp only [Post.seq, Post.block, if_true]
        exact Weak.cut 1 (by omega) (by simp [hs]) (by simp [hs]) rfl
      · have hs : hsetS1 name val a x = a := if_neg (by simpa using h6)
        refine AW.skip ?_
        simp only [Post.seq, Post.block, if_true]
        exact Weak.cut 1 (by omega) (by simp [hs]) (by simp [hs]) rfl
    simp only [List.cons_append, List.nil_append]
    have hle := hsetS1_le name val a x
    refine AW.step (by simp [hl', hx]; rfl) ?_
    refine AW.cond rfl (fun h9 => ?_) (fun h9 => ?_)
    · have hn2 := hn.trans (if_neg (by simpa using h9))
      apply AW.last
      · simp [hl', hx]
        refine xapp_push (acc := encField ((hsetS1 name val a x).1)) (ys := encField [x]) (cap := none) (k := 1) tb_el31 tb_ti105 (by simp) (by simp [encField, lvs]) (encField_sz _) (by simp <;> omega) (by simp) (by omega) ?_
        simp [St.grow, obsBut, ← encField_append]
        try simp [hl', hx]
        rfl
      simp only [Post.seq, Post.block, if_true]
      refine AW.last (by simp [hl']; rfl) ?_
      simp only [Post.seq, Post.block, if_true]
      refine ⟨i + 1, Weak.cut 1 (by omega) (by simp [i64_succ (show i + 1 ≤ 9223372036854775807 by omega), hn2]) (by simp [hn2]) rfl, ⟨by omega, by simp [hn2]; omega⟩, by omega⟩
    · have hn2 := hn.trans (if_pos (by simpa using h9))
      refine AW.skip ?_
      simp only [Post.seq, Post.block, if_true]
      refine AW.last (by simp [hl']; rfl) ?_
      simp only [Post.seq, Post.block, if_true]
      refine ⟨i + 1, Weak.cut 1 (by omega) (by simp [i64_succ (show i + 1 ≤ 9223372036854775807 by omega), hn2]) (by simp [hn2]) rfl, ⟨by omega, by simp [hn2]; omega⟩, by omega⟩
  · try simp at h4
    refine AW.exit ?_
    simp only [Post.seq, Post.block, if_true]
    refine AW.seq ?_
    have hi : i = l.length := by omega
    subst hi
    refine AW.step (by simp [hl']; rfl) ?_
    refine AW.cond rfl (fun h11 => ?_) (fun h11 => ?_)
    · simp at h11
      have hf : hsetF l name val = (hsetA l name val l.length).1 ++ [⟨name, val⟩] := if_neg (by simp [h11])
      apply AW.last
      · simp [hl']
        refine xapp_push (acc := encField ((hsetA l name val l.length).1)) (ys := encField [⟨name, val⟩]) (cap := none) (k := 1) tb_el31 tb_ti105 (by simp) (by simp [encField, lvs]) (encField_sz _) (by simp <;> omega) (by simp) (by omega) ?_
        simp [St.grow, obsBut, ← encField_append, ← hf]
        try simp [hl']
        rfl
      simp only [Post.seq, Post.block, if_true]
      refine AW.step (by simp [hl']; rfl) ?_
      refine AW.ret ?_
      refine Left.of (av := _) (by simp [Try.f29, resV, resC, comp, hl']; rfl) ?_
      first
        | exact LeftV.nowN 1 hn0 (by simp [hf]) (by simp [hf]) rfl
    · simp at h11
      have hf : hsetF l name val = (hsetA l name val l.length).1 := if_pos h11
      refine AW.skip ?_
      simp only [Post.seq, Post.block, if_true]
      refine AW.step (by simp [hl']; rfl) ?_
      refine AW.ret ?_
      refine Left.of (av := _) (by simp [Try.f29, resV, resC, comp, hl']; rfl) ?_
      first
        | exact LeftV.nowN 1 hn0 (by simp [hf]) (by simp [hf]) rfl
theorem en_r5HSet : Enters Try.prog 29 := enters Try.func29 (by kernel_rfl) rfl
theorem hsetA_le (l : List Field) (name val : ByteArray) : ∀ i, (hsetA l name val i).1.length ≤ 2 * i := by
  intro i
  induction i with
  | zero => simp [hsetA]
  | succ i ih =>
    rcases Nat.lt_or_ge i l.length with h | h
    · obtain ⟨x, hx⟩ := get_some h
      have hn : hsetA l name val (i + 1) = hsetS name val (hsetA l name val i) x := foldl_take _ _ hx
      have h1 := hsetS1_le name val (hsetA l name val i) x
      rw [hn]
      unfold hsetS
      split <;> simp <;> omega
    · have : hsetA l name val (i + 1) = hsetA l name val i := by
        unfold hsetA
        rw [List.take_of_length_le (by omega), List.take_of_length_le h]
      rw [this]
      omega
theorem hsetF_le (l : List Field) (name val : ByteArray) : (hsetF l name val).length ≤ 2 * l.length + 1 := by
  have := hsetA_le l name val l.length
  unfold hsetF
  split <;> simp <;> omega
theorem z_r5HSet (l : List Field) (name val : ByteArray) (hl : l.length ≤ 100000000) : Sound Try.prog 29 [.l (.d true 2 (encField l)), .l (.s (.string name)), .l (.s (.string val))] [] (.l (.d false 2 (encField (hsetF l name val)))) [] :=
  (s_r5HSet l name val hl).frz (by simp) (by omega) (encField_sz _) (by have := hsetF_le l name val; omega)
theorem z_r5HDel (l : List Field) (name : ByteArray) (hl : l.length ≤ 1000000000) : Sound Try.prog 30 [.l (.d true 2 (encField l)), .l (.s (.string name))] [] (.l (.d false 2 (encField (hdelF l name)))) [] :=
  (s_r5HDel l name hl).frz (by simp) (by omega) (encField_sz _) (by have : (hdelF l name).length ≤ l.length := List.length_filter_le _ _; omega)
theorem z_r5HNames (l : List Field) (hl : l.length ≤ 1000000000) : Sound Try.prog 32 [.l (.d true 2 (encField l))] [] (.l (.d false 1 (encS (l.map (·.name))))) [] :=
  (s_r5HNames l hl).frz (by simp) (by omega) (encS_sz _) (by omega)
theorem z_r5HVals (l : List Field) (hl : l.length ≤ 1000000000) : Sound Try.prog 34 [.l (.d true 2 (encField l))] [] (.l (.d false 1 (encS (l.map (·.val))))) [] :=
  (s_r5HVals l hl).frz (by simp) (by omega) (encS_sz _) (by omega)
end Go.Proofs.Ytlkhfdccapkcdaa
/- Walks: lists with one more, with one less. -/
namespace Go.Proofs.Ytlkhfdccapkcdaa
open Go Go.RowKit
set_option linter.unusedVariables false
set_option linter.unusedSimpArgs false
def insA {α : Type} (l : List α) (i : Nat) (x : α) : List α := l.take i ++ x :: l.drop i
theorem insA_length {α : Type} (l : List α) (i : Nat) (x : α) (h : i ≤ l.length) : (insA l i x).length = l.length + 1 := by
  simp [insA]
  omega
set_option maxRecDepth 8000 in
set_option maxHeartbeats 8000000 in
theorem s_insField (l : List Field) (i : Nat) (x : Field) (hi : i ≤ l.length) (hl : l.length ≤ 1000000000) : Sound Try.prog 76 [.l (.r 0 2 0 l.length), .l (.s (.int .i64 i)), .l (.r 1 2 0 1)] [⟨105, 2, true, none, lvs (encField l)⟩, ⟨105, 2, true, none, lvs (encField [x])⟩] (.l (.r 0 2 0 (l.length + 1))) [some ⟨105, 2, true, none, lvs (encField (insA l i x))⟩, some ⟨105, 2, true, none, lvs (encField [x])⟩] := by
  refine Sound.of_aw (fn := Try.f76) (c := _) Try.func76 rfl (by simp [Try.f76]) fun cx hG hnb => ?_
  rw [show Try.f76.ntmps = 95 from rfl]
  have hn0 : cx.nb = 2 := hnb
  have hlv : (lvs (encField l)).length = l.length * 2 := by rw [lvs_length (encField_sz l)]; simp
  have hw1 := i64_succ (show l.length + 1 ≤ 9223372036854775807 by omega)
  have hlx : (lvs (encField [x])).length = 2 := by rw [lvs_length (encField_sz _)]; simp
  refine AW.step (by simp [hi, hw1]; rfl) ?_
  refine AW.step (by simp [hi, hw1, hlv]; rfl) ?_
  refine AW.step (by simp [hi, hw1]; rfl) ?_
  refine AW.seq ?_
  refine AW.step (by simp [hi, hw1]; rfl) ?_
  refine AW.cond rfl (fun h3 => ?_) (fun h3 => ?_)
  · simp at h3
  · try simp at h3
    refine AW.skip ?_
    simp only [Post.seq, Post.block, if_true]
    refine AW.step (by simp [hi, hw1]; rfl) ?_
    refine AW.seq ?_
    refine AW.step (by simp [hi, hw1]; rfl) ?_
    refine AW.cond rfl (fun h6 => ?_) (fun h6 => ?_)
    · simp at h6
      have hins : insA l i x = l ++ [x] := by simp [insA, show i = l.length by omega]
      apply AW.step
      · simp [hi, hw1]
        refine xapp_push (acc := encField l) (ys := encField [x]) (cap := none) (k := 1) tb_el31 tb_ti105 (by simp) (src_row (e := 105) (cap := none) (by simp) (encField_sz _) (by simp)) (encField_sz _) (by simp) (by simp) (by omega) ?_
        simp [St.grow, obsBut, ← encField_append, ← hins]
        try simp [hi, hw1]
        rfl
      refine AW.ret ?_
      refine Left.of (av := _) (by simp [Try.f76, resV, resC, comp, hi, hw1]; rfl) ?_
      exact LeftV.rows [some 0, some 1] (by simp; omega) (nd_pair (by omega)) rfl rfl (by simp [pickOb, hi, hw1]) (by simp [hi, hw1])
    · simp at h6
      have hil : i < l.length := by omega
      have hin : (i : Int) + (l.length + 1 - i : Nat) = l.length + 1 := by omega
      have hin2 : i + (l.length + 1 - i) = l.length + 1 := by omega
      have hw2 := i64_succ (show i + 1 ≤ 9223372036854775807 by omega)
      refine AW.skip ?_
      simp only [Post.seq, Post.block, if_true]
      refine AW.seq ?_
      apply AW.stepK
      simp [hi, hw1]
      refine xcap_row tb_el31 rfl rfl fun c hc1 _ hc3 => ?_
      simp [hw1]
      unfold KK
      refine AW.cond rfl (fun h8 => ?_) (fun h8 => ?_)
      · simp at h8
        have hcl : c = l.length := by omega
        obtain ⟨es2, he2⟩ : ∃ es2, es2 = (encField l).take i ++ List.replicate (l.length + 1 - i) [.v (.string ⟨#[]⟩), .v (.string ⟨#[]⟩)] := ⟨_, rfl⟩
        have hs2 : ∀ e ∈ es2, e.length = 2 := by
          intro e he
          rw [he2] at he
          rcases List.mem_append.1 he with h | h
          · exact encField_sz l e (List.mem_of_mem_take h)
          · rw [(List.mem_replicate.1 h).2]; rfl
        have hn2 : es2.length = l.length + 1 := by rw [he2]; simp; omega
        have hv2 : (lvs es2).length = (l.length + 1) * 2 := by rw [lvs_length hs2, hn2]
        obtain ⟨es3, he3⟩ : ∃ es3, es3 = es2.take i ++ encField [x] ++ es2.drop (i + 1) := ⟨_, rfl⟩
        have hs3 : ∀ e ∈ es3, e.length = 2 := by
          intro e he
          rw [he3] at he
          simp only [List.mem_append] at he
          rcases he with (h | h) | h
          · exact hs2 e (List.mem_of_mem_take h)
          · exact encField_sz _ e h
          · exact hs2 e (List.mem_of_mem_drop h)
        have hn3 : es3.length = l.length + 1 := by rw [he3]; simp [hn2]; omega
        have hv3 : (lvs es3).length = (l.length + 1) * 2 := by rw [lvs_length hs3, hn3]
        have hend : es3.take (i + 1) ++ ((encField l).drop i).take (l.length - i) = encField (insA l i x) := by
          rw [List.take_of_length_le (l := (encField l).drop i) (by simp)]
          rw [he3, List.take_append_of_le_length (by simp [hn2]; omega), List.take_of_length_le (by simp; omega), he2, List.take_append_of_le_length (by simp; omega)]
          simp [encField, insA, List.take_take]
        apply AW.step
        · simp [hi, hw1, hlv]
          repeat refine ⟨by omega, ?_⟩
          refine xmake_own (zr := [.v (.string ⟨#[]⟩), .v (.string ⟨#[]⟩)]) (es := encField l) tb_el31 tb_ti105 rfl ⟨rfl, rfl, by omega⟩ rfl rfl (encField_sz _) (by simp; omega) (l.length + 1 - i) (by rw [i64_in (by omega) (by omega)]; omega) (by omega) (by omega) (by omega) (by omega) ?_
          simp [hin2]
          try simp [hi, hw1, hlv]
          rfl
        apply AW.step
        · simp [hi, hw1, hv2, ← he2]
          repeat refine ⟨by omega, ?_⟩
          refine xcopy_own tb_el31 tb_ti105 rfl (by simp [hv2]) (by omega) 1 (by omega) (by omega) (src_at (cap := none) rfl (encField_sz [x]) (by simp)) (setAt_mid (fs := encField [x]) hs2 (encField_sz _) (by simp [hn2]; omega)) ?_
          simp [← he3]
          try simp [hi, hw1, hv2, ← he2]
          rfl
        apply AW.drawnP (V := [_, _, _, _, _, _, _, _]) mixed [⟨[0], [], [(9, none)], false⟩, ⟨[0], [], [(1, none)], false⟩, ⟨[0], [], [(7, none)], false⟩, ⟨[0], [1, 2], [(47, some 1), (48, some 2)], false⟩, ⟨[0], [0, 1, 2, 3], [(46, some 0), (49, some 3)], false⟩, ⟨[0], [], [(0, none)], false⟩, ⟨[0], [], [(1, none)], false⟩, ⟨[0], [5, 6], [(51, some 5), (52, some 6)], false⟩, ⟨[], [0, 1, 2, 3, 4, 5, 6, 7], [], false⟩] 8 (by kernel_rfl) (by kernel_rfl)
        · refine ⟨?_, ?_, ?_, ?_, ?_, ?_, ?_, ?_, trivial⟩
          · intro tm hr
            simp [AllL, rdV] at hr
            simp [hr, hi, hw1, hv3, hw2, hlv]
            repeat refine ⟨by omega, ?_⟩
            exact KD.mk
          · intro tm hr
            simp [AllL, rdV] at hr
            simp [hr, hi, hw1, hv3, hw2, hlv]
            repeat refine ⟨by omega, ?_⟩
            exact KD.mk
          · intro tm hr
            simp [AllL, rdV] at hr
            simp [hr, hi, hw1, hv3, hw2, hlv]
            repeat refine ⟨by omega, ?_⟩
            exact KD.mk
          · intro tm hr
            simp [AllL, rdV] at hr
            simp [hr, hi, hw1, hv3, hw2, hlv]
            repeat refine ⟨by omega, ?_⟩
            exact KD.mk
          · intro tm hr
            simp [AllL, rdV] at hr
            simp [hr, hi, hw1, hv3, hw2, hlv]
            repeat refine ⟨by omega, ?_⟩
            exact KD.mk
          · intro tm hr
            simp [AllL, rdV] at hr
            simp [hr, hi, hw1, hv3, hw2, hlv]
            repeat refine ⟨by omega, ?_⟩
            exact KD.mk
          · intro tm hr
            simp [AllL, rdV] at hr
            simp [hr, hi, hw1, hv3, hw2, hlv]
            repeat refine ⟨by omega, ?_⟩
            exact KD.mk
          · intro tm hr
            simp [AllL, rdV] at hr
            simp [hr, hi, hw1, hv3, hw2, hlv]
            repeat refine ⟨by omega, ?_⟩
            exact KD.mk
        · rfl
        · simp [tmD, putD, hi, hw1, hv3, hw2, hlv]; rfl
        · simp [hi, hw1, hv3, hw2, hlv]
          repeat refine ⟨by omega, ?_⟩
          refine xcopy_own tb_el31 tb_ti105 rfl (by simp [hv3]) (by omega) (l.length - i) (by omega) (by omega) (src_at (cap := some c) rfl (encField_sz l) (by simp; omega)) (setAt_end0 (fs := ((encField l).drop i).take (l.length - i)) hs3 (fun e he => encField_sz l e (List.mem_of_mem_drop (List.mem_of_mem_take he))) (by omega) (by simp [hn3]; omega)) ?_
          try simp [hend]
          try simp [hi, hw1, hv3, hw2, hlv]
          rfl
        refine AW.step (by simp [hi, hw1]; rfl) ?_
        refine AW.ret ?_
        refine Left.of (av := _) (by simp [Try.f76, resV, resC, comp, hi, hw1]; rfl) ?_
        exact LeftV.rows [some 2, some 1] (by simp; omega) (nd_pair (by omega)) rfl rfl (by simp [pickOb, hi, hw1]) (by simp [hi, hw1])
      · have hc' : l.length + 1 ≤ c := by
          simp at h8
          omega
        refine AW.room 0 2 rfl rfl rfl (by simp [hlv]; omega) rfl rfl ?_
        have hlv3 : (lvs (encField l) ++ [LV.u, LV.u]).length = (l.length + 1) * 2 := by simp [hlv]; omega
        refine AW.skip ?_
        simp only [Post.seq, Post.block, if_true]
        refine AW.step (by simp [hi, hw1, hlv3, hlv]; (repeat refine ⟨by omega, ?_⟩); rfl) ?_
        refine AW.seq ?_
        apply AW.step
        · simp [hi, hw1, hlv3, hw2]
          repeat refine ⟨by omega, ?_⟩
          refine xcall_overlaps (t := 31) (tb := 4) Try.func111 (by kernel_rfl) (by kernel_rfl) (by kernel_rfl) (by kernel_rfl) tb_el31 tb_ti105 rfl rfl (by omega) (by simp) ?_
          try simp [hi, hw1, hlv3, hw2]
          rfl
        refine AW.cond rfl (fun h14 => ?_) (fun h14 => ?_)
        · try simp at h14
          apply AW.drawnP (V := [_, _, _, _, _, _, _, _]) mixed [⟨[0], [], [(0, none)], false⟩, ⟨[0], [], [(1, none)], false⟩, ⟨[0], [], [(7, none)], false⟩, ⟨[0], [1, 2], [(70, some 1), (71, some 2)], false⟩, ⟨[0], [0, 1, 2, 3], [(69, some 0), (72, some 3)], false⟩, ⟨[0], [], [(0, none)], false⟩, ⟨[0], [], [(1, none)], false⟩, ⟨[0], [5, 6], [(74, some 5), (75, some 6)], false⟩, ⟨[], [0, 1, 2, 3, 4, 5, 6, 7], [], false⟩] 8 (by kernel_rfl) (by kernel_rfl)
          · refine ⟨?_, ?_, ?_, ?_, ?_, ?_, ?_, ?_, trivial⟩
            · intro tm hr
              simp [AllL, rdV] at hr
              simp [hr, hi, hw1, hlv3, hw2]
              repeat refine ⟨by omega, ?_⟩
              exact KD.mk
            · intro tm hr
              simp [AllL, rdV] at hr
              simp [hr, hi, hw1, hlv3, hw2]
              repeat refine ⟨by omega, ?_⟩
              exact KD.mk
            · intro tm hr
              simp [AllL, rdV] at hr
              simp [hr, hi, hw1, hlv3, hw2]
              repeat refine ⟨by omega, ?_⟩
              exact KD.mk
            · intro tm hr
              simp [AllL, rdV] at hr
              simp [hr, hi, hw1, hlv3, hw2]
              repeat refine ⟨by omega, ?_⟩
              exact KD.mk
            · intro tm hr
              simp [AllL, rdV] at hr
              simp [hr, hi, hw1, hlv3, hw2]
              repeat refine ⟨by omega, ?_⟩
              exact KD.mk
            · intro tm hr
              simp [AllL, rdV] at hr
              simp [hr, hi, hw1, hlv3, hw2]
              repeat refine ⟨by omega, ?_⟩
              exact KD.mk
            · intro tm hr
              simp [AllL, rdV] at hr
              simp [hr, hi, hw1, hlv3, hw2]
              repeat refine ⟨by omega, ?_⟩
              exact KD.mk
            · intro tm hr
              simp [AllL, rdV] at hr
              simp [hr, hi, hw1, hlv3, hw2]
              repeat refine ⟨by omega, ?_⟩
              exact KD.mk
          · rfl
          · simp [tmD, putD, hi, hw1, hlv3, hw2]; rfl
          · simp [hi, hw1, hlv3, hw2]
            repeat refine ⟨by omega, ?_⟩
            refine xcopy_own tb_el31 tb_ti105 rfl (by simp [hlv3]) (by omega) (l.length - i) (by omega) (by omega) (src_atP (cap := some c) (us := [.u, .u]) rfl (encField_sz l) (by simp; omega)) (setAt_end (fs := ((encField l).drop i).take (l.length - i)) (encField_sz l) (fun e he => encField_sz l e (List.mem_of_mem_drop (List.mem_of_mem_take he))) (by simp; omega) (by simp; omega)) ?_
            try simp [hi, hw1, hlv3, hw2]
            rfl
          obtain ⟨es4, he4⟩ : ∃ es4, es4 = (encField l).take (i + 1) ++ ((encField l).drop i).take (l.length - i) := ⟨_, rfl⟩
          have hs4 : ∀ e ∈ es4, e.length = 2 := by
            intro e he
            rw [he4] at he
            rcases List.mem_append.1 he with h | h
            · exact encField_sz l e (List.mem_of_mem_take h)
            · exact encField_sz l e (List.mem_of_mem_drop (List.mem_of_mem_take h))
          have hn4 : es4.length = l.length + 1 := by rw [he4]; simp; omega
          have hend : es4.take i ++ encField [x] ++ es4.drop (i + 1) = encField (insA l i x) := by
            have hA : ((encField l).take (i + 1)).length = i + 1 := by simp; omega
            rw [he4, List.drop_left' hA, List.take_append_of_le_length (by omega), List.take_take, Nat.min_eq_left (by omega), List.take_of_length_le (l := (encField l).drop i) (by simp)]
            simp [encField, insA]
          have hv4 : (lvs es4).length = (l.length + 1) * 2 := by rw [lvs_length hs4, hn4]
          simp only [← he4]
          apply AW.step
          · simp [hi, hw1, hv4]
            repeat refine ⟨by omega, ?_⟩
            refine xcopy_own tb_el31 tb_ti105 rfl (by simp [hv4]) (by omega) 1 (by omega) (by omega) (src_at (cap := none) rfl (encField_sz [x]) (by simp)) (setAt_mid (fs := encField [x]) hs4 (encField_sz _) (by rw [hn4, encField_length]; simp; omega)) ?_
            simp [hend]
            try simp [hi, hw1, hv4]
            rfl
          refine AW.step (by simp [hi, hw1]; rfl) ?_
          refine AW.ret ?_
          refine Left.of (av := _) (by simp [Try.f76, resV, resC, comp, hi, hw1]; rfl) ?_
          refine LeftV.shrink 0 ((l.length + 1) * 2) rfl rfl rfl rfl ?_
          have hlf : (lvs (encField (insA l i x))).take ((l.length + 1) * 2) = lvs (encField (insA l i x)) := List.take_of_length_le (by rw [lvs_length (encField_sz _)]; simp [insA_length l i x hi])
          exact LeftV.rows [some 0, some 1] (by simp; omega) (nd_pair (by omega)) rfl rfl (by simp [pickOb, hlf]) (by simp)
        · simp at h14
theorem en_insField : Enters Try.prog 76 := enters Try.func76 (by kernel_rfl) rfl
def delA {α : Type} (l : List α) (i : Nat) : List α := l.take i ++ l.drop (i + 1)
theorem delA_length {α : Type} (l : List α) (i : Nat) (h : i < l.length) : (delA l i).length = l.length - 1 := by
  simp [delA]
  omega
set_option maxRecDepth 8000 in
set_option maxHeartbeats 8000000 in
theorem s_delField (l : List Field) (i : Nat) (hi : i < l.length) (hl : l.length ≤ 1000000000) : Sound Try.prog 77 [.l (.r 0 2 0 l.length), .l (.s (.int .i64 i)), .l (.s (.int .i64 (((i + 1 : Nat) : Int))))] [⟨105, 2, true, none, lvs (encField l)⟩] (.l (.r 0 2 0 (l.length - 1))) [some ⟨105, 2, true, none, lvs (encField (delA l i))⟩] := by
  refine Sound.of_aw (fn := Try.f77) (c := _) Try.func77 rfl (by simp [Try.f77]) fun cx hG hnb => ?_
  rw [show Try.f77.ntmps = 33 from rfl]
  have hn0 : cx.nb = 1 := hnb
  have hlv : (lvs (encField l)).length = l.length * 2 := by rw [lvs_length (encField_sz l)]; simp
  have hn1 : i + (l.length - (i + 1)) = l.length - 1 := by omega
  obtain ⟨es5, he5⟩ : ∃ es5, es5 = (encField l).take i ++ ((encField l).drop (i + 1)).take (l.length - (i + 1)) ++ (encField l).drop (i + (((encField l).drop (i + 1)).take (l.length - (i + 1))).length) := ⟨_, rfl⟩
  have hF : (((encField l).drop (i + 1)).take (l.length - (i + 1))) = (encField l).drop (i + 1) := List.take_of_length_le (by simp)
  have hs5 : ∀ e ∈ es5, e.length = 2 := by
    intro e he
    rw [he5, hF] at he
    simp only [List.mem_append] at he
    rcases he with (h | h) | h
    · exact encField_sz l e (List.mem_of_mem_take h)
    · exact encField_sz l e (List.mem_of_mem_drop h)
    · exact encField_sz l e (List.mem_of_mem_drop h)
  have hn5 : es5.length = l.length := by
    rw [he5, hF]
    simp
    omega
  have hv5 : (lvs es5).length = l.length * 2 := by rw [lvs_length hs5, hn5]
  have hend : es5.take (l.length - 1) = encField (delA l i) := by
    rw [he5, hF, List.take_left' (by simp; omega)]
    simp [encField, delA]
  have hset : setAt (lvs (encField l)) (i * 2) (lvs (((encField l).drop (i + 1)).take (l.length - (i + 1)))) = lvs es5 := by
    rw [he5]
    exact setAt_mid (encField_sz l) (fun e he => encField_sz l e (List.mem_of_mem_drop (List.mem_of_mem_take he))) (by rw [hF]; simp; omega)
  refine AW.step (by simp [hlv]; rfl) ?_
  refine AW.step (by simp [hlv]; (repeat refine ⟨by omega, ?_⟩); rfl) ?_
  refine AW.seq ?_
  refine AW.step (by simp [hlv]; rfl) ?_
  refine AW.cond rfl (fun h2 => ?_) (fun h2 => ?_)
  · simp at h2
    omega
  · try simp at h2
    refine AW.skip ?_
    simp only [Post.seq, Post.block, if_true]
    refine AW.step (by simp [hlv]; rfl) ?_
    apply AW.drawnP (V := [_, _, _, _, _, _]) mixed [⟨[0], [], [(0, none)], false⟩, ⟨[0], [], [(1, none)], false⟩, ⟨[0], [0, 1], [(20, some 0), (21, some 1)], false⟩, ⟨[0], [], [(0, none)], false⟩, ⟨[0], [], [(2, none)], false⟩, ⟨[0], [3, 4], [(23, some 3), (24, some 4)], false⟩, ⟨[], [0, 1, 2, 3, 4, 5], [], false⟩, ⟨[], [0, 1, 2, 3, 4, 5, 6], [], false⟩] 6 (by kernel_rfl) (by kernel_rfl)
    · refine ⟨?_, ?_, ?_, ?_, ?_, ?_, trivial⟩
      · intro tm hr
        simp [AllL, rdV] at hr
        simp [hr, hlv, hn1]
        repeat refine ⟨by omega, ?_⟩
        exact KD.mk
      · intro tm hr
        simp [AllL, rdV] at hr
        simp [hr, hlv, hn1]
        repeat refine ⟨by omega, ?_⟩
        exact KD.mk
      · intro tm hr
        simp [AllL, rdV] at hr
        simp [hr, hlv, hn1]
        repeat refine ⟨by omega, ?_⟩
        exact KD.mk
      · intro tm hr
        simp [AllL, rdV] at hr
        simp [hr, hlv, hn1]
        repeat refine ⟨by omega, ?_⟩
        exact KD.mk
      · intro tm hr
        simp [AllL, rdV] at hr
        simp [hr, hlv, hn1]
        repeat refine ⟨by omega, ?_⟩
        exact KD.mk
      · intro tm hr
        simp [AllL, rdV] at hr
        simp [hr, hlv, hn1]
        repeat refine ⟨by omega, ?_⟩
        exact KD.mk
    · rfl
    · simp [tmD, putD, hlv, hn1]; rfl
    · simp [hlv, hn1]
      repeat refine ⟨by omega, ?_⟩
      refine xapp_in (z := ⟨105, 2, true, none, lvs (encField l)⟩) (q := (l.length - (i + 1), lvs (((encField l).drop (i + 1)).take (l.length - (i + 1))))) tb_el31 tb_ti105 ⟨rfl, by decide, by decide⟩ (src_all (cap := none) rfl (encField_sz l) (by omega) (by simp)) rfl ⟨rfl, rfl, rfl, rfl⟩ (by simp [hlv]; omega) ?_
      simp [hset]
      try simp [hlv, hn1]
      rfl
    refine AW.step (by simp [hlv, hv5, hset]; (repeat refine ⟨by omega, ?_⟩); rfl) ?_
    refine AW.step (by simp [hlv]; rfl) ?_
    refine AW.ret ?_
    refine Left.of (av := _) (by simp [Try.f77, resV, resC, comp, hlv]; rfl) ?_
    refine LeftV.shrink 0 ((l.length - 1) * 2) rfl rfl rfl rfl ?_
    refine LeftV.rows [some 0] (by simp; omega) nd_one rfl rfl ?_ (by simp)
    simp [pickOb, setAt_take, lvs_takeN hs5, hend]
theorem en_delField : Enters Try.prog 77 := enters Try.func77 (by kernel_rfl) rfl
end Go.Proofs.Ytlkhfdccapkcdaa
/- Walks: fields set and taken away. -/
namespace Go.Proofs.Ytlkhfdccapkcdaa
open Go Go.RowKit
set_option linter.unusedVariables false
set_option linter.unusedSimpArgs false
def setF (l : List Field) (name val : ByteArray) : List Field :=
  if hasField l name = true then l.set (seekField l name) ⟨(l.getD (seekField l name) default).name, val⟩ else insA l (seekField l name) ⟨name, val⟩
theorem setF_le (l : List Field) (name val : ByteArray) : (setF l name val).length ≤ l.length + 1 := by
  unfold setF
  split
  · simp
  · rw [insA_length l _ _ (seekField_le l name)]
    exact Nat.le_refl _
set_option maxRecDepth 8000 in
set_option maxHeartbeats 8000000 in
theorem s_hSet (l : List Field) (name val : ByteArray) (hl : l.length ≤ 100000000) : Sound Try.prog 21 [.l (.d true 2 ((encField l))), .l (.s (.string name)), .l (.s (.string val))] [] (.l (.r 0 2 0 (setF l name val).length)) [some ⟨105, 2, true, none, lvs (encField (setF l name val))⟩] := by
  refine Sound.of_aw (fn := Try.f21) (c := _) Try.func21 rfl (by simp [Try.f21]) fun cx hG hnb => ?_
  rw [show Try.f21.ntmps = 33 from rfl]
  have hn0 : cx.nb = 0 := hnb
  have hle := seekField_le l name
  refine AW.step (by simp; rfl) ?_
  apply AW.step
  · simp
    refine xcall_plain en_hFind (s_hFind _ _) rfl ⟨.d _ _ _, .same rfl, trivial⟩ ?_
    try simp
    rfl
  apply AW.step
  · simp
    refine xcall_new en_cloneField (s_cloneField _ (by omega)) rfl (by simp) ⟨.d _ _ _, trivial⟩ ?_
    try simp
    rfl
  refine AW.seq ?_
  refine AW.step (by simp; rfl) ?_
  refine AW.cond rfl (fun h3 => ?_) (fun h3 => ?_)
  · simp at h3
    have hf : setF l name val = insA l (seekField l name) ⟨name, val⟩ := if_neg (by simp [h3])
    have hfl := insA_length l (seekField l name) (⟨name, val⟩ : Field) hle
    apply AW.step
    · simp
      repeat refine ⟨by omega, ?_⟩
      refine xcall_rows [0, 1] en_insField (s_insField l (seekField l name) ⟨name, val⟩ hle (by omega)) (by simp) (by simp [pickOb, lvs_encField1]) rfl rfl rfl (by simp) (by simp) ⟨.l (.own (by simp)), .l (.s _), .l (.own (by simp)), trivial⟩ ?_
      try simp
      rfl
    refine AW.ret ?_
    refine Left.of (av := _) (by simp [Try.f21, resV, resC, comp]; rfl) ?_
    exact LeftV.nowN 1 hn0 (by simp [hf]) (by simp [hf, hfl]) rfl
  · simp at h3
    obtain ⟨x, hx⟩ := hasField_at l name h3
    have hlt : seekField l name < l.length := (List.getElem?_eq_some_iff.1 hx).1
    have hlv : (lvs (encField l)).length = l.length * 2 := by rw [lvs_length (encField_sz l)]; simp
    have hf : setF l name val = l.set (seekField l name) ⟨x.name, val⟩ := by rw [setF, if_pos h3]; simp [hx]
    have hset : setAt (lvs (encField l)) (seekField l name * 2 + 1) [.s (.string val)] = lvs (encField (setF l name val)) := by
      rw [setAt_lvs (e := [.v (.string x.name), .v (.string x.val)]) (e' := [.v (.string x.name), .v (.string val)]) (seekField l name) (encField_sz l) (by simp [hx]) rfl (by simp), hf]
      simp [encField, List.map_set]
    rw [setAt_cons, setAt_nil] at hset
    refine AW.skip ?_
    simp only [Post.seq, Post.block, if_true]
    refine AW.step (by simp [hlv, hset, hlt]; (repeat refine ⟨by omega, ?_⟩); rfl) ?_
    refine AW.step (by simp; rfl) ?_
    refine AW.ret ?_
    refine Left.of (av := _) (by simp [Try.f21, resV, resC, comp]; rfl) ?_
    exact LeftV.nowN 1 hn0 (by simp) (by simp [hf]) rfl
theorem en_hSet : Enters Try.prog 21 := enters Try.func21 (by kernel_rfl) rfl
def delF (l : List Field) (name : ByteArray) : List Field := if hasField l name = true then delA l (seekField l name) else l
theorem delF_le (l : List Field) (name : ByteArray) : (delF l name).length ≤ l.length := by
  unfold delF
  split
  · simp [delA]
    omega
  · exact Nat.le_refl _
set_option maxRecDepth 8000 in
set_option maxHeartbeats 8000000 in
theorem s_hDel (l : List Field) (name : ByteArray) (hl : l.length ≤ 100000000) : Sound Try.prog 24 [.l (.d true 2 ((encField l))), .l (.s (.string name))] [] (.l (.r 0 2 0 (delF l name).length)) [some ⟨105, 2, true, none, lvs (encField (delF l name))⟩] := by
  refine Sound.of_aw (fn := Try.f24) (c := _) Try.func24 rfl (by simp [Try.f24]) fun cx hG hnb => ?_
  rw [show Try.f24.ntmps = 24 from rfl]
  have hn0 : cx.nb = 0 := hnb
  refine AW.step (by simp; rfl) ?_
  apply AW.step
  · simp
    refine xcall_plain en_hFind (s_hFind _ _) rfl ⟨.d _ _ _, .same rfl, trivial⟩ ?_
    try simp
    rfl
  apply AW.step
  · simp
    refine xcall_new en_cloneField (s_cloneField _ (by omega)) rfl (by simp) ⟨.d _ _ _, trivial⟩ ?_
    try simp
    rfl
  refine AW.seq ?_
  refine AW.step (by simp; rfl) ?_
  refine AW.cond rfl (fun h3 => ?_) (fun h3 => ?_)
  · simp at h3
    have hf : delF l name = l := if_neg (by simp [h3])
    refine AW.step (by simp; rfl) ?_
    refine AW.ret ?_
    refine Left.of (av := _) (by simp [Try.f24, resV, resC, comp]; rfl) ?_
    exact LeftV.nowN 1 hn0 (by simp [hf]) (by simp [hf]) rfl
  · simp at h3
    obtain ⟨x, hx⟩ := hasField_at l name h3
    have hlt : seekField l name < l.length := (List.getElem?_eq_some_iff.1 hx).1
    have hf : delF l name = delA l (seekField l name) := if_pos h3
    have hfl := delA_length l (seekField l name) hlt
    have hw := i64_succ (show seekField l name + 1 ≤ 9223372036854775807 by omega)
    refine AW.skip ?_
    simp only [Post.seq, Post.block, if_true]
    apply AW.step
    · simp [hw]
      repeat refine ⟨by omega, ?_⟩
      refine xcall_rows [0] en_delField (s_delField l (seekField l name) hlt (by omega)) (by simp) (by simp [pickOb]) rfl rfl rfl (by simp) (by simp) ⟨.l (.own (by simp)), .l (.s _), .l (.s _), trivial⟩ ?_
      try simp [hw]
      rfl
    refine AW.ret ?_
    refine Left.of (av := _) (by simp [Try.f24, resV, resC, comp, hw]; rfl) ?_
    exact LeftV.nowN 1 hn0 (by simp [hf]) (by simp [hf, hfl]) rfl
theorem en_hDel : Enters Try.prog 24 := enters Try.func24 (by kernel_rfl) rfl
theorem z_hSet (l : List Field) (name val : ByteArray) (hl : l.length ≤ 100000000) : Sound Try.prog 21 [.l (.d true 2 (encField l)), .l (.s (.string name)), .l (.s (.string val))] [] (.l (.d false 2 (encField (setF l name val)))) [] :=
  (s_hSet l name val hl).frz (by simp) (by omega) (encField_sz _) (by have := setF_le l name val; omega)
theorem z_hDel (l : List Field) (name : ByteArray) (hl : l.length ≤ 100000000) : Sound Try.prog 24 [.l (.d true 2 (encField l)), .l (.s (.string name))] [] (.l (.d false 2 (encField (delF l name)))) [] :=
  (s_hDel l name hl).frz (by simp) (by omega) (encField_sz _) (by have := delF_le l name; omega)
end Go.Proofs.Ytlkhfdccapkcdaa
/- Walks: names and values of fields. -/
namespace Go.Proofs.Ytlkhfdccapkcdaa
open Go Go.RowKit
set_option linter.unusedVariables false
set_option linter.unusedSimpArgs false
set_option maxRecDepth 8000 in
set_option maxHeartbeats 8000000 in
theorem s_hNames1 (x : Field) : Sound Try.prog 80 [.g [.s (.string x.name), .s (.string x.val)]] [] (.l (.s (.string x.name))) [] := by
  refine Sound.of_aw (fn := Try.f80) (c := _) Try.func80 rfl (by simp [Try.f80]) fun cx hG hnb => ?_
  rw [show Try.f80.ntmps = 5 from rfl]
  have hn0 : cx.nb = 0 := hnb
  refine AW.step (by simp; rfl) ?_
  refine AW.step (by simp; rfl) ?_
  refine AW.ret ?_
  refine Left.plain hnb (by simp [Try.f80, resV, resC, comp]; rfl) rfl rfl ?_
  simp
theorem en_hNames1 : Enters Try.prog 80 := enters Try.func80 (by kernel_rfl) rfl
set_option maxRecDepth 8000 in
set_option maxHeartbeats 8000000 in
theorem s_hVals1 (x : Field) : Sound Try.prog 81 [.g [.s (.string x.name), .s (.string x.val)]] [] (.l (.s (.string x.val))) [] := by
  refine Sound.of_aw (fn := Try.f81) (c := _) Try.func81 rfl (by simp [Try.f81]) fun cx hG hnb => ?_
  rw [show Try.f81.ntmps = 5 from rfl]
  have hn0 : cx.nb = 0 := hnb
  refine AW.step (by simp; rfl) ?_
  refine AW.step (by simp; rfl) ?_
  refine AW.ret ?_
  refine Left.plain hnb (by simp [Try.f81, resV, resC, comp]; rfl) rfl rfl ?_
  simp
theorem en_hVals1 : Enters Try.prog 81 := enters Try.func81 (by kernel_rfl) rfl
set_option maxRecDepth 8000 in
set_option maxHeartbeats 8000000 in
theorem s_aNamesC (l : List Field) (hl : l.length ≤ 1000000000) : Sound Try.prog 113 [.l (.s (.slice none 0 0)), .l (.f 114 [0, 1])] [⟨31, 1, false, none, [.d false 2 (encField l)]⟩, ⟨116, 1, false, none, [.s (.func (.func 80) #[] #[])]⟩] (.l (.r 2 1 0 l.length)) [some ⟨31, 1, false, none, [.d false 2 (encField l)]⟩, some ⟨116, 1, false, none, [.s (.func (.func 80) #[] #[])]⟩, some ⟨9, 1, true, none, lvs (encS (l.map (·.name)))⟩] := by
  refine Sound.of_aw (fn := Try.f113) (c := _) Try.func113 rfl (by simp [Try.f113]) fun cx hG hnb => ?_
  rw [show Try.f113.ntmps = 13 from rfl]
  have hn0 : cx.nb = 2 := hnb
  have hl' : l.length ≤ 140737488355328 := by omega
  refine AW.step (by simp [hl']; rfl) ?_
  refine AW.seq ?_
  refine AW.nilCell 2 0 9 1 3 rfl rfl rfl rfl rfl ?_
  refine AW.step (by simp [hl']; rfl) ?_
  refine AW.block ?_
  refine AW.rangeG rfl Try.func114 (by kernel_rfl) rfl (by decide) rfl rfl fun cxI yl hnI hY => ?_
  have hnI0 : cxI.nb = 2 := hnI.trans hn0
  simp only [initTm, List.map_cons, List.map_nil]
  refine AW.step (by simp [hl']; rfl) ?_
  refine AW.block ?_
  refine AW.loopG (α := Nat) [5, 8, 9, 10, 11, 12, 13, 14, 15, 16, 17, 18] [5, 8, 9, 10, 11] (fun i => [(8, .l (.s (.int .i64 i)))]) (fun _ => []) (fun i => [some ⟨31, 1, false, none, [.d false 2 (encField l)]⟩, some ⟨116, 1, false, none, [.s (.func (.func 80) #[] #[])]⟩, some ⟨32, 1, false, none, [.r 3 1 0 i]⟩, some ⟨9, 1, true, none, lvs (encS ((l.map (·.name)).take i))⟩]) (fun i => i ≤ l.length) (fun i => l.length - i) 0 (by simp; rfl) (by simp; rfl) (by simp) (by simp) (by simp [lvs]) (Nat.zero_le _) ?_
  intro i g1
  refine AW.step (by simp [hl']; rfl) ?_
  refine AW.seq ?_
  refine AW.cond rfl (fun hi1 => ?_) (fun hi1 => ?_)
  · simp at hi1
    obtain ⟨x, hx⟩ := get_some hi1
    have hm : (l.map (·.name))[i]? = some x.name := by simp [hx]
    refine AW.skip ?_
    simp only [Post.seq, Post.block, if_true]
    refine AW.seq ?_
    refine AW.block ?_
    refine AW.step (by simp [hl', hx]; rfl) ?_
    apply AW.yieldG hY 4 rfl rfl rfl
    · simp [hl']
      refine xcall_plain en_hNames1 (s_hNames1 x) rfl ⟨.same rfl, trivial⟩ ?_
      try simp [hl']
      rfl
    · rfl
    · trivial
    · rfl
    · rfl
    · simp [puts]; rfl
    intro cxR hnR
    have hnR0 : cxR.nb = 2 := hnR.trans hnI0
    refine AW.last (by simp [hl']; rfl) ?_
    refine ⟨rfl, ?_⟩
    refine AW.block ?_
    apply AW.last
    · simp [hl']
      refine xapp_push (acc := encS ((l.map (·.name)).take i)) (ys := encS [x.name]) (cap := none) (k := 1) tb_el32 tb_ti9 (by simp) (by simp [encS, lvs]) (encS_sz _) (by simp <;> omega) (by simp) (by omega) ?_
      simp [St.grow, obsBut, ← encS_append, take_snoc hm]
      try simp [hl']
      rfl
    refine ⟨_, _, rfl, ?_⟩
    simp [hl']
    unfold KK
    refine AW.cond rfl (fun hi3 => ?_) (fun hi3 => ?_)
    · simp at hi3
    · try simp at hi3
      refine AW.skip ?_
      simp only [Post.seq, Post.block, if_true]
      refine AW.last (by simp [hl']; rfl) ?_
      simp only [Post.seq, Post.block, if_true]
      refine ⟨i + 1, Weak.cutG 4 (by omega) (by simp [i64_succ (show i + 1 ≤ 9223372036854775807 by omega)]) (by simp) (by simp) rfl, by omega, by omega⟩
  · have hi : i = l.length := by
      simp at hi1
      omega
    subst hi
    have htk : (l.map (·.name)).take l.length = l.map (·.name) := List.take_of_length_le (by simp)
    refine AW.exit ?_
    refine ⟨_, _, rfl, ?_⟩
    simp only [Post.seq, Post.block, if_true]
    refine AW.step (by simp [hl']; rfl) ?_
    refine AW.ret ?_
    refine Left.of (av := _) (by simp [Try.f113, resV, resC, comp, hl']; rfl) ?_
    exact LeftV.mix 2 [some 0, some 1, some 3] hn0 rfl (by decide) rfl (by simp [pickOb, htk]) (by simp)
theorem en_appSeqStr : Enters Try.prog 113 := enters Try.func113 (by kernel_rfl) rfl
set_option maxRecDepth 8000 in
set_option maxHeartbeats 8000000 in
theorem s_aValsC (l : List Field) (hl : l.length ≤ 1000000000) : Sound Try.prog 113 [.l (.s (.slice none 0 0)), .l (.f 114 [0, 1])] [⟨31, 1, false, none, [.d false 2 (encField l)]⟩, ⟨116, 1, false, none, [.s (.func (.func 81) #[] #[])]⟩] (.l (.r 2 1 0 l.length)) [some ⟨31, 1, false, none, [.d false 2 (encField l)]⟩, some ⟨116, 1, false, none, [.s (.func (.func 81) #[] #[])]⟩, some ⟨9, 1, true, none, lvs (encS (l.map (·.val)))⟩] := by
  refine Sound.of_aw (fn := Try.f113) (c := _) Try.func113 rfl (by simp [Try.f113]) fun cx hG hnb => ?_
  rw [show Try.f113.ntmps = 13 from rfl]
  have hn0 : cx.nb = 2 := hnb
  have hl' : l.length ≤ 140737488355328 := by omega
  refine AW.step (by simp [hl']; rfl) ?_
  refine AW.seq ?_
  refine AW.nilCell 2 0 9 1 3 rfl rfl rfl rfl rfl ?_
  refine AW.step (by simp [hl']; rfl) ?_
  refine AW.block ?_
  refine AW.rangeG rfl Try.func114 (by kernel_rfl) rfl (by decide) rfl rfl fun cxI yl hnI hY => ?_
  have hnI0 : cxI.nb = 2 := hnI.trans hn0
  simp only [initTm, List.map_cons, List.map_nil]
  refine AW.step (by simp [hl']; rfl) ?_
  refine AW.block ?_
  refine AW.loopG (α := Nat) [5, 8, 9, 10, 11, 12, 13, 14, 15, 16, 17, 18] [5, 8, 9, 10, 11] (fun i => [(8, .l (.s (.int .i64 i)))]) (fun _ => []) (fun i => [some ⟨31, 1, false, none, [.d false 2 (encField l)]⟩, some ⟨116, 1, false, none, [.s (.func (.func 81) #[] #[])]⟩, some ⟨32, 1, false, none, [.r 3 1 0 i]⟩, some ⟨9, 1, true, none, lvs (encS ((l.map (·.val)).take i))⟩]) (fun i => i ≤ l.length) (fun i => l.length - i) 0 (by simp; rfl) (by simp; rfl) (by simp) (by simp) (by simp [lvs]) (Nat.zero_le _) ?_
  intro i g1
  refine AW.step (by simp [hl']; rfl) ?_
  refine AW.seq ?_
  refine AW.cond rfl (fun hi1 => ?_) (fun hi1 => ?_)
  · simp at hi1
    obtain ⟨x, hx⟩ := get_some hi1
    have hm : (l.map (·.val))[i]? = some x.val := by simp [hx]
    refine AW.skip ?_
    simp only [Post.seq, Post.block, if_true]
    refine AW.seq ?_
    refine AW.block ?_
    refine AW.step (by simp [hl', hx]; rfl) ?_
    apply AW.yieldG hY 4 rfl rfl rfl
    · simp [hl']
      refine xcall_plain en_hVals1 (s_hVals1 x) rfl ⟨.same rfl, trivial⟩ ?_
      try simp [hl']
      rfl
    · rfl
    · trivial
    · rfl
    · rfl
    · simp [puts]; rfl
    intro cxR hnR
    have hnR0 : cxR.nb = 2 := hnR.trans hnI0
    refine AW.last (by simp [hl']; rfl) ?_
    refine ⟨rfl, ?_⟩
    refine AW.block ?_
    apply AW.last
    · simp [hl']
      refine xapp_push (acc := encS ((l.map (·.val)).take i)) (ys := encS [x.val]) (cap := none) (k := 1) tb_el32 tb_ti9 (by simp) (by simp [encS, lvs]) (encS_sz _) (by simp <;> omega) (by simp) (by omega) ?_
      simp [St.grow, obsBut, ← encS_append, take_snoc hm]
      try simp [hl']
      rfl
    refine ⟨_, _, rfl, ?_⟩
    simp [hl']
    unfold KK
    refine AW.cond rfl (fun hi3 => ?_) (fun hi3 => ?_)
    · simp at hi3
    · try simp at hi3
      refine AW.skip ?_
      simp only [Post.seq, Post.block, if_true]
      refine AW.last (by simp [hl']; rfl) ?_
      simp only [Post.seq, Post.block, if_true]
      refine ⟨i + 1, Weak.cutG 4 (by omega) (by simp [i64_succ (show i + 1 ≤ 9223372036854775807 by omega)]) (by simp) (by simp) rfl, by omega, by omega⟩
  · have hi : i = l.length := by
      simp at hi1
      omega
    subst hi
    have htk : (l.map (·.val)).take l.length = l.map (·.val) := List.take_of_length_le (by simp)
    refine AW.exit ?_
    refine ⟨_, _, rfl, ?_⟩
    simp only [Post.seq, Post.block, if_true]
    refine AW.step (by simp [hl']; rfl) ?_
    refine AW.ret ?_
    refine Left.of (av := _) (by simp [Try.f113, resV, resC, comp, hl']; rfl) ?_
    exact LeftV.mix 2 [some 0, some 1, some 3] hn0 rfl (by decide) rfl (by simp [pickOb, htk]) (by simp)
set_option maxRecDepth 8000 in
set_option maxHeartbeats 8000000 in
theorem s_hEach (l : List Field) (f : Nat) : Sound Try.prog 79 [.l (.d false 2 ((encField l))), .l (.s (.func (.func f) #[] #[]))] [] (.l (.f 114 [0, 1])) [some ⟨31, 1, false, none, [.d false 2 (encField l)]⟩, some ⟨116, 1, false, none, [.s (.func (.func f) #[] #[])]⟩] := by
  refine Sound.of_aw (fn := Try.f79) (c := _) Try.func79 rfl (by simp [Try.f79]) fun cx hG hnb => ?_
  rw [show Try.f79.ntmps = 6 from rfl]
  have hn0 : cx.nb = 0 := hnb
  refine AW.step (by simp; rfl) ?_
  refine AW.step (by simp; rfl) ?_
  refine AW.ret ?_
  refine Left.of (av := _) (by simp [Try.f79, resV, resC, comp]; rfl) ?_
  exact LeftV.nowN 2 hn0 (by simp) (by simp) rfl
theorem en_hEach : Enters Try.prog 79 := enters Try.func79 (by kernel_rfl) rfl
set_option maxRecDepth 8000 in
set_option maxHeartbeats 8000000 in
theorem s_cNamesC (l : List Field) (hl : l.length ≤ 1000000000) : Sound Try.prog 78 [.l (.f 114 [0, 1])] [⟨31, 1, false, none, [.d false 2 (encField l)]⟩, ⟨116, 1, false, none, [.s (.func (.func 80) #[] #[])]⟩] (.l (.r 2 1 0 l.length)) [some ⟨31, 1, false, none, [.d false 2 (encField l)]⟩, some ⟨116, 1, false, none, [.s (.func (.func 80) #[] #[])]⟩, some ⟨9, 1, true, none, lvs (encS (l.map (·.name)))⟩] := by
  refine Sound.of_aw (fn := Try.f78) (c := _) Try.func78 rfl (by simp [Try.f78]) fun cx hG hnb => ?_
  rw [show Try.f78.ntmps = 5 from rfl]
  have hn0 : cx.nb = 2 := hnb
  refine AW.step (by simp; rfl) ?_
  apply AW.step
  · simp
    refine xcall_obs [0, 1] en_appSeqStr (s_aNamesC l hl) (by simp) (by simp [pickOb]) rfl rfl (by simp) ⟨.l (.s _), .l (.fn (by simp)), trivial⟩ ?_
    try simp
    rfl
  refine AW.ret ?_
  refine Left.of (av := _) (by simp [Try.f78, resV, resC, comp]; rfl) ?_
  exact LeftV.mix 2 [some 0, some 1, some 2] hn0 rfl (by decide) rfl (by simp [pickOb]) (by simp)
theorem en_collectStr : Enters Try.prog 78 := enters Try.func78 (by kernel_rfl) rfl
set_option maxRecDepth 8000 in
set_option maxHeartbeats 8000000 in
theorem s_hNames (l : List Field) (hl : l.length ≤ 1000000000) : Sound Try.prog 27 [.l (.d false 2 ((encField l)))] [] (.l (.r 0 1 0 l.length)) [some ⟨9, 1, true, none, lvs (encS (l.map (·.name)))⟩] := by
  refine Sound.of_aw (fn := Try.f27) (c := _) Try.func27 rfl (by simp [Try.f27]) fun cx hG hnb => ?_
  rw [show Try.f27.ntmps = 6 from rfl]
  have hn0 : cx.nb = 0 := hnb
  refine AW.step (by simp; rfl) ?_
  apply AW.step
  · simp
    refine xcall_new en_hEach (s_hEach l 80) rfl rfl ⟨.same rfl, .same rfl, trivial⟩ ?_
    try simp
    refine xcall_obs [0, 1] en_collectStr (s_cNamesC l hl) (by simp) (by simp [pickOb]) rfl rfl (by simp) ⟨.l (.fn (by simp)), trivial⟩ ?_
    try simp
    rfl
  refine AW.ret ?_
  refine Left.of (av := _) (by simp [Try.f27, resV, resC, comp]; rfl) ?_
  exact LeftV.mix 0 [some 2] hn0 rfl (by decide) rfl (by simp [pickOb]) (by simp)
theorem en_hNames : Enters Try.prog 27 := enters Try.func27 (by kernel_rfl) rfl
theorem z_hNames (l : List Field) (hl : l.length ≤ 1000000000) : Sound Try.prog 27 [.l (.d false 2 (encField l))] [] (.l (.d false 1 (encS (l.map (·.name))))) [] :=
  (s_hNames l hl).frz (by simp) (by omega) (encS_sz _) (by omega)
set_option maxRecDepth 8000 in
set_option maxHeartbeats 8000000 in
theorem s_cValsC (l : List Field) (hl : l.length ≤ 1000000000) : Sound Try.prog 78 [.l (.f 114 [0, 1])] [⟨31, 1, false, none, [.d false 2 (encField l)]⟩, ⟨116, 1, false, none, [.s (.func (.func 81) #[] #[])]⟩] (.l (.r 2 1 0 l.length)) [some ⟨31, 1, false, none, [.d false 2 (encField l)]⟩, some ⟨116, 1, false, none, [.s (.func (.func 81) #[] #[])]⟩, some ⟨9, 1, true, none, lvs (encS (l.map (·.val)))⟩] := by
  refine Sound.of_aw (fn := Try.f78) (c := _) Try.func78 rfl (by simp [Try.f78]) fun cx hG hnb => ?_
  rw [show Try.f78.ntmps = 5 from rfl]
  have hn0 : cx.nb = 2 := hnb
  refine AW.step (by simp; rfl) ?_
  apply AW.step
  · simp
    refine xcall_obs [0, 1] en_appSeqStr (s_aValsC l hl) (by simp) (by simp [pickOb]) rfl rfl (by simp) ⟨.l (.s _), .l (.fn (by simp)), trivial⟩ ?_
    try simp
    rfl
  refine AW.ret ?_
  refine Left.of (av := _) (by simp [Try.f78, resV, resC, comp]; rfl) ?_
  exact LeftV.mix 2 [some 0, some 1, some 2] hn0 rfl (by decide) rfl (by simp [pickOb]) (by simp)
set_option maxRecDepth 8000 in
set_option maxHeartbeats 8000000 in
theorem s_hVals (l : List Field) (hl : l.length ≤ 1000000000) : Sound Try.prog 33 [.l (.d false 2 ((encField l)))] [] (.l (.r 0 1 0 l.length)) [some ⟨9, 1, true, none, lvs (encS (l.map (·.val)))⟩] := by
  refine Sound.of_aw (fn := Try.f33) (c := _) Try.func33 rfl (by simp [Try.f33]) fun cx hG hnb => ?_
  rw [show Try.f33.ntmps = 6 from rfl]
  have hn0 : cx.nb = 0 := hnb
  refine AW.step (by simp; rfl) ?_
  apply AW.step
  · simp
    refine xcall_new en_hEach (s_hEach l 81) rfl rfl ⟨.same rfl, .same rfl, trivial⟩ ?_
    try simp
    refine xcall_obs [0, 1] en_collectStr (s_cValsC l hl) (by simp) (by simp [pickOb]) rfl rfl (by simp) ⟨.l (.fn (by simp)), trivial⟩ ?_
    try simp
    rfl
  refine AW.ret ?_
  refine Left.of (av := _) (by simp [Try.f33, resV, resC, comp]; rfl) ?_
  exact LeftV.mix 0 [some 2] hn0 rfl (by decide) rfl (by simp [pickOb]) (by simp)
theorem en_hVals : Enters Try.prog 33 := enters Try.func33 (by kernel_rfl) rfl
theorem z_hVals (l : List Field) (hl : l.length ≤ 1000000000) : Sound Try.prog 33 [.l (.d false 2 (encField l))] [] (.l (.d false 1 (encS (l.map (·.val))))) [] :=
  (s_hVals l hl).frz (by simp) (by omega) (encS_sz _) (by omega)
end Go.Proofs.Ytlkhfdccapkcdaa
/- Walks: rising fields; HashAll. -/
namespace Go.Proofs.Ytlkhfdccapkcdaa
open Go Go.RowKit
set_option linter.unusedVariables false
set_option linter.unusedSimpArgs false
def okF (l : List Field) (i : Nat) : Bool :=
  match l[i]?, l[i - 1]? with
  | some x, some y => !(decide ((100 : Int) < i) || decide ((300 : Int) < x.name.size) || decide ((300 : Int) < x.val.size) || (decide (0 < i) && !slt y.name x.name))
  | _, _ => false
def risingF (l : List Field) : Bool := (List.range l.length).all (okF l)
theorem all_range_no {p : Nat → Bool} {n i : Nat} (h : i < n) (hp : p i = false) : (List.range n).all p = false := by
  rw [List.all_eq_false]
  exact ⟨i, List.mem_range.2 h, by simp [hp]⟩
theorem all_range_succ {p : Nat → Bool} {i : Nat} (h : (List.range i).all p = true) (hp : p i = true) : (List.range (i + 1)).all p = true := by
  rw [List.range_succ, List.all_append, h]
  simp [hp]
set_option maxRecDepth 8000 in
set_option maxHeartbeats 8000000 in
theorem s_l7rising (l : List Field) : Sound Try.prog 26 [.l (.d true 2 ((encField l)))] [] (.l (.s (.bool ((risingF l))))) [] := by
  refine Sound.of_aw (fn := Try.f26) (c := _) Try.func26 rfl (by simp [Try.f26]) fun cx hG hnb => ?_
  rw [show Try.f26.ntmps = 48 from rfl]
  have hn0 : cx.nb = 0 := hnb
  refine AW.len_d 0 rfl fun hl => ?_
  simp only [encField_length] at hl
  refine AW.step (by simp [hl]; rfl) ?_
  refine AW.seq ?_
  refine AW.step (by simp [hl]; rfl) ?_
  refine AW.block ?_
  refine AW.loopF (α := Nat) [2, 3, 4, 5, 6, 7, 8, 9, 10, 11, 12, 13, 14, 15, 16, 17, 18, 19, 20, 21, 22, 23, 24, 25, 26, 27, 28, 29, 30, 31, 32, 33, 34, 35, 36, 37, 38, 39, 40, 41, 42, 43, 44, 45, 46, 47] (fun i => [(3, .l (.s (.int .i64 i)))]) (fun _ => []) (fun i => i ≤ l.length ∧ (List.range i).all (okF l) = true) (fun i => l.length - i) 0 (by simp; rfl) (by simp) rfl ⟨Nat.zero_le _, rfl⟩ ?_
  rintro i ⟨g1, g2⟩
  refine AW.seq ?_
  refine AW.step (by simp [hl]; rfl) ?_
  refine AW.cond rfl (fun h2 => ?_) (fun h2 => ?_)
  · simp at h2
    obtain ⟨x, hx⟩ := get_some h2
    obtain ⟨y, hy⟩ := get_some (show i - 1 < l.length by omega)
    have hok : okF l i = !(decide ((100 : Int) < i) || decide ((300 : Int) < x.name.size) || decide ((300 : Int) < x.val.size) || (decide (0 < i) && !slt y.name x.name)) := by simp only [okF, hx, hy]
    have hw : 0 < i → IntKind.i64.wrap ((i : Int) - 1) = ((i - 1 : Nat) : Int) := fun h => by
      rw [i64_in (by omega) (by omega)]
      omega
    refine AW.skip ?_
    simp only [Post.seq, Post.block, if_true]
    refine AW.seq ?_
    refine AW.block ?_
    refine AW.joinR [10, 11, 12, 13, 14, 15, 16, 17, 18, 19, 20, 21, 22, 23, 24, 25, 26, 27, 28, 29, 30, 31, 32, 33, 34, 35, 36, 37, 38, 39, 40, 41, 42, 43, 44, 45, 46, 47] [(47, .l (.s (.bool (!okF l i))))] (by simp; rfl) ?_ ?_
    · by_cases k41 : (100 : Int) < (i : Int)
      · apply AW.drawnR (V := [_, _, _, _, _, _, _, _, _, _, _, _, _, _, _, _, _, _, _, _, _, _, _, _, _, _, _, _, _, _, _, _, _, _, _]) mixed [⟨[0], [], [(3, none)], false⟩, ⟨[0], [0], [(10, some 0)], false⟩, ⟨[0], [0, 1], [(11, some 1)], false⟩, ⟨[0], [0, 1, 2], [(0, none), (12, some 2)], false⟩, ⟨[0], [0, 1, 2], [(3, none), (12, some 2)], false⟩, ⟨[0], [0, 1, 2, 3, 4], [(12, some 2), (13, some 3), (14, some 4)], false⟩, ⟨[0], [0, 1, 2, 3, 4, 5], [(12, some 2), (15, some 5)], false⟩, ⟨[0], [0, 1, 2, 3, 4, 5, 6], [(12, some 2), (16, some 6)], false⟩, ⟨[0], [0, 1, 2, 3, 4, 5, 6, 7], [(12, some 2), (17, some 7)], false⟩, ⟨[0], [0, 1, 2, 3, 4, 5, 6, 7, 8], [(12, some 2), (18, some 8)], false⟩, ⟨[0], [0, 1, 2, 3, 4, 5, 6, 7, 8, 9], [(12, some 2), (19, some 9)], false⟩, ⟨[0], [0, 1, 2, 3, 4, 5, 6, 7, 8, 9, 10], [(20, some 10)], false⟩, ⟨[0], [0, 1, 2, 3, 4, 5, 6, 7, 8, 9, 10, 11], [(0, none), (21, some 11)], false⟩, ⟨[0], [0, 1, 2, 3, 4, 5, 6, 7, 8, 9, 10, 11], [(3, none), (21, some 11)], false⟩, ⟨[0], [0, 1, 2, 3, 4, 5, 6, 7, 8, 9, 10, 11, 12, 13], [(21, some 11), (22, some 12), (23, some 13)], false⟩, ⟨[0], [0, 1, 2, 3, 4, 5, 6, 7, 8, 9, 10, 11, 12, 13, 14], [(21, some 11), (24, some 14)], false⟩, ⟨[0], [0, 1, 2, 3, 4, 5, 6, 7, 8, 9, 10, 11, 12, 13, 14, 15], [(21, some 11), (25, some 15)], false⟩, ⟨[0], [0, 1, 2, 3, 4, 5, 6, 7, 8, 9, 10, 11, 12, 13, 14, 15, 16], [(21, some 11), (26, some 16)], false⟩, ⟨[0], [0, 1, 2, 3, 4, 5, 6, 7, 8, 9, 10, 11, 12, 13, 14, 15, 16, 17], [(21, some 11), (27, some 17)], false⟩, ⟨[0], [0, 1, 2, 3, 4, 5, 6, 7, 8, 9, 10, 11, 12, 13, 14, 15, 16, 17, 18], [(21, some 11), (28, some 18)], false⟩, ⟨[0], [0, 1, 2, 3, 4, 5, 6, 7, 8, 9, 10, 11, 12, 13, 14, 15, 16, 17, 18, 19], [(29, some 19)], false⟩, ⟨[0], [0, 1, 2, 3, 4, 5, 6, 7, 8, 9, 10, 11, 12, 13, 14, 15, 16, 17, 18, 19, 20], [(3, none), (30, some 20)], false⟩, ⟨[0], [0, 1, 2, 3, 4, 5, 6, 7, 8, 9, 10, 11, 12, 13, 14, 15, 16, 17, 18, 19, 20, 21], [(30, some 20), (31, some 21)], false⟩, ⟨[0], [0, 1, 2, 3, 4, 5, 6, 7, 8, 9, 10, 11, 12, 13, 14, 15, 16, 17, 18, 19, 20, 21, 22], [(30, some 20), (32, some 22)], false⟩, ⟨[0], [0, 1, 2, 3, 4, 5, 6, 7, 8, 9, 10, 11, 12, 13, 14, 15, 16, 17, 18, 19, 20, 21, 22, 23], [(0, none), (33, some 23)], false⟩, ⟨[0], [0, 1, 2, 3, 4, 5, 6, 7, 8, 9, 10, 11, 12, 13, 14, 15, 16, 17, 18, 19, 20, 21, 22, 23], [(3, none), (33, some 23)], false⟩, ⟨[0], [0, 1, 2, 3, 4, 5, 6, 7, 8, 9, 10, 11, 12, 13, 14, 15, 16, 17, 18, 19, 20, 21, 22, 23, 25], [(33, some 23), (35, some 25)], false⟩, ⟨[0], [0, 1, 2, 3, 4, 5, 6, 7, 8, 9, 10, 11, 12, 13, 14, 15, 16, 17, 18, 19, 20, 21, 22, 23, 24, 25, 26], [(33, some 23), (34, some 24), (36, some 26)], false⟩, ⟨[0], [0, 1, 2, 3, 4, 5, 6, 7, 8, 9, 10, 11, 12, 13, 14, 15, 16, 17, 18, 19, 20, 21, 22, 23, 24, 25, 26, 27], [(33, some 23), (37, some 27)], false⟩, ⟨[0], [0, 1, 2, 3, 4, 5, 6, 7, 8, 9, 10, 11, 12, 13, 14, 15, 16, 17, 18, 19, 20, 21, 22, 23, 24, 25, 26, 27, 28], [(33, some 23), (38, some 28)], false⟩, ⟨[0], [0, 1, 2, 3, 4, 5, 6, 7, 8, 9, 10, 11, 12, 13, 14, 15, 16, 17, 18, 19, 20, 21, 22, 23], [(0, none), (33, some 23)], false⟩, ⟨[0], [0, 1, 2, 3, 4, 5, 6, 7, 8, 9, 10, 11, 12, 13, 14, 15, 16, 17, 18, 19, 20, 21, 22, 23], [(3, none), (33, some 23)], false⟩, ⟨[0], [0, 1, 2, 3, 4, 5, 6, 7, 8, 9, 10, 11, 12, 13, 14, 15, 16, 17, 18, 19, 20, 21, 22, 23, 30, 31], [(33, some 23), (40, some 30), (41, some 31)], false⟩, ⟨[0], [0, 1, 2, 3, 4, 5, 6, 7, 8, 9, 10, 11, 12, 13, 14, 15, 16, 17, 18, 19, 20, 21, 22, 23, 30, 31, 32], [(33, some 23), (42, some 32)], false⟩, ⟨[0], [0, 1, 2, 3, 4, 5, 6, 7, 8, 9, 10, 11, 12, 13, 14, 15, 16, 17, 18, 19, 20, 21, 22, 23, 30, 31, 32, 33], [(33, some 23), (43, some 33)], false⟩, ⟨[], [0, 1, 2, 3, 4, 5, 6, 7, 8, 9, 10, 11, 12, 13, 14, 15, 16, 17, 18, 19, 20, 21, 22, 23, 24, 25, 26, 27, 28, 29, 30, 31, 32, 33, 34], [], false⟩, ⟨[], [0, 1, 2, 3, 4, 5, 6, 7, 8, 9, 10, 11, 12, 13, 14, 15, 16, 17, 18, 19, 20, 21, 22, 23, 24, 25, 26, 27, 28, 29, 30, 31, 32, 33, 34, 35], [], false⟩, ⟨[], [0, 1, 2, 3, 4, 5, 6, 7, 8, 9, 10, 11, 12, 13, 14, 15, 16, 17, 18, 19, 20, 21, 22, 23, 24, 25, 26, 27, 28, 29, 30, 31, 32, 33, 34, 35, 36], [], false⟩] 35 (by kernel_rfl) (by kernel_rfl)
        · refine ⟨?_, ?_, ?_, ?_, ?_, ?_, ?_, ?_, ?_, ?_, ?_, ?_, ?_, ?_, ?_, ?_, ?_, ?_, ?_, ?_, ?_, ?_, ?_, ?_, ?_, ?_, ?_, ?_, ?_, ?_, ?_, ?_, ?_, ?_, ?_, trivial⟩
          · intro tm hr
            simp [AllL, rdV] at hr
            simp [hr, hl, hx, hy, hok, k41]
            exact KD.mk
          · intro tm hr
            simp [AllL, rdV] at hr
            simp [hr, hl, hx, hy, hok, k41]
            exact KD.mk
          · intro tm hr
            simp [AllL, rdV] at hr
            simp [hr, hl, hx, hy, hok, k41]
            exact KD.mk
          · intro tm hr
            simp [AllL, rdV] at hr
            simp [hr, hl, hx, hy, hok, k41]
            exact KD.mk
          · intro tm hr
            simp [AllL, rdV] at hr
            simp [hr, hl, hx, hy, hok, k41]
            exact KD.mk
          · intro tm hr
            simp [AllL, rdV] at hr
            simp [hr, hl, hx, hy, hok, k41]
            exact KD.mk
          · intro tm hr
            simp [AllL, rdV] at hr
            simp [hr, hl, hx, hy, hok, k41]
            exact KD.mk
          · intro tm hr
            simp [AllL, rdV] at hr
            simp [hr, hl, hx, hy, hok, k41]
            exact KD.mk
          · intro tm hr
            simp [AllL, rdV] at hr
            simp [hr, hl, hx, hy, hok, k41]
            exact KD.mk
          · intro tm hr
            simp [AllL, rdV] at hr
            simp [hr, hl, hx, hy, hok, k41]
            exact KD.mk
          · intro tm hr
            simp [AllL, rdV] at hr
            simp [hr, hl, hx, hy, hok, k41]
            exact KD.mk
          · intro tm hr
            simp [AllL, rdV] at hr
            simp [hr, hl, hx, hy, hok, k41]
            exact KD.mk
          · intro tm hr
            simp [AllL, rdV] at hr
            simp [hr, hl, hx, hy, hok, k41]
            exact KD.mk
          · intro tm hr
            simp [AllL, rdV] at hr
            simp [hr, hl, hx, hy, hok, k41]
            exact KD.mk
          · intro tm hr
            simp [AllL, rdV] at hr
            simp [hr, hl, hx, hy, hok, k41]
            exact KD.mk
          · intro tm hr
            simp [AllL, rdV] at hr
            simp [hr, hl, hx, hy, hok, k41]
            exact KD.mk
          · intro tm hr
            simp [AllL, rdV] at hr
            simp [hr, hl, hx, hy, hok, k41]
            exact KD.mk
          · intro tm hr
            simp [AllL, rdV] at hr
            simp [hr, hl, hx, hy, hok, k41]
            exact KD.mk
          · intro tm hr
            simp [AllL, rdV] at hr
            simp [hr, hl, hx, hy, hok, k41]
            exact KD.mk
          · intro tm hr
            simp [AllL, rdV] at hr
            simp [hr, hl, hx, hy, hok, k41]
            exact KD.mk
          · intro tm hr
            simp [AllL, rdV] at hr
            simp [hr, hl, hx, hy, hok, k41]
            exact KD.mk
          · intro tm hr
            simp [AllL, rdV] at hr
            simp [hr, hl, hx, hy, hok, k41]
            exact KD.mk
          · intro tm hr
            simp [AllL, rdV] at hr
            simp [hr, hl, hx, hy, hok, k41]
            exact KD.mk
          · intro tm hr
            simp [AllL, rdV] at hr
            simp [hr, hl, hx, hy, hok, k41]
            exact KD.mk
          · intro tm hr
            simp [AllL, rdV] at hr
            simp [hr, hl, hx, hy, hok, k41]
            exact KD.mk
          · intro tm hr
            simp [AllL, rdV] at hr
            simp [hr, hl, hx, hy, hok, k41]
            exact KD.mk
          · intro tm hr
            simp [AllL, rdV] at hr
            simp [hr, hl, hx, hy, hok, k41]
            exact KD.mk
          · intro tm hr
            simp [AllL, rdV] at hr
            simp [hr, hl, hx, hy, hok, k41]
            exact KD.mk
          · intro tm hr
            simp [AllL, rdV] at hr
            simp [hr, hl, hx, hy, hok, k41]
            exact KD.mk
          · intro tm hr
            simp [AllL, rdV] at hr
            simp [hr, hl, hx, hy, hok, k41]
            exact KD.mk
          · intro tm hr
            simp [AllL, rdV] at hr
            simp [hr, hl, hx, hy, hok, k41]
            exact KD.mk
          · intro tm hr
            simp [AllL, rdV] at hr
            simp [hr, hl, hx, hy, hok, k41]
            exact KD.mk
          · intro tm hr
            simp [AllL, rdV] at hr
            simp [hr, hl, hx, hy, hok, k41]
            exact KD.mk
          · intro tm hr
            simp [AllL, rdV] at hr
            simp [hr, hl, hx, hy, hok, k41]
            exact KD.mk
          · intro tm hr
            simp [AllL, rdV] at hr
            simp [hr, hl, hx, hy, hok, k41]
            exact KD.mk
        · rfl
        · simp [tmD, putD, hl, hx, hy, hok, k41]; rfl
        · simp [hl, hx, hy, hok, k41]
          rfl
        exact ⟨rfl, Weak.keep _ (by simp [hl, hx, hy, hok, k41])⟩
      · by_cases k42 : (300 : Int) < (x.name.size : Int)
        · apply AW.drawnR (V := [_, _, _, _, _, _, _, _, _, _, _, _, _, _, _, _, _, _, _, _, _, _, _, _, _, _, _, _, _, _, _, _, _, _, _]) mixed [⟨[0], [], [(3, none)], false⟩, ⟨[0], [0], [(10, some 0)], false⟩, ⟨[0], [0, 1], [(11, some 1)], false⟩, ⟨[0], [0, 1, 2], [(0, none), (12, some 2)], false⟩, ⟨[0], [0, 1, 2], [(3, none), (12, some 2)], false⟩, ⟨[0], [0, 1, 2, 3, 4], [(12, some 2), (13, some 3), (14, some 4)], false⟩, ⟨[0], [0, 1, 2, 3, 4, 5], [(12, some 2), (15, some 5)], false⟩, ⟨[0], [0, 1, 2, 3, 4, 5, 6], [(12, some 2), (16, some 6)], false⟩, ⟨[0], [0, 1, 2, 3, 4, 5, 6, 7], [(12, some 2), (17, some 7)], false⟩, ⟨[0], [0, 1, 2, 3, 4, 5, 6, 7, 8], [(12, some 2), (18, some 8)], false⟩, ⟨[0], [0, 1, 2, 3, 4, 5, 6, 7, 8, 9], [(12, some 2), (19, some 9)], false⟩, ⟨[0], [0, 1, 2, 3, 4, 5, 6, 7, 8, 9, 10], [(20, some 10)], false⟩, ⟨[0], [0, 1, 2, 3, 4, 5, 6, 7, 8, 9, 10, 11], [(0, none), (21, some 11)], false⟩, ⟨[0], [0, 1, 2, 3, 4, 5, 6, 7, 8, 9, 10, 11], [(3, none), (21, some 11)], false⟩, ⟨[0], [0, 1, 2, 3, 4, 5, 6, 7, 8, 9, 10, 11, 12, 13], [(21, some 11), (22, some 12), (23, some 13)], false⟩, ⟨[0], [0, 1, 2, 3, 4, 5, 6, 7, 8, 9, 10, 11, 12, 13, 14], [(21, some 11), (24, some 14)], false⟩, ⟨[0], [0, 1, 2, 3, 4, 5, 6, 7, 8, 9, 10, 11, 12, 13, 14, 15], [(21, some 11), (25, some 15)], false⟩, ⟨[0], [0, 1, 2, 3, 4, 5, 6, 7, 8, 9, 10, 11, 12, 13, 14, 15, 16], [(21, some 11), (26, some 16)], false⟩, ⟨[0], [0, 1, 2, 3, 4, 5, 6, 7, 8, 9, 10, 11, 12, 13, 14, 15, 16, 17], [(21, some 11), (27, some 17)], false⟩, ⟨[0], [0, 1, 2, 3, 4, 5, 6, 7, 8, 9, 10, 11, 12, 13, 14, 15, 16, 17, 18], [(21, some 11), (28, some 18)], false⟩, ⟨[0], [0, 1, 2, 3, 4, 5, 6, 7, 8, 9, 10, 11, 12, 13, 14, 15, 16, 17, 18, 19], [(29, some 19)], false⟩, ⟨[0], [0, 1, 2, 3, 4, 5, 6, 7, 8, 9, 10, 11, 12, 13, 14, 15, 16, 17, 18, 19, 20], [(3, none), (30, some 20)], false⟩, ⟨[0], [0, 1, 2, 3, 4, 5, 6, 7, 8, 9, 10, 11, 12, 13, 14, 15, 16, 17, 18, 19, 20, 21], [(30, some 20), (31, some 21)], false⟩, ⟨[0], [0, 1, 2, 3, 4, 5, 6, 7, 8, 9, 10, 11, 12, 13, 14, 15, 16, 17, 18, 19, 20, 21, 22], [(30, some 20), (32, some 22)], false⟩, ⟨[0], [0, 1, 2, 3, 4, 5, 6, 7, 8, 9, 10, 11, 12, 13, 14, 15, 16, 17, 18, 19, 20, 21, 22, 23], [(0, none), (33, some 23)], false⟩, ⟨[0], [0, 1, 2, 3, 4, 5, 6, 7, 8, 9, 10, 11, 12, 13, 14, 15, 16, 17, 18, 19, 20, 21, 22, 23], [(3, none), (33, some 23)], false⟩, ⟨[0], [0, 1, 2, 3, 4, 5, 6, 7, 8, 9, 10, 11, 12, 13, 14, 15, 16, 17, 18, 19, 20, 21, 22, 23, 25], [(33, some 23), (35, some 25)], false⟩, ⟨[0], [0, 1, 2, 3, 4, 5, 6, 7, 8, 9, 10, 11, 12, 13, 14, 15, 16, 17, 18, 19, 20, 21, 22, 23, 24, 25, 26], [(33, some 23), (34, some 24), (36, some 26)], false⟩, ⟨[0], [0, 1, 2, 3, 4, 5, 6, 7, 8, 9, 10, 11, 12, 13, 14, 15, 16, 17, 18, 19, 20, 21, 22, 23, 24, 25, 26, 27], [(33, some 23), (37, some 27)], false⟩, ⟨[0], [0, 1, 2, 3, 4, 5, 6, 7, 8, 9, 10, 11, 12, 13, 14, 15, 16, 17, 18, 19, 20, 21, 22, 23, 24, 25, 26, 27, 28], [(33, some 23), (38, some 28)], false⟩, ⟨[0], [0, 1, 2, 3, 4, 5, 6, 7, 8, 9, 10, 11, 12, 13, 14, 15, 16, 17, 18, 19, 20, 21, 22, 23], [(0, none), (33, some 23)], false⟩, ⟨[0], [0, 1, 2, 3, 4, 5, 6, 7, 8, 9, 10, 11, 12, 13, 14, 15, 16, 17, 18, 19, 20, 21, 22, 23], [(3, none), (33, some 23)], false⟩, ⟨[0], [0, 1, 2, 3, 4, 5, 6, 7, 8, 9, 10, 11, 12, 13, 14, 15, 16, 17, 18, 19, 20, 21, 22, 23, 30, 31], [(33, some 23), (40, some 30), (41, some 31)], false⟩, ⟨[0], [0, 1, 2, 3, 4, 5, 6, 7, 8, 9, 10, 11, 12, 13, 14, 15, 16, 17, 18, 19, 20, 21, 22, 23, 30, 31, 32], [(33, some 23), (42, some 32)], false⟩, ⟨[0], [0, 1, 2, 3, 4, 5, 6, 7, 8, 9, 10, 11, 12, 13, 14, 15, 16, 17, 18, 19, 20, 21, 22, 23, 30, 31, 32, 33], [(33, some 23), (43, some 33)], false⟩, ⟨[], [0, 1, 2, 3, 4, 5, 6, 7, 8, 9, 10, 11, 12, 13, 14, 15, 16, 17, 18, 19, 20, 21, 22, 23, 24, 25, 26, 27, 28, 29, 30, 31, 32, 33, 34], [], false⟩, ⟨[], [0, 1, 2, 3, 4, 5, 6, 7, 8, 9, 10, 11, 12, 13, 14, 15, 16, 17, 18, 19, 20, 21, 22, 23, 24, 25, 26, 27, 28, 29, 30, 31, 32, 33, 34, 35], [], false⟩, ⟨[], [0, 1, 2, 3, 4, 5, 6, 7, 8, 9, 10, 11, 12, 13, 14, 15, 16, 17, 18, 19, 20, 21, 22, 23, 24, 25, 26, 27, 28, 29, 30, 31, 32, 33, 34, 35, 36], [], false⟩] 35 (by kernel_rfl) (by kernel_rfl)
          · refine ⟨?_, ?_, ?_, ?_, ?_, ?_, ?_, ?_, ?_, ?_, ?_, ?_, ?_, ?_, ?_, ?_, ?_, ?_, ?_, ?_, ?_, ?_, ?_, ?_, ?_, ?_, ?_, ?_, ?_, ?_, ?_, ?_, ?_, ?_, ?_, trivial⟩
            · intro tm hr
              simp [AllL, rdV] at hr
              simp [hr, hl, hx, hy, hok, k41, k42]
              exact KD.mk
            · intro tm hr
              simp [AllL, rdV] at hr
              simp [hr, hl, hx, hy, hok, k41, k42]
              exact KD.mk
            · intro tm hr
              simp [AllL, rdV] at hr
              simp [hr, hl, hx, hy, hok, k41, k42]
              exact KD.mk
            · intro tm hr
              simp [AllL, rdV] at hr
              simp [hr, hl, hx, hy, hok, k41, k42]
              exact KD.mk
            · intro tm hr
              simp [AllL, rdV] at hr
              simp [hr, hl, hx, hy, hok, k41, k42]
              exact KD.mk
            · intro tm hr
              simp [AllL, rdV] at hr
              simp [hr, hl, hx, hy, hok, k41, k42]
              exact KD.mk
            · intro tm hr
              simp [AllL, rdV] at hr
              simp [hr, hl, hx, hy, hok, k41, k42]
              exact KD.mk
            · intro tm hr
              simp [AllL, rdV] at hr
              simp [hr, hl, hx, hy, hok, k41, k42]
              exact KD.mk
            · intro tm hr
              simp [AllL, rdV] at hr
              simp [hr, hl, hx, hy, hok, k41, k42]
              exact KD.mk
            · intro tm hr
              simp [AllL, rdV] at hr
              simp [hr, hl, hx, hy, hok, k41, k42]
              exact KD.mk
            · intro tm hr
              simp [AllL, rdV] at hr
              simp [hr, hl, hx, hy, hok, k41, k42]
              exact KD.mk
            · intro tm hr
              simp [AllL, rdV] at hr
              simp [hr, hl, hx, hy, hok, k41, k42]
              exact KD.mk
            · intro tm hr
              simp [AllL, rdV] at hr
              simp [hr, hl, hx, hy, hok, k41, k42]
              exact KD.mk
            · intro tm hr
              simp [AllL, rdV] at hr
              simp [hr, hl, hx, hy, hok, k41, k42]
              exact KD.mk
            · intro tm hr
              simp [AllL, rdV] at hr
              simp [hr, hl, hx, hy, hok, k41, k42]
              exact KD.mk
            · intro tm hr
              simp [AllL, rdV] at hr
              simp [hr, hl, hx, hy, hok, k41, k42]
              exact KD.mk
            · intro tm hr
              simp [AllL, rdV] at hr
              simp [hr, hl, hx, hy, hok, k41, k42]
              exact KD.mk
            · intro tm hr
              simp [AllL, rdV] at hr
              simp [hr, hl, hx, hy, hok, k41, k42]
              exact KD.mk
            · intro tm hr
              simp [AllL, rdV] at hr
              simp [hr, hl, hx, hy, hok, k41, k42]
              exact KD.mk
            · intro tm hr
              simp [AllL, rdV] at hr
              simp [hr, hl, hx, hy, hok, k41, k42]
              exact KD.mk
            · intro tm hr
              simp [AllL, rdV] at hr
              simp [hr, hl, hx, hy, hok, k41, k42]
              exact KD.mk
            · intro tm hr
              simp [AllL, rdV] at hr
              simp [hr, hl, hx, hy, hok, k41, k42]
              exact KD.mk
            · intro tm hr
              simp [AllL, rdV] at hr
              simp [hr, hl, hx, hy, hok, k41, k42]
              exact KD.mk
            · intro tm hr
              simp [AllL, rdV] at hr
              simp [hr, hl, hx, hy, hok, k41, k42]
              exact KD.mk
            · intro tm hr
              simp [AllL, rdV] at hr
              simp [hr, hl, hx, hy, hok, k41, k42]
              exact KD.mk
            · intro tm hr
              simp [AllL, rdV] at hr
              simp [hr, hl, hx, hy, hok, k41, k42]
              exact KD.mk
            · intro tm hr
              simp [AllL, rdV] at hr
              simp [hr, hl, hx, hy, hok, k41, k42]
              exact KD.mk
            · intro tm hr
              simp [AllL, rdV] at hr
              simp [hr, hl, hx, hy, hok, k41, k42]
              exact KD.mk
            · intro tm hr
              simp [AllL, rdV] at hr
              simp [hr, hl, hx, hy, hok, k41, k42]
              exact KD.mk
            · intro tm hr
              simp [AllL, rdV] at hr
              simp [hr, hl, hx, hy, hok, k41, k42]
              exact KD.mk
            · intro tm hr
              simp [AllL, rdV] at hr
              simp [hr, hl, hx, hy, hok, k41, k42]
              exact KD.mk
            · intro tm hr
              simp [AllL, rdV] at hr
              simp [hr, hl, hx, hy, hok, k41, k42]
              exact KD.mk
            · intro tm hr
              simp [AllL, rdV] at hr
              simp [hr, hl, hx, hy, hok, k41, k42]
              exact KD.mk
            · intro tm hr
              simp [AllL, rdV] at hr
              simp [hr, hl, hx, hy, hok, k41, k42]
              exact KD.mk
            · intro tm hr
              simp [AllL, rdV] at hr
              simp [hr, hl, hx, hy, hok, k41, k42]
              exact KD.mk
          · rfl
          · simp [tmD, putD, hl, hx, hy, hok, k41, k42]; rfl
          · simp [hl, hx, hy, hok, k41, k42]
            rfl
          exact ⟨rfl, Weak.keep _ (by simp [hl, hx, hy, hok, k41, k42])⟩
        · by_cases k43 : (300 : Int) < (x.val.size : Int)
          · apply AW.drawnR (V := [_, _, _, _, _, _, _, _, _, _, _, _, _, _, _, _, _, _, _, _, _, _, _, _, _, _, _, _, _, _, _, _, _, _, _]) mixed [⟨[0], [], [(3, none)], false⟩, ⟨[0], [0], [(10, some 0)], false⟩, ⟨[0], [0, 1], [(11, some 1)], false⟩, ⟨[0], [0, 1, 2], [(0, none), (12, some 2)], false⟩, ⟨[0], [0, 1, 2], [(3, none), (12, some 2)], false⟩, ⟨[0], [0, 1, 2, 3, 4], [(12, some 2), (13, some 3), (14, some 4)], false⟩, ⟨[0], [0, 1, 2, 3, 4, 5], [(12, some 2), (15, some 5)], false⟩, ⟨[0], [0, 1, 2, 3, 4, 5, 6], [(12, some 2), (16, some 6)], false⟩, ⟨[0], [0, 1, 2, 3, 4, 5, 6, 7], [(12, some 2), (17, some 7)], false⟩, ⟨[0], [0, 1, 2, 3, 4, 5, 6, 7, 8], [(12, some 2), (18, some 8)], false⟩, ⟨[0], [0, 1, 2, 3, 4, 5, 6, 7, 8, 9], [(12, some 2), (19, some 9)], false⟩, ⟨[0], [0, 1, 2, 3, 4, 5, 6, 7, 8, 9, 10], [(20, some 10)], false⟩, ⟨[0], [0, 1, 2, 3, 4, 5, 6, 7, 8, 9, 10, 11], [(0, none), (21, some 11)], false⟩, ⟨[0], [0, 1, 2, 3, 4, 5, 6, 7, 8, 9, 10, 11], [(3, none), (21, some 11)], false⟩, ⟨[0], [0, 1, 2, 3, 4, 5, 6, 7, 8, 9, 10, 11, 12, 13], [(21, some 11), (22, some 12), (23, some 13)], false⟩, ⟨[0], [0, 1, 2, 3, 4, 5, 6, 7, 8, 9, 10, 11, 12, 13, 14], [(21, some 11), (24, some 14)], false⟩, ⟨[0], [0, 1, 2, 3, 4, 5, 6, 7, 8, 9, 10, 11, 12, 13, 14, 15], [(21, some 11), (25, some 15)], false⟩, ⟨[0], [0, 1, 2, 3, 4, 5, 6, 7, 8, 9, 10, 11, 12, 13, 14, 15, 16], [(21, some 11), (26, some 16)], false⟩, ⟨[0], [0, 1, 2, 3, 4, 5, 6, 7, 8, 9, 10, 11, 12, 13, 14, 15, 16, 17], [(21, some 11), (27, some 17)], false⟩, ⟨[0], [0, 1, 2, 3, 4, 5, 6, 7, 8, 9, 10, 11, 12, 13, 14, 15, 16, 17, 18], [(21, some 11), (28, some 18)], false⟩, ⟨[0], [0, 1, 2, 3, 4, 5, 6, 7, 8, 9, 10, 11, 12, 13, 14, 15, 16, 17, 18, 19], [(29, some 19)], false⟩, ⟨[0], [0, 1, 2, 3, 4, 5, 6, 7, 8, 9, 10, 11, 12, 13, 14, 15, 16, 17, 18, 19, 20], [(3, none), (30, some 20)], false⟩, ⟨[0], [0, 1, 2, 3, 4, 5, 6, 7, 8, 9, 10, 11, 12, 13, 14, 15, 16, 17, 18, 19, 20, 21], [(30, some 20), (31, some 21)], false⟩, ⟨[0], [0, 1, 2, 3, 4, 5, 6, 7, 8, 9, 10, 11, 12, 13, 14, 15, 16, 17, 18, 19, 20, 21, 22], [(30, some 20), (32, some 22)], false⟩, ⟨[0], [0, 1, 2, 3, 4, 5, 6, 7, 8, 9, 10, 11, 12, 13, 14, 15, 16, 17, 18, 19, 20, 21, 22, 23], [(0, none), (33, some 23)], false⟩, ⟨[0], [0, 1, 2, 3, 4, 5, 6, 7, 8, 9, 10, 11, 12, 13, 14, 15, 16, 17, 18, 19, 20, 21, 22, 23], [(3, none), (33, some 23)], false⟩, ⟨[0], [0, 1, 2, 3, 4, 5, 6, 7, 8, 9, 10, 11, 12, 13, 14, 15, 16, 17, 18, 19, 20, 21, 22, 23, 25], [(33, some 23), (35, some 25)], false⟩, ⟨[0], [0, 1, 2, 3, 4, 5, 6, 7, 8, 9, 10, 11, 12, 13, 14, 15, 16, 17, 18, 19, 20, 21, 22, 23, 24, 25, 26], [(33, some 23), (34, some 24), (36, some 26)], false⟩, ⟨[0], [0, 1, 2, 3, 4, 5, 6, 7, 8, 9, 10, 11, 12, 13, 14, 15, 16, 17, 18, 19, 20, 21, 22, 23, 24, 25, 26, 27], [(33, some 23), (37, some 27)], false⟩, ⟨[0], [0, 1, 2, 3, 4, 5, 6, 7, 8, 9, 10, 11, 12, 13, 14, 15, 16, 17, 18, 19, 20, 21, 22, 23, 24, 25, 26, 27, 28], [(33, some 23), (38, some 28)], false⟩, ⟨[0], [0, 1, 2, 3, 4, 5, 6, 7, 8, 9, 10, 11, 12, 13, 14, 15, 16, 17, 18, 19, 20, 21, 22, 23], [(0, none), (33, some 23)], false⟩, ⟨[0], [0, 1, 2, 3, 4, 5, 6, 7, 8, 9, 10, 11, 12, 13, 14, 15, 16, 17, 18, 19, 20, 21, 22, 23], [(3, none), (33, some 23)], false⟩, ⟨[0], [0, 1, 2, 3, 4, 5, 6, 7, 8, 9, 10, 11, 12, 13, 14, 15, 16, 17, 18, 19, 20, 21, 22, 23, 30, 31], [(33, some 23), (40, some 30), (41, some 31)], false⟩, ⟨[0], [0, 1, 2, 3, 4, 5, 6, 7, 8, 9, 10, 11, 12, 13, 14, 15, 16, 17, 18, 19, 20, 21, 22, 23, 30, 31, 32], [(33, some 23), (42, some 32)], false⟩, ⟨[0], [0, 1, 2, 3, 4, 5, 6, 7, 8, 9, 10, 11, 12, 13, 14, 15, 16, 17, 18, 19, 20, 21, 22, 23, 30, 31, 32, 33], [(33, some 23), (43, some 33)], false⟩, ⟨[], [0, 1, 2, 3, 4, 5, 6, 7, 8, 9, 10, 11, 12, 13, 14, 15, 16, 17, 18, 19, 20, 21, 22, 23, 24, 25, 26, 27, 28, 29, 30, 31, 32, 33, 34], [], false⟩, ⟨[], [0, 1, 2, 3, 4, 5, 6, 7, 8, 9, 10, 11, 12, 13, 14, 15, 16, 17, 18, 19, 20, 21, 22, 23, 24, 25, 26, 27, 28, 29, 30, 31, 32, 33, 34, 35], [], false⟩, ⟨[], [0, 1, 2, 3, 4, 5, 6, 7, 8, 9, 10, 11, 12, 13, 14, 15, 16, 17, 18, 19, 20, 21, 22, 23, 24, 25, 26, 27, 28, 29, 30, 31, 32, 33, 34, 35, 36], [], false⟩] 35 (by kernel_rfl) (by kernel_rfl)
            · refine ⟨?_, ?_, ?_, ?_, ?_, ?_, ?_, ?_, ?_, ?_, ?_, ?_, ?_, ?_, ?_, ?_, ?_, ?_, ?_, ?_, ?_, ?_, ?_, ?_, ?_, ?_, ?_, ?_, ?_, ?_, ?_, ?_, ?_, ?_, ?_, trivial⟩
              · intro tm hr
                simp [AllL, rdV] at hr
                simp [hr, hl, hx, hy, hok, k41, k42, k43]
                exact KD.mk
              · intro tm hr
                simp [AllL, rdV] at hr
                simp [hr, hl, hx, hy, hok, k41, k42, k43]
                exact KD.mk
              · intro tm hr
                simp [AllL, rdV] at hr
                simp [hr, hl, hx, hy, hok, k41, k42, k43]
                exact KD.mk
              · intro tm hr
                simp [AllL, rdV] at hr
                simp [hr, hl, hx, hy, hok, k41, k42, k43]
                exact KD.mk
              · intro tm hr
                simp [AllL, rdV] at hr
                simp [hr, hl, hx, hy, hok, k41, k42, k43]
                exact KD.mk
              · intro tm hr
                simp [AllL, rdV] at hr
                simp [hr, hl, hx, hy, hok, k41, k42, k43]
                exact KD.mk
              · intro tm hr
                simp [AllL, rdV] at hr
                simp [hr, hl, hx, hy, hok, k41, k42, k43]
                exact KD.mk
              · intro tm hr
                simp [AllL, rdV] at hr
                simp [hr, hl, hx, hy, hok, k41, k42, k43]
                exact KD.mk
              · intro tm hr
                simp [AllL, rdV] at hr
                simp [hr, hl, hx, hy, hok, k41, k42, k43]
                exact KD.mk
              · intro tm hr
                simp [AllL, rdV] at hr
                simp [hr, hl, hx, hy, hok, k41, k42, k43]
                exact KD.mk
              · intro tm hr
                simp [AllL, rdV] at hr
                simp [hr, hl, hx, hy, hok, k41, k42, k43]
                exact KD.mk
              · intro tm hr
                simp [AllL, rdV] at hr
                simp [hr, hl, hx, hy, hok, k41, k42, k43]
                exact KD.mk
              · intro tm hr
                simp [AllL, rdV] at hr
                simp [hr, hl, hx, hy, hok, k41, k42, k43]
                exact KD.mk
              · intro tm hr
                simp [AllL, rdV] at hr
                simp [hr, hl, hx, hy, hok, k41, k42, k43]
                exact KD.mk
              · intro tm hr
                simp [AllL, rdV] at hr
                simp [hr, hl, hx, hy, hok, k41, k42, k43]
                exact KD.mk
              · intro tm hr
                simp [AllL, rdV] at hr
                simp [hr, hl, hx, hy, hok, k41, k42, k43]
                exact KD.mk
              · intro tm hr
                simp [AllL, rdV] at hr
                simp [hr, hl, hx, hy, hok, k41, k42, k43]
                exact KD.mk
              · intro tm hr
                simp [AllL, rdV] at hr
                simp [hr, hl, hx, hy, hok, k41, k42, k43]
                exact KD.mk
              · intro tm hr
                simp [AllL, rdV] at hr
                simp [hr, hl, hx, hy, hok, k41, k42, k43]
                exact KD.mk
              · intro tm hr
                simp [AllL, rdV] at hr
                simp [hr, hl, hx, hy, hok, k41, k42, k43]
                exact KD.mk
              · intro tm hr
                simp [AllL, rdV] at hr
                simp [hr, hl, hx, hy, hok, k41, k42, k43]
                exact KD.mk
              · intro tm hr
                simp [AllL, rdV] at hr
                simp [hr, hl, hx, hy, hok, k41, k42, k43]
                exact KD.mk
              · intro tm hr
                simp [AllL, rdV] at hr
                simp [hr, hl, hx, hy, hok, k41, k42, k43]
                exact KD.mk
              · intro tm hr
                simp [AllL, rdV] at hr
                simp [hr, hl, hx, hy, hok, k41, k42, k43]
                exact KD.mk
              · intro tm hr
                simp [AllL, rdV] at hr
                simp [hr, hl, hx, hy, hok, k41, k42, k43]
                exact KD.mk
              · intro tm hr
                simp [AllL, rdV] at hr
                simp [hr, hl, hx, hy, hok, k41, k42, k43]
                exact KD.mk
              · intro tm hr
                simp [AllL, rdV] at hr
                simp [hr, hl, hx, hy, hok, k41, k42, k43]
                exact KD.mk
              · intro tm hr
                simp [AllL, rdV] at hr
                simp [hr, hl, hx, hy, hok, k41, k42, k43]
                exact KD.mk
              · intro tm hr
                simp [AllL, rdV] at hr
                simp [hr, hl, hx, hy, hok, k41, k42, k43]
                exact KD.mk
              · intro tm hr
                simp [AllL, rdV] at hr
                simp [hr, hl, hx, hy, hok, k41, k42, k43]
                exact KD.mk
              · intro tm hr
                simp [AllL, rdV] at hr
                simp [hr, hl, hx, hy, hok, k41, k42, k43]
                exact KD.mk
              · intro tm hr
                simp [AllL, rdV] at hr
                simp [hr, hl, hx, hy, hok, k41, k42, k43]
                exact KD.mk
              · intro tm hr
                simp [AllL, rdV] at hr
                simp [hr, hl, hx, hy, hok, k41, k42, k43]
                exact KD.mk
              · intro tm hr
                simp [AllL, rdV] at hr
                simp [hr, hl, hx, hy, hok, k41, k42, k43]
                exact KD.mk
              · intro tm hr
                simp [AllL, rdV] at hr
                simp [hr, hl, hx, hy, hok, k41, k42, k43]
                exact KD.mk
            · rfl
            · simp [tmD, putD, hl, hx, hy, hok, k41, k42, k43]; rfl
            · simp [hl, hx, hy, hok, k41, k42, k43]
              rfl
            exact ⟨rfl, Weak.keep _ (by simp [hl, hx, hy, hok, k41, k42, k43])⟩
          · by_cases k44 : ¬ 0 < i
            · have hw' := hw
              have hi0 : ¬ 0 < i := by omega
              apply AW.drawnR (V := [_, _, _, _, _, _, _, _, _, _, _, _, _, _, _, _, _, _, _, _, _, _, _, _, _, _, _, _, _, _, _, _, _, _, _]) mixed [⟨[0], [], [(3, none)], false⟩, ⟨[0], [0], [(10, some 0)], false⟩, ⟨[0], [0, 1], [(11, some 1)], false⟩, ⟨[0], [0, 1, 2], [(0, none), (12, some 2)], false⟩, ⟨[0], [0, 1, 2], [(3, none), (12, some 2)], false⟩, ⟨[0], [0, 1, 2, 3, 4], [(12, some 2), (13, some 3), (14, some 4)], false⟩, ⟨[0], [0, 1, 2, 3, 4, 5], [(12, some 2), (15, some 5)], false⟩, ⟨[0], [0, 1, 2, 3, 4, 5, 6], [(12, some 2), (16, some 6)], false⟩, ⟨[0], [0, 1, 2, 3, 4, 5, 6, 7], [(12, some 2), (17, some 7)], false⟩, ⟨[0], [0, 1, 2, 3, 4, 5, 6, 7, 8], [(12, some 2), (18, some 8)], false⟩, ⟨[0], [0, 1, 2, 3, 4, 5, 6, 7, 8, 9], [(12, some 2), (19, some 9)], false⟩, ⟨[0], [0, 1, 2, 3, 4, 5, 6, 7, 8, 9, 10], [(20, some 10)], false⟩, ⟨[0], [0, 1, 2, 3, 4, 5, 6, 7, 8, 9, 10, 11], [(0, none), (21, some 11)], false⟩, ⟨[0], [0, 1, 2, 3, 4, 5, 6, 7, 8, 9, 10, 11], [(3, none), (21, some 11)], false⟩, ⟨[0], [0, 1, 2, 3, 4, 5, 6, 7, 8, 9, 10, 11, 12, 13], [(21, some 11), (22, some 12), (23, some 13)], false⟩, ⟨[0], [0, 1, 2, 3, 4, 5, 6, 7, 8, 9, 10, 11, 12, 13, 14], [(21, some 11), (24, some 14)], false⟩, ⟨[0], [0, 1, 2, 3, 4, 5, 6, 7, 8, 9, 10, 11, 12, 13, 14, 15], [(21, some 11), (25, some 15)], false⟩, ⟨[0], [0, 1, 2, 3, 4, 5, 6, 7, 8, 9, 10, 11, 12, 13, 14, 15, 16], [(21, some 11), (26, some 16)], false⟩, ⟨[0], [0, 1, 2, 3, 4, 5, 6, 7, 8, 9, 10, 11, 12, 13, 14, 15, 16, 17], [(21, some 11), (27, some 17)], false⟩, ⟨[0], [0, 1, 2, 3, 4, 5, 6, 7, 8, 9, 10, 11, 12, 13, 14, 15, 16, 17, 18], [(21, some 11), (28, some 18)], false⟩, ⟨[0], [0, 1, 2, 3, 4, 5, 6, 7, 8, 9, 10, 11, 12, 13, 14, 15, 16, 17, 18, 19], [(29, some 19)], false⟩, ⟨[0], [0, 1, 2, 3, 4, 5, 6, 7, 8, 9, 10, 11, 12, 13, 14, 15, 16, 17, 18, 19, 20], [(3, none), (30, some 20)], false⟩, ⟨[0], [0, 1, 2, 3, 4, 5, 6, 7, 8, 9, 10, 11, 12, 13, 14, 15, 16, 17, 18, 19, 20, 21], [(30, some 20), (31, some 21)], false⟩, ⟨[0], [0, 1, 2, 3, 4, 5, 6, 7, 8, 9, 10, 11, 12, 13, 14, 15, 16, 17, 18, 19, 20, 21, 22], [(30, some 20), (32, some 22)], false⟩, ⟨[0], [0, 1, 2, 3, 4, 5, 6, 7, 8, 9, 10, 11, 12, 13, 14, 15, 16, 17, 18, 19, 20, 21, 22, 23], [(0, none), (33, some 23)], false⟩, ⟨[0], [0, 1, 2, 3, 4, 5, 6, 7, 8, 9, 10, 11, 12, 13, 14, 15, 16, 17, 18, 19, 20, 21, 22, 23], [(3, none), (33, some 23)], false⟩, ⟨[0], [0, 1, 2, 3, 4, 5, 6, 7, 8, 9, 10, 11, 12, 13, 14, 15, 16, 17, 18, 19, 20, 21, 22, 23, 25], [(33, some 23), (35, some 25)], false⟩, ⟨[0], [0, 1, 2, 3, 4, 5, 6, 7, 8, 9, 10, 11, 12, 13, 14, 15, 16, 17, 18, 19, 20, 21, 22, 23, 24, 25, 26], [(33, some 23), (34, some 24), (36, some 26)], false⟩, ⟨[0], [0, 1, 2, 3, 4, 5, 6, 7, 8, 9, 10, 11, 12, 13, 14, 15, 16, 17, 18, 19, 20, 21, 22, 23, 24, 25, 26, 27], [(33, some 23), (37, some 27)], false⟩, ⟨[0], [0, 1, 2, 3, 4, 5, 6, 7, 8, 9, 10, 11, 12, 13, 14, 15, 16, 17, 18, 19, 20, 21, 22, 23, 24, 25, 26, 27, 28], [(33, some 23), (38, some 28)], false⟩, ⟨[0], [0, 1, 2, 3, 4, 5, 6, 7, 8, 9, 10, 11, 12, 13, 14, 15, 16, 17, 18, 19, 20, 21, 22, 23], [(0, none), (33, some 23)], false⟩, ⟨[0], [0, 1, 2, 3, 4, 5, 6, 7, 8, 9, 10, 11, 12, 13, 14, 15, 16, 17, 18, 19, 20, 21, 22, 23], [(3, none), (33, some 23)], false⟩, ⟨[0], [0, 1, 2, 3, 4, 5, 6, 7, 8, 9, 10, 11, 12, 13, 14, 15, 16, 17, 18, 19, 20, 21, 22, 23, 30, 31], [(33, some 23), (40, some 30), (41, some 31)], false⟩, ⟨[0], [0, 1, 2, 3, 4, 5, 6, 7, 8, 9, 10, 11, 12, 13, 14, 15, 16, 17, 18, 19, 20, 21, 22, 23, 30, 31, 32], [(33, some 23), (42, some 32)], false⟩, ⟨[0], [0, 1, 2, 3, 4, 5, 6, 7, 8, 9, 10, 11, 12, 13, 14, 15, 16, 17, 18, 19, 20, 21, 22, 23, 30, 31, 32, 33], [(33, some 23), (43, some 33)], false⟩, ⟨[], [0, 1, 2, 3, 4, 5, 6, 7, 8, 9, 10, 11, 12, 13, 14, 15, 16, 17, 18, 19, 20, 21, 22, 23, 24, 25, 26, 27, 28, 29, 30, 31, 32, 33, 34], [], false⟩, ⟨[], [0, 1, 2, 3, 4, 5, 6, 7, 8, 9, 10, 11, 12, 13, 14, 15, 16, 17, 18, 19, 20, 21, 22, 23, 24, 25, 26, 27, 28, 29, 30, 31, 32, 33, 34, 35], [], false⟩, ⟨[], [0, 1, 2, 3, 4, 5, 6, 7, 8, 9, 10, 11, 12, 13, 14, 15, 16, 17, 18, 19, 20, 21, 22, 23, 24, 25, 26, 27, 28, 29, 30, 31, 32, 33, 34, 35, 36], [], false⟩] 35 (by kernel_rfl) (by kernel_rfl)
              · refine ⟨?_, ?_, ?_, ?_, ?_, ?_, ?_, ?_, ?_, ?_, ?_, ?_, ?_, ?_, ?_, ?_, ?_, ?_, ?_, ?_, ?_, ?_, ?_, ?_, ?_, ?_, ?_, ?_, ?_, ?_, ?_, ?_, ?_, ?_, ?_, trivial⟩
                · intro tm hr
                  simp [AllL, rdV] at hr
                  simp [hr, hl, hx, hy, hok, hi0, k41, k42, k43, k44]
                  exact KD.mk
                · intro tm hr
                  simp [AllL, rdV] at hr
                  simp [hr, hl, hx, hy, hok, hi0, k41, k42, k43, k44]
                  exact KD.mk
                · intro tm hr
                  simp [AllL, rdV] at hr
                  simp [hr, hl, hx, hy, hok, hi0, k41, k42, k43, k44]
                  exact KD.mk
                · intro tm hr
                  simp [AllL, rdV] at hr
                  simp [hr, hl, hx, hy, hok, hi0, k41, k42, k43, k44]
                  exact KD.mk
                · intro tm hr
                  simp [AllL, rdV] at hr
                  simp [hr, hl, hx, hy, hok, hi0, k41, k42, k43, k44]
                  exact KD.mk
                · intro tm hr
                  simp [AllL, rdV] at hr
                  simp [hr, hl, hx, hy, hok, hi0, k41, k42, k43, k44]
                  exact KD.mk
                · intro tm hr
                  simp [AllL, rdV] at hr
                  simp [hr, hl, hx, hy, hok, hi0, k41, k42, k43, k44]
                  exact KD.mk
                · intro tm hr
                  simp [AllL, rdV] at hr
                  simp [hr, hl, hx, hy, hok, hi0, k41, k42, k43, k44]
                  exact KD.mk
                · intro tm hr
                  simp [AllL, rdV] at hr
                  simp [hr, hl, hx, hy, hok, hi0, k41, k42, k43, k44]
                  exact KD.mk
                · intro tm hr
                  simp [AllL, rdV] at hr
                  simp [hr, hl, hx, hy, hok, hi0, k41, k42, k43, k44]
                  exact KD.mk
                · intro tm hr
                  simp [AllL, rdV] at hr
                  simp [hr, hl, hx, hy, hok, hi0, k41, k42, k43, k44]
                  exact KD.mk
                · intro tm hr
                  simp [AllL, rdV] at hr
                  simp [hr, hl, hx, hy, hok, hi0, k41, k42, k43, k44]
                  exact KD.mk
                · intro tm hr
                  simp [AllL, rdV] at hr
                  simp [hr, hl, hx, hy, hok, hi0, k41, k42, k43, k44]
                  exact KD.mk
                · intro tm hr
                  simp [AllL, rdV] at hr
                  simp [hr, hl, hx, hy, hok, hi0, k41, k42, k43, k44]
                  exact KD.mk
                · intro tm hr
                  simp [AllL, rdV] at hr
                  simp [hr, hl, hx, hy, hok, hi0, k41, k42, k43, k44]
                  exact KD.mk
                · intro tm hr
                  simp [AllL, rdV] at hr
                  simp [hr, hl, hx, hy, hok, hi0, k41, k42, k43, k44]
                  exact KD.mk
                · intro tm hr
                  simp [AllL, rdV] at hr
                  simp [hr, hl, hx, hy, hok, hi0, k41, k42, k43, k44]
                  exact KD.mk
                · intro tm hr
                  simp [AllL, rdV] at hr
                  simp [hr, hl, hx, hy, hok, hi0, k41, k42, k43, k44]
                  exact KD.mk
                · intro tm hr
                  simp [AllL, rdV] at hr
                  simp [hr, hl, hx, hy, hok, hi0, k41, k42, k43, k44]
                  exact KD.mk
                · intro tm hr
                  simp [AllL, rdV] at hr
                  simp [hr, hl, hx, hy, hok, hi0, k41, k42, k43, k44]
                  exact KD.mk
                · intro tm hr
                  simp [AllL, rdV] at hr
                  simp [hr, hl, hx, hy, hok, hi0, k41, k42, k43, k44]
                  exact KD.mk
                · intro tm hr
                  simp [AllL, rdV] at hr
                  simp [hr, hl, hx, hy, hok, hi0, k41, k42, k43, k44]
                  exact KD.mk
                · intro tm hr
                  simp [AllL, rdV] at hr
                  simp [hr, hl, hx, hy, hok, hi0, k41, k42, k43, k44]
                  exact KD.mk
                · intro tm hr
                  simp [AllL, rdV] at hr
                  simp [hr, hl, hx, hy, hok, hi0, k41, k42, k43, k44]
                  exact KD.mk
                · intro tm hr
                  simp [AllL, rdV] at hr
                  simp [hr, hl, hx, hy, hok, hi0, k41, k42, k43, k44]
                  exact KD.mk
                · intro tm hr
                  simp [AllL, rdV] at hr
                  simp [hr, hl, hx, hy, hok, hi0, k41, k42, k43, k44]
                  exact KD.mk
                · intro tm hr
                  simp [AllL, rdV] at hr
                  simp [hr, hl, hx, hy, hok, hi0, k41, k42, k43, k44]
                  exact KD.mk
                · intro tm hr
                  simp [AllL, rdV] at hr
                  simp [hr, hl, hx, hy, hok, hi0, k41, k42, k43, k44]
                  exact KD.mk
                · intro tm hr
                  simp [AllL, rdV] at hr
                  simp [hr, hl, hx, hy, hok, hi0, k41, k42, k43, k44]
                  exact KD.mk
                · intro tm hr
                  simp [AllL, rdV] at hr
                  simp [hr, hl, hx, hy, hok, hi0, k41, k42, k43, k44]
                  exact KD.mk
                · intro tm hr
                  simp [AllL, rdV] at hr
                  simp [hr, hl, hx, hy, hok, hi0, k41, k42, k43, k44]
                  exact KD.mk
                · intro tm hr
                  simp [AllL, rdV] at hr
                  simp [hr, hl, hx, hy, hok, hi0, k41, k42, k43, k44]
                  exact KD.mk
                · intro tm hr
                  simp [AllL, rdV] at hr
                  simp [hr, hl, hx, hy, hok, hi0, k41, k42, k43, k44]
                  exact KD.mk
                · intro tm hr
                  simp [AllL, rdV] at hr
                  simp [hr, hl, hx, hy, hok, hi0, k41, k42, k43, k44]
                  exact KD.mk
                · intro tm hr
                  simp [AllL, rdV] at hr
                  simp [hr, hl, hx, hy, hok, hi0, k41, k42, k43, k44]
                  exact KD.mk
              · rfl
              · simp [tmD, putD, hl, hx, hy, hok, hi0, k41, k42, k43, k44]; rfl
              · simp [hl, hx, hy, hok, hi0, k41, k42, k43, k44]
                rfl
              exact ⟨rfl, Weak.keep _ (by simp [hl, hx, hy, hok, hi0, k41, k42, k43, k44])⟩
            · have hi0 : 0 < i := by omega
              have hw' := hw hi0
              apply AW.drawnR (V := [_, _, _, _, _, _, _, _, _, _, _, _, _, _, _, _, _, _, _, _, _, _, _, _, _, _, _, _, _, _, _, _, _, _, _]) mixed [⟨[0], [], [(3, none)], false⟩, ⟨[0], [0], [(10, some 0)], false⟩, ⟨[0], [0, 1], [(11, some 1)], false⟩, ⟨[0], [0, 1, 2], [(0, none), (12, some 2)], false⟩, ⟨[0], [0, 1, 2], [(3, none), (12, some 2)], false⟩, ⟨[0], [0, 1, 2, 3, 4], [(12, some 2), (13, some 3), (14, some 4)], false⟩, ⟨[0], [0, 1, 2, 3, 4, 5], [(12, some 2), (15, some 5)], false⟩, ⟨[0], [0, 1, 2, 3, 4, 5, 6], [(12, some 2), (16, some 6)], false⟩, ⟨[0], [0, 1, 2, 3, 4, 5, 6, 7], [(12, some 2), (17, some 7)], false⟩, ⟨[0], [0, 1, 2, 3, 4, 5, 6, 7, 8], [(12, some 2), (18, some 8)], false⟩, ⟨[0], [0, 1, 2, 3, 4, 5, 6, 7, 8, 9], [(12, some 2), (19, some 9)], false⟩, ⟨[0], [0, 1, 2, 3, 4, 5, 6, 7, 8, 9, 10], [(20, some 10)], false⟩, ⟨[0], [0, 1, 2, 3, 4, 5, 6, 7, 8, 9, 10, 11], [(0, none), (21, some 11)], false⟩, ⟨[0], [0, 1, 2, 3, 4, 5, 6, 7, 8, 9, 10, 11], [(3, none), (21, some 11)], false⟩, ⟨[0], [0, 1, 2, 3, 4, 5, 6, 7, 8, 9, 10, 11, 12, 13], [(21, some 11), (22, some 12), (23, some 13)], false⟩, ⟨[0], [0, 1, 2, 3, 4, 5, 6, 7, 8, 9, 10, 11, 12, 13, 14], [(21, some 11), (24, some 14)], false⟩, ⟨[0], [0, 1, 2, 3, 4, 5, 6, 7, 8, 9, 10, 11, 12, 13, 14, 15], [(21, some 11), (25, some 15)], false⟩, ⟨[0], [0, 1, 2, 3, 4, 5, 6, 7, 8, 9, 10, 11, 12, 13, 14, 15, 16], [(21, some 11), (26, some 16)], false⟩, ⟨[0], [0, 1, 2, 3, 4, 5, 6, 7, 8, 9, 10, 11, 12, 13, 14, 15, 16, 17], [(21, some 11), (27, some 17)], false⟩, ⟨[0], [0, 1, 2, 3, 4, 5, 6, 7, 8, 9, 10, 11, 12, 13, 14, 15, 16, 17, 18], [(21, some 11), (28, some 18)], false⟩, ⟨[0], [0, 1, 2, 3, 4, 5, 6, 7, 8, 9, 10, 11, 12, 13, 14, 15, 16, 17, 18, 19], [(29, some 19)], false⟩, ⟨[0], [0, 1, 2, 3, 4, 5, 6, 7, 8, 9, 10, 11, 12, 13, 14, 15, 16, 17, 18, 19, 20], [(3, none), (30, some 20)], false⟩, ⟨[0], [0, 1, 2, 3, 4, 5, 6, 7, 8, 9, 10, 11, 12, 13, 14, 15, 16, 17, 18, 19, 20, 21], [(30, some 20), (31, some 21)], false⟩, ⟨[0], [0, 1, 2, 3, 4, 5, 6, 7, 8, 9, 10, 11, 12, 13, 14, 15, 16, 17, 18, 19, 20, 21, 22], [(30, some 20), (32, some 22)], false⟩, ⟨[0], [0, 1, 2, 3, 4, 5, 6, 7, 8, 9, 10, 11, 12, 13, 14, 15, 16, 17, 18, 19, 20, 21, 22, 23], [(0, none), (33, some 23)], false⟩, ⟨[0], [0, 1, 2, 3, 4, 5, 6, 7, 8, 9, 10, 11, 12, 13, 14, 15, 16, 17, 18, 19, 20, 21, 22, 23], [(3, none), (33, some 23)], false⟩, ⟨[0], [0, 1, 2, 3, 4, 5, 6, 7, 8, 9, 10, 11, 12, 13, 14, 15, 16, 17, 18, 19, 20, 21, 22, 23, 25], [(33, some 23), (35, some 25)], false⟩, ⟨[0], [0, 1, 2, 3, 4, 5, 6, 7, 8, 9, 10, 11, 12, 13, 14, 15, 16, 17, 18, 19, 20, 21, 22, 23, 24, 25, 26], [(33, some 23), (34, some 24), (36, some 26)], false⟩, ⟨[0], [0, 1, 2, 3, 4, 5, 6, 7, 8, 9, 10, 11, 12, 13, 14, 15, 16, 17, 18, 19, 20, 21, 22, 23, 24, 25, 26, 27], [(33, some 23), (37, some 27)], false⟩, ⟨[0], [0, 1, 2, 3, 4, 5, 6, 7, 8, 9, 10, 11, 12, 13, 14, 15, 16, 17, 18, 19, 20, 21, 22, 23, 24, 25, 26, 27, 28], [(33, some 23), (38, some 28)], false⟩, ⟨[0], [0, 1, 2, 3, 4, 5, 6, 7, 8, 9, 10, 11, 12, 13, 14, 15, 16, 17, 18, 19, 20, 21, 22, 23], [(0, none), (33, some 23)], false⟩, ⟨[0], [0, 1, 2, 3, 4, 5, 6, 7, 8, 9, 10, 11, 12, 13, 14, 15, 16, 17, 18, 19, 20, 21, 22, 23], [(3, none), (33, some 23)], false⟩, ⟨[0], [0, 1, 2, 3, 4, 5, 6, 7, 8, 9, 10, 11, 12, 13, 14, 15, 16, 17, 18, 19, 20, 21, 22, 23, 30, 31], [(33, some 23), (40, some 30), (41, some 31)], false⟩, ⟨[0], [0, 1, 2, 3, 4, 5, 6, 7, 8, 9, 10, 11, 12, 13, 14, 15, 16, 17, 18, 19, 20, 21, 22, 23, 30, 31, 32], [(33, some 23), (42, some 32)], false⟩, ⟨[0], [0, 1, 2, 3, 4, 5, 6, 7, 8, 9, 10, 11, 12, 13, 14, 15, 16, 17, 18, 19, 20, 21, 22, 23, 30, 31, 32, 33], [(33, some 23), (43, some 33)], false⟩, ⟨[], [0, 1, 2, 3, 4, 5, 6, 7, 8, 9, 10, 11, 12, 13, 14, 15, 16, 17, 18, 19, 20, 21, 22, 23, 24, 25, 26, 27, 28, 29, 30, 31, 32, 33, 34], [], false⟩, ⟨[], [0, 1, 2, 3, 4, 5, 6, 7, 8, 9, 10, 11, 12, 13, 14, 15, 16, 17, 18, 19, 20, 21, 22, 23, 24, 25, 26, 27, 28, 29, 30, 31, 32, 33, 34, 35], [], false⟩, ⟨[], [0, 1, 2, 3, 4, 5, 6, 7, 8, 9, 10, 11, 12, 13, 14, 15, 16, 17, 18, 19, 20, 21, 22, 23, 24, 25, 26, 27, 28, 29, 30, 31, 32, 33, 34, 35, 36], [], false⟩] 35 (by kernel_rfl) (by kernel_rfl)
              · refine ⟨?_, ?_, ?_, ?_, ?_, ?_, ?_, ?_, ?_, ?_, ?_, ?_, ?_, ?_, ?_, ?_, ?_, ?_, ?_, ?_, ?_, ?_, ?_, ?_, ?_, ?_, ?_, ?_, ?_, ?_, ?_, ?_, ?_, ?_, ?_, trivial⟩
                · intro tm hr
                  simp [AllL, rdV] at hr
                  simp [hr, hl, hx, hy, hok, hi0, hw', k41, k42, k43, k44]
                  exact KD.mk
                · intro tm hr
                  simp [AllL, rdV] at hr
                  simp [hr, hl, hx, hy, hok, hi0, hw', k41, k42, k43, k44]
                  exact KD.mk
                · intro tm hr
                  simp [AllL, rdV] at hr
                  simp [hr, hl, hx, hy, hok, hi0, hw', k41, k42, k43, k44]
                  exact KD.mk
                · intro tm hr
                  simp [AllL, rdV] at hr
                  simp [hr, hl, hx, hy, hok, hi0, hw', k41, k42, k43, k44]
                  exact KD.mk
                · intro tm hr
                  simp [AllL, rdV] at hr
                  simp [hr, hl, hx, hy, hok, hi0, hw', k41, k42, k43, k44]
                  exact KD.mk
                · intro tm hr
                  simp [AllL, rdV] at hr
                  simp [hr, hl, hx, hy, hok, hi0, hw', k41, k42, k43, k44]
                  exact KD.mk
                · intro tm hr
                  simp [AllL, rdV] at hr
                  simp [hr, hl, hx, hy, hok, hi0, hw', k41, k42, k43, k44]
                  exact KD.mk
                · intro tm hr
                  simp [AllL, rdV] at hr
                  simp [hr, hl, hx, hy, hok, hi0, hw', k41, k42, k43, k44]
                  exact KD.mk
                · intro tm hr
                  simp [AllL, rdV] at hr
                  simp [hr, hl, hx, hy, hok, hi0, hw', k41, k42, k43, k44]
                  exact KD.mk
                · intro tm hr
                  simp [AllL, rdV] at hr
                  simp [hr, hl, hx, hy, hok, hi0, hw', k41, k42, k43, k44]
                  exact KD.mk
                · intro tm hr
                  simp [AllL, rdV] at hr
                  simp [hr, hl, hx, hy, hok, hi0, hw', k41, k42, k43, k44]
                  exact KD.mk
                · intro tm hr
                  simp [AllL, rdV] at hr
                  simp [hr, hl, hx, hy, hok, hi0, hw', k41, k42, k43, k44]
                  exact KD.mk
                · intro tm hr
                  simp [AllL, rdV] at hr
                  simp [hr, hl, hx, hy, hok, hi0, hw', k41, k42, k43, k44]
                  exact KD.mk
                · intro tm hr
                  simp [AllL, rdV] at hr
                  simp [hr, hl, hx, hy, hok, hi0, hw', k41, k42, k43, k44]
                  exact KD.mk
                · intro tm hr
                  simp [AllL, rdV] at hr
                  simp [hr, hl, hx, hy, hok, hi0, hw', k41, k42, k43, k44]
                  exact KD.mk
                · intro tm hr
                  simp [AllL, rdV] at hr
                  simp [hr, hl, hx, hy, hok, hi0, hw', k41, k42, k43, k44]
                  exact KD.mk
                · intro tm hr
                  simp [AllL, rdV] at hr
                  simp [hr, hl, hx, hy, hok, hi0, hw', k41, k42, k43, k44]
                  exact KD.mk
                · intro tm hr
                  simp [AllL, rdV] at hr
                  simp [hr, hl, hx, hy, hok, hi0, hw', k41, k42, k43, k44]
                  exact KD.mk
                · intro tm hr
                  simp [AllL, rdV] at hr
                  simp [hr, hl, hx, hy, hok, hi0, hw', k41, k42, k43, k44]
                  exact KD.mk
                · intro tm hr
                  simp [AllL, rdV] at hr
                  simp [hr, hl, hx, hy, hok, hi0, hw', k41, k42, k43, k44]
                  exact KD.mk
                · intro tm hr
                  simp [AllL, rdV] at hr
                  simp [hr, hl, hx, hy, hok, hi0, hw', k41, k42, k43, k44]
                  exact KD.mk
                · intro tm hr
                  simp [AllL, rdV] at hr
                  simp [hr, hl, hx, hy, hok, hi0, hw', k41, k42, k43, k44]
                  exact KD.mk
                · intro tm hr
                  simp [AllL, rdV] at hr
                  simp [hr, hl, hx, hy, hok, hi0, hw', k41, k42, k43, k44]
                  exact KD.mk
                · intro tm hr
                  simp [AllL, rdV] at hr
                  simp [hr, hl, hx, hy, hok, hi0, hw', k41, k42, k43, k44]
                  exact KD.mk
                · intro tm hr
                  simp [AllL, rdV] at hr
                  simp [hr, hl, hx, hy, hok, hi0, hw', k41, k42, k43, k44]
                  exact KD.mk
                · intro tm hr
                  simp [AllL, rdV] at hr
                  simp [hr, hl, hx, hy, hok, hi0, hw', k41, k42, k43, k44]
                  exact KD.mk
                · intro tm hr
                  simp [AllL, rdV] at hr
                  simp [hr, hl, hx, hy, hok, hi0, hw', k41, k42, k43, k44]
                  exact KD.mk
                · intro tm hr
                  simp [AllL, rdV] at hr
                  simp [hr, hl, hx, hy, hok, hi0, hw', k41, k42, k43, k44]
                  exact KD.mk
                · intro tm hr
                  simp [AllL, rdV] at hr
                  simp [hr, hl, hx, hy, hok, hi0, hw', k41, k42, k43, k44]
                  exact KD.mk
                · intro tm hr
                  simp [AllL, rdV] at hr
                  simp [hr, hl, hx, hy, hok, hi0, hw', k41, k42, k43, k44]
                  exact KD.mk
                · intro tm hr
                  simp [AllL, rdV] at hr
                  simp [hr, hl, hx, hy, hok, hi0, hw', k41, k42, k43, k44]
                  exact KD.mk
                · intro tm hr
                  simp [AllL, rdV] at hr
                  simp [hr, hl, hx, hy, hok, hi0, hw', k41, k42, k43, k44]
                  exact KD.mk
                · intro tm hr
                  simp [AllL, rdV] at hr
                  simp [hr, hl, hx, hy, hok, hi0, hw', k41, k42, k43, k44]
                  exact KD.mk
                · intro tm hr
                  simp [AllL, rdV] at hr
                  simp [hr, hl, hx, hy, hok, hi0, hw', k41, k42, k43, k44]
                  exact KD.mk
                · intro tm hr
                  simp [AllL, rdV] at hr
                  simp [hr, hl, hx, hy, hok, hi0, hw', k41, k42, k43, k44]
                  exact KD.mk
              · rfl
              · simp [tmD, putD, hl, hx, hy, hok, hi0, hw', k41, k42, k43, k44]; rfl
              · simp [hl, hx, hy, hok, hi0, hw', k41, k42, k43, k44]
                rfl
              exact ⟨rfl, Weak.keep _ (by simp [hl, hx, hy, hok, hi0, hw', k41, k42, k43, k44])⟩
    simp only [List.cons_append, List.nil_append]
    refine AW.cond rfl (fun h4 => ?_) (fun h4 => ?_)
    · simp at h4
      refine AW.step (by simp [hl]; rfl) ?_
      refine AW.ret ?_
      refine Left.plain hnb (by simp [Try.f26, resV, resC, comp, hl]; rfl) rfl rfl ?_
      simp [risingF, all_range_no h2 h4]
    · simp at h4
      refine AW.skip ?_
      simp only [Post.seq, Post.block, if_true]
      refine AW.last (by simp [hl]; rfl) ?_
      simp only [Post.seq, Post.block, if_true]
      refine ⟨i + 1, Weak.keep _ (by simp [i64_succ (show i + 1 ≤ 9223372036854775807 by omega)]), ⟨by omega, all_range_succ g2 h4⟩, by omega⟩
  · try simp at h2
    refine AW.exit ?_
    simp only [Post.seq, Post.block, if_true]
    have hi : i = l.length := by omega
    subst hi
    refine AW.step (by simp [hl]; rfl) ?_
    refine AW.ret ?_
    refine Left.plain hnb (by simp [Try.f26, resV, resC, comp, hl]; rfl) rfl rfl ?_
    simp [risingF, g2]
theorem en_l7rising : Enters Try.prog 26 := enters Try.func26 (by kernel_rfl) rfl
end Go.Proofs.Ytlkhfdccapkcdaa
/- Laws of rising fields. No program in sight. -/
namespace Go.Proofs.Ytlkhfdccapkcdaa
open Go Go.RowKit
set_option linter.unusedVariables false
set_option linter.unusedSimpArgs false
theorem sorted_of_adj {α : Type} {key : α → ByteArray} : ∀ l : List α, (∀ i x y, l[i]? = some x → l[i + 1]? = some y → slt (key x) (key y) = true) → l.Pairwise (fun a b => slt (key a) (key b) = true)
  | [], _ => .nil
  | [a], _ => by simp
  | a :: b :: l, h => by
    have tl := sorted_of_adj (b :: l) fun i x y hx hy => h (i + 1) x y (by simpa using hx) (by simpa using hy)
    have hab := h 0 a b rfl rfl
    refine .cons (fun c hc => ?_) tl
    rcases List.mem_cons.1 hc with rfl | hc
    · exact hab
    · exact slt_trans hab ((List.pairwise_cons.1 tl).1 c hc)
theorem split_sorted {α : Type} {key : α → ByteArray} (name : ByteArray) : ∀ l : List α, l.Pairwise (fun a b => slt (key a) (key b) = true) → ∃ A B, l = A ++ B ∧ (∀ a ∈ A, slt (key a) name = true) ∧ (B = [] ∨ ∃ x B', B = x :: B' ∧ slt (key x) name = false ∧ ∀ b ∈ B', slt name (key b) = true)
  | [], _ => ⟨[], [], rfl, by simp, .inl rfl⟩
  | a :: l, h => by
    obtain ⟨h1, h2⟩ := List.pairwise_cons.1 h
    cases hs : slt (key a) name
    · refine ⟨[], a :: l, rfl, by simp, .inr ⟨a, l, rfl, hs, fun b hb => ?_⟩⟩
      rcases (slt_or _ _).1 hs with e | e
      · rw [← e]; exact h1 b hb
      · exact slt_trans e (h1 b hb)
    · obtain ⟨A, B, rfl, h3, h4⟩ := split_sorted name l h2
      exact ⟨a :: A, B, rfl, fun x hx => by rcases List.mem_cons.1 hx with rfl | hx; exact hs; exact h3 x hx, h4⟩
theorem seek_split {α : Type} [Inhabited α] {key : α → ByteArray} {name : ByteArray} {A B : List α} (hA : ∀ a ∈ A, slt (key a) name = true) (hB : B = [] ∨ ∃ x B', B = x :: B' ∧ slt (key x) name = false ∧ ∀ b ∈ B', slt name (key b) = true) :
    bs (fun i => decide (cmpB (key ((A ++ B).getD i default)) name < 0)) 0 (A ++ B).length = A.length := by
  refine bs_first _ _ _ _ (Nat.zero_le _) (by simp) fun i _ hi => ?_
  rw [decide_eq_decide, cmpB_lt]
  rcases Nat.lt_or_ge i A.length with h | h
  · have e : (A ++ B).getD i default = A[i] := by
      rw [List.getD_eq_getElem?_getD, List.getElem?_append_left h, List.getElem?_eq_getElem h]; rfl
    rw [e]
    exact ⟨fun _ => h, fun _ => hA _ (List.getElem_mem h)⟩
  · have hi' : i - A.length < B.length := by simp at hi; omega
    have e : (A ++ B).getD i default = B[i - A.length] := by
      rw [List.getD_eq_getElem?_getD, List.getElem?_append_right h, List.getElem?_eq_getElem hi']; rfl
    rw [e]
    have hno : slt (key B[i - A.length]) name = false := by
      rcases hB with rfl | ⟨x, B', rfl, hx, hB'⟩
      · simp at hi'
      · rcases List.mem_cons.1 (List.getElem_mem hi') with e | e
        · rw [e]; exact hx
        · exact slt_asymm (hB' _ e)
    rw [hno]
    simp
    omega
theorem rising_pw {l : List Field} (h : risingF l = true) : l.Pairwise (fun a b => slt a.name b.name = true) := by
  refine sorted_of_adj l fun i x y hx hy => ?_
  have hi := (List.getElem?_eq_some_iff.1 hy).1
  have h1 := List.all_eq_true.1 h (i + 1) (List.mem_range.2 hi)
  simp only [okF, hy, Nat.add_sub_cancel, hx] at h1
  simp at h1
  exact h1.2
theorem rising_len {l : List Field} (h : risingF l = true) : l.length ≤ 101 := by
  apply Nat.le_of_not_lt
  intro hlt
  have h1 := List.all_eq_true.1 h 101 (List.mem_range.2 hlt)
  have h2 : l[101]? = some l[101] := List.getElem?_eq_getElem hlt
  have h3 : l[101 - 1]? = some l[100] := List.getElem?_eq_getElem (by omega)
  simp only [okF, h2, h3] at h1
  simp at h1
theorem rising_split {l : List Field} (h : risingF l = true) (name : ByteArray) : ∃ A B, l = A ++ B ∧ (∀ a ∈ A, slt a.name name = true) ∧ (B = [] ∨ ∃ x B', B = x :: B' ∧ slt x.name name = false ∧ ∀ b ∈ B', slt name b.name = true) ∧ seekField l name = A.length := by
  obtain ⟨A, B, rfl, hA, hB⟩ := split_sorted name l (rising_pw h)
  exact ⟨A, B, rfl, hA, hB, seek_split hA hB⟩
theorem mid_get {α : Type} [Inhabited α] (A : List α) (x : α) (B : List α) : (A ++ x :: B).getD A.length default = x := by simp
theorem ne_of_slt' {a b : ByteArray} (h : slt a b = true) : b ≠ a := fun e => slt_ne h e.symm
theorem has_split {A B : List Field} {name : ByteArray} (hs : seekField (A ++ B) name = A.length) : hasField (A ++ B) name = (match B with | [] => false | x :: _ => decide (x.name = name)) := by
  unfold hasField
  rw [hs]
  cases B with
  | nil => simp
  | cons x B =>
    rw [mid_get, decide_eq_decide, cmpB_eq]
    simp
theorem find_split {A B : List Field} {name : ByteArray} (hA : ∀ a ∈ A, slt a.name name = true) (hB : B = [] ∨ ∃ x B', B = x :: B' ∧ slt x.name name = false ∧ ∀ b ∈ B', slt name b.name = true) :
    hgetF (A ++ B) name = (match B with | [] => none | x :: _ => if x.name = name then some x else none) := by
  unfold hgetF
  have h1 : A.find? (fun f => decide (f.name = name)) = none := List.find?_eq_none.2 fun a ha => by simpa using slt_ne (hA a ha)
  rw [List.find?_append, h1, Option.none_or]
  rcases hB with rfl | ⟨x, B', rfl, hx, hB'⟩
  · rfl
  · have h2 : B'.find? (fun f => decide (f.name = name)) = none := List.find?_eq_none.2 fun a ha => by simpa using ne_of_slt' (hB' a ha)
    rw [List.find?_cons, h2]
    by_cases e : x.name = name <;> simp [e]
theorem get_same {l : List Field} (h : risingF l = true) (name : ByteArray) : hasField l name = (hgetF l name).isSome ∧ (bif hasField l name then (l.getD (seekField l name) default).val else ⟨#[]⟩) = valOf (hgetF l name) := by
  obtain ⟨A, B, rfl, hA, hB, hs⟩ := rising_split h name
  rw [find_split hA hB, has_split hs, hs]
  cases B with
  | nil => simp [valOf]
  | cons x B =>
    rw [mid_get]
    by_cases e : x.name = name <;> simp [e, valOf]
theorem del_same {l : List Field} (h : risingF l = true) (name : ByteArray) : delF l name = hdelF l name := by
  obtain ⟨A, B, rfl, hA, hB, hs⟩ := rising_split h name
  unfold delF hdelF
  rw [has_split hs, hs]
  have h1 : A.filter (fun f => !decide (f.name = name)) = A := List.filter_eq_self.2 fun a ha => by simpa using slt_ne (hA a ha)
  rw [List.filter_append, h1]
  rcases hB with rfl | ⟨x, B', rfl, hx, hB'⟩
  · simp
  · have h2 : B'.filter (fun f => !decide (f.name = name)) = B' := List.filter_eq_self.2 fun a ha => by simpa using ne_of_slt' (hB' a ha)
    by_cases e : x.name = name
    · simp [e, delA, h2, List.drop_append]
    · simp [e, h2]
theorem fold_low {name val : ByteArray} : ∀ (A out : List Field), (∀ a ∈ A, slt a.name name = true) → A.foldl (hsetS name val) (out, false) = (out ++ A, false)
  | [], out, _ => by simp
  | a :: A, out, h => by
    have ha := h a (by simp)
    have e : hsetS name val (out, false) a = (out ++ [a], false) := by simp [hsetS, hsetS1, ha, slt_ne ha]
    rw [List.foldl_cons, e, fold_low A _ fun x hx => h x (by simp [hx])]
    simp
theorem fold_high {name val : ByteArray} : ∀ (B out : List Field), (∀ b ∈ B, slt name b.name = true) → B.foldl (hsetS name val) (out, true) = (out ++ B, true)
  | [], out, _ => by simp
  | a :: B, out, h => by
    have ha := h a (by simp)
    have e : hsetS name val (out, true) a = (out ++ [a], true) := by simp [hsetS, hsetS1, ne_of_slt' ha]
    rw [List.foldl_cons, e, fold_high B _ fun x hx => h x (by simp [hx])]
    simp
theorem set_same {l : List Field} (h : risingF l = true) (name val : ByteArray) : setF l name val = hsetF l name val := by
  obtain ⟨A, B, rfl, hA, hB, hs⟩ := rising_split h name
  unfold setF hsetF hsetA
  rw [has_split hs, hs, List.take_length, List.foldl_append, fold_low A [] hA]
  rcases hB with rfl | ⟨x, B', rfl, hx, hB'⟩
  · simp [insA]
  · rw [List.foldl_cons]
    by_cases e : x.name = name
    · have e1 : hsetS name val (A, false) x = (A ++ [⟨name, val⟩], true) := by simp [hsetS, hsetS1, hx, e, slt_irrefl]
      rw [List.nil_append, e1, fold_high B' _ hB']
      simp [e]
    · have e1 : hsetS name val (A, false) x = (A ++ [⟨name, val⟩] ++ [x], true) := by simp [hsetS, hsetS1, hx, e, slt_irrefl]
      rw [List.nil_append, e1, fold_high B' _ hB']
      simp [e, insA]
end Go.Proofs.Ytlkhfdccapkcdaa
/- Walks: HashAll. -/
namespace Go.Proofs.Ytlkhfdccapkcdaa
open Go Go.RowKit
set_option linter.unusedVariables false
set_option linter.unusedSimpArgs false
theorem set_nil (name val : ByteArray) : setF [] name val = [⟨name, val⟩] := by
  have h : seekField [] name = 0 := by simp [seekField, bs]
  have h2 : hasField [] name = false := by simp [hasField]
  simp [setF, h, h2, insA]
set_option maxRecDepth 8000 in
set_option maxHeartbeats 8000000 in
theorem s_l7awake : Sound Try.prog 20 [] [] (.l (.s (.bool true))) [] := by
  refine Sound.of_aw (fn := Try.f20) (c := _) Try.func20 rfl (by simp [Try.f20]) fun cx hG hnb => ?_
  rw [show Try.f20.ntmps = 18 from rfl]
  have hn0 : cx.nb = 0 := hnb
  refine AW.step (by simp; rfl) ?_
  apply AW.step
  · simp [set_nil]
    refine xcall_plain en_hSet (z_hSet [] _ _ (by simp)) rfl ⟨.nil _ _, .same rfl, .same rfl, trivial⟩ ?_
    try simp [set_nil]
    rfl
  apply AW.step
  · simp
    refine xcall_plain en_hNames (z_hNames [] (by simp)) rfl ⟨.nil _ _, trivial⟩ ?_
    try simp
    rfl
  refine AW.ret ?_
  refine Left.plain hnb (by simp [Try.f20, resV, resC, comp]; rfl) rfl rfl ?_
  simp
theorem en_l7awake : Enters Try.prog 20 := enters Try.func20 (by kernel_rfl) rfl
set_option maxRecDepth 8000 in
set_option maxHeartbeats 8000000 in
theorem s_HashAll (l : List Field) (name val : ByteArray) : Sound Try.prog 6 [.l (.d false 2 ((encField l))), .l (.s (.string name)), .l (.s (.string val))] [] (.l (.s (.bool true))) [] := by
  refine Sound.of_aw (fn := Try.f6) (c := _) Try.func6 rfl (by simp [Try.f6]) fun cx hG hnb => ?_
  rw [show Try.f6.ntmps = 89 from rfl]
  have hn0 : cx.nb = 0 := hnb
  refine AW.len_d 0 rfl fun hl => ?_
  simp only [encField_length] at hl
  refine AW.step (by simp [hl]; rfl) ?_
  refine AW.seq ?_
  refine AW.joinR [11, 12, 13, 14, 15, 16, 17, 18, 19, 20, 21, 22, 23] [(23, .l (.s (.bool (!risingF l || decide ((300 : Int) < name.size) || decide ((300 : Int) < val.size)))))] (by simp; rfl) ?_ ?_
  · by_cases k11 : risingF l = false
    · apply AW.last
      · simp [hl, k11]
        refine xcall_plain en_l7rising (s_l7rising _) rfl ⟨.d _ _ _, trivial⟩ ?_
        try simp [hl, k11]
        rfl
      exact ⟨rfl, Weak.keep _ (by simp [hl, k11])⟩
    · by_cases k12 : (300 : Int) < (name.size : Int)
      · apply AW.last
        · simp [hl, k11, k12]
          refine xcall_plain en_l7rising (s_l7rising _) rfl ⟨.d _ _ _, trivial⟩ ?_
          try simp [hl, k11, k12]
          rfl
        exact ⟨rfl, Weak.keep _ (by simp [hl, k11, k12])⟩
      · by_cases k13 : (300 : Int) < (val.size : Int)
        · apply AW.last
          · simp [hl, k11, k12, k13]
            refine xcall_plain en_l7rising (s_l7rising _) rfl ⟨.d _ _ _, trivial⟩ ?_
            try simp [hl, k11, k12, k13]
            rfl
          exact ⟨rfl, Weak.keep _ (by simp [hl, k11, k12, k13])⟩
        · apply AW.last
          · simp [hl, k11, k12, k13]
            refine xcall_plain en_l7rising (s_l7rising _) rfl ⟨.d _ _ _, trivial⟩ ?_
            try simp [hl, k11, k12, k13]
            rfl
          exact ⟨rfl, Weak.keep _ (by simp [hl, k11, k12, k13])⟩
  simp only [List.cons_append, List.nil_append]
  refine AW.cond rfl (fun h1 => ?_) (fun h1 => ?_)
  · try simp at h1
    apply AW.step
    · simp [hl]
      refine xcall_plain en_l7awake (s_l7awake) rfl trivial ?_
      try simp [hl]
      rfl
    refine AW.ret ?_
    refine Left.plain hnb (by simp [Try.f6, resV, resC, comp, hl]; rfl) rfl rfl ?_
    simp [hl]
  · simp at h1
    obtain ⟨⟨hr, h2⟩, h3⟩ := h1
    have hlen := rising_len hr
    obtain ⟨g1, g2⟩ := get_same hr name
    rw [g1, List.getD_eq_getElem?_getD] at g2
    have g3 := set_same hr name val
    have g4 := del_same hr name
    refine AW.skip ?_
    simp only [Post.seq, Post.block, if_true]
    apply AW.step
    · simp [hl]
      refine xapp_grow (q := (l.length, lvs (encField l))) (z := ⟨105, 2, true, none, []⟩) tb_el31 tb_ti105 (by simp) (by simp [encField_lvsA, ← lvs_eq]) (by simp) (by simp) (by simp) (by simp; omega) ?_
      simp [St.grow, obsBut]
      try simp [hl]
      rfl
    apply AW.step
    · simp [hl]
      refine xcall_plain en_hGet (s_hGet _ _) rfl ⟨.d _ _ _, .same rfl, trivial⟩ ?_
      try simp [hl]
      rfl
    apply AW.step
    · simp [hl]
      refine xcall_plain en_r5HGet (s_r5HGet _ _) rfl ⟨.d _ _ _, .same rfl, trivial⟩ ?_
      try simp [hl]
      rfl
    apply AW.step
    · simp [hl, g1, g2, g3, g4]
      refine xcall_plain en_hSet (z_hSet l name val (by omega)) rfl ⟨.d _ _ _, .same rfl, .same rfl, trivial⟩ ?_
      try simp [hl, g1, g2, g3, g4]
      refine xcall_plain en_r5HSet (z_r5HSet l name val (by omega)) rfl ⟨.d _ _ _, .same rfl, .same rfl, trivial⟩ ?_
      try simp [hl, g1, g2, g3, g4]
      refine xcall_plain en_sameFields (s_sameFields _ _) rfl ⟨.d _ _ _, .d _ _ _, trivial⟩ ?_
      try simp [hl, g1, g2, g3, g4]
      refine xcall_plain en_hDel (z_hDel l name (by omega)) rfl ⟨.d _ _ _, .same rfl, trivial⟩ ?_
      try simp [hl, g1, g2, g3, g4]
      refine xcall_plain en_r5HDel (z_r5HDel l name (by omega)) rfl ⟨.d _ _ _, .same rfl, trivial⟩ ?_
      try simp [hl, g1, g2, g3, g4]
      refine xcall_plain en_sameFields (s_sameFields _ _) rfl ⟨.d _ _ _, .d _ _ _, trivial⟩ ?_
      try simp [hl, g1, g2, g3, g4]
      refine xcall_plain en_hNames (z_hNames l (by omega)) rfl ⟨.same rfl, trivial⟩ ?_
      try simp [hl, g1, g2, g3, g4]
      refine xcall_plain en_r5HNames (z_r5HNames l (by omega)) rfl ⟨.d _ _ _, trivial⟩ ?_
      try simp [hl, g1, g2, g3, g4]
      refine xcall_plain en_r1Texts (s_r1Texts _ _) rfl ⟨.d _ _ _, .d _ _ _, trivial⟩ ?_
      try simp [hl, g1, g2, g3, g4]
      refine xcall_plain en_hVals (z_hVals l (by omega)) rfl ⟨.same rfl, trivial⟩ ?_
      try simp [hl, g1, g2, g3, g4]
      refine xcall_plain en_r5HVals (z_r5HVals l (by omega)) rfl ⟨.d _ _ _, trivial⟩ ?_
      try simp [hl, g1, g2, g3, g4]
      refine xcall_plain en_r1Texts (s_r1Texts _ _) rfl ⟨.d _ _ _, .d _ _ _, trivial⟩ ?_
      try simp [hl, g1, g2, g3, g4]
      refine xcall_plain en_sameFields (s_sameFields l l) rfl ⟨.d _ _ _, .rowd (by simp) rfl (by omega) (encField_sz l) (by simp) (by omega), trivial⟩ ?_
      try simp [hl, g1, g2, g3, g4]
      refine xcall_plain en_l7awake (s_l7awake) rfl trivial ?_
      try simp [hl, g1, g2, g3, g4]
      rfl
    refine AW.ret ?_
    refine Left.plain hnb (by simp [Try.f6, resV, resC, comp, hl, g1, g2, g3, g4]; rfl) rfl rfl ?_
    simp [hl, g1, g2, g3, g4]
theorem en_HashAll : Enters Try.prog 6 := enters Try.func6 (by kernel_rfl) rfl
end Go.Proofs.Ytlkhfdccapkcdaa
/- Rising fields as a dictionary. No program in sight. -/
namespace Go.Proofs.Ytlkhfdccapkcdaa
open Go Go.RowKit
set_option linter.unusedVariables false
set_option linter.unusedSimpArgs false
def Srt (l : List Field) : Prop := l.Pairwise (fun a b => slt a.name b.name = true)
def lookF (l : List Field) (k : ByteArray) : Option Field := l.find? fun f => decide (f.name = k)
theorem look_cons (a : Field) (l : List Field) (k : ByteArray) : lookF (a :: l) k = if a.name = k then some a else lookF l k := by
  unfold lookF
  rw [List.find?_cons]
  by_cases h : a.name = k <;> simp [h]
theorem look_none {l : List Field} {k : ByteArray} (h : ∀ a ∈ l, a.name ≠ k) : lookF l k = none := List.find?_eq_none.2 fun a ha => by simpa using h a ha
theorem look_append (l m : List Field) (k : ByteArray) : lookF (l ++ m) k = (lookF l k).or (lookF m k) := List.find?_append
theorem look_some {l : List Field} {k : ByteArray} {x : Field} (h : lookF l k = some x) : x ∈ l ∧ x.name = k := ⟨List.mem_of_find?_eq_some h, by simpa using List.find?_some h⟩
theorem srt_look {l : List Field} (h : Srt l) {x : Field} (hx : x ∈ l) : lookF l x.name = some x := by
  induction l with
  | nil => cases hx
  | cons a l ih =>
    obtain ⟨h1, h2⟩ := List.pairwise_cons.1 h
    rw [look_cons]
    rcases List.mem_cons.1 hx with rfl | hx
    · simp
    · rw [if_neg (slt_ne (h1 x hx)), ih h2 hx]
/-- Rising fields are told by what they tell. -/
theorem srt_ext : ∀ {l m : List Field}, Srt l → Srt m → (∀ k, lookF l k = lookF m k) → l = m
  | [], [], _, _, _ => rfl
  | [], b :: m, _, _, h => by have := h b.name; rw [look_cons] at this; simp [lookF] at this
  | a :: l, [], _, _, h => by have := h a.name; rw [look_cons] at this; simp [lookF] at this
  | a :: l, b :: m, h1, h2, h => by
    obtain ⟨g1, g2⟩ := List.pairwise_cons.1 h1
    obtain ⟨k1, k2⟩ := List.pairwise_cons.1 h2
    have hab : a = b := by
      have e1 := h a.name
      have e2 := h b.name
      rw [look_cons, if_pos rfl, look_cons] at e1
      rw [look_cons, look_cons, if_pos rfl] at e2
      by_cases e : b.name = a.name
      · rw [if_pos e] at e1
        exact Option.some.inj e1
      · rw [if_neg e] at e1
        rw [if_neg (fun h => e h.symm)] at e2
        have f1 := look_some e1.symm
        have f2 := look_some e2
        have l1 := k1 a f1.1
        have l2 := g1 b f2.1
        rw [slt_asymm l1] at l2
        simp at l2
    subst hab
    congr 1
    refine srt_ext g2 k2 fun k => ?_
    have := h k
    rw [look_cons, look_cons] at this
    by_cases e : a.name = k
    · subst e
      rw [look_none fun x hx => (ne_of_slt' (g1 x hx)), look_none fun x hx => (ne_of_slt' (k1 x hx))]
    · rwa [if_neg e, if_neg e] at this
/-- Where a name stands among rising fields. -/
theorem srt_shape {l : List Field} (h : Srt l) (name val : ByteArray) : ∃ A B C, l = A ++ B ++ C ∧ (∀ a ∈ A, slt a.name name = true) ∧ (∀ c ∈ C, slt name c.name = true) ∧ (B = [] ∨ ∃ x, B = [x] ∧ x.name = name) ∧
    setF l name val = A ++ ⟨name, val⟩ :: C ∧ delF l name = A ++ C ∧ hasField l name = !B.isEmpty ∧ (∀ x, B = [x] → l.getD (seekField l name) default = x) := by
  obtain ⟨A, D, rfl, hA, hD⟩ := split_sorted (key := Field.name) name l h
  have hs : seekField (A ++ D) name = A.length := seek_split hA hD
  rcases hD with rfl | ⟨x, C, rfl, hx, hC⟩
  · have hh : hasField (A ++ []) name = false := has_split hs
    rw [List.append_nil] at hs hh
    refine ⟨A, [], [], by simp, hA, by simp, .inl rfl, ?_, ?_, ?_, by simp⟩
    · simp [setF, hh, hs, insA]
    · simp [delF, hh]
    · simp [hh]
  · by_cases e : x.name = name
    · refine ⟨A, [x], C, by simp, hA, hC, .inr ⟨x, rfl, e⟩, ?_, ?_, ?_, ?_⟩
      · simp [setF, has_split hs, hs, e]
      · simp [delF, has_split hs, hs, e, delA, List.drop_append]
      · simp [has_split hs, e]
      · rintro y hy
        rw [hs, mid_get]
        simpa using hy
    · refine ⟨A, [], x :: C, by simp, hA, ?_, .inl rfl, ?_, ?_, ?_, by simp⟩
      · intro c hc
        rcases List.mem_cons.1 hc with rfl | hc
        · rcases (slt_or _ _).1 hx with h | h
          · exact absurd h e
          · exact h
        · exact hC c hc
      · simp [setF, has_split hs, hs, e, insA]
      · simp [delF, has_split hs, hs, e]
      · simp [has_split hs, e]
theorem pw_mid {A C : List Field} {x : Field} : Srt (A ++ x :: C) ↔ Srt A ∧ Srt C ∧ (∀ a ∈ A, slt a.name x.name = true) ∧ (∀ c ∈ C, slt x.name c.name = true) ∧ (∀ a ∈ A, ∀ c ∈ C, slt a.name c.name = true) := by
  unfold Srt
  rw [List.pairwise_append, List.pairwise_cons]
  constructor
  · rintro ⟨h1, ⟨h2, h3⟩, h4⟩
    exact ⟨h1, h3, fun a ha => h4 a ha x (by simp), h2, fun a ha c hc => h4 a ha c (by simp [hc])⟩
  · rintro ⟨h1, h2, h3, h4, h5⟩
    refine ⟨h1, ⟨h4, h2⟩, fun a ha c hc => ?_⟩
    rcases List.mem_cons.1 hc with rfl | hc
    · exact h3 a ha
    · exact h5 a ha c hc
theorem srt_parts {A B C : List Field} (h : Srt (A ++ B ++ C)) : Srt A ∧ Srt C ∧ Srt (A ++ C) := by
  unfold Srt at h ⊢
  rw [List.append_assoc, List.pairwise_append] at h
  obtain ⟨h1, h2, h3⟩ := h
  obtain ⟨h4, h5, h6⟩ := List.pairwise_append.1 h2
  exact ⟨h1, h5, List.pairwise_append.2 ⟨h1, h5, fun a ha c hc => h3 a ha c (by simp [hc])⟩⟩
theorem srt_set {l : List Field} (h : Srt l) (name val : ByteArray) : Srt (setF l name val) := by
  obtain ⟨A, B, C, rfl, hA, hC, hB, e, -, -⟩ := srt_shape h name val
  rw [e]
  obtain ⟨h1, h2, h3⟩ := srt_parts h
  exact pw_mid.2 ⟨h1, h2, hA, hC, fun a ha c hc => (List.pairwise_append.1 h3).2.2 a ha c hc⟩
theorem srt_del {l : List Field} (h : Srt l) (name : ByteArray) : Srt (delF l name) := by
  obtain ⟨A, B, C, rfl, hA, hC, hB, -, e, -⟩ := srt_shape h name ⟨#[]⟩
  rw [e]
  exact (srt_parts h).2.2
theorem look_set {l : List Field} (h : Srt l) (name val k : ByteArray) : lookF (setF l name val) k = if k = name then some ⟨name, val⟩ else lookF l k := by
  obtain ⟨A, B, C, rfl, hA, hC, hB, e, -, -⟩ := srt_shape h name val
  rw [e, look_append, look_cons, look_append, look_append]
  by_cases hk : k = name
  · subst hk
    rw [look_none fun a ha => slt_ne (hA a ha)]
    simp
  · have : lookF B k = none := by
      rcases hB with rfl | ⟨x, rfl, hx⟩
      · rfl
      · exact look_none fun a ha => by simp at ha; subst ha; rw [hx]; exact fun e => hk e.symm
    rw [this, if_neg hk, if_neg (fun e : name = k => hk e.symm)]
    simp
theorem look_del {l : List Field} (h : Srt l) (name k : ByteArray) : lookF (delF l name) k = if k = name then none else lookF l k := by
  obtain ⟨A, B, C, rfl, hA, hC, hB, -, e, -⟩ := srt_shape h name ⟨#[]⟩
  rw [e, look_append, look_append, look_append]
  by_cases hk : k = name
  · subst hk
    rw [look_none fun a ha => slt_ne (hA a ha), look_none fun a ha => ne_of_slt' (hC a ha)]
    simp
  · have : lookF B k = none := by
      rcases hB with rfl | ⟨x, rfl, hx⟩
      · rfl
      · exact look_none fun a ha => by simp at ha; subst ha; rw [hx]; exact fun e => hk e.symm
    rw [this, if_neg hk]
    simp
theorem has_look {l : List Field} (h : Srt l) (name : ByteArray) : hasField l name = (lookF l name).isSome ∧ (bif hasField l name then (l.getD (seekField l name) default).val else ⟨#[]⟩) = valOf (lookF l name) := by
  obtain ⟨A, B, C, rfl, hA, hC, hB, -, -, e, e2⟩ := srt_shape h name ⟨#[]⟩
  have h1 : lookF A name = none := look_none fun a ha => slt_ne (hA a ha)
  have h2 : lookF C name = none := look_none fun a ha => ne_of_slt' (hC a ha)
  have h3 : lookF (A ++ B ++ C) name = lookF B name := by
    rw [look_append, look_append, h1, h2]
    simp
  rw [h3, e]
  rcases hB with rfl | ⟨x, rfl, hx⟩
  · exact ⟨rfl, rfl⟩
  · rw [e2 x rfl, look_cons, if_pos hx]
    exact ⟨rfl, rfl⟩
theorem len_set {l : List Field} (h : Srt l) (name val : ByteArray) : (setF l name val).length = if (lookF l name).isSome = true then l.length else l.length + 1 := by
  have hh := (has_look h name).1
  obtain ⟨A, B, C, rfl, hA, hC, hB, e, -, e2, -⟩ := srt_shape h name val
  rw [← hh, e, e2]
  rcases hB with rfl | ⟨x, rfl, hx⟩
  · simp; try omega
  · simp; try omega
theorem len_del {l : List Field} (h : Srt l) (name : ByteArray) : (delF l name).length = if (lookF l name).isSome = true then l.length - 1 else l.length := by
  have hh := (has_look h name).1
  obtain ⟨A, B, C, rfl, hA, hC, hB, -, e, e2, -⟩ := srt_shape h name ⟨#[]⟩
  rw [← hh, e, e2]
  rcases hB with rfl | ⟨x, rfl, hx⟩
  · simp
  · simp; try omega
theorem srt_nil : Srt [] := .nil
theorem sameF {l m : List Field} (h1 : Srt l) (h2 : Srt m) : l = m ↔ ∀ k, lookF l k = lookF m k := ⟨fun h k => by rw [h], srt_ext h1 h2⟩
end Go.Proofs.Ytlkhfdccapkcdaa
/- Walks: HashOrder. -/
namespace Go.Proofs.Ytlkhfdccapkcdaa
open Go Go.RowKit
set_option linter.unusedVariables false
set_option linter.unusedSimpArgs false
def kb (x : Int) : ByteArray := ⟨#[UInt8.ofNat (IntKind.u8.wrap (97 + x.tmod 10)).toNat]⟩
def setV (acc : List Field) (x : Int) : List Field := setF acc (kb x) ⟨#[118]⟩
def setsF (l : List Int) : List Field := l.foldl setV []
theorem setsF_snoc (l : List Int) (x : Int) : setsF (l ++ [x]) = setF (setsF l) (kb x) ⟨#[118]⟩ := by simp [setsF, setV]
theorem setsF_take {l : List Int} {i : Nat} {x : Int} (h : l[i]? = some x) : setF (setsF (l.take i)) (kb x) ⟨#[118]⟩ = setsF (l.take (i + 1)) := by rw [← take_snoc h, setsF_snoc]
theorem list_rev {α : Type} {p : List α → Prop} (h0 : p []) (h1 : ∀ l x, p l → p (l ++ [x])) (l : List α) : p l := by
  rw [← l.reverse_reverse]
  induction l.reverse with
  | nil => exact h0
  | cons x m ih => rw [List.reverse_cons]; exact h1 _ _ ih
theorem sets_le (l : List Int) : (setsF l).length ≤ l.length := by
  induction l using list_rev with
  | h0 => simp [setsF]
  | h1 l x ih =>
    rw [setsF_snoc]
    have := setF_le (setsF l) (kb x) ⟨#[118]⟩
    simp
    omega
theorem sets_srt (l : List Int) : Srt (setsF l) := by
  induction l using list_rev with
  | h0 => exact .nil
  | h1 l x ih => rw [setsF_snoc]; exact srt_set ih _ _
theorem sets_look (l : List Int) (k : ByteArray) : lookF (setsF l) k = if (l.any fun x => decide (kb x = k)) = true then some ⟨k, ⟨#[118]⟩⟩ else none := by
  induction l using list_rev with
  | h0 => simp [setsF, lookF]
  | h1 l x ih =>
    rw [setsF_snoc, look_set (sets_srt l), ih]
    by_cases h : k = kb x
    · subst h; simp
    · have : ¬ kb x = k := fun e => h e.symm
      simp [h, this]
theorem sets_rev (l : List Int) : setsF l.reverse = setsF l := by
  refine srt_ext (sets_srt _) (sets_srt _) fun k => ?_
  rw [sets_look, sets_look, List.any_reverse]
theorem set_two {X : List Field} (h : Srt X) (a b u v : ByteArray) (huv : u ≠ v) : decide (setF (setF X a u) b v = setF (setF X b v) a u) = !decide (a = b) := by
  have h1 := srt_set (srt_set h a u) b v
  have h2 := srt_set (srt_set h b v) a u
  by_cases e : a = b
  · subst e
    have : ¬ setF (setF X a u) a v = setF (setF X a v) a u := by
      rw [sameF h1 h2]
      intro hk
      have := hk a
      rw [look_set (srt_set h _ _), look_set (srt_set h _ _)] at this
      simp at this
      exact huv this.symm
    simp [this]
  · have : setF (setF X a u) b v = setF (setF X b v) a u := by
      refine srt_ext h1 h2 fun k => ?_
      rw [look_set (srt_set h _ _), look_set (srt_set h _ _), look_set h, look_set h]
      by_cases h3 : k = a
      · subst h3; simp [e]
      · simp [h3]
    simp [this, e]
theorem set_last {X : List Field} (h : Srt X) (a u v : ByteArray) : setF (setF X a u) a v = setF X a v := by
  refine srt_ext (srt_set (srt_set h _ _) _ _) (srt_set h _ _) fun k => ?_
  rw [look_set (srt_set h _ _), look_set h, look_set h]
  by_cases h3 : k = a <;> simp [h3]
theorem set_there {X : List Field} (h : Srt X) (a v : ByteArray) : hasField (setF X a v) a = true ∧ ((setF X a v)[seekField (setF X a v) a]?.getD default).val = v := by
  obtain ⟨h1, h2⟩ := has_look (srt_set h a v) a
  rw [look_set h] at h1 h2
  simp at h1
  rw [h1, List.getD_eq_getElem?_getD] at h2
  simpa [h1, valOf] using h2
set_option maxRecDepth 8000 in
set_option maxHeartbeats 8000000 in
theorem s_HashOrder (ns : List Int) (a b : ByteArray) : Sound Try.prog 4 [.l (.d false 1 ((encU ns))), .l (.s (.string a)), .l (.s (.string b))] [] (.l (.s (.bool true))) [] := by
  refine Sound.of_aw (fn := Try.f4) (c := _) Try.func4 rfl (by simp [Try.f4]) fun cx hG hnb => ?_
  rw [show Try.f4.ntmps = 111 from rfl]
  have hn0 : cx.nb = 0 := hnb
  refine AW.len_d 0 rfl fun hl => ?_
  simp only [encU_length] at hl
  refine AW.step (by simp [hl]; rfl) ?_
  refine AW.seq ?_
  refine AW.joinR [15, 16, 17, 18, 19, 20, 21, 22, 23, 24, 25, 26, 27] [(27, .l (.s (.bool (decide ((30 : Int) < ns.length) || decide ((60 : Int) < a.size) || decide ((60 : Int) < b.size)))))] (by simp; rfl) ?_ ?_
  · by_cases k11 : (30 : Int) < (ns.length : Int)
    · apply AW.last
      · simp [hl, k11]
        rfl
      exact ⟨rfl, Weak.keep _ (by simp [hl, k11])⟩
    · by_cases k12 : (60 : Int) < (a.size : Int)
      · apply AW.last
        · simp [hl, k11, k12]
          rfl
        exact ⟨rfl, Weak.keep _ (by simp [hl, k11, k12])⟩
      · by_cases k13 : (60 : Int) < (b.size : Int)
        · apply AW.last
          · simp [hl, k11, k12, k13]
            rfl
          exact ⟨rfl, Weak.keep _ (by simp [hl, k11, k12, k13])⟩
        · apply AW.last
          · simp [hl, k11, k12, k13]
            rfl
          exact ⟨rfl, Weak.keep _ (by simp [hl, k11, k12, k13])⟩
  simp only [List.cons_append, List.nil_append]
  refine AW.cond rfl (fun h1 => ?_) (fun h1 => ?_)
  · try simp at h1
    apply AW.step
    · simp [hl]
      refine xcall_plain en_l7awake (s_l7awake) rfl trivial ?_
      try simp [hl]
      rfl
    refine AW.ret ?_
    refine Left.plain hnb (by simp [Try.f4, resV, resC, comp, hl]; rfl) rfl rfl ?_
    simp [hl]
  · simp at h1
    obtain ⟨⟨g1, g2⟩, g3⟩ := h1
    refine AW.skip ?_
    simp only [Post.seq, Post.block, if_true]
    refine AW.step (by simp [hl]; rfl) ?_
    refine AW.seq ?_
    refine AW.step (by simp [hl]; rfl) ?_
    refine AW.block ?_
    refine AW.nilD 7 2 (by simp) ?_
    refine AW.nilD 8 2 (by simp) ?_
    refine AW.loopF (α := Nat) [7, 8, 9, 29, 30, 31, 32, 33, 34, 35, 36, 37, 38, 39, 40, 41, 42, 43, 44, 45, 46, 47, 48, 49, 50, 51, 52, 53, 54, 55, 56, 57, 58] (fun i => [(9, .l (.s (.int .i64 i))), (7, .l (.d false 2 (encField (setsF (ns.take i))))), (8, .l (.d false 2 (encField (setsF (ns.reverse.take i)))))]) (fun _ => []) (fun i => i ≤ ns.length) (fun i => ns.length - i) 0 (by simp; rfl) (by simp [setsF]) (by simp) (Nat.zero_le _) ?_
    intro i hi
    refine AW.seq ?_
    refine AW.step (by simp [hl]; rfl) ?_
    refine AW.cond rfl (fun h5 => ?_) (fun h5 => ?_)
    · simp at h5
      obtain ⟨x, hx⟩ := get_some h5
      obtain ⟨y, hy⟩ := get_some (l := ns.reverse) (i := i) (by simpa using h5)
      have hy' : ns[ns.length - 1 - i]? = some y := by rwa [List.getElem?_reverse (by omega)] at hy
      have hw1 : IntKind.i64.wrap ((ns.length : Int) - 1) = ((ns.length - 1 : Nat) : Int) := by rw [i64_in (by omega) (by omega)]; omega
      have hw2 : IntKind.i64.wrap (((ns.length - 1 : Nat) : Int) - (i : Int)) = ((ns.length - 1 - i : Nat) : Int) := by rw [i64_in (by omega) (by omega)]; omega
      have l1 := sets_le (ns.take i)
      have l2 := sets_le (ns.reverse.take i)
      refine AW.skip ?_
      simp only [Post.seq, Post.block, if_true]
      refine AW.seq ?_
      refine AW.block ?_
      apply AW.step
      · simp [hl, hx]
        refine xcall_plain en_hSet (z_hSet (setsF (ns.take i)) (kb x) ⟨#[118]⟩ (by simp at l1; omega)) rfl ⟨.d _ _ _, .same rfl, .same rfl, trivial⟩ ?_
        try simp [hl, hx]
        rfl
      apply AW.last
      · simp [hl, hy', hw1, hw2]
        refine xcall_plain en_hSet (z_hSet (setsF (ns.reverse.take i)) (kb y) ⟨#[118]⟩ (by simp at l2; omega)) rfl ⟨.d _ _ _, .same rfl, .same rfl, trivial⟩ ?_
        try simp [hl, hy', hw1, hw2]
        rfl
      simp only [Post.seq, Post.block, if_true]
      refine AW.last (by simp [hl]; rfl) ?_
      simp only [Post.seq, Post.block, if_true]
      refine ⟨i + 1, Weak.cut 0 (by omega) (by simp [i64_succ (show i + 1 ≤ 9223372036854775807 by omega), setsF_take hx, setsF_take hy]) (by simp) rfl, by omega, by omega⟩
    · try simp at h5
      refine AW.exit ?_
      simp only [Post.seq, Post.block, if_true]
      have hi : i = ns.length := by omega
      subst hi
      have e1 : ns.take ns.length = ns := List.take_length
      have e2 : setsF (ns.reverse.take ns.length) = setsF ns := by rw [List.take_of_length_le (by simp), sets_rev]
      obtain ⟨X, hX⟩ : ∃ X, X = setsF ns := ⟨_, rfl⟩
      have hS : Srt X := hX ▸ sets_srt ns
      have hXl : X.length ≤ 30 := by have := sets_le ns; rw [← hX] at this; omega
      rw [e1, e2, ← hX]
      have s1 := setF_le X a ⟨#[49]⟩
      have s2 := setF_le X b ⟨#[50]⟩
      have s3 := setF_le X a ⟨#[48]⟩
      have t1 := set_two hS a b ⟨#[49]⟩ ⟨#[50]⟩ (by decide)
      have t2 := set_last hS a ⟨#[48]⟩ ⟨#[51]⟩
      obtain ⟨t3, t4⟩ := set_there hS a ⟨#[51]⟩
      have t5 : (setF X a ⟨#[51]⟩).length ≤ 140737488355328 := by have := setF_le X a ⟨#[51]⟩; omega
      apply AW.step
      · simp [hl]
        refine xcall_plain en_hSet (z_hSet X a ⟨#[49]⟩ (by omega)) rfl ⟨.d _ _ _, .same rfl, .same rfl, trivial⟩ ?_
        try simp [hl]
        refine xcall_plain en_hSet (z_hSet (setF X a ⟨#[49]⟩) b ⟨#[50]⟩ (by omega)) rfl ⟨.d _ _ _, .same rfl, .same rfl, trivial⟩ ?_
        try simp [hl]
        rfl
      apply AW.step
      · simp [hl]
        refine xcall_plain en_hSet (z_hSet X b ⟨#[50]⟩ (by omega)) rfl ⟨.d _ _ _, .same rfl, .same rfl, trivial⟩ ?_
        try simp [hl]
        refine xcall_plain en_hSet (z_hSet (setF X b ⟨#[50]⟩) a ⟨#[49]⟩ (by omega)) rfl ⟨.d _ _ _, .same rfl, .same rfl, trivial⟩ ?_
        try simp [hl]
        rfl
      apply AW.step
      · simp [hl, t2]
        refine xcall_plain en_hSet (z_hSet X a ⟨#[48]⟩ (by omega)) rfl ⟨.d _ _ _, .same rfl, .same rfl, trivial⟩ ?_
        try simp [hl, t2]
        refine xcall_plain en_hSet (z_hSet (setF X a ⟨#[48]⟩) a ⟨#[51]⟩ (by omega)) rfl ⟨.d _ _ _, .same rfl, .same rfl, trivial⟩ ?_
        try simp [hl, t2]
        rfl
      apply AW.step
      · simp [hl, t3, t4]
        refine xcall_plain en_hGet (s_hGet (setF X a ⟨#[51]⟩) a) rfl ⟨.d _ _ _, .same rfl, trivial⟩ ?_
        try simp [hl, t3, t4]
        rfl
      apply AW.step
      · simp [hl, t1, t5]
        refine xcall_plain en_sameFields (s_sameFields X X) rfl ⟨.d _ _ _, .d _ _ _, trivial⟩ ?_
        try simp [hl, t1, t5]
        refine xcall_plain en_sameFields (s_sameFields _ _) rfl ⟨.d _ _ _, .d _ _ _, trivial⟩ ?_
        try simp [hl, t1, t5]
        refine xcall_plain en_hSet (z_hSet X a ⟨#[51]⟩ (by omega)) rfl ⟨.d _ _ _, .same rfl, .same rfl, trivial⟩ ?_
        try simp [hl, t1, t5]
        refine xcall_plain en_l7awake (s_l7awake) rfl trivial ?_
        try simp [hl, t1, t5]
        rfl
      refine AW.ret ?_
      refine Left.plain hnb (by simp [Try.f4, resV, resC, comp, hl, t1, t5]; rfl) rfl rfl ?_
      simp [hl, t1, t5]
theorem en_HashOrder : Enters Try.prog 4 := enters Try.func4 (by kernel_rfl) rfl
end Go.Proofs.Ytlkhfdccapkcdaa
/- Walks: numbers as texts. -/
namespace Go.Proofs.Ytlkhfdccapkcdaa
open Go Go.RowKit
set_option linter.unusedVariables false
set_option linter.unusedSimpArgs false
def dbyte (u : Nat) : UInt8 := UInt8.ofNat (48 + u % 10)
def dB (u : Nat) : ByteArray := ⟨#[dbyte u]⟩
def digF (u : Nat) (s : ByteArray) : ByteArray := if h : 10 ≤ u then digF (u / 10) (dB u ++ s) else dB u ++ s
termination_by u
decreasing_by omega
def digText (n : Int) : ByteArray := if n < 0 then ⟨#[45]⟩ ++ digF n.natAbs ⟨#[]⟩ else digF n.natAbs ⟨#[]⟩
theorem digF_size (u : Nat) (s : ByteArray) : s.size < (digF u s).size ∧ (digF u s).size ≤ s.size + u + 1 := by
  fun_induction digF u s with
  | case1 u s h ih =>
    have e : (dB u ++ s).size = 1 + s.size := by rw [ByteArray.size_append]; rfl
    rw [e] at ih
    omega
  | case2 u s h =>
    have e : (dB u ++ s).size = 1 + s.size := by rw [ByteArray.size_append]; rfl
    omega
theorem digText_size (n : Int) : 0 < (digText n).size ∧ (digText n).size ≤ n.natAbs + 2 := by
  have h := digF_size n.natAbs ⟨#[]⟩
  have e0 : (⟨#[]⟩ : ByteArray).size = 0 := rfl
  rw [e0] at h
  unfold digText
  split
  · rw [ByteArray.size_append, show (⟨#[45]⟩ : ByteArray).size = 1 from rfl]
    omega
  · omega
theorem dig_byte (u : Nat) : UInt8.ofNat (IntKind.u8.wrap (IntKind.u64.wrap (48 + (u : Int).tmod 10))).toNat = dbyte u := by
  unfold dbyte
  congr 1
  rw [Int.tmod_eq_emod_of_nonneg (by omega), wrap_u64, wrap_u8]
  omega
theorem dig_byte2 {u : Nat} (h : u < 10) : UInt8.ofNat (IntKind.u8.wrap (IntKind.u64.wrap (48 + (u : Int)))).toNat = dbyte u := by
  unfold dbyte
  congr 1
  rw [wrap_u64, wrap_u8]
  omega
theorem dig_quo (u : Nat) (h : u < 18446744073709551616) : IntKind.u64.wrap ((u : Int).tdiv 10) = ((u / 10 : Nat) : Int) := by
  rw [Int.tdiv_eq_ediv_of_nonneg (by omega), wrap_u64]
  omega
set_option maxRecDepth 8000 in
set_option maxHeartbeats 8000000 in
theorem s_r1Digits (n : Int) (hn : -9223372036854775808 ≤ n ∧ n ≤ 9223372036854775807) : Sound Try.prog 25 [.l (.s (.int .i64 n))] [] (.l (.s (.string ((digText n))))) [] := by
  refine Sound.of_aw (fn := Try.f25) (c := _) Try.func25 rfl (by simp [Try.f25]) fun cx hG hnb => ?_
  rw [show Try.f25.ntmps = 35 from rfl]
  have hn0 : cx.nb = 0 := hnb
  refine AW.step (by simp; rfl) ?_
  refine AW.step (by simp; rfl) ?_
  refine AW.joinF [3, 7, 8, 9, 10] [(3, .l (.s (.int .u64 (n.natAbs : Int))))] [] (by simp; rfl) ?_ ?_
  · refine AW.step (by simp; rfl) ?_
    refine AW.cond rfl (fun h2 => ?_) (fun h2 => ?_)
    · simp at h2
      have hu : IntKind.u64.wrap (-IntKind.u64.wrap n) = (n.natAbs : Int) := by rw [wrap_u64, wrap_u64]; omega
      refine AW.last (by simp [hu]; rfl) ?_
      simp only [Post.seq, Post.block, if_true]
      exact Weak.cut 0 (by omega) (by first | (simp [hu]; done) | (simp; rw [wrap_u64]; omega)) (by simp) rfl
    · try simp at h2
      refine AW.skip ?_
      simp only [Post.seq, Post.block, if_true]
      exact Weak.cut 0 (by omega) (by first | (simp [hu]; done) | (simp; rw [wrap_u64]; omega)) (by simp) rfl
  simp only [List.cons_append, List.nil_append]
  refine AW.seq ?_
  refine AW.block ?_
  refine AW.loopF (α := Nat × ByteArray) [3, 4, 11, 12, 13, 14, 15, 16, 17, 18, 19, 20, 21, 22] (fun a => [(4, .l (.s (.string a.2))), (3, .l (.s (.int .u64 (a.1 : Int))))]) (fun _ => []) (fun a => digF a.1 a.2 = digF n.natAbs ⟨#[]⟩ ∧ 2 * a.2.size + a.1 ≤ n.natAbs) (fun a => a.1) (n.natAbs, ⟨#[]⟩) (by simp; rfl) (by simp) (by simp) ⟨rfl, by rw [show (⟨#[]⟩ : ByteArray).size = 0 from rfl]; omega⟩ ?_
  rintro ⟨u, s⟩ ⟨g1, g2⟩
  simp only at g1 g2
  refine AW.seq ?_
  refine AW.step (by simp; rfl) ?_
  refine AW.cond rfl (fun h4 => ?_) (fun h4 => ?_)
  · simp at h4
    have k1 := dig_byte u
    have k2 : IntKind.u64.wrap ((u : Int) / 10) = (u : Int) / 10 := by rw [wrap_u64]; omega
    have k2' := dig_quo u (by omega)
    have k3 : (⟨#[dbyte u]⟩ : ByteArray).size + s.size ≤ 9223372036854775807 := by rw [show (⟨#[dbyte u]⟩ : ByteArray).size = 1 from rfl]; omega
    refine AW.skip ?_
    simp only [Post.seq, Post.block, if_true]
    refine AW.block ?_
    refine AW.step (by simp [k1, k3]; rfl) ?_
    refine AW.last (by simp [k2']; rfl) ?_
    simp only [Post.seq, Post.block, if_true]
    refine ⟨(u / 10, dB u ++ s), Weak.cut 0 (by omega) (by simp [dB, k1, k2]) (by simp) rfl, ⟨by rw [← g1, digF.eq_1 u s, dif_pos (by omega)], by rw [ByteArray.size_append, show (dB u).size = 1 from rfl]; simp only; omega⟩, by simp only; omega⟩
  · try simp at h4
    refine AW.exit ?_
    simp only [Post.seq, Post.block, if_true]
    have k1 := dig_byte2 (u := u) (by omega)
    have k3 : (⟨#[dbyte u]⟩ : ByteArray).size + s.size ≤ 9223372036854775807 := by rw [show (⟨#[dbyte u]⟩ : ByteArray).size = 1 from rfl]; omega
    have k4 : digF n.natAbs ⟨#[]⟩ = ⟨#[dbyte u]⟩ ++ s := by rw [← g1, digF, dif_neg (by omega)]; rfl
    refine AW.step (by simp [k1, k3]; rfl) ?_
    refine AW.seq ?_
    refine AW.step (by simp; rfl) ?_
    refine AW.cond rfl (fun h8 => ?_) (fun h8 => ?_)
    · simp at h8
      have k5 : (⟨#[45]⟩ : ByteArray).size + ((⟨#[dbyte u]⟩ : ByteArray).size + s.size) ≤ 9223372036854775807 := by rw [show (⟨#[45]⟩ : ByteArray).size = 1 from rfl, show (⟨#[dbyte u]⟩ : ByteArray).size = 1 from rfl]; omega
      refine AW.step (by simp [k5]; rfl) ?_
      refine AW.ret ?_
      refine Left.plain hnb (by simp [Try.f25, resV, resC, comp, k5]; rfl) rfl rfl ?_
      simp [digText, h8, k4]
    · simp at h8
      have h9 : ¬ n < 0 := by omega
      refine AW.skip ?_
      simp only [Post.seq, Post.block, if_true]
      refine AW.step (by simp; rfl) ?_
      refine AW.ret ?_
      refine Left.plain hnb (by simp [Try.f25, resV, resC, comp]; rfl) rfl rfl ?_
      simp [digText, h9, k4]
theorem en_r1Digits : Enters Try.prog 25 := enters Try.func25 (by kernel_rfl) rfl
end Go.Proofs.Ytlkhfdccapkcdaa
