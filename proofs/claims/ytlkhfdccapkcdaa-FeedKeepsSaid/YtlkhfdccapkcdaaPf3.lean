/- Part 3 of the proof. -/
import Derived.Test.YtlkhfdccapkcdaaPf2
import Derived.Test.YtlkhfdccapkcdaaProg
namespace Go.Proofs.Ytlkhfdccapkcdaa
open Go Go.RowKit
@[simp] theorem tb_ti1 : tiF Try.prog 1 = some ⟨false, 1, 8, [.nilFunc]⟩ := by kernel_rfl
@[simp] theorem tb_un1 : (Try.prog.underlying 1).isSome = true := by kernel_rfl
@[simp] theorem tb_ti2 : tiF Try.prog 2 = some ⟨false, 1, 8, [.int .i64 0]⟩ := by kernel_rfl
@[simp] theorem tb_un2 : (Try.prog.underlying 2).isSome = true := by kernel_rfl
@[simp] theorem tb_ti3 : tiF Try.prog 3 = some ⟨false, 1, 8, [.int .i64 0]⟩ := by kernel_rfl
@[simp] theorem tb_un3 : (Try.prog.underlying 3).isSome = true := by kernel_rfl
@[simp] theorem tb_ti4 : tiF Try.prog 4 = some ⟨false, 1, 1, [.bool false]⟩ := by kernel_rfl
@[simp] theorem tb_un4 : (Try.prog.underlying 4).isSome = true := by kernel_rfl
@[simp] theorem tb_ti5 : tiF Try.prog 5 = some ⟨false, 1, 1, [.int .u8 0]⟩ := by kernel_rfl
@[simp] theorem tb_un5 : (Try.prog.underlying 5).isSome = true := by kernel_rfl
@[simp] theorem tb_ti6 : tiF Try.prog 6 = some ⟨false, 1, 1, [.int .u8 0]⟩ := by kernel_rfl
@[simp] theorem tb_un6 : (Try.prog.underlying 6).isSome = true := by kernel_rfl
@[simp] theorem tb_ti7 : tiF Try.prog 7 = some ⟨true, 4, 24, [.int .i64 0, .int .i64 0, .bool false, .int .u8 0]⟩ := by kernel_rfl
@[simp] theorem tb_un7 : (Try.prog.underlying 7).isSome = true := by kernel_rfl
@[simp] theorem tb_ti8 : tiF Try.prog 8 = some ⟨true, 4, 24, [.int .i64 0, .int .i64 0, .bool false, .int .u8 0]⟩ := by kernel_rfl
@[simp] theorem tb_un8 : (Try.prog.underlying 8).isSome = true := by kernel_rfl
@[simp] theorem tb_ti9 : tiF Try.prog 9 = some ⟨false, 1, 16, [.string ⟨#[]⟩]⟩ := by kernel_rfl
@[simp] theorem tb_un9 : (Try.prog.underlying 9).isSome = true := by kernel_rfl
@[simp] theorem tb_ti10 : tiF Try.prog 10 = some ⟨false, 1, 16, [.string ⟨#[]⟩]⟩ := by kernel_rfl
@[simp] theorem tb_un10 : (Try.prog.underlying 10).isSome = true := by kernel_rfl
@[simp] theorem tb_ti11 : tiF Try.prog 11 = some ⟨false, 1, 16, [.string ⟨#[]⟩]⟩ := by kernel_rfl
@[simp] theorem tb_un11 : (Try.prog.underlying 11).isSome = true := by kernel_rfl
@[simp] theorem tb_ti12 : tiF Try.prog 12 = some ⟨false, 1, 8, [.int .u64 0]⟩ := by kernel_rfl
@[simp] theorem tb_un12 : (Try.prog.underlying 12).isSome = true := by kernel_rfl
@[simp] theorem tb_ti13 : tiF Try.prog 13 = some ⟨true, 2, 24, [.string ⟨#[]⟩, .int .u64 0]⟩ := by kernel_rfl
@[simp] theorem tb_un13 : (Try.prog.underlying 13).isSome = true := by kernel_rfl
@[simp] theorem tb_ti14 : tiF Try.prog 14 = some ⟨true, 2, 24, [.string ⟨#[]⟩, .int .u64 0]⟩ := by kernel_rfl
@[simp] theorem tb_un14 : (Try.prog.underlying 14).isSome = true := by kernel_rfl
@[simp] theorem tb_ti15 : tiF Try.prog 15 = some ⟨false, 1, 8, [.pointer none]⟩ := by kernel_rfl
@[simp] theorem tb_un15 : (Try.prog.underlying 15).isSome = true := by kernel_rfl
@[simp] theorem tb_ti16 : tiF Try.prog 16 = some ⟨false, 1, 8, [.pointer none]⟩ := by kernel_rfl
@[simp] theorem tb_un16 : (Try.prog.underlying 16).isSome = true := by kernel_rfl
@[simp] theorem tb_ti17 : tiF Try.prog 17 = some ⟨false, 1, 8, [.pointer none]⟩ := by kernel_rfl
@[simp] theorem tb_un17 : (Try.prog.underlying 17).isSome = true := by kernel_rfl
@[simp] theorem tb_ti18 : tiF Try.prog 18 = some ⟨true, 1, 8, [.pointer none]⟩ := by kernel_rfl
@[simp] theorem tb_un18 : (Try.prog.underlying 18).isSome = true := by kernel_rfl
@[simp] theorem tb_ti19 : tiF Try.prog 19 = some ⟨true, 1, 8, [.pointer none]⟩ := by kernel_rfl
@[simp] theorem tb_un19 : (Try.prog.underlying 19).isSome = true := by kernel_rfl
@[simp] theorem tb_ti20 : tiF Try.prog 20 = some ⟨false, 1, 16, [.nilIface]⟩ := by kernel_rfl
@[simp] theorem tb_un20 : (Try.prog.underlying 20).isSome = true := by kernel_rfl
@[simp] theorem tb_ti21 : tiF Try.prog 21 = some ⟨false, 1, 4, [.int .i32 0]⟩ := by kernel_rfl
@[simp] theorem tb_un21 : (Try.prog.underlying 21).isSome = true := by kernel_rfl
@[simp] theorem tb_ti22 : tiF Try.prog 22 = some ⟨false, 1, 24, [.slice none 0 0]⟩ := by kernel_rfl
@[simp] theorem tb_un22 : (Try.prog.underlying 22).isSome = true := by kernel_rfl
@[simp] theorem tb_ti23 : tiF Try.prog 23 = some ⟨false, 1, 8, [.nilFunc]⟩ := by kernel_rfl
@[simp] theorem tb_un23 : (Try.prog.underlying 23).isSome = true := by kernel_rfl
@[simp] theorem tb_ti24 : tiF Try.prog 24 = some ⟨false, 1, 24, [.slice none 0 0]⟩ := by kernel_rfl
@[simp] theorem tb_un24 : (Try.prog.underlying 24).isSome = true := by kernel_rfl
@[simp] theorem tb_ti25 : tiF Try.prog 25 = some ⟨false, 1, 8, [.nilFunc]⟩ := by kernel_rfl
@[simp] theorem tb_un25 : (Try.prog.underlying 25).isSome = true := by kernel_rfl
@[simp] theorem tb_ti26 : tiF Try.prog 26 = some ⟨true, 2, 16, [.int .i64 0, .int .i64 0]⟩ := by kernel_rfl
@[simp] theorem tb_un26 : (Try.prog.underlying 26).isSome = true := by kernel_rfl
@[simp] theorem tb_ti27 : tiF Try.prog 27 = some ⟨true, 2, 16, [.int .i64 0, .int .i64 0]⟩ := by kernel_rfl
@[simp] theorem tb_un27 : (Try.prog.underlying 27).isSome = true := by kernel_rfl
@[simp] theorem tb_ti28 : tiF Try.prog 28 = some ⟨true, 7, 72, [.int .i64 0, .int .i64 0, .int .i64 0, .slice none 0 0, .int .i64 0, .int .i64 0, .int .i64 0]⟩ := by kernel_rfl
@[simp] theorem tb_un28 : (Try.prog.underlying 28).isSome = true := by kernel_rfl
@[simp] theorem tb_ti29 : tiF Try.prog 29 = some ⟨true, 7, 72, [.int .i64 0, .int .i64 0, .int .i64 0, .slice none 0 0, .int .i64 0, .int .i64 0, .int .i64 0]⟩ := by kernel_rfl
@[simp] theorem tb_un29 : (Try.prog.underlying 29).isSome = true := by kernel_rfl
@[simp] theorem tb_ti30 : tiF Try.prog 30 = some ⟨false, 1, 8, [.nilFunc]⟩ := by kernel_rfl
@[simp] theorem tb_un30 : (Try.prog.underlying 30).isSome = true := by kernel_rfl
@[simp] theorem tb_ti31 : tiF Try.prog 31 = some ⟨false, 1, 24, [.slice none 0 0]⟩ := by kernel_rfl
@[simp] theorem tb_un31 : (Try.prog.underlying 31).isSome = true := by kernel_rfl
@[simp] theorem tb_ti32 : tiF Try.prog 32 = some ⟨false, 1, 24, [.slice none 0 0]⟩ := by kernel_rfl
@[simp] theorem tb_un32 : (Try.prog.underlying 32).isSome = true := by kernel_rfl
@[simp] theorem tb_ti33 : tiF Try.prog 33 = some ⟨true, 5, 80, [.int .i64 0, .string ⟨#[]⟩, .slice none 0 0, .slice none 0 0, .int .i64 0]⟩ := by kernel_rfl
@[simp] theorem tb_un33 : (Try.prog.underlying 33).isSome = true := by kernel_rfl
@[simp] theorem tb_ti34 : tiF Try.prog 34 = some ⟨true, 5, 80, [.int .i64 0, .string ⟨#[]⟩, .slice none 0 0, .slice none 0 0, .int .i64 0]⟩ := by kernel_rfl
@[simp] theorem tb_un34 : (Try.prog.underlying 34).isSome = true := by kernel_rfl
@[simp] theorem tb_ti35 : tiF Try.prog 35 = some ⟨true, 7, 104, [.string ⟨#[]⟩, .bool false, .int .i64 0, .string ⟨#[]⟩, .slice none 0 0, .slice none 0 0, .int .i64 0]⟩ := by kernel_rfl
@[simp] theorem tb_un35 : (Try.prog.underlying 35).isSome = true := by kernel_rfl
@[simp] theorem tb_ti36 : tiF Try.prog 36 = some ⟨true, 7, 104, [.string ⟨#[]⟩, .bool false, .int .i64 0, .string ⟨#[]⟩, .slice none 0 0, .slice none 0 0, .int .i64 0]⟩ := by kernel_rfl
@[simp] theorem tb_un36 : (Try.prog.underlying 36).isSome = true := by kernel_rfl
@[simp] theorem tb_ti37 : tiF Try.prog 37 = some ⟨false, 1, 8, [.nilFunc]⟩ := by kernel_rfl
@[simp] theorem tb_un37 : (Try.prog.underlying 37).isSome = true := by kernel_rfl
@[simp] theorem tb_ti38 : tiF Try.prog 38 = some ⟨false, 1, 8, [.nilFunc]⟩ := by kernel_rfl
@[simp] theorem tb_un38 : (Try.prog.underlying 38).isSome = true := by kernel_rfl
@[simp] theorem tb_ti39 : tiF Try.prog 39 = some ⟨false, 1, 8, [.nilFunc]⟩ := by kernel_rfl
@[simp] theorem tb_un39 : (Try.prog.underlying 39).isSome = true := by kernel_rfl
@[simp] theorem tb_ti40 : tiF Try.prog 40 = some ⟨false, 1, 8, [.nilFunc]⟩ := by kernel_rfl
@[simp] theorem tb_un40 : (Try.prog.underlying 40).isSome = true := by kernel_rfl
@[simp] theorem tb_ti42 : tiF Try.prog 42 = some ⟨false, 1, 8, [.nilFunc]⟩ := by kernel_rfl
@[simp] theorem tb_un42 : (Try.prog.underlying 42).isSome = true := by kernel_rfl
@[simp] theorem tb_ti43 : tiF Try.prog 43 = some ⟨false, 1, 8, [.nilFunc]⟩ := by kernel_rfl
@[simp] theorem tb_un43 : (Try.prog.underlying 43).isSome = true := by kernel_rfl
@[simp] theorem tb_ti44 : tiF Try.prog 44 = some ⟨false, 1, 8, [.nilFunc]⟩ := by kernel_rfl
@[simp] theorem tb_un44 : (Try.prog.underlying 44).isSome = true := by kernel_rfl
@[simp] theorem tb_ti45 : tiF Try.prog 45 = some ⟨false, 1, 8, [.nilFunc]⟩ := by kernel_rfl
@[simp] theorem tb_un45 : (Try.prog.underlying 45).isSome = true := by kernel_rfl
@[simp] theorem tb_ti46 : tiF Try.prog 46 = some ⟨false, 1, 8, [.nilFunc]⟩ := by kernel_rfl
@[simp] theorem tb_un46 : (Try.prog.underlying 46).isSome = true := by kernel_rfl
@[simp] theorem tb_ti47 : tiF Try.prog 47 = some ⟨false, 1, 8, [.nilFunc]⟩ := by kernel_rfl
@[simp] theorem tb_un47 : (Try.prog.underlying 47).isSome = true := by kernel_rfl
@[simp] theorem tb_ti48 : tiF Try.prog 48 = some ⟨false, 1, 8, [.nilFunc]⟩ := by kernel_rfl
@[simp] theorem tb_un48 : (Try.prog.underlying 48).isSome = true := by kernel_rfl
@[simp] theorem tb_ti49 : tiF Try.prog 49 = some ⟨false, 1, 8, [.nilFunc]⟩ := by kernel_rfl
@[simp] theorem tb_un49 : (Try.prog.underlying 49).isSome = true := by kernel_rfl
@[simp] theorem tb_ti50 : tiF Try.prog 50 = some ⟨true, 2, 24, [.string ⟨#[]⟩, .bool false]⟩ := by kernel_rfl
@[simp] theorem tb_un50 : (Try.prog.underlying 50).isSome = true := by kernel_rfl
@[simp] theorem tb_ti51 : tiF Try.prog 51 = some ⟨true, 2, 24, [.string ⟨#[]⟩, .bool false]⟩ := by kernel_rfl
@[simp] theorem tb_un51 : (Try.prog.underlying 51).isSome = true := by kernel_rfl
@[simp] theorem tb_ti52 : tiF Try.prog 52 = some ⟨false, 1, 8, [.nilFunc]⟩ := by kernel_rfl
@[simp] theorem tb_un52 : (Try.prog.underlying 52).isSome = true := by kernel_rfl
@[simp] theorem tb_ti53 : tiF Try.prog 53 = some ⟨false, 1, 8, [.nilFunc]⟩ := by kernel_rfl
@[simp] theorem tb_un53 : (Try.prog.underlying 53).isSome = true := by kernel_rfl
@[simp] theorem tb_ti54 : tiF Try.prog 54 = some ⟨false, 1, 8, [.nilFunc]⟩ := by kernel_rfl
@[simp] theorem tb_un54 : (Try.prog.underlying 54).isSome = true := by kernel_rfl
@[simp] theorem tb_ti55 : tiF Try.prog 55 = some ⟨false, 1, 1, [.int .i8 0]⟩ := by kernel_rfl
@[simp] theorem tb_un55 : (Try.prog.underlying 55).isSome = true := by kernel_rfl
@[simp] theorem tb_ti56 : tiF Try.prog 56 = some ⟨false, 1, 24, [.slice none 0 0]⟩ := by kernel_rfl
@[simp] theorem tb_un56 : (Try.prog.underlying 56).isSome = true := by kernel_rfl
@[simp] theorem tb_ti58 : tiF Try.prog 58 = some ⟨false, 1, 8, [.nilFunc]⟩ := by kernel_rfl
@[simp] theorem tb_un58 : (Try.prog.underlying 58).isSome = true := by kernel_rfl
@[simp] theorem tb_ti59 : tiF Try.prog 59 = some ⟨false, 1, 24, [.slice none 0 0]⟩ := by kernel_rfl
@[simp] theorem tb_un59 : (Try.prog.underlying 59).isSome = true := by kernel_rfl
@[simp] theorem tb_ti60 : tiF Try.prog 60 = some ⟨false, 1, 24, [.slice none 0 0]⟩ := by kernel_rfl
@[simp] theorem tb_un60 : (Try.prog.underlying 60).isSome = true := by kernel_rfl
@[simp] theorem tb_ti61 : tiF Try.prog 61 = some ⟨true, 15, 168, [.int .i64 0, .int .i64 0, .int .i64 0, .int .i64 0, .slice none 0 0, .slice none 0 0, .int .i64 0, .int .i64 0, .int .i64 0, .int .i64 0, .int .i64 0, .int .i64 0, .int .i64 0, .int .i64 0, .slice none 0 0]⟩ := by kernel_rfl
@[simp] theorem tb_un61 : (Try.prog.underlying 61).isSome = true := by kernel_rfl
@[simp] theorem tb_ti62 : tiF Try.prog 62 = some ⟨true, 15, 168, [.int .i64 0, .int .i64 0, .int .i64 0, .int .i64 0, .slice none 0 0, .slice none 0 0, .int .i64 0, .int .i64 0, .int .i64 0, .int .i64 0, .int .i64 0, .int .i64 0, .int .i64 0, .int .i64 0, .slice none 0 0]⟩ := by kernel_rfl
@[simp] theorem tb_un62 : (Try.prog.underlying 62).isSome = true := by kernel_rfl
@[simp] theorem tb_ti63 : tiF Try.prog 63 = some ⟨false, 1, 8, [.nilFunc]⟩ := by kernel_rfl
@[simp] theorem tb_un63 : (Try.prog.underlying 63).isSome = true := by kernel_rfl
@[simp] theorem tb_ti65 : tiF Try.prog 65 = some ⟨false, 1, 8, [.nilFunc]⟩ := by kernel_rfl
@[simp] theorem tb_un65 : (Try.prog.underlying 65).isSome = true := by kernel_rfl
@[simp] theorem tb_ti66 : tiF Try.prog 66 = some ⟨true, 9, 104, [.int .i64 0, .int .i64 0, .int .i64 0, .slice none 0 0, .int .i64 0, .int .i64 0, .int .i64 0, .slice none 0 0, .bool false]⟩ := by kernel_rfl
@[simp] theorem tb_un66 : (Try.prog.underlying 66).isSome = true := by kernel_rfl
@[simp] theorem tb_ti67 : tiF Try.prog 67 = some ⟨true, 9, 104, [.int .i64 0, .int .i64 0, .int .i64 0, .slice none 0 0, .int .i64 0, .int .i64 0, .int .i64 0, .slice none 0 0, .bool false]⟩ := by kernel_rfl
@[simp] theorem tb_un67 : (Try.prog.underlying 67).isSome = true := by kernel_rfl
@[simp] theorem tb_ti68 : tiF Try.prog 68 = some ⟨false, 1, 8, [.nilFunc]⟩ := by kernel_rfl
@[simp] theorem tb_un68 : (Try.prog.underlying 68).isSome = true := by kernel_rfl
@[simp] theorem tb_ti69 : tiF Try.prog 69 = some ⟨false, 1, 8, [.nilFunc]⟩ := by kernel_rfl
@[simp] theorem tb_un69 : (Try.prog.underlying 69).isSome = true := by kernel_rfl
@[simp] theorem tb_ti70 : tiF Try.prog 70 = some ⟨false, 1, 8, [.nilFunc]⟩ := by kernel_rfl
@[simp] theorem tb_un70 : (Try.prog.underlying 70).isSome = true := by kernel_rfl
@[simp] theorem tb_ti71 : tiF Try.prog 71 = some ⟨false, 1, 8, [.nilFunc]⟩ := by kernel_rfl
@[simp] theorem tb_un71 : (Try.prog.underlying 71).isSome = true := by kernel_rfl
@[simp] theorem tb_ti72 : tiF Try.prog 72 = some ⟨false, 1, 24, [.slice none 0 0]⟩ := by kernel_rfl
@[simp] theorem tb_un72 : (Try.prog.underlying 72).isSome = true := by kernel_rfl
@[simp] theorem tb_ti73 : tiF Try.prog 73 = some ⟨false, 1, 8, [.nilFunc]⟩ := by kernel_rfl
@[simp] theorem tb_un73 : (Try.prog.underlying 73).isSome = true := by kernel_rfl
@[simp] theorem tb_ti74 : tiF Try.prog 74 = some ⟨false, 1, 8, [.nilFunc]⟩ := by kernel_rfl
@[simp] theorem tb_un74 : (Try.prog.underlying 74).isSome = true := by kernel_rfl
@[simp] theorem tb_ti75 : tiF Try.prog 75 = some ⟨false, 1, 8, [.nilFunc]⟩ := by kernel_rfl
@[simp] theorem tb_un75 : (Try.prog.underlying 75).isSome = true := by kernel_rfl
@[simp] theorem tb_ti76 : tiF Try.prog 76 = some ⟨false, 1, 8, [.nilFunc]⟩ := by kernel_rfl
@[simp] theorem tb_un76 : (Try.prog.underlying 76).isSome = true := by kernel_rfl
@[simp] theorem tb_ti77 : tiF Try.prog 77 = some ⟨false, 1, 8, [.nilFunc]⟩ := by kernel_rfl
@[simp] theorem tb_un77 : (Try.prog.underlying 77).isSome = true := by kernel_rfl
@[simp] theorem tb_ti78 : tiF Try.prog 78 = some ⟨false, 1, 8, [.nilFunc]⟩ := by kernel_rfl
@[simp] theorem tb_un78 : (Try.prog.underlying 78).isSome = true := by kernel_rfl
@[simp] theorem tb_ti79 : tiF Try.prog 79 = some ⟨false, 1, 8, [.nilFunc]⟩ := by kernel_rfl
@[simp] theorem tb_un79 : (Try.prog.underlying 79).isSome = true := by kernel_rfl
@[simp] theorem tb_ti80 : tiF Try.prog 80 = some ⟨false, 1, 8, [.nilFunc]⟩ := by kernel_rfl
@[simp] theorem tb_un80 : (Try.prog.underlying 80).isSome = true := by kernel_rfl
@[simp] theorem tb_ti81 : tiF Try.prog 81 = some ⟨false, 1, 8, [.nilFunc]⟩ := by kernel_rfl
@[simp] theorem tb_un81 : (Try.prog.underlying 81).isSome = true := by kernel_rfl
@[simp] theorem tb_ti82 : tiF Try.prog 82 = some ⟨false, 1, 8, [.nilFunc]⟩ := by kernel_rfl
@[simp] theorem tb_un82 : (Try.prog.underlying 82).isSome = true := by kernel_rfl
@[simp] theorem tb_ti84 : tiF Try.prog 84 = some ⟨false, 1, 8, [.nilFunc]⟩ := by kernel_rfl
@[simp] theorem tb_un84 : (Try.prog.underlying 84).isSome = true := by kernel_rfl
@[simp] theorem tb_ti85 : tiF Try.prog 85 = some ⟨false, 1, 8, [.nilFunc]⟩ := by kernel_rfl
@[simp] theorem tb_un85 : (Try.prog.underlying 85).isSome = true := by kernel_rfl
@[simp] theorem tb_ti86 : tiF Try.prog 86 = some ⟨false, 1, 8, [.nilFunc]⟩ := by kernel_rfl
@[simp] theorem tb_un86 : (Try.prog.underlying 86).isSome = true := by kernel_rfl
@[simp] theorem tb_ti87 : tiF Try.prog 87 = some ⟨false, 1, 8, [.nilFunc]⟩ := by kernel_rfl
@[simp] theorem tb_un87 : (Try.prog.underlying 87).isSome = true := by kernel_rfl
@[simp] theorem tb_ti88 : tiF Try.prog 88 = some ⟨false, 1, 8, [.nilFunc]⟩ := by kernel_rfl
@[simp] theorem tb_un88 : (Try.prog.underlying 88).isSome = true := by kernel_rfl
@[simp] theorem tb_ti89 : tiF Try.prog 89 = some ⟨false, 1, 8, [.nilFunc]⟩ := by kernel_rfl
@[simp] theorem tb_un89 : (Try.prog.underlying 89).isSome = true := by kernel_rfl
@[simp] theorem tb_ti90 : tiF Try.prog 90 = some ⟨false, 1, 8, [.nilFunc]⟩ := by kernel_rfl
@[simp] theorem tb_un90 : (Try.prog.underlying 90).isSome = true := by kernel_rfl
@[simp] theorem tb_ti91 : tiF Try.prog 91 = some ⟨false, 1, 8, [.nilFunc]⟩ := by kernel_rfl
@[simp] theorem tb_un91 : (Try.prog.underlying 91).isSome = true := by kernel_rfl
@[simp] theorem tb_ti92 : tiF Try.prog 92 = some ⟨true, 6, 88, [.int .i64 0, .string ⟨#[]⟩, .slice none 0 0, .slice none 0 0, .int .i64 0, .bool false]⟩ := by kernel_rfl
@[simp] theorem tb_un92 : (Try.prog.underlying 92).isSome = true := by kernel_rfl
@[simp] theorem tb_ti93 : tiF Try.prog 93 = some ⟨true, 6, 88, [.int .i64 0, .string ⟨#[]⟩, .slice none 0 0, .slice none 0 0, .int .i64 0, .bool false]⟩ := by kernel_rfl
@[simp] theorem tb_un93 : (Try.prog.underlying 93).isSome = true := by kernel_rfl
@[simp] theorem tb_ti94 : tiF Try.prog 94 = some ⟨false, 1, 8, [.nilFunc]⟩ := by kernel_rfl
@[simp] theorem tb_un94 : (Try.prog.underlying 94).isSome = true := by kernel_rfl
@[simp] theorem tb_ti95 : tiF Try.prog 95 = some ⟨false, 1, 8, [.nilFunc]⟩ := by kernel_rfl
@[simp] theorem tb_un95 : (Try.prog.underlying 95).isSome = true := by kernel_rfl
@[simp] theorem tb_ti96 : tiF Try.prog 96 = some ⟨false, 1, 8, [.nilFunc]⟩ := by kernel_rfl
@[simp] theorem tb_un96 : (Try.prog.underlying 96).isSome = true := by kernel_rfl
@[simp] theorem tb_ti97 : tiF Try.prog 97 = some ⟨false, 1, 8, [.nilFunc]⟩ := by kernel_rfl
@[simp] theorem tb_un97 : (Try.prog.underlying 97).isSome = true := by kernel_rfl
@[simp] theorem tb_ti98 : tiF Try.prog 98 = some ⟨false, 1, 8, [.nilFunc]⟩ := by kernel_rfl
@[simp] theorem tb_un98 : (Try.prog.underlying 98).isSome = true := by kernel_rfl
@[simp] theorem tb_ti99 : tiF Try.prog 99 = some ⟨false, 1, 8, [.nilFunc]⟩ := by kernel_rfl
@[simp] theorem tb_un99 : (Try.prog.underlying 99).isSome = true := by kernel_rfl
@[simp] theorem tb_ti100 : tiF Try.prog 100 = some ⟨false, 1, 8, [.nilFunc]⟩ := by kernel_rfl
@[simp] theorem tb_un100 : (Try.prog.underlying 100).isSome = true := by kernel_rfl
@[simp] theorem tb_ti101 : tiF Try.prog 101 = some ⟨false, 1, 8, [.nilFunc]⟩ := by kernel_rfl
@[simp] theorem tb_un101 : (Try.prog.underlying 101).isSome = true := by kernel_rfl
@[simp] theorem tb_ti102 : tiF Try.prog 102 = some ⟨false, 1, 8, [.nilFunc]⟩ := by kernel_rfl
@[simp] theorem tb_un102 : (Try.prog.underlying 102).isSome = true := by kernel_rfl
@[simp] theorem tb_ti103 : tiF Try.prog 103 = some ⟨false, 1, 8, [.nilFunc]⟩ := by kernel_rfl
@[simp] theorem tb_un103 : (Try.prog.underlying 103).isSome = true := by kernel_rfl
@[simp] theorem tb_ti104 : tiF Try.prog 104 = some ⟨true, 2, 32, [.string ⟨#[]⟩, .string ⟨#[]⟩]⟩ := by kernel_rfl
@[simp] theorem tb_un104 : (Try.prog.underlying 104).isSome = true := by kernel_rfl
@[simp] theorem tb_ti105 : tiF Try.prog 105 = some ⟨true, 2, 32, [.string ⟨#[]⟩, .string ⟨#[]⟩]⟩ := by kernel_rfl
@[simp] theorem tb_un105 : (Try.prog.underlying 105).isSome = true := by kernel_rfl
@[simp] theorem tb_ti107 : tiF Try.prog 107 = some ⟨false, 1, 8, [.nilFunc]⟩ := by kernel_rfl
@[simp] theorem tb_un107 : (Try.prog.underlying 107).isSome = true := by kernel_rfl
@[simp] theorem tb_ti108 : tiF Try.prog 108 = some ⟨false, 1, 8, [.nilFunc]⟩ := by kernel_rfl
@[simp] theorem tb_un108 : (Try.prog.underlying 108).isSome = true := by kernel_rfl
@[simp] theorem tb_ti109 : tiF Try.prog 109 = some ⟨false, 1, 8, [.nilFunc]⟩ := by kernel_rfl
@[simp] theorem tb_un109 : (Try.prog.underlying 109).isSome = true := by kernel_rfl
@[simp] theorem tb_ti110 : tiF Try.prog 110 = some ⟨false, 1, 8, [.nilFunc]⟩ := by kernel_rfl
@[simp] theorem tb_un110 : (Try.prog.underlying 110).isSome = true := by kernel_rfl
@[simp] theorem tb_ti111 : tiF Try.prog 111 = some ⟨false, 1, 8, [.int .u64 0]⟩ := by kernel_rfl
@[simp] theorem tb_un111 : (Try.prog.underlying 111).isSome = true := by kernel_rfl
@[simp] theorem tb_ti112 : tiF Try.prog 112 = some ⟨false, 1, 8, [.nilFunc]⟩ := by kernel_rfl
@[simp] theorem tb_un112 : (Try.prog.underlying 112).isSome = true := by kernel_rfl
@[simp] theorem tb_ti113 : tiF Try.prog 113 = some ⟨false, 1, 8, [.nilFunc]⟩ := by kernel_rfl
@[simp] theorem tb_un113 : (Try.prog.underlying 113).isSome = true := by kernel_rfl
@[simp] theorem tb_ti114 : tiF Try.prog 114 = some ⟨false, 1, 8, [.nilFunc]⟩ := by kernel_rfl
@[simp] theorem tb_un114 : (Try.prog.underlying 114).isSome = true := by kernel_rfl
@[simp] theorem tb_ti115 : tiF Try.prog 115 = some ⟨false, 1, 8, [.nilFunc]⟩ := by kernel_rfl
@[simp] theorem tb_un115 : (Try.prog.underlying 115).isSome = true := by kernel_rfl
@[simp] theorem tb_ti116 : tiF Try.prog 116 = some ⟨false, 1, 8, [.nilFunc]⟩ := by kernel_rfl
@[simp] theorem tb_un116 : (Try.prog.underlying 116).isSome = true := by kernel_rfl
@[simp] theorem tb_ti117 : tiF Try.prog 117 = some ⟨false, 1, 8, [.nilFunc]⟩ := by kernel_rfl
@[simp] theorem tb_un117 : (Try.prog.underlying 117).isSome = true := by kernel_rfl
@[simp] theorem tb_ti118 : tiF Try.prog 118 = some ⟨false, 1, 8, [.nilFunc]⟩ := by kernel_rfl
@[simp] theorem tb_un118 : (Try.prog.underlying 118).isSome = true := by kernel_rfl
@[simp] theorem tb_ti119 : tiF Try.prog 119 = some ⟨false, 1, 8, [.nilFunc]⟩ := by kernel_rfl
@[simp] theorem tb_un119 : (Try.prog.underlying 119).isSome = true := by kernel_rfl
@[simp] theorem tb_ti120 : tiF Try.prog 120 = some ⟨false, 1, 8, [.nilFunc]⟩ := by kernel_rfl
@[simp] theorem tb_un120 : (Try.prog.underlying 120).isSome = true := by kernel_rfl
@[simp] theorem tb_ti121 : tiF Try.prog 121 = some ⟨false, 1, 8, [.nilFunc]⟩ := by kernel_rfl
@[simp] theorem tb_un121 : (Try.prog.underlying 121).isSome = true := by kernel_rfl
@[simp] theorem tb_ti122 : tiF Try.prog 122 = some ⟨false, 1, 8, [.nilFunc]⟩ := by kernel_rfl
@[simp] theorem tb_un122 : (Try.prog.underlying 122).isSome = true := by kernel_rfl
@[simp] theorem tb_ti123 : tiF Try.prog 123 = some ⟨false, 1, 8, [.nilFunc]⟩ := by kernel_rfl
@[simp] theorem tb_un123 : (Try.prog.underlying 123).isSome = true := by kernel_rfl
@[simp] theorem tb_ti124 : tiF Try.prog 124 = some ⟨true, 6, 96, [.string ⟨#[]⟩, .int .i64 0, .string ⟨#[]⟩, .slice none 0 0, .slice none 0 0, .int .i64 0]⟩ := by kernel_rfl
@[simp] theorem tb_un124 : (Try.prog.underlying 124).isSome = true := by kernel_rfl
@[simp] theorem tb_ti125 : tiF Try.prog 125 = some ⟨true, 6, 96, [.string ⟨#[]⟩, .int .i64 0, .string ⟨#[]⟩, .slice none 0 0, .slice none 0 0, .int .i64 0]⟩ := by kernel_rfl
@[simp] theorem tb_un125 : (Try.prog.underlying 125).isSome = true := by kernel_rfl
@[simp] theorem tb_ti126 : tiF Try.prog 126 = some ⟨false, 1, 8, [.nilFunc]⟩ := by kernel_rfl
@[simp] theorem tb_un126 : (Try.prog.underlying 126).isSome = true := by kernel_rfl
@[simp] theorem tb_ti127 : tiF Try.prog 127 = some ⟨false, 1, 8, [.nilFunc]⟩ := by kernel_rfl
@[simp] theorem tb_un127 : (Try.prog.underlying 127).isSome = true := by kernel_rfl
@[simp] theorem tb_ti128 : tiF Try.prog 128 = some ⟨false, 1, 8, [.nilFunc]⟩ := by kernel_rfl
@[simp] theorem tb_un128 : (Try.prog.underlying 128).isSome = true := by kernel_rfl
@[simp] theorem tb_ti129 : tiF Try.prog 129 = some ⟨false, 1, 8, [.nilFunc]⟩ := by kernel_rfl
@[simp] theorem tb_un129 : (Try.prog.underlying 129).isSome = true := by kernel_rfl
@[simp] theorem tb_ti130 : tiF Try.prog 130 = some ⟨false, 1, 8, [.nilFunc]⟩ := by kernel_rfl
@[simp] theorem tb_un130 : (Try.prog.underlying 130).isSome = true := by kernel_rfl
@[simp] theorem tb_ti131 : tiF Try.prog 131 = some ⟨false, 1, 8, [.nilFunc]⟩ := by kernel_rfl
@[simp] theorem tb_un131 : (Try.prog.underlying 131).isSome = true := by kernel_rfl
@[simp] theorem tb_ti132 : tiF Try.prog 132 = some ⟨false, 1, 8, [.nilFunc]⟩ := by kernel_rfl
@[simp] theorem tb_un132 : (Try.prog.underlying 132).isSome = true := by kernel_rfl
@[simp] theorem tb_ti133 : tiF Try.prog 133 = some ⟨false, 1, 8, [.nilFunc]⟩ := by kernel_rfl
@[simp] theorem tb_un133 : (Try.prog.underlying 133).isSome = true := by kernel_rfl
@[simp] theorem tb_ti134 : tiF Try.prog 134 = some ⟨false, 1, 8, [.nilFunc]⟩ := by kernel_rfl
@[simp] theorem tb_un134 : (Try.prog.underlying 134).isSome = true := by kernel_rfl
@[simp] theorem tb_ti135 : tiF Try.prog 135 = some ⟨false, 1, 8, [.nilFunc]⟩ := by kernel_rfl
@[simp] theorem tb_un135 : (Try.prog.underlying 135).isSome = true := by kernel_rfl
@[simp] theorem tb_ti136 : tiF Try.prog 136 = some ⟨false, 1, 8, [.nilFunc]⟩ := by kernel_rfl
@[simp] theorem tb_un136 : (Try.prog.underlying 136).isSome = true := by kernel_rfl
@[simp] theorem tb_ti137 : tiF Try.prog 137 = some ⟨false, 1, 8, [.nilFunc]⟩ := by kernel_rfl
@[simp] theorem tb_un137 : (Try.prog.underlying 137).isSome = true := by kernel_rfl
@[simp] theorem tb_ti138 : tiF Try.prog 138 = some ⟨false, 1, 8, [.nilFunc]⟩ := by kernel_rfl
@[simp] theorem tb_un138 : (Try.prog.underlying 138).isSome = true := by kernel_rfl
@[simp] theorem tb_ti139 : tiF Try.prog 139 = some ⟨false, 1, 8, [.nilFunc]⟩ := by kernel_rfl
@[simp] theorem tb_un139 : (Try.prog.underlying 139).isSome = true := by kernel_rfl
@[simp] theorem tb_ti140 : tiF Try.prog 140 = some ⟨false, 1, 24, [.slice none 0 0]⟩ := by kernel_rfl
@[simp] theorem tb_un140 : (Try.prog.underlying 140).isSome = true := by kernel_rfl
@[simp] theorem tb_ti141 : tiF Try.prog 141 = some ⟨false, 1, 8, [.nilFunc]⟩ := by kernel_rfl
@[simp] theorem tb_un141 : (Try.prog.underlying 141).isSome = true := by kernel_rfl
@[simp] theorem tb_ti142 : tiF Try.prog 142 = some ⟨false, 1, 8, [.nilFunc]⟩ := by kernel_rfl
@[simp] theorem tb_un142 : (Try.prog.underlying 142).isSome = true := by kernel_rfl
@[simp] theorem tb_ti143 : tiF Try.prog 143 = some ⟨false, 1, 8, [.nilFunc]⟩ := by kernel_rfl
@[simp] theorem tb_un143 : (Try.prog.underlying 143).isSome = true := by kernel_rfl
@[simp] theorem tb_ti144 : tiF Try.prog 144 = some ⟨false, 1, 8, [.nilFunc]⟩ := by kernel_rfl
@[simp] theorem tb_un144 : (Try.prog.underlying 144).isSome = true := by kernel_rfl
@[simp] theorem tb_ti145 : tiF Try.prog 145 = some ⟨false, 1, 8, [.nilFunc]⟩ := by kernel_rfl
@[simp] theorem tb_un145 : (Try.prog.underlying 145).isSome = true := by kernel_rfl
@[simp] theorem tb_ti146 : tiF Try.prog 146 = some ⟨false, 1, 8, [.nilFunc]⟩ := by kernel_rfl
@[simp] theorem tb_un146 : (Try.prog.underlying 146).isSome = true := by kernel_rfl
@[simp] theorem tb_ti147 : tiF Try.prog 147 = some ⟨false, 1, 8, [.nilFunc]⟩ := by kernel_rfl
@[simp] theorem tb_un147 : (Try.prog.underlying 147).isSome = true := by kernel_rfl
@[simp] theorem tb_ti148 : tiF Try.prog 148 = some ⟨true, 4, 32, [.int .i64 0, .int .i64 0, .int .i64 0, .int .i64 0]⟩ := by kernel_rfl
@[simp] theorem tb_un148 : (Try.prog.underlying 148).isSome = true := by kernel_rfl
@[simp] theorem tb_ti149 : tiF Try.prog 149 = some ⟨true, 4, 32, [.int .i64 0, .int .i64 0, .int .i64 0, .int .i64 0]⟩ := by kernel_rfl
@[simp] theorem tb_un149 : (Try.prog.underlying 149).isSome = true := by kernel_rfl
@[simp] theorem tb_ti150 : tiF Try.prog 150 = some ⟨false, 1, 8, [.int .u64 0]⟩ := by kernel_rfl
@[simp] theorem tb_un150 : (Try.prog.underlying 150).isSome = true := by kernel_rfl
@[simp] theorem tb_ti151 : tiF Try.prog 151 = some ⟨false, 1, 8, [.nilFunc]⟩ := by kernel_rfl
@[simp] theorem tb_un151 : (Try.prog.underlying 151).isSome = true := by kernel_rfl
@[simp] theorem tb_ti152 : tiF Try.prog 152 = some ⟨false, 1, 8, [.nilFunc]⟩ := by kernel_rfl
@[simp] theorem tb_un152 : (Try.prog.underlying 152).isSome = true := by kernel_rfl
@[simp] theorem tb_ti153 : tiF Try.prog 153 = some ⟨false, 1, 8, [.nilFunc]⟩ := by kernel_rfl
@[simp] theorem tb_un153 : (Try.prog.underlying 153).isSome = true := by kernel_rfl
@[simp] theorem tb_ti154 : tiF Try.prog 154 = some ⟨false, 1, 8, [.nilFunc]⟩ := by kernel_rfl
@[simp] theorem tb_un154 : (Try.prog.underlying 154).isSome = true := by kernel_rfl
@[simp] theorem tb_ti155 : tiF Try.prog 155 = some ⟨false, 1, 8, [.nilFunc]⟩ := by kernel_rfl
@[simp] theorem tb_un155 : (Try.prog.underlying 155).isSome = true := by kernel_rfl
@[simp] theorem tb_ti156 : tiF Try.prog 156 = some ⟨false, 1, 8, [.nilFunc]⟩ := by kernel_rfl
@[simp] theorem tb_un156 : (Try.prog.underlying 156).isSome = true := by kernel_rfl
@[simp] theorem tb_ti157 : tiF Try.prog 157 = some ⟨false, 1, 8, [.nilFunc]⟩ := by kernel_rfl
@[simp] theorem tb_un157 : (Try.prog.underlying 157).isSome = true := by kernel_rfl
@[simp] theorem tb_ti158 : tiF Try.prog 158 = some ⟨false, 1, 8, [.nilFunc]⟩ := by kernel_rfl
@[simp] theorem tb_un158 : (Try.prog.underlying 158).isSome = true := by kernel_rfl
@[simp] theorem tb_ti159 : tiF Try.prog 159 = some ⟨false, 1, 8, [.nilFunc]⟩ := by kernel_rfl
@[simp] theorem tb_un159 : (Try.prog.underlying 159).isSome = true := by kernel_rfl
@[simp] theorem tb_ti160 : tiF Try.prog 160 = some ⟨false, 1, 8, [.nilFunc]⟩ := by kernel_rfl
@[simp] theorem tb_un160 : (Try.prog.underlying 160).isSome = true := by kernel_rfl
@[simp] theorem tb_ti161 : tiF Try.prog 161 = some ⟨false, 1, 8, [.nilFunc]⟩ := by kernel_rfl
@[simp] theorem tb_un161 : (Try.prog.underlying 161).isSome = true := by kernel_rfl
@[simp] theorem tb_ti162 : tiF Try.prog 162 = some ⟨false, 1, 2, [.int .u16 0]⟩ := by kernel_rfl
@[simp] theorem tb_un162 : (Try.prog.underlying 162).isSome = true := by kernel_rfl
@[simp] theorem tb_ti164 : tiF Try.prog 164 = some ⟨false, 1, 8, [.nilFunc]⟩ := by kernel_rfl
@[simp] theorem tb_un164 : (Try.prog.underlying 164).isSome = true := by kernel_rfl
@[simp] theorem tb_ti165 : tiF Try.prog 165 = some ⟨false, 1, 8, [.nilFunc]⟩ := by kernel_rfl
@[simp] theorem tb_un165 : (Try.prog.underlying 165).isSome = true := by kernel_rfl
@[simp] theorem tb_ti166 : tiF Try.prog 166 = some ⟨false, 1, 8, [.nilFunc]⟩ := by kernel_rfl
@[simp] theorem tb_un166 : (Try.prog.underlying 166).isSome = true := by kernel_rfl
@[simp] theorem tb_ti167 : tiF Try.prog 167 = some ⟨false, 1, 8, [.nilFunc]⟩ := by kernel_rfl
@[simp] theorem tb_un167 : (Try.prog.underlying 167).isSome = true := by kernel_rfl
@[simp] theorem tb_ti168 : tiF Try.prog 168 = some ⟨false, 1, 4, [.int .u32 0]⟩ := by kernel_rfl
@[simp] theorem tb_un168 : (Try.prog.underlying 168).isSome = true := by kernel_rfl
@[simp] theorem tb_ti170 : tiF Try.prog 170 = some ⟨false, 1, 8, [.nilFunc]⟩ := by kernel_rfl
@[simp] theorem tb_un170 : (Try.prog.underlying 170).isSome = true := by kernel_rfl
@[simp] theorem tb_ti171 : tiF Try.prog 171 = some ⟨false, 1, 8, [.nilFunc]⟩ := by kernel_rfl
@[simp] theorem tb_un171 : (Try.prog.underlying 171).isSome = true := by kernel_rfl
@[simp] theorem tb_ti172 : tiF Try.prog 172 = some ⟨true, 4, 40, [.pointer none, .pointer none, .pointer none, .string ⟨#[]⟩]⟩ := by kernel_rfl
@[simp] theorem tb_un172 : (Try.prog.underlying 172).isSome = true := by kernel_rfl
@[simp] theorem tb_ti173 : tiF Try.prog 173 = some ⟨true, 4, 40, [.pointer none, .pointer none, .pointer none, .string ⟨#[]⟩]⟩ := by kernel_rfl
@[simp] theorem tb_un173 : (Try.prog.underlying 173).isSome = true := by kernel_rfl
@[simp] theorem tb_ti174 : tiF Try.prog 174 = some ⟨true, 0, 0, []⟩ := by kernel_rfl
@[simp] theorem tb_un174 : (Try.prog.underlying 174).isSome = true := by kernel_rfl
@[simp] theorem tb_ti175 : tiF Try.prog 175 = some ⟨true, 0, 0, []⟩ := by kernel_rfl
@[simp] theorem tb_un175 : (Try.prog.underlying 175).isSome = true := by kernel_rfl
@[simp] theorem tb_ti176 : tiF Try.prog 176 = some ⟨true, 0, 0, []⟩ := by kernel_rfl
@[simp] theorem tb_un176 : (Try.prog.underlying 176).isSome = true := by kernel_rfl
@[simp] theorem tb_ti177 : tiF Try.prog 177 = some ⟨false, 1, 8, [.nilFunc]⟩ := by kernel_rfl
@[simp] theorem tb_un177 : (Try.prog.underlying 177).isSome = true := by kernel_rfl
@[simp] theorem tb_ti178 : tiF Try.prog 178 = some ⟨false, 1, 1, [.int .u8 0]⟩ := by kernel_rfl
@[simp] theorem tb_un178 : (Try.prog.underlying 178).isSome = true := by kernel_rfl
@[simp] theorem tb_ti179 : tiF Try.prog 179 = some ⟨false, 1, 1, [.int .u8 0]⟩ := by kernel_rfl
@[simp] theorem tb_un179 : (Try.prog.underlying 179).isSome = true := by kernel_rfl
@[simp] theorem tb_ti180 : tiF Try.prog 180 = some ⟨false, 1, 8, [.nilFunc]⟩ := by kernel_rfl
@[simp] theorem tb_un180 : (Try.prog.underlying 180).isSome = true := by kernel_rfl
@[simp] theorem tb_ti181 : tiF Try.prog 181 = some ⟨false, 1, 8, [.pointer none]⟩ := by kernel_rfl
@[simp] theorem tb_un181 : (Try.prog.underlying 181).isSome = true := by kernel_rfl
@[simp] theorem tb_ti182 : tiF Try.prog 182 = some ⟨false, 1, 4, [.int .i32 0]⟩ := by kernel_rfl
@[simp] theorem tb_un182 : (Try.prog.underlying 182).isSome = true := by kernel_rfl
@[simp] theorem tb_ti183 : tiF Try.prog 183 = some ⟨false, 1, 4, [.int .i32 0]⟩ := by kernel_rfl
@[simp] theorem tb_un183 : (Try.prog.underlying 183).isSome = true := by kernel_rfl
@[simp] theorem tb_ti184 : tiF Try.prog 184 = some ⟨true, 11, 48, [.int .u64 0, .int .u64 0, .int .u32 0, .int .u8 0, .int .u8 0, .int .u8 0, .int .u8 0, .nilFunc, .pointer none, .int .i32 0, .int .i32 0]⟩ := by kernel_rfl
@[simp] theorem tb_un184 : (Try.prog.underlying 184).isSome = true := by kernel_rfl
@[simp] theorem tb_ti185 : tiF Try.prog 185 = some ⟨true, 11, 48, [.int .u64 0, .int .u64 0, .int .u32 0, .int .u8 0, .int .u8 0, .int .u8 0, .int .u8 0, .nilFunc, .pointer none, .int .i32 0, .int .i32 0]⟩ := by kernel_rfl
@[simp] theorem tb_un185 : (Try.prog.underlying 185).isSome = true := by kernel_rfl
@[simp] theorem tb_ti186 : tiF Try.prog 186 = some ⟨false, 1, 8, [.pointer none]⟩ := by kernel_rfl
@[simp] theorem tb_un186 : (Try.prog.underlying 186).isSome = true := by kernel_rfl
@[simp] theorem tb_el22 : elemF Try.prog 22 = some 5 := by kernel_rfl
@[simp] theorem tb_ns22 : strF Try.prog 22 = false := by kernel_rfl
@[simp] theorem tb_el24 : elemF Try.prog 24 = some 36 := by kernel_rfl
@[simp] theorem tb_ns24 : strF Try.prog 24 = false := by kernel_rfl
@[simp] theorem tb_el31 : elemF Try.prog 31 = some 105 := by kernel_rfl
@[simp] theorem tb_ns31 : strF Try.prog 31 = false := by kernel_rfl
@[simp] theorem tb_el32 : elemF Try.prog 32 = some 9 := by kernel_rfl
@[simp] theorem tb_ns32 : strF Try.prog 32 = false := by kernel_rfl
@[simp] theorem tb_el56 : elemF Try.prog 56 = some 125 := by kernel_rfl
@[simp] theorem tb_ns56 : strF Try.prog 56 = false := by kernel_rfl
@[simp] theorem tb_el59 : elemF Try.prog 59 = some 149 := by kernel_rfl
@[simp] theorem tb_ns59 : strF Try.prog 59 = false := by kernel_rfl
@[simp] theorem tb_el60 : elemF Try.prog 60 = some 3 := by kernel_rfl
@[simp] theorem tb_ns60 : strF Try.prog 60 = false := by kernel_rfl
@[simp] theorem tb_el72 : elemF Try.prog 72 = some 62 := by kernel_rfl
@[simp] theorem tb_ns72 : strF Try.prog 72 = false := by kernel_rfl
@[simp] theorem tb_el140 : elemF Try.prog 140 = some 24 := by kernel_rfl
@[simp] theorem tb_ns140 : strF Try.prog 140 = false := by kernel_rfl
@[simp] theorem tb_fl7 : flds Try.prog 7 = some [(0, 1, false), (1, 1, false), (2, 1, false), (3, 1, false)] := by kernel_rfl
@[simp] theorem tb_fl8 : flds Try.prog 8 = some [(0, 1, false), (1, 1, false), (2, 1, false), (3, 1, false)] := by kernel_rfl
@[simp] theorem tb_fl13 : flds Try.prog 13 = some [(0, 1, false), (1, 1, false)] := by kernel_rfl
@[simp] theorem tb_fl14 : flds Try.prog 14 = some [(0, 1, false), (1, 1, false)] := by kernel_rfl
@[simp] theorem tb_fl18 : flds Try.prog 18 = some [(0, 1, false)] := by kernel_rfl
@[simp] theorem tb_fl19 : flds Try.prog 19 = some [(0, 1, false)] := by kernel_rfl
@[simp] theorem tb_fl26 : flds Try.prog 26 = some [(0, 1, false), (1, 1, false)] := by kernel_rfl
@[simp] theorem tb_fl27 : flds Try.prog 27 = some [(0, 1, false), (1, 1, false)] := by kernel_rfl
@[simp] theorem tb_fl28 : flds Try.prog 28 = some [(0, 2, true), (2, 1, false), (3, 1, false), (4, 2, true), (6, 1, false)] := by kernel_rfl
@[simp] theorem tb_fl29 : flds Try.prog 29 = some [(0, 2, true), (2, 1, false), (3, 1, false), (4, 2, true), (6, 1, false)] := by kernel_rfl
@[simp] theorem tb_fl33 : flds Try.prog 33 = some [(0, 1, false), (1, 1, false), (2, 1, false), (3, 1, false), (4, 1, false)] := by kernel_rfl
@[simp] theorem tb_fl34 : flds Try.prog 34 = some [(0, 1, false), (1, 1, false), (2, 1, false), (3, 1, false), (4, 1, false)] := by kernel_rfl
@[simp] theorem tb_fl35 : flds Try.prog 35 = some [(0, 1, false), (1, 1, false), (2, 5, true)] := by kernel_rfl
@[simp] theorem tb_fl36 : flds Try.prog 36 = some [(0, 1, false), (1, 1, false), (2, 5, true)] := by kernel_rfl
@[simp] theorem tb_fl50 : flds Try.prog 50 = some [(0, 1, false), (1, 1, false)] := by kernel_rfl
@[simp] theorem tb_fl51 : flds Try.prog 51 = some [(0, 1, false), (1, 1, false)] := by kernel_rfl
@[simp] theorem tb_fl61 : flds Try.prog 61 = some [(0, 1, false), (1, 1, false), (2, 1, false), (3, 1, false), (4, 1, false), (5, 1, false), (6, 1, false), (7, 1, false), (8, 1, false), (9, 2, true), (11, 2, true), (13, 1, false), (14, 1, false)] := by kernel_rfl
@[simp] theorem tb_fl62 : flds Try.prog 62 = some [(0, 1, false), (1, 1, false), (2, 1, false), (3, 1, false), (4, 1, false), (5, 1, false), (6, 1, false), (7, 1, false), (8, 1, false), (9, 2, true), (11, 2, true), (13, 1, false), (14, 1, false)] := by kernel_rfl
@[simp] theorem tb_fl66 : flds Try.prog 66 = some [(0, 7, true), (7, 1, false), (8, 1, false)] := by kernel_rfl
@[simp] theorem tb_fl67 : flds Try.prog 67 = some [(0, 7, true), (7, 1, false), (8, 1, false)] := by kernel_rfl
@[simp] theorem tb_fl92 : flds Try.prog 92 = some [(0, 5, true), (5, 1, false)] := by kernel_rfl
@[simp] theorem tb_fl93 : flds Try.prog 93 = some [(0, 5, true), (5, 1, false)] := by kernel_rfl
@[simp] theorem tb_fl104 : flds Try.prog 104 = some [(0, 1, false), (1, 1, false)] := by kernel_rfl
@[simp] theorem tb_fl105 : flds Try.prog 105 = some [(0, 1, false), (1, 1, false)] := by kernel_rfl
@[simp] theorem tb_fl124 : flds Try.prog 124 = some [(0, 1, false), (1, 5, true)] := by kernel_rfl
@[simp] theorem tb_fl125 : flds Try.prog 125 = some [(0, 1, false), (1, 5, true)] := by kernel_rfl
@[simp] theorem tb_fl148 : flds Try.prog 148 = some [(0, 1, false), (1, 1, false), (2, 1, false), (3, 1, false)] := by kernel_rfl
@[simp] theorem tb_fl149 : flds Try.prog 149 = some [(0, 1, false), (1, 1, false), (2, 1, false), (3, 1, false)] := by kernel_rfl
@[simp] theorem tb_fl172 : flds Try.prog 172 = some [(0, 1, false), (1, 1, false), (2, 1, false), (3, 1, false)] := by kernel_rfl
@[simp] theorem tb_fl173 : flds Try.prog 173 = some [(0, 1, false), (1, 1, false), (2, 1, false), (3, 1, false)] := by kernel_rfl
@[simp] theorem tb_fl175 : flds Try.prog 175 = some [(0, 0, true)] := by kernel_rfl
@[simp] theorem tb_fl176 : flds Try.prog 176 = some [(0, 0, true)] := by kernel_rfl
@[simp] theorem tb_fl184 : flds Try.prog 184 = some [(0, 1, false), (1, 1, false), (2, 1, false), (3, 1, false), (4, 1, false), (5, 1, false), (6, 1, false), (7, 1, false), (8, 1, false), (9, 1, false), (10, 1, false)] := by kernel_rfl
@[simp] theorem tb_fl185 : flds Try.prog 185 = some [(0, 1, false), (1, 1, false), (2, 1, false), (3, 1, false), (4, 1, false), (5, 1, false), (6, 1, false), (7, 1, false), (8, 1, false), (9, 1, false), (10, 1, false)] := by kernel_rfl
@[simp] theorem tb_st9 : strF Try.prog 9 = true := by kernel_rfl
@[simp] theorem tb_st10 : strF Try.prog 10 = true := by kernel_rfl
@[simp] theorem tb_st11 : strF Try.prog 11 = true := by kernel_rfl
@[simp] theorem tb_in2 : intF Try.prog 2 = some .i64 := by kernel_rfl
@[simp] theorem tb_in3 : intF Try.prog 3 = some .i64 := by kernel_rfl
@[simp] theorem tb_in5 : intF Try.prog 5 = some .u8 := by kernel_rfl
@[simp] theorem tb_in6 : intF Try.prog 6 = some .u8 := by kernel_rfl
@[simp] theorem tb_in12 : intF Try.prog 12 = some .u64 := by kernel_rfl
@[simp] theorem tb_in21 : intF Try.prog 21 = some .i32 := by kernel_rfl
@[simp] theorem tb_in55 : intF Try.prog 55 = some .i8 := by kernel_rfl
@[simp] theorem tb_in111 : intF Try.prog 111 = some .u64 := by kernel_rfl
@[simp] theorem tb_in150 : intF Try.prog 150 = some .u64 := by kernel_rfl
@[simp] theorem tb_in162 : intF Try.prog 162 = some .u16 := by kernel_rfl
@[simp] theorem tb_in168 : intF Try.prog 168 = some .u32 := by kernel_rfl
@[simp] theorem tb_in178 : intF Try.prog 178 = some .u8 := by kernel_rfl
@[simp] theorem tb_in179 : intF Try.prog 179 = some .u8 := by kernel_rfl
@[simp] theorem tb_in182 : intF Try.prog 182 = some .i32 := by kernel_rfl
@[simp] theorem tb_in183 : intF Try.prog 183 = some .i32 := by kernel_rfl
@[simp] theorem tb_sq7 : seqF Try.prog 7 = some [0, 0, 2, 0] := by kernel_rfl
@[simp] theorem tb_sq8 : seqF Try.prog 8 = some [0, 0, 2, 0] := by kernel_rfl
@[simp] theorem tb_sq26 : seqF Try.prog 26 = some [0, 0] := by kernel_rfl
@[simp] theorem tb_sq27 : seqF Try.prog 27 = some [0, 0] := by kernel_rfl
@[simp] theorem tb_sq50 : seqF Try.prog 50 = some [1, 2] := by kernel_rfl
@[simp] theorem tb_sq51 : seqF Try.prog 51 = some [1, 2] := by kernel_rfl
@[simp] theorem tb_sq104 : seqF Try.prog 104 = some [1, 1] := by kernel_rfl
@[simp] theorem tb_sq105 : seqF Try.prog 105 = some [1, 1] := by kernel_rfl
@[simp] theorem tb_sq148 : seqF Try.prog 148 = some [0, 0, 0, 0] := by kernel_rfl
@[simp] theorem tb_sq149 : seqF Try.prog 149 = some [0, 0, 0, 0] := by kernel_rfl
@[simp] theorem tb_sk4 : sk Try.prog 4 = some 2 := by kernel_rfl
end Go.Proofs.Ytlkhfdccapkcdaa
/- The program's data, as it lies in memory. -/
namespace Go.Proofs.Ytlkhfdccapkcdaa
open Go Go.RowKit
set_option linter.unusedVariables false
set_option linter.unusedSimpArgs false
def encS (l : List ByteArray) : List (List T) := l.map fun x => [.v (.string x)]
theorem lvs_encS1 (x : ByteArray) : lvs (encS [x]) = [.s (.string x)] := rfl
@[simp] theorem encS_length (l : List ByteArray) : (encS l).length = l.length := by simp [encS]
@[simp high] theorem encS_get (l : List ByteArray) (i : Nat) : (encS l)[i]? = (l[i]?).map fun x => [.v (.string x)] := by simp [encS]
@[simp] theorem encS_nil : encS [] = [] := rfl
theorem encS_cons (x : ByteArray) (l : List ByteArray) : encS (x :: l) = [.v (.string x)] :: encS l := rfl
theorem encS_append (l m : List ByteArray) : encS (l ++ m) = encS l ++ encS m := by simp [encS]
theorem encS_take (l : List ByteArray) (n : Nat) : (encS l).take n = encS (l.take n) := by simp [encS]
theorem encS_drop (l : List ByteArray) (n : Nat) : (encS l).drop n = encS (l.drop n) := by simp [encS]
theorem encS_sz (l : List ByteArray) : ∀ e ∈ encS l, e.length = 1 := by
  intro e h
  obtain ⟨x, _, rfl⟩ := List.mem_map.1 h
  rfl
@[simp] theorem encS_eq_nil (l : List ByteArray) : (encS l = []) = (l = []) := by simp [encS]
def encI (l : List Int) : List (List T) := l.map fun x => [.v (.int .i64 x)]
theorem lvs_encI1 (x : Int) : lvs (encI [x]) = [.s (.int .i64 x)] := rfl
@[simp] theorem encI_length (l : List Int) : (encI l).length = l.length := by simp [encI]
@[simp high] theorem encI_get (l : List Int) (i : Nat) : (encI l)[i]? = (l[i]?).map fun x => [.v (.int .i64 x)] := by simp [encI]
@[simp] theorem encI_nil : encI [] = [] := rfl
theorem encI_cons (x : Int) (l : List Int) : encI (x :: l) = [.v (.int .i64 x)] :: encI l := rfl
theorem encI_append (l m : List Int) : encI (l ++ m) = encI l ++ encI m := by simp [encI]
theorem encI_take (l : List Int) (n : Nat) : (encI l).take n = encI (l.take n) := by simp [encI]
theorem encI_drop (l : List Int) (n : Nat) : (encI l).drop n = encI (l.drop n) := by simp [encI]
theorem encI_sz (l : List Int) : ∀ e ∈ encI l, e.length = 1 := by
  intro e h
  obtain ⟨x, _, rfl⟩ := List.mem_map.1 h
  rfl
@[simp] theorem encI_eq_nil (l : List Int) : (encI l = []) = (l = []) := by simp [encI]
def encB (l : List Bool) : List (List T) := l.map fun x => [.v (.bool x)]
theorem lvs_encB1 (x : Bool) : lvs (encB [x]) = [.s (.bool x)] := rfl
@[simp] theorem encB_length (l : List Bool) : (encB l).length = l.length := by simp [encB]
@[simp high] theorem encB_get (l : List Bool) (i : Nat) : (encB l)[i]? = (l[i]?).map fun x => [.v (.bool x)] := by simp [encB]
@[simp] theorem encB_nil : encB [] = [] := rfl
theorem encB_cons (x : Bool) (l : List Bool) : encB (x :: l) = [.v (.bool x)] :: encB l := rfl
theorem encB_append (l m : List Bool) : encB (l ++ m) = encB l ++ encB m := by simp [encB]
theorem encB_take (l : List Bool) (n : Nat) : (encB l).take n = encB (l.take n) := by simp [encB]
theorem encB_drop (l : List Bool) (n : Nat) : (encB l).drop n = encB (l.drop n) := by simp [encB]
theorem encB_sz (l : List Bool) : ∀ e ∈ encB l, e.length = 1 := by
  intro e h
  obtain ⟨x, _, rfl⟩ := List.mem_map.1 h
  rfl
@[simp] theorem encB_eq_nil (l : List Bool) : (encB l = []) = (l = []) := by simp [encB]
def encU (l : List Int) : List (List T) := l.map fun x => [.v (.int .u8 x)]
theorem lvs_encU1 (x : Int) : lvs (encU [x]) = [.s (.int .u8 x)] := rfl
@[simp] theorem encU_length (l : List Int) : (encU l).length = l.length := by simp [encU]
@[simp high] theorem encU_get (l : List Int) (i : Nat) : (encU l)[i]? = (l[i]?).map fun x => [.v (.int .u8 x)] := by simp [encU]
@[simp] theorem encU_nil : encU [] = [] := rfl
theorem encU_cons (x : Int) (l : List Int) : encU (x :: l) = [.v (.int .u8 x)] :: encU l := rfl
theorem encU_append (l m : List Int) : encU (l ++ m) = encU l ++ encU m := by simp [encU]
theorem encU_take (l : List Int) (n : Nat) : (encU l).take n = encU (l.take n) := by simp [encU]
theorem encU_drop (l : List Int) (n : Nat) : (encU l).drop n = encU (l.drop n) := by simp [encU]
theorem encU_sz (l : List Int) : ∀ e ∈ encU l, e.length = 1 := by
  intro e h
  obtain ⟨x, _, rfl⟩ := List.mem_map.1 h
  rfl
@[simp] theorem encU_eq_nil (l : List Int) : (encU l = []) = (l = []) := by simp [encU]
structure Field where
  name : ByteArray
  val : ByteArray
deriving DecidableEq, Inhabited
attribute [ext] Field
def encField (l : List Field) : List (List T) := l.map fun x => [.v (.string x.name), .v (.string x.val)]
theorem lvs_encField1 (x : Field) : lvs (encField [x]) = [.s (.string x.name), .s (.string x.val)] := rfl
@[simp] theorem encField_length (l : List Field) : (encField l).length = l.length := by simp [encField]
@[simp high] theorem encField_get (l : List Field) (i : Nat) : (encField l)[i]? = (l[i]?).map fun x => [.v (.string x.name), .v (.string x.val)] := by simp [encField]
@[simp] theorem encField_nil : encField [] = [] := rfl
theorem encField_cons (x : Field) (l : List Field) : encField (x :: l) = [.v (.string x.name), .v (.string x.val)] :: encField l := rfl
theorem encField_append (l m : List Field) : encField (l ++ m) = encField l ++ encField m := by simp [encField]
theorem encField_take (l : List Field) (n : Nat) : (encField l).take n = encField (l.take n) := by simp [encField]
theorem encField_drop (l : List Field) (n : Nat) : (encField l).drop n = encField (l.drop n) := by simp [encField]
theorem encField_sz (l : List Field) : ∀ e ∈ encField l, e.length = 2 := by
  intro e h
  obtain ⟨x, _, rfl⟩ := List.mem_map.1 h
  rfl
@[simp] theorem encField_eq_nil (l : List Field) : (encField l = []) = (l = []) := by simp [encField]
structure Item where
  kind : Int
  s : ByteArray
  f : List Field
  l : List ByteArray
  exp : Int
deriving DecidableEq, Inhabited
attribute [ext] Item
def encItem (l : List Item) : List (List T) := l.map fun x => [.v (.int .i64 x.kind), .v (.string x.s), .sl 2 (encField x.f), .sl 1 (encS x.l), .v (.int .i64 x.exp)]
theorem lvs_encItem1 (x : Item) : lvs (encItem [x]) = [.s (.int .i64 x.kind), .s (.string x.s), .d false 2 (encField x.f), .d false 1 (encS x.l), .s (.int .i64 x.exp)] := rfl
@[simp] theorem encItem_length (l : List Item) : (encItem l).length = l.length := by simp [encItem]
@[simp high] theorem encItem_get (l : List Item) (i : Nat) : (encItem l)[i]? = (l[i]?).map fun x => [.v (.int .i64 x.kind), .v (.string x.s), .sl 2 (encField x.f), .sl 1 (encS x.l), .v (.int .i64 x.exp)] := by simp [encItem]
@[simp] theorem encItem_nil : encItem [] = [] := rfl
theorem encItem_cons (x : Item) (l : List Item) : encItem (x :: l) = [.v (.int .i64 x.kind), .v (.string x.s), .sl 2 (encField x.f), .sl 1 (encS x.l), .v (.int .i64 x.exp)] :: encItem l := rfl
theorem encItem_append (l m : List Item) : encItem (l ++ m) = encItem l ++ encItem m := by simp [encItem]
theorem encItem_take (l : List Item) (n : Nat) : (encItem l).take n = encItem (l.take n) := by simp [encItem]
theorem encItem_drop (l : List Item) (n : Nat) : (encItem l).drop n = encItem (l.drop n) := by simp [encItem]
theorem encItem_sz (l : List Item) : ∀ e ∈ encItem l, e.length = 5 := by
  intro e h
  obtain ⟨x, _, rfl⟩ := List.mem_map.1 h
  rfl
@[simp] theorem encItem_eq_nil (l : List Item) : (encItem l = []) = (l = []) := by simp [encItem]
structure Pair where
  key : ByteArray
  item : Item
deriving DecidableEq, Inhabited
attribute [ext] Pair
def encPair (l : List Pair) : List (List T) := l.map fun x => [.v (.string x.key), .v (.int .i64 x.item.kind), .v (.string x.item.s), .sl 2 (encField x.item.f), .sl 1 (encS x.item.l), .v (.int .i64 x.item.exp)]
theorem lvs_encPair1 (x : Pair) : lvs (encPair [x]) = [.s (.string x.key), .s (.int .i64 x.item.kind), .s (.string x.item.s), .d false 2 (encField x.item.f), .d false 1 (encS x.item.l), .s (.int .i64 x.item.exp)] := rfl
@[simp] theorem encPair_length (l : List Pair) : (encPair l).length = l.length := by simp [encPair]
@[simp high] theorem encPair_get (l : List Pair) (i : Nat) : (encPair l)[i]? = (l[i]?).map fun x => [.v (.string x.key), .v (.int .i64 x.item.kind), .v (.string x.item.s), .sl 2 (encField x.item.f), .sl 1 (encS x.item.l), .v (.int .i64 x.item.exp)] := by simp [encPair]
@[simp] theorem encPair_nil : encPair [] = [] := rfl
theorem encPair_cons (x : Pair) (l : List Pair) : encPair (x :: l) = [.v (.string x.key), .v (.int .i64 x.item.kind), .v (.string x.item.s), .sl 2 (encField x.item.f), .sl 1 (encS x.item.l), .v (.int .i64 x.item.exp)] :: encPair l := rfl
theorem encPair_append (l m : List Pair) : encPair (l ++ m) = encPair l ++ encPair m := by simp [encPair]
theorem encPair_take (l : List Pair) (n : Nat) : (encPair l).take n = encPair (l.take n) := by simp [encPair]
theorem encPair_drop (l : List Pair) (n : Nat) : (encPair l).drop n = encPair (l.drop n) := by simp [encPair]
theorem encPair_sz (l : List Pair) : ∀ e ∈ encPair l, e.length = 6 := by
  intro e h
  obtain ⟨x, _, rfl⟩ := List.mem_map.1 h
  rfl
@[simp] theorem encPair_eq_nil (l : List Pair) : (encPair l = []) = (l = []) := by simp [encPair]
structure Effect where
  key : ByteArray
  gone : Bool
  item : Item
deriving DecidableEq, Inhabited
attribute [ext] Effect
def encEffect (l : List Effect) : List (List T) := l.map fun x => [.v (.string x.key), .v (.bool x.gone), .v (.int .i64 x.item.kind), .v (.string x.item.s), .sl 2 (encField x.item.f), .sl 1 (encS x.item.l), .v (.int .i64 x.item.exp)]
theorem lvs_encEffect1 (x : Effect) : lvs (encEffect [x]) = [.s (.string x.key), .s (.bool x.gone), .s (.int .i64 x.item.kind), .s (.string x.item.s), .d false 2 (encField x.item.f), .d false 1 (encS x.item.l), .s (.int .i64 x.item.exp)] := rfl
@[simp] theorem encEffect_length (l : List Effect) : (encEffect l).length = l.length := by simp [encEffect]
@[simp high] theorem encEffect_get (l : List Effect) (i : Nat) : (encEffect l)[i]? = (l[i]?).map fun x => [.v (.string x.key), .v (.bool x.gone), .v (.int .i64 x.item.kind), .v (.string x.item.s), .sl 2 (encField x.item.f), .sl 1 (encS x.item.l), .v (.int .i64 x.item.exp)] := by simp [encEffect]
@[simp] theorem encEffect_nil : encEffect [] = [] := rfl
theorem encEffect_cons (x : Effect) (l : List Effect) : encEffect (x :: l) = [.v (.string x.key), .v (.bool x.gone), .v (.int .i64 x.item.kind), .v (.string x.item.s), .sl 2 (encField x.item.f), .sl 1 (encS x.item.l), .v (.int .i64 x.item.exp)] :: encEffect l := rfl
theorem encEffect_append (l m : List Effect) : encEffect (l ++ m) = encEffect l ++ encEffect m := by simp [encEffect]
theorem encEffect_take (l : List Effect) (n : Nat) : (encEffect l).take n = encEffect (l.take n) := by simp [encEffect]
theorem encEffect_drop (l : List Effect) (n : Nat) : (encEffect l).drop n = encEffect (l.drop n) := by simp [encEffect]
theorem encEffect_sz (l : List Effect) : ∀ e ∈ encEffect l, e.length = 7 := by
  intro e h
  obtain ⟨x, _, rfl⟩ := List.mem_map.1 h
  rfl
@[simp] theorem encEffect_eq_nil (l : List Effect) : (encEffect l = []) = (l = []) := by simp [encEffect]
structure Rid where
  node : Int
  epoch : Int
deriving DecidableEq, Inhabited
attribute [ext] Rid
def encRid (l : List Rid) : List (List T) := l.map fun x => [.v (.int .i64 x.node), .v (.int .i64 x.epoch)]
theorem lvs_encRid1 (x : Rid) : lvs (encRid [x]) = [.s (.int .i64 x.node), .s (.int .i64 x.epoch)] := rfl
@[simp] theorem encRid_length (l : List Rid) : (encRid l).length = l.length := by simp [encRid]
@[simp high] theorem encRid_get (l : List Rid) (i : Nat) : (encRid l)[i]? = (l[i]?).map fun x => [.v (.int .i64 x.node), .v (.int .i64 x.epoch)] := by simp [encRid]
@[simp] theorem encRid_nil : encRid [] = [] := rfl
theorem encRid_cons (x : Rid) (l : List Rid) : encRid (x :: l) = [.v (.int .i64 x.node), .v (.int .i64 x.epoch)] :: encRid l := rfl
theorem encRid_append (l m : List Rid) : encRid (l ++ m) = encRid l ++ encRid m := by simp [encRid]
theorem encRid_take (l : List Rid) (n : Nat) : (encRid l).take n = encRid (l.take n) := by simp [encRid]
theorem encRid_drop (l : List Rid) (n : Nat) : (encRid l).drop n = encRid (l.drop n) := by simp [encRid]
theorem encRid_sz (l : List Rid) : ∀ e ∈ encRid l, e.length = 2 := by
  intro e h
  obtain ⟨x, _, rfl⟩ := List.mem_map.1 h
  rfl
@[simp] theorem encRid_eq_nil (l : List Rid) : (encRid l = []) = (l = []) := by simp [encRid]
structure Feed where
  rid : Rid
  off : Int
  back : List Effect
  prev : Rid
  upto : Int
deriving DecidableEq, Inhabited
attribute [ext] Feed
def encFeed (l : List Feed) : List (List T) := l.map fun x => [.v (.int .i64 x.rid.node), .v (.int .i64 x.rid.epoch), .v (.int .i64 x.off), .sl 7 (encEffect x.back), .v (.int .i64 x.prev.node), .v (.int .i64 x.prev.epoch), .v (.int .i64 x.upto)]
theorem lvs_encFeed1 (x : Feed) : lvs (encFeed [x]) = [.s (.int .i64 x.rid.node), .s (.int .i64 x.rid.epoch), .s (.int .i64 x.off), .d false 7 (encEffect x.back), .s (.int .i64 x.prev.node), .s (.int .i64 x.prev.epoch), .s (.int .i64 x.upto)] := rfl
@[simp] theorem encFeed_length (l : List Feed) : (encFeed l).length = l.length := by simp [encFeed]
@[simp high] theorem encFeed_get (l : List Feed) (i : Nat) : (encFeed l)[i]? = (l[i]?).map fun x => [.v (.int .i64 x.rid.node), .v (.int .i64 x.rid.epoch), .v (.int .i64 x.off), .sl 7 (encEffect x.back), .v (.int .i64 x.prev.node), .v (.int .i64 x.prev.epoch), .v (.int .i64 x.upto)] := by simp [encFeed]
@[simp] theorem encFeed_nil : encFeed [] = [] := rfl
theorem encFeed_cons (x : Feed) (l : List Feed) : encFeed (x :: l) = [.v (.int .i64 x.rid.node), .v (.int .i64 x.rid.epoch), .v (.int .i64 x.off), .sl 7 (encEffect x.back), .v (.int .i64 x.prev.node), .v (.int .i64 x.prev.epoch), .v (.int .i64 x.upto)] :: encFeed l := rfl
theorem encFeed_append (l m : List Feed) : encFeed (l ++ m) = encFeed l ++ encFeed m := by simp [encFeed]
theorem encFeed_take (l : List Feed) (n : Nat) : (encFeed l).take n = encFeed (l.take n) := by simp [encFeed]
theorem encFeed_drop (l : List Feed) (n : Nat) : (encFeed l).drop n = encFeed (l.drop n) := by simp [encFeed]
theorem encFeed_sz (l : List Feed) : ∀ e ∈ encFeed l, e.length = 7 := by
  intro e h
  obtain ⟨x, _, rfl⟩ := List.mem_map.1 h
  rfl
@[simp] theorem encFeed_eq_nil (l : List Feed) : (encFeed l = []) = (l = []) := by simp [encFeed]
structure Claim where
  frm : Int
  to : Int
  node : Int
  epoch : Int
deriving DecidableEq, Inhabited
attribute [ext] Claim
def encClaim (l : List Claim) : List (List T) := l.map fun x => [.v (.int .i64 x.frm), .v (.int .i64 x.to), .v (.int .i64 x.node), .v (.int .i64 x.epoch)]
theorem lvs_encClaim1 (x : Claim) : lvs (encClaim [x]) = [.s (.int .i64 x.frm), .s (.int .i64 x.to), .s (.int .i64 x.node), .s (.int .i64 x.epoch)] := rfl
@[simp] theorem encClaim_length (l : List Claim) : (encClaim l).length = l.length := by simp [encClaim]
@[simp high] theorem encClaim_get (l : List Claim) (i : Nat) : (encClaim l)[i]? = (l[i]?).map fun x => [.v (.int .i64 x.frm), .v (.int .i64 x.to), .v (.int .i64 x.node), .v (.int .i64 x.epoch)] := by simp [encClaim]
@[simp] theorem encClaim_nil : encClaim [] = [] := rfl
theorem encClaim_cons (x : Claim) (l : List Claim) : encClaim (x :: l) = [.v (.int .i64 x.frm), .v (.int .i64 x.to), .v (.int .i64 x.node), .v (.int .i64 x.epoch)] :: encClaim l := rfl
theorem encClaim_append (l m : List Claim) : encClaim (l ++ m) = encClaim l ++ encClaim m := by simp [encClaim]
theorem encClaim_take (l : List Claim) (n : Nat) : (encClaim l).take n = encClaim (l.take n) := by simp [encClaim]
theorem encClaim_drop (l : List Claim) (n : Nat) : (encClaim l).drop n = encClaim (l.drop n) := by simp [encClaim]
theorem encClaim_sz (l : List Claim) : ∀ e ∈ encClaim l, e.length = 4 := by
  intro e h
  obtain ⟨x, _, rfl⟩ := List.mem_map.1 h
  rfl
@[simp] theorem encClaim_eq_nil (l : List Claim) : (encClaim l = []) = (l = []) := by simp [encClaim]
structure Msg where
  kind : Int
  frm : Int
  to : Int
  epoch : Int
  claims : List Claim
  nodes : List Int
  node : Int
  slot : Int
  num : Int
  rid : Rid
  prev : Rid
  off : Int
  effects : List Effect
deriving DecidableEq, Inhabited
attribute [ext] Msg
def encMsg (l : List Msg) : List (List T) := l.map fun x => [.v (.int .i64 x.kind), .v (.int .i64 x.frm), .v (.int .i64 x.to), .v (.int .i64 x.epoch), .sl 4 (encClaim x.claims), .sl 1 (encI x.nodes), .v (.int .i64 x.node), .v (.int .i64 x.slot), .v (.int .i64 x.num), .v (.int .i64 x.rid.node), .v (.int .i64 x.rid.epoch), .v (.int .i64 x.prev.node), .v (.int .i64 x.prev.epoch), .v (.int .i64 x.off), .sl 7 (encEffect x.effects)]
theorem lvs_encMsg1 (x : Msg) : lvs (encMsg [x]) = [.s (.int .i64 x.kind), .s (.int .i64 x.frm), .s (.int .i64 x.to), .s (.int .i64 x.epoch), .d false 4 (encClaim x.claims), .d false 1 (encI x.nodes), .s (.int .i64 x.node), .s (.int .i64 x.slot), .s (.int .i64 x.num), .s (.int .i64 x.rid.node), .s (.int .i64 x.rid.epoch), .s (.int .i64 x.prev.node), .s (.int .i64 x.prev.epoch), .s (.int .i64 x.off), .d false 7 (encEffect x.effects)] := rfl
@[simp] theorem encMsg_length (l : List Msg) : (encMsg l).length = l.length := by simp [encMsg]
@[simp high] theorem encMsg_get (l : List Msg) (i : Nat) : (encMsg l)[i]? = (l[i]?).map fun x => [.v (.int .i64 x.kind), .v (.int .i64 x.frm), .v (.int .i64 x.to), .v (.int .i64 x.epoch), .sl 4 (encClaim x.claims), .sl 1 (encI x.nodes), .v (.int .i64 x.node), .v (.int .i64 x.slot), .v (.int .i64 x.num), .v (.int .i64 x.rid.node), .v (.int .i64 x.rid.epoch), .v (.int .i64 x.prev.node), .v (.int .i64 x.prev.epoch), .v (.int .i64 x.off), .sl 7 (encEffect x.effects)] := by simp [encMsg]
@[simp] theorem encMsg_nil : encMsg [] = [] := rfl
theorem encMsg_cons (x : Msg) (l : List Msg) : encMsg (x :: l) = [.v (.int .i64 x.kind), .v (.int .i64 x.frm), .v (.int .i64 x.to), .v (.int .i64 x.epoch), .sl 4 (encClaim x.claims), .sl 1 (encI x.nodes), .v (.int .i64 x.node), .v (.int .i64 x.slot), .v (.int .i64 x.num), .v (.int .i64 x.rid.node), .v (.int .i64 x.rid.epoch), .v (.int .i64 x.prev.node), .v (.int .i64 x.prev.epoch), .v (.int .i64 x.off), .sl 7 (encEffect x.effects)] :: encMsg l := rfl
theorem encMsg_append (l m : List Msg) : encMsg (l ++ m) = encMsg l ++ encMsg m := by simp [encMsg]
theorem encMsg_take (l : List Msg) (n : Nat) : (encMsg l).take n = encMsg (l.take n) := by simp [encMsg]
theorem encMsg_drop (l : List Msg) (n : Nat) : (encMsg l).drop n = encMsg (l.drop n) := by simp [encMsg]
theorem encMsg_sz (l : List Msg) : ∀ e ∈ encMsg l, e.length = 15 := by
  intro e h
  obtain ⟨x, _, rfl⟩ := List.mem_map.1 h
  rfl
@[simp] theorem encMsg_eq_nil (l : List Msg) : (encMsg l = []) = (l = []) := by simp [encMsg]
theorem mixed : Try.prog.follows .mixedOrders = true := by kernel_rfl
theorem encField_lvsA (al : Bool) (l : List Field) : lvsA al (encField l) = lvs (encField l) := by
  simp [lvsA, lvs, encField, List.flatMap_map]
theorem encS_lvsA (al : Bool) (l : List ByteArray) : lvsA al (encS l) = lvs (encS l) := by
  simp [lvsA, lvs, encS, List.flatMap_map]
theorem encI_lvsA (al : Bool) (l : List Int) : lvsA al (encI l) = lvs (encI l) := by
  simp [lvsA, lvs, encI, List.flatMap_map]
/-- The first place where p no longer holds, sought by halves. -/
def bs (p : Nat → Bool) (lo hi : Nat) : Nat :=
  if h : lo < hi then (if p ((lo + hi) / 2) then bs p ((lo + hi) / 2 + 1) hi else bs p lo ((lo + hi) / 2)) else lo
termination_by hi - lo
theorem bs_le (p : Nat → Bool) (lo hi : Nat) (h : lo ≤ hi) : bs p lo hi ≤ hi ∧ lo ≤ bs p lo hi := by
  fun_induction bs p lo hi with
  | case1 lo hi h1 hp ih => have := ih (by omega); omega
  | case2 lo hi h1 hp ih => have := ih (by omega); omega
  | case3 lo hi h1 => omega
theorem take_eq {α : Type} {l m : List α} {i : Nat} {x y : α} (hx : l[i]? = some x) (hy : m[i]? = some y) (h : l.take i = m.take i) : l.take (i + 1) = m.take (i + 1) ↔ x = y := by
  rw [List.take_add_one, List.take_add_one, h, hx, hy]
  simp
theorem take_all {α : Type} {l m : List α} {i : Nat} (hl : l.length ≤ i) (hlm : l.length = m.length) (h : l.take i = m.take i) : l = m := by
  rwa [List.take_of_length_le hl, List.take_of_length_le (by omega)] at h
theorem get_some {α : Type} {l : List α} {i : Nat} (h : i < l.length) : ∃ x, l[i]? = some x := ⟨_, List.getElem?_eq_getElem h⟩
theorem ne_of_get {α : Type} {l m : List α} {i : Nat} {x y : α} (hx : l[i]? = some x) (hy : m[i]? = some y) (h : x ≠ y) : l ≠ m := by
  rintro rfl
  rw [hx] at hy
  exact h (by simpa using hy)
end Go.Proofs.Ytlkhfdccapkcdaa
/- Walks: texts compared, sought by halves; fields compared. -/
namespace Go.Proofs.Ytlkhfdccapkcdaa
open Go Go.RowKit
set_option linter.unusedVariables false
set_option linter.unusedSimpArgs false
set_option maxRecDepth 8000 in
set_option maxHeartbeats 8000000 in
theorem s_cmpStr (a b : ByteArray) : Sound Try.prog 127 [.l (.s (.string a)), .l (.s (.string b))] [] (.l (.s (.int .i64 ((cmpB a b))))) [] := by
  refine Sound.of_aw (fn := Try.f127) (c := _) Try.func127 rfl (by simp [Try.f127]) fun cx hG hnb => ?_
  rw [show Try.f127.ntmps = 8 from rfl]
  have hn0 : cx.nb = 0 := hnb
  refine AW.step (by simp; rfl) ?_
  apply AW.step
  · simp
    refine xcall_cmp Try.func138 (by kernel_rfl) (by kernel_rfl) (by kernel_rfl) (by kernel_rfl) ?_
    try simp
    rfl
  refine AW.ret ?_
  refine Left.plain hnb (by simp [Try.f127, resV, resC, comp]; rfl) rfl rfl ?_
  simp
theorem en_cmpStr : Enters Try.prog 127 := enters Try.func127 (by kernel_rfl) rfl
set_option maxRecDepth 8000 in
set_option maxHeartbeats 8000000 in
theorem s_strCompare (a b : ByteArray) : Sound Try.prog 110 [.l (.s (.string a)), .l (.s (.string b))] [] (.l (.s (.int .i64 ((cmpB a b))))) [] := by
  refine Sound.of_aw (fn := Try.f110) (c := _) Try.func110 rfl (by simp [Try.f110]) fun cx hG hnb => ?_
  rw [show Try.f110.ntmps = 8 from rfl]
  have hn0 : cx.nb = 0 := hnb
  refine AW.step (by simp; rfl) ?_
  apply AW.step
  · simp
    refine xcall_plain en_cmpStr (s_cmpStr _ _) rfl ⟨.same rfl, .same rfl, trivial⟩ ?_
    try simp
    rfl
  refine AW.ret ?_
  refine Left.plain hnb (by simp [Try.f110, resV, resC, comp]; rfl) rfl rfl ?_
  simp
theorem en_strCompare : Enters Try.prog 110 := enters Try.func110 (by kernel_rfl) rfl
set_option maxRecDepth 8000 in
set_option maxHeartbeats 8000000 in
theorem s_hFind1 (x : Field) (c : ByteArray) : Sound Try.prog 109 [.g [.s (.string x.name), .s (.string x.val)], .l (.s (.string c))] [] (.l (.s (.int .i64 ((cmpB x.name c))))) [] := by
  refine Sound.of_aw (fn := Try.f109) (c := _) Try.func109 rfl (by simp [Try.f109]) fun cx hG hnb => ?_
  rw [show Try.f109.ntmps = 9 from rfl]
  have hn0 : cx.nb = 0 := hnb
  refine AW.step (by simp; rfl) ?_
  apply AW.step
  · simp
    refine xcall_plain en_strCompare (s_strCompare _ _) rfl ⟨.same rfl, .same rfl, trivial⟩ ?_
    try simp
    rfl
  refine AW.ret ?_
  refine Left.plain hnb (by simp [Try.f109, resV, resC, comp]; rfl) rfl rfl ?_
  simp
theorem en_hFind1 : Enters Try.prog 109 := enters Try.func109 (by kernel_rfl) rfl
set_option maxRecDepth 8000 in
set_option maxHeartbeats 8000000 in
theorem s_spFind1 (x : Pair) (c : ByteArray) : Sound Try.prog 121 [.g [.s (.string x.key), .s (.int .i64 x.item.kind), .s (.string x.item.s), .d true 2 (encField x.item.f), .d true 1 (encS x.item.l), .s (.int .i64 x.item.exp)], .l (.s (.string c))] [] (.l (.s (.int .i64 ((cmpB x.key c))))) [] := by
  refine Sound.of_aw (fn := Try.f121) (c := _) Try.func121 rfl (by simp [Try.f121]) fun cx hG hnb => ?_
  rw [show Try.f121.ntmps = 9 from rfl]
  have hn0 : cx.nb = 0 := hnb
  refine AW.step (by simp; rfl) ?_
  apply AW.step
  · simp
    refine xcall_plain en_strCompare (s_strCompare _ _) rfl ⟨.same rfl, .same rfl, trivial⟩ ?_
    try simp
    rfl
  refine AW.ret ?_
  refine Left.plain hnb (by simp [Try.f121, resV, resC, comp]; rfl) rfl rfl ?_
  simp
theorem en_spFind1 : Enters Try.prog 121 := enters Try.func121 (by kernel_rfl) rfl
def underField (l : List Field) (name : ByteArray) (i : Nat) : Bool := decide (cmpB (l.getD i default).name name < 0)
def seekField (l : List Field) (name : ByteArray) : Nat := bs (underField l name) 0 l.length
def hasField (l : List Field) (name : ByteArray) : Bool := decide (seekField l name < l.length ∧ cmpB (l.getD (seekField l name) default).name name = 0)
theorem seekField_le (l : List Field) (name : ByteArray) : seekField l name ≤ l.length := (bs_le _ _ _ (Nat.zero_le _)).1
theorem hasField_at (l : List Field) (name : ByteArray) (h : hasField l name = true) : ∃ x, l[seekField l name]? = some x := by
  simp [hasField] at h
  exact ⟨_, List.getElem?_eq_getElem h.1⟩
set_option maxRecDepth 8000 in
set_option maxHeartbeats 8000000 in
theorem s_bsField (l : List Field) (name : ByteArray) : Sound Try.prog 108 [.l (.d true 2 ((encField l))), .l (.s (.string name)), .l (.s (.func (.func 109) #[] #[]))] [] (.t [(false, [.s (.int .i64 ((seekField l name)))]), (false, [.s (.bool ((hasField l name)))])]) [] := by
  refine Sound.of_aw (fn := Try.f108) (c := _) Try.func108 rfl (by simp [Try.f108]) fun cx hG hnb => ?_
  rw [show Try.f108.ntmps = 49 from rfl]
  have hn0 : cx.nb = 0 := hnb
  refine AW.len_d 0 rfl fun hl => ?_
  simp only [encField_length] at hl
  refine AW.step (by simp [hl]; rfl) ?_
  refine AW.step (by simp [hl]; rfl) ?_
  refine AW.step (by simp [hl]; rfl) ?_
  refine AW.seq ?_
  refine AW.block ?_
  refine AW.loopF (α := Nat × Nat) [9, 10, 11, 15, 16, 17, 18, 19, 20, 21, 22, 23, 24, 25, 26, 27, 28, 29, 30, 31, 32, 33, 34] (fun x => [(9, .l (.s (.int .i64 x.1))), (10, .l (.s (.int .i64 x.2)))]) (fun _ => []) (fun x => x.2 ≤ l.length ∧ x.1 ≤ x.2 ∧ bs (underField l name) x.1 x.2 = seekField l name) (fun x => x.2 - x.1) (0, l.length) (by simp; rfl) (by simp) rfl ⟨Nat.le_refl _, Nat.zero_le _, rfl⟩ ?_
  rintro ⟨lo, hi⟩ ⟨g1, g2, g3⟩
  simp only at g1 g2 g3 ⊢
  refine AW.seq ?_
  refine AW.step (by simp [hl]; rfl) ?_
  refine AW.cond rfl (fun h3 => ?_) (fun h3 => ?_)
  · try simp at h3
    refine AW.skip ?_
    simp only [Post.seq, Post.block, if_true]
    refine AW.block ?_
    have hm := mid lo hi (by omega)
    obtain ⟨m, hmd⟩ : ∃ m, m = (lo + hi) / 2 := ⟨_, rfl⟩
    have hlt : lo < hi := by omega
    rw [← hmd] at hm
    obtain ⟨x, hx⟩ : ∃ x, l[m]? = some x := ⟨_, List.getElem?_eq_getElem (show m < l.length by omega)⟩
    have hbs : bs (underField l name) lo hi = if underField l name m then bs (underField l name) (m + 1) hi else bs (underField l name) lo m := by
      rw [bs, dif_pos hlt, hmd]
    refine AW.step (by simp [hl, hm]; rfl) ?_
    apply AW.step
    · simp [hl, hx]
      refine xcall_plain en_hFind1 (s_hFind1 x _) rfl ⟨.same rfl, .same rfl, trivial⟩ ?_
      try simp [hl, hx]
      rfl
    refine AW.cond rfl (fun h5 => ?_) (fun h5 => ?_)
    · try simp at h5
      refine AW.last (by simp [hl, i64_succ (show m + 1 ≤ 9223372036854775807 by omega)]; rfl) ?_
      simp only [Post.seq, Post.block, if_true]
      first
        | exact ⟨(m + 1, hi), Weak.keep _ (by simp), ⟨g1, by simp; omega, by rw [← g3, hbs, if_pos (by simpa [underField, hx] using h5)]⟩, by simp; omega⟩
        | exact ⟨(lo, m), Weak.keep _ (by simp), ⟨by simp; omega, by simp; omega, by rw [← g3, hbs, if_neg (by simpa [underField, hx] using h5)]⟩, by simp; omega⟩
    · try simp at h5
      refine AW.last (by simp [hl]; rfl) ?_
      simp only [Post.seq, Post.block, if_true]
      first
        | exact ⟨(m + 1, hi), Weak.keep _ (by simp), ⟨g1, by simp; omega, by rw [← g3, hbs, if_pos (by simpa [underField, hx] using h5)]⟩, by simp; omega⟩
        | exact ⟨(lo, m), Weak.keep _ (by simp), ⟨by simp; omega, by simp; omega, by rw [← g3, hbs, if_neg (by simpa [underField, hx] using h5)]⟩, by simp; omega⟩
  · try simp at h3
    refine AW.exit ?_
    simp only [Post.seq, Post.block, if_true]
    have hi0 : seekField l name = lo := by rw [← g3, bs, dif_neg (by omega)]
    by_cases hlt : lo < l.length
    · obtain ⟨x, hx⟩ : ∃ x, l[lo]? = some x := ⟨_, List.getElem?_eq_getElem hlt⟩
      apply AW.step
      · simp [show decide (lo < l.length) = true by simpa using hlt, hx]
        refine xcall_plain en_hFind1 (s_hFind1 x _) rfl ⟨.same rfl, .same rfl, trivial⟩ ?_
        simp
        rfl
      refine AW.ret (Left.plain hnb (by simp [Try.f108, resV, resC, comp]; rfl) rfl rfl ?_)
      have hd : l.getD lo default = x := by simp [List.getD_eq_getElem?_getD, hx]
      simp only [hi0, hasField, hd]
      simp [hlt]
    · apply AW.step
      · simp [hlt]
        rfl
      refine AW.ret (Left.plain hnb (by simp [Try.f108, resV, resC, comp]; rfl) rfl rfl ?_)
      simp [hi0, hasField, hlt]
theorem en_bsField : Enters Try.prog 108 := enters Try.func108 (by kernel_rfl) rfl
set_option maxRecDepth 8000 in
set_option maxHeartbeats 8000000 in
theorem s_hFind (l : List Field) (name : ByteArray) : Sound Try.prog 74 [.l (.d true 2 ((encField l))), .l (.s (.string name))] [] (.t [(false, [.s (.int .i64 ((seekField l name)))]), (false, [.s (.bool ((hasField l name)))])]) [] := by
  refine Sound.of_aw (fn := Try.f74) (c := _) Try.func74 rfl (by simp [Try.f74]) fun cx hG hnb => ?_
  rw [show Try.f74.ntmps = 11 from rfl]
  have hn0 : cx.nb = 0 := hnb
  refine AW.step (by simp; rfl) ?_
  apply AW.step
  · simp
    refine xcall_plain en_bsField (s_bsField _ _) rfl ⟨.d _ _ _, .same rfl, .same rfl, trivial⟩ ?_
    try simp
    rfl
  refine AW.ret ?_
  refine Left.plain hnb (by simp [Try.f74, resV, resC, comp]; rfl) rfl rfl ?_
  simp
theorem en_hFind : Enters Try.prog 74 := enters Try.func74 (by kernel_rfl) rfl
def underPair (l : List Pair) (name : ByteArray) (i : Nat) : Bool := decide (cmpB (l.getD i default).key name < 0)
def seekPair (l : List Pair) (name : ByteArray) : Nat := bs (underPair l name) 0 l.length
def hasPair (l : List Pair) (name : ByteArray) : Bool := decide (seekPair l name < l.length ∧ cmpB (l.getD (seekPair l name) default).key name = 0)
theorem seekPair_le (l : List Pair) (name : ByteArray) : seekPair l name ≤ l.length := (bs_le _ _ _ (Nat.zero_le _)).1
theorem hasPair_at (l : List Pair) (name : ByteArray) (h : hasPair l name = true) : ∃ x, l[seekPair l name]? = some x := by
  simp [hasPair] at h
  exact ⟨_, List.getElem?_eq_getElem h.1⟩
set_option maxRecDepth 8000 in
set_option maxHeartbeats 8000000 in
theorem s_bsPair (l : List Pair) (name : ByteArray) : Sound Try.prog 120 [.l (.d true 6 ((encPair l))), .l (.s (.string name)), .l (.s (.func (.func 121) #[] #[]))] [] (.t [(false, [.s (.int .i64 ((seekPair l name)))]), (false, [.s (.bool ((hasPair l name)))])]) [] := by
  refine Sound.of_aw (fn := Try.f120) (c := _) Try.func120 rfl (by simp [Try.f120]) fun cx hG hnb => ?_
  rw [show Try.f120.ntmps = 49 from rfl]
  have hn0 : cx.nb = 0 := hnb
  refine AW.len_d 0 rfl fun hl => ?_
  simp only [encPair_length] at hl
  refine AW.step (by simp [hl]; rfl) ?_
  refine AW.step (by simp [hl]; rfl) ?_
  refine AW.step (by simp [hl]; rfl) ?_
  refine AW.seq ?_
  refine AW.block ?_
  refine AW.loopF (α := Nat × Nat) [9, 10, 11, 15, 16, 17, 18, 19, 20, 21, 22, 23, 24, 25, 26, 27, 28, 29, 30, 31, 32, 33, 34] (fun x => [(9, .l (.s (.int .i64 x.1))), (10, .l (.s (.int .i64 x.2)))]) (fun _ => []) (fun x => x.2 ≤ l.length ∧ x.1 ≤ x.2 ∧ bs (underPair l name) x.1 x.2 = seekPair l name) (fun x => x.2 - x.1) (0, l.length) (by simp; rfl) (by simp) rfl ⟨Nat.le_refl _, Nat.zero_le _, rfl⟩ ?_
  rintro ⟨lo, hi⟩ ⟨g1, g2, g3⟩
  simp only at g1 g2 g3 ⊢
  refine AW.seq ?_
  refine AW.step (by simp [hl]; rfl) ?_
  refine AW.cond rfl (fun h3 => ?_) (fun h3 => ?_)
  · try simp at h3
    refine AW.skip ?_
    simp only [Post.seq, Post.block, if_true]
    refine AW.block ?_
    have hm := mid lo hi (by omega)
    obtain ⟨m, hmd⟩ : ∃ m, m = (lo + hi) / 2 := ⟨_, rfl⟩
    have hlt : lo < hi := by omega
    rw [← hmd] at hm
    obtain ⟨x, hx⟩ : ∃ x, l[m]? = some x := ⟨_, List.getElem?_eq_getElem (show m < l.length by omega)⟩
    have hbs : bs (underPair l name) lo hi = if underPair l name m then bs (underPair l name) (m + 1) hi else bs (underPair l name) lo m := by
      rw [bs, dif_pos hlt, hmd]
    refine AW.step (by simp [hl, hm]; rfl) ?_
    apply AW.step
    · simp [hl, hx]
      refine xcall_plain en_spFind1 (s_spFind1 x _) rfl ⟨.g ⟨.s _,.s _,.s _,.al _ _ _,.al _ _ _,.s _,trivial⟩, .same rfl, trivial⟩ ?_
      try simp [hl, hx]
      rfl
    refine AW.cond rfl (fun h5 => ?_) (fun h5 => ?_)
    · try simp at h5
      refine AW.last (by simp [hl, i64_succ (show m + 1 ≤ 9223372036854775807 by omega)]; rfl) ?_
      simp only [Post.seq, Post.block, if_true]
      first
        | exact ⟨(m + 1, hi), Weak.keep _ (by simp), ⟨g1, by simp; omega, by rw [← g3, hbs, if_pos (by simpa [underPair, hx] using h5)]⟩, by simp; omega⟩
        | exact ⟨(lo, m), Weak.keep _ (by simp), ⟨by simp; omega, by simp; omega, by rw [← g3, hbs, if_neg (by simpa [underPair, hx] using h5)]⟩, by simp; omega⟩
    · try simp at h5
      refine AW.last (by simp [hl]; rfl) ?_
      simp only [Post.seq, Post.block, if_true]
      first
        | exact ⟨(m + 1, hi), Weak.keep _ (by simp), ⟨g1, by simp; omega, by rw [← g3, hbs, if_pos (by simpa [underPair, hx] using h5)]⟩, by simp; omega⟩
        | exact ⟨(lo, m), Weak.keep _ (by simp), ⟨by simp; omega, by simp; omega, by rw [← g3, hbs, if_neg (by simpa [underPair, hx] using h5)]⟩, by simp; omega⟩
  · try simp at h3
    refine AW.exit ?_
    simp only [Post.seq, Post.block, if_true]
    have hi0 : seekPair l name = lo := by rw [← g3, bs, dif_neg (by omega)]
    by_cases hlt : lo < l.length
    · obtain ⟨x, hx⟩ : ∃ x, l[lo]? = some x := ⟨_, List.getElem?_eq_getElem hlt⟩
      apply AW.step
      · simp [show decide (lo < l.length) = true by simpa using hlt, hx]
        refine xcall_plain en_spFind1 (s_spFind1 x _) rfl ⟨.g ⟨.s _,.s _,.s _,.al _ _ _,.al _ _ _,.s _,trivial⟩, .same rfl, trivial⟩ ?_
        simp
        rfl
      refine AW.ret (Left.plain hnb (by simp [Try.f120, resV, resC, comp]; rfl) rfl rfl ?_)
      have hd : l.getD lo default = x := by simp [List.getD_eq_getElem?_getD, hx]
      simp only [hi0, hasPair, hd]
      simp [hlt]
    · apply AW.step
      · simp [hlt]
        rfl
      refine AW.ret (Left.plain hnb (by simp [Try.f120, resV, resC, comp]; rfl) rfl rfl ?_)
      simp [hi0, hasPair, hlt]
theorem en_bsPair : Enters Try.prog 120 := enters Try.func120 (by kernel_rfl) rfl
set_option maxRecDepth 8000 in
set_option maxHeartbeats 8000000 in
theorem s_spFind (l : List Pair) (name : ByteArray) : Sound Try.prog 93 [.l (.d true 6 ((encPair l))), .l (.s (.string name))] [] (.t [(false, [.s (.int .i64 ((seekPair l name)))]), (false, [.s (.bool ((hasPair l name)))])]) [] := by
  refine Sound.of_aw (fn := Try.f93) (c := _) Try.func93 rfl (by simp [Try.f93]) fun cx hG hnb => ?_
  rw [show Try.f93.ntmps = 11 from rfl]
  have hn0 : cx.nb = 0 := hnb
  refine AW.step (by simp; rfl) ?_
  apply AW.step
  · simp
    refine xcall_plain en_bsPair (s_bsPair _ _) rfl ⟨.d _ _ _, .same rfl, .same rfl, trivial⟩ ?_
    try simp
    rfl
  refine AW.ret ?_
  refine Left.plain hnb (by simp [Try.f93, resV, resC, comp]; rfl) rfl rfl ?_
  simp
theorem en_spFind : Enters Try.prog 93 := enters Try.func93 (by kernel_rfl) rfl
set_option maxRecDepth 8000 in
set_option maxHeartbeats 8000000 in
theorem s_hGet (l : List Field) (name : ByteArray) : Sound Try.prog 22 [.l (.d true 2 ((encField l))), .l (.s (.string name))] [] (.t [(false, [.s (.string ((bif hasField l name then (l.getD (seekField l name) default).val else ⟨#[]⟩)))]), (false, [.s (.bool ((hasField l name)))])]) [] := by
  refine Sound.of_aw (fn := Try.f22) (c := _) Try.func22 rfl (by simp [Try.f22]) fun cx hG hnb => ?_
  rw [show Try.f22.ntmps = 21 from rfl]
  have hn0 : cx.nb = 0 := hnb
  refine AW.step (by simp; rfl) ?_
  apply AW.step
  · simp
    refine xcall_plain en_hFind (s_hFind _ _) rfl ⟨.d _ _ _, .same rfl, trivial⟩ ?_
    try simp
    rfl
  refine AW.seq ?_
  refine AW.step (by simp; rfl) ?_
  refine AW.cond rfl (fun h2 => ?_) (fun h2 => ?_)
  · try simp at h2
    refine AW.step (by simp; rfl) ?_
    refine AW.ret ?_
    refine Left.plain hnb (by simp [Try.f22, resV, resC, comp]; rfl) rfl rfl ?_
    simp [h2]
  · have hf : hasField l name = true := by simpa using h2
    obtain ⟨x, hx⟩ := hasField_at l name hf
    refine AW.skip ?_
    simp only [Post.seq, Post.block, if_true]
    refine AW.step (by simp [hx]; rfl) ?_
    refine AW.ret ?_
    refine Left.plain hnb (by simp [Try.f22, resV, resC, comp, hx]; rfl) rfl rfl ?_
    simp [hf, hx]
theorem en_hGet : Enters Try.prog 22 := enters Try.func22 (by kernel_rfl) rfl
end Go.Proofs.Ytlkhfdccapkcdaa
/- The order of texts. No program in sight. -/
namespace Go.Proofs.Ytlkhfdccapkcdaa
open Go Go.RowKit
set_option linter.unusedVariables false
set_option linter.unusedSimpArgs false
theorem bl_irrefl : ∀ x : List UInt8, Op.bytesLess x x = false
  | [] => rfl
  | a :: x => by simp [Op.bytesLess, bl_irrefl x]
theorem cmp_lt : ∀ x y : List UInt8, (Lib.compareBytes x y < 0 ↔ Op.bytesLess x y = true) ∧ (Lib.compareBytes x y = 0 ↔ x = y)
  | [], [] => by simp [Lib.compareBytes, Op.bytesLess]
  | [], _ :: _ => by simp [Lib.compareBytes, Op.bytesLess]
  | _ :: _, [] => by simp [Lib.compareBytes, Op.bytesLess]
  | a :: x, b :: y => by
    have ih := cmp_lt x y
    simp only [Lib.compareBytes, Op.bytesLess]
    by_cases h : a < b
    · have h' : a.toNat < b.toNat := h
      have : a ≠ b := by rintro rfl; exact absurd h' (by omega)
      simp [h, h', this]
    · by_cases h2 : b < a
      · have h' : b.toNat < a.toNat := h2
        have h3 : ¬ a.toNat < b.toNat := by omega
        have : a ≠ b := by rintro rfl; exact absurd h' (by omega)
        simp [h, h2, h', h3, this]
      · have h3 : ¬ a.toNat < b.toNat := h
        have h4 : ¬ b.toNat < a.toNat := h2
        have : a = b := UInt8.toNat_inj.1 (by omega)
        subst this
        simp [h3, ih.1, ih.2]
theorem bl_trans : ∀ x y z : List UInt8, Op.bytesLess x y = true → Op.bytesLess y z = true → Op.bytesLess x z = true
  | [], [], z, h, _ => by simp [Op.bytesLess] at h
  | [], _ :: _, [], _, h => by simp [Op.bytesLess] at h
  | [], _ :: _, _ :: _, _, _ => by simp [Op.bytesLess]
  | _ :: _, [], _, h, _ => by simp [Op.bytesLess] at h
  | _ :: _, _ :: _, [], _, h => by simp [Op.bytesLess] at h
  | a :: x, b :: y, c :: z, h, k => by
    have ih := bl_trans x y z
    simp only [Op.bytesLess, Bool.or_eq_true, Bool.and_eq_true, decide_eq_true_eq, beq_iff_eq] at h k ⊢
    rcases h with h | ⟨rfl, h⟩
    · rcases k with k | ⟨rfl, k⟩
      · exact .inl (UInt8.lt_trans h k)
      · exact .inl h
    · rcases k with k | ⟨rfl, k⟩
      · exact .inl k
      · exact .inr ⟨rfl, ih h k⟩
theorem ba_ext {a b : ByteArray} (h : a.data.toList = b.data.toList) : a = b := by
  cases a; cases b; simp at h; rw [h]
theorem cmpB_lt (a b : ByteArray) : cmpB a b < 0 ↔ slt a b = true := (cmp_lt _ _).1
theorem cmpB_eq (a b : ByteArray) : cmpB a b = 0 ↔ a = b := (cmp_lt _ _).2.trans ⟨ba_ext, fun h => by rw [h]⟩
theorem slt_irrefl (a : ByteArray) : slt a a = false := bl_irrefl _
theorem slt_trans {a b c : ByteArray} (h : slt a b = true) (k : slt b c = true) : slt a c = true := bl_trans _ _ _ h k
theorem slt_total (a b : ByteArray) : slt a b = true ∨ a = b ∨ slt b a = true := by
  have h := bytesLess_or a.data.toList b.data.toList
  cases h1 : Op.bytesLess a.data.toList b.data.toList
  · cases h2 : Op.bytesLess b.data.toList a.data.toList
    · rw [h1, h2] at h
      simp at h
      exact .inr (.inl (ba_ext (by simpa using h)))
    · exact .inr (.inr h2)
  · exact .inl h1
theorem slt_asymm {a b : ByteArray} (h : slt a b = true) : slt b a = false := by
  cases k : slt b a
  · rfl
  · have := slt_trans h k
    rw [slt_irrefl] at this
    simp at this
theorem slt_ne {a b : ByteArray} (h : slt a b = true) : a ≠ b := by
  rintro rfl
  rw [slt_irrefl] at h
  simp at h
theorem slt_or (a b : ByteArray) : slt a b = false ↔ a = b ∨ slt b a = true := by
  constructor
  · intro h
    rcases slt_total a b with k | k | k
    · rw [h] at k; simp at k
    · exact .inl k
    · exact .inr k
  · rintro (rfl | h)
    · exact slt_irrefl _
    · exact slt_asymm h
/-- By halves the first place is found where p no longer holds, if it holds up to there. -/
theorem bs_first (p : Nat → Bool) (k : Nat) : ∀ (lo hi : Nat), lo ≤ k → k ≤ hi → (∀ i, lo ≤ i → i < hi → p i = decide (i < k)) → bs p lo hi = k := by
  intro lo hi
  fun_induction bs p lo hi with
  | case1 lo hi h1 hp ih =>
    intro g1 g2 g3
    have g4 := g3 ((lo + hi) / 2) (by omega) (by omega)
    rw [hp] at g4
    have g5 : (lo + hi) / 2 < k := by simpa using g4.symm
    exact ih (by omega) g2 fun i g6 g7 => g3 i (by omega) g7
  | case2 lo hi h1 hp ih =>
    intro g1 g2 g3
    have g4 := g3 ((lo + hi) / 2) (by omega) (by omega)
    have g5 : ¬ (lo + hi) / 2 < k := by
      intro h
      rw [decide_eq_true h] at g4
      exact hp g4
    exact ih g1 (by omega) fun i g6 g7 => g3 i g6 (by omega)
  | case3 lo hi h1 =>
    intro g1 g2 _
    omega
theorem find_hit {α : Type} {p : α → Bool} {l : List α} {i : Nat} {x : α} (h : (l.take i).find? p = none) (hx : l[i]? = some x) (hp : p x = true) : l.find? p = some x := by
  have e : l = l.take i ++ (x :: l.drop (i + 1)) := by
    have hi := (List.getElem?_eq_some_iff.1 hx).1
    have h2 := List.drop_eq_getElem_cons hi
    rw [(List.getElem?_eq_some_iff.1 hx).2] at h2
    rw [← h2, List.take_append_drop]
  rw [e, List.find?_append, h]
  simp [hp]
theorem find_miss {α : Type} {p : α → Bool} {l : List α} {i : Nat} {x : α} (h : (l.take i).find? p = none) (hx : l[i]? = some x) (hp : p x = false) : (l.take (i + 1)).find? p = none := by
  rw [List.take_add_one, hx, List.find?_append, h]
  simp [hp]
theorem filter_yes {α : Type} {p : α → Bool} {l : List α} {i : Nat} {x : α} (hx : l[i]? = some x) (hp : p x = true) : (l.take (i + 1)).filter p = (l.take i).filter p ++ [x] := by
  rw [List.take_add_one, hx]
  simp [hp]
theorem filter_no {α : Type} {p : α → Bool} {l : List α} {i : Nat} {x : α} (hx : l[i]? = some x) (hp : p x = false) : (l.take (i + 1)).filter p = (l.take i).filter p := by
  rw [List.take_add_one, hx]
  simp [hp]
theorem foldl_take {α β : Type} (f : β → α → β) (b : β) {l : List α} {i : Nat} {x : α} (hx : l[i]? = some x) : (l.take (i + 1)).foldl f b = f ((l.take i).foldl f b) x := by
  rw [List.take_add_one, hx]
  simp
theorem filter_take_le {α : Type} {p : α → Bool} (l : List α) (i : Nat) : ((l.take i).filter p).length ≤ i := by
  have := List.length_filter_le p (l.take i)
  simp at this
  omega
theorem take_snoc {α : Type} {l : List α} {i : Nat} {x : α} (h : l[i]? = some x) : l.take i ++ [x] = l.take (i + 1) := by
  rw [List.take_add_one, h]
  simp
end Go.Proofs.Ytlkhfdccapkcdaa
/- Elements of a row of data: their cells told, and stored. -/
namespace Go.Proofs.Ytlkhfdccapkcdaa
open Go Go.RowKit
set_option linter.unusedVariables false
set_option linter.unusedSimpArgs false
section
variable {es : List (List T)} {sz i j k : Nat} {e e' : List T}
theorem lvs_from (hes : ∀ e ∈ es, e.length = sz) (hi : es[i]? = some e) : (lvs es).drop (i * sz) = lvs [e] ++ lvs (es.drop (i + 1)) := by
  obtain ⟨hlt, he⟩ := List.getElem?_eq_some_iff.1 hi
  rw [lvs_dropN hes, List.drop_eq_getElem_cons hlt, he]
  simp [lvs]
theorem lvs_one_length (hes : ∀ e ∈ es, e.length = sz) (hi : es[i]? = some e) : (lvs [e]).length = sz := by
  have := hes e (List.mem_of_getElem? hi)
  simp [lvs, this]
theorem lvs_seg (hes : ∀ e ∈ es, e.length = sz) (hi : es[i]? = some e) (hjk : j + k ≤ sz) : ((lvs es).drop (i * sz + j)).take k = ((lvs [e]).drop j).take k := by
  have h1 := lvs_one_length hes hi
  rw [← List.drop_drop, lvs_from hes hi, List.drop_append_of_le_length (by omega), List.take_append_of_le_length (by rw [List.length_drop]; omega)]
theorem lvs_cell (hes : ∀ e ∈ es, e.length = sz) (hi : es[i]? = some e) (hj : j < sz) : (lvs es)[i * sz + j]? = (lvs [e])[j]? := by
  have h1 := lvs_one_length hes hi
  have h2 : ((lvs es).drop (i * sz))[j]? = (lvs [e])[j]? := by rw [lvs_from hes hi, List.getElem?_append_left (by omega)]
  rwa [List.getElem?_drop] at h2
theorem lvs_take1 (hes : ∀ e ∈ es, e.length = sz) (i : Nat) : (lvs es).take (i * sz) = lvs (es.take i) := lvs_takeN hes i
theorem setAt_behind (A B cs : List LV) (j : Nat) (h : j + cs.length ≤ B.length) : setAt (A ++ B) (A.length + j) cs = A ++ setAt B j cs := by
  rw [setAt_eq _ _ _ (by simp; omega), setAt_eq _ _ _ h]
  rw [List.take_length_add_append, Nat.add_assoc, List.drop_length_add_append]
  simp [List.append_assoc]
theorem setAt_left (A B cs : List LV) (j : Nat) (h : j + cs.length ≤ A.length) : setAt (A ++ B) j cs = setAt A j cs ++ B := by
  rw [setAt_eq _ _ _ (by simp; omega), setAt_eq _ _ _ h, List.take_append_of_le_length (by omega), List.drop_append_of_le_length (by omega), List.append_assoc, List.append_assoc, List.append_assoc]
theorem lvs_put {cs : List LV} (hes : ∀ e ∈ es, e.length = sz) (hi : es[i]? = some e) (hj : j + cs.length ≤ sz) (he' : setAt (lvs [e]) j cs = lvs [e']) : setAt (lvs es) (i * sz + j) cs = lvs (es.set i e') := by
  obtain ⟨hlt, he⟩ := List.getElem?_eq_some_iff.1 hi
  have h1 := lvs_one_length hes hi
  have h2 : lvs es = lvs (es.take i) ++ (lvs [e] ++ lvs (es.drop (i + 1))) := by
    rw [← lvs_from hes hi, ← lvs_takeN hes, List.take_append_drop]
  have h3 : (lvs (es.take i)).length = i * sz := by
    rw [lvs_length fun e he => hes e (List.mem_of_mem_take he), List.length_take]
    congr 1
    omega
  rw [h2, ← h3, setAt_behind _ _ _ _ (by rw [List.length_append]; omega), setAt_left _ _ _ _ (by omega), he', List.set_eq_take_append_cons_drop, if_pos hlt]
  simp [lvs]
theorem lvs_put_same {cs : List LV} (hes : ∀ e ∈ es, e.length = sz) (hi : es[i]? = some e) (hj : j + cs.length ≤ sz) (he' : setAt (lvs [e]) j cs = lvs [e]) : setAt (lvs es) (i * sz + j) cs = lvs es := by
  rw [lvs_put hes hi hj he']
  congr 1
  obtain ⟨hlt, he⟩ := List.getElem?_eq_some_iff.1 hi
  subst he
  simp
end
/-- An own row that comes back behind one that was handed over is data. -/
theorem Sound.frz1 {P : Program} {f : Nat} {args : List AV} {ty sz n : Nat} {cap : Option Nat} {es : List (List T)} {x0 y0 : Ob} (h : Sound P f args [y0] (.l (.r 1 sz 0 n)) [some x0, some ⟨ty, sz, true, cap, lvs es⟩]) (hn : es.length = n) (h0 : 0 < sz) (hes : ∀ e ∈ es, e.length = sz)
    (hm : n ≤ 140737488355328) (hx : (x0.frz 1 sz es).ren (inv (idr 1)) = x0) : Sound P f args [y0] (.l (.d false sz es)) [some x0] := by
  subst hn
  have hw : ∀ cx : Cx, cx.nb = 1 → Weak cx ⟨[(0, .l (.r 1 sz 0 es.length))], [some x0, some ⟨ty, sz, true, cap, lvs es⟩], 1, [], none⟩ ⟨[(0, .l (.d false sz es))], [some x0], 1, [], none⟩ := by
    intro cx hcx
    refine Weak.trans (Weak.freeze (o := 1) (sz := sz) (z := ⟨ty, sz, true, cap, lvs es⟩) (es := es) rfl rfl rfl h0 rfl hes hm) ?_
    refine Weak.cut 1 (by omega) (fun e he => ?_) ?_ rfl
    · simp only [List.mem_singleton] at he
      subst he
      simp [Tm.frz, lk_cons, AV.frz, LV.frz, AV.ren, LV.ren]
    · simp [pickOb, idr, List.range_succ]
      exact hx
  exact h.weak (fun cx hcx => hw cx hcx) rfl rfl (by simp [lk_cons])
/-- An own row becomes data. -/
theorem AW.frzRow {P : Program} {R : Option Nat} {cx : Cx} {Q : Post} {c : Code} {tm tm' : Tm} {ob ob' : List (Option Ob)} {nt : Nat} {gh gh' : List Tm} {ls : Option Code} (o : Nat) {ty sz : Nat} {cap : Option Nat} {es : List (List T)} (hz : ob[o]? = some (some ⟨ty, sz, true, cap, lvs es⟩)) (h0 : 0 < sz) (hes : ∀ e ∈ es, e.length = sz)
    (hm : es.length ≤ 140737488355328) (h1 : Tm.frz o sz es tm = tm') (h2 : (ob.set o none).map (Option.map (Ob.frz o sz es)) = ob') (h3 : gh.map (Tm.frz o sz es) = gh') (k : AW P R cx c Q ⟨tm', ob', nt, gh', ls⟩) : AW P R cx c Q ⟨tm, ob, nt, gh, ls⟩ := by
  subst h1
  subst h2
  subst h3
  exact AW.weak (Weak.freeze (st := ⟨tm, ob, nt, gh, ls⟩) (o := o) (sz := sz) (z := ⟨ty, sz, true, cap, lvs es⟩) (es := es) (by simp [St.obj, hz]) rfl rfl h0 rfl hes hm) k
/-- Objects picked and ordered, boxes too, where none was handed over. -/
theorem Weak.mixN {cx : Cx} {tm tm' : Tm} {ob ob' : List (Option Ob)} {nt : Nat} {gh gh' : List Tm} {ls : Option Code} (ids : List (Option Nat)) (hn : cx.nb = 0) (hnd : (ids.filterMap fun x => x).Nodup) (htm : ∀ e ∈ tm', (lk tm e.1).ren (inv ids) = e.2) (hob : pickOb ids ob = ob') (hgh : gh.map (Tm.ren (inv ids)) = gh') :
    Weak cx ⟨tm, ob, nt, gh, ls⟩ ⟨tm', ob', nt, gh', ls⟩ := by
  subst hob
  subst hgh
  have key : ∀ l : Tm, (∀ e ∈ l, (lk tm e.1).ren (inv ids) = e.2) → ∀ i, lk l i = (lk tm i).ren (inv ids) ∨ lk l i = .l .u := by
    intro l
    induction l with
    | nil => intro _ i; exact .inr rfl
    | cons e l ih =>
      intro h i
      rw [lk_cons]
      split
      · rename_i hi
        subst hi
        exact .inl (h e (by simp)).symm
      · exact ih (fun e' he' => h e' (by simp [he'])) i
  exact Weak.ren (st := ⟨tm, ob, nt, gh, ls⟩) ids tm' (nd_of ids hnd) (by omega) (fun i o hi ho => by omega) (key tm' htm)
section
variable {P : Program} {R : Option Nat} {cx : Cx} {Q : Post} {c : Code} {tm : Tm} {ob ob' : List (Option Ob)} {nt : Nat} {gh : List Tm} {ls : Option Code}
/-- A nil slice in a cell of an own object is seen as data. -/
theorem Weak.nilCellD (o j sz : Nat) {z : Ob} (hz : ob[o]? = some (some z)) (hj : z.cs[j]? = some (.s (.slice none 0 0))) (hrow : z.row = false) :
    Weak cx ⟨tm, ob, nt, gh, ls⟩ ⟨tm, ob.set o (some { z with cs := z.cs.set j (.d false sz []) }), nt, gh, ls⟩ := by
  intro σ a w hr
  have hl : o < ob.length := (List.getElem?_eq_some_iff.1 hz).1
  have hO := hr.h.obs o z hz
  have hbl : ∃ b k, σ o = some (some (b, k)) := by
    match hb : σ o with
    | none => rw [hb] at hO; exact hO.elim
    | some none =>
      rw [hb] at hO
      have := hO.1
      rw [hrow] at this
      simp at this
    | some (some (b, k)) => exact ⟨b, k, rfl⟩
  obtain ⟨b, k, hb⟩ := hbl
  rw [hb] at hO
  obtain ⟨vs, rest, g1, g2, g4, g5⟩ := hO
  have hall : All2 (RelL w (Xd cx w σ ob) (Xe w σ ob) σ) vs (z.cs.set j (.d false sz [])) := by
    obtain ⟨v, hv, hvr⟩ := g2.at j hj
    have hrel : RelL w (Xd cx w σ ob) (Xe w σ ob) σ v (.d false sz []) := by
      have e := hvr.1
      show Rd w _ _ _
      rw [e]
      exact .sl none 0 0 sz [] 0 0 (fun _ _ => undef) rfl (Nat.le_refl _) (by omega) (fun e he => by simp at he) (fun h => by omega) (fun _ => rfl) (fun i j hi => by omega) (fun i j e t he => by simp at he)
    have := g2.set j hrel
    have e : vs.set j v = vs := by
      apply List.ext_getElem?
      intro i
      by_cases h : j = i
      · subst h
        rw [List.getElem?_set_self (List.getElem?_eq_some_iff.1 hv).1, hv]
      · rw [List.getElem?_set_ne h]
    rwa [e] at this
  have hwr := hr.write (x' := { z with cs := z.cs.set j (.d false sz []) }) hz hb vs rest hall rfl rfl (fun h => g4 hrow) (fun h => by rw [hrow] at h; simp at h)
  refine Exists.intro σ ?_
  have e1 : w.setRow b (vs ++ rest).toArray = w := setRow_self _ _ _ _ _ g1
  rw [e1] at hwr
  exact hwr
theorem AW.nilCellD (o j sz : Nat) {z : Ob} (hz : ob[o]? = some (some z)) (hj : z.cs[j]? = some (.s (.slice none 0 0))) (hrow : z.row = false) (ho : ob.set o (some { z with cs := z.cs.set j (.d false sz []) }) = ob') (k : AW P R cx c Q ⟨tm, ob', nt, gh, ls⟩) : AW P R cx c Q ⟨tm, ob, nt, gh, ls⟩ := by
  subst ho
  exact AW.weak (Weak.nilCellD (z := z) o j sz hz hj hrow) k
end
end Go.Proofs.Ytlkhfdccapkcdaa
/- Drawn regions with effects: what each operation yields, and what it makes, is found while it is shown. -/
namespace Go.Proofs.Ytlkhfdccapkcdaa
open Go Go.RowKit
set_option linter.unusedVariables false
set_option linter.unusedSimpArgs false
def ObE (P : Program) (ops : Array Oper) (tm0 : Tm) (V : List AV) (M : List (List (Option Ob))) (nt : Nat) (gh : List Tm) (ls : Option Code) : List Oper → List DI → List AV → Prop
  | o :: os, d :: ds, v :: vs => (AllL (fun k => ∀ tm, AllL (fun r => lk tm r.1 = rdV V tm0 r) d.rd → xg P ops o ⟨tm, M.getD k [], nt, gh, ls⟩ (KD o.dst v tm (M.getD (bif d.ef then k + 1 else k) []) nt gh ls)) d.ks) ∧ ObE P ops tm0 V M nt gh ls os ds vs
  | _, _, [] => True
  | _, _, _ => False
section
variable {P : Program} {cx : Cx} {ops : Array Oper} {D : List DI} {n1 : Nat} {V : List AV} {M : List (List (Option Ob))} {Q : Post} {R : Option Nat} {tm tm' : Tm} {ob me : List (Option Ob)} {nt : Nat} {gh : List Tm} {ls : Option Code}
theorem ObE.obl (tm0 : Tm) : ∀ (os : List Oper) (ds : List DI) (vs : List AV), ObE P ops tm0 V M nt gh ls os ds vs → Obl P ops V M ⟨tm0, ob, nt, gh, ls⟩ os ds vs
  | _, _, [], _ => by simp [Obl]
  | [], _, _ :: _, h => by simp [ObE] at h
  | _ :: _, [], _ :: _, h => by simp [ObE] at h
  | o :: os, d :: ds, v :: vs, h => ⟨h.1, ObE.obl tm0 os ds vs h.2⟩
theorem ef_zero (D : List DI) (p : Nat → Bool) (h : ∀ e, p e = false) : efCount D p = 0 := by
  simp only [efCount, List.length_eq_zero_iff, List.filter_eq_nil_iff]
  intro a ha
  simp [h]
theorem AW.drawnE (hm : P.follows .mixedOrders = true) {id : Nat} {c : Code} {st' : St} (D : List DI) (n1 ne : Nat) (hc : chkD ops D n1 = true) (he : (efCount D fun e => decide (e < n1)) = ne) (hM : M.getD 0 [] = ob) (hO : ObE P ops tm V M nt gh ls ops.toList D V) (hV : V.length = n1)
    (htm : tmD ops.toList V tm = tm') (hx : xops P ops (ops.toList.drop n1) ⟨tm', M.getD ne [], nt, gh, ls⟩ (fun s => s = st')) (k : AW P R cx c Q st') : AW P R cx (.seq (.region id ops true) c) Q ⟨tm, ob, nt, gh, ls⟩ := by
  subst htm
  subst he
  exact AW.drawn hm D n1 V M st' hc hV hM (ObE.obl tm _ _ _ hO) rfl hx k
theorem AW.drawnF (hm : P.follows .mixedOrders = true) {id : Nat} (D : List DI) (n1 ne : Nat) (hc : chkD ops D n1 = true) (he : (efCount D fun e => decide (e < n1)) = ne) (hM : M.getD 0 [] = ob) (hO : ObE P ops tm V M nt gh ls ops.toList D V) (hV : V.length = n1)
    (htm : tmD ops.toList V tm = tm') {st' : St} (hx : xops P ops (ops.toList.drop n1) ⟨tm', M.getD ne [], nt, gh, ls⟩ (fun s => s = st')) (k : Q .normal st') : AW P R cx (.region id ops true) Q ⟨tm, ob, nt, gh, ls⟩ := by
  subst htm
  subst he
  have hO2 : Obl P ops V M ⟨tm, ob, nt, gh, ls⟩ ops.toList D V := ObE.obl tm _ _ _ hO
  have hn : n1 ≤ ops.size := by
    simp only [chkD, Bool.and_eq_true, decide_eq_true_eq] at hc
    exact hc.1.2
  have h1' : AW P R cx (.region id ops true) (fun e s => e = .normal ∧ s = st') ⟨tm, ob, nt, gh, ls⟩ := by
    intro σ a w hr
    refine wpIn_region_any hm ?_
    have hLf : ∀ j, Ls (Array.replicate ops.size false) j = false := fun j => by
      simp only [Ls, Array.getD_eq_getD_getElem?, Array.getElem?_replicate]
      split <;> rfl
    have hr' : RelS cx σ ⟨tm, ob, nt, gh, ls⟩ a { w with drawn := w.drawn + 1 } := hr.drewN 1
    refine drawn1 hc hV hn hO2 ?_ ops.size _ ⟨tm, ob, nt, gh, ls⟩ σ a _ (by simp) (fun i hi h => by rw [hLf] at h; simp at h) ?_ (fun j _ _ => hLf j) ⟨rfl, rfl, rfl, ?_, fun t j _ h => by rw [hLf] at h; simp at h, fun t _ => rfl⟩ hr'
    · have h2 := xops_Y (R := R) (cx := cx) _ n1 _ rfl hx
      simpa using h2
    · have : ((List.range n1).filter fun i => !Ls (Array.replicate ops.size false) i).length ≤ n1 := by
        have := List.length_filter_le (fun i => !Ls (Array.replicate ops.size false) i) (List.range n1)
        simpa using this
      omega
    · rw [ef_zero D _ fun j => by simp [hLf]]
      exact hM.symm
  refine AW.mono h1' ?_
  rintro e s ⟨rfl, hs⟩
  subst hs
  exact k
end
end Go.Proofs.Ytlkhfdccapkcdaa
/- Shallow code: what walks that are printed by a program are told by. -/
namespace Go.Proofs.Ytlkhfdccapkcdaa
open Go Go.RowKit
set_option linter.unusedVariables false
set_option linter.unusedSimpArgs false

/-! ### Code of values -/
section
variable {α β γ : Type}
def lt (a : α) (k : α → Option β) : Option β := k a
theorem lt_eq (a : α) (k : α → Option β) : lt a k = k a := rfl
theorem ltE {a : α} {k : α → Option β} {r : β} (h : lt a k = some r) : ∃ x, x = a ∧ k x = some r := ⟨a, rfl, h⟩
def bn (m : Option α) (k : α → Option β) : Option β := m.bind k
theorem bn_some (a : α) (k : α → Option β) : bn (some a) k = k a := rfl
theorem bn_none (k : α → Option β) : bn none k = none := rfl
theorem bnE {m : Option α} {k : α → Option β} {r : β} (h : bn m k = some r) : ∃ x, m = some x ∧ k x = some r := Option.bind_eq_some_iff.1 h
/-- What follows is for where all went on; what went off goes by. -/
def bf (m : Option (α ⊕ γ)) (k : α → Option (β ⊕ γ)) : Option (β ⊕ γ) := m.bind fun | .inl a => k a | .inr c => some (.inr c)
theorem bf_inl (a : α) (k : α → Option (β ⊕ γ)) : bf (some (.inl a)) k = k a := rfl
theorem bf_inr (c : γ) (k : α → Option (β ⊕ γ)) : bf (some (.inr c)) k = some (.inr c) := rfl
theorem bf_none (k : α → Option (β ⊕ γ)) : bf none k = none := rfl
def chk (b : Bool) (k : Option β) : Option β := bif b then k else none
theorem chkE {b : Bool} {k : Option β} {r : β} (h : chk b k = some r) : b = true ∧ k = some r := by
  cases b
  · simp [chk] at h
  · exact ⟨rfl, h⟩
def ite' (b : Bool) (x y : Option β) : Option β := bif b then x else y
theorem iteT {b : Bool} {x y : Option β} {r : β} (hb : b = true) (h : ite' b x y = some r) : x = some r := by subst hb; exact h
theorem iteF {b : Bool} {x y : Option β} {r : β} (hb : b = false) (h : ite' b x y = some r) : y = some r := by subst hb; exact h
theorem ite_t (x y : Option β) : ite' true x y = x := rfl
theorem ite_f (x y : Option β) : ite' false x y = y := rfl
/-- Rounds, at most n. -/
def iter : Nat → (α → Option (α ⊕ β)) → α → Option β
  | 0, _, _ => none
  | n + 1, f, a => match f a with
    | some (.inl a') => iter n f a'
    | some (.inr b) => some b
    | none => none
theorem iter_inl {n : Nat} {f : α → Option (α ⊕ β)} {a a' : α} (h : f a = some (.inl a')) : iter (n + 1) f a = iter n f a' := by rw [iter, h]
theorem iter_inr {n : Nat} {f : α → Option (α ⊕ β)} {a : α} {b : β} (h : f a = some (.inr b)) : iter (n + 1) f a = some b := by rw [iter, h]
def nth (l : List α) (i : Int) : Option α := if 0 ≤ i then l[i.toNat]? else none
theorem nth_d {l : List α} {i : Int} {x : α} (h : nth l i = some x) : 0 ≤ i ∧ l[i.toNat]? = some x := by
  unfold nth at h
  split at h
  · exact ⟨by assumption, h⟩
  · simp at h
theorem nth_lt {l : List α} {i : Int} {x : α} (h : nth l i = some x) : i.toNat < l.length ∧ i < (l.length : Int) := by
  have h1 := (List.getElem?_eq_some_iff.1 (nth_d h).2).1
  have h2 := (nth_d h).1
  exact ⟨h1, by omega⟩
theorem nth_nat (l : List α) (i : Nat) : nth l (i : Int) = l[i]? := by simp [nth]
def seg (l : List α) (a b : Int) : Option (List α) := if 0 ≤ a ∧ a ≤ b ∧ b ≤ l.length then some ((l.drop a.toNat).take (b.toNat - a.toNat)) else none
theorem seg_d {l m : List α} {a b : Int} (h : seg l a b = some m) : 0 ≤ a ∧ 0 ≤ b ∧ a.toNat ≤ b.toNat ∧ b.toNat ≤ l.length ∧ (l.drop a.toNat).take (b.toNat - a.toNat) = m ∧ a ≤ b ∧ b ≤ (l.length : Int) ∧ max a 0 ≤ b := by
  unfold seg at h
  split at h
  · rename_i hc
    simp at h
    exact ⟨by omega, by omega, by omega, by omega, h, by omega, by omega, by omega⟩
  · simp at h
def segS (s : ByteArray) (a b : Int) : Option ByteArray := if 0 ≤ a ∧ a ≤ b ∧ b ≤ s.size then some (s.extract a.toNat b.toNat) else none
theorem segS_d {s m : ByteArray} {a b : Int} (h : segS s a b = some m) : 0 ≤ a ∧ 0 ≤ b ∧ a.toNat ≤ b.toNat ∧ b.toNat ≤ s.size ∧ s.extract a.toNat b.toNat = m ∧ a ≤ b ∧ b ≤ (s.size : Int) ∧ max a 0 ≤ b := by
  unfold segS at h
  split at h
  · rename_i hc
    simp at h
    exact ⟨by omega, by omega, by omega, by omega, h, by omega, by omega, by omega⟩
  · simp at h
def segSl (s : ByteArray) (a : Int) : Option ByteArray := if 0 ≤ a ∧ a ≤ s.size then some (s.extract a.toNat s.size) else none
theorem segSl_d {s m : ByteArray} {a : Int} (h : segSl s a = some m) : 0 ≤ a ∧ a.toNat ≤ s.size ∧ s.extract a.toNat s.size = m ∧ a ≤ (s.size : Int) := by
  unfold segSl at h
  split at h
  · simp at h
    exact ⟨by omega, by omega, h, by omega⟩
  · simp at h
def segSh (s : ByteArray) (b : Int) : Option ByteArray := if 0 ≤ b ∧ b ≤ s.size then some (s.extract 0 b.toNat) else none
theorem segSh_d {s m : ByteArray} {b : Int} (h : segSh s b = some m) : 0 ≤ b ∧ b.toNat ≤ s.size ∧ s.extract 0 b.toNat = m ∧ b ≤ (s.size : Int) := by
  unfold segSh at h
  split at h
  · simp at h
    exact ⟨by omega, by omega, h, by omega⟩
  · simp at h
def segSlh (s : ByteArray) (a b : Int) : Option ByteArray := segS s a b
theorem segSlh_d {s m : ByteArray} {a b : Int} (h : segSlh s a b = some m) : 0 ≤ a ∧ 0 ≤ b ∧ a.toNat ≤ b.toNat ∧ b.toNat ≤ s.size ∧ s.extract a.toNat b.toNat = m ∧ a ≤ b ∧ b ≤ (s.size : Int) ∧ max a 0 ≤ b := segS_d h
def atS (s : ByteArray) (i : Int) : Option Int := if 0 ≤ i ∧ i.toNat < s.size then some (bAt s i.toNat) else none
theorem atS_d {s : ByteArray} {i x : Int} (h : atS s i = some x) : 0 ≤ i ∧ i.toNat < s.size ∧ bAt s i.toNat = x ∧ i < (s.size : Int) := by
  unfold atS at h
  split at h
  · rename_i hc
    simp at h
    exact ⟨hc.1, hc.2, h, by omega⟩
  · simp at h
/-- A row may grow so far. -/
def room (n b : Nat) : Bool := decide (n * b ≤ 140737488355328 ∧ n ≤ 140737488355328)
theorem room_d {n b : Nat} (h : room n b = true) : n * b ≤ 140737488355328 ∧ n ≤ 140737488355328 := by simpa [room] using h
end
def addI (k : IntKind) (a b : Int) : Int := k.wrap (a + b)
def subI (k : IntKind) (a b : Int) : Int := k.wrap (a - b)
def mulI (k : IntKind) (a b : Int) : Int := k.wrap (a * b)
def quoI (k : IntKind) (a b : Int) : Option Int := if b ≠ 0 then some (k.wrap (a.tdiv b)) else none
def remI (k : IntKind) (a b : Int) : Option Int := if b ≠ 0 then some (a.tmod b) else none
def andI (k : IntKind) (a b : Int) : Int := k.wrap (BitVec.ofInt k.bits a &&& BitVec.ofInt k.bits b).toNat
def orI (k : IntKind) (a b : Int) : Int := k.wrap (BitVec.ofInt k.bits a ||| BitVec.ofInt k.bits b).toNat
def xorI (k : IntKind) (a b : Int) : Int := k.wrap (BitVec.ofInt k.bits a ^^^ BitVec.ofInt k.bits b).toNat
def shlI (k : IntKind) (a b : Int) : Option Int := if 0 ≤ b then some (k.wrap (a * 2 ^ (min b.toNat k.bits))) else none
def shrI (k : IntKind) (a b : Int) : Option Int := if 0 ≤ b then some (a.fdiv (2 ^ (min b.toNat k.bits))) else none
def negI (k : IntKind) (a : Int) : Int := k.wrap (0 - a)
def cvI (k : IntKind) (a : Int) : Int := k.wrap a
def minI (a b : Int) : Int := min a b
def maxI (a b : Int) : Int := max a b
def eqI (a b : Int) : Bool := decide (a = b)
def neI (a b : Int) : Bool := !decide (a = b)
def ltI (a b : Int) : Bool := decide (a < b)
def leI (a b : Int) : Bool := decide (a ≤ b)
def gtI (a b : Int) : Bool := decide (b < a)
def geI (a b : Int) : Bool := decide (b ≤ a)
def eqS (a b : ByteArray) : Bool := decide (a = b)
def neS (a b : ByteArray) : Bool := !decide (a = b)
def ltS (a b : ByteArray) : Bool := slt a b
def leS (a b : ByteArray) : Bool := !slt b a
def gtS (a b : ByteArray) : Bool := slt b a
def geS (a b : ByteArray) : Bool := !slt a b
def catS (a b : ByteArray) : Option ByteArray := if a.size + b.size ≤ 9223372036854775807 then some (a ++ b) else none
def eqB (a b : Bool) : Bool := decide (a = b)
def neB (a b : Bool) : Bool := !decide (a = b)
def notB (a : Bool) : Bool := !a
@[simp] theorem notB_t : notB true = false := rfl
@[simp] theorem notB_f : notB false = true := rfl
def andB (a b : Bool) : Bool := a && b
def lenI {α : Type} (l : List α) : Int := (l.length : Int)
def lenS (s : ByteArray) : Int := (s.size : Int)
theorem lenI_cast {α : Type} {l : List α} {n : Int} (h : n = lenI l) : (l.length : Int) = n := h.symm
theorem lenS_cast {s : ByteArray} {n : Int} (h : n = lenS s) : (s.size : Int) = n := h.symm
section
variable {k : IntKind} {a b c : Int}
theorem quoI_d (h : quoI k a b = some c) : ¬ b = 0 ∧ k.wrap (a.tdiv b) = c := by
  unfold quoI at h
  split at h
  · simp at h; exact ⟨by assumption, h⟩
  · simp at h
theorem remI_d (h : remI k a b = some c) : ¬ b = 0 ∧ a.tmod b = c := by
  unfold remI at h
  split at h
  · simp at h; exact ⟨by assumption, h⟩
  · simp at h
theorem shlI_d (h : shlI k a b = some c) : 0 ≤ b ∧ k.wrap (a * 2 ^ (min b.toNat k.bits)) = c := by
  unfold shlI at h
  split at h
  · simp at h; exact ⟨by assumption, h⟩
  · simp at h
theorem shrI_d (h : shrI k a b = some c) : 0 ≤ b ∧ a.fdiv (2 ^ (min b.toNat k.bits)) = c := by
  unfold shrI at h
  split at h
  · simp at h; exact ⟨by assumption, h⟩
  · simp at h
end
theorem catS_d {a b c : ByteArray} (h : catS a b = some c) : a.size + b.size ≤ 9223372036854775807 ∧ a ++ b = c := by
  unfold catS at h
  split at h
  · simp at h; exact ⟨by assumption, h⟩
  · simp at h
/-- What some function of the kit's own does with a word of its own. -/
def wo {α : Type} (x : Option α) (k : α → Prop) : Prop := wh x k
theorem wo_eq {α : Type} {x : Option α} {a : α} {k : α → Prop} (h : x = some a) : wo x k = k a := by subst h; rfl

/-! ### Structure of code -/
section
variable {α β γ : Type} {P : Program} {R : Option Nat} {cx : Cx} {Q : Post} {c c' : Code} {st st' : St} {tm tm' : Tm} {ob ob' : List (Option Ob)} {nt : Nat} {gh gh' : List Tm} {ls : Option Code}
/-- Code that went on: where its state is told by a. -/
def nP (mk : α → St) (a : α) : Post := fun e s => e = .normal ∧ Weak cx s (mk a)
def xP (id : Nat) (mk : α → St) (a : α) : Post := fun e s => e = .exit id ∧ Weak cx s (mk a)
def rP (fn : Func) (res : β → AV) (obs : β → List (Option Ob)) (q : β) : Post := fun e s => e = .ret ∧ Left P cx fn (res q) (obs q) s
def sp (p : α → Post) (q : β → Post) : α ⊕ β → Post
  | .inl a => p a
  | .inr b => q b
theorem sp_l {p : α → Post} {q : β → Post} {a : α} : sp p q (.inl a) = p a := rfl
theorem sp_r {p : α → Post} {q : β → Post} {b : β} : sp p q (.inr b) = q b := rfl
theorem nP_i {mk : α → St} {a : α} {s : St} (h : Weak cx s (mk a)) : nP (cx := cx) mk a .normal s := ⟨rfl, h⟩
theorem xP_i {id : Nat} {mk : α → St} {a : α} {s : St} (h : Weak cx s (mk a)) : xP (cx := cx) id mk a (.exit id) s := ⟨rfl, h⟩
theorem rP_i {fn : Func} {res : β → AV} {obs : β → List (Option Ob)} {q : β} {s : St} (h : Left P cx fn (res q) (obs q) s) : rP (P := P) (cx := cx) fn res obs q .ret s := ⟨rfl, h⟩
theorem noX {id : Nat} {mk : α → St} : ∀ a s, ¬ xP (cx := cx) id mk a .normal s := fun a s h => by simp [xP] at h
theorem noR {fn : Func} {res : β → AV} {obs : β → List (Option Ob)} : ∀ q s, ¬ rP (P := P) (cx := cx) fn res obs q .normal s := fun a s h => by simp [rP] at h
theorem noS {p : α → Post} {q : β → Post} (h1 : ∀ a s, ¬ p a .normal s) (h2 : ∀ b s, ¬ q b .normal s) : ∀ y s, ¬ sp p q y .normal s
  | .inl a, s => h1 a s
  | .inr b, s => h2 b s
def sm (y : α ⊕ β) (f : α → Option γ) (g : β → Option γ) : Option γ := match y with | .inl a => f a | .inr b => g b
theorem sm_inl (a : α) (f : α → Option γ) (g : β → Option γ) : sm (.inl a) f g = f a := rfl
theorem sm_inr (b : β) (f : α → Option γ) (g : β → Option γ) : sm (.inr b) f g = g b := rfl
theorem smL {a : α} {f : α → Option γ} {g : β → Option γ} {r : γ} (h : sm (.inl a) f g = some r) : f a = some r := h
theorem smR {b : β} {f : α → Option γ} {g : β → Option γ} {r : γ} (h : sm (.inr b) f g = some r) : g b = some r := h
/-- Code, told by what it leaves; what follows may look at less. -/
theorem AW.flowR {p : List Tm → Option Code → Post} (hc : AW P R cx c (p gh ls) ⟨tm, ob, nt, gh, ls⟩) (k : ∀ e s, p gh ls e s → ∃ s2, Weak cx s s2 ∧ Q e s2) : AW P R cx c Q ⟨tm, ob, nt, gh, ls⟩ := by
  intro σ a w hr
  refine wpIn_mono (hc σ a w hr) ?_
  rintro e a' w' ⟨σ', s, hs, hp⟩
  obtain ⟨s2, hw, hq⟩ := k e s hp
  obtain ⟨σ2, hs2⟩ := hw σ' a' w' hs
  exact ⟨σ2, s2, hs2, hq⟩
theorem AW.flow {p : List Tm → Option Code → Post} (hc : AW P R cx c (p gh ls) ⟨tm, ob, nt, gh, ls⟩) (k : ∀ e s, p gh ls e s → ∃ s2, Weak cx s s2 ∧ Post.seq (AW P R cx c' Q) Q e s2) : AW P R cx (.seq c c') Q ⟨tm, ob, nt, gh, ls⟩ :=
  AW.seq (AW.flowR hc k)
/-- A loop, told by its rounds. -/
theorem AW.iterP {n : Nat} {f : α → Option (α ⊕ β)} {a0 : α} {b : β} (h : iter n f a0 = some b) {mk : List Tm → Option Code → α → St} {N : List Tm → Option Code → β → Post} (h0 : Weak cx ⟨tm, ob, nt, gh, ls⟩ (mk gh ls a0)) (hN : ∀ b s, ¬ N gh ls b .normal s)
    (body : ∀ a o, f a = some o → AW P R cx c (sp (nP (cx := cx) (mk gh ls)) (N gh ls) o) (mk gh ls a)) (k : ∀ e s, N gh ls b e s → ∃ s2, Weak cx s s2 ∧ Q e s2) : AW P R cx (.loop c) Q ⟨tm, ob, nt, gh, ls⟩ := by
  refine AW.flowR (p := fun gh ls => N gh ls b) ?_ k
  refine AW.loop (fun s m => ∃ a, s = mk gh ls a ∧ iter m f a = some b) (n := n) ⟨_, h0, a0, rfl, h⟩ ?_
  rintro s m ⟨a, rfl, hm⟩
  cases m with
  | zero => simp [iter] at hm
  | succ m =>
    rw [iter] at hm
    cases hf : f a with
    | none => rw [hf] at hm; simp at hm
    | some o =>
      rw [hf] at hm
      refine AW.mono (body a o hf) ?_
      intro e s' hs
      cases o with
      | inl a' =>
        obtain ⟨rfl, hw⟩ := hs
        exact ⟨_, m, hw, ⟨a', rfl, hm⟩, Nat.lt_succ_self m⟩
      | inr b' =>
        simp at hm
        subst hm
        have hs' : N gh ls b' e s' := hs
        cases e with
        | normal => exact (hN _ _ hs').elim
        | _ => exact hs'
/-- Code that gave back, inside a range over a function. -/
def tP (mk : α → St) (a : α) : Post := fun e s => e = .ret ∧ Weak cx s (mk a)
theorem tP_i {mk : α → St} {a : α} {s : St} (h : Weak cx s (mk a)) : tP (cx := cx) mk a .ret s := ⟨rfl, h⟩
theorem noT {mk : α → St} : ∀ a s, ¬ tP (cx := cx) mk a .normal s := fun a s h => by simp [tP] at h
theorem Weak.mixB (nb : Nat) (ids : List (Option Nat)) (hn : cx.nb = nb) (hpre : ids.take nb = idr nb) (hnd : (ids.filterMap fun x => x).Nodup) (htm : ∀ e ∈ tm', (lk tm e.1).ren (inv ids) = e.2) (hob : pickOb ids ob = ob') (hgh : gh.map (Tm.ren (inv ids)) = gh') :
    Weak cx ⟨tm, ob, nt, gh, ls⟩ ⟨tm', ob', nt, gh', ls⟩ := by
  subst hob
  subst hgh
  have key : ∀ l : Tm, (∀ e ∈ l, (lk tm e.1).ren (inv ids) = e.2) → ∀ i, lk l i = (lk tm i).ren (inv ids) ∨ lk l i = .l .u := by
    intro l
    induction l with
    | nil => intro _ i; exact .inr rfl
    | cons e l ih =>
      intro h i
      rw [lk_cons]
      split
      · rename_i hi
        subst hi
        exact .inl (h e (by simp)).symm
      · exact ih (fun e' he' => h e' (by simp [he'])) i
  have hlen : nb ≤ ids.length := by
    have := congrArg List.length hpre
    simp [idr] at this
    omega
  refine Weak.ren (st := ⟨tm, ob, nt, gh, ls⟩) ids tm' (nd_of ids hnd) (by omega) (fun i o hi ho => ?_) (key tm' htm)
  rw [hn] at hi
  have h1 : (ids.take nb)[i]? = some (some o) := by rw [List.getElem?_take_of_lt hi]; exact ho
  rw [hpre, idr, List.getElem?_map, List.getElem?_range hi] at h1
  simp at h1
  exact h1.symm
theorem W.nilRow (i ty sz n : Nat) {s' : St} (h : lk tm i = .l (.s (.slice none 0 0))) (hn : ob.length = n) (ho : ob ++ [some ⟨ty, sz, true, none, []⟩] = ob') (k : Weak cx ⟨(i, .l (.r n sz 0 0)) :: tm, ob', nt, gh, ls⟩ s') : Weak cx ⟨tm, ob, nt, gh, ls⟩ s' := by
  subst hn
  subst ho
  exact Weak.trans (Weak.nilRow (st := ⟨tm, ob, nt, gh, ls⟩) i ty sz h) k
theorem Weak.nilD (i sz : Nat) (h : lk tm i = .l (.s (.slice none 0 0))) : Weak cx ⟨tm, ob, nt, gh, ls⟩ ⟨(i, .l (.d false sz [])) :: tm, ob, nt, gh, ls⟩ := by
  intro σ a w hr
  have hv := hr.tm i
  rw [h] at hv
  refine ⟨σ, hr.h, fun j => ?_, hr.nt, hr.gh, hr.dm⟩
  show RelV _ _ _ _ _ (lk ((i, .l (.d false sz [])) :: tm) j)
  rw [lk_cons]
  split
  · rename_i e
    subst e
    have e := hv.1
    show Rd w _ _ _
    rw [e]
    exact .sl none 0 0 sz [] 0 0 (fun _ _ => undef) rfl (Nat.le_refl _) (by omega) (fun e he => by simp at he) (fun h => by omega) (fun _ => rfl) (fun i j hi => by omega) (fun i j e t he => by simp at he)
  · exact hr.tm j
theorem W.nilD (i sz : Nat) {s' : St} (h : lk tm i = .l (.s (.slice none 0 0))) (k : Weak cx ⟨(i, .l (.d false sz [])) :: tm, ob, nt, gh, ls⟩ s') : Weak cx ⟨tm, ob, nt, gh, ls⟩ s' := Weak.trans (Weak.nilD i sz h) k
theorem W.nilCellD (o j sz : Nat) {z : Ob} {s' : St} (hz : ob[o]? = some (some z)) (hj : z.cs[j]? = some (.s (.slice none 0 0))) (hrow : z.row = false) (ho : ob.set o (some { z with cs := z.cs.set j (.d false sz []) }) = ob') (k : Weak cx ⟨tm, ob', nt, gh, ls⟩ s') : Weak cx ⟨tm, ob, nt, gh, ls⟩ s' := by
  subst ho
  exact Weak.trans (Weak.nilCellD (z := z) o j sz hz hj hrow) k
theorem W.nilCell (o j ty sz n : Nat) {z : Ob} {s' : St} (hz : ob[o]? = some (some z)) (hj : z.cs[j]? = some (.s (.slice none 0 0))) (hrow : z.row = false) (hn : ob.length = n) (ho : ob.set o (some { z with cs := z.cs.set j (.r n sz 0 0) }) ++ [some ⟨ty, sz, true, none, []⟩] = ob') (k : Weak cx ⟨tm, ob', nt, gh, ls⟩ s') : Weak cx ⟨tm, ob, nt, gh, ls⟩ s' := by
  subst hn
  subst ho
  exact Weak.trans (Weak.nilCell (z := z) o j ty sz hz hj hrow) k
theorem W.frzRow (o : Nat) {ty sz : Nat} {cap : Option Nat} {es : List (List T)} {s' : St} (hz : ob[o]? = some (some ⟨ty, sz, true, cap, lvs es⟩)) (h0 : 0 < sz) (hes : ∀ e ∈ es, e.length = sz)
    (hm : es.length ≤ 140737488355328) (h1 : Tm.frz o sz es tm = tm') (h2 : (ob.set o none).map (Option.map (Ob.frz o sz es)) = ob') (h3 : gh.map (Tm.frz o sz es) = gh') (k : Weak cx ⟨tm', ob', nt, gh', ls⟩ s') : Weak cx ⟨tm, ob, nt, gh, ls⟩ s' := by
  subst h1
  subst h2
  subst h3
  exact Weak.trans (Weak.freeze (st := ⟨tm, ob, nt, gh, ls⟩) (o := o) (sz := sz) (z := ⟨ty, sz, true, cap, lvs es⟩) (es := es) (by simp [St.obj, hz]) rfl rfl h0 rfl hes hm) k
end
section
variable {P : Program} {st : St} {t e o n k : Nat} {x : AV} {z : List Value} {ag : Bool} {sz by' : Nat} {acc ys : List (List T)} {d : Option Nat} {K : St → Prop}
theorem xapp_nilpush (he : elemF P t = some e) (hti : tiF P e = some ⟨ag, sz, by', z⟩) (hq : st.src sz x = some (k, lvs ys)) (h1 : z.length = sz ∧ 0 < sz ∧ 0 < by') (h4 : k * by' ≤ 140737488355328)
    (hk : K ((st.add ⟨e, sz, true, none, lvs ys⟩).put d (.l (.r st.ob.length sz 0 k)))) : xapp P t (.l (.s (.slice none 0 0))) x st d K := by
  simp only [xapp, he, hti, wh_some, hq]
  exact ⟨h1.1, h1.2.1, h1.2.2, h4, hk⟩
/-- Data is pushed to the end of an own row of data; what comes is told as a new object. -/
theorem xapp_pushN {t e n k : Nat} {x : AV} {z : List Value} {ag : Bool} {sz by' o : Nat} {cap : Option Nat} {acc ys : List (List T)} {d : Option Nat} {K : St → Prop} (he : elemF P t = some e) (hti : tiF P e = some ⟨ag, sz, by', z⟩) (hz : st.obj o = some ⟨e, sz, true, cap, lvs acc⟩)
    (hq : st.src sz x = some (k, lvs ys)) (hacc : ∀ e ∈ acc, e.length = sz) (hn : acc.length = n) (h1 : z.length = sz ∧ 0 < sz ∧ 0 < by') (h4 : (n + k) * by' ≤ 140737488355328)
    (hk : K (St.put { st with ob := st.ob.set o none ++ [some ⟨e, sz, true, none, lvs (acc ++ ys)⟩] } d (.l (.r st.ob.length sz 0 (n + k))))) : xapp P t (.l (.r o sz 0 n)) x st d K := by
  subst hn
  refine xapp_new (ti := ⟨ag, sz, by', z⟩) (q := (k, lvs ys)) he hti h1 hq hz ⟨rfl, rfl, rfl, rfl⟩ (by simp [lvs_length hacc]) h4 ?_
  rw [show (⟨e, sz, true, cap, lvs acc⟩ : Ob).cs ++ (k, lvs ys).2 = lvs (acc ++ ys) from (lvs_append _ _).symm]
  exact hk
theorem src_dA {al : Bool} {sz : Nat} {es : List (List T)} : st.src sz (.l (.d al sz es)) = some (es.length, lvsA al es) := by simp [St.src]
theorem rowdL {ids : List Nat} {o n sz e : Nat} {cap : Option Nat} {es : List (List T)} (h1 : o ∉ ids) (hz : st.obj o = some ⟨e, sz, true, cap, lvs es⟩) (h0 : 0 < sz) (hes : ∀ e ∈ es, e.length = sz) (hn : es.length = n) (hm : n ≤ 140737488355328) : VwL st ids (.r o sz 0 n) (.d true sz es) := by
  have := Vw.rowd (st := st) (ids := ids) h1 hz h0 hes hn hm
  cases this with
  | l h => exact h
end
@[simp] theorem lvs_nil : lvs [] = [] := rfl
theorem ptrV {st : St} {ids : List Nat} {o i off : Nat} (h : inv (ids.map some) o = some i) : VwL st ids (.p o off) (.p i off) := by
  have := VwL.ren (st := st) (ids := ids) (.p o off)
  simpa [h] using this
theorem aliases_mono {C D : St → List AV → Prop} (h : ∀ s a, C s a → D s a) : ∀ (rs : List Nat) (st : St) (avs : List AV), aliases rs st avs C → aliases rs st avs D
  | [], _, _, hc => h _ _ hc
  | o :: rs, st, avs, ⟨x, h1, h2, h3⟩ => ⟨x, h1, h2, aliases_mono h rs _ _ h3⟩
theorem xcall_rowsN {P : Program} {f : Nat} {st : St} {dst : Option Nat} {K : St → Prop} {avs cargs : List AV} {obs : List Ob} {obs' : List (Option Ob)} {res : AV} (rs ids : List Nat) {st1 : St} {avs1 : List AV} (hal : aliases rs st avs fun s a => s = st1 ∧ a = avs1)
    (he : Enters P f) (hs : Sound P f cargs obs res obs') (hnd : ids.Nodup) (hlt : ids.all (fun i => decide (i < st1.ob.length)) = true) (hids : ids.all (fun i => decide (st.ob.length ≤ i)) = true) (hob : pickOb (ids.map some) st1.ob = obs.map some) (hrow : obs.all (·.row) = true) (hrow' : obs'.all (fun x => match x with | some y => y.row | none => true) = true)
    (hna : res.na = true) (hona : obs'.all (fun x => match x with | some x => x.na | none => true) = true) (hlen : ids.length ≤ obs'.length) (hv : All2 (Vw st1 ids) avs1 cargs)
    (hk : K (St.put { st with ob := obAfter st1 ids obs' } dst (res.ren (outR ids st1.ob.length)))) : xcall P f avs st dst K := by
  have key : ∀ i o : Nat, ids[i]? = some o → ∃ z, st1.ob[o]? = some (some z) ∧ z.row = true := by
    intro i o hi
    have h1 : (pickOb (ids.map some) st1.ob)[i]? = (obs.map some)[i]? := by rw [hob]
    have hl : ids.length = obs.length := by have := congrArg List.length hob; simpa [pickOb] using this
    have hlt := (List.getElem?_eq_some_iff.1 hi).1
    have h2 : obs[i]? = some obs[i] := List.getElem?_eq_getElem (by omega)
    rw [List.getElem?_map, h2] at h1
    obtain ⟨o', y, g1, g2, g3⟩ := pickOb_get h1
    rw [List.getElem?_map, hi] at g1
    simp at g1
    subst g1
    refine ⟨y, g2, ?_⟩
    have h3 := List.all_eq_true.1 hrow _ (List.mem_of_getElem? h2)
    rw [g3] at h3
    exact h3
  have hobj : ∀ o z, st1.ob[o]? = some (some z) → st1.obj o = some z := by
    intro o z h
    simp [St.obj, h]
  refine .inr (.inr ⟨rs, aliases_mono ?_ rs st avs hal⟩)
  rintro s a ⟨rfl, rfl⟩
  refine ⟨ids, obs, obs', res, cargs, he, hs, ⟨hnd, ?_, hob, ?_, ?_, hna, hona, hlen⟩, hv, ?_, hk⟩
  · intro i hi
    have := List.all_eq_true.1 hlt i hi
    simpa using this
  · intro i o z hi hz hr
    obtain ⟨z', hz', hr'⟩ := key i o hi
    rw [hobj o z' hz'] at hz
    simp at hz
    subst hz
    rw [hr'] at hr
    simp at hr
  · intro i o z y hi hz hy
    obtain ⟨z', hz', hr'⟩ := key i o hi
    rw [hobj o z' hz'] at hz
    simp at hz
    subst hz
    have := List.all_eq_true.1 hrow' _ (List.mem_of_getElem? hy)
    simp only at this
    rw [this, hr']
  · intro i hi
    have := List.all_eq_true.1 hids i hi
    simpa using this
@[simp] theorem lvs_frz (o sz : Nat) (fs es : List (List T)) : (lvs es).map (LV.frz o sz fs) = lvs es := by
  unfold lvs
  rw [List.map_flatMap]
  congr 1
  funext e
  rw [List.map_map]
  congr 1
  funext x
  cases x <;> rfl
/-- An operation that yields, among others: the loop's body runs as the n-th operation. -/
theorem xopsY.yield {P : Program} {cxI : Cx} {l nt : Nat} {ps : Array Tmp} {assign body : Code} {ops : Array Oper} {K : St → Prop} (hY : YCx cxI l nt ps assign body) (i n : Nat) {o : Oper} {c0 : Call} {g : Operand} {st : St} {tm1 : Tm} {ob1 : List (Option Ob)} {nt1 : Nat} {tmO : Tm} {gh : List Tm}
    (ho : ops[n]? = some o) (hop : o.op = .call c0) (hc : c0.callee = .value g) (hin : i ≤ n) {s1 : St} (hpre : xops P ops ((ops.toList.drop i).take (n - i)) st (fun s => s = s1)) (hs1 : s1 = ⟨tm1, ob1, nt1, tmO :: gh, none⟩)
    (hgd : match o.guard with | none => True | some (j, want) => yd ops ⟨tm1, ob1, nt1, tmO :: gh, none⟩ j = some (some want)) (hg : St.ev ⟨tm1, ob1, nt1, tmO :: gh, none⟩ g = .l (.s (.func (.yield l) #[] #[])))
    (hlen : c0.args.size = ps.size) {st2 : St} (hst2 : puts (ps.toList.zip (c0.args.toList.map (St.ev ⟨tm1, ob1, nt1, tmO :: gh, none⟩))) ⟨tmO, ob1, nt, tm1 :: tmO :: gh, none⟩ = st2)
    (h : ∀ cxR, cxR.nb = cxI.nb → AW P (some l) cxR assign (asgQ fun s1 => AW P (some l) cxR body (roundQ o.dst nt1 fun s3 => xopsY P none cxI ops (ops.toList.drop (n + 1)) (n + 1) s3 K) { s1 with ls := some .skip }) st2) :
    xopsY P none cxI ops (ops.toList.drop i) i st K := by
  subst hst2
  subst hs1
  have hn : n < ops.size := (Array.getElem?_eq_some_iff.1 ho).1
  have h1 : ops.toList.drop n = o :: ops.toList.drop (n + 1) := by
    have hl : n < ops.toList.length := by simpa using hn
    rw [List.drop_eq_getElem_cons hl]
    congr 1
    have := (Array.getElem?_eq_some_iff.1 ho).2
    simpa using this
  have hsplit : ops.toList.drop i = (ops.toList.drop i).take (n - i) ++ o :: ops.toList.drop (n + 1) := by
    rw [← h1]
    have : ops.toList.drop n = (ops.toList.drop i).drop (n - i) := by rw [List.drop_drop]; congr 1; omega
    rw [this, List.take_append_drop]
  have htl : ((ops.toList.drop i).take (n - i)).length = n - i := by simp; omega
  have key := xopsY_pre (P := P) (R := none) (cx := cxI) (ops := ops) (K := K) (s1 := ⟨tm1, ob1, nt1, tmO :: gh, none⟩) (o :: ops.toList.drop (n + 1)) ((ops.toList.drop i).take (n - i)) i st hsplit hpre (by
    rw [htl, show i + (n - i) = n by omega]
    show OpG P none cxI ops n _ _
    exact OpG.fam ho hgd (OpFam.yield hY hop hc hg rfl rfl hlen fun cxR hR => h cxR hR))
  rw [← hsplit] at key
  exact key
theorem AW.stepYK {P : Program} {R : Option Nat} {cx : Cx} {ops : Array Oper} {Q : Post} {st : St} {id : Nat} {c : Code} (h : xopsY P R cx ops (ops.toList.drop 0) 0 st (KK (AW P R cx c Q))) : AW P R cx (.seq (.region id ops false) c) Q st :=
  AW.stepY (KK (AW P R cx c Q)) h fun s hs => hs
theorem AW.drawnYP {P : Program} {cx : Cx} {ops : Array Oper} {V : List AV} {Q : Post} {R : Option Nat} {tm tm' : Tm} {ob : List (Option Ob)} {nt : Nat} {gh : List Tm} {ls : Option Code} (hm : P.follows .mixedOrders = true) {id : Nat} {c : Code} (D : List DI) (n1 : Nat) (hc : chkD ops D n1 = true) (he : D.all (fun d => !d.ef && d.ks.all (· == 0)) = true) (hO : ObP P ops tm V ob nt gh ls ops.toList D V) (hV : V.length = n1)
    (htm : tmD ops.toList V tm = tm') (hx : xopsY P R cx ops (ops.toList.drop n1) n1 ⟨tm', ob, nt, gh, ls⟩ (KK (AW P R cx c Q))) : AW P R cx (.seq (.region id ops true) c) Q ⟨tm, ob, nt, gh, ls⟩ := by
  subst htm
  have h1 : D.all (fun d => !d.ef) = true := List.all_eq_true.2 fun d hd => by
    have := List.all_eq_true.1 he d hd
    simp only [Bool.and_eq_true] at this
    exact this.1
  refine AW.drawnY hm D n1 V [ob] (KK (AW P R cx c Q)) hc hV rfl (ObP.obl tm _ _ _ (fun d hd => ?_) hO) (me := ob) (by rw [ef_none h1]; rfl) hx fun s hs => hs
  have := List.all_eq_true.1 he d hd
  simp only [Bool.and_eq_true, List.all_eq_true] at this
  exact ⟨by simpa using this.1, fun k hk => by simpa using this.2 k hk⟩
theorem AW.drawnYE {P : Program} {cx : Cx} {ops : Array Oper} {V : List AV} {M : List (List (Option Ob))} {Q : Post} {R : Option Nat} {tm tm' : Tm} {ob : List (Option Ob)} {nt : Nat} {gh : List Tm} {ls : Option Code} (hm : P.follows .mixedOrders = true) {id : Nat} {c : Code} (D : List DI) (n1 ne : Nat) (hc : chkD ops D n1 = true) (he : (efCount D fun e => decide (e < n1)) = ne) (hM : M.getD 0 [] = ob) (hO : ObE P ops tm V M nt gh ls ops.toList D V) (hV : V.length = n1)
    (htm : tmD ops.toList V tm = tm') (hx : xopsY P R cx ops (ops.toList.drop n1) n1 ⟨tm', M.getD ne [], nt, gh, ls⟩ (KK (AW P R cx c Q))) : AW P R cx (.seq (.region id ops true) c) Q ⟨tm, ob, nt, gh, ls⟩ := by
  subst htm
  subst he
  exact AW.drawnY hm D n1 V M (KK (AW P R cx c Q)) hc hV hM (ObE.obl tm _ _ _ hO) rfl hx fun s hs => hs
theorem KD.mkN {tm : Tm} {ob : List (Option Ob)} {nt : Nat} {gh : List Tm} {ls : Option Code} : KD none (.l .u) tm ob nt gh ls ⟨tm, ob, nt, gh, ls⟩ := ⟨.l .u, fun _ => rfl, rfl, rfl, rfl, rfl, rfl⟩
theorem xopsY.run {P : Program} {R : Option Nat} {cx : Cx} {ops : Array Oper} {K : St → Prop} {st s1 : St} (i n : Nat) (hin : i ≤ n) (hn : n ≤ ops.size) (hpre : xops P ops ((ops.toList.drop i).take (n - i)) st (fun s => s = s1)) (k : xopsY P R cx ops (ops.toList.drop n) n s1 K) : xopsY P R cx ops (ops.toList.drop i) i st K := by
  have hsplit : ops.toList.drop i = (ops.toList.drop i).take (n - i) ++ ops.toList.drop n := by
    have : ops.toList.drop n = (ops.toList.drop i).drop (n - i) := by rw [List.drop_drop]; congr 1; omega
    rw [this, List.take_append_drop]
  have htl : ((ops.toList.drop i).take (n - i)).length = n - i := by simp; omega
  have key := xopsY_pre (P := P) (R := R) (cx := cx) (ops := ops) (K := K) (s1 := s1) (ops.toList.drop n) ((ops.toList.drop i).take (n - i)) i st hsplit hpre (by
    rw [htl, show i + (n - i) = n by omega]; exact k)
  rw [← hsplit] at key
  exact key
theorem xopsY.wk {P : Program} {R : Option Nat} {cx : Cx} {ops : Array Oper} {K : St → Prop} {st s2 : St} {n : Nat} (hn : n < ops.size) (hw : Weak cx st s2) (k : xopsY P R cx ops (ops.toList.drop n) n s2 K) : xopsY P R cx ops (ops.toList.drop n) n st K := by
  have hl : n < ops.toList.length := by simpa using hn
  rw [List.drop_eq_getElem_cons hl] at k ⊢
  intro next QQ σ a w hnx hr
  obtain ⟨σ', hr'⟩ := hw σ a w hr
  exact k next QQ σ' a w hnx hr'
theorem AW.lastYK {P : Program} {R : Option Nat} {cx : Cx} {ops : Array Oper} {Q : Post} {st : St} {id : Nat} (h : xopsY P R cx ops (ops.toList.drop 0) 0 st (KK (Q .normal))) : AW P R cx (.region id ops false) Q st := by
  have key : ∀ (os : List Oper) (i : Nat) (s : St), ops.toList.drop i = os → xopsY P R cx ops os i s (KK (Q .normal)) → AO P R cx ops Q (List.range' i os.length) s := by
    intro os
    induction os with
    | nil => intro i s _ hx σ a w hr; exact ⟨σ, s, hr, hx⟩
    | cons o os ih =>
      intro i s hd hx σ a w hr
      rw [List.length_cons, List.range'_succ, wpOpsIn_cons]
      refine hx _ _ σ a w (fun σ' s' a' w' hk hr' => ?_) hr
      refine ih (i + 1) s' ?_ hk σ' a' w' hr'
      have := congrArg (List.drop 1) hd
      simpa [Nat.add_comm] using this
  refine AW.region ?_
  have := key ops.toList 0 st rfl h
  rw [← List.range_eq_range'] at this
  simpa using this
/-- A nil slice in an object's cell is seen as data. -/
theorem Weak.nilCellA {cx : Cx} {tm : Tm} {ob : List (Option Ob)} {nt : Nat} {gh : List Tm} {ls : Option Code} (o j sz : Nat) {z : Ob} (hz : ob[o]? = some (some z)) (hj : z.cs[j]? = some (.s (.slice none 0 0))) :
    Weak cx ⟨tm, ob, nt, gh, ls⟩ ⟨tm, ob.set o (some { z with cs := z.cs.set j (.d false sz []) }), nt, gh, ls⟩ := by
  intro σ a w hr
  have hl : o < ob.length := (List.getElem?_eq_some_iff.1 hz).1
  have hO := hr.h.obs o z hz
  have hbl : ∃ b k, σ o = some (some (b, k)) := by
    match hb : σ o with
    | none => rw [hb] at hO; exact hO.elim
    | some none =>
      rw [hb] at hO
      have := hO.2.1
      rw [this] at hj
      simp at hj
    | some (some (b, k)) => exact ⟨b, k, rfl⟩
  obtain ⟨b, k, hb⟩ := hbl
  rw [hb] at hO
  obtain ⟨vs, rest, g1, g2, g4, g5⟩ := hO
  have hall : All2 (RelL w (Xd cx w σ ob) (Xe w σ ob) σ) vs (z.cs.set j (.d false sz [])) := by
    obtain ⟨v, hv, hvr⟩ := g2.at j hj
    have hrel : RelL w (Xd cx w σ ob) (Xe w σ ob) σ v (.d false sz []) := by
      have e := hvr.1
      show Rd w _ _ _
      rw [e]
      exact .sl none 0 0 sz [] 0 0 (fun _ _ => undef) rfl (Nat.le_refl _) (by omega) (fun e he => by simp at he) (fun h => by omega) (fun _ => rfl) (fun i j hi => by omega) (fun i j e t he => by simp at he)
    have := g2.set j hrel
    have e : vs.set j v = vs := by
      apply List.ext_getElem?
      intro i
      by_cases h : j = i
      · subst h
        rw [List.getElem?_set_self (List.getElem?_eq_some_iff.1 hv).1, hv]
      · rw [List.getElem?_set_ne h]
    rwa [e] at this
  have hwr := hr.write (x' := { z with cs := z.cs.set j (.d false sz []) }) hz hb vs rest hall rfl rfl g4 g5
  refine Exists.intro σ ?_
  have e1 : w.setRow b (vs ++ rest).toArray = w := setRow_self _ _ _ _ _ g1
  rw [e1] at hwr
  exact hwr
theorem W.nilCellA {cx : Cx} {tm : Tm} {ob ob' : List (Option Ob)} {nt : Nat} {gh : List Tm} {ls : Option Code} (o j sz : Nat) {z : Ob} {s' : St} (hz : ob[o]? = some (some z)) (hj : z.cs[j]? = some (.s (.slice none 0 0))) (ho : ob.set o (some { z with cs := z.cs.set j (.d false sz []) }) = ob') (k : Weak cx ⟨tm, ob', nt, gh, ls⟩ s') : Weak cx ⟨tm, ob, nt, gh, ls⟩ s' := by
  subst ho
  exact Weak.trans (Weak.nilCellA (z := z) o j sz hz hj) k
@[simp] theorem nl_eq (a : LV) : NilLe a a = True := eq_true (Or.inl rfl)
@[simp] theorem nl_nil (k : Nat) : NilLe (.s (.slice none 0 0)) (.d false k []) = True := eq_true (Or.inr ⟨rfl, k, rfl⟩)
theorem xrow_own {st : St} {dst : Option Nat} {e sz len : Nat} {cs : List LV} {K : St → Prop} (k : K ((st.add ⟨e, sz, true, none, cs⟩).put dst (hdr st.ob.length sz len))) : xrow st dst e sz len cs K := Or.inl k
theorem xrow_data {st : St} {dst : Option Nat} {e sz len : Nat} {cs : List LV} {K : St → Prop} {es : List (List T)} (h : All2 NilLe cs (lvs es)) (hes : ∀ x ∈ es, x.length = sz) (h0 : 0 < sz) (hl : len = es.length)
    (k : K (St.put { st with ob := st.ob ++ [none] } dst (.l (.d false sz es)))) : xrow st dst e sz len cs K := Or.inr ⟨es, h, hes, h0, hl, k⟩
def strL (xs : List Int) : ByteArray := ⟨(xs.map fun x => UInt8.ofNat x.toNat).toArray⟩
theorem lvs1 (e : List T) : lvs [e] = e.map (T.lv false) := by simp [lvs]
theorem set_len {α : Type} {l m : List α} {i : Nat} {x : α} (h : m = l.set i x) : l.length = m.length := by simp [h]
theorem set_get {α : Type} {l m : List α} {i : Nat} {x y : α} (h : l[i]? = some x) (e : m = l.set i y) : m[i]? = some y := by
  rw [e, List.getElem?_set_self (List.getElem?_eq_some_iff.1 h).1]
theorem app_len {α : Type} {l m k : List α} (h : k = l ++ m) : l.length + m.length = k.length := by simp [h]
theorem app_len1 {α : Type} {l k : List α} {x : α} (h : k = l ++ [x]) : l.length + 1 = k.length := by simp [h]
/-! ### Rows of elements that are told by a function -/
section
variable {α : Type} {r : α → List T} {n : Nat} {xs ys : List α} {i j k : Nat} {x x' : α} {cs : List LV}
theorem g_sz (hr : ∀ x, (r x).length = n) : ∀ e ∈ xs.map r, e.length = n := by
  intro e he
  obtain ⟨x, _, rfl⟩ := List.mem_map.1 he
  exact hr x
theorem g_get (hx : xs[i]? = some x) : (xs.map r)[i]? = some (r x) := by simp [hx]
theorem g_cell (hr : ∀ x, (r x).length = n) (hx : xs[i]? = some x) (hj : j < n) : (lvs (xs.map r))[i * n + j]? = (lvs [r x])[j]? := lvs_cell (g_sz hr) (g_get hx) hj
theorem g_cell0 (hr : ∀ x, (r x).length = n) (h0 : 0 < n) (hx : xs[i]? = some x) : (lvs (xs.map r))[i * n]? = (lvs [r x])[0]? := by
  have := lvs_cell (j := 0) (g_sz hr) (g_get (r := r) hx) h0
  simpa using this
theorem g_seg (hr : ∀ x, (r x).length = n) (hx : xs[i]? = some x) (hjk : j + k ≤ n) : ((lvs (xs.map r)).drop (i * n + j)).take k = ((lvs [r x]).drop j).take k := lvs_seg (g_sz hr) (g_get hx) hjk
theorem g_seg0 (hr : ∀ x, (r x).length = n) (hx : xs[i]? = some x) (hk : k ≤ n) : ((lvs (xs.map r)).drop (i * n)).take k = ((lvs [r x]).drop 0).take k := by
  have := lvs_seg (j := 0) (k := k) (g_sz hr) (g_get (r := r) hx) (by omega)
  simpa using this
theorem g_put (hr : ∀ x, (r x).length = n) (hx : xs[i]? = some x) (hy : ys = xs.set i x') (hj : j + cs.length ≤ n) (he : setAt (lvs [r x]) j cs = lvs [r x']) : setAt (lvs (xs.map r)) (i * n + j) cs = lvs (ys.map r) := by
  rw [lvs_put (g_sz hr) (g_get hx) hj he, hy, List.map_set]
theorem g_put0 (hr : ∀ x, (r x).length = n) (hx : xs[i]? = some x) (hy : ys = xs.set i x') (hj : cs.length ≤ n) (he : setAt (lvs [r x]) 0 cs = lvs [r x']) : setAt (lvs (xs.map r)) (i * n) cs = lvs (ys.map r) := by
  have := g_put (j := 0) hr hx hy (by omega) he
  simpa using this
theorem g_fit (hr : ∀ x, (r x).length = n) (hx : xs[i]? = some x) {m : Nat} (hm : m ≤ n) : i * n + m ≤ (lvs (xs.map r)).length := by
  have h1 := lvs_length (g_sz (xs := xs) hr)
  rw [h1, List.length_map]
  have hi := (List.getElem?_eq_some_iff.1 hx).1
  have h2 : (i + 1) * n ≤ xs.length * n := Nat.mul_le_mul_right _ hi
  rw [Nat.add_mul] at h2
  omega
end
section
variable {α : Type} {l m : List α} {a b : Int}
def segl (l : List α) (a : Int) : Option (List α) := if 0 ≤ a ∧ a ≤ l.length then some (l.drop a.toNat) else none
def segh (l : List α) (b : Int) : Option (List α) := if 0 ≤ b ∧ b ≤ l.length then some (l.take b.toNat) else none
def seglh (l : List α) (a b : Int) : Option (List α) := seg l a b
theorem segl_d (h : segl l a = some m) : 0 ≤ a ∧ a.toNat ≤ l.length ∧ l.drop a.toNat = m ∧ a ≤ (l.length : Int) := by
  unfold segl at h
  split at h
  · simp at h; exact ⟨by omega, by omega, h, by omega⟩
  · simp at h
theorem segh_d (h : segh l b = some m) : 0 ≤ b ∧ b.toNat ≤ l.length ∧ l.take b.toNat = m ∧ b ≤ (l.length : Int) := by
  unfold segh at h
  split at h
  · simp at h; exact ⟨by omega, by omega, h, by omega⟩
  · simp at h
variable {β : Type} {r : α → β}
theorem g_segl (h : segl l a = some m) : 0 ≤ a ∧ a.toNat ≤ l.length ∧ List.take (l.length - a.toNat) (List.drop a.toNat (l.map r)) = m.map r ∧ a ≤ (l.length : Int) := by
  obtain ⟨h1, h2, h3, h4⟩ := segl_d h
  refine ⟨h1, h2, ?_, h4⟩
  rw [← h3, List.map_drop, List.take_of_length_le]
  simp
theorem g_segh (h : segh l b = some m) : 0 ≤ b ∧ b.toNat ≤ l.length ∧ List.take b.toNat (l.map r) = m.map r ∧ b ≤ (l.length : Int) := by
  obtain ⟨h1, h2, h3, h4⟩ := segh_d h
  exact ⟨h1, h2, by rw [← h3, List.map_take], h4⟩
theorem g_seglh (h : seglh l a b = some m) : 0 ≤ a ∧ 0 ≤ b ∧ a.toNat ≤ b.toNat ∧ b.toNat ≤ l.length ∧ List.take (b.toNat - a.toNat) (List.drop a.toNat (l.map r)) = m.map r ∧ a ≤ b ∧ b ≤ (l.length : Int) ∧ max a 0 ≤ b := by
  obtain ⟨h1, h2, h3, h4, h5, h6, h7⟩ := seg_d h
  exact ⟨h1, h2, h3, h4, by rw [← h5, List.map_take, List.map_drop], h6, h7⟩
end
end Go.Proofs.Ytlkhfdccapkcdaa
/- The program's data types: rows of each. -/
namespace Go.Proofs.Ytlkhfdccapkcdaa
open Go Go.RowKit
set_option linter.unusedVariables false
set_option linter.unusedSimpArgs false
theorem encU_cell0 {xs : List Int} {i : Nat} {x : Int} (hx : xs[i]? = some x) : (lvs (encU xs))[i]? = (lvs [[.v (.int .u8 x)]])[0]? := by have := g_cell0 (r := fun x : Int => [.v (.int .u8 x)]) (n := 1) (fun _ => rfl) (by decide) hx; rw [Nat.mul_one] at this; exact this
theorem encU_seg0 {xs : List Int} {i k : Nat} {x : Int} (hx : xs[i]? = some x) (hk : k ≤ 1) : ((lvs (encU xs)).drop (i)).take k = ((lvs [[.v (.int .u8 x)]]).drop 0).take k := by have := g_seg0 (r := fun x : Int => [.v (.int .u8 x)]) (n := 1) (fun _ => rfl) hx hk; rw [Nat.mul_one] at this; exact this
theorem encU_put0 {xs ys : List Int} {i : Nat} {x x' : Int} {cs : List LV} (hx : xs[i]? = some x) (hy : ys = xs.set i x') (hj : cs.length ≤ 1) (he : setAt (lvs [[.v (.int .u8 x)]]) 0 cs = lvs [[.v (.int .u8 x')]]) : setAt (lvs (encU xs)) (i) cs = lvs (encU ys) := by have := g_put0 (r := fun x : Int => [.v (.int .u8 x)]) (n := 1) (fun _ => rfl) hx hy hj he; rw [Nat.mul_one] at this; exact this
theorem encU_fit {xs : List Int} {i : Nat} {x : Int} (hx : xs[i]? = some x) {m : Nat} (hm : m ≤ 1) : i + m ≤ (lvs (encU xs)).length := by have := g_fit (r := fun x : Int => [.v (.int .u8 x)]) (n := 1) (fun _ => rfl) hx hm; rw [Nat.mul_one] at this; exact this
theorem encU_fitj {xs : List Int} {i j : Nat} {x : Int} (hx : xs[i]? = some x) {m : Nat} (hm : j + m ≤ 1) : i + j + m ≤ (lvs (encU xs)).length := by rw [Nat.add_assoc]; exact encU_fit hx hm
@[simp] theorem encU_tk (l : List Int) : (encU l).take l.length = encU l := List.take_of_length_le (by simp)
theorem encU_segl {l m : List Int} {a : Int} (h : segl l a = some m) : 0 ≤ a ∧ a.toNat ≤ l.length ∧ List.take (l.length - a.toNat) (List.drop a.toNat (encU l)) = encU m ∧ a ≤ (l.length : Int) := g_segl h
theorem encU_segh {l m : List Int} {b : Int} (h : segh l b = some m) : 0 ≤ b ∧ b.toNat ≤ l.length ∧ List.take b.toNat (encU l) = encU m ∧ b ≤ (l.length : Int) := g_segh h
theorem encU_seglh {l m : List Int} {a b : Int} (h : seglh l a b = some m) : 0 ≤ a ∧ 0 ≤ b ∧ a.toNat ≤ b.toNat ∧ b.toNat ≤ l.length ∧ List.take (b.toNat - a.toNat) (List.drop a.toNat (encU l)) = encU m ∧ a ≤ b ∧ b ≤ (l.length : Int) ∧ max a 0 ≤ b := g_seglh h
theorem encU_lvsA (al : Bool) (l : List Int) : lvsA al (encU l) = lvs (encU l) := by simp [lvsA, lvs, encU, List.flatMap_map]
theorem encS_cell0 {xs : List ByteArray} {i : Nat} {x : ByteArray} (hx : xs[i]? = some x) : (lvs (encS xs))[i]? = (lvs [[.v (.string x)]])[0]? := by have := g_cell0 (r := fun x : ByteArray => [.v (.string x)]) (n := 1) (fun _ => rfl) (by decide) hx; rw [Nat.mul_one] at this; exact this
theorem encS_seg0 {xs : List ByteArray} {i k : Nat} {x : ByteArray} (hx : xs[i]? = some x) (hk : k ≤ 1) : ((lvs (encS xs)).drop (i)).take k = ((lvs [[.v (.string x)]]).drop 0).take k := by have := g_seg0 (r := fun x : ByteArray => [.v (.string x)]) (n := 1) (fun _ => rfl) hx hk; rw [Nat.mul_one] at this; exact this
theorem encS_put0 {xs ys : List ByteArray} {i : Nat} {x x' : ByteArray} {cs : List LV} (hx : xs[i]? = some x) (hy : ys = xs.set i x') (hj : cs.length ≤ 1) (he : setAt (lvs [[.v (.string x)]]) 0 cs = lvs [[.v (.string x')]]) : setAt (lvs (encS xs)) (i) cs = lvs (encS ys) := by have := g_put0 (r := fun x : ByteArray => [.v (.string x)]) (n := 1) (fun _ => rfl) hx hy hj he; rw [Nat.mul_one] at this; exact this
theorem encS_fit {xs : List ByteArray} {i : Nat} {x : ByteArray} (hx : xs[i]? = some x) {m : Nat} (hm : m ≤ 1) : i + m ≤ (lvs (encS xs)).length := by have := g_fit (r := fun x : ByteArray => [.v (.string x)]) (n := 1) (fun _ => rfl) hx hm; rw [Nat.mul_one] at this; exact this
theorem encS_fitj {xs : List ByteArray} {i j : Nat} {x : ByteArray} (hx : xs[i]? = some x) {m : Nat} (hm : j + m ≤ 1) : i + j + m ≤ (lvs (encS xs)).length := by rw [Nat.add_assoc]; exact encS_fit hx hm
@[simp] theorem encS_tk (l : List ByteArray) : (encS l).take l.length = encS l := List.take_of_length_le (by simp)
theorem encS_segl {l m : List ByteArray} {a : Int} (h : segl l a = some m) : 0 ≤ a ∧ a.toNat ≤ l.length ∧ List.take (l.length - a.toNat) (List.drop a.toNat (encS l)) = encS m ∧ a ≤ (l.length : Int) := g_segl h
theorem encS_segh {l m : List ByteArray} {b : Int} (h : segh l b = some m) : 0 ≤ b ∧ b.toNat ≤ l.length ∧ List.take b.toNat (encS l) = encS m ∧ b ≤ (l.length : Int) := g_segh h
theorem encS_seglh {l m : List ByteArray} {a b : Int} (h : seglh l a b = some m) : 0 ≤ a ∧ 0 ≤ b ∧ a.toNat ≤ b.toNat ∧ b.toNat ≤ l.length ∧ List.take (b.toNat - a.toNat) (List.drop a.toNat (encS l)) = encS m ∧ a ≤ b ∧ b ≤ (l.length : Int) ∧ max a 0 ≤ b := g_seglh h
theorem encB_cell0 {xs : List Bool} {i : Nat} {x : Bool} (hx : xs[i]? = some x) : (lvs (encB xs))[i]? = (lvs [[.v (.bool x)]])[0]? := by have := g_cell0 (r := fun x : Bool => [.v (.bool x)]) (n := 1) (fun _ => rfl) (by decide) hx; rw [Nat.mul_one] at this; exact this
theorem encB_seg0 {xs : List Bool} {i k : Nat} {x : Bool} (hx : xs[i]? = some x) (hk : k ≤ 1) : ((lvs (encB xs)).drop (i)).take k = ((lvs [[.v (.bool x)]]).drop 0).take k := by have := g_seg0 (r := fun x : Bool => [.v (.bool x)]) (n := 1) (fun _ => rfl) hx hk; rw [Nat.mul_one] at this; exact this
theorem encB_put0 {xs ys : List Bool} {i : Nat} {x x' : Bool} {cs : List LV} (hx : xs[i]? = some x) (hy : ys = xs.set i x') (hj : cs.length ≤ 1) (he : setAt (lvs [[.v (.bool x)]]) 0 cs = lvs [[.v (.bool x')]]) : setAt (lvs (encB xs)) (i) cs = lvs (encB ys) := by have := g_put0 (r := fun x : Bool => [.v (.bool x)]) (n := 1) (fun _ => rfl) hx hy hj he; rw [Nat.mul_one] at this; exact this
theorem encB_fit {xs : List Bool} {i : Nat} {x : Bool} (hx : xs[i]? = some x) {m : Nat} (hm : m ≤ 1) : i + m ≤ (lvs (encB xs)).length := by have := g_fit (r := fun x : Bool => [.v (.bool x)]) (n := 1) (fun _ => rfl) hx hm; rw [Nat.mul_one] at this; exact this
theorem encB_fitj {xs : List Bool} {i j : Nat} {x : Bool} (hx : xs[i]? = some x) {m : Nat} (hm : j + m ≤ 1) : i + j + m ≤ (lvs (encB xs)).length := by rw [Nat.add_assoc]; exact encB_fit hx hm
@[simp] theorem encB_tk (l : List Bool) : (encB l).take l.length = encB l := List.take_of_length_le (by simp)
theorem encB_segl {l m : List Bool} {a : Int} (h : segl l a = some m) : 0 ≤ a ∧ a.toNat ≤ l.length ∧ List.take (l.length - a.toNat) (List.drop a.toNat (encB l)) = encB m ∧ a ≤ (l.length : Int) := g_segl h
theorem encB_segh {l m : List Bool} {b : Int} (h : segh l b = some m) : 0 ≤ b ∧ b.toNat ≤ l.length ∧ List.take b.toNat (encB l) = encB m ∧ b ≤ (l.length : Int) := g_segh h
theorem encB_seglh {l m : List Bool} {a b : Int} (h : seglh l a b = some m) : 0 ≤ a ∧ 0 ≤ b ∧ a.toNat ≤ b.toNat ∧ b.toNat ≤ l.length ∧ List.take (b.toNat - a.toNat) (List.drop a.toNat (encB l)) = encB m ∧ a ≤ b ∧ b ≤ (l.length : Int) ∧ max a 0 ≤ b := g_seglh h
theorem encB_lvsA (al : Bool) (l : List Bool) : lvsA al (encB l) = lvs (encB l) := by simp [lvsA, lvs, encB, List.flatMap_map]
theorem encI_cell0 {xs : List Int} {i : Nat} {x : Int} (hx : xs[i]? = some x) : (lvs (encI xs))[i]? = (lvs [[.v (.int .i64 x)]])[0]? := by have := g_cell0 (r := fun x : Int => [.v (.int .i64 x)]) (n := 1) (fun _ => rfl) (by decide) hx; rw [Nat.mul_one] at this; exact this
theorem encI_seg0 {xs : List Int} {i k : Nat} {x : Int} (hx : xs[i]? = some x) (hk : k ≤ 1) : ((lvs (encI xs)).drop (i)).take k = ((lvs [[.v (.int .i64 x)]]).drop 0).take k := by have := g_seg0 (r := fun x : Int => [.v (.int .i64 x)]) (n := 1) (fun _ => rfl) hx hk; rw [Nat.mul_one] at this; exact this
theorem encI_put0 {xs ys : List Int} {i : Nat} {x x' : Int} {cs : List LV} (hx : xs[i]? = some x) (hy : ys = xs.set i x') (hj : cs.length ≤ 1) (he : setAt (lvs [[.v (.int .i64 x)]]) 0 cs = lvs [[.v (.int .i64 x')]]) : setAt (lvs (encI xs)) (i) cs = lvs (encI ys) := by have := g_put0 (r := fun x : Int => [.v (.int .i64 x)]) (n := 1) (fun _ => rfl) hx hy hj he; rw [Nat.mul_one] at this; exact this
theorem encI_fit {xs : List Int} {i : Nat} {x : Int} (hx : xs[i]? = some x) {m : Nat} (hm : m ≤ 1) : i + m ≤ (lvs (encI xs)).length := by have := g_fit (r := fun x : Int => [.v (.int .i64 x)]) (n := 1) (fun _ => rfl) hx hm; rw [Nat.mul_one] at this; exact this
theorem encI_fitj {xs : List Int} {i j : Nat} {x : Int} (hx : xs[i]? = some x) {m : Nat} (hm : j + m ≤ 1) : i + j + m ≤ (lvs (encI xs)).length := by rw [Nat.add_assoc]; exact encI_fit hx hm
@[simp] theorem encI_tk (l : List Int) : (encI l).take l.length = encI l := List.take_of_length_le (by simp)
theorem encI_segl {l m : List Int} {a : Int} (h : segl l a = some m) : 0 ≤ a ∧ a.toNat ≤ l.length ∧ List.take (l.length - a.toNat) (List.drop a.toNat (encI l)) = encI m ∧ a ≤ (l.length : Int) := g_segl h
theorem encI_segh {l m : List Int} {b : Int} (h : segh l b = some m) : 0 ≤ b ∧ b.toNat ≤ l.length ∧ List.take b.toNat (encI l) = encI m ∧ b ≤ (l.length : Int) := g_segh h
theorem encI_seglh {l m : List Int} {a b : Int} (h : seglh l a b = some m) : 0 ≤ a ∧ 0 ≤ b ∧ a.toNat ≤ b.toNat ∧ b.toNat ≤ l.length ∧ List.take (b.toNat - a.toNat) (List.drop a.toNat (encI l)) = encI m ∧ a ≤ b ∧ b ≤ (l.length : Int) ∧ max a 0 ≤ b := g_seglh h
theorem encField_cell {xs : List Field} {i j : Nat} {x : Field} (hx : xs[i]? = some x) (hj : j < 2) : (lvs (encField xs))[i * 2 + j]? = (lvs [[.v (.string x.name), .v (.string x.val)]])[j]? := g_cell (r := fun x : Field => [.v (.string x.name), .v (.string x.val)]) (fun _ => rfl) hx hj
theorem encField_cell0 {xs : List Field} {i : Nat} {x : Field} (hx : xs[i]? = some x) : (lvs (encField xs))[i * 2]? = (lvs [[.v (.string x.name), .v (.string x.val)]])[0]? := g_cell0 (r := fun x : Field => [.v (.string x.name), .v (.string x.val)]) (fun _ => rfl) (by decide) hx
theorem encField_seg {xs : List Field} {i j k : Nat} {x : Field} (hx : xs[i]? = some x) (hjk : j + k ≤ 2) : ((lvs (encField xs)).drop (i * 2 + j)).take k = ((lvs [[.v (.string x.name), .v (.string x.val)]]).drop j).take k := g_seg (r := fun x : Field => [.v (.string x.name), .v (.string x.val)]) (fun _ => rfl) hx hjk
theorem encField_seg0 {xs : List Field} {i k : Nat} {x : Field} (hx : xs[i]? = some x) (hk : k ≤ 2) : ((lvs (encField xs)).drop (i * 2)).take k = ((lvs [[.v (.string x.name), .v (.string x.val)]]).drop 0).take k := g_seg0 (r := fun x : Field => [.v (.string x.name), .v (.string x.val)]) (fun _ => rfl) hx hk
theorem encField_put {xs ys : List Field} {i j : Nat} {x x' : Field} {cs : List LV} (hx : xs[i]? = some x) (hy : ys = xs.set i x') (hj : j + cs.length ≤ 2) (he : setAt (lvs [[.v (.string x.name), .v (.string x.val)]]) j cs = lvs [[.v (.string x'.name), .v (.string x'.val)]]) : setAt (lvs (encField xs)) (i * 2 + j) cs = lvs (encField ys) := g_put (r := fun x : Field => [.v (.string x.name), .v (.string x.val)]) (fun _ => rfl) hx hy hj he
theorem encField_put0 {xs ys : List Field} {i : Nat} {x x' : Field} {cs : List LV} (hx : xs[i]? = some x) (hy : ys = xs.set i x') (hj : cs.length ≤ 2) (he : setAt (lvs [[.v (.string x.name), .v (.string x.val)]]) 0 cs = lvs [[.v (.string x'.name), .v (.string x'.val)]]) : setAt (lvs (encField xs)) (i * 2) cs = lvs (encField ys) := g_put0 (r := fun x : Field => [.v (.string x.name), .v (.string x.val)]) (fun _ => rfl) hx hy hj he
theorem encField_fit {xs : List Field} {i : Nat} {x : Field} (hx : xs[i]? = some x) {m : Nat} (hm : m ≤ 2) : i * 2 + m ≤ (lvs (encField xs)).length := g_fit (r := fun x : Field => [.v (.string x.name), .v (.string x.val)]) (fun _ => rfl) hx hm
theorem encField_fitj {xs : List Field} {i j : Nat} {x : Field} (hx : xs[i]? = some x) {m : Nat} (hm : j + m ≤ 2) : i * 2 + j + m ≤ (lvs (encField xs)).length := by rw [Nat.add_assoc]; exact encField_fit hx hm
@[simp] theorem encField_tk (l : List Field) : (encField l).take l.length = encField l := List.take_of_length_le (by simp)
theorem encField_segl {l m : List Field} {a : Int} (h : segl l a = some m) : 0 ≤ a ∧ a.toNat ≤ l.length ∧ List.take (l.length - a.toNat) (List.drop a.toNat (encField l)) = encField m ∧ a ≤ (l.length : Int) := g_segl h
theorem encField_segh {l m : List Field} {b : Int} (h : segh l b = some m) : 0 ≤ b ∧ b.toNat ≤ l.length ∧ List.take b.toNat (encField l) = encField m ∧ b ≤ (l.length : Int) := g_segh h
theorem encField_seglh {l m : List Field} {a b : Int} (h : seglh l a b = some m) : 0 ≤ a ∧ 0 ≤ b ∧ a.toNat ≤ b.toNat ∧ b.toNat ≤ l.length ∧ List.take (b.toNat - a.toNat) (List.drop a.toNat (encField l)) = encField m ∧ a ≤ b ∧ b ≤ (l.length : Int) ∧ max a 0 ≤ b := g_seglh h
def encLField (l : List (List Field)) : List (List T) := l.map fun x => [.sl 2 (encField x)]
theorem lvs_encLField1 (x : (List Field)) : lvs (encLField [x]) = [.d false 2 (encField x)] := rfl
@[simp] theorem encLField_length (l : List (List Field)) : (encLField l).length = l.length := by simp [encLField]
@[simp high] theorem encLField_get (l : List (List Field)) (i : Nat) : (encLField l)[i]? = (l[i]?).map fun x => [.sl 2 (encField x)] := by simp [encLField]
@[simp] theorem encLField_nil : encLField [] = [] := rfl
theorem encLField_cons (x : (List Field)) (l : List (List Field)) : encLField (x :: l) = [.sl 2 (encField x)] :: encLField l := rfl
theorem encLField_append (l m : List (List Field)) : encLField (l ++ m) = encLField l ++ encLField m := by simp [encLField]
theorem encLField_take (l : List (List Field)) (n : Nat) : (encLField l).take n = encLField (l.take n) := by simp [encLField]
theorem encLField_drop (l : List (List Field)) (n : Nat) : (encLField l).drop n = encLField (l.drop n) := by simp [encLField]
theorem encLField_sz (l : List (List Field)) : ∀ e ∈ encLField l, e.length = 1 := by
  intro e h
  obtain ⟨x, _, rfl⟩ := List.mem_map.1 h
  rfl
@[simp] theorem encLField_eq_nil (l : List (List Field)) : (encLField l = []) = (l = []) := by simp [encLField]
theorem encLField_cell0 {xs : List (List Field)} {i : Nat} {x : List Field} (hx : xs[i]? = some x) : (lvs (encLField xs))[i]? = (lvs [[.sl 2 (encField x)]])[0]? := by have := g_cell0 (r := fun x : List Field => [.sl 2 (encField x)]) (n := 1) (fun _ => rfl) (by decide) hx; rw [Nat.mul_one] at this; exact this
theorem encLField_seg0 {xs : List (List Field)} {i k : Nat} {x : List Field} (hx : xs[i]? = some x) (hk : k ≤ 1) : ((lvs (encLField xs)).drop (i)).take k = ((lvs [[.sl 2 (encField x)]]).drop 0).take k := by have := g_seg0 (r := fun x : List Field => [.sl 2 (encField x)]) (n := 1) (fun _ => rfl) hx hk; rw [Nat.mul_one] at this; exact this
theorem encLField_put0 {xs ys : List (List Field)} {i : Nat} {x x' : List Field} {cs : List LV} (hx : xs[i]? = some x) (hy : ys = xs.set i x') (hj : cs.length ≤ 1) (he : setAt (lvs [[.sl 2 (encField x)]]) 0 cs = lvs [[.sl 2 (encField x')]]) : setAt (lvs (encLField xs)) (i) cs = lvs (encLField ys) := by have := g_put0 (r := fun x : List Field => [.sl 2 (encField x)]) (n := 1) (fun _ => rfl) hx hy hj he; rw [Nat.mul_one] at this; exact this
theorem encLField_fit {xs : List (List Field)} {i : Nat} {x : List Field} (hx : xs[i]? = some x) {m : Nat} (hm : m ≤ 1) : i + m ≤ (lvs (encLField xs)).length := by have := g_fit (r := fun x : List Field => [.sl 2 (encField x)]) (n := 1) (fun _ => rfl) hx hm; rw [Nat.mul_one] at this; exact this
theorem encLField_fitj {xs : List (List Field)} {i j : Nat} {x : List Field} (hx : xs[i]? = some x) {m : Nat} (hm : j + m ≤ 1) : i + j + m ≤ (lvs (encLField xs)).length := by rw [Nat.add_assoc]; exact encLField_fit hx hm
@[simp] theorem encLField_tk (l : List (List Field)) : (encLField l).take l.length = encLField l := List.take_of_length_le (by simp)
theorem encLField_segl {l m : List (List Field)} {a : Int} (h : segl l a = some m) : 0 ≤ a ∧ a.toNat ≤ l.length ∧ List.take (l.length - a.toNat) (List.drop a.toNat (encLField l)) = encLField m ∧ a ≤ (l.length : Int) := g_segl h
theorem encLField_segh {l m : List (List Field)} {b : Int} (h : segh l b = some m) : 0 ≤ b ∧ b.toNat ≤ l.length ∧ List.take b.toNat (encLField l) = encLField m ∧ b ≤ (l.length : Int) := g_segh h
theorem encLField_seglh {l m : List (List Field)} {a b : Int} (h : seglh l a b = some m) : 0 ≤ a ∧ 0 ≤ b ∧ a.toNat ≤ b.toNat ∧ b.toNat ≤ l.length ∧ List.take (b.toNat - a.toNat) (List.drop a.toNat (encLField l)) = encLField m ∧ a ≤ b ∧ b ≤ (l.length : Int) ∧ max a 0 ≤ b := g_seglh h
def encLS (l : List (List ByteArray)) : List (List T) := l.map fun x => [.sl 1 (encS x)]
theorem lvs_encLS1 (x : (List ByteArray)) : lvs (encLS [x]) = [.d false 1 (encS x)] := rfl
@[simp] theorem encLS_length (l : List (List ByteArray)) : (encLS l).length = l.length := by simp [encLS]
@[simp high] theorem encLS_get (l : List (List ByteArray)) (i : Nat) : (encLS l)[i]? = (l[i]?).map fun x => [.sl 1 (encS x)] := by simp [encLS]
@[simp] theorem encLS_nil : encLS [] = [] := rfl
theorem encLS_cons (x : (List ByteArray)) (l : List (List ByteArray)) : encLS (x :: l) = [.sl 1 (encS x)] :: encLS l := rfl
theorem encLS_append (l m : List (List ByteArray)) : encLS (l ++ m) = encLS l ++ encLS m := by simp [encLS]
theorem encLS_take (l : List (List ByteArray)) (n : Nat) : (encLS l).take n = encLS (l.take n) := by simp [encLS]
theorem encLS_drop (l : List (List ByteArray)) (n : Nat) : (encLS l).drop n = encLS (l.drop n) := by simp [encLS]
theorem encLS_sz (l : List (List ByteArray)) : ∀ e ∈ encLS l, e.length = 1 := by
  intro e h
  obtain ⟨x, _, rfl⟩ := List.mem_map.1 h
  rfl
@[simp] theorem encLS_eq_nil (l : List (List ByteArray)) : (encLS l = []) = (l = []) := by simp [encLS]
theorem encLS_cell0 {xs : List (List ByteArray)} {i : Nat} {x : List ByteArray} (hx : xs[i]? = some x) : (lvs (encLS xs))[i]? = (lvs [[.sl 1 (encS x)]])[0]? := by have := g_cell0 (r := fun x : List ByteArray => [.sl 1 (encS x)]) (n := 1) (fun _ => rfl) (by decide) hx; rw [Nat.mul_one] at this; exact this
theorem encLS_seg0 {xs : List (List ByteArray)} {i k : Nat} {x : List ByteArray} (hx : xs[i]? = some x) (hk : k ≤ 1) : ((lvs (encLS xs)).drop (i)).take k = ((lvs [[.sl 1 (encS x)]]).drop 0).take k := by have := g_seg0 (r := fun x : List ByteArray => [.sl 1 (encS x)]) (n := 1) (fun _ => rfl) hx hk; rw [Nat.mul_one] at this; exact this
theorem encLS_put0 {xs ys : List (List ByteArray)} {i : Nat} {x x' : List ByteArray} {cs : List LV} (hx : xs[i]? = some x) (hy : ys = xs.set i x') (hj : cs.length ≤ 1) (he : setAt (lvs [[.sl 1 (encS x)]]) 0 cs = lvs [[.sl 1 (encS x')]]) : setAt (lvs (encLS xs)) (i) cs = lvs (encLS ys) := by have := g_put0 (r := fun x : List ByteArray => [.sl 1 (encS x)]) (n := 1) (fun _ => rfl) hx hy hj he; rw [Nat.mul_one] at this; exact this
theorem encLS_fit {xs : List (List ByteArray)} {i : Nat} {x : List ByteArray} (hx : xs[i]? = some x) {m : Nat} (hm : m ≤ 1) : i + m ≤ (lvs (encLS xs)).length := by have := g_fit (r := fun x : List ByteArray => [.sl 1 (encS x)]) (n := 1) (fun _ => rfl) hx hm; rw [Nat.mul_one] at this; exact this
theorem encLS_fitj {xs : List (List ByteArray)} {i j : Nat} {x : List ByteArray} (hx : xs[i]? = some x) {m : Nat} (hm : j + m ≤ 1) : i + j + m ≤ (lvs (encLS xs)).length := by rw [Nat.add_assoc]; exact encLS_fit hx hm
@[simp] theorem encLS_tk (l : List (List ByteArray)) : (encLS l).take l.length = encLS l := List.take_of_length_le (by simp)
theorem encLS_segl {l m : List (List ByteArray)} {a : Int} (h : segl l a = some m) : 0 ≤ a ∧ a.toNat ≤ l.length ∧ List.take (l.length - a.toNat) (List.drop a.toNat (encLS l)) = encLS m ∧ a ≤ (l.length : Int) := g_segl h
theorem encLS_segh {l m : List (List ByteArray)} {b : Int} (h : segh l b = some m) : 0 ≤ b ∧ b.toNat ≤ l.length ∧ List.take b.toNat (encLS l) = encLS m ∧ b ≤ (l.length : Int) := g_segh h
theorem encLS_seglh {l m : List (List ByteArray)} {a b : Int} (h : seglh l a b = some m) : 0 ≤ a ∧ 0 ≤ b ∧ a.toNat ≤ b.toNat ∧ b.toNat ≤ l.length ∧ List.take (b.toNat - a.toNat) (List.drop a.toNat (encLS l)) = encLS m ∧ a ≤ b ∧ b ≤ (l.length : Int) ∧ max a 0 ≤ b := g_seglh h
theorem encItem_cell {xs : List Item} {i j : Nat} {x : Item} (hx : xs[i]? = some x) (hj : j < 5) : (lvs (encItem xs))[i * 5 + j]? = (lvs [[.v (.int .i64 x.kind), .v (.string x.s), .sl 2 (encField x.f), .sl 1 (encS x.l), .v (.int .i64 x.exp)]])[j]? := g_cell (r := fun x : Item => [.v (.int .i64 x.kind), .v (.string x.s), .sl 2 (encField x.f), .sl 1 (encS x.l), .v (.int .i64 x.exp)]) (fun _ => rfl) hx hj
theorem encItem_cell0 {xs : List Item} {i : Nat} {x : Item} (hx : xs[i]? = some x) : (lvs (encItem xs))[i * 5]? = (lvs [[.v (.int .i64 x.kind), .v (.string x.s), .sl 2 (encField x.f), .sl 1 (encS x.l), .v (.int .i64 x.exp)]])[0]? := g_cell0 (r := fun x : Item => [.v (.int .i64 x.kind), .v (.string x.s), .sl 2 (encField x.f), .sl 1 (encS x.l), .v (.int .i64 x.exp)]) (fun _ => rfl) (by decide) hx
theorem encItem_seg {xs : List Item} {i j k : Nat} {x : Item} (hx : xs[i]? = some x) (hjk : j + k ≤ 5) : ((lvs (encItem xs)).drop (i * 5 + j)).take k = ((lvs [[.v (.int .i64 x.kind), .v (.string x.s), .sl 2 (encField x.f), .sl 1 (encS x.l), .v (.int .i64 x.exp)]]).drop j).take k := g_seg (r := fun x : Item => [.v (.int .i64 x.kind), .v (.string x.s), .sl 2 (encField x.f), .sl 1 (encS x.l), .v (.int .i64 x.exp)]) (fun _ => rfl) hx hjk
theorem encItem_seg0 {xs : List Item} {i k : Nat} {x : Item} (hx : xs[i]? = some x) (hk : k ≤ 5) : ((lvs (encItem xs)).drop (i * 5)).take k = ((lvs [[.v (.int .i64 x.kind), .v (.string x.s), .sl 2 (encField x.f), .sl 1 (encS x.l), .v (.int .i64 x.exp)]]).drop 0).take k := g_seg0 (r := fun x : Item => [.v (.int .i64 x.kind), .v (.string x.s), .sl 2 (encField x.f), .sl 1 (encS x.l), .v (.int .i64 x.exp)]) (fun _ => rfl) hx hk
theorem encItem_put {xs ys : List Item} {i j : Nat} {x x' : Item} {cs : List LV} (hx : xs[i]? = some x) (hy : ys = xs.set i x') (hj : j + cs.length ≤ 5) (he : setAt (lvs [[.v (.int .i64 x.kind), .v (.string x.s), .sl 2 (encField x.f), .sl 1 (encS x.l), .v (.int .i64 x.exp)]]) j cs = lvs [[.v (.int .i64 x'.kind), .v (.string x'.s), .sl 2 (encField x'.f), .sl 1 (encS x'.l), .v (.int .i64 x'.exp)]]) : setAt (lvs (encItem xs)) (i * 5 + j) cs = lvs (encItem ys) := g_put (r := fun x : Item => [.v (.int .i64 x.kind), .v (.string x.s), .sl 2 (encField x.f), .sl 1 (encS x.l), .v (.int .i64 x.exp)]) (fun _ => rfl) hx hy hj he
theorem encItem_put0 {xs ys : List Item} {i : Nat} {x x' : Item} {cs : List LV} (hx : xs[i]? = some x) (hy : ys = xs.set i x') (hj : cs.length ≤ 5) (he : setAt (lvs [[.v (.int .i64 x.kind), .v (.string x.s), .sl 2 (encField x.f), .sl 1 (encS x.l), .v (.int .i64 x.exp)]]) 0 cs = lvs [[.v (.int .i64 x'.kind), .v (.string x'.s), .sl 2 (encField x'.f), .sl 1 (encS x'.l), .v (.int .i64 x'.exp)]]) : setAt (lvs (encItem xs)) (i * 5) cs = lvs (encItem ys) := g_put0 (r := fun x : Item => [.v (.int .i64 x.kind), .v (.string x.s), .sl 2 (encField x.f), .sl 1 (encS x.l), .v (.int .i64 x.exp)]) (fun _ => rfl) hx hy hj he
theorem encItem_fit {xs : List Item} {i : Nat} {x : Item} (hx : xs[i]? = some x) {m : Nat} (hm : m ≤ 5) : i * 5 + m ≤ (lvs (encItem xs)).length := g_fit (r := fun x : Item => [.v (.int .i64 x.kind), .v (.string x.s), .sl 2 (encField x.f), .sl 1 (encS x.l), .v (.int .i64 x.exp)]) (fun _ => rfl) hx hm
theorem encItem_fitj {xs : List Item} {i j : Nat} {x : Item} (hx : xs[i]? = some x) {m : Nat} (hm : j + m ≤ 5) : i * 5 + j + m ≤ (lvs (encItem xs)).length := by rw [Nat.add_assoc]; exact encItem_fit hx hm
@[simp] theorem encItem_tk (l : List Item) : (encItem l).take l.length = encItem l := List.take_of_length_le (by simp)
theorem encItem_segl {l m : List Item} {a : Int} (h : segl l a = some m) : 0 ≤ a ∧ a.toNat ≤ l.length ∧ List.take (l.length - a.toNat) (List.drop a.toNat (encItem l)) = encItem m ∧ a ≤ (l.length : Int) := g_segl h
theorem encItem_segh {l m : List Item} {b : Int} (h : segh l b = some m) : 0 ≤ b ∧ b.toNat ≤ l.length ∧ List.take b.toNat (encItem l) = encItem m ∧ b ≤ (l.length : Int) := g_segh h
theorem encItem_seglh {l m : List Item} {a b : Int} (h : seglh l a b = some m) : 0 ≤ a ∧ 0 ≤ b ∧ a.toNat ≤ b.toNat ∧ b.toNat ≤ l.length ∧ List.take (b.toNat - a.toNat) (List.drop a.toNat (encItem l)) = encItem m ∧ a ≤ b ∧ b ≤ (l.length : Int) ∧ max a 0 ≤ b := g_seglh h
theorem encEffect_cell {xs : List Effect} {i j : Nat} {x : Effect} (hx : xs[i]? = some x) (hj : j < 7) : (lvs (encEffect xs))[i * 7 + j]? = (lvs [[.v (.string x.key), .v (.bool x.gone), .v (.int .i64 x.item.kind), .v (.string x.item.s), .sl 2 (encField x.item.f), .sl 1 (encS x.item.l), .v (.int .i64 x.item.exp)]])[j]? := g_cell (r := fun x : Effect => [.v (.string x.key), .v (.bool x.gone), .v (.int .i64 x.item.kind), .v (.string x.item.s), .sl 2 (encField x.item.f), .sl 1 (encS x.item.l), .v (.int .i64 x.item.exp)]) (fun _ => rfl) hx hj
theorem encEffect_cell0 {xs : List Effect} {i : Nat} {x : Effect} (hx : xs[i]? = some x) : (lvs (encEffect xs))[i * 7]? = (lvs [[.v (.string x.key), .v (.bool x.gone), .v (.int .i64 x.item.kind), .v (.string x.item.s), .sl 2 (encField x.item.f), .sl 1 (encS x.item.l), .v (.int .i64 x.item.exp)]])[0]? := g_cell0 (r := fun x : Effect => [.v (.string x.key), .v (.bool x.gone), .v (.int .i64 x.item.kind), .v (.string x.item.s), .sl 2 (encField x.item.f), .sl 1 (encS x.item.l), .v (.int .i64 x.item.exp)]) (fun _ => rfl) (by decide) hx
theorem encEffect_seg {xs : List Effect} {i j k : Nat} {x : Effect} (hx : xs[i]? = some x) (hjk : j + k ≤ 7) : ((lvs (encEffect xs)).drop (i * 7 + j)).take k = ((lvs [[.v (.string x.key), .v (.bool x.gone), .v (.int .i64 x.item.kind), .v (.string x.item.s), .sl 2 (encField x.item.f), .sl 1 (encS x.item.l), .v (.int .i64 x.item.exp)]]).drop j).take k := g_seg (r := fun x : Effect => [.v (.string x.key), .v (.bool x.gone), .v (.int .i64 x.item.kind), .v (.string x.item.s), .sl 2 (encField x.item.f), .sl 1 (encS x.item.l), .v (.int .i64 x.item.exp)]) (fun _ => rfl) hx hjk
theorem encEffect_seg0 {xs : List Effect} {i k : Nat} {x : Effect} (hx : xs[i]? = some x) (hk : k ≤ 7) : ((lvs (encEffect xs)).drop (i * 7)).take k = ((lvs [[.v (.string x.key), .v (.bool x.gone), .v (.int .i64 x.item.kind), .v (.string x.item.s), .sl 2 (encField x.item.f), .sl 1 (encS x.item.l), .v (.int .i64 x.item.exp)]]).drop 0).take k := g_seg0 (r := fun x : Effect => [.v (.string x.key), .v (.bool x.gone), .v (.int .i64 x.item.kind), .v (.string x.item.s), .sl 2 (encField x.item.f), .sl 1 (encS x.item.l), .v (.int .i64 x.item.exp)]) (fun _ => rfl) hx hk
theorem encEffect_put {xs ys : List Effect} {i j : Nat} {x x' : Effect} {cs : List LV} (hx : xs[i]? = some x) (hy : ys = xs.set i x') (hj : j + cs.length ≤ 7) (he : setAt (lvs [[.v (.string x.key), .v (.bool x.gone), .v (.int .i64 x.item.kind), .v (.string x.item.s), .sl 2 (encField x.item.f), .sl 1 (encS x.item.l), .v (.int .i64 x.item.exp)]]) j cs = lvs [[.v (.string x'.key), .v (.bool x'.gone), .v (.int .i64 x'.item.kind), .v (.string x'.item.s), .sl 2 (encField x'.item.f), .sl 1 (encS x'.item.l), .v (.int .i64 x'.item.exp)]]) : setAt (lvs (encEffect xs)) (i * 7 + j) cs = lvs (encEffect ys) := g_put (r := fun x : Effect => [.v (.string x.key), .v (.bool x.gone), .v (.int .i64 x.item.kind), .v (.string x.item.s), .sl 2 (encField x.item.f), .sl 1 (encS x.item.l), .v (.int .i64 x.item.exp)]) (fun _ => rfl) hx hy hj he
theorem encEffect_put0 {xs ys : List Effect} {i : Nat} {x x' : Effect} {cs : List LV} (hx : xs[i]? = some x) (hy : ys = xs.set i x') (hj : cs.length ≤ 7) (he : setAt (lvs [[.v (.string x.key), .v (.bool x.gone), .v (.int .i64 x.item.kind), .v (.string x.item.s), .sl 2 (encField x.item.f), .sl 1 (encS x.item.l), .v (.int .i64 x.item.exp)]]) 0 cs = lvs [[.v (.string x'.key), .v (.bool x'.gone), .v (.int .i64 x'.item.kind), .v (.string x'.item.s), .sl 2 (encField x'.item.f), .sl 1 (encS x'.item.l), .v (.int .i64 x'.item.exp)]]) : setAt (lvs (encEffect xs)) (i * 7) cs = lvs (encEffect ys) := g_put0 (r := fun x : Effect => [.v (.string x.key), .v (.bool x.gone), .v (.int .i64 x.item.kind), .v (.string x.item.s), .sl 2 (encField x.item.f), .sl 1 (encS x.item.l), .v (.int .i64 x.item.exp)]) (fun _ => rfl) hx hy hj he
theorem encEffect_fit {xs : List Effect} {i : Nat} {x : Effect} (hx : xs[i]? = some x) {m : Nat} (hm : m ≤ 7) : i * 7 + m ≤ (lvs (encEffect xs)).length := g_fit (r := fun x : Effect => [.v (.string x.key), .v (.bool x.gone), .v (.int .i64 x.item.kind), .v (.string x.item.s), .sl 2 (encField x.item.f), .sl 1 (encS x.item.l), .v (.int .i64 x.item.exp)]) (fun _ => rfl) hx hm
theorem encEffect_fitj {xs : List Effect} {i j : Nat} {x : Effect} (hx : xs[i]? = some x) {m : Nat} (hm : j + m ≤ 7) : i * 7 + j + m ≤ (lvs (encEffect xs)).length := by rw [Nat.add_assoc]; exact encEffect_fit hx hm
@[simp] theorem encEffect_tk (l : List Effect) : (encEffect l).take l.length = encEffect l := List.take_of_length_le (by simp)
theorem encEffect_segl {l m : List Effect} {a : Int} (h : segl l a = some m) : 0 ≤ a ∧ a.toNat ≤ l.length ∧ List.take (l.length - a.toNat) (List.drop a.toNat (encEffect l)) = encEffect m ∧ a ≤ (l.length : Int) := g_segl h
theorem encEffect_segh {l m : List Effect} {b : Int} (h : segh l b = some m) : 0 ≤ b ∧ b.toNat ≤ l.length ∧ List.take b.toNat (encEffect l) = encEffect m ∧ b ≤ (l.length : Int) := g_segh h
theorem encEffect_seglh {l m : List Effect} {a b : Int} (h : seglh l a b = some m) : 0 ≤ a ∧ 0 ≤ b ∧ a.toNat ≤ b.toNat ∧ b.toNat ≤ l.length ∧ List.take (b.toNat - a.toNat) (List.drop a.toNat (encEffect l)) = encEffect m ∧ a ≤ b ∧ b ≤ (l.length : Int) ∧ max a 0 ≤ b := g_seglh h
theorem encRid_cell {xs : List Rid} {i j : Nat} {x : Rid} (hx : xs[i]? = some x) (hj : j < 2) : (lvs (encRid xs))[i * 2 + j]? = (lvs [[.v (.int .i64 x.node), .v (.int .i64 x.epoch)]])[j]? := g_cell (r := fun x : Rid => [.v (.int .i64 x.node), .v (.int .i64 x.epoch)]) (fun _ => rfl) hx hj
theorem encRid_cell0 {xs : List Rid} {i : Nat} {x : Rid} (hx : xs[i]? = some x) : (lvs (encRid xs))[i * 2]? = (lvs [[.v (.int .i64 x.node), .v (.int .i64 x.epoch)]])[0]? := g_cell0 (r := fun x : Rid => [.v (.int .i64 x.node), .v (.int .i64 x.epoch)]) (fun _ => rfl) (by decide) hx
theorem encRid_seg {xs : List Rid} {i j k : Nat} {x : Rid} (hx : xs[i]? = some x) (hjk : j + k ≤ 2) : ((lvs (encRid xs)).drop (i * 2 + j)).take k = ((lvs [[.v (.int .i64 x.node), .v (.int .i64 x.epoch)]]).drop j).take k := g_seg (r := fun x : Rid => [.v (.int .i64 x.node), .v (.int .i64 x.epoch)]) (fun _ => rfl) hx hjk
theorem encRid_seg0 {xs : List Rid} {i k : Nat} {x : Rid} (hx : xs[i]? = some x) (hk : k ≤ 2) : ((lvs (encRid xs)).drop (i * 2)).take k = ((lvs [[.v (.int .i64 x.node), .v (.int .i64 x.epoch)]]).drop 0).take k := g_seg0 (r := fun x : Rid => [.v (.int .i64 x.node), .v (.int .i64 x.epoch)]) (fun _ => rfl) hx hk
theorem encRid_put {xs ys : List Rid} {i j : Nat} {x x' : Rid} {cs : List LV} (hx : xs[i]? = some x) (hy : ys = xs.set i x') (hj : j + cs.length ≤ 2) (he : setAt (lvs [[.v (.int .i64 x.node), .v (.int .i64 x.epoch)]]) j cs = lvs [[.v (.int .i64 x'.node), .v (.int .i64 x'.epoch)]]) : setAt (lvs (encRid xs)) (i * 2 + j) cs = lvs (encRid ys) := g_put (r := fun x : Rid => [.v (.int .i64 x.node), .v (.int .i64 x.epoch)]) (fun _ => rfl) hx hy hj he
theorem encRid_put0 {xs ys : List Rid} {i : Nat} {x x' : Rid} {cs : List LV} (hx : xs[i]? = some x) (hy : ys = xs.set i x') (hj : cs.length ≤ 2) (he : setAt (lvs [[.v (.int .i64 x.node), .v (.int .i64 x.epoch)]]) 0 cs = lvs [[.v (.int .i64 x'.node), .v (.int .i64 x'.epoch)]]) : setAt (lvs (encRid xs)) (i * 2) cs = lvs (encRid ys) := g_put0 (r := fun x : Rid => [.v (.int .i64 x.node), .v (.int .i64 x.epoch)]) (fun _ => rfl) hx hy hj he
theorem encRid_fit {xs : List Rid} {i : Nat} {x : Rid} (hx : xs[i]? = some x) {m : Nat} (hm : m ≤ 2) : i * 2 + m ≤ (lvs (encRid xs)).length := g_fit (r := fun x : Rid => [.v (.int .i64 x.node), .v (.int .i64 x.epoch)]) (fun _ => rfl) hx hm
theorem encRid_fitj {xs : List Rid} {i j : Nat} {x : Rid} (hx : xs[i]? = some x) {m : Nat} (hm : j + m ≤ 2) : i * 2 + j + m ≤ (lvs (encRid xs)).length := by rw [Nat.add_assoc]; exact encRid_fit hx hm
@[simp] theorem encRid_tk (l : List Rid) : (encRid l).take l.length = encRid l := List.take_of_length_le (by simp)
theorem encRid_segl {l m : List Rid} {a : Int} (h : segl l a = some m) : 0 ≤ a ∧ a.toNat ≤ l.length ∧ List.take (l.length - a.toNat) (List.drop a.toNat (encRid l)) = encRid m ∧ a ≤ (l.length : Int) := g_segl h
theorem encRid_segh {l m : List Rid} {b : Int} (h : segh l b = some m) : 0 ≤ b ∧ b.toNat ≤ l.length ∧ List.take b.toNat (encRid l) = encRid m ∧ b ≤ (l.length : Int) := g_segh h
theorem encRid_seglh {l m : List Rid} {a b : Int} (h : seglh l a b = some m) : 0 ≤ a ∧ 0 ≤ b ∧ a.toNat ≤ b.toNat ∧ b.toNat ≤ l.length ∧ List.take (b.toNat - a.toNat) (List.drop a.toNat (encRid l)) = encRid m ∧ a ≤ b ∧ b ≤ (l.length : Int) ∧ max a 0 ≤ b := g_seglh h
theorem encRid_lvsA (al : Bool) (l : List Rid) : lvsA al (encRid l) = lvs (encRid l) := by simp [lvsA, lvs, encRid, List.flatMap_map]
def encLEffect (l : List (List Effect)) : List (List T) := l.map fun x => [.sl 7 (encEffect x)]
theorem lvs_encLEffect1 (x : (List Effect)) : lvs (encLEffect [x]) = [.d false 7 (encEffect x)] := rfl
@[simp] theorem encLEffect_length (l : List (List Effect)) : (encLEffect l).length = l.length := by simp [encLEffect]
@[simp high] theorem encLEffect_get (l : List (List Effect)) (i : Nat) : (encLEffect l)[i]? = (l[i]?).map fun x => [.sl 7 (encEffect x)] := by simp [encLEffect]
@[simp] theorem encLEffect_nil : encLEffect [] = [] := rfl
theorem encLEffect_cons (x : (List Effect)) (l : List (List Effect)) : encLEffect (x :: l) = [.sl 7 (encEffect x)] :: encLEffect l := rfl
theorem encLEffect_append (l m : List (List Effect)) : encLEffect (l ++ m) = encLEffect l ++ encLEffect m := by simp [encLEffect]
theorem encLEffect_take (l : List (List Effect)) (n : Nat) : (encLEffect l).take n = encLEffect (l.take n) := by simp [encLEffect]
theorem encLEffect_drop (l : List (List Effect)) (n : Nat) : (encLEffect l).drop n = encLEffect (l.drop n) := by simp [encLEffect]
theorem encLEffect_sz (l : List (List Effect)) : ∀ e ∈ encLEffect l, e.length = 1 := by
  intro e h
  obtain ⟨x, _, rfl⟩ := List.mem_map.1 h
  rfl
@[simp] theorem encLEffect_eq_nil (l : List (List Effect)) : (encLEffect l = []) = (l = []) := by simp [encLEffect]
theorem encLEffect_cell0 {xs : List (List Effect)} {i : Nat} {x : List Effect} (hx : xs[i]? = some x) : (lvs (encLEffect xs))[i]? = (lvs [[.sl 7 (encEffect x)]])[0]? := by have := g_cell0 (r := fun x : List Effect => [.sl 7 (encEffect x)]) (n := 1) (fun _ => rfl) (by decide) hx; rw [Nat.mul_one] at this; exact this
theorem encLEffect_seg0 {xs : List (List Effect)} {i k : Nat} {x : List Effect} (hx : xs[i]? = some x) (hk : k ≤ 1) : ((lvs (encLEffect xs)).drop (i)).take k = ((lvs [[.sl 7 (encEffect x)]]).drop 0).take k := by have := g_seg0 (r := fun x : List Effect => [.sl 7 (encEffect x)]) (n := 1) (fun _ => rfl) hx hk; rw [Nat.mul_one] at this; exact this
theorem encLEffect_put0 {xs ys : List (List Effect)} {i : Nat} {x x' : List Effect} {cs : List LV} (hx : xs[i]? = some x) (hy : ys = xs.set i x') (hj : cs.length ≤ 1) (he : setAt (lvs [[.sl 7 (encEffect x)]]) 0 cs = lvs [[.sl 7 (encEffect x')]]) : setAt (lvs (encLEffect xs)) (i) cs = lvs (encLEffect ys) := by have := g_put0 (r := fun x : List Effect => [.sl 7 (encEffect x)]) (n := 1) (fun _ => rfl) hx hy hj he; rw [Nat.mul_one] at this; exact this
theorem encLEffect_fit {xs : List (List Effect)} {i : Nat} {x : List Effect} (hx : xs[i]? = some x) {m : Nat} (hm : m ≤ 1) : i + m ≤ (lvs (encLEffect xs)).length := by have := g_fit (r := fun x : List Effect => [.sl 7 (encEffect x)]) (n := 1) (fun _ => rfl) hx hm; rw [Nat.mul_one] at this; exact this
theorem encLEffect_fitj {xs : List (List Effect)} {i j : Nat} {x : List Effect} (hx : xs[i]? = some x) {m : Nat} (hm : j + m ≤ 1) : i + j + m ≤ (lvs (encLEffect xs)).length := by rw [Nat.add_assoc]; exact encLEffect_fit hx hm
@[simp] theorem encLEffect_tk (l : List (List Effect)) : (encLEffect l).take l.length = encLEffect l := List.take_of_length_le (by simp)
theorem encLEffect_segl {l m : List (List Effect)} {a : Int} (h : segl l a = some m) : 0 ≤ a ∧ a.toNat ≤ l.length ∧ List.take (l.length - a.toNat) (List.drop a.toNat (encLEffect l)) = encLEffect m ∧ a ≤ (l.length : Int) := g_segl h
theorem encLEffect_segh {l m : List (List Effect)} {b : Int} (h : segh l b = some m) : 0 ≤ b ∧ b.toNat ≤ l.length ∧ List.take b.toNat (encLEffect l) = encLEffect m ∧ b ≤ (l.length : Int) := g_segh h
theorem encLEffect_seglh {l m : List (List Effect)} {a b : Int} (h : seglh l a b = some m) : 0 ≤ a ∧ 0 ≤ b ∧ a.toNat ≤ b.toNat ∧ b.toNat ≤ l.length ∧ List.take (b.toNat - a.toNat) (List.drop a.toNat (encLEffect l)) = encLEffect m ∧ a ≤ b ∧ b ≤ (l.length : Int) ∧ max a 0 ≤ b := g_seglh h
theorem encFeed_cell {xs : List Feed} {i j : Nat} {x : Feed} (hx : xs[i]? = some x) (hj : j < 7) : (lvs (encFeed xs))[i * 7 + j]? = (lvs [[.v (.int .i64 x.rid.node), .v (.int .i64 x.rid.epoch), .v (.int .i64 x.off), .sl 7 (encEffect x.back), .v (.int .i64 x.prev.node), .v (.int .i64 x.prev.epoch), .v (.int .i64 x.upto)]])[j]? := g_cell (r := fun x : Feed => [.v (.int .i64 x.rid.node), .v (.int .i64 x.rid.epoch), .v (.int .i64 x.off), .sl 7 (encEffect x.back), .v (.int .i64 x.prev.node), .v (.int .i64 x.prev.epoch), .v (.int .i64 x.upto)]) (fun _ => rfl) hx hj
theorem encFeed_cell0 {xs : List Feed} {i : Nat} {x : Feed} (hx : xs[i]? = some x) : (lvs (encFeed xs))[i * 7]? = (lvs [[.v (.int .i64 x.rid.node), .v (.int .i64 x.rid.epoch), .v (.int .i64 x.off), .sl 7 (encEffect x.back), .v (.int .i64 x.prev.node), .v (.int .i64 x.prev.epoch), .v (.int .i64 x.upto)]])[0]? := g_cell0 (r := fun x : Feed => [.v (.int .i64 x.rid.node), .v (.int .i64 x.rid.epoch), .v (.int .i64 x.off), .sl 7 (encEffect x.back), .v (.int .i64 x.prev.node), .v (.int .i64 x.prev.epoch), .v (.int .i64 x.upto)]) (fun _ => rfl) (by decide) hx
theorem encFeed_seg {xs : List Feed} {i j k : Nat} {x : Feed} (hx : xs[i]? = some x) (hjk : j + k ≤ 7) : ((lvs (encFeed xs)).drop (i * 7 + j)).take k = ((lvs [[.v (.int .i64 x.rid.node), .v (.int .i64 x.rid.epoch), .v (.int .i64 x.off), .sl 7 (encEffect x.back), .v (.int .i64 x.prev.node), .v (.int .i64 x.prev.epoch), .v (.int .i64 x.upto)]]).drop j).take k := g_seg (r := fun x : Feed => [.v (.int .i64 x.rid.node), .v (.int .i64 x.rid.epoch), .v (.int .i64 x.off), .sl 7 (encEffect x.back), .v (.int .i64 x.prev.node), .v (.int .i64 x.prev.epoch), .v (.int .i64 x.upto)]) (fun _ => rfl) hx hjk
theorem encFeed_seg0 {xs : List Feed} {i k : Nat} {x : Feed} (hx : xs[i]? = some x) (hk : k ≤ 7) : ((lvs (encFeed xs)).drop (i * 7)).take k = ((lvs [[.v (.int .i64 x.rid.node), .v (.int .i64 x.rid.epoch), .v (.int .i64 x.off), .sl 7 (encEffect x.back), .v (.int .i64 x.prev.node), .v (.int .i64 x.prev.epoch), .v (.int .i64 x.upto)]]).drop 0).take k := g_seg0 (r := fun x : Feed => [.v (.int .i64 x.rid.node), .v (.int .i64 x.rid.epoch), .v (.int .i64 x.off), .sl 7 (encEffect x.back), .v (.int .i64 x.prev.node), .v (.int .i64 x.prev.epoch), .v (.int .i64 x.upto)]) (fun _ => rfl) hx hk
theorem encFeed_put {xs ys : List Feed} {i j : Nat} {x x' : Feed} {cs : List LV} (hx : xs[i]? = some x) (hy : ys = xs.set i x') (hj : j + cs.length ≤ 7) (he : setAt (lvs [[.v (.int .i64 x.rid.node), .v (.int .i64 x.rid.epoch), .v (.int .i64 x.off), .sl 7 (encEffect x.back), .v (.int .i64 x.prev.node), .v (.int .i64 x.prev.epoch), .v (.int .i64 x.upto)]]) j cs = lvs [[.v (.int .i64 x'.rid.node), .v (.int .i64 x'.rid.epoch), .v (.int .i64 x'.off), .sl 7 (encEffect x'.back), .v (.int .i64 x'.prev.node), .v (.int .i64 x'.prev.epoch), .v (.int .i64 x'.upto)]]) : setAt (lvs (encFeed xs)) (i * 7 + j) cs = lvs (encFeed ys) := g_put (r := fun x : Feed => [.v (.int .i64 x.rid.node), .v (.int .i64 x.rid.epoch), .v (.int .i64 x.off), .sl 7 (encEffect x.back), .v (.int .i64 x.prev.node), .v (.int .i64 x.prev.epoch), .v (.int .i64 x.upto)]) (fun _ => rfl) hx hy hj he
theorem encFeed_put0 {xs ys : List Feed} {i : Nat} {x x' : Feed} {cs : List LV} (hx : xs[i]? = some x) (hy : ys = xs.set i x') (hj : cs.length ≤ 7) (he : setAt (lvs [[.v (.int .i64 x.rid.node), .v (.int .i64 x.rid.epoch), .v (.int .i64 x.off), .sl 7 (encEffect x.back), .v (.int .i64 x.prev.node), .v (.int .i64 x.prev.epoch), .v (.int .i64 x.upto)]]) 0 cs = lvs [[.v (.int .i64 x'.rid.node), .v (.int .i64 x'.rid.epoch), .v (.int .i64 x'.off), .sl 7 (encEffect x'.back), .v (.int .i64 x'.prev.node), .v (.int .i64 x'.prev.epoch), .v (.int .i64 x'.upto)]]) : setAt (lvs (encFeed xs)) (i * 7) cs = lvs (encFeed ys) := g_put0 (r := fun x : Feed => [.v (.int .i64 x.rid.node), .v (.int .i64 x.rid.epoch), .v (.int .i64 x.off), .sl 7 (encEffect x.back), .v (.int .i64 x.prev.node), .v (.int .i64 x.prev.epoch), .v (.int .i64 x.upto)]) (fun _ => rfl) hx hy hj he
theorem encFeed_fit {xs : List Feed} {i : Nat} {x : Feed} (hx : xs[i]? = some x) {m : Nat} (hm : m ≤ 7) : i * 7 + m ≤ (lvs (encFeed xs)).length := g_fit (r := fun x : Feed => [.v (.int .i64 x.rid.node), .v (.int .i64 x.rid.epoch), .v (.int .i64 x.off), .sl 7 (encEffect x.back), .v (.int .i64 x.prev.node), .v (.int .i64 x.prev.epoch), .v (.int .i64 x.upto)]) (fun _ => rfl) hx hm
theorem encFeed_fitj {xs : List Feed} {i j : Nat} {x : Feed} (hx : xs[i]? = some x) {m : Nat} (hm : j + m ≤ 7) : i * 7 + j + m ≤ (lvs (encFeed xs)).length := by rw [Nat.add_assoc]; exact encFeed_fit hx hm
@[simp] theorem encFeed_tk (l : List Feed) : (encFeed l).take l.length = encFeed l := List.take_of_length_le (by simp)
theorem encFeed_segl {l m : List Feed} {a : Int} (h : segl l a = some m) : 0 ≤ a ∧ a.toNat ≤ l.length ∧ List.take (l.length - a.toNat) (List.drop a.toNat (encFeed l)) = encFeed m ∧ a ≤ (l.length : Int) := g_segl h
theorem encFeed_segh {l m : List Feed} {b : Int} (h : segh l b = some m) : 0 ≤ b ∧ b.toNat ≤ l.length ∧ List.take b.toNat (encFeed l) = encFeed m ∧ b ≤ (l.length : Int) := g_segh h
theorem encFeed_seglh {l m : List Feed} {a b : Int} (h : seglh l a b = some m) : 0 ≤ a ∧ 0 ≤ b ∧ a.toNat ≤ b.toNat ∧ b.toNat ≤ l.length ∧ List.take (b.toNat - a.toNat) (List.drop a.toNat (encFeed l)) = encFeed m ∧ a ≤ b ∧ b ≤ (l.length : Int) ∧ max a 0 ≤ b := g_seglh h
structure R5Said where
  s : ByteArray
  ok : Bool
deriving DecidableEq, Inhabited
attribute [ext] R5Said
def encR5Said (l : List R5Said) : List (List T) := l.map fun x => [.v (.string x.s), .v (.bool x.ok)]
theorem lvs_encR5Said1 (x : R5Said) : lvs (encR5Said [x]) = [.s (.string x.s), .s (.bool x.ok)] := rfl
@[simp] theorem encR5Said_length (l : List R5Said) : (encR5Said l).length = l.length := by simp [encR5Said]
@[simp high] theorem encR5Said_get (l : List R5Said) (i : Nat) : (encR5Said l)[i]? = (l[i]?).map fun x => [.v (.string x.s), .v (.bool x.ok)] := by simp [encR5Said]
@[simp] theorem encR5Said_nil : encR5Said [] = [] := rfl
theorem encR5Said_cons (x : R5Said) (l : List R5Said) : encR5Said (x :: l) = [.v (.string x.s), .v (.bool x.ok)] :: encR5Said l := rfl
theorem encR5Said_append (l m : List R5Said) : encR5Said (l ++ m) = encR5Said l ++ encR5Said m := by simp [encR5Said]
theorem encR5Said_take (l : List R5Said) (n : Nat) : (encR5Said l).take n = encR5Said (l.take n) := by simp [encR5Said]
theorem encR5Said_drop (l : List R5Said) (n : Nat) : (encR5Said l).drop n = encR5Said (l.drop n) := by simp [encR5Said]
theorem encR5Said_sz (l : List R5Said) : ∀ e ∈ encR5Said l, e.length = 2 := by
  intro e h
  obtain ⟨x, _, rfl⟩ := List.mem_map.1 h
  rfl
@[simp] theorem encR5Said_eq_nil (l : List R5Said) : (encR5Said l = []) = (l = []) := by simp [encR5Said]
theorem encR5Said_cell {xs : List R5Said} {i j : Nat} {x : R5Said} (hx : xs[i]? = some x) (hj : j < 2) : (lvs (encR5Said xs))[i * 2 + j]? = (lvs [[.v (.string x.s), .v (.bool x.ok)]])[j]? := g_cell (r := fun x : R5Said => [.v (.string x.s), .v (.bool x.ok)]) (fun _ => rfl) hx hj
theorem encR5Said_cell0 {xs : List R5Said} {i : Nat} {x : R5Said} (hx : xs[i]? = some x) : (lvs (encR5Said xs))[i * 2]? = (lvs [[.v (.string x.s), .v (.bool x.ok)]])[0]? := g_cell0 (r := fun x : R5Said => [.v (.string x.s), .v (.bool x.ok)]) (fun _ => rfl) (by decide) hx
theorem encR5Said_seg {xs : List R5Said} {i j k : Nat} {x : R5Said} (hx : xs[i]? = some x) (hjk : j + k ≤ 2) : ((lvs (encR5Said xs)).drop (i * 2 + j)).take k = ((lvs [[.v (.string x.s), .v (.bool x.ok)]]).drop j).take k := g_seg (r := fun x : R5Said => [.v (.string x.s), .v (.bool x.ok)]) (fun _ => rfl) hx hjk
theorem encR5Said_seg0 {xs : List R5Said} {i k : Nat} {x : R5Said} (hx : xs[i]? = some x) (hk : k ≤ 2) : ((lvs (encR5Said xs)).drop (i * 2)).take k = ((lvs [[.v (.string x.s), .v (.bool x.ok)]]).drop 0).take k := g_seg0 (r := fun x : R5Said => [.v (.string x.s), .v (.bool x.ok)]) (fun _ => rfl) hx hk
theorem encR5Said_put {xs ys : List R5Said} {i j : Nat} {x x' : R5Said} {cs : List LV} (hx : xs[i]? = some x) (hy : ys = xs.set i x') (hj : j + cs.length ≤ 2) (he : setAt (lvs [[.v (.string x.s), .v (.bool x.ok)]]) j cs = lvs [[.v (.string x'.s), .v (.bool x'.ok)]]) : setAt (lvs (encR5Said xs)) (i * 2 + j) cs = lvs (encR5Said ys) := g_put (r := fun x : R5Said => [.v (.string x.s), .v (.bool x.ok)]) (fun _ => rfl) hx hy hj he
theorem encR5Said_put0 {xs ys : List R5Said} {i : Nat} {x x' : R5Said} {cs : List LV} (hx : xs[i]? = some x) (hy : ys = xs.set i x') (hj : cs.length ≤ 2) (he : setAt (lvs [[.v (.string x.s), .v (.bool x.ok)]]) 0 cs = lvs [[.v (.string x'.s), .v (.bool x'.ok)]]) : setAt (lvs (encR5Said xs)) (i * 2) cs = lvs (encR5Said ys) := g_put0 (r := fun x : R5Said => [.v (.string x.s), .v (.bool x.ok)]) (fun _ => rfl) hx hy hj he
theorem encR5Said_fit {xs : List R5Said} {i : Nat} {x : R5Said} (hx : xs[i]? = some x) {m : Nat} (hm : m ≤ 2) : i * 2 + m ≤ (lvs (encR5Said xs)).length := g_fit (r := fun x : R5Said => [.v (.string x.s), .v (.bool x.ok)]) (fun _ => rfl) hx hm
theorem encR5Said_fitj {xs : List R5Said} {i j : Nat} {x : R5Said} (hx : xs[i]? = some x) {m : Nat} (hm : j + m ≤ 2) : i * 2 + j + m ≤ (lvs (encR5Said xs)).length := by rw [Nat.add_assoc]; exact encR5Said_fit hx hm
@[simp] theorem encR5Said_tk (l : List R5Said) : (encR5Said l).take l.length = encR5Said l := List.take_of_length_le (by simp)
theorem encR5Said_segl {l m : List R5Said} {a : Int} (h : segl l a = some m) : 0 ≤ a ∧ a.toNat ≤ l.length ∧ List.take (l.length - a.toNat) (List.drop a.toNat (encR5Said l)) = encR5Said m ∧ a ≤ (l.length : Int) := g_segl h
theorem encR5Said_segh {l m : List R5Said} {b : Int} (h : segh l b = some m) : 0 ≤ b ∧ b.toNat ≤ l.length ∧ List.take b.toNat (encR5Said l) = encR5Said m ∧ b ≤ (l.length : Int) := g_segh h
theorem encR5Said_seglh {l m : List R5Said} {a b : Int} (h : seglh l a b = some m) : 0 ≤ a ∧ 0 ≤ b ∧ a.toNat ≤ b.toNat ∧ b.toNat ≤ l.length ∧ List.take (b.toNat - a.toNat) (List.drop a.toNat (encR5Said l)) = encR5Said m ∧ a ≤ b ∧ b ≤ (l.length : Int) ∧ max a 0 ≤ b := g_seglh h
theorem encR5Said_lvsA (al : Bool) (l : List R5Said) : lvsA al (encR5Said l) = lvs (encR5Said l) := by simp [lvsA, lvs, encR5Said, List.flatMap_map]
theorem encPair_cell {xs : List Pair} {i j : Nat} {x : Pair} (hx : xs[i]? = some x) (hj : j < 6) : (lvs (encPair xs))[i * 6 + j]? = (lvs [[.v (.string x.key), .v (.int .i64 x.item.kind), .v (.string x.item.s), .sl 2 (encField x.item.f), .sl 1 (encS x.item.l), .v (.int .i64 x.item.exp)]])[j]? := g_cell (r := fun x : Pair => [.v (.string x.key), .v (.int .i64 x.item.kind), .v (.string x.item.s), .sl 2 (encField x.item.f), .sl 1 (encS x.item.l), .v (.int .i64 x.item.exp)]) (fun _ => rfl) hx hj
theorem encPair_cell0 {xs : List Pair} {i : Nat} {x : Pair} (hx : xs[i]? = some x) : (lvs (encPair xs))[i * 6]? = (lvs [[.v (.string x.key), .v (.int .i64 x.item.kind), .v (.string x.item.s), .sl 2 (encField x.item.f), .sl 1 (encS x.item.l), .v (.int .i64 x.item.exp)]])[0]? := g_cell0 (r := fun x : Pair => [.v (.string x.key), .v (.int .i64 x.item.kind), .v (.string x.item.s), .sl 2 (encField x.item.f), .sl 1 (encS x.item.l), .v (.int .i64 x.item.exp)]) (fun _ => rfl) (by decide) hx
theorem encPair_seg {xs : List Pair} {i j k : Nat} {x : Pair} (hx : xs[i]? = some x) (hjk : j + k ≤ 6) : ((lvs (encPair xs)).drop (i * 6 + j)).take k = ((lvs [[.v (.string x.key), .v (.int .i64 x.item.kind), .v (.string x.item.s), .sl 2 (encField x.item.f), .sl 1 (encS x.item.l), .v (.int .i64 x.item.exp)]]).drop j).take k := g_seg (r := fun x : Pair => [.v (.string x.key), .v (.int .i64 x.item.kind), .v (.string x.item.s), .sl 2 (encField x.item.f), .sl 1 (encS x.item.l), .v (.int .i64 x.item.exp)]) (fun _ => rfl) hx hjk
theorem encPair_seg0 {xs : List Pair} {i k : Nat} {x : Pair} (hx : xs[i]? = some x) (hk : k ≤ 6) : ((lvs (encPair xs)).drop (i * 6)).take k = ((lvs [[.v (.string x.key), .v (.int .i64 x.item.kind), .v (.string x.item.s), .sl 2 (encField x.item.f), .sl 1 (encS x.item.l), .v (.int .i64 x.item.exp)]]).drop 0).take k := g_seg0 (r := fun x : Pair => [.v (.string x.key), .v (.int .i64 x.item.kind), .v (.string x.item.s), .sl 2 (encField x.item.f), .sl 1 (encS x.item.l), .v (.int .i64 x.item.exp)]) (fun _ => rfl) hx hk
theorem encPair_put {xs ys : List Pair} {i j : Nat} {x x' : Pair} {cs : List LV} (hx : xs[i]? = some x) (hy : ys = xs.set i x') (hj : j + cs.length ≤ 6) (he : setAt (lvs [[.v (.string x.key), .v (.int .i64 x.item.kind), .v (.string x.item.s), .sl 2 (encField x.item.f), .sl 1 (encS x.item.l), .v (.int .i64 x.item.exp)]]) j cs = lvs [[.v (.string x'.key), .v (.int .i64 x'.item.kind), .v (.string x'.item.s), .sl 2 (encField x'.item.f), .sl 1 (encS x'.item.l), .v (.int .i64 x'.item.exp)]]) : setAt (lvs (encPair xs)) (i * 6 + j) cs = lvs (encPair ys) := g_put (r := fun x : Pair => [.v (.string x.key), .v (.int .i64 x.item.kind), .v (.string x.item.s), .sl 2 (encField x.item.f), .sl 1 (encS x.item.l), .v (.int .i64 x.item.exp)]) (fun _ => rfl) hx hy hj he
theorem encPair_put0 {xs ys : List Pair} {i : Nat} {x x' : Pair} {cs : List LV} (hx : xs[i]? = some x) (hy : ys = xs.set i x') (hj : cs.length ≤ 6) (he : setAt (lvs [[.v (.string x.key), .v (.int .i64 x.item.kind), .v (.string x.item.s), .sl 2 (encField x.item.f), .sl 1 (encS x.item.l), .v (.int .i64 x.item.exp)]]) 0 cs = lvs [[.v (.string x'.key), .v (.int .i64 x'.item.kind), .v (.string x'.item.s), .sl 2 (encField x'.item.f), .sl 1 (encS x'.item.l), .v (.int .i64 x'.item.exp)]]) : setAt (lvs (encPair xs)) (i * 6) cs = lvs (encPair ys) := g_put0 (r := fun x : Pair => [.v (.string x.key), .v (.int .i64 x.item.kind), .v (.string x.item.s), .sl 2 (encField x.item.f), .sl 1 (encS x.item.l), .v (.int .i64 x.item.exp)]) (fun _ => rfl) hx hy hj he
theorem encPair_fit {xs : List Pair} {i : Nat} {x : Pair} (hx : xs[i]? = some x) {m : Nat} (hm : m ≤ 6) : i * 6 + m ≤ (lvs (encPair xs)).length := g_fit (r := fun x : Pair => [.v (.string x.key), .v (.int .i64 x.item.kind), .v (.string x.item.s), .sl 2 (encField x.item.f), .sl 1 (encS x.item.l), .v (.int .i64 x.item.exp)]) (fun _ => rfl) hx hm
theorem encPair_fitj {xs : List Pair} {i j : Nat} {x : Pair} (hx : xs[i]? = some x) {m : Nat} (hm : j + m ≤ 6) : i * 6 + j + m ≤ (lvs (encPair xs)).length := by rw [Nat.add_assoc]; exact encPair_fit hx hm
@[simp] theorem encPair_tk (l : List Pair) : (encPair l).take l.length = encPair l := List.take_of_length_le (by simp)
theorem encPair_segl {l m : List Pair} {a : Int} (h : segl l a = some m) : 0 ≤ a ∧ a.toNat ≤ l.length ∧ List.take (l.length - a.toNat) (List.drop a.toNat (encPair l)) = encPair m ∧ a ≤ (l.length : Int) := g_segl h
theorem encPair_segh {l m : List Pair} {b : Int} (h : segh l b = some m) : 0 ≤ b ∧ b.toNat ≤ l.length ∧ List.take b.toNat (encPair l) = encPair m ∧ b ≤ (l.length : Int) := g_segh h
theorem encPair_seglh {l m : List Pair} {a b : Int} (h : seglh l a b = some m) : 0 ≤ a ∧ 0 ≤ b ∧ a.toNat ≤ b.toNat ∧ b.toNat ≤ l.length ∧ List.take (b.toNat - a.toNat) (List.drop a.toNat (encPair l)) = encPair m ∧ a ≤ b ∧ b ≤ (l.length : Int) ∧ max a 0 ≤ b := g_seglh h
theorem encClaim_cell {xs : List Claim} {i j : Nat} {x : Claim} (hx : xs[i]? = some x) (hj : j < 4) : (lvs (encClaim xs))[i * 4 + j]? = (lvs [[.v (.int .i64 x.frm), .v (.int .i64 x.to), .v (.int .i64 x.node), .v (.int .i64 x.epoch)]])[j]? := g_cell (r := fun x : Claim => [.v (.int .i64 x.frm), .v (.int .i64 x.to), .v (.int .i64 x.node), .v (.int .i64 x.epoch)]) (fun _ => rfl) hx hj
theorem encClaim_cell0 {xs : List Claim} {i : Nat} {x : Claim} (hx : xs[i]? = some x) : (lvs (encClaim xs))[i * 4]? = (lvs [[.v (.int .i64 x.frm), .v (.int .i64 x.to), .v (.int .i64 x.node), .v (.int .i64 x.epoch)]])[0]? := g_cell0 (r := fun x : Claim => [.v (.int .i64 x.frm), .v (.int .i64 x.to), .v (.int .i64 x.node), .v (.int .i64 x.epoch)]) (fun _ => rfl) (by decide) hx
theorem encClaim_seg {xs : List Claim} {i j k : Nat} {x : Claim} (hx : xs[i]? = some x) (hjk : j + k ≤ 4) : ((lvs (encClaim xs)).drop (i * 4 + j)).take k = ((lvs [[.v (.int .i64 x.frm), .v (.int .i64 x.to), .v (.int .i64 x.node), .v (.int .i64 x.epoch)]]).drop j).take k := g_seg (r := fun x : Claim => [.v (.int .i64 x.frm), .v (.int .i64 x.to), .v (.int .i64 x.node), .v (.int .i64 x.epoch)]) (fun _ => rfl) hx hjk
theorem encClaim_seg0 {xs : List Claim} {i k : Nat} {x : Claim} (hx : xs[i]? = some x) (hk : k ≤ 4) : ((lvs (encClaim xs)).drop (i * 4)).take k = ((lvs [[.v (.int .i64 x.frm), .v (.int .i64 x.to), .v (.int .i64 x.node), .v (.int .i64 x.epoch)]]).drop 0).take k := g_seg0 (r := fun x : Claim => [.v (.int .i64 x.frm), .v (.int .i64 x.to), .v (.int .i64 x.node), .v (.int .i64 x.epoch)]) (fun _ => rfl) hx hk
theorem encClaim_put {xs ys : List Claim} {i j : Nat} {x x' : Claim} {cs : List LV} (hx : xs[i]? = some x) (hy : ys = xs.set i x') (hj : j + cs.length ≤ 4) (he : setAt (lvs [[.v (.int .i64 x.frm), .v (.int .i64 x.to), .v (.int .i64 x.node), .v (.int .i64 x.epoch)]]) j cs = lvs [[.v (.int .i64 x'.frm), .v (.int .i64 x'.to), .v (.int .i64 x'.node), .v (.int .i64 x'.epoch)]]) : setAt (lvs (encClaim xs)) (i * 4 + j) cs = lvs (encClaim ys) := g_put (r := fun x : Claim => [.v (.int .i64 x.frm), .v (.int .i64 x.to), .v (.int .i64 x.node), .v (.int .i64 x.epoch)]) (fun _ => rfl) hx hy hj he
theorem encClaim_put0 {xs ys : List Claim} {i : Nat} {x x' : Claim} {cs : List LV} (hx : xs[i]? = some x) (hy : ys = xs.set i x') (hj : cs.length ≤ 4) (he : setAt (lvs [[.v (.int .i64 x.frm), .v (.int .i64 x.to), .v (.int .i64 x.node), .v (.int .i64 x.epoch)]]) 0 cs = lvs [[.v (.int .i64 x'.frm), .v (.int .i64 x'.to), .v (.int .i64 x'.node), .v (.int .i64 x'.epoch)]]) : setAt (lvs (encClaim xs)) (i * 4) cs = lvs (encClaim ys) := g_put0 (r := fun x : Claim => [.v (.int .i64 x.frm), .v (.int .i64 x.to), .v (.int .i64 x.node), .v (.int .i64 x.epoch)]) (fun _ => rfl) hx hy hj he
theorem encClaim_fit {xs : List Claim} {i : Nat} {x : Claim} (hx : xs[i]? = some x) {m : Nat} (hm : m ≤ 4) : i * 4 + m ≤ (lvs (encClaim xs)).length := g_fit (r := fun x : Claim => [.v (.int .i64 x.frm), .v (.int .i64 x.to), .v (.int .i64 x.node), .v (.int .i64 x.epoch)]) (fun _ => rfl) hx hm
theorem encClaim_fitj {xs : List Claim} {i j : Nat} {x : Claim} (hx : xs[i]? = some x) {m : Nat} (hm : j + m ≤ 4) : i * 4 + j + m ≤ (lvs (encClaim xs)).length := by rw [Nat.add_assoc]; exact encClaim_fit hx hm
@[simp] theorem encClaim_tk (l : List Claim) : (encClaim l).take l.length = encClaim l := List.take_of_length_le (by simp)
theorem encClaim_segl {l m : List Claim} {a : Int} (h : segl l a = some m) : 0 ≤ a ∧ a.toNat ≤ l.length ∧ List.take (l.length - a.toNat) (List.drop a.toNat (encClaim l)) = encClaim m ∧ a ≤ (l.length : Int) := g_segl h
theorem encClaim_segh {l m : List Claim} {b : Int} (h : segh l b = some m) : 0 ≤ b ∧ b.toNat ≤ l.length ∧ List.take b.toNat (encClaim l) = encClaim m ∧ b ≤ (l.length : Int) := g_segh h
theorem encClaim_seglh {l m : List Claim} {a b : Int} (h : seglh l a b = some m) : 0 ≤ a ∧ 0 ≤ b ∧ a.toNat ≤ b.toNat ∧ b.toNat ≤ l.length ∧ List.take (b.toNat - a.toNat) (List.drop a.toNat (encClaim l)) = encClaim m ∧ a ≤ b ∧ b ≤ (l.length : Int) ∧ max a 0 ≤ b := g_seglh h
theorem encClaim_lvsA (al : Bool) (l : List Claim) : lvsA al (encClaim l) = lvs (encClaim l) := by simp [lvsA, lvs, encClaim, List.flatMap_map]
def encLClaim (l : List (List Claim)) : List (List T) := l.map fun x => [.sl 4 (encClaim x)]
theorem lvs_encLClaim1 (x : (List Claim)) : lvs (encLClaim [x]) = [.d false 4 (encClaim x)] := rfl
@[simp] theorem encLClaim_length (l : List (List Claim)) : (encLClaim l).length = l.length := by simp [encLClaim]
@[simp high] theorem encLClaim_get (l : List (List Claim)) (i : Nat) : (encLClaim l)[i]? = (l[i]?).map fun x => [.sl 4 (encClaim x)] := by simp [encLClaim]
@[simp] theorem encLClaim_nil : encLClaim [] = [] := rfl
theorem encLClaim_cons (x : (List Claim)) (l : List (List Claim)) : encLClaim (x :: l) = [.sl 4 (encClaim x)] :: encLClaim l := rfl
theorem encLClaim_append (l m : List (List Claim)) : encLClaim (l ++ m) = encLClaim l ++ encLClaim m := by simp [encLClaim]
theorem encLClaim_take (l : List (List Claim)) (n : Nat) : (encLClaim l).take n = encLClaim (l.take n) := by simp [encLClaim]
theorem encLClaim_drop (l : List (List Claim)) (n : Nat) : (encLClaim l).drop n = encLClaim (l.drop n) := by simp [encLClaim]
theorem encLClaim_sz (l : List (List Claim)) : ∀ e ∈ encLClaim l, e.length = 1 := by
  intro e h
  obtain ⟨x, _, rfl⟩ := List.mem_map.1 h
  rfl
@[simp] theorem encLClaim_eq_nil (l : List (List Claim)) : (encLClaim l = []) = (l = []) := by simp [encLClaim]
theorem encLClaim_cell0 {xs : List (List Claim)} {i : Nat} {x : List Claim} (hx : xs[i]? = some x) : (lvs (encLClaim xs))[i]? = (lvs [[.sl 4 (encClaim x)]])[0]? := by have := g_cell0 (r := fun x : List Claim => [.sl 4 (encClaim x)]) (n := 1) (fun _ => rfl) (by decide) hx; rw [Nat.mul_one] at this; exact this
theorem encLClaim_seg0 {xs : List (List Claim)} {i k : Nat} {x : List Claim} (hx : xs[i]? = some x) (hk : k ≤ 1) : ((lvs (encLClaim xs)).drop (i)).take k = ((lvs [[.sl 4 (encClaim x)]]).drop 0).take k := by have := g_seg0 (r := fun x : List Claim => [.sl 4 (encClaim x)]) (n := 1) (fun _ => rfl) hx hk; rw [Nat.mul_one] at this; exact this
theorem encLClaim_put0 {xs ys : List (List Claim)} {i : Nat} {x x' : List Claim} {cs : List LV} (hx : xs[i]? = some x) (hy : ys = xs.set i x') (hj : cs.length ≤ 1) (he : setAt (lvs [[.sl 4 (encClaim x)]]) 0 cs = lvs [[.sl 4 (encClaim x')]]) : setAt (lvs (encLClaim xs)) (i) cs = lvs (encLClaim ys) := by have := g_put0 (r := fun x : List Claim => [.sl 4 (encClaim x)]) (n := 1) (fun _ => rfl) hx hy hj he; rw [Nat.mul_one] at this; exact this
theorem encLClaim_fit {xs : List (List Claim)} {i : Nat} {x : List Claim} (hx : xs[i]? = some x) {m : Nat} (hm : m ≤ 1) : i + m ≤ (lvs (encLClaim xs)).length := by have := g_fit (r := fun x : List Claim => [.sl 4 (encClaim x)]) (n := 1) (fun _ => rfl) hx hm; rw [Nat.mul_one] at this; exact this
theorem encLClaim_fitj {xs : List (List Claim)} {i j : Nat} {x : List Claim} (hx : xs[i]? = some x) {m : Nat} (hm : j + m ≤ 1) : i + j + m ≤ (lvs (encLClaim xs)).length := by rw [Nat.add_assoc]; exact encLClaim_fit hx hm
@[simp] theorem encLClaim_tk (l : List (List Claim)) : (encLClaim l).take l.length = encLClaim l := List.take_of_length_le (by simp)
theorem encLClaim_segl {l m : List (List Claim)} {a : Int} (h : segl l a = some m) : 0 ≤ a ∧ a.toNat ≤ l.length ∧ List.take (l.length - a.toNat) (List.drop a.toNat (encLClaim l)) = encLClaim m ∧ a ≤ (l.length : Int) := g_segl h
theorem encLClaim_segh {l m : List (List Claim)} {b : Int} (h : segh l b = some m) : 0 ≤ b ∧ b.toNat ≤ l.length ∧ List.take b.toNat (encLClaim l) = encLClaim m ∧ b ≤ (l.length : Int) := g_segh h
theorem encLClaim_seglh {l m : List (List Claim)} {a b : Int} (h : seglh l a b = some m) : 0 ≤ a ∧ 0 ≤ b ∧ a.toNat ≤ b.toNat ∧ b.toNat ≤ l.length ∧ List.take (b.toNat - a.toNat) (List.drop a.toNat (encLClaim l)) = encLClaim m ∧ a ≤ b ∧ b ≤ (l.length : Int) ∧ max a 0 ≤ b := g_seglh h
def encLI (l : List (List Int)) : List (List T) := l.map fun x => [.sl 1 (encI x)]
theorem lvs_encLI1 (x : (List Int)) : lvs (encLI [x]) = [.d false 1 (encI x)] := rfl
@[simp] theorem encLI_length (l : List (List Int)) : (encLI l).length = l.length := by simp [encLI]
@[simp high] theorem encLI_get (l : List (List Int)) (i : Nat) : (encLI l)[i]? = (l[i]?).map fun x => [.sl 1 (encI x)] := by simp [encLI]
@[simp] theorem encLI_nil : encLI [] = [] := rfl
theorem encLI_cons (x : (List Int)) (l : List (List Int)) : encLI (x :: l) = [.sl 1 (encI x)] :: encLI l := rfl
theorem encLI_append (l m : List (List Int)) : encLI (l ++ m) = encLI l ++ encLI m := by simp [encLI]
theorem encLI_take (l : List (List Int)) (n : Nat) : (encLI l).take n = encLI (l.take n) := by simp [encLI]
theorem encLI_drop (l : List (List Int)) (n : Nat) : (encLI l).drop n = encLI (l.drop n) := by simp [encLI]
theorem encLI_sz (l : List (List Int)) : ∀ e ∈ encLI l, e.length = 1 := by
  intro e h
  obtain ⟨x, _, rfl⟩ := List.mem_map.1 h
  rfl
@[simp] theorem encLI_eq_nil (l : List (List Int)) : (encLI l = []) = (l = []) := by simp [encLI]
theorem encLI_cell0 {xs : List (List Int)} {i : Nat} {x : List Int} (hx : xs[i]? = some x) : (lvs (encLI xs))[i]? = (lvs [[.sl 1 (encI x)]])[0]? := by have := g_cell0 (r := fun x : List Int => [.sl 1 (encI x)]) (n := 1) (fun _ => rfl) (by decide) hx; rw [Nat.mul_one] at this; exact this
theorem encLI_seg0 {xs : List (List Int)} {i k : Nat} {x : List Int} (hx : xs[i]? = some x) (hk : k ≤ 1) : ((lvs (encLI xs)).drop (i)).take k = ((lvs [[.sl 1 (encI x)]]).drop 0).take k := by have := g_seg0 (r := fun x : List Int => [.sl 1 (encI x)]) (n := 1) (fun _ => rfl) hx hk; rw [Nat.mul_one] at this; exact this
theorem encLI_put0 {xs ys : List (List Int)} {i : Nat} {x x' : List Int} {cs : List LV} (hx : xs[i]? = some x) (hy : ys = xs.set i x') (hj : cs.length ≤ 1) (he : setAt (lvs [[.sl 1 (encI x)]]) 0 cs = lvs [[.sl 1 (encI x')]]) : setAt (lvs (encLI xs)) (i) cs = lvs (encLI ys) := by have := g_put0 (r := fun x : List Int => [.sl 1 (encI x)]) (n := 1) (fun _ => rfl) hx hy hj he; rw [Nat.mul_one] at this; exact this
theorem encLI_fit {xs : List (List Int)} {i : Nat} {x : List Int} (hx : xs[i]? = some x) {m : Nat} (hm : m ≤ 1) : i + m ≤ (lvs (encLI xs)).length := by have := g_fit (r := fun x : List Int => [.sl 1 (encI x)]) (n := 1) (fun _ => rfl) hx hm; rw [Nat.mul_one] at this; exact this
theorem encLI_fitj {xs : List (List Int)} {i j : Nat} {x : List Int} (hx : xs[i]? = some x) {m : Nat} (hm : j + m ≤ 1) : i + j + m ≤ (lvs (encLI xs)).length := by rw [Nat.add_assoc]; exact encLI_fit hx hm
@[simp] theorem encLI_tk (l : List (List Int)) : (encLI l).take l.length = encLI l := List.take_of_length_le (by simp)
theorem encLI_segl {l m : List (List Int)} {a : Int} (h : segl l a = some m) : 0 ≤ a ∧ a.toNat ≤ l.length ∧ List.take (l.length - a.toNat) (List.drop a.toNat (encLI l)) = encLI m ∧ a ≤ (l.length : Int) := g_segl h
theorem encLI_segh {l m : List (List Int)} {b : Int} (h : segh l b = some m) : 0 ≤ b ∧ b.toNat ≤ l.length ∧ List.take b.toNat (encLI l) = encLI m ∧ b ≤ (l.length : Int) := g_segh h
theorem encLI_seglh {l m : List (List Int)} {a b : Int} (h : seglh l a b = some m) : 0 ≤ a ∧ 0 ≤ b ∧ a.toNat ≤ b.toNat ∧ b.toNat ≤ l.length ∧ List.take (b.toNat - a.toNat) (List.drop a.toNat (encLI l)) = encLI m ∧ a ≤ b ∧ b ≤ (l.length : Int) ∧ max a 0 ≤ b := g_seglh h
theorem encMsg_cell {xs : List Msg} {i j : Nat} {x : Msg} (hx : xs[i]? = some x) (hj : j < 15) : (lvs (encMsg xs))[i * 15 + j]? = (lvs [[.v (.int .i64 x.kind), .v (.int .i64 x.frm), .v (.int .i64 x.to), .v (.int .i64 x.epoch), .sl 4 (encClaim x.claims), .sl 1 (encI x.nodes), .v (.int .i64 x.node), .v (.int .i64 x.slot), .v (.int .i64 x.num), .v (.int .i64 x.rid.node), .v (.int .i64 x.rid.epoch), .v (.int .i64 x.prev.node), .v (.int .i64 x.prev.epoch), .v (.int .i64 x.off), .sl 7 (encEffect x.effects)]])[j]? := g_cell (r := fun x : Msg => [.v (.int .i64 x.kind), .v (.int .i64 x.frm), .v (.int .i64 x.to), .v (.int .i64 x.epoch), .sl 4 (encClaim x.claims), .sl 1 (encI x.nodes), .v (.int .i64 x.node), .v (.int .i64 x.slot), .v (.int .i64 x.num), .v (.int .i64 x.rid.node), .v (.int .i64 x.rid.epoch), .v (.int .i64 x.prev.node), .v (.int .i64 x.prev.epoch), .v (.int .i64 x.off), .sl 7 (encEffect x.effects)]) (fun _ => rfl) hx hj
theorem encMsg_cell0 {xs : List Msg} {i : Nat} {x : Msg} (hx : xs[i]? = some x) : (lvs (encMsg xs))[i * 15]? = (lvs [[.v (.int .i64 x.kind), .v (.int .i64 x.frm), .v (.int .i64 x.to), .v (.int .i64 x.epoch), .sl 4 (encClaim x.claims), .sl 1 (encI x.nodes), .v (.int .i64 x.node), .v (.int .i64 x.slot), .v (.int .i64 x.num), .v (.int .i64 x.rid.node), .v (.int .i64 x.rid.epoch), .v (.int .i64 x.prev.node), .v (.int .i64 x.prev.epoch), .v (.int .i64 x.off), .sl 7 (encEffect x.effects)]])[0]? := g_cell0 (r := fun x : Msg => [.v (.int .i64 x.kind), .v (.int .i64 x.frm), .v (.int .i64 x.to), .v (.int .i64 x.epoch), .sl 4 (encClaim x.claims), .sl 1 (encI x.nodes), .v (.int .i64 x.node), .v (.int .i64 x.slot), .v (.int .i64 x.num), .v (.int .i64 x.rid.node), .v (.int .i64 x.rid.epoch), .v (.int .i64 x.prev.node), .v (.int .i64 x.prev.epoch), .v (.int .i64 x.off), .sl 7 (encEffect x.effects)]) (fun _ => rfl) (by decide) hx
theorem encMsg_seg {xs : List Msg} {i j k : Nat} {x : Msg} (hx : xs[i]? = some x) (hjk : j + k ≤ 15) : ((lvs (encMsg xs)).drop (i * 15 + j)).take k = ((lvs [[.v (.int .i64 x.kind), .v (.int .i64 x.frm), .v (.int .i64 x.to), .v (.int .i64 x.epoch), .sl 4 (encClaim x.claims), .sl 1 (encI x.nodes), .v (.int .i64 x.node), .v (.int .i64 x.slot), .v (.int .i64 x.num), .v (.int .i64 x.rid.node), .v (.int .i64 x.rid.epoch), .v (.int .i64 x.prev.node), .v (.int .i64 x.prev.epoch), .v (.int .i64 x.off), .sl 7 (encEffect x.effects)]]).drop j).take k := g_seg (r := fun x : Msg => [.v (.int .i64 x.kind), .v (.int .i64 x.frm), .v (.int .i64 x.to), .v (.int .i64 x.epoch), .sl 4 (encClaim x.claims), .sl 1 (encI x.nodes), .v (.int .i64 x.node), .v (.int .i64 x.slot), .v (.int .i64 x.num), .v (.int .i64 x.rid.node), .v (.int .i64 x.rid.epoch), .v (.int .i64 x.prev.node), .v (.int .i64 x.prev.epoch), .v (.int .i64 x.off), .sl 7 (encEffect x.effects)]) (fun _ => rfl) hx hjk
theorem encMsg_seg0 {xs : List Msg} {i k : Nat} {x : Msg} (hx : xs[i]? = some x) (hk : k ≤ 15) : ((lvs (encMsg xs)).drop (i * 15)).take k = ((lvs [[.v (.int .i64 x.kind), .v (.int .i64 x.frm), .v (.int .i64 x.to), .v (.int .i64 x.epoch), .sl 4 (encClaim x.claims), .sl 1 (encI x.nodes), .v (.int .i64 x.node), .v (.int .i64 x.slot), .v (.int .i64 x.num), .v (.int .i64 x.rid.node), .v (.int .i64 x.rid.epoch), .v (.int .i64 x.prev.node), .v (.int .i64 x.prev.epoch), .v (.int .i64 x.off), .sl 7 (encEffect x.effects)]]).drop 0).take k := g_seg0 (r := fun x : Msg => [.v (.int .i64 x.kind), .v (.int .i64 x.frm), .v (.int .i64 x.to), .v (.int .i64 x.epoch), .sl 4 (encClaim x.claims), .sl 1 (encI x.nodes), .v (.int .i64 x.node), .v (.int .i64 x.slot), .v (.int .i64 x.num), .v (.int .i64 x.rid.node), .v (.int .i64 x.rid.epoch), .v (.int .i64 x.prev.node), .v (.int .i64 x.prev.epoch), .v (.int .i64 x.off), .sl 7 (encEffect x.effects)]) (fun _ => rfl) hx hk
theorem encMsg_put {xs ys : List Msg} {i j : Nat} {x x' : Msg} {cs : List LV} (hx : xs[i]? = some x) (hy : ys = xs.set i x') (hj : j + cs.length ≤ 15) (he : setAt (lvs [[.v (.int .i64 x.kind), .v (.int .i64 x.frm), .v (.int .i64 x.to), .v (.int .i64 x.epoch), .sl 4 (encClaim x.claims), .sl 1 (encI x.nodes), .v (.int .i64 x.node), .v (.int .i64 x.slot), .v (.int .i64 x.num), .v (.int .i64 x.rid.node), .v (.int .i64 x.rid.epoch), .v (.int .i64 x.prev.node), .v (.int .i64 x.prev.epoch), .v (.int .i64 x.off), .sl 7 (encEffect x.effects)]]) j cs = lvs [[.v (.int .i64 x'.kind), .v (.int .i64 x'.frm), .v (.int .i64 x'.to), .v (.int .i64 x'.epoch), .sl 4 (encClaim x'.claims), .sl 1 (encI x'.nodes), .v (.int .i64 x'.node), .v (.int .i64 x'.slot), .v (.int .i64 x'.num), .v (.int .i64 x'.rid.node), .v (.int .i64 x'.rid.epoch), .v (.int .i64 x'.prev.node), .v (.int .i64 x'.prev.epoch), .v (.int .i64 x'.off), .sl 7 (encEffect x'.effects)]]) : setAt (lvs (encMsg xs)) (i * 15 + j) cs = lvs (encMsg ys) := g_put (r := fun x : Msg => [.v (.int .i64 x.kind), .v (.int .i64 x.frm), .v (.int .i64 x.to), .v (.int .i64 x.epoch), .sl 4 (encClaim x.claims), .sl 1 (encI x.nodes), .v (.int .i64 x.node), .v (.int .i64 x.slot), .v (.int .i64 x.num), .v (.int .i64 x.rid.node), .v (.int .i64 x.rid.epoch), .v (.int .i64 x.prev.node), .v (.int .i64 x.prev.epoch), .v (.int .i64 x.off), .sl 7 (encEffect x.effects)]) (fun _ => rfl) hx hy hj he
theorem encMsg_put0 {xs ys : List Msg} {i : Nat} {x x' : Msg} {cs : List LV} (hx : xs[i]? = some x) (hy : ys = xs.set i x') (hj : cs.length ≤ 15) (he : setAt (lvs [[.v (.int .i64 x.kind), .v (.int .i64 x.frm), .v (.int .i64 x.to), .v (.int .i64 x.epoch), .sl 4 (encClaim x.claims), .sl 1 (encI x.nodes), .v (.int .i64 x.node), .v (.int .i64 x.slot), .v (.int .i64 x.num), .v (.int .i64 x.rid.node), .v (.int .i64 x.rid.epoch), .v (.int .i64 x.prev.node), .v (.int .i64 x.prev.epoch), .v (.int .i64 x.off), .sl 7 (encEffect x.effects)]]) 0 cs = lvs [[.v (.int .i64 x'.kind), .v (.int .i64 x'.frm), .v (.int .i64 x'.to), .v (.int .i64 x'.epoch), .sl 4 (encClaim x'.claims), .sl 1 (encI x'.nodes), .v (.int .i64 x'.node), .v (.int .i64 x'.slot), .v (.int .i64 x'.num), .v (.int .i64 x'.rid.node), .v (.int .i64 x'.rid.epoch), .v (.int .i64 x'.prev.node), .v (.int .i64 x'.prev.epoch), .v (.int .i64 x'.off), .sl 7 (encEffect x'.effects)]]) : setAt (lvs (encMsg xs)) (i * 15) cs = lvs (encMsg ys) := g_put0 (r := fun x : Msg => [.v (.int .i64 x.kind), .v (.int .i64 x.frm), .v (.int .i64 x.to), .v (.int .i64 x.epoch), .sl 4 (encClaim x.claims), .sl 1 (encI x.nodes), .v (.int .i64 x.node), .v (.int .i64 x.slot), .v (.int .i64 x.num), .v (.int .i64 x.rid.node), .v (.int .i64 x.rid.epoch), .v (.int .i64 x.prev.node), .v (.int .i64 x.prev.epoch), .v (.int .i64 x.off), .sl 7 (encEffect x.effects)]) (fun _ => rfl) hx hy hj he
theorem encMsg_fit {xs : List Msg} {i : Nat} {x : Msg} (hx : xs[i]? = some x) {m : Nat} (hm : m ≤ 15) : i * 15 + m ≤ (lvs (encMsg xs)).length := g_fit (r := fun x : Msg => [.v (.int .i64 x.kind), .v (.int .i64 x.frm), .v (.int .i64 x.to), .v (.int .i64 x.epoch), .sl 4 (encClaim x.claims), .sl 1 (encI x.nodes), .v (.int .i64 x.node), .v (.int .i64 x.slot), .v (.int .i64 x.num), .v (.int .i64 x.rid.node), .v (.int .i64 x.rid.epoch), .v (.int .i64 x.prev.node), .v (.int .i64 x.prev.epoch), .v (.int .i64 x.off), .sl 7 (encEffect x.effects)]) (fun _ => rfl) hx hm
theorem encMsg_fitj {xs : List Msg} {i j : Nat} {x : Msg} (hx : xs[i]? = some x) {m : Nat} (hm : j + m ≤ 15) : i * 15 + j + m ≤ (lvs (encMsg xs)).length := by rw [Nat.add_assoc]; exact encMsg_fit hx hm
@[simp] theorem encMsg_tk (l : List Msg) : (encMsg l).take l.length = encMsg l := List.take_of_length_le (by simp)
theorem encMsg_segl {l m : List Msg} {a : Int} (h : segl l a = some m) : 0 ≤ a ∧ a.toNat ≤ l.length ∧ List.take (l.length - a.toNat) (List.drop a.toNat (encMsg l)) = encMsg m ∧ a ≤ (l.length : Int) := g_segl h
theorem encMsg_segh {l m : List Msg} {b : Int} (h : segh l b = some m) : 0 ≤ b ∧ b.toNat ≤ l.length ∧ List.take b.toNat (encMsg l) = encMsg m ∧ b ≤ (l.length : Int) := g_segh h
theorem encMsg_seglh {l m : List Msg} {a b : Int} (h : seglh l a b = some m) : 0 ≤ a ∧ 0 ≤ b ∧ a.toNat ≤ b.toNat ∧ b.toNat ≤ l.length ∧ List.take (b.toNat - a.toNat) (List.drop a.toNat (encMsg l)) = encMsg m ∧ a ≤ b ∧ b ≤ (l.length : Int) ∧ max a 0 ≤ b := g_seglh h
def encLPair (l : List (List Pair)) : List (List T) := l.map fun x => [.sl 6 (encPair x)]
theorem lvs_encLPair1 (x : (List Pair)) : lvs (encLPair [x]) = [.d false 6 (encPair x)] := rfl
@[simp] theorem encLPair_length (l : List (List Pair)) : (encLPair l).length = l.length := by simp [encLPair]
@[simp high] theorem encLPair_get (l : List (List Pair)) (i : Nat) : (encLPair l)[i]? = (l[i]?).map fun x => [.sl 6 (encPair x)] := by simp [encLPair]
@[simp] theorem encLPair_nil : encLPair [] = [] := rfl
theorem encLPair_cons (x : (List Pair)) (l : List (List Pair)) : encLPair (x :: l) = [.sl 6 (encPair x)] :: encLPair l := rfl
theorem encLPair_append (l m : List (List Pair)) : encLPair (l ++ m) = encLPair l ++ encLPair m := by simp [encLPair]
theorem encLPair_take (l : List (List Pair)) (n : Nat) : (encLPair l).take n = encLPair (l.take n) := by simp [encLPair]
theorem encLPair_drop (l : List (List Pair)) (n : Nat) : (encLPair l).drop n = encLPair (l.drop n) := by simp [encLPair]
theorem encLPair_sz (l : List (List Pair)) : ∀ e ∈ encLPair l, e.length = 1 := by
  intro e h
  obtain ⟨x, _, rfl⟩ := List.mem_map.1 h
  rfl
@[simp] theorem encLPair_eq_nil (l : List (List Pair)) : (encLPair l = []) = (l = []) := by simp [encLPair]
theorem encLPair_cell0 {xs : List (List Pair)} {i : Nat} {x : List Pair} (hx : xs[i]? = some x) : (lvs (encLPair xs))[i]? = (lvs [[.sl 6 (encPair x)]])[0]? := by have := g_cell0 (r := fun x : List Pair => [.sl 6 (encPair x)]) (n := 1) (fun _ => rfl) (by decide) hx; rw [Nat.mul_one] at this; exact this
theorem encLPair_seg0 {xs : List (List Pair)} {i k : Nat} {x : List Pair} (hx : xs[i]? = some x) (hk : k ≤ 1) : ((lvs (encLPair xs)).drop (i)).take k = ((lvs [[.sl 6 (encPair x)]]).drop 0).take k := by have := g_seg0 (r := fun x : List Pair => [.sl 6 (encPair x)]) (n := 1) (fun _ => rfl) hx hk; rw [Nat.mul_one] at this; exact this
theorem encLPair_put0 {xs ys : List (List Pair)} {i : Nat} {x x' : List Pair} {cs : List LV} (hx : xs[i]? = some x) (hy : ys = xs.set i x') (hj : cs.length ≤ 1) (he : setAt (lvs [[.sl 6 (encPair x)]]) 0 cs = lvs [[.sl 6 (encPair x')]]) : setAt (lvs (encLPair xs)) (i) cs = lvs (encLPair ys) := by have := g_put0 (r := fun x : List Pair => [.sl 6 (encPair x)]) (n := 1) (fun _ => rfl) hx hy hj he; rw [Nat.mul_one] at this; exact this
theorem encLPair_fit {xs : List (List Pair)} {i : Nat} {x : List Pair} (hx : xs[i]? = some x) {m : Nat} (hm : m ≤ 1) : i + m ≤ (lvs (encLPair xs)).length := by have := g_fit (r := fun x : List Pair => [.sl 6 (encPair x)]) (n := 1) (fun _ => rfl) hx hm; rw [Nat.mul_one] at this; exact this
theorem encLPair_fitj {xs : List (List Pair)} {i j : Nat} {x : List Pair} (hx : xs[i]? = some x) {m : Nat} (hm : j + m ≤ 1) : i + j + m ≤ (lvs (encLPair xs)).length := by rw [Nat.add_assoc]; exact encLPair_fit hx hm
@[simp] theorem encLPair_tk (l : List (List Pair)) : (encLPair l).take l.length = encLPair l := List.take_of_length_le (by simp)
theorem encLPair_segl {l m : List (List Pair)} {a : Int} (h : segl l a = some m) : 0 ≤ a ∧ a.toNat ≤ l.length ∧ List.take (l.length - a.toNat) (List.drop a.toNat (encLPair l)) = encLPair m ∧ a ≤ (l.length : Int) := g_segl h
theorem encLPair_segh {l m : List (List Pair)} {b : Int} (h : segh l b = some m) : 0 ≤ b ∧ b.toNat ≤ l.length ∧ List.take b.toNat (encLPair l) = encLPair m ∧ b ≤ (l.length : Int) := g_segh h
theorem encLPair_seglh {l m : List (List Pair)} {a b : Int} (h : seglh l a b = some m) : 0 ≤ a ∧ 0 ≤ b ∧ a.toNat ≤ b.toNat ∧ b.toNat ≤ l.length ∧ List.take (b.toNat - a.toNat) (List.drop a.toNat (encLPair l)) = encLPair m ∧ a ≤ b ∧ b ≤ (l.length : Int) ∧ max a 0 ≤ b := g_seglh h
structure R13Fed where
  f : Feed
  db : List Pair
  is : Bool
deriving DecidableEq, Inhabited
attribute [ext] R13Fed
def encR13Fed (l : List R13Fed) : List (List T) := l.map fun x => [.v (.int .i64 x.f.rid.node), .v (.int .i64 x.f.rid.epoch), .v (.int .i64 x.f.off), .sl 7 (encEffect x.f.back), .v (.int .i64 x.f.prev.node), .v (.int .i64 x.f.prev.epoch), .v (.int .i64 x.f.upto), .sl 6 (encPair x.db), .v (.bool x.is)]
theorem lvs_encR13Fed1 (x : R13Fed) : lvs (encR13Fed [x]) = [.s (.int .i64 x.f.rid.node), .s (.int .i64 x.f.rid.epoch), .s (.int .i64 x.f.off), .d false 7 (encEffect x.f.back), .s (.int .i64 x.f.prev.node), .s (.int .i64 x.f.prev.epoch), .s (.int .i64 x.f.upto), .d false 6 (encPair x.db), .s (.bool x.is)] := rfl
@[simp] theorem encR13Fed_length (l : List R13Fed) : (encR13Fed l).length = l.length := by simp [encR13Fed]
@[simp high] theorem encR13Fed_get (l : List R13Fed) (i : Nat) : (encR13Fed l)[i]? = (l[i]?).map fun x => [.v (.int .i64 x.f.rid.node), .v (.int .i64 x.f.rid.epoch), .v (.int .i64 x.f.off), .sl 7 (encEffect x.f.back), .v (.int .i64 x.f.prev.node), .v (.int .i64 x.f.prev.epoch), .v (.int .i64 x.f.upto), .sl 6 (encPair x.db), .v (.bool x.is)] := by simp [encR13Fed]
@[simp] theorem encR13Fed_nil : encR13Fed [] = [] := rfl
theorem encR13Fed_cons (x : R13Fed) (l : List R13Fed) : encR13Fed (x :: l) = [.v (.int .i64 x.f.rid.node), .v (.int .i64 x.f.rid.epoch), .v (.int .i64 x.f.off), .sl 7 (encEffect x.f.back), .v (.int .i64 x.f.prev.node), .v (.int .i64 x.f.prev.epoch), .v (.int .i64 x.f.upto), .sl 6 (encPair x.db), .v (.bool x.is)] :: encR13Fed l := rfl
theorem encR13Fed_append (l m : List R13Fed) : encR13Fed (l ++ m) = encR13Fed l ++ encR13Fed m := by simp [encR13Fed]
theorem encR13Fed_take (l : List R13Fed) (n : Nat) : (encR13Fed l).take n = encR13Fed (l.take n) := by simp [encR13Fed]
theorem encR13Fed_drop (l : List R13Fed) (n : Nat) : (encR13Fed l).drop n = encR13Fed (l.drop n) := by simp [encR13Fed]
theorem encR13Fed_sz (l : List R13Fed) : ∀ e ∈ encR13Fed l, e.length = 9 := by
  intro e h
  obtain ⟨x, _, rfl⟩ := List.mem_map.1 h
  rfl
@[simp] theorem encR13Fed_eq_nil (l : List R13Fed) : (encR13Fed l = []) = (l = []) := by simp [encR13Fed]
theorem encR13Fed_cell {xs : List R13Fed} {i j : Nat} {x : R13Fed} (hx : xs[i]? = some x) (hj : j < 9) : (lvs (encR13Fed xs))[i * 9 + j]? = (lvs [[.v (.int .i64 x.f.rid.node), .v (.int .i64 x.f.rid.epoch), .v (.int .i64 x.f.off), .sl 7 (encEffect x.f.back), .v (.int .i64 x.f.prev.node), .v (.int .i64 x.f.prev.epoch), .v (.int .i64 x.f.upto), .sl 6 (encPair x.db), .v (.bool x.is)]])[j]? := g_cell (r := fun x : R13Fed => [.v (.int .i64 x.f.rid.node), .v (.int .i64 x.f.rid.epoch), .v (.int .i64 x.f.off), .sl 7 (encEffect x.f.back), .v (.int .i64 x.f.prev.node), .v (.int .i64 x.f.prev.epoch), .v (.int .i64 x.f.upto), .sl 6 (encPair x.db), .v (.bool x.is)]) (fun _ => rfl) hx hj
theorem encR13Fed_cell0 {xs : List R13Fed} {i : Nat} {x : R13Fed} (hx : xs[i]? = some x) : (lvs (encR13Fed xs))[i * 9]? = (lvs [[.v (.int .i64 x.f.rid.node), .v (.int .i64 x.f.rid.epoch), .v (.int .i64 x.f.off), .sl 7 (encEffect x.f.back), .v (.int .i64 x.f.prev.node), .v (.int .i64 x.f.prev.epoch), .v (.int .i64 x.f.upto), .sl 6 (encPair x.db), .v (.bool x.is)]])[0]? := g_cell0 (r := fun x : R13Fed => [.v (.int .i64 x.f.rid.node), .v (.int .i64 x.f.rid.epoch), .v (.int .i64 x.f.off), .sl 7 (encEffect x.f.back), .v (.int .i64 x.f.prev.node), .v (.int .i64 x.f.prev.epoch), .v (.int .i64 x.f.upto), .sl 6 (encPair x.db), .v (.bool x.is)]) (fun _ => rfl) (by decide) hx
theorem encR13Fed_seg {xs : List R13Fed} {i j k : Nat} {x : R13Fed} (hx : xs[i]? = some x) (hjk : j + k ≤ 9) : ((lvs (encR13Fed xs)).drop (i * 9 + j)).take k = ((lvs [[.v (.int .i64 x.f.rid.node), .v (.int .i64 x.f.rid.epoch), .v (.int .i64 x.f.off), .sl 7 (encEffect x.f.back), .v (.int .i64 x.f.prev.node), .v (.int .i64 x.f.prev.epoch), .v (.int .i64 x.f.upto), .sl 6 (encPair x.db), .v (.bool x.is)]]).drop j).take k := g_seg (r := fun x : R13Fed => [.v (.int .i64 x.f.rid.node), .v (.int .i64 x.f.rid.epoch), .v (.int .i64 x.f.off), .sl 7 (encEffect x.f.back), .v (.int .i64 x.f.prev.node), .v (.int .i64 x.f.prev.epoch), .v (.int .i64 x.f.upto), .sl 6 (encPair x.db), .v (.bool x.is)]) (fun _ => rfl) hx hjk
theorem encR13Fed_seg0 {xs : List R13Fed} {i k : Nat} {x : R13Fed} (hx : xs[i]? = some x) (hk : k ≤ 9) : ((lvs (encR13Fed xs)).drop (i * 9)).take k = ((lvs [[.v (.int .i64 x.f.rid.node), .v (.int .i64 x.f.rid.epoch), .v (.int .i64 x.f.off), .sl 7 (encEffect x.f.back), .v (.int .i64 x.f.prev.node), .v (.int .i64 x.f.prev.epoch), .v (.int .i64 x.f.upto), .sl 6 (encPair x.db), .v (.bool x.is)]]).drop 0).take k := g_seg0 (r := fun x : R13Fed => [.v (.int .i64 x.f.rid.node), .v (.int .i64 x.f.rid.epoch), .v (.int .i64 x.f.off), .sl 7 (encEffect x.f.back), .v (.int .i64 x.f.prev.node), .v (.int .i64 x.f.prev.epoch), .v (.int .i64 x.f.upto), .sl 6 (encPair x.db), .v (.bool x.is)]) (fun _ => rfl) hx hk
theorem encR13Fed_put {xs ys : List R13Fed} {i j : Nat} {x x' : R13Fed} {cs : List LV} (hx : xs[i]? = some x) (hy : ys = xs.set i x') (hj : j + cs.length ≤ 9) (he : setAt (lvs [[.v (.int .i64 x.f.rid.node), .v (.int .i64 x.f.rid.epoch), .v (.int .i64 x.f.off), .sl 7 (encEffect x.f.back), .v (.int .i64 x.f.prev.node), .v (.int .i64 x.f.prev.epoch), .v (.int .i64 x.f.upto), .sl 6 (encPair x.db), .v (.bool x.is)]]) j cs = lvs [[.v (.int .i64 x'.f.rid.node), .v (.int .i64 x'.f.rid.epoch), .v (.int .i64 x'.f.off), .sl 7 (encEffect x'.f.back), .v (.int .i64 x'.f.prev.node), .v (.int .i64 x'.f.prev.epoch), .v (.int .i64 x'.f.upto), .sl 6 (encPair x'.db), .v (.bool x'.is)]]) : setAt (lvs (encR13Fed xs)) (i * 9 + j) cs = lvs (encR13Fed ys) := g_put (r := fun x : R13Fed => [.v (.int .i64 x.f.rid.node), .v (.int .i64 x.f.rid.epoch), .v (.int .i64 x.f.off), .sl 7 (encEffect x.f.back), .v (.int .i64 x.f.prev.node), .v (.int .i64 x.f.prev.epoch), .v (.int .i64 x.f.upto), .sl 6 (encPair x.db), .v (.bool x.is)]) (fun _ => rfl) hx hy hj he
theorem encR13Fed_put0 {xs ys : List R13Fed} {i : Nat} {x x' : R13Fed} {cs : List LV} (hx : xs[i]? = some x) (hy : ys = xs.set i x') (hj : cs.length ≤ 9) (he : setAt (lvs [[.v (.int .i64 x.f.rid.node), .v (.int .i64 x.f.rid.epoch), .v (.int .i64 x.f.off), .sl 7 (encEffect x.f.back), .v (.int .i64 x.f.prev.node), .v (.int .i64 x.f.prev.epoch), .v (.int .i64 x.f.upto), .sl 6 (encPair x.db), .v (.bool x.is)]]) 0 cs = lvs [[.v (.int .i64 x'.f.rid.node), .v (.int .i64 x'.f.rid.epoch), .v (.int .i64 x'.f.off), .sl 7 (encEffect x'.f.back), .v (.int .i64 x'.f.prev.node), .v (.int .i64 x'.f.prev.epoch), .v (.int .i64 x'.f.upto), .sl 6 (encPair x'.db), .v (.bool x'.is)]]) : setAt (lvs (encR13Fed xs)) (i * 9) cs = lvs (encR13Fed ys) := g_put0 (r := fun x : R13Fed => [.v (.int .i64 x.f.rid.node), .v (.int .i64 x.f.rid.epoch), .v (.int .i64 x.f.off), .sl 7 (encEffect x.f.back), .v (.int .i64 x.f.prev.node), .v (.int .i64 x.f.prev.epoch), .v (.int .i64 x.f.upto), .sl 6 (encPair x.db), .v (.bool x.is)]) (fun _ => rfl) hx hy hj he
theorem encR13Fed_fit {xs : List R13Fed} {i : Nat} {x : R13Fed} (hx : xs[i]? = some x) {m : Nat} (hm : m ≤ 9) : i * 9 + m ≤ (lvs (encR13Fed xs)).length := g_fit (r := fun x : R13Fed => [.v (.int .i64 x.f.rid.node), .v (.int .i64 x.f.rid.epoch), .v (.int .i64 x.f.off), .sl 7 (encEffect x.f.back), .v (.int .i64 x.f.prev.node), .v (.int .i64 x.f.prev.epoch), .v (.int .i64 x.f.upto), .sl 6 (encPair x.db), .v (.bool x.is)]) (fun _ => rfl) hx hm
theorem encR13Fed_fitj {xs : List R13Fed} {i j : Nat} {x : R13Fed} (hx : xs[i]? = some x) {m : Nat} (hm : j + m ≤ 9) : i * 9 + j + m ≤ (lvs (encR13Fed xs)).length := by rw [Nat.add_assoc]; exact encR13Fed_fit hx hm
@[simp] theorem encR13Fed_tk (l : List R13Fed) : (encR13Fed l).take l.length = encR13Fed l := List.take_of_length_le (by simp)
theorem encR13Fed_segl {l m : List R13Fed} {a : Int} (h : segl l a = some m) : 0 ≤ a ∧ a.toNat ≤ l.length ∧ List.take (l.length - a.toNat) (List.drop a.toNat (encR13Fed l)) = encR13Fed m ∧ a ≤ (l.length : Int) := g_segl h
theorem encR13Fed_segh {l m : List R13Fed} {b : Int} (h : segh l b = some m) : 0 ≤ b ∧ b.toNat ≤ l.length ∧ List.take b.toNat (encR13Fed l) = encR13Fed m ∧ b ≤ (l.length : Int) := g_segh h
theorem encR13Fed_seglh {l m : List R13Fed} {a b : Int} (h : seglh l a b = some m) : 0 ≤ a ∧ 0 ≤ b ∧ a.toNat ≤ b.toNat ∧ b.toNat ≤ l.length ∧ List.take (b.toNat - a.toNat) (List.drop a.toNat (encR13Fed l)) = encR13Fed m ∧ a ≤ b ∧ b ≤ (l.length : Int) ∧ max a 0 ≤ b := g_seglh h
structure R5Got where
  i : Item
  ok : Bool
deriving DecidableEq, Inhabited
attribute [ext] R5Got
def encR5Got (l : List R5Got) : List (List T) := l.map fun x => [.v (.int .i64 x.i.kind), .v (.string x.i.s), .sl 2 (encField x.i.f), .sl 1 (encS x.i.l), .v (.int .i64 x.i.exp), .v (.bool x.ok)]
theorem lvs_encR5Got1 (x : R5Got) : lvs (encR5Got [x]) = [.s (.int .i64 x.i.kind), .s (.string x.i.s), .d false 2 (encField x.i.f), .d false 1 (encS x.i.l), .s (.int .i64 x.i.exp), .s (.bool x.ok)] := rfl
@[simp] theorem encR5Got_length (l : List R5Got) : (encR5Got l).length = l.length := by simp [encR5Got]
@[simp high] theorem encR5Got_get (l : List R5Got) (i : Nat) : (encR5Got l)[i]? = (l[i]?).map fun x => [.v (.int .i64 x.i.kind), .v (.string x.i.s), .sl 2 (encField x.i.f), .sl 1 (encS x.i.l), .v (.int .i64 x.i.exp), .v (.bool x.ok)] := by simp [encR5Got]
@[simp] theorem encR5Got_nil : encR5Got [] = [] := rfl
theorem encR5Got_cons (x : R5Got) (l : List R5Got) : encR5Got (x :: l) = [.v (.int .i64 x.i.kind), .v (.string x.i.s), .sl 2 (encField x.i.f), .sl 1 (encS x.i.l), .v (.int .i64 x.i.exp), .v (.bool x.ok)] :: encR5Got l := rfl
theorem encR5Got_append (l m : List R5Got) : encR5Got (l ++ m) = encR5Got l ++ encR5Got m := by simp [encR5Got]
theorem encR5Got_take (l : List R5Got) (n : Nat) : (encR5Got l).take n = encR5Got (l.take n) := by simp [encR5Got]
theorem encR5Got_drop (l : List R5Got) (n : Nat) : (encR5Got l).drop n = encR5Got (l.drop n) := by simp [encR5Got]
theorem encR5Got_sz (l : List R5Got) : ∀ e ∈ encR5Got l, e.length = 6 := by
  intro e h
  obtain ⟨x, _, rfl⟩ := List.mem_map.1 h
  rfl
@[simp] theorem encR5Got_eq_nil (l : List R5Got) : (encR5Got l = []) = (l = []) := by simp [encR5Got]
theorem encR5Got_cell {xs : List R5Got} {i j : Nat} {x : R5Got} (hx : xs[i]? = some x) (hj : j < 6) : (lvs (encR5Got xs))[i * 6 + j]? = (lvs [[.v (.int .i64 x.i.kind), .v (.string x.i.s), .sl 2 (encField x.i.f), .sl 1 (encS x.i.l), .v (.int .i64 x.i.exp), .v (.bool x.ok)]])[j]? := g_cell (r := fun x : R5Got => [.v (.int .i64 x.i.kind), .v (.string x.i.s), .sl 2 (encField x.i.f), .sl 1 (encS x.i.l), .v (.int .i64 x.i.exp), .v (.bool x.ok)]) (fun _ => rfl) hx hj
theorem encR5Got_cell0 {xs : List R5Got} {i : Nat} {x : R5Got} (hx : xs[i]? = some x) : (lvs (encR5Got xs))[i * 6]? = (lvs [[.v (.int .i64 x.i.kind), .v (.string x.i.s), .sl 2 (encField x.i.f), .sl 1 (encS x.i.l), .v (.int .i64 x.i.exp), .v (.bool x.ok)]])[0]? := g_cell0 (r := fun x : R5Got => [.v (.int .i64 x.i.kind), .v (.string x.i.s), .sl 2 (encField x.i.f), .sl 1 (encS x.i.l), .v (.int .i64 x.i.exp), .v (.bool x.ok)]) (fun _ => rfl) (by decide) hx
theorem encR5Got_seg {xs : List R5Got} {i j k : Nat} {x : R5Got} (hx : xs[i]? = some x) (hjk : j + k ≤ 6) : ((lvs (encR5Got xs)).drop (i * 6 + j)).take k = ((lvs [[.v (.int .i64 x.i.kind), .v (.string x.i.s), .sl 2 (encField x.i.f), .sl 1 (encS x.i.l), .v (.int .i64 x.i.exp), .v (.bool x.ok)]]).drop j).take k := g_seg (r := fun x : R5Got => [.v (.int .i64 x.i.kind), .v (.string x.i.s), .sl 2 (encField x.i.f), .sl 1 (encS x.i.l), .v (.int .i64 x.i.exp), .v (.bool x.ok)]) (fun _ => rfl) hx hjk
theorem encR5Got_seg0 {xs : List R5Got} {i k : Nat} {x : R5Got} (hx : xs[i]? = some x) (hk : k ≤ 6) : ((lvs (encR5Got xs)).drop (i * 6)).take k = ((lvs [[.v (.int .i64 x.i.kind), .v (.string x.i.s), .sl 2 (encField x.i.f), .sl 1 (encS x.i.l), .v (.int .i64 x.i.exp), .v (.bool x.ok)]]).drop 0).take k := g_seg0 (r := fun x : R5Got => [.v (.int .i64 x.i.kind), .v (.string x.i.s), .sl 2 (encField x.i.f), .sl 1 (encS x.i.l), .v (.int .i64 x.i.exp), .v (.bool x.ok)]) (fun _ => rfl) hx hk
theorem encR5Got_put {xs ys : List R5Got} {i j : Nat} {x x' : R5Got} {cs : List LV} (hx : xs[i]? = some x) (hy : ys = xs.set i x') (hj : j + cs.length ≤ 6) (he : setAt (lvs [[.v (.int .i64 x.i.kind), .v (.string x.i.s), .sl 2 (encField x.i.f), .sl 1 (encS x.i.l), .v (.int .i64 x.i.exp), .v (.bool x.ok)]]) j cs = lvs [[.v (.int .i64 x'.i.kind), .v (.string x'.i.s), .sl 2 (encField x'.i.f), .sl 1 (encS x'.i.l), .v (.int .i64 x'.i.exp), .v (.bool x'.ok)]]) : setAt (lvs (encR5Got xs)) (i * 6 + j) cs = lvs (encR5Got ys) := g_put (r := fun x : R5Got => [.v (.int .i64 x.i.kind), .v (.string x.i.s), .sl 2 (encField x.i.f), .sl 1 (encS x.i.l), .v (.int .i64 x.i.exp), .v (.bool x.ok)]) (fun _ => rfl) hx hy hj he
theorem encR5Got_put0 {xs ys : List R5Got} {i : Nat} {x x' : R5Got} {cs : List LV} (hx : xs[i]? = some x) (hy : ys = xs.set i x') (hj : cs.length ≤ 6) (he : setAt (lvs [[.v (.int .i64 x.i.kind), .v (.string x.i.s), .sl 2 (encField x.i.f), .sl 1 (encS x.i.l), .v (.int .i64 x.i.exp), .v (.bool x.ok)]]) 0 cs = lvs [[.v (.int .i64 x'.i.kind), .v (.string x'.i.s), .sl 2 (encField x'.i.f), .sl 1 (encS x'.i.l), .v (.int .i64 x'.i.exp), .v (.bool x'.ok)]]) : setAt (lvs (encR5Got xs)) (i * 6) cs = lvs (encR5Got ys) := g_put0 (r := fun x : R5Got => [.v (.int .i64 x.i.kind), .v (.string x.i.s), .sl 2 (encField x.i.f), .sl 1 (encS x.i.l), .v (.int .i64 x.i.exp), .v (.bool x.ok)]) (fun _ => rfl) hx hy hj he
theorem encR5Got_fit {xs : List R5Got} {i : Nat} {x : R5Got} (hx : xs[i]? = some x) {m : Nat} (hm : m ≤ 6) : i * 6 + m ≤ (lvs (encR5Got xs)).length := g_fit (r := fun x : R5Got => [.v (.int .i64 x.i.kind), .v (.string x.i.s), .sl 2 (encField x.i.f), .sl 1 (encS x.i.l), .v (.int .i64 x.i.exp), .v (.bool x.ok)]) (fun _ => rfl) hx hm
theorem encR5Got_fitj {xs : List R5Got} {i j : Nat} {x : R5Got} (hx : xs[i]? = some x) {m : Nat} (hm : j + m ≤ 6) : i * 6 + j + m ≤ (lvs (encR5Got xs)).length := by rw [Nat.add_assoc]; exact encR5Got_fit hx hm
@[simp] theorem encR5Got_tk (l : List R5Got) : (encR5Got l).take l.length = encR5Got l := List.take_of_length_le (by simp)
theorem encR5Got_segl {l m : List R5Got} {a : Int} (h : segl l a = some m) : 0 ≤ a ∧ a.toNat ≤ l.length ∧ List.take (l.length - a.toNat) (List.drop a.toNat (encR5Got l)) = encR5Got m ∧ a ≤ (l.length : Int) := g_segl h
theorem encR5Got_segh {l m : List R5Got} {b : Int} (h : segh l b = some m) : 0 ≤ b ∧ b.toNat ≤ l.length ∧ List.take b.toNat (encR5Got l) = encR5Got m ∧ b ≤ (l.length : Int) := g_segh h
theorem encR5Got_seglh {l m : List R5Got} {a b : Int} (h : seglh l a b = some m) : 0 ≤ a ∧ 0 ≤ b ∧ a.toNat ≤ b.toNat ∧ b.toNat ≤ l.length ∧ List.take (b.toNat - a.toNat) (List.drop a.toNat (encR5Got l)) = encR5Got m ∧ a ≤ b ∧ b ≤ (l.length : Int) ∧ max a 0 ≤ b := g_seglh h
end Go.Proofs.Ytlkhfdccapkcdaa
