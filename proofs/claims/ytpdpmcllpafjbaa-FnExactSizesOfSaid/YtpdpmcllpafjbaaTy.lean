/- The types of this seat, as the walk over abstract values asks for them. -/
import Derived.Test.YtpdpmcllpafjbaaProg
import Derived.Test.YtpdpmcllpafjbaaVc
namespace Go.Proofs.Ytpdpmcllpafjbaa
open Go.RowKit
set_option maxRecDepth 100000
theorem ty_tg1 : tagg Try.prog 1 = some (false, 1) := by kernel_rfl
theorem ty_tg2 : tagg Try.prog 2 = some (false, 1) := by kernel_rfl
theorem ty_sz2 : tsz Try.prog 2 = some 1 := by kernel_rfl
theorem ty_in2 : tinfo Try.prog 2 = some (.int .i64 0, 1, 8) := by kernel_rfl
theorem ty_tg3 : tagg Try.prog 3 = some (false, 1) := by kernel_rfl
theorem ty_sz3 : tsz Try.prog 3 = some 1 := by kernel_rfl
theorem ty_in3 : tinfo Try.prog 3 = some (.int .i64 0, 1, 8) := by kernel_rfl
theorem ty_tg4 : tagg Try.prog 4 = some (false, 1) := by kernel_rfl
theorem ty_sz4 : tsz Try.prog 4 = some 1 := by kernel_rfl
theorem ty_in4 : tinfo Try.prog 4 = some (.bool false, 1, 1) := by kernel_rfl
theorem ty_tg5 : tagg Try.prog 5 = some (false, 1) := by kernel_rfl
theorem ty_sz5 : tsz Try.prog 5 = some 1 := by kernel_rfl
theorem ty_in5 : tinfo Try.prog 5 = some (.int .u8 0, 1, 1) := by kernel_rfl
theorem ty_tg9 : tagg Try.prog 9 = some (false, 1) := by kernel_rfl
theorem ty_sz9 : tsz Try.prog 9 = some 1 := by kernel_rfl
theorem ty_in9 : tinfo Try.prog 9 = some (.string ⟨#[]⟩, 1, 16) := by kernel_rfl
theorem ty_tg18 : tagg Try.prog 18 = some (true, 1) := by kernel_rfl
theorem ty_sz18 : tsz Try.prog 18 = some 1 := by kernel_rfl
theorem ty_in18 : tinfo Try.prog 18 = some (.agg #[.pointer none], 1, 8) := by kernel_rfl
theorem ty_pl18 : tpl Try.prog 18 = some [(0, 1)] := by kernel_rfl
theorem ty_fd18_0 : tfield Try.prog 18 0 = some (0, 17, 1) := by kernel_rfl
theorem ty_tg21 : tagg Try.prog 21 = some (false, 1) := by kernel_rfl
theorem ty_sz21 : tsz Try.prog 21 = some 1 := by kernel_rfl
theorem ty_in21 : tinfo Try.prog 21 = some (.int .i32 0, 1, 4) := by kernel_rfl
theorem ty_tg22 : tagg Try.prog 22 = some (true, 2) := by kernel_rfl
theorem ty_sz22 : tsz Try.prog 22 = some 2 := by kernel_rfl
theorem ty_in22 : tinfo Try.prog 22 = some (.agg #[.int .i64 0, .int .i64 0], 2, 16) := by kernel_rfl
theorem ty_pl22 : tpl Try.prog 22 = some [(0, 1), (1, 1)] := by kernel_rfl
theorem ty_fd22_0 : tfield Try.prog 22 0 = some (0, 3, 1) := by kernel_rfl
theorem ty_fd22_1 : tfield Try.prog 22 1 = some (1, 3, 1) := by kernel_rfl
theorem ty_tg23 : tagg Try.prog 23 = some (true, 2) := by kernel_rfl
theorem ty_sz23 : tsz Try.prog 23 = some 2 := by kernel_rfl
theorem ty_in23 : tinfo Try.prog 23 = some (.agg #[.int .i64 0, .int .i64 0], 2, 16) := by kernel_rfl
theorem ty_pl23 : tpl Try.prog 23 = some [(0, 1), (1, 1)] := by kernel_rfl
theorem ty_fd23_0 : tfield Try.prog 23 0 = some (0, 3, 1) := by kernel_rfl
theorem ty_fd23_1 : tfield Try.prog 23 1 = some (1, 3, 1) := by kernel_rfl
theorem ty_tg24 : tagg Try.prog 24 = some (false, 1) := by kernel_rfl
theorem ty_tg25 : tagg Try.prog 25 = some (true, 2) := by kernel_rfl
theorem ty_sz25 : tsz Try.prog 25 = some 2 := by kernel_rfl
theorem ty_in25 : tinfo Try.prog 25 = some (.agg #[.int .i64 0, .int .i64 0], 2, 16) := by kernel_rfl
theorem ty_pl25 : tpl Try.prog 25 = some [(0, 1), (1, 1)] := by kernel_rfl
theorem ty_fd25_0 : tfield Try.prog 25 0 = some (0, 3, 1) := by kernel_rfl
theorem ty_fd25_1 : tfield Try.prog 25 1 = some (1, 3, 1) := by kernel_rfl
theorem ty_tg26 : tagg Try.prog 26 = some (false, 1) := by kernel_rfl
theorem ty_tg27 : tagg Try.prog 27 = some (false, 1) := by kernel_rfl
theorem ty_tg28 : tagg Try.prog 28 = some (false, 1) := by kernel_rfl
theorem ty_sz28 : tsz Try.prog 28 = some 1 := by kernel_rfl
theorem ty_in28 : tinfo Try.prog 28 = some (.slice none 0 0, 1, 24) := by kernel_rfl
theorem ty_tg30 : tagg Try.prog 30 = some (false, 1) := by kernel_rfl
theorem ty_tg31 : tagg Try.prog 31 = some (false, 1) := by kernel_rfl
theorem ty_tg32 : tagg Try.prog 32 = some (false, 1) := by kernel_rfl
theorem ty_sz32 : tsz Try.prog 32 = some 1 := by kernel_rfl
theorem ty_in32 : tinfo Try.prog 32 = some (.slice none 0 0, 1, 24) := by kernel_rfl
theorem ty_tg33 : tagg Try.prog 33 = some (false, 1) := by kernel_rfl
theorem ty_tg34 : tagg Try.prog 34 = some (false, 1) := by kernel_rfl
theorem ty_tg35 : tagg Try.prog 35 = some (false, 1) := by kernel_rfl
theorem ty_sz35 : tsz Try.prog 35 = some 1 := by kernel_rfl
theorem ty_in35 : tinfo Try.prog 35 = some (.slice none 0 0, 1, 24) := by kernel_rfl
theorem ty_tg36 : tagg Try.prog 36 = some (false, 1) := by kernel_rfl
theorem ty_tg37 : tagg Try.prog 37 = some (false, 1) := by kernel_rfl
theorem ty_tg38 : tagg Try.prog 38 = some (false, 1) := by kernel_rfl
theorem ty_tg39 : tagg Try.prog 39 = some (false, 1) := by kernel_rfl
theorem ty_sz39 : tsz Try.prog 39 = some 1 := by kernel_rfl
theorem ty_in39 : tinfo Try.prog 39 = some (.slice none 0 0, 1, 24) := by kernel_rfl
theorem ty_tg40 : tagg Try.prog 40 = some (false, 1) := by kernel_rfl
theorem ty_tg42 : tagg Try.prog 42 = some (false, 1) := by kernel_rfl
theorem ty_tg43 : tagg Try.prog 43 = some (false, 1) := by kernel_rfl
theorem ty_sz43 : tsz Try.prog 43 = some 1 := by kernel_rfl
theorem ty_in43 : tinfo Try.prog 43 = some (.slice none 0 0, 1, 24) := by kernel_rfl
theorem ty_tg44 : tagg Try.prog 44 = some (false, 1) := by kernel_rfl
theorem ty_tg45 : tagg Try.prog 45 = some (false, 1) := by kernel_rfl
theorem ty_tg46 : tagg Try.prog 46 = some (false, 1) := by kernel_rfl
theorem ty_tg47 : tagg Try.prog 47 = some (false, 1) := by kernel_rfl
theorem ty_tg48 : tagg Try.prog 48 = some (false, 1) := by kernel_rfl
theorem ty_sz48 : tsz Try.prog 48 = some 1 := by kernel_rfl
theorem ty_in48 : tinfo Try.prog 48 = some (.slice none 0 0, 1, 24) := by kernel_rfl
theorem ty_tg49 : tagg Try.prog 49 = some (true, 4) := by kernel_rfl
theorem ty_sz49 : tsz Try.prog 49 = some 4 := by kernel_rfl
theorem ty_in49 : tinfo Try.prog 49 = some (.agg #[.int .i64 0, .int .i64 0, .string ⟨#[]⟩, .slice none 0 0], 4, 56) := by kernel_rfl
theorem ty_pl49 : tpl Try.prog 49 = some [(0, 1), (1, 1), (2, 1), (3, 1)] := by kernel_rfl
theorem ty_fd49_0 : tfield Try.prog 49 0 = some (0, 3, 1) := by kernel_rfl
theorem ty_fd49_1 : tfield Try.prog 49 1 = some (1, 3, 1) := by kernel_rfl
theorem ty_fd49_2 : tfield Try.prog 49 2 = some (2, 9, 1) := by kernel_rfl
theorem ty_fd49_3 : tfield Try.prog 49 3 = some (3, 48, 1) := by kernel_rfl
theorem ty_tg50 : tagg Try.prog 50 = some (true, 4) := by kernel_rfl
theorem ty_sz50 : tsz Try.prog 50 = some 4 := by kernel_rfl
theorem ty_in50 : tinfo Try.prog 50 = some (.agg #[.int .i64 0, .int .i64 0, .string ⟨#[]⟩, .slice none 0 0], 4, 56) := by kernel_rfl
theorem ty_pl50 : tpl Try.prog 50 = some [(0, 1), (1, 1), (2, 1), (3, 1)] := by kernel_rfl
theorem ty_fd50_0 : tfield Try.prog 50 0 = some (0, 3, 1) := by kernel_rfl
theorem ty_fd50_1 : tfield Try.prog 50 1 = some (1, 3, 1) := by kernel_rfl
theorem ty_fd50_2 : tfield Try.prog 50 2 = some (2, 9, 1) := by kernel_rfl
theorem ty_fd50_3 : tfield Try.prog 50 3 = some (3, 48, 1) := by kernel_rfl
theorem ty_tg51 : tagg Try.prog 51 = some (false, 1) := by kernel_rfl
theorem ty_tg53 : tagg Try.prog 53 = some (false, 1) := by kernel_rfl
theorem ty_tg54 : tagg Try.prog 54 = some (false, 1) := by kernel_rfl
theorem ty_sz54 : tsz Try.prog 54 = some 1 := by kernel_rfl
theorem ty_in54 : tinfo Try.prog 54 = some (.slice none 0 0, 1, 24) := by kernel_rfl
theorem ty_tg55 : tagg Try.prog 55 = some (true, 4) := by kernel_rfl
theorem ty_sz55 : tsz Try.prog 55 = some 4 := by kernel_rfl
theorem ty_in55 : tinfo Try.prog 55 = some (.agg #[.int .i64 0, .int .i64 0, .string ⟨#[]⟩, .slice none 0 0], 4, 56) := by kernel_rfl
theorem ty_pl55 : tpl Try.prog 55 = some [(0, 1), (1, 1), (2, 1), (3, 1)] := by kernel_rfl
theorem ty_fd55_0 : tfield Try.prog 55 0 = some (0, 3, 1) := by kernel_rfl
theorem ty_fd55_1 : tfield Try.prog 55 1 = some (1, 3, 1) := by kernel_rfl
theorem ty_fd55_2 : tfield Try.prog 55 2 = some (2, 9, 1) := by kernel_rfl
theorem ty_fd55_3 : tfield Try.prog 55 3 = some (3, 54, 1) := by kernel_rfl
theorem ty_tg56 : tagg Try.prog 56 = some (true, 4) := by kernel_rfl
theorem ty_sz56 : tsz Try.prog 56 = some 4 := by kernel_rfl
theorem ty_in56 : tinfo Try.prog 56 = some (.agg #[.int .i64 0, .int .i64 0, .string ⟨#[]⟩, .slice none 0 0], 4, 56) := by kernel_rfl
theorem ty_pl56 : tpl Try.prog 56 = some [(0, 1), (1, 1), (2, 1), (3, 1)] := by kernel_rfl
theorem ty_fd56_0 : tfield Try.prog 56 0 = some (0, 3, 1) := by kernel_rfl
theorem ty_fd56_1 : tfield Try.prog 56 1 = some (1, 3, 1) := by kernel_rfl
theorem ty_fd56_2 : tfield Try.prog 56 2 = some (2, 9, 1) := by kernel_rfl
theorem ty_fd56_3 : tfield Try.prog 56 3 = some (3, 54, 1) := by kernel_rfl
theorem ty_tg57 : tagg Try.prog 57 = some (false, 1) := by kernel_rfl
theorem ty_tg58 : tagg Try.prog 58 = some (false, 1) := by kernel_rfl
theorem ty_tg59 : tagg Try.prog 59 = some (false, 1) := by kernel_rfl
theorem ty_tg60 : tagg Try.prog 60 = some (false, 1) := by kernel_rfl
theorem ty_tg61 : tagg Try.prog 61 = some (false, 1) := by kernel_rfl
theorem ty_tg63 : tagg Try.prog 63 = some (false, 1) := by kernel_rfl
theorem ty_tg64 : tagg Try.prog 64 = some (false, 1) := by kernel_rfl
theorem ty_sz64 : tsz Try.prog 64 = some 1 := by kernel_rfl
theorem ty_in64 : tinfo Try.prog 64 = some (.slice none 0 0, 1, 24) := by kernel_rfl
theorem ty_tg66 : tagg Try.prog 66 = some (false, 1) := by kernel_rfl
theorem ty_tg67 : tagg Try.prog 67 = some (false, 1) := by kernel_rfl
theorem ty_tg68 : tagg Try.prog 68 = some (false, 1) := by kernel_rfl
theorem ty_tg70 : tagg Try.prog 70 = some (false, 1) := by kernel_rfl
theorem ty_tg71 : tagg Try.prog 71 = some (false, 1) := by kernel_rfl
theorem ty_tg73 : tagg Try.prog 73 = some (false, 1) := by kernel_rfl
theorem ty_tg74 : tagg Try.prog 74 = some (false, 1) := by kernel_rfl
theorem ty_tg75 : tagg Try.prog 75 = some (false, 1) := by kernel_rfl
theorem ty_tg76 : tagg Try.prog 76 = some (false, 1) := by kernel_rfl
theorem ty_tg77 : tagg Try.prog 77 = some (true, 3) := by kernel_rfl
theorem ty_sz77 : tsz Try.prog 77 = some 3 := by kernel_rfl
theorem ty_in77 : tinfo Try.prog 77 = some (.agg #[.int .i64 0, .int .i64 0, .string ⟨#[]⟩], 3, 32) := by kernel_rfl
theorem ty_pl77 : tpl Try.prog 77 = some [(0, 1), (1, 1), (2, 1)] := by kernel_rfl
theorem ty_fd77_0 : tfield Try.prog 77 0 = some (0, 3, 1) := by kernel_rfl
theorem ty_fd77_1 : tfield Try.prog 77 1 = some (1, 3, 1) := by kernel_rfl
theorem ty_fd77_2 : tfield Try.prog 77 2 = some (2, 9, 1) := by kernel_rfl
theorem ty_tg78 : tagg Try.prog 78 = some (true, 3) := by kernel_rfl
theorem ty_sz78 : tsz Try.prog 78 = some 3 := by kernel_rfl
theorem ty_in78 : tinfo Try.prog 78 = some (.agg #[.int .i64 0, .int .i64 0, .string ⟨#[]⟩], 3, 32) := by kernel_rfl
theorem ty_pl78 : tpl Try.prog 78 = some [(0, 1), (1, 1), (2, 1)] := by kernel_rfl
theorem ty_fd78_0 : tfield Try.prog 78 0 = some (0, 3, 1) := by kernel_rfl
theorem ty_fd78_1 : tfield Try.prog 78 1 = some (1, 3, 1) := by kernel_rfl
theorem ty_fd78_2 : tfield Try.prog 78 2 = some (2, 9, 1) := by kernel_rfl
theorem ty_tg80 : tagg Try.prog 80 = some (false, 1) := by kernel_rfl
theorem ty_tg81 : tagg Try.prog 81 = some (false, 1) := by kernel_rfl
theorem ty_tg82 : tagg Try.prog 82 = some (false, 1) := by kernel_rfl
theorem ty_tg83 : tagg Try.prog 83 = some (false, 1) := by kernel_rfl
theorem ty_sz83 : tsz Try.prog 83 = some 1 := by kernel_rfl
theorem ty_in83 : tinfo Try.prog 83 = some (.pointer none, 1, 8) := by kernel_rfl
theorem ty_tg84 : tagg Try.prog 84 = some (false, 1) := by kernel_rfl
theorem ty_tg85 : tagg Try.prog 85 = some (false, 1) := by kernel_rfl
theorem ty_tg86 : tagg Try.prog 86 = some (false, 1) := by kernel_rfl
theorem ty_tg87 : tagg Try.prog 87 = some (true, 3) := by kernel_rfl
theorem ty_sz87 : tsz Try.prog 87 = some 3 := by kernel_rfl
theorem ty_in87 : tinfo Try.prog 87 = some (.agg #[.int .i64 0, .int .i64 0, .string ⟨#[]⟩], 3, 32) := by kernel_rfl
theorem ty_pl87 : tpl Try.prog 87 = some [(0, 1), (1, 1), (2, 1)] := by kernel_rfl
theorem ty_fd87_0 : tfield Try.prog 87 0 = some (0, 3, 1) := by kernel_rfl
theorem ty_fd87_1 : tfield Try.prog 87 1 = some (1, 3, 1) := by kernel_rfl
theorem ty_fd87_2 : tfield Try.prog 87 2 = some (2, 9, 1) := by kernel_rfl
theorem ty_tg88 : tagg Try.prog 88 = some (false, 1) := by kernel_rfl
theorem ty_tg89 : tagg Try.prog 89 = some (false, 1) := by kernel_rfl
theorem ty_tg90 : tagg Try.prog 90 = some (false, 1) := by kernel_rfl
theorem ty_tg91 : tagg Try.prog 91 = some (false, 1) := by kernel_rfl
theorem ty_tg92 : tagg Try.prog 92 = some (false, 1) := by kernel_rfl
theorem ty_tg93 : tagg Try.prog 93 = some (true, 2) := by kernel_rfl
theorem ty_sz93 : tsz Try.prog 93 = some 2 := by kernel_rfl
theorem ty_in93 : tinfo Try.prog 93 = some (.agg #[.int .i64 0, .string ⟨#[]⟩], 2, 24) := by kernel_rfl
theorem ty_pl93 : tpl Try.prog 93 = some [(0, 1), (1, 1)] := by kernel_rfl
theorem ty_fd93_0 : tfield Try.prog 93 0 = some (0, 3, 1) := by kernel_rfl
theorem ty_fd93_1 : tfield Try.prog 93 1 = some (1, 9, 1) := by kernel_rfl
theorem ty_tg94 : tagg Try.prog 94 = some (true, 2) := by kernel_rfl
theorem ty_sz94 : tsz Try.prog 94 = some 2 := by kernel_rfl
theorem ty_in94 : tinfo Try.prog 94 = some (.agg #[.int .i64 0, .string ⟨#[]⟩], 2, 24) := by kernel_rfl
theorem ty_pl94 : tpl Try.prog 94 = some [(0, 1), (1, 1)] := by kernel_rfl
theorem ty_fd94_0 : tfield Try.prog 94 0 = some (0, 3, 1) := by kernel_rfl
theorem ty_fd94_1 : tfield Try.prog 94 1 = some (1, 9, 1) := by kernel_rfl
theorem ty_tg95 : tagg Try.prog 95 = some (false, 1) := by kernel_rfl
theorem ty_tg96 : tagg Try.prog 96 = some (false, 1) := by kernel_rfl
theorem ty_tg97 : tagg Try.prog 97 = some (true, 2) := by kernel_rfl
theorem ty_sz97 : tsz Try.prog 97 = some 2 := by kernel_rfl
theorem ty_in97 : tinfo Try.prog 97 = some (.agg #[.int .i64 0, .string ⟨#[]⟩], 2, 24) := by kernel_rfl
theorem ty_pl97 : tpl Try.prog 97 = some [(0, 1), (1, 1)] := by kernel_rfl
theorem ty_fd97_0 : tfield Try.prog 97 0 = some (0, 3, 1) := by kernel_rfl
theorem ty_fd97_1 : tfield Try.prog 97 1 = some (1, 9, 1) := by kernel_rfl
theorem ty_tg98 : tagg Try.prog 98 = some (false, 1) := by kernel_rfl
theorem ty_tg99 : tagg Try.prog 99 = some (false, 1) := by kernel_rfl
theorem ty_tg100 : tagg Try.prog 100 = some (false, 1) := by kernel_rfl
theorem ty_tg101 : tagg Try.prog 101 = some (false, 1) := by kernel_rfl
theorem ty_tg102 : tagg Try.prog 102 = some (false, 1) := by kernel_rfl
theorem ty_tg103 : tagg Try.prog 103 = some (false, 1) := by kernel_rfl
theorem ty_tg104 : tagg Try.prog 104 = some (false, 1) := by kernel_rfl
theorem ty_tg105 : tagg Try.prog 105 = some (false, 1) := by kernel_rfl
theorem ty_tg106 : tagg Try.prog 106 = some (false, 1) := by kernel_rfl
theorem ty_tg107 : tagg Try.prog 107 = some (false, 1) := by kernel_rfl
theorem ty_tg108 : tagg Try.prog 108 = some (false, 1) := by kernel_rfl
theorem ty_tg109 : tagg Try.prog 109 = some (false, 1) := by kernel_rfl
theorem ty_tg110 : tagg Try.prog 110 = some (false, 1) := by kernel_rfl
theorem ty_tg111 : tagg Try.prog 111 = some (false, 1) := by kernel_rfl
theorem ty_tg113 : tagg Try.prog 113 = some (false, 1) := by kernel_rfl
theorem ty_tg114 : tagg Try.prog 114 = some (false, 1) := by kernel_rfl
theorem ty_sz114 : tsz Try.prog 114 = some 1 := by kernel_rfl
theorem ty_in114 : tinfo Try.prog 114 = some (.slice none 0 0, 1, 24) := by kernel_rfl
theorem ty_tg115 : tagg Try.prog 115 = some (true, 2) := by kernel_rfl
theorem ty_sz115 : tsz Try.prog 115 = some 2 := by kernel_rfl
theorem ty_in115 : tinfo Try.prog 115 = some (.agg #[.slice none 0 0, .slice none 0 0], 2, 48) := by kernel_rfl
theorem ty_pl115 : tpl Try.prog 115 = some [(0, 1), (1, 1)] := by kernel_rfl
theorem ty_fd115_0 : tfield Try.prog 115 0 = some (0, 43, 1) := by kernel_rfl
theorem ty_fd115_1 : tfield Try.prog 115 1 = some (1, 114, 1) := by kernel_rfl
theorem ty_tg116 : tagg Try.prog 116 = some (true, 2) := by kernel_rfl
theorem ty_sz116 : tsz Try.prog 116 = some 2 := by kernel_rfl
theorem ty_in116 : tinfo Try.prog 116 = some (.agg #[.slice none 0 0, .slice none 0 0], 2, 48) := by kernel_rfl
theorem ty_pl116 : tpl Try.prog 116 = some [(0, 1), (1, 1)] := by kernel_rfl
theorem ty_fd116_0 : tfield Try.prog 116 0 = some (0, 43, 1) := by kernel_rfl
theorem ty_fd116_1 : tfield Try.prog 116 1 = some (1, 114, 1) := by kernel_rfl
theorem ty_tg117 : tagg Try.prog 117 = some (false, 1) := by kernel_rfl
theorem ty_tg118 : tagg Try.prog 118 = some (false, 1) := by kernel_rfl
theorem ty_tg119 : tagg Try.prog 119 = some (false, 1) := by kernel_rfl
theorem ty_tg120 : tagg Try.prog 120 = some (false, 1) := by kernel_rfl
theorem ty_tg121 : tagg Try.prog 121 = some (false, 1) := by kernel_rfl
theorem ty_tg123 : tagg Try.prog 123 = some (false, 1) := by kernel_rfl
theorem ty_tg124 : tagg Try.prog 124 = some (false, 1) := by kernel_rfl
theorem ty_tg125 : tagg Try.prog 125 = some (true, 2) := by kernel_rfl
theorem ty_sz125 : tsz Try.prog 125 = some 2 := by kernel_rfl
theorem ty_in125 : tinfo Try.prog 125 = some (.agg #[.slice none 0 0, .int .i64 0], 2, 32) := by kernel_rfl
theorem ty_pl125 : tpl Try.prog 125 = some [(0, 1), (1, 1)] := by kernel_rfl
theorem ty_fd125_0 : tfield Try.prog 125 0 = some (0, 28, 1) := by kernel_rfl
theorem ty_fd125_1 : tfield Try.prog 125 1 = some (1, 3, 1) := by kernel_rfl
theorem ty_tg126 : tagg Try.prog 126 = some (true, 2) := by kernel_rfl
theorem ty_sz126 : tsz Try.prog 126 = some 2 := by kernel_rfl
theorem ty_in126 : tinfo Try.prog 126 = some (.agg #[.slice none 0 0, .int .i64 0], 2, 32) := by kernel_rfl
theorem ty_pl126 : tpl Try.prog 126 = some [(0, 1), (1, 1)] := by kernel_rfl
theorem ty_fd126_0 : tfield Try.prog 126 0 = some (0, 28, 1) := by kernel_rfl
theorem ty_fd126_1 : tfield Try.prog 126 1 = some (1, 3, 1) := by kernel_rfl
theorem ty_tg127 : tagg Try.prog 127 = some (false, 1) := by kernel_rfl
theorem ty_tg128 : tagg Try.prog 128 = some (false, 1) := by kernel_rfl
theorem ty_tg129 : tagg Try.prog 129 = some (false, 1) := by kernel_rfl
theorem ty_tg130 : tagg Try.prog 130 = some (false, 1) := by kernel_rfl
theorem ty_tg131 : tagg Try.prog 131 = some (false, 1) := by kernel_rfl
theorem ty_tg132 : tagg Try.prog 132 = some (false, 1) := by kernel_rfl
theorem ty_sz132 : tsz Try.prog 132 = some 1 := by kernel_rfl
theorem ty_in132 : tinfo Try.prog 132 = some (.pointer none, 1, 8) := by kernel_rfl
theorem ty_tg133 : tagg Try.prog 133 = some (false, 1) := by kernel_rfl
theorem ty_tg134 : tagg Try.prog 134 = some (false, 1) := by kernel_rfl
theorem ty_tg135 : tagg Try.prog 135 = some (false, 1) := by kernel_rfl
theorem ty_tg136 : tagg Try.prog 136 = some (false, 1) := by kernel_rfl
theorem ty_tg137 : tagg Try.prog 137 = some (false, 1) := by kernel_rfl
theorem ty_tg138 : tagg Try.prog 138 = some (true, 5) := by kernel_rfl
theorem ty_sz138 : tsz Try.prog 138 = some 5 := by kernel_rfl
theorem ty_in138 : tinfo Try.prog 138 = some (.agg #[.int .i64 0, .int .i64 0, .int .i64 0, .string ⟨#[]⟩, .slice none 0 0], 5, 64) := by kernel_rfl
theorem ty_pl138 : tpl Try.prog 138 = some [(0, 1), (1, 4)] := by kernel_rfl
theorem ty_fd138_0 : tfield Try.prog 138 0 = some (0, 3, 1) := by kernel_rfl
theorem ty_fd138_1 : tfield Try.prog 138 1 = some (1, 56, 4) := by kernel_rfl
theorem ty_tg139 : tagg Try.prog 139 = some (true, 5) := by kernel_rfl
theorem ty_sz139 : tsz Try.prog 139 = some 5 := by kernel_rfl
theorem ty_in139 : tinfo Try.prog 139 = some (.agg #[.int .i64 0, .int .i64 0, .int .i64 0, .string ⟨#[]⟩, .slice none 0 0], 5, 64) := by kernel_rfl
theorem ty_pl139 : tpl Try.prog 139 = some [(0, 1), (1, 4)] := by kernel_rfl
theorem ty_fd139_0 : tfield Try.prog 139 0 = some (0, 3, 1) := by kernel_rfl
theorem ty_fd139_1 : tfield Try.prog 139 1 = some (1, 56, 4) := by kernel_rfl
theorem ty_tg140 : tagg Try.prog 140 = some (false, 1) := by kernel_rfl
theorem ty_sz140 : tsz Try.prog 140 = some 1 := by kernel_rfl
theorem ty_in140 : tinfo Try.prog 140 = some (.slice none 0 0, 1, 24) := by kernel_rfl
theorem ty_tg141 : tagg Try.prog 141 = some (false, 1) := by kernel_rfl
theorem ty_tg142 : tagg Try.prog 142 = some (false, 1) := by kernel_rfl
theorem ty_tg143 : tagg Try.prog 143 = some (false, 1) := by kernel_rfl
theorem ty_tg144 : tagg Try.prog 144 = some (false, 1) := by kernel_rfl
theorem ty_tg145 : tagg Try.prog 145 = some (false, 1) := by kernel_rfl
theorem ty_tg146 : tagg Try.prog 146 = some (false, 1) := by kernel_rfl
theorem ty_tg147 : tagg Try.prog 147 = some (false, 1) := by kernel_rfl
theorem ty_tg148 : tagg Try.prog 148 = some (false, 1) := by kernel_rfl
theorem ty_tg149 : tagg Try.prog 149 = some (true, 7) := by kernel_rfl
theorem ty_sz149 : tsz Try.prog 149 = some 7 := by kernel_rfl
theorem ty_in149 : tinfo Try.prog 149 = some (.agg #[.int .i64 0, .int .i64 0, .string ⟨#[]⟩, .slice none 0 0, .int .i64 0, .bool false, .slice none 0 0], 7, 96) := by kernel_rfl
theorem ty_pl149 : tpl Try.prog 149 = some [(0, 4), (4, 1), (5, 1), (6, 1)] := by kernel_rfl
theorem ty_fd149_0 : tfield Try.prog 149 0 = some (0, 56, 4) := by kernel_rfl
theorem ty_fd149_1 : tfield Try.prog 149 1 = some (4, 3, 1) := by kernel_rfl
theorem ty_fd149_2 : tfield Try.prog 149 2 = some (5, 4, 1) := by kernel_rfl
theorem ty_fd149_3 : tfield Try.prog 149 3 = some (6, 64, 1) := by kernel_rfl
theorem ty_tg150 : tagg Try.prog 150 = some (true, 7) := by kernel_rfl
theorem ty_sz150 : tsz Try.prog 150 = some 7 := by kernel_rfl
theorem ty_in150 : tinfo Try.prog 150 = some (.agg #[.int .i64 0, .int .i64 0, .string ⟨#[]⟩, .slice none 0 0, .int .i64 0, .bool false, .slice none 0 0], 7, 96) := by kernel_rfl
theorem ty_pl150 : tpl Try.prog 150 = some [(0, 4), (4, 1), (5, 1), (6, 1)] := by kernel_rfl
theorem ty_fd150_0 : tfield Try.prog 150 0 = some (0, 56, 4) := by kernel_rfl
theorem ty_fd150_1 : tfield Try.prog 150 1 = some (4, 3, 1) := by kernel_rfl
theorem ty_fd150_2 : tfield Try.prog 150 2 = some (5, 4, 1) := by kernel_rfl
theorem ty_fd150_3 : tfield Try.prog 150 3 = some (6, 64, 1) := by kernel_rfl
theorem ty_tg151 : tagg Try.prog 151 = some (false, 1) := by kernel_rfl
theorem ty_sz151 : tsz Try.prog 151 = some 1 := by kernel_rfl
theorem ty_in151 : tinfo Try.prog 151 = some (.slice none 0 0, 1, 24) := by kernel_rfl
theorem ty_tg152 : tagg Try.prog 152 = some (false, 1) := by kernel_rfl
theorem ty_sz152 : tsz Try.prog 152 = some 1 := by kernel_rfl
theorem ty_in152 : tinfo Try.prog 152 = some (.pointer none, 1, 8) := by kernel_rfl
theorem ty_tg153 : tagg Try.prog 153 = some (true, 2) := by kernel_rfl
theorem ty_sz153 : tsz Try.prog 153 = some 2 := by kernel_rfl
theorem ty_in153 : tinfo Try.prog 153 = some (.agg #[.int .i64 0, .int .i64 0], 2, 16) := by kernel_rfl
theorem ty_pl153 : tpl Try.prog 153 = some [(0, 1), (1, 1)] := by kernel_rfl
theorem ty_fd153_0 : tfield Try.prog 153 0 = some (0, 3, 1) := by kernel_rfl
theorem ty_fd153_1 : tfield Try.prog 153 1 = some (1, 3, 1) := by kernel_rfl
theorem ty_tg154 : tagg Try.prog 154 = some (true, 2) := by kernel_rfl
theorem ty_sz154 : tsz Try.prog 154 = some 2 := by kernel_rfl
theorem ty_in154 : tinfo Try.prog 154 = some (.agg #[.int .i64 0, .int .i64 0], 2, 16) := by kernel_rfl
theorem ty_pl154 : tpl Try.prog 154 = some [(0, 1), (1, 1)] := by kernel_rfl
theorem ty_fd154_0 : tfield Try.prog 154 0 = some (0, 3, 1) := by kernel_rfl
theorem ty_fd154_1 : tfield Try.prog 154 1 = some (1, 3, 1) := by kernel_rfl
theorem ty_tg155 : tagg Try.prog 155 = some (false, 1) := by kernel_rfl
theorem ty_tg156 : tagg Try.prog 156 = some (false, 1) := by kernel_rfl
theorem ty_tg157 : tagg Try.prog 157 = some (false, 1) := by kernel_rfl
theorem ty_tg158 : tagg Try.prog 158 = some (false, 1) := by kernel_rfl
theorem ty_tg159 : tagg Try.prog 159 = some (true, 9) := by kernel_rfl
theorem ty_sz159 : tsz Try.prog 159 = some 9 := by kernel_rfl
theorem ty_in159 : tinfo Try.prog 159 = some (.agg #[.int .i64 0, .int .i64 0, .int .i64 0, .int .i64 0, .int .i64 0, .int .i64 0, .int .i64 0, .int .i64 0, .int .i64 0], 9, 72) := by kernel_rfl
theorem ty_tg160 : tagg Try.prog 160 = some (false, 1) := by kernel_rfl
theorem ty_tg161 : tagg Try.prog 161 = some (false, 1) := by kernel_rfl
theorem ty_tg162 : tagg Try.prog 162 = some (false, 1) := by kernel_rfl
theorem ty_sz162 : tsz Try.prog 162 = some 1 := by kernel_rfl
theorem ty_in162 : tinfo Try.prog 162 = some (.slice none 0 0, 1, 24) := by kernel_rfl
theorem ty_tg163 : tagg Try.prog 163 = some (false, 1) := by kernel_rfl
theorem ty_sz163 : tsz Try.prog 163 = some 1 := by kernel_rfl
theorem ty_in163 : tinfo Try.prog 163 = some (.slice none 0 0, 1, 24) := by kernel_rfl
theorem ty_tg165 : tagg Try.prog 165 = some (false, 1) := by kernel_rfl
theorem ty_tg166 : tagg Try.prog 166 = some (false, 1) := by kernel_rfl
theorem ty_tg167 : tagg Try.prog 167 = some (false, 1) := by kernel_rfl
theorem ty_tg168 : tagg Try.prog 168 = some (false, 1) := by kernel_rfl
theorem ty_tg169 : tagg Try.prog 169 = some (false, 1) := by kernel_rfl
theorem ty_tg170 : tagg Try.prog 170 = some (false, 1) := by kernel_rfl
theorem ty_tg171 : tagg Try.prog 171 = some (false, 1) := by kernel_rfl
theorem ty_tg172 : tagg Try.prog 172 = some (false, 1) := by kernel_rfl
theorem ty_tg173 : tagg Try.prog 173 = some (false, 1) := by kernel_rfl
theorem ty_tg174 : tagg Try.prog 174 = some (false, 1) := by kernel_rfl
theorem ty_tg176 : tagg Try.prog 176 = some (false, 1) := by kernel_rfl
theorem ty_tg177 : tagg Try.prog 177 = some (false, 1) := by kernel_rfl
theorem ty_tg178 : tagg Try.prog 178 = some (true, 4) := by kernel_rfl
theorem ty_sz178 : tsz Try.prog 178 = some 4 := by kernel_rfl
theorem ty_in178 : tinfo Try.prog 178 = some (.agg #[.pointer none, .pointer none, .pointer none, .string ⟨#[]⟩], 4, 40) := by kernel_rfl
theorem ty_pl178 : tpl Try.prog 178 = some [(0, 1), (1, 1), (2, 1), (3, 1)] := by kernel_rfl
theorem ty_fd178_0 : tfield Try.prog 178 0 = some (0, 17, 1) := by kernel_rfl
theorem ty_fd178_1 : tfield Try.prog 178 1 = some (1, 17, 1) := by kernel_rfl
theorem ty_fd178_2 : tfield Try.prog 178 2 = some (2, 17, 1) := by kernel_rfl
theorem ty_fd178_3 : tfield Try.prog 178 3 = some (3, 9, 1) := by kernel_rfl
theorem ty_tg180 : tagg Try.prog 180 = some (true, 0) := by kernel_rfl
theorem ty_sz180 : tsz Try.prog 180 = some 0 := by kernel_rfl
theorem ty_in180 : tinfo Try.prog 180 = some (.agg #[], 0, 0) := by kernel_rfl
theorem ty_tg181 : tagg Try.prog 181 = some (true, 0) := by kernel_rfl
theorem ty_sz181 : tsz Try.prog 181 = some 0 := by kernel_rfl
theorem ty_in181 : tinfo Try.prog 181 = some (.agg #[], 0, 0) := by kernel_rfl
theorem ty_pl181 : tpl Try.prog 181 = some [(0, 0)] := by kernel_rfl
theorem ty_fd181_0 : tfield Try.prog 181 0 = some (0, 180, 0) := by kernel_rfl
theorem ty_tg183 : tagg Try.prog 183 = some (false, 1) := by kernel_rfl
theorem ty_tg187 : tagg Try.prog 187 = some (false, 1) := by kernel_rfl
theorem ty_tg188 : tagg Try.prog 188 = some (false, 1) := by kernel_rfl
theorem ty_sz188 : tsz Try.prog 188 = some 1 := by kernel_rfl
theorem ty_in188 : tinfo Try.prog 188 = some (.pointer none, 1, 8) := by kernel_rfl
theorem ty_tg193 : tagg Try.prog 193 = some (false, 1) := by kernel_rfl
theorem ty_tg195 : tagg Try.prog 195 = some (false, 1) := by kernel_rfl
theorem ty_sz195 : tsz Try.prog 195 = some 1 := by kernel_rfl
theorem ty_in195 : tinfo Try.prog 195 = some (.int .u64 0, 1, 8) := by kernel_rfl
theorem mixedO : Try.prog.follows .mixedOrders = true := by kernel_rfl
end Go.Proofs.Ytpdpmcllpafjbaa
