/- The program's table of types, where the proofs ask it: zero values, sizes in cells and in bytes. -/
import Derived.Test.YtpdpmcllpafjbaaProg
import Derived.Test.YtpdpmcllpafjbaaBase
namespace Go.Proofs.Ytpdpmcllpafjbaa
open Go.RowKit
theorem slTok : SlT Tok Try.prog 35 78 ⟨0, 0, ⟨#[]⟩⟩ 32 := .mk' Try.underlying35 (zv := .agg #[.int .i64 0, .int .i64 0, .string ⟨#[]⟩]) (by kernel_rfl) rfl
theorem slRow : SlT Rw Try.prog 43 97 ⟨0, ⟨#[]⟩⟩ 24 := .mk' Try.underlying43 (zv := .agg #[.int .i64 0, .string ⟨#[]⟩]) (by kernel_rfl) rfl
theorem slInt : SlT Int Try.prog 64 3 0 8 := .mk' Try.underlying64 (zv := .int .i64 0) (by kernel_rfl) rfl
end Go.Proofs.Ytpdpmcllpafjbaa
