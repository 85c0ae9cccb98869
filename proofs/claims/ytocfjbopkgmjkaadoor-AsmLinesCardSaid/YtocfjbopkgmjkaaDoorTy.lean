/- The table of the types that the walks meet. -/
import Derived.Test.YtocfjbopkgmjkaaDoorProg
import Derived.Test.YtocfjbopkgmjkaaDoorY10
namespace Go.Proofs.YtocfjbopkgmjkaaDoor.W
open Go Go.Sy
def tyL : List (Nat × TI) := [(2, ⟨.int .i64, 1, 8, .int .i64 0⟩),
  (3, ⟨.int .i64, 1, 8, .int .i64 0⟩),
  (4, ⟨.bool, 1, 1, .bool false⟩),
  (5, ⟨.int .u8, 1, 1, .int .u8 0⟩),
  (9, ⟨.string, 1, 16, .string ByteArray.empty⟩),
  (23, ⟨.struct #[{ name := "From", type := 3, offset := 0, embedded := false, tag := "", pkgPath := "", byteOffset := 0 }, { name := "N", type := 3, offset := 1, embedded := false, tag := "", pkgPath := "", byteOffset := 8 }, { name := "Copy", type := 3, offset := 2, embedded := false, tag := "", pkgPath := "", byteOffset := 16 }], 3, 24, .agg #[.int .i64 0, .int .i64 0, .int .i64 0]⟩),
  (25, ⟨.struct #[{ name := "Kind", type := 3, offset := 0, embedded := false, tag := "", pkgPath := "", byteOffset := 0 }, { name := "ID", type := 23, offset := 1, embedded := false, tag := "", pkgPath := "", byteOffset := 8 }, { name := "Who", type := 3, offset := 4, embedded := false, tag := "", pkgPath := "", byteOffset := 32 }], 5, 40, .agg #[.int .i64 0, .int .i64 0, .int .i64 0, .int .i64 0, .int .i64 0]⟩),
  (27, ⟨.int .i64, 1, 8, .int .i64 0⟩),
  (45, ⟨.slice 47, 1, 24, .slice none 0 0⟩),
  (47, ⟨.struct #[{ name := "Op", type := 3, offset := 0, embedded := false, tag := "", pkgPath := "", byteOffset := 0 }, { name := "A", type := 3, offset := 1, embedded := false, tag := "", pkgPath := "", byteOffset := 8 }], 2, 16, .agg #[.int .i64 0, .int .i64 0]⟩),
  (57, ⟨.slice 5, 1, 24, .slice none 0 0⟩),
  (62, ⟨.slice 9, 1, 24, .slice none 0 0⟩),
  (64, ⟨.slice 3, 1, 24, .slice none 0 0⟩),
  (75, ⟨.pointer 77, 1, 8, .pointer none⟩),
  (77, ⟨.struct #[{ name := "addr", type := 75, offset := 0, embedded := false, tag := "", pkgPath := "strings", byteOffset := 0 }, { name := "buf", type := 57, offset := 1, embedded := false, tag := "", pkgPath := "strings", byteOffset := 8 }], 2, 32, .agg #[.pointer none, .slice none 0 0]⟩),
  (79, ⟨.interface #[("Error", 82)], 1, 16, .nilIface⟩),
  (83, ⟨.int .u64, 1, 8, .int .u64 0⟩),
  (86, ⟨.pointer 5, 1, 8, .pointer none⟩),
  (93, ⟨.unsafePointer, 1, 8, .pointer none⟩),
  (108, ⟨.int .u64, 1, 8, .int .u64 0⟩),
  (109, ⟨.array 24 5, 24, 24, .agg #[.int .u8 0, .int .u8 0, .int .u8 0, .int .u8 0, .int .u8 0, .int .u8 0, .int .u8 0, .int .u8 0, .int .u8 0, .int .u8 0, .int .u8 0, .int .u8 0, .int .u8 0, .int .u8 0, .int .u8 0, .int .u8 0, .int .u8 0, .int .u8 0, .int .u8 0, .int .u8 0, .int .u8 0, .int .u8 0, .int .u8 0, .int .u8 0]⟩),
  (129, ⟨.array 20 83, 20, 160, .agg #[.int .u64 0, .int .u64 0, .int .u64 0, .int .u64 0, .int .u64 0, .int .u64 0, .int .u64 0, .int .u64 0, .int .u64 0, .int .u64 0, .int .u64 0, .int .u64 0, .int .u64 0, .int .u64 0, .int .u64 0, .int .u64 0, .int .u64 0, .int .u64 0, .int .u64 0, .int .u64 0]⟩),
  (154, ⟨.array 32 5, 32, 32, .agg #[.int .u8 0, .int .u8 0, .int .u8 0, .int .u8 0, .int .u8 0, .int .u8 0, .int .u8 0, .int .u8 0, .int .u8 0, .int .u8 0, .int .u8 0, .int .u8 0, .int .u8 0, .int .u8 0, .int .u8 0, .int .u8 0, .int .u8 0, .int .u8 0, .int .u8 0, .int .u8 0, .int .u8 0, .int .u8 0, .int .u8 0, .int .u8 0, .int .u8 0, .int .u8 0, .int .u8 0, .int .u8 0, .int .u8 0, .int .u8 0, .int .u8 0, .int .u8 0]⟩)]
def ty : TT := tlook tyL
theorem tok : TOk Tryd.prog ty := TOk.of_list ⟨⟨by kernel_rfl, by kernel_rfl⟩,
  ⟨by kernel_rfl, by kernel_rfl⟩,
  ⟨by kernel_rfl, by kernel_rfl⟩,
  ⟨by kernel_rfl, by kernel_rfl⟩,
  ⟨by kernel_rfl, by kernel_rfl⟩,
  ⟨by kernel_rfl, by kernel_rfl⟩,
  ⟨by kernel_rfl, by kernel_rfl⟩,
  ⟨by kernel_rfl, by kernel_rfl⟩,
  ⟨by kernel_rfl, by kernel_rfl⟩,
  ⟨by kernel_rfl, by kernel_rfl⟩,
  ⟨by kernel_rfl, by kernel_rfl⟩,
  ⟨by kernel_rfl, by kernel_rfl⟩,
  ⟨by kernel_rfl, by kernel_rfl⟩,
  ⟨by kernel_rfl, by kernel_rfl⟩,
  ⟨by kernel_rfl, by kernel_rfl⟩,
  ⟨by kernel_rfl, by kernel_rfl⟩,
  ⟨by kernel_rfl, by kernel_rfl⟩,
  ⟨by kernel_rfl, by kernel_rfl⟩,
  ⟨by kernel_rfl, by kernel_rfl⟩,
  ⟨by kernel_rfl, by kernel_rfl⟩,
  ⟨by kernel_rfl, by kernel_rfl⟩,
  ⟨by kernel_rfl, by kernel_rfl⟩,
  ⟨by kernel_rfl, by kernel_rfl⟩, trivial⟩
theorem mixed : Tryd.prog.follows .mixedOrders = true := by kernel_rfl
end Go.Proofs.YtocfjbopkgmjkaaDoor.W
