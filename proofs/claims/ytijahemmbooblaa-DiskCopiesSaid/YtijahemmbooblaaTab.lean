/- What is known of the types and functions of this seat's program. -/
import Derived.Test.YtijahemmbooblaaProg
import Derived.Test.YtijahemmbooblaaMem
import Derived.KernelRfl
namespace Go.Lun
open Go.Proofs
instance : Ty Try.prog 1 (Go.TypeDesc.func #[] #[] false) Go.Value.nilFunc 1 8 := ⟨by kernel_rfl, Try.t1, by kernel_rfl, by kernel_rfl, by kernel_rfl, by kernel_rfl⟩
instance : Ty Try.prog 2 (Go.TypeDesc.int Go.IntKind.i64) (Go.Value.int Go.IntKind.i64 0) 1 8 := ⟨by kernel_rfl, Try.t2, by kernel_rfl, by kernel_rfl, by kernel_rfl, by kernel_rfl⟩
instance : Ty Try.prog 3 (Go.TypeDesc.int Go.IntKind.i64) (Go.Value.int Go.IntKind.i64 0) 1 8 := ⟨by kernel_rfl, Try.t3, by kernel_rfl, by kernel_rfl, by kernel_rfl, by kernel_rfl⟩
instance : Ty Try.prog 4 Go.TypeDesc.bool (Go.Value.bool false) 1 1 := ⟨by kernel_rfl, Try.t4, by kernel_rfl, by kernel_rfl, by kernel_rfl, by kernel_rfl⟩
instance : Ty Try.prog 5 (Go.TypeDesc.int Go.IntKind.u8) (Go.Value.int Go.IntKind.u8 0) 1 1 := ⟨by kernel_rfl, Try.t5, by kernel_rfl, by kernel_rfl, by kernel_rfl, by kernel_rfl⟩
instance : Ty Try.prog 6 (Go.TypeDesc.int Go.IntKind.u8) (Go.Value.int Go.IntKind.u8 0) 1 1 := ⟨by kernel_rfl, Try.t6, by kernel_rfl, by kernel_rfl, by kernel_rfl, by kernel_rfl⟩
instance : Ty Try.prog 7 (Go.TypeDesc.struct #[{ name := "x", type := 2, offset := 0, embedded := false, tag := "", pkgPath := "runtime", byteOffset := 0 }, { name := "y", type := 3, offset := 1, embedded := false, tag := "", pkgPath := "runtime", byteOffset := 8 }, { name := "signed", type := 4, offset := 2, embedded := false, tag := "", pkgPath := "runtime", byteOffset := 16 }, { name := "code", type := 6, offset := 3, embedded := false, tag := "", pkgPath := "runtime", byteOffset := 17 }]) (Go.Value.agg ⟨[(Go.Value.int Go.IntKind.i64 0), (Go.Value.int Go.IntKind.i64 0), (Go.Value.bool false), (Go.Value.int Go.IntKind.u8 0)]⟩) 4 24 := ⟨by kernel_rfl, Try.t7, by kernel_rfl, by kernel_rfl, by kernel_rfl, by kernel_rfl⟩
instance : Ty Try.prog 8 (Go.TypeDesc.struct #[{ name := "x", type := 2, offset := 0, embedded := false, tag := "", pkgPath := "runtime", byteOffset := 0 }, { name := "y", type := 3, offset := 1, embedded := false, tag := "", pkgPath := "runtime", byteOffset := 8 }, { name := "signed", type := 4, offset := 2, embedded := false, tag := "", pkgPath := "runtime", byteOffset := 16 }, { name := "code", type := 6, offset := 3, embedded := false, tag := "", pkgPath := "runtime", byteOffset := 17 }]) (Go.Value.agg ⟨[(Go.Value.int Go.IntKind.i64 0), (Go.Value.int Go.IntKind.i64 0), (Go.Value.bool false), (Go.Value.int Go.IntKind.u8 0)]⟩) 4 24 := ⟨by kernel_rfl, Try.t8, by kernel_rfl, by kernel_rfl, by kernel_rfl, by kernel_rfl⟩
instance : Ty Try.prog 9 Go.TypeDesc.string (Go.Value.string { data := #[] }) 1 16 := ⟨by kernel_rfl, Try.t9, by kernel_rfl, by kernel_rfl, by kernel_rfl, by kernel_rfl⟩
instance : Ty Try.prog 10 Go.TypeDesc.string (Go.Value.string { data := #[] }) 1 16 := ⟨by kernel_rfl, Try.t10, by kernel_rfl, by kernel_rfl, by kernel_rfl, by kernel_rfl⟩
instance : Ty Try.prog 11 Go.TypeDesc.string (Go.Value.string { data := #[] }) 1 16 := ⟨by kernel_rfl, Try.t11, by kernel_rfl, by kernel_rfl, by kernel_rfl, by kernel_rfl⟩
instance : Ty Try.prog 12 (Go.TypeDesc.int Go.IntKind.u64) (Go.Value.int Go.IntKind.u64 0) 1 8 := ⟨by kernel_rfl, Try.t12, by kernel_rfl, by kernel_rfl, by kernel_rfl, by kernel_rfl⟩
instance : Ty Try.prog 13 (Go.TypeDesc.struct #[{ name := "msg", type := 9, offset := 0, embedded := false, tag := "", pkgPath := "runtime", byteOffset := 0 }, { name := "addr", type := 12, offset := 1, embedded := false, tag := "", pkgPath := "runtime", byteOffset := 16 }]) (Go.Value.agg ⟨[(Go.Value.string { data := #[] }), (Go.Value.int Go.IntKind.u64 0)]⟩) 2 24 := ⟨by kernel_rfl, Try.t13, by kernel_rfl, by kernel_rfl, by kernel_rfl, by kernel_rfl⟩
instance : Ty Try.prog 14 (Go.TypeDesc.struct #[{ name := "msg", type := 9, offset := 0, embedded := false, tag := "", pkgPath := "runtime", byteOffset := 0 }, { name := "addr", type := 12, offset := 1, embedded := false, tag := "", pkgPath := "runtime", byteOffset := 16 }]) (Go.Value.agg ⟨[(Go.Value.string { data := #[] }), (Go.Value.int Go.IntKind.u64 0)]⟩) 2 24 := ⟨by kernel_rfl, Try.t14, by kernel_rfl, by kernel_rfl, by kernel_rfl, by kernel_rfl⟩
instance : Ty Try.prog 15 (Go.TypeDesc.pointer 80) (Go.Value.pointer none) 1 8 := ⟨by kernel_rfl, Try.t15, by kernel_rfl, by kernel_rfl, by kernel_rfl, by kernel_rfl⟩
instance : Ty Try.prog 16 (Go.TypeDesc.pointer 83) (Go.Value.pointer none) 1 8 := ⟨by kernel_rfl, Try.t16, by kernel_rfl, by kernel_rfl, by kernel_rfl, by kernel_rfl⟩
instance : Ty Try.prog 17 (Go.TypeDesc.pointer 92) (Go.Value.pointer none) 1 8 := ⟨by kernel_rfl, Try.t17, by kernel_rfl, by kernel_rfl, by kernel_rfl, by kernel_rfl⟩
instance : Ty Try.prog 18 (Go.TypeDesc.struct #[{ name := "typ", type := 17, offset := 0, embedded := false, tag := "", pkgPath := "internal/runtime/maps", byteOffset := 0 }]) (Go.Value.agg ⟨[(Go.Value.pointer none)]⟩) 1 8 := ⟨by kernel_rfl, Try.t18, by kernel_rfl, by kernel_rfl, by kernel_rfl, by kernel_rfl⟩
instance : Ty Try.prog 19 (Go.TypeDesc.struct #[{ name := "typ", type := 17, offset := 0, embedded := false, tag := "", pkgPath := "internal/runtime/maps", byteOffset := 0 }]) (Go.Value.agg ⟨[(Go.Value.pointer none)]⟩) 1 8 := ⟨by kernel_rfl, Try.t19, by kernel_rfl, by kernel_rfl, by kernel_rfl, by kernel_rfl⟩
instance : Ty Try.prog 20 (Go.TypeDesc.interface #[]) Go.Value.nilIface 1 16 := ⟨by kernel_rfl, Try.t20, by kernel_rfl, by kernel_rfl, by kernel_rfl, by kernel_rfl⟩
instance : Ty Try.prog 21 (Go.TypeDesc.int Go.IntKind.i32) (Go.Value.int Go.IntKind.i32 0) 1 4 := ⟨by kernel_rfl, Try.t21, by kernel_rfl, by kernel_rfl, by kernel_rfl, by kernel_rfl⟩
instance : Ty Try.prog 22 (Go.TypeDesc.pointer 64) (Go.Value.pointer none) 1 8 := ⟨by kernel_rfl, Try.t22, by kernel_rfl, by kernel_rfl, by kernel_rfl, by kernel_rfl⟩
instance : Ty Try.prog 23 (Go.TypeDesc.int Go.IntKind.i64) (Go.Value.int Go.IntKind.i64 0) 1 8 := ⟨by kernel_rfl, Try.t23, by kernel_rfl, by kernel_rfl, by kernel_rfl, by kernel_rfl⟩
instance : Ty Try.prog 25 (Go.TypeDesc.func #[3] #[22, 23] false) Go.Value.nilFunc 1 8 := ⟨by kernel_rfl, Try.t25, by kernel_rfl, by kernel_rfl, by kernel_rfl, by kernel_rfl⟩
instance : Ty Try.prog 26 (Go.TypeDesc.func #[] #[4] false) Go.Value.nilFunc 1 8 := ⟨by kernel_rfl, Try.t26, by kernel_rfl, by kernel_rfl, by kernel_rfl, by kernel_rfl⟩
instance : Ty Try.prog 27 (Go.TypeDesc.func #[3] #[23] false) Go.Value.nilFunc 1 8 := ⟨by kernel_rfl, Try.t27, by kernel_rfl, by kernel_rfl, by kernel_rfl, by kernel_rfl⟩
instance : Ty Try.prog 28 (Go.TypeDesc.func #[3, 29] #[23] false) Go.Value.nilFunc 1 8 := ⟨by kernel_rfl, Try.t28, by kernel_rfl, by kernel_rfl, by kernel_rfl, by kernel_rfl⟩
instance : Ty Try.prog 29 (Go.TypeDesc.slice 5) (Go.Value.slice none 0 0) 1 24 := ⟨by kernel_rfl, Try.t29, by kernel_rfl, by kernel_rfl, by kernel_rfl, by kernel_rfl⟩
instance : Ty Try.prog 30 (Go.TypeDesc.func #[5] #[29] false) Go.Value.nilFunc 1 8 := ⟨by kernel_rfl, Try.t30, by kernel_rfl, by kernel_rfl, by kernel_rfl, by kernel_rfl⟩
instance : Ty Try.prog 31 (Go.TypeDesc.func #[34] #[] false) Go.Value.nilFunc 1 8 := ⟨by kernel_rfl, Try.t31, by kernel_rfl, by kernel_rfl, by kernel_rfl, by kernel_rfl⟩
instance : Ty Try.prog 32 (Go.TypeDesc.struct #[{ name := "Write", type := 3, offset := 0, embedded := false, tag := "", pkgPath := "", byteOffset := 0 }, { name := "Sectors", type := 5, offset := 1, embedded := false, tag := "", pkgPath := "", byteOffset := 8 }]) (Go.Value.agg ⟨[(Go.Value.int Go.IntKind.i64 0), (Go.Value.int Go.IntKind.u8 0)]⟩) 2 16 := ⟨by kernel_rfl, Try.t32, by kernel_rfl, by kernel_rfl, by kernel_rfl, by kernel_rfl⟩
instance : Ty Try.prog 33 (Go.TypeDesc.struct #[{ name := "Write", type := 3, offset := 0, embedded := false, tag := "", pkgPath := "", byteOffset := 0 }, { name := "Sectors", type := 5, offset := 1, embedded := false, tag := "", pkgPath := "", byteOffset := 8 }]) (Go.Value.agg ⟨[(Go.Value.int Go.IntKind.i64 0), (Go.Value.int Go.IntKind.u8 0)]⟩) 2 16 := ⟨by kernel_rfl, Try.t33, by kernel_rfl, by kernel_rfl, by kernel_rfl, by kernel_rfl⟩
instance : Ty Try.prog 34 (Go.TypeDesc.slice 33) (Go.Value.slice none 0 0) 1 24 := ⟨by kernel_rfl, Try.t34, by kernel_rfl, by kernel_rfl, by kernel_rfl, by kernel_rfl⟩
instance : Ty Try.prog 36 (Go.TypeDesc.func #[3] #[29, 23] false) Go.Value.nilFunc 1 8 := ⟨by kernel_rfl, Try.t36, by kernel_rfl, by kernel_rfl, by kernel_rfl, by kernel_rfl⟩
instance : Ty Try.prog 37 (Go.TypeDesc.int Go.IntKind.u64) (Go.Value.int Go.IntKind.u64 0) 1 8 := ⟨by kernel_rfl, Try.t37, by kernel_rfl, by kernel_rfl, by kernel_rfl, by kernel_rfl⟩
instance : Ty Try.prog 38 (Go.TypeDesc.func #[5, 5, 5] #[4] false) Go.Value.nilFunc 1 8 := ⟨by kernel_rfl, Try.t38, by kernel_rfl, by kernel_rfl, by kernel_rfl, by kernel_rfl⟩
instance : Ty Try.prog 39 (Go.TypeDesc.func #[3] #[] false) Go.Value.nilFunc 1 8 := ⟨by kernel_rfl, Try.t39, by kernel_rfl, by kernel_rfl, by kernel_rfl, by kernel_rfl⟩
instance : Ty Try.prog 40 (Go.TypeDesc.func #[] #[3] false) Go.Value.nilFunc 1 8 := ⟨by kernel_rfl, Try.t40, by kernel_rfl, by kernel_rfl, by kernel_rfl, by kernel_rfl⟩
instance : Ty Try.prog 41 (Go.TypeDesc.func #[5, 5] #[4] false) Go.Value.nilFunc 1 8 := ⟨by kernel_rfl, Try.t41, by kernel_rfl, by kernel_rfl, by kernel_rfl, by kernel_rfl⟩
instance : Ty Try.prog 42 (Go.TypeDesc.slice 49) (Go.Value.slice none 0 0) 1 24 := ⟨by kernel_rfl, Try.t42, by kernel_rfl, by kernel_rfl, by kernel_rfl, by kernel_rfl⟩
instance : Ty Try.prog 43 (Go.TypeDesc.slice 9) (Go.Value.slice none 0 0) 1 24 := ⟨by kernel_rfl, Try.t43, by kernel_rfl, by kernel_rfl, by kernel_rfl, by kernel_rfl⟩
instance : Ty Try.prog 44 (Go.TypeDesc.slice 72) (Go.Value.slice none 0 0) 1 24 := ⟨by kernel_rfl, Try.t44, by kernel_rfl, by kernel_rfl, by kernel_rfl, by kernel_rfl⟩
instance : Ty Try.prog 45 (Go.TypeDesc.struct #[{ name := "Most", type := 3, offset := 0, embedded := false, tag := "", pkgPath := "", byteOffset := 0 }, { name := "Last", type := 43, offset := 1, embedded := false, tag := "", pkgPath := "", byteOffset := 8 }, { name := "Loose", type := 44, offset := 2, embedded := false, tag := "", pkgPath := "", byteOffset := 32 }, { name := "Burns", type := 4, offset := 3, embedded := false, tag := "", pkgPath := "", byteOffset := 56 }, { name := "Fuse", type := 3, offset := 4, embedded := false, tag := "", pkgPath := "", byteOffset := 64 }]) (Go.Value.agg ⟨[(Go.Value.int Go.IntKind.i64 0), (Go.Value.slice none 0 0), (Go.Value.slice none 0 0), (Go.Value.bool false), (Go.Value.int Go.IntKind.i64 0)]⟩) 5 72 := ⟨by kernel_rfl, Try.t45, by kernel_rfl, by kernel_rfl, by kernel_rfl, by kernel_rfl⟩
instance : Ty Try.prog 46 (Go.TypeDesc.struct #[{ name := "Most", type := 3, offset := 0, embedded := false, tag := "", pkgPath := "", byteOffset := 0 }, { name := "Last", type := 43, offset := 1, embedded := false, tag := "", pkgPath := "", byteOffset := 8 }, { name := "Loose", type := 44, offset := 2, embedded := false, tag := "", pkgPath := "", byteOffset := 32 }, { name := "Burns", type := 4, offset := 3, embedded := false, tag := "", pkgPath := "", byteOffset := 56 }, { name := "Fuse", type := 3, offset := 4, embedded := false, tag := "", pkgPath := "", byteOffset := 64 }]) (Go.Value.agg ⟨[(Go.Value.int Go.IntKind.i64 0), (Go.Value.slice none 0 0), (Go.Value.slice none 0 0), (Go.Value.bool false), (Go.Value.int Go.IntKind.i64 0)]⟩) 5 72 := ⟨by kernel_rfl, Try.t46, by kernel_rfl, by kernel_rfl, by kernel_rfl, by kernel_rfl⟩
instance : Ty Try.prog 47 (Go.TypeDesc.func #[49] #[4] false) Go.Value.nilFunc 1 8 := ⟨by kernel_rfl, Try.t47, by kernel_rfl, by kernel_rfl, by kernel_rfl, by kernel_rfl⟩
instance : Ty Try.prog 48 (Go.TypeDesc.struct #[{ name := "Kind", type := 3, offset := 0, embedded := false, tag := "", pkgPath := "", byteOffset := 0 }, { name := "N", type := 3, offset := 1, embedded := false, tag := "", pkgPath := "", byteOffset := 8 }, { name := "Page", type := 3, offset := 2, embedded := false, tag := "", pkgPath := "", byteOffset := 16 }, { name := "At", type := 3, offset := 3, embedded := false, tag := "", pkgPath := "", byteOffset := 24 }, { name := "S", type := 9, offset := 4, embedded := false, tag := "", pkgPath := "", byteOffset := 32 }, { name := "Kept", type := 34, offset := 5, embedded := false, tag := "", pkgPath := "", byteOffset := 48 }]) (Go.Value.agg ⟨[(Go.Value.int Go.IntKind.i64 0), (Go.Value.int Go.IntKind.i64 0), (Go.Value.int Go.IntKind.i64 0), (Go.Value.int Go.IntKind.i64 0), (Go.Value.string { data := #[] }), (Go.Value.slice none 0 0)]⟩) 6 72 := ⟨by kernel_rfl, Try.t48, by kernel_rfl, by kernel_rfl, by kernel_rfl, by kernel_rfl⟩
instance : Ty Try.prog 49 (Go.TypeDesc.struct #[{ name := "Kind", type := 3, offset := 0, embedded := false, tag := "", pkgPath := "", byteOffset := 0 }, { name := "N", type := 3, offset := 1, embedded := false, tag := "", pkgPath := "", byteOffset := 8 }, { name := "Page", type := 3, offset := 2, embedded := false, tag := "", pkgPath := "", byteOffset := 16 }, { name := "At", type := 3, offset := 3, embedded := false, tag := "", pkgPath := "", byteOffset := 24 }, { name := "S", type := 9, offset := 4, embedded := false, tag := "", pkgPath := "", byteOffset := 32 }, { name := "Kept", type := 34, offset := 5, embedded := false, tag := "", pkgPath := "", byteOffset := 48 }]) (Go.Value.agg ⟨[(Go.Value.int Go.IntKind.i64 0), (Go.Value.int Go.IntKind.i64 0), (Go.Value.int Go.IntKind.i64 0), (Go.Value.int Go.IntKind.i64 0), (Go.Value.string { data := #[] }), (Go.Value.slice none 0 0)]⟩) 6 72 := ⟨by kernel_rfl, Try.t49, by kernel_rfl, by kernel_rfl, by kernel_rfl, by kernel_rfl⟩
instance : Ty Try.prog 51 (Go.TypeDesc.func #[46, 49] #[46, 23] false) Go.Value.nilFunc 1 8 := ⟨by kernel_rfl, Try.t51, by kernel_rfl, by kernel_rfl, by kernel_rfl, by kernel_rfl⟩
instance : Ty Try.prog 52 (Go.TypeDesc.func #[22, 49] #[23] false) Go.Value.nilFunc 1 8 := ⟨by kernel_rfl, Try.t52, by kernel_rfl, by kernel_rfl, by kernel_rfl, by kernel_rfl⟩
instance : Ty Try.prog 53 (Go.TypeDesc.func #[22, 46] #[4] false) Go.Value.nilFunc 1 8 := ⟨by kernel_rfl, Try.t53, by kernel_rfl, by kernel_rfl, by kernel_rfl, by kernel_rfl⟩
instance : Ty Try.prog 54 (Go.TypeDesc.func #[3, 42] #[4] false) Go.Value.nilFunc 1 8 := ⟨by kernel_rfl, Try.t54, by kernel_rfl, by kernel_rfl, by kernel_rfl, by kernel_rfl⟩
instance : Ty Try.prog 55 (Go.TypeDesc.func #[] #[22] false) Go.Value.nilFunc 1 8 := ⟨by kernel_rfl, Try.t55, by kernel_rfl, by kernel_rfl, by kernel_rfl, by kernel_rfl⟩
instance : Ty Try.prog 56 (Go.TypeDesc.func #[42, 42, 42] #[4] false) Go.Value.nilFunc 1 8 := ⟨by kernel_rfl, Try.t56, by kernel_rfl, by kernel_rfl, by kernel_rfl, by kernel_rfl⟩
instance : Ty Try.prog 57 (Go.TypeDesc.slice 4) (Go.Value.slice none 0 0) 1 24 := ⟨by kernel_rfl, Try.t57, by kernel_rfl, by kernel_rfl, by kernel_rfl, by kernel_rfl⟩
instance : Ty Try.prog 58 (Go.TypeDesc.func #[42, 57] #[4] false) Go.Value.nilFunc 1 8 := ⟨by kernel_rfl, Try.t58, by kernel_rfl, by kernel_rfl, by kernel_rfl, by kernel_rfl⟩
instance : Ty Try.prog 59 (Go.TypeDesc.func #[42, 34] #[4] false) Go.Value.nilFunc 1 8 := ⟨by kernel_rfl, Try.t59, by kernel_rfl, by kernel_rfl, by kernel_rfl, by kernel_rfl⟩
instance : Ty Try.prog 60 (Go.TypeDesc.func #[42, 3] #[4] false) Go.Value.nilFunc 1 8 := ⟨by kernel_rfl, Try.t60, by kernel_rfl, by kernel_rfl, by kernel_rfl, by kernel_rfl⟩
instance : Ty Try.prog 61 (Go.TypeDesc.map 3 29) (Go.Value.map none) 1 8 := ⟨by kernel_rfl, Try.t61, by kernel_rfl, by kernel_rfl, by kernel_rfl, by kernel_rfl⟩
instance : Ty Try.prog 62 (Go.TypeDesc.slice 68) (Go.Value.slice none 0 0) 1 24 := ⟨by kernel_rfl, Try.t62, by kernel_rfl, by kernel_rfl, by kernel_rfl, by kernel_rfl⟩
instance : Ty Try.prog 63 (Go.TypeDesc.struct #[{ name := "most", type := 3, offset := 0, embedded := false, tag := "", pkgPath := "lunette/disk", byteOffset := 0 }, { name := "pages", type := 3, offset := 1, embedded := false, tag := "", pkgPath := "lunette/disk", byteOffset := 8 }, { name := "last", type := 61, offset := 2, embedded := false, tag := "", pkgPath := "lunette/disk", byteOffset := 16 }, { name := "loose", type := 62, offset := 3, embedded := false, tag := "", pkgPath := "lunette/disk", byteOffset := 24 }, { name := "now", type := 61, offset := 4, embedded := false, tag := "", pkgPath := "lunette/disk", byteOffset := 48 }, { name := "fuse", type := 3, offset := 5, embedded := false, tag := "", pkgPath := "lunette/disk", byteOffset := 56 }, { name := "burns", type := 4, offset := 6, embedded := false, tag := "", pkgPath := "lunette/disk", byteOffset := 64 }]) (Go.Value.agg ⟨[(Go.Value.int Go.IntKind.i64 0), (Go.Value.int Go.IntKind.i64 0), (Go.Value.map none), (Go.Value.slice none 0 0), (Go.Value.map none), (Go.Value.int Go.IntKind.i64 0), (Go.Value.bool false)]⟩) 7 72 := ⟨by kernel_rfl, Try.t63, by kernel_rfl, by kernel_rfl, by kernel_rfl, by kernel_rfl⟩
instance : Ty Try.prog 64 (Go.TypeDesc.struct #[{ name := "most", type := 3, offset := 0, embedded := false, tag := "", pkgPath := "lunette/disk", byteOffset := 0 }, { name := "pages", type := 3, offset := 1, embedded := false, tag := "", pkgPath := "lunette/disk", byteOffset := 8 }, { name := "last", type := 61, offset := 2, embedded := false, tag := "", pkgPath := "lunette/disk", byteOffset := 16 }, { name := "loose", type := 62, offset := 3, embedded := false, tag := "", pkgPath := "lunette/disk", byteOffset := 24 }, { name := "now", type := 61, offset := 4, embedded := false, tag := "", pkgPath := "lunette/disk", byteOffset := 48 }, { name := "fuse", type := 3, offset := 5, embedded := false, tag := "", pkgPath := "lunette/disk", byteOffset := 56 }, { name := "burns", type := 4, offset := 6, embedded := false, tag := "", pkgPath := "lunette/disk", byteOffset := 64 }]) (Go.Value.agg ⟨[(Go.Value.int Go.IntKind.i64 0), (Go.Value.int Go.IntKind.i64 0), (Go.Value.map none), (Go.Value.slice none 0 0), (Go.Value.map none), (Go.Value.int Go.IntKind.i64 0), (Go.Value.bool false)]⟩) 7 72 := ⟨by kernel_rfl, Try.t64, by kernel_rfl, by kernel_rfl, by kernel_rfl, by kernel_rfl⟩
instance : Ty Try.prog 65 (Go.TypeDesc.func #[3] #[4] false) Go.Value.nilFunc 1 8 := ⟨by kernel_rfl, Try.t65, by kernel_rfl, by kernel_rfl, by kernel_rfl, by kernel_rfl⟩
instance : Ty Try.prog 66 (Go.TypeDesc.func #[29] #[29] false) Go.Value.nilFunc 1 8 := ⟨by kernel_rfl, Try.t66, by kernel_rfl, by kernel_rfl, by kernel_rfl, by kernel_rfl⟩
instance : Ty Try.prog 67 (Go.TypeDesc.struct #[{ name := "page", type := 3, offset := 0, embedded := false, tag := "", pkgPath := "lunette/disk", byteOffset := 0 }, { name := "b", type := 29, offset := 1, embedded := false, tag := "", pkgPath := "lunette/disk", byteOffset := 8 }]) (Go.Value.agg ⟨[(Go.Value.int Go.IntKind.i64 0), (Go.Value.slice none 0 0)]⟩) 2 32 := ⟨by kernel_rfl, Try.t67, by kernel_rfl, by kernel_rfl, by kernel_rfl, by kernel_rfl⟩
instance : Ty Try.prog 68 (Go.TypeDesc.struct #[{ name := "page", type := 3, offset := 0, embedded := false, tag := "", pkgPath := "lunette/disk", byteOffset := 0 }, { name := "b", type := 29, offset := 1, embedded := false, tag := "", pkgPath := "lunette/disk", byteOffset := 8 }]) (Go.Value.agg ⟨[(Go.Value.int Go.IntKind.i64 0), (Go.Value.slice none 0 0)]⟩) 2 32 := ⟨by kernel_rfl, Try.t68, by kernel_rfl, by kernel_rfl, by kernel_rfl, by kernel_rfl⟩
instance : Ty Try.prog 70 (Go.TypeDesc.func #[] #[9] false) Go.Value.nilFunc 1 8 := ⟨by kernel_rfl, Try.t70, by kernel_rfl, by kernel_rfl, by kernel_rfl, by kernel_rfl⟩
instance : Ty Try.prog 71 (Go.TypeDesc.struct #[{ name := "Page", type := 3, offset := 0, embedded := false, tag := "", pkgPath := "", byteOffset := 0 }, { name := "S", type := 9, offset := 1, embedded := false, tag := "", pkgPath := "", byteOffset := 8 }]) (Go.Value.agg ⟨[(Go.Value.int Go.IntKind.i64 0), (Go.Value.string { data := #[] })]⟩) 2 24 := ⟨by kernel_rfl, Try.t71, by kernel_rfl, by kernel_rfl, by kernel_rfl, by kernel_rfl⟩
instance : Ty Try.prog 72 (Go.TypeDesc.struct #[{ name := "Page", type := 3, offset := 0, embedded := false, tag := "", pkgPath := "", byteOffset := 0 }, { name := "S", type := 9, offset := 1, embedded := false, tag := "", pkgPath := "", byteOffset := 8 }]) (Go.Value.agg ⟨[(Go.Value.int Go.IntKind.i64 0), (Go.Value.string { data := #[] })]⟩) 2 24 := ⟨by kernel_rfl, Try.t72, by kernel_rfl, by kernel_rfl, by kernel_rfl, by kernel_rfl⟩
instance : Ty Try.prog 73 (Go.TypeDesc.func #[43, 3, 9] #[43] false) Go.Value.nilFunc 1 8 := ⟨by kernel_rfl, Try.t73, by kernel_rfl, by kernel_rfl, by kernel_rfl, by kernel_rfl⟩
instance : Ty Try.prog 74 (Go.TypeDesc.func #[9, 9, 5] #[9] false) Go.Value.nilFunc 1 8 := ⟨by kernel_rfl, Try.t74, by kernel_rfl, by kernel_rfl, by kernel_rfl, by kernel_rfl⟩
instance : Ty Try.prog 75 (Go.TypeDesc.func #[9, 3, 9] #[9] false) Go.Value.nilFunc 1 8 := ⟨by kernel_rfl, Try.t75, by kernel_rfl, by kernel_rfl, by kernel_rfl, by kernel_rfl⟩
instance : Ty Try.prog 76 (Go.TypeDesc.func #[3, 3, 29] #[23] false) Go.Value.nilFunc 1 8 := ⟨by kernel_rfl, Try.t76, by kernel_rfl, by kernel_rfl, by kernel_rfl, by kernel_rfl⟩
instance : Ty Try.prog 78 (Go.TypeDesc.func #[46, 3] #[9, 23] false) Go.Value.nilFunc 1 8 := ⟨by kernel_rfl, Try.t78, by kernel_rfl, by kernel_rfl, by kernel_rfl, by kernel_rfl⟩
instance : Ty Try.prog 79 (Go.TypeDesc.struct #[{ name := "_interface", type := 17, offset := 0, embedded := false, tag := "", pkgPath := "runtime", byteOffset := 0 }, { name := "concrete", type := 17, offset := 1, embedded := false, tag := "", pkgPath := "runtime", byteOffset := 8 }, { name := "asserted", type := 17, offset := 2, embedded := false, tag := "", pkgPath := "runtime", byteOffset := 16 }, { name := "missingMethod", type := 9, offset := 3, embedded := false, tag := "", pkgPath := "runtime", byteOffset := 24 }]) (Go.Value.agg ⟨[(Go.Value.pointer none), (Go.Value.pointer none), (Go.Value.pointer none), (Go.Value.string { data := #[] })]⟩) 4 40 := ⟨by kernel_rfl, Try.t79, by kernel_rfl, by kernel_rfl, by kernel_rfl, by kernel_rfl⟩
instance : Ty Try.prog 80 (Go.TypeDesc.struct #[{ name := "_interface", type := 17, offset := 0, embedded := false, tag := "", pkgPath := "runtime", byteOffset := 0 }, { name := "concrete", type := 17, offset := 1, embedded := false, tag := "", pkgPath := "runtime", byteOffset := 8 }, { name := "asserted", type := 17, offset := 2, embedded := false, tag := "", pkgPath := "runtime", byteOffset := 16 }, { name := "missingMethod", type := 9, offset := 3, embedded := false, tag := "", pkgPath := "runtime", byteOffset := 24 }]) (Go.Value.agg ⟨[(Go.Value.pointer none), (Go.Value.pointer none), (Go.Value.pointer none), (Go.Value.string { data := #[] })]⟩) 4 40 := ⟨by kernel_rfl, Try.t80, by kernel_rfl, by kernel_rfl, by kernel_rfl, by kernel_rfl⟩
instance : Ty Try.prog 81 (Go.TypeDesc.array 0 16) (Go.Value.agg ⟨[]⟩) 0 0 := ⟨by kernel_rfl, Try.t81, by kernel_rfl, by kernel_rfl, by kernel_rfl, by kernel_rfl⟩
instance : Ty Try.prog 82 (Go.TypeDesc.struct #[{ name := "_", type := 81, offset := 0, embedded := false, tag := "", pkgPath := "runtime", byteOffset := 0 }]) (Go.Value.agg ⟨[]⟩) 0 0 := ⟨by kernel_rfl, Try.t82, by kernel_rfl, by kernel_rfl, by kernel_rfl, by kernel_rfl⟩
instance : Ty Try.prog 83 (Go.TypeDesc.struct #[{ name := "_", type := 81, offset := 0, embedded := false, tag := "", pkgPath := "runtime", byteOffset := 0 }]) (Go.Value.agg ⟨[]⟩) 0 0 := ⟨by kernel_rfl, Try.t83, by kernel_rfl, by kernel_rfl, by kernel_rfl, by kernel_rfl⟩
instance : Ty Try.prog 84 (Go.TypeDesc.int Go.IntKind.u32) (Go.Value.int Go.IntKind.u32 0) 1 4 := ⟨by kernel_rfl, Try.t84, by kernel_rfl, by kernel_rfl, by kernel_rfl, by kernel_rfl⟩
instance : Ty Try.prog 85 (Go.TypeDesc.int Go.IntKind.u8) (Go.Value.int Go.IntKind.u8 0) 1 1 := ⟨by kernel_rfl, Try.t85, by kernel_rfl, by kernel_rfl, by kernel_rfl, by kernel_rfl⟩
instance : Ty Try.prog 86 (Go.TypeDesc.int Go.IntKind.u8) (Go.Value.int Go.IntKind.u8 0) 1 1 := ⟨by kernel_rfl, Try.t86, by kernel_rfl, by kernel_rfl, by kernel_rfl, by kernel_rfl⟩
instance : Ty Try.prog 87 (Go.TypeDesc.func #[93, 93] #[4] false) Go.Value.nilFunc 1 8 := ⟨by kernel_rfl, Try.t87, by kernel_rfl, by kernel_rfl, by kernel_rfl, by kernel_rfl⟩
instance : Ty Try.prog 88 (Go.TypeDesc.pointer 5) (Go.Value.pointer none) 1 8 := ⟨by kernel_rfl, Try.t88, by kernel_rfl, by kernel_rfl, by kernel_rfl, by kernel_rfl⟩
instance : Ty Try.prog 89 (Go.TypeDesc.int Go.IntKind.i32) (Go.Value.int Go.IntKind.i32 0) 1 4 := ⟨by kernel_rfl, Try.t89, by kernel_rfl, by kernel_rfl, by kernel_rfl, by kernel_rfl⟩
instance : Ty Try.prog 90 (Go.TypeDesc.int Go.IntKind.i32) (Go.Value.int Go.IntKind.i32 0) 1 4 := ⟨by kernel_rfl, Try.t90, by kernel_rfl, by kernel_rfl, by kernel_rfl, by kernel_rfl⟩
instance : Ty Try.prog 91 (Go.TypeDesc.struct #[{ name := "Size_", type := 12, offset := 0, embedded := false, tag := "", pkgPath := "", byteOffset := 0 }, { name := "PtrBytes", type := 12, offset := 1, embedded := false, tag := "", pkgPath := "", byteOffset := 8 }, { name := "Hash", type := 84, offset := 2, embedded := false, tag := "", pkgPath := "", byteOffset := 16 }, { name := "TFlag", type := 85, offset := 3, embedded := false, tag := "", pkgPath := "", byteOffset := 20 }, { name := "Align_", type := 5, offset := 4, embedded := false, tag := "", pkgPath := "", byteOffset := 21 }, { name := "FieldAlign_", type := 5, offset := 5, embedded := false, tag := "", pkgPath := "", byteOffset := 22 }, { name := "Kind_", type := 86, offset := 6, embedded := false, tag := "", pkgPath := "", byteOffset := 23 }, { name := "Equal", type := 87, offset := 7, embedded := false, tag := "", pkgPath := "", byteOffset := 24 }, { name := "GCData", type := 88, offset := 8, embedded := false, tag := "", pkgPath := "", byteOffset := 32 }, { name := "Str", type := 89, offset := 9, embedded := false, tag := "", pkgPath := "", byteOffset := 40 }, { name := "PtrToThis", type := 90, offset := 10, embedded := false, tag := "", pkgPath := "", byteOffset := 44 }]) (Go.Value.agg ⟨[(Go.Value.int Go.IntKind.u64 0), (Go.Value.int Go.IntKind.u64 0), (Go.Value.int Go.IntKind.u32 0), (Go.Value.int Go.IntKind.u8 0), (Go.Value.int Go.IntKind.u8 0), (Go.Value.int Go.IntKind.u8 0), (Go.Value.int Go.IntKind.u8 0), Go.Value.nilFunc, (Go.Value.pointer none), (Go.Value.int Go.IntKind.i32 0), (Go.Value.int Go.IntKind.i32 0)]⟩) 11 48 := ⟨by kernel_rfl, Try.t91, by kernel_rfl, by kernel_rfl, by kernel_rfl, by kernel_rfl⟩
instance : Ty Try.prog 92 (Go.TypeDesc.struct #[{ name := "Size_", type := 12, offset := 0, embedded := false, tag := "", pkgPath := "", byteOffset := 0 }, { name := "PtrBytes", type := 12, offset := 1, embedded := false, tag := "", pkgPath := "", byteOffset := 8 }, { name := "Hash", type := 84, offset := 2, embedded := false, tag := "", pkgPath := "", byteOffset := 16 }, { name := "TFlag", type := 85, offset := 3, embedded := false, tag := "", pkgPath := "", byteOffset := 20 }, { name := "Align_", type := 5, offset := 4, embedded := false, tag := "", pkgPath := "", byteOffset := 21 }, { name := "FieldAlign_", type := 5, offset := 5, embedded := false, tag := "", pkgPath := "", byteOffset := 22 }, { name := "Kind_", type := 86, offset := 6, embedded := false, tag := "", pkgPath := "", byteOffset := 23 }, { name := "Equal", type := 87, offset := 7, embedded := false, tag := "", pkgPath := "", byteOffset := 24 }, { name := "GCData", type := 88, offset := 8, embedded := false, tag := "", pkgPath := "", byteOffset := 32 }, { name := "Str", type := 89, offset := 9, embedded := false, tag := "", pkgPath := "", byteOffset := 40 }, { name := "PtrToThis", type := 90, offset := 10, embedded := false, tag := "", pkgPath := "", byteOffset := 44 }]) (Go.Value.agg ⟨[(Go.Value.int Go.IntKind.u64 0), (Go.Value.int Go.IntKind.u64 0), (Go.Value.int Go.IntKind.u32 0), (Go.Value.int Go.IntKind.u8 0), (Go.Value.int Go.IntKind.u8 0), (Go.Value.int Go.IntKind.u8 0), (Go.Value.int Go.IntKind.u8 0), Go.Value.nilFunc, (Go.Value.pointer none), (Go.Value.int Go.IntKind.i32 0), (Go.Value.int Go.IntKind.i32 0)]⟩) 11 48 := ⟨by kernel_rfl, Try.t92, by kernel_rfl, by kernel_rfl, by kernel_rfl, by kernel_rfl⟩
instance : Ty Try.prog 93 Go.TypeDesc.unsafePointer (Go.Value.pointer none) 1 8 := ⟨by kernel_rfl, Try.t93, by kernel_rfl, by kernel_rfl, by kernel_rfl, by kernel_rfl⟩
instance : Fld Try.prog 7 0 0 := Fld.of (fl := { name := "x", type := 2, offset := 0, embedded := false, tag := "", pkgPath := "runtime", byteOffset := 0 }) rfl inferInstance rfl
instance : Fld Try.prog 7 1 1 := Fld.of (fl := { name := "y", type := 3, offset := 1, embedded := false, tag := "", pkgPath := "runtime", byteOffset := 8 }) rfl inferInstance rfl
instance : Fld Try.prog 7 2 2 := Fld.of (fl := { name := "signed", type := 4, offset := 2, embedded := false, tag := "", pkgPath := "runtime", byteOffset := 16 }) rfl inferInstance rfl
instance : Fld Try.prog 7 3 3 := Fld.of (fl := { name := "code", type := 6, offset := 3, embedded := false, tag := "", pkgPath := "runtime", byteOffset := 17 }) rfl inferInstance rfl
instance : Plcs Try.prog 7 [(0, 1), (1, 1), (2, 1), (3, 1)] := Plcs.of (fs := [{ name := "x", type := 2, offset := 0, embedded := false, tag := "", pkgPath := "runtime", byteOffset := 0 }, { name := "y", type := 3, offset := 1, embedded := false, tag := "", pkgPath := "runtime", byteOffset := 8 }, { name := "signed", type := 4, offset := 2, embedded := false, tag := "", pkgPath := "runtime", byteOffset := 16 }, { name := "code", type := 6, offset := 3, embedded := false, tag := "", pkgPath := "runtime", byteOffset := 17 }]) inferInstance ⟨rfl, fun w i f p hf hp => by
  match i, hf, hp with
  | 0, hf, hp => cases hf; cases hp; exact ⟨rfl, run_size⟩
  | 1, hf, hp => cases hf; cases hp; exact ⟨rfl, run_size⟩
  | 2, hf, hp => cases hf; cases hp; exact ⟨rfl, run_size⟩
  | 3, hf, hp => cases hf; cases hp; exact ⟨rfl, run_size⟩
  | i + 4, hf, hp => simp at hf⟩
instance : Fld Try.prog 8 0 0 := Fld.of (fl := { name := "x", type := 2, offset := 0, embedded := false, tag := "", pkgPath := "runtime", byteOffset := 0 }) rfl inferInstance rfl
instance : Fld Try.prog 8 1 1 := Fld.of (fl := { name := "y", type := 3, offset := 1, embedded := false, tag := "", pkgPath := "runtime", byteOffset := 8 }) rfl inferInstance rfl
instance : Fld Try.prog 8 2 2 := Fld.of (fl := { name := "signed", type := 4, offset := 2, embedded := false, tag := "", pkgPath := "runtime", byteOffset := 16 }) rfl inferInstance rfl
instance : Fld Try.prog 8 3 3 := Fld.of (fl := { name := "code", type := 6, offset := 3, embedded := false, tag := "", pkgPath := "runtime", byteOffset := 17 }) rfl inferInstance rfl
instance : Plcs Try.prog 8 [(0, 1), (1, 1), (2, 1), (3, 1)] := Plcs.of (fs := [{ name := "x", type := 2, offset := 0, embedded := false, tag := "", pkgPath := "runtime", byteOffset := 0 }, { name := "y", type := 3, offset := 1, embedded := false, tag := "", pkgPath := "runtime", byteOffset := 8 }, { name := "signed", type := 4, offset := 2, embedded := false, tag := "", pkgPath := "runtime", byteOffset := 16 }, { name := "code", type := 6, offset := 3, embedded := false, tag := "", pkgPath := "runtime", byteOffset := 17 }]) inferInstance ⟨rfl, fun w i f p hf hp => by
  match i, hf, hp with
  | 0, hf, hp => cases hf; cases hp; exact ⟨rfl, run_size⟩
  | 1, hf, hp => cases hf; cases hp; exact ⟨rfl, run_size⟩
  | 2, hf, hp => cases hf; cases hp; exact ⟨rfl, run_size⟩
  | 3, hf, hp => cases hf; cases hp; exact ⟨rfl, run_size⟩
  | i + 4, hf, hp => simp at hf⟩
instance : Fld Try.prog 13 0 0 := Fld.of (fl := { name := "msg", type := 9, offset := 0, embedded := false, tag := "", pkgPath := "runtime", byteOffset := 0 }) rfl inferInstance rfl
instance : Fld Try.prog 13 1 1 := Fld.of (fl := { name := "addr", type := 12, offset := 1, embedded := false, tag := "", pkgPath := "runtime", byteOffset := 16 }) rfl inferInstance rfl
instance : Plcs Try.prog 13 [(0, 1), (1, 1)] := Plcs.of (fs := [{ name := "msg", type := 9, offset := 0, embedded := false, tag := "", pkgPath := "runtime", byteOffset := 0 }, { name := "addr", type := 12, offset := 1, embedded := false, tag := "", pkgPath := "runtime", byteOffset := 16 }]) inferInstance ⟨rfl, fun w i f p hf hp => by
  match i, hf, hp with
  | 0, hf, hp => cases hf; cases hp; exact ⟨rfl, run_size⟩
  | 1, hf, hp => cases hf; cases hp; exact ⟨rfl, run_size⟩
  | i + 2, hf, hp => simp at hf⟩
instance : Fld Try.prog 14 0 0 := Fld.of (fl := { name := "msg", type := 9, offset := 0, embedded := false, tag := "", pkgPath := "runtime", byteOffset := 0 }) rfl inferInstance rfl
instance : Fld Try.prog 14 1 1 := Fld.of (fl := { name := "addr", type := 12, offset := 1, embedded := false, tag := "", pkgPath := "runtime", byteOffset := 16 }) rfl inferInstance rfl
instance : Plcs Try.prog 14 [(0, 1), (1, 1)] := Plcs.of (fs := [{ name := "msg", type := 9, offset := 0, embedded := false, tag := "", pkgPath := "runtime", byteOffset := 0 }, { name := "addr", type := 12, offset := 1, embedded := false, tag := "", pkgPath := "runtime", byteOffset := 16 }]) inferInstance ⟨rfl, fun w i f p hf hp => by
  match i, hf, hp with
  | 0, hf, hp => cases hf; cases hp; exact ⟨rfl, run_size⟩
  | 1, hf, hp => cases hf; cases hp; exact ⟨rfl, run_size⟩
  | i + 2, hf, hp => simp at hf⟩
instance : Fld Try.prog 18 0 0 := Fld.of (fl := { name := "typ", type := 17, offset := 0, embedded := false, tag := "", pkgPath := "internal/runtime/maps", byteOffset := 0 }) rfl inferInstance rfl
instance : Plcs Try.prog 18 [(0, 1)] := Plcs.of (fs := [{ name := "typ", type := 17, offset := 0, embedded := false, tag := "", pkgPath := "internal/runtime/maps", byteOffset := 0 }]) inferInstance ⟨rfl, fun w i f p hf hp => by
  match i, hf, hp with
  | 0, hf, hp => cases hf; cases hp; exact ⟨rfl, run_size⟩
  | i + 1, hf, hp => simp at hf⟩
instance : Fld Try.prog 19 0 0 := Fld.of (fl := { name := "typ", type := 17, offset := 0, embedded := false, tag := "", pkgPath := "internal/runtime/maps", byteOffset := 0 }) rfl inferInstance rfl
instance : Plcs Try.prog 19 [(0, 1)] := Plcs.of (fs := [{ name := "typ", type := 17, offset := 0, embedded := false, tag := "", pkgPath := "internal/runtime/maps", byteOffset := 0 }]) inferInstance ⟨rfl, fun w i f p hf hp => by
  match i, hf, hp with
  | 0, hf, hp => cases hf; cases hp; exact ⟨rfl, run_size⟩
  | i + 1, hf, hp => simp at hf⟩
instance : Fld Try.prog 32 0 0 := Fld.of (fl := { name := "Write", type := 3, offset := 0, embedded := false, tag := "", pkgPath := "", byteOffset := 0 }) rfl inferInstance rfl
instance : Fld Try.prog 32 1 1 := Fld.of (fl := { name := "Sectors", type := 5, offset := 1, embedded := false, tag := "", pkgPath := "", byteOffset := 8 }) rfl inferInstance rfl
instance : Plcs Try.prog 32 [(0, 1), (1, 1)] := Plcs.of (fs := [{ name := "Write", type := 3, offset := 0, embedded := false, tag := "", pkgPath := "", byteOffset := 0 }, { name := "Sectors", type := 5, offset := 1, embedded := false, tag := "", pkgPath := "", byteOffset := 8 }]) inferInstance ⟨rfl, fun w i f p hf hp => by
  match i, hf, hp with
  | 0, hf, hp => cases hf; cases hp; exact ⟨rfl, run_size⟩
  | 1, hf, hp => cases hf; cases hp; exact ⟨rfl, run_size⟩
  | i + 2, hf, hp => simp at hf⟩
instance : Fld Try.prog 33 0 0 := Fld.of (fl := { name := "Write", type := 3, offset := 0, embedded := false, tag := "", pkgPath := "", byteOffset := 0 }) rfl inferInstance rfl
instance : Fld Try.prog 33 1 1 := Fld.of (fl := { name := "Sectors", type := 5, offset := 1, embedded := false, tag := "", pkgPath := "", byteOffset := 8 }) rfl inferInstance rfl
instance : Plcs Try.prog 33 [(0, 1), (1, 1)] := Plcs.of (fs := [{ name := "Write", type := 3, offset := 0, embedded := false, tag := "", pkgPath := "", byteOffset := 0 }, { name := "Sectors", type := 5, offset := 1, embedded := false, tag := "", pkgPath := "", byteOffset := 8 }]) inferInstance ⟨rfl, fun w i f p hf hp => by
  match i, hf, hp with
  | 0, hf, hp => cases hf; cases hp; exact ⟨rfl, run_size⟩
  | 1, hf, hp => cases hf; cases hp; exact ⟨rfl, run_size⟩
  | i + 2, hf, hp => simp at hf⟩
instance : Fld Try.prog 45 0 0 := Fld.of (fl := { name := "Most", type := 3, offset := 0, embedded := false, tag := "", pkgPath := "", byteOffset := 0 }) rfl inferInstance rfl
instance : Fld Try.prog 45 1 1 := Fld.of (fl := { name := "Last", type := 43, offset := 1, embedded := false, tag := "", pkgPath := "", byteOffset := 8 }) rfl inferInstance rfl
instance : Fld Try.prog 45 2 2 := Fld.of (fl := { name := "Loose", type := 44, offset := 2, embedded := false, tag := "", pkgPath := "", byteOffset := 32 }) rfl inferInstance rfl
instance : Fld Try.prog 45 3 3 := Fld.of (fl := { name := "Burns", type := 4, offset := 3, embedded := false, tag := "", pkgPath := "", byteOffset := 56 }) rfl inferInstance rfl
instance : Fld Try.prog 45 4 4 := Fld.of (fl := { name := "Fuse", type := 3, offset := 4, embedded := false, tag := "", pkgPath := "", byteOffset := 64 }) rfl inferInstance rfl
instance : Plcs Try.prog 45 [(0, 1), (1, 1), (2, 1), (3, 1), (4, 1)] := Plcs.of (fs := [{ name := "Most", type := 3, offset := 0, embedded := false, tag := "", pkgPath := "", byteOffset := 0 }, { name := "Last", type := 43, offset := 1, embedded := false, tag := "", pkgPath := "", byteOffset := 8 }, { name := "Loose", type := 44, offset := 2, embedded := false, tag := "", pkgPath := "", byteOffset := 32 }, { name := "Burns", type := 4, offset := 3, embedded := false, tag := "", pkgPath := "", byteOffset := 56 }, { name := "Fuse", type := 3, offset := 4, embedded := false, tag := "", pkgPath := "", byteOffset := 64 }]) inferInstance ⟨rfl, fun w i f p hf hp => by
  match i, hf, hp with
  | 0, hf, hp => cases hf; cases hp; exact ⟨rfl, run_size⟩
  | 1, hf, hp => cases hf; cases hp; exact ⟨rfl, run_size⟩
  | 2, hf, hp => cases hf; cases hp; exact ⟨rfl, run_size⟩
  | 3, hf, hp => cases hf; cases hp; exact ⟨rfl, run_size⟩
  | 4, hf, hp => cases hf; cases hp; exact ⟨rfl, run_size⟩
  | i + 5, hf, hp => simp at hf⟩
instance : Fld Try.prog 46 0 0 := Fld.of (fl := { name := "Most", type := 3, offset := 0, embedded := false, tag := "", pkgPath := "", byteOffset := 0 }) rfl inferInstance rfl
instance : Fld Try.prog 46 1 1 := Fld.of (fl := { name := "Last", type := 43, offset := 1, embedded := false, tag := "", pkgPath := "", byteOffset := 8 }) rfl inferInstance rfl
instance : Fld Try.prog 46 2 2 := Fld.of (fl := { name := "Loose", type := 44, offset := 2, embedded := false, tag := "", pkgPath := "", byteOffset := 32 }) rfl inferInstance rfl
instance : Fld Try.prog 46 3 3 := Fld.of (fl := { name := "Burns", type := 4, offset := 3, embedded := false, tag := "", pkgPath := "", byteOffset := 56 }) rfl inferInstance rfl
instance : Fld Try.prog 46 4 4 := Fld.of (fl := { name := "Fuse", type := 3, offset := 4, embedded := false, tag := "", pkgPath := "", byteOffset := 64 }) rfl inferInstance rfl
instance : Plcs Try.prog 46 [(0, 1), (1, 1), (2, 1), (3, 1), (4, 1)] := Plcs.of (fs := [{ name := "Most", type := 3, offset := 0, embedded := false, tag := "", pkgPath := "", byteOffset := 0 }, { name := "Last", type := 43, offset := 1, embedded := false, tag := "", pkgPath := "", byteOffset := 8 }, { name := "Loose", type := 44, offset := 2, embedded := false, tag := "", pkgPath := "", byteOffset := 32 }, { name := "Burns", type := 4, offset := 3, embedded := false, tag := "", pkgPath := "", byteOffset := 56 }, { name := "Fuse", type := 3, offset := 4, embedded := false, tag := "", pkgPath := "", byteOffset := 64 }]) inferInstance ⟨rfl, fun w i f p hf hp => by
  match i, hf, hp with
  | 0, hf, hp => cases hf; cases hp; exact ⟨rfl, run_size⟩
  | 1, hf, hp => cases hf; cases hp; exact ⟨rfl, run_size⟩
  | 2, hf, hp => cases hf; cases hp; exact ⟨rfl, run_size⟩
  | 3, hf, hp => cases hf; cases hp; exact ⟨rfl, run_size⟩
  | 4, hf, hp => cases hf; cases hp; exact ⟨rfl, run_size⟩
  | i + 5, hf, hp => simp at hf⟩
instance : Fld Try.prog 48 0 0 := Fld.of (fl := { name := "Kind", type := 3, offset := 0, embedded := false, tag := "", pkgPath := "", byteOffset := 0 }) rfl inferInstance rfl
instance : Fld Try.prog 48 1 1 := Fld.of (fl := { name := "N", type := 3, offset := 1, embedded := false, tag := "", pkgPath := "", byteOffset := 8 }) rfl inferInstance rfl
instance : Fld Try.prog 48 2 2 := Fld.of (fl := { name := "Page", type := 3, offset := 2, embedded := false, tag := "", pkgPath := "", byteOffset := 16 }) rfl inferInstance rfl
instance : Fld Try.prog 48 3 3 := Fld.of (fl := { name := "At", type := 3, offset := 3, embedded := false, tag := "", pkgPath := "", byteOffset := 24 }) rfl inferInstance rfl
instance : Fld Try.prog 48 4 4 := Fld.of (fl := { name := "S", type := 9, offset := 4, embedded := false, tag := "", pkgPath := "", byteOffset := 32 }) rfl inferInstance rfl
instance : Fld Try.prog 48 5 5 := Fld.of (fl := { name := "Kept", type := 34, offset := 5, embedded := false, tag := "", pkgPath := "", byteOffset := 48 }) rfl inferInstance rfl
instance : Plcs Try.prog 48 [(0, 1), (1, 1), (2, 1), (3, 1), (4, 1), (5, 1)] := Plcs.of (fs := [{ name := "Kind", type := 3, offset := 0, embedded := false, tag := "", pkgPath := "", byteOffset := 0 }, { name := "N", type := 3, offset := 1, embedded := false, tag := "", pkgPath := "", byteOffset := 8 }, { name := "Page", type := 3, offset := 2, embedded := false, tag := "", pkgPath := "", byteOffset := 16 }, { name := "At", type := 3, offset := 3, embedded := false, tag := "", pkgPath := "", byteOffset := 24 }, { name := "S", type := 9, offset := 4, embedded := false, tag := "", pkgPath := "", byteOffset := 32 }, { name := "Kept", type := 34, offset := 5, embedded := false, tag := "", pkgPath := "", byteOffset := 48 }]) inferInstance ⟨rfl, fun w i f p hf hp => by
  match i, hf, hp with
  | 0, hf, hp => cases hf; cases hp; exact ⟨rfl, run_size⟩
  | 1, hf, hp => cases hf; cases hp; exact ⟨rfl, run_size⟩
  | 2, hf, hp => cases hf; cases hp; exact ⟨rfl, run_size⟩
  | 3, hf, hp => cases hf; cases hp; exact ⟨rfl, run_size⟩
  | 4, hf, hp => cases hf; cases hp; exact ⟨rfl, run_size⟩
  | 5, hf, hp => cases hf; cases hp; exact ⟨rfl, run_size⟩
  | i + 6, hf, hp => simp at hf⟩
instance : Fld Try.prog 49 0 0 := Fld.of (fl := { name := "Kind", type := 3, offset := 0, embedded := false, tag := "", pkgPath := "", byteOffset := 0 }) rfl inferInstance rfl
instance : Fld Try.prog 49 1 1 := Fld.of (fl := { name := "N", type := 3, offset := 1, embedded := false, tag := "", pkgPath := "", byteOffset := 8 }) rfl inferInstance rfl
instance : Fld Try.prog 49 2 2 := Fld.of (fl := { name := "Page", type := 3, offset := 2, embedded := false, tag := "", pkgPath := "", byteOffset := 16 }) rfl inferInstance rfl
instance : Fld Try.prog 49 3 3 := Fld.of (fl := { name := "At", type := 3, offset := 3, embedded := false, tag := "", pkgPath := "", byteOffset := 24 }) rfl inferInstance rfl
instance : Fld Try.prog 49 4 4 := Fld.of (fl := { name := "S", type := 9, offset := 4, embedded := false, tag := "", pkgPath := "", byteOffset := 32 }) rfl inferInstance rfl
instance : Fld Try.prog 49 5 5 := Fld.of (fl := { name := "Kept", type := 34, offset := 5, embedded := false, tag := "", pkgPath := "", byteOffset := 48 }) rfl inferInstance rfl
instance : Plcs Try.prog 49 [(0, 1), (1, 1), (2, 1), (3, 1), (4, 1), (5, 1)] := Plcs.of (fs := [{ name := "Kind", type := 3, offset := 0, embedded := false, tag := "", pkgPath := "", byteOffset := 0 }, { name := "N", type := 3, offset := 1, embedded := false, tag := "", pkgPath := "", byteOffset := 8 }, { name := "Page", type := 3, offset := 2, embedded := false, tag := "", pkgPath := "", byteOffset := 16 }, { name := "At", type := 3, offset := 3, embedded := false, tag := "", pkgPath := "", byteOffset := 24 }, { name := "S", type := 9, offset := 4, embedded := false, tag := "", pkgPath := "", byteOffset := 32 }, { name := "Kept", type := 34, offset := 5, embedded := false, tag := "", pkgPath := "", byteOffset := 48 }]) inferInstance ⟨rfl, fun w i f p hf hp => by
  match i, hf, hp with
  | 0, hf, hp => cases hf; cases hp; exact ⟨rfl, run_size⟩
  | 1, hf, hp => cases hf; cases hp; exact ⟨rfl, run_size⟩
  | 2, hf, hp => cases hf; cases hp; exact ⟨rfl, run_size⟩
  | 3, hf, hp => cases hf; cases hp; exact ⟨rfl, run_size⟩
  | 4, hf, hp => cases hf; cases hp; exact ⟨rfl, run_size⟩
  | 5, hf, hp => cases hf; cases hp; exact ⟨rfl, run_size⟩
  | i + 6, hf, hp => simp at hf⟩
instance : Fld Try.prog 63 0 0 := Fld.of (fl := { name := "most", type := 3, offset := 0, embedded := false, tag := "", pkgPath := "lunette/disk", byteOffset := 0 }) rfl inferInstance rfl
instance : Fld Try.prog 63 1 1 := Fld.of (fl := { name := "pages", type := 3, offset := 1, embedded := false, tag := "", pkgPath := "lunette/disk", byteOffset := 8 }) rfl inferInstance rfl
instance : Fld Try.prog 63 2 2 := Fld.of (fl := { name := "last", type := 61, offset := 2, embedded := false, tag := "", pkgPath := "lunette/disk", byteOffset := 16 }) rfl inferInstance rfl
instance : Fld Try.prog 63 3 3 := Fld.of (fl := { name := "loose", type := 62, offset := 3, embedded := false, tag := "", pkgPath := "lunette/disk", byteOffset := 24 }) rfl inferInstance rfl
instance : Fld Try.prog 63 4 4 := Fld.of (fl := { name := "now", type := 61, offset := 4, embedded := false, tag := "", pkgPath := "lunette/disk", byteOffset := 48 }) rfl inferInstance rfl
instance : Fld Try.prog 63 5 5 := Fld.of (fl := { name := "fuse", type := 3, offset := 5, embedded := false, tag := "", pkgPath := "lunette/disk", byteOffset := 56 }) rfl inferInstance rfl
instance : Fld Try.prog 63 6 6 := Fld.of (fl := { name := "burns", type := 4, offset := 6, embedded := false, tag := "", pkgPath := "lunette/disk", byteOffset := 64 }) rfl inferInstance rfl
instance : Plcs Try.prog 63 [(0, 1), (1, 1), (2, 1), (3, 1), (4, 1), (5, 1), (6, 1)] := Plcs.of (fs := [{ name := "most", type := 3, offset := 0, embedded := false, tag := "", pkgPath := "lunette/disk", byteOffset := 0 }, { name := "pages", type := 3, offset := 1, embedded := false, tag := "", pkgPath := "lunette/disk", byteOffset := 8 }, { name := "last", type := 61, offset := 2, embedded := false, tag := "", pkgPath := "lunette/disk", byteOffset := 16 }, { name := "loose", type := 62, offset := 3, embedded := false, tag := "", pkgPath := "lunette/disk", byteOffset := 24 }, { name := "now", type := 61, offset := 4, embedded := false, tag := "", pkgPath := "lunette/disk", byteOffset := 48 }, { name := "fuse", type := 3, offset := 5, embedded := false, tag := "", pkgPath := "lunette/disk", byteOffset := 56 }, { name := "burns", type := 4, offset := 6, embedded := false, tag := "", pkgPath := "lunette/disk", byteOffset := 64 }]) inferInstance ⟨rfl, fun w i f p hf hp => by
  match i, hf, hp with
  | 0, hf, hp => cases hf; cases hp; exact ⟨rfl, run_size⟩
  | 1, hf, hp => cases hf; cases hp; exact ⟨rfl, run_size⟩
  | 2, hf, hp => cases hf; cases hp; exact ⟨rfl, run_size⟩
  | 3, hf, hp => cases hf; cases hp; exact ⟨rfl, run_size⟩
  | 4, hf, hp => cases hf; cases hp; exact ⟨rfl, run_size⟩
  | 5, hf, hp => cases hf; cases hp; exact ⟨rfl, run_size⟩
  | 6, hf, hp => cases hf; cases hp; exact ⟨rfl, run_size⟩
  | i + 7, hf, hp => simp at hf⟩
instance : Fld Try.prog 64 0 0 := Fld.of (fl := { name := "most", type := 3, offset := 0, embedded := false, tag := "", pkgPath := "lunette/disk", byteOffset := 0 }) rfl inferInstance rfl
instance : Fld Try.prog 64 1 1 := Fld.of (fl := { name := "pages", type := 3, offset := 1, embedded := false, tag := "", pkgPath := "lunette/disk", byteOffset := 8 }) rfl inferInstance rfl
instance : Fld Try.prog 64 2 2 := Fld.of (fl := { name := "last", type := 61, offset := 2, embedded := false, tag := "", pkgPath := "lunette/disk", byteOffset := 16 }) rfl inferInstance rfl
instance : Fld Try.prog 64 3 3 := Fld.of (fl := { name := "loose", type := 62, offset := 3, embedded := false, tag := "", pkgPath := "lunette/disk", byteOffset := 24 }) rfl inferInstance rfl
instance : Fld Try.prog 64 4 4 := Fld.of (fl := { name := "now", type := 61, offset := 4, embedded := false, tag := "", pkgPath := "lunette/disk", byteOffset := 48 }) rfl inferInstance rfl
instance : Fld Try.prog 64 5 5 := Fld.of (fl := { name := "fuse", type := 3, offset := 5, embedded := false, tag := "", pkgPath := "lunette/disk", byteOffset := 56 }) rfl inferInstance rfl
instance : Fld Try.prog 64 6 6 := Fld.of (fl := { name := "burns", type := 4, offset := 6, embedded := false, tag := "", pkgPath := "lunette/disk", byteOffset := 64 }) rfl inferInstance rfl
instance : Plcs Try.prog 64 [(0, 1), (1, 1), (2, 1), (3, 1), (4, 1), (5, 1), (6, 1)] := Plcs.of (fs := [{ name := "most", type := 3, offset := 0, embedded := false, tag := "", pkgPath := "lunette/disk", byteOffset := 0 }, { name := "pages", type := 3, offset := 1, embedded := false, tag := "", pkgPath := "lunette/disk", byteOffset := 8 }, { name := "last", type := 61, offset := 2, embedded := false, tag := "", pkgPath := "lunette/disk", byteOffset := 16 }, { name := "loose", type := 62, offset := 3, embedded := false, tag := "", pkgPath := "lunette/disk", byteOffset := 24 }, { name := "now", type := 61, offset := 4, embedded := false, tag := "", pkgPath := "lunette/disk", byteOffset := 48 }, { name := "fuse", type := 3, offset := 5, embedded := false, tag := "", pkgPath := "lunette/disk", byteOffset := 56 }, { name := "burns", type := 4, offset := 6, embedded := false, tag := "", pkgPath := "lunette/disk", byteOffset := 64 }]) inferInstance ⟨rfl, fun w i f p hf hp => by
  match i, hf, hp with
  | 0, hf, hp => cases hf; cases hp; exact ⟨rfl, run_size⟩
  | 1, hf, hp => cases hf; cases hp; exact ⟨rfl, run_size⟩
  | 2, hf, hp => cases hf; cases hp; exact ⟨rfl, run_size⟩
  | 3, hf, hp => cases hf; cases hp; exact ⟨rfl, run_size⟩
  | 4, hf, hp => cases hf; cases hp; exact ⟨rfl, run_size⟩
  | 5, hf, hp => cases hf; cases hp; exact ⟨rfl, run_size⟩
  | 6, hf, hp => cases hf; cases hp; exact ⟨rfl, run_size⟩
  | i + 7, hf, hp => simp at hf⟩
instance : Fld Try.prog 67 0 0 := Fld.of (fl := { name := "page", type := 3, offset := 0, embedded := false, tag := "", pkgPath := "lunette/disk", byteOffset := 0 }) rfl inferInstance rfl
instance : Fld Try.prog 67 1 1 := Fld.of (fl := { name := "b", type := 29, offset := 1, embedded := false, tag := "", pkgPath := "lunette/disk", byteOffset := 8 }) rfl inferInstance rfl
instance : Plcs Try.prog 67 [(0, 1), (1, 1)] := Plcs.of (fs := [{ name := "page", type := 3, offset := 0, embedded := false, tag := "", pkgPath := "lunette/disk", byteOffset := 0 }, { name := "b", type := 29, offset := 1, embedded := false, tag := "", pkgPath := "lunette/disk", byteOffset := 8 }]) inferInstance ⟨rfl, fun w i f p hf hp => by
  match i, hf, hp with
  | 0, hf, hp => cases hf; cases hp; exact ⟨rfl, run_size⟩
  | 1, hf, hp => cases hf; cases hp; exact ⟨rfl, run_size⟩
  | i + 2, hf, hp => simp at hf⟩
instance : Fld Try.prog 68 0 0 := Fld.of (fl := { name := "page", type := 3, offset := 0, embedded := false, tag := "", pkgPath := "lunette/disk", byteOffset := 0 }) rfl inferInstance rfl
instance : Fld Try.prog 68 1 1 := Fld.of (fl := { name := "b", type := 29, offset := 1, embedded := false, tag := "", pkgPath := "lunette/disk", byteOffset := 8 }) rfl inferInstance rfl
instance : Plcs Try.prog 68 [(0, 1), (1, 1)] := Plcs.of (fs := [{ name := "page", type := 3, offset := 0, embedded := false, tag := "", pkgPath := "lunette/disk", byteOffset := 0 }, { name := "b", type := 29, offset := 1, embedded := false, tag := "", pkgPath := "lunette/disk", byteOffset := 8 }]) inferInstance ⟨rfl, fun w i f p hf hp => by
  match i, hf, hp with
  | 0, hf, hp => cases hf; cases hp; exact ⟨rfl, run_size⟩
  | 1, hf, hp => cases hf; cases hp; exact ⟨rfl, run_size⟩
  | i + 2, hf, hp => simp at hf⟩
instance : Fld Try.prog 71 0 0 := Fld.of (fl := { name := "Page", type := 3, offset := 0, embedded := false, tag := "", pkgPath := "", byteOffset := 0 }) rfl inferInstance rfl
instance : Fld Try.prog 71 1 1 := Fld.of (fl := { name := "S", type := 9, offset := 1, embedded := false, tag := "", pkgPath := "", byteOffset := 8 }) rfl inferInstance rfl
instance : Plcs Try.prog 71 [(0, 1), (1, 1)] := Plcs.of (fs := [{ name := "Page", type := 3, offset := 0, embedded := false, tag := "", pkgPath := "", byteOffset := 0 }, { name := "S", type := 9, offset := 1, embedded := false, tag := "", pkgPath := "", byteOffset := 8 }]) inferInstance ⟨rfl, fun w i f p hf hp => by
  match i, hf, hp with
  | 0, hf, hp => cases hf; cases hp; exact ⟨rfl, run_size⟩
  | 1, hf, hp => cases hf; cases hp; exact ⟨rfl, run_size⟩
  | i + 2, hf, hp => simp at hf⟩
instance : Fld Try.prog 72 0 0 := Fld.of (fl := { name := "Page", type := 3, offset := 0, embedded := false, tag := "", pkgPath := "", byteOffset := 0 }) rfl inferInstance rfl
instance : Fld Try.prog 72 1 1 := Fld.of (fl := { name := "S", type := 9, offset := 1, embedded := false, tag := "", pkgPath := "", byteOffset := 8 }) rfl inferInstance rfl
instance : Plcs Try.prog 72 [(0, 1), (1, 1)] := Plcs.of (fs := [{ name := "Page", type := 3, offset := 0, embedded := false, tag := "", pkgPath := "", byteOffset := 0 }, { name := "S", type := 9, offset := 1, embedded := false, tag := "", pkgPath := "", byteOffset := 8 }]) inferInstance ⟨rfl, fun w i f p hf hp => by
  match i, hf, hp with
  | 0, hf, hp => cases hf; cases hp; exact ⟨rfl, run_size⟩
  | 1, hf, hp => cases hf; cases hp; exact ⟨rfl, run_size⟩
  | i + 2, hf, hp => simp at hf⟩
instance : Fld Try.prog 79 0 0 := Fld.of (fl := { name := "_interface", type := 17, offset := 0, embedded := false, tag := "", pkgPath := "runtime", byteOffset := 0 }) rfl inferInstance rfl
instance : Fld Try.prog 79 1 1 := Fld.of (fl := { name := "concrete", type := 17, offset := 1, embedded := false, tag := "", pkgPath := "runtime", byteOffset := 8 }) rfl inferInstance rfl
instance : Fld Try.prog 79 2 2 := Fld.of (fl := { name := "asserted", type := 17, offset := 2, embedded := false, tag := "", pkgPath := "runtime", byteOffset := 16 }) rfl inferInstance rfl
instance : Fld Try.prog 79 3 3 := Fld.of (fl := { name := "missingMethod", type := 9, offset := 3, embedded := false, tag := "", pkgPath := "runtime", byteOffset := 24 }) rfl inferInstance rfl
instance : Plcs Try.prog 79 [(0, 1), (1, 1), (2, 1), (3, 1)] := Plcs.of (fs := [{ name := "_interface", type := 17, offset := 0, embedded := false, tag := "", pkgPath := "runtime", byteOffset := 0 }, { name := "concrete", type := 17, offset := 1, embedded := false, tag := "", pkgPath := "runtime", byteOffset := 8 }, { name := "asserted", type := 17, offset := 2, embedded := false, tag := "", pkgPath := "runtime", byteOffset := 16 }, { name := "missingMethod", type := 9, offset := 3, embedded := false, tag := "", pkgPath := "runtime", byteOffset := 24 }]) inferInstance ⟨rfl, fun w i f p hf hp => by
  match i, hf, hp with
  | 0, hf, hp => cases hf; cases hp; exact ⟨rfl, run_size⟩
  | 1, hf, hp => cases hf; cases hp; exact ⟨rfl, run_size⟩
  | 2, hf, hp => cases hf; cases hp; exact ⟨rfl, run_size⟩
  | 3, hf, hp => cases hf; cases hp; exact ⟨rfl, run_size⟩
  | i + 4, hf, hp => simp at hf⟩
instance : Fld Try.prog 80 0 0 := Fld.of (fl := { name := "_interface", type := 17, offset := 0, embedded := false, tag := "", pkgPath := "runtime", byteOffset := 0 }) rfl inferInstance rfl
instance : Fld Try.prog 80 1 1 := Fld.of (fl := { name := "concrete", type := 17, offset := 1, embedded := false, tag := "", pkgPath := "runtime", byteOffset := 8 }) rfl inferInstance rfl
instance : Fld Try.prog 80 2 2 := Fld.of (fl := { name := "asserted", type := 17, offset := 2, embedded := false, tag := "", pkgPath := "runtime", byteOffset := 16 }) rfl inferInstance rfl
instance : Fld Try.prog 80 3 3 := Fld.of (fl := { name := "missingMethod", type := 9, offset := 3, embedded := false, tag := "", pkgPath := "runtime", byteOffset := 24 }) rfl inferInstance rfl
instance : Plcs Try.prog 80 [(0, 1), (1, 1), (2, 1), (3, 1)] := Plcs.of (fs := [{ name := "_interface", type := 17, offset := 0, embedded := false, tag := "", pkgPath := "runtime", byteOffset := 0 }, { name := "concrete", type := 17, offset := 1, embedded := false, tag := "", pkgPath := "runtime", byteOffset := 8 }, { name := "asserted", type := 17, offset := 2, embedded := false, tag := "", pkgPath := "runtime", byteOffset := 16 }, { name := "missingMethod", type := 9, offset := 3, embedded := false, tag := "", pkgPath := "runtime", byteOffset := 24 }]) inferInstance ⟨rfl, fun w i f p hf hp => by
  match i, hf, hp with
  | 0, hf, hp => cases hf; cases hp; exact ⟨rfl, run_size⟩
  | 1, hf, hp => cases hf; cases hp; exact ⟨rfl, run_size⟩
  | 2, hf, hp => cases hf; cases hp; exact ⟨rfl, run_size⟩
  | 3, hf, hp => cases hf; cases hp; exact ⟨rfl, run_size⟩
  | i + 4, hf, hp => simp at hf⟩
instance : Fld Try.prog 91 0 0 := Fld.of (fl := { name := "Size_", type := 12, offset := 0, embedded := false, tag := "", pkgPath := "", byteOffset := 0 }) rfl inferInstance rfl
instance : Fld Try.prog 91 1 1 := Fld.of (fl := { name := "PtrBytes", type := 12, offset := 1, embedded := false, tag := "", pkgPath := "", byteOffset := 8 }) rfl inferInstance rfl
instance : Fld Try.prog 91 2 2 := Fld.of (fl := { name := "Hash", type := 84, offset := 2, embedded := false, tag := "", pkgPath := "", byteOffset := 16 }) rfl inferInstance rfl
instance : Fld Try.prog 91 3 3 := Fld.of (fl := { name := "TFlag", type := 85, offset := 3, embedded := false, tag := "", pkgPath := "", byteOffset := 20 }) rfl inferInstance rfl
instance : Fld Try.prog 91 4 4 := Fld.of (fl := { name := "Align_", type := 5, offset := 4, embedded := false, tag := "", pkgPath := "", byteOffset := 21 }) rfl inferInstance rfl
instance : Fld Try.prog 91 5 5 := Fld.of (fl := { name := "FieldAlign_", type := 5, offset := 5, embedded := false, tag := "", pkgPath := "", byteOffset := 22 }) rfl inferInstance rfl
instance : Fld Try.prog 91 6 6 := Fld.of (fl := { name := "Kind_", type := 86, offset := 6, embedded := false, tag := "", pkgPath := "", byteOffset := 23 }) rfl inferInstance rfl
instance : Fld Try.prog 91 7 7 := Fld.of (fl := { name := "Equal", type := 87, offset := 7, embedded := false, tag := "", pkgPath := "", byteOffset := 24 }) rfl inferInstance rfl
instance : Fld Try.prog 91 8 8 := Fld.of (fl := { name := "GCData", type := 88, offset := 8, embedded := false, tag := "", pkgPath := "", byteOffset := 32 }) rfl inferInstance rfl
instance : Fld Try.prog 91 9 9 := Fld.of (fl := { name := "Str", type := 89, offset := 9, embedded := false, tag := "", pkgPath := "", byteOffset := 40 }) rfl inferInstance rfl
instance : Fld Try.prog 91 10 10 := Fld.of (fl := { name := "PtrToThis", type := 90, offset := 10, embedded := false, tag := "", pkgPath := "", byteOffset := 44 }) rfl inferInstance rfl
instance : Plcs Try.prog 91 [(0, 1), (1, 1), (2, 1), (3, 1), (4, 1), (5, 1), (6, 1), (7, 1), (8, 1), (9, 1), (10, 1)] := Plcs.of (fs := [{ name := "Size_", type := 12, offset := 0, embedded := false, tag := "", pkgPath := "", byteOffset := 0 }, { name := "PtrBytes", type := 12, offset := 1, embedded := false, tag := "", pkgPath := "", byteOffset := 8 }, { name := "Hash", type := 84, offset := 2, embedded := false, tag := "", pkgPath := "", byteOffset := 16 }, { name := "TFlag", type := 85, offset := 3, embedded := false, tag := "", pkgPath := "", byteOffset := 20 }, { name := "Align_", type := 5, offset := 4, embedded := false, tag := "", pkgPath := "", byteOffset := 21 }, { name := "FieldAlign_", type := 5, offset := 5, embedded := false, tag := "", pkgPath := "", byteOffset := 22 }, { name := "Kind_", type := 86, offset := 6, embedded := false, tag := "", pkgPath := "", byteOffset := 23 }, { name := "Equal", type := 87, offset := 7, embedded := false, tag := "", pkgPath := "", byteOffset := 24 }, { name := "GCData", type := 88, offset := 8, embedded := false, tag := "", pkgPath := "", byteOffset := 32 }, { name := "Str", type := 89, offset := 9, embedded := false, tag := "", pkgPath := "", byteOffset := 40 }, { name := "PtrToThis", type := 90, offset := 10, embedded := false, tag := "", pkgPath := "", byteOffset := 44 }]) inferInstance ⟨rfl, fun w i f p hf hp => by
  match i, hf, hp with
  | 0, hf, hp => cases hf; cases hp; exact ⟨rfl, run_size⟩
  | 1, hf, hp => cases hf; cases hp; exact ⟨rfl, run_size⟩
  | 2, hf, hp => cases hf; cases hp; exact ⟨rfl, run_size⟩
  | 3, hf, hp => cases hf; cases hp; exact ⟨rfl, run_size⟩
  | 4, hf, hp => cases hf; cases hp; exact ⟨rfl, run_size⟩
  | 5, hf, hp => cases hf; cases hp; exact ⟨rfl, run_size⟩
  | 6, hf, hp => cases hf; cases hp; exact ⟨rfl, run_size⟩
  | 7, hf, hp => cases hf; cases hp; exact ⟨rfl, run_size⟩
  | 8, hf, hp => cases hf; cases hp; exact ⟨rfl, run_size⟩
  | 9, hf, hp => cases hf; cases hp; exact ⟨rfl, run_size⟩
  | 10, hf, hp => cases hf; cases hp; exact ⟨rfl, run_size⟩
  | i + 11, hf, hp => simp at hf⟩
instance : Fld Try.prog 92 0 0 := Fld.of (fl := { name := "Size_", type := 12, offset := 0, embedded := false, tag := "", pkgPath := "", byteOffset := 0 }) rfl inferInstance rfl
instance : Fld Try.prog 92 1 1 := Fld.of (fl := { name := "PtrBytes", type := 12, offset := 1, embedded := false, tag := "", pkgPath := "", byteOffset := 8 }) rfl inferInstance rfl
instance : Fld Try.prog 92 2 2 := Fld.of (fl := { name := "Hash", type := 84, offset := 2, embedded := false, tag := "", pkgPath := "", byteOffset := 16 }) rfl inferInstance rfl
instance : Fld Try.prog 92 3 3 := Fld.of (fl := { name := "TFlag", type := 85, offset := 3, embedded := false, tag := "", pkgPath := "", byteOffset := 20 }) rfl inferInstance rfl
instance : Fld Try.prog 92 4 4 := Fld.of (fl := { name := "Align_", type := 5, offset := 4, embedded := false, tag := "", pkgPath := "", byteOffset := 21 }) rfl inferInstance rfl
instance : Fld Try.prog 92 5 5 := Fld.of (fl := { name := "FieldAlign_", type := 5, offset := 5, embedded := false, tag := "", pkgPath := "", byteOffset := 22 }) rfl inferInstance rfl
instance : Fld Try.prog 92 6 6 := Fld.of (fl := { name := "Kind_", type := 86, offset := 6, embedded := false, tag := "", pkgPath := "", byteOffset := 23 }) rfl inferInstance rfl
instance : Fld Try.prog 92 7 7 := Fld.of (fl := { name := "Equal", type := 87, offset := 7, embedded := false, tag := "", pkgPath := "", byteOffset := 24 }) rfl inferInstance rfl
instance : Fld Try.prog 92 8 8 := Fld.of (fl := { name := "GCData", type := 88, offset := 8, embedded := false, tag := "", pkgPath := "", byteOffset := 32 }) rfl inferInstance rfl
instance : Fld Try.prog 92 9 9 := Fld.of (fl := { name := "Str", type := 89, offset := 9, embedded := false, tag := "", pkgPath := "", byteOffset := 40 }) rfl inferInstance rfl
instance : Fld Try.prog 92 10 10 := Fld.of (fl := { name := "PtrToThis", type := 90, offset := 10, embedded := false, tag := "", pkgPath := "", byteOffset := 44 }) rfl inferInstance rfl
instance : Plcs Try.prog 92 [(0, 1), (1, 1), (2, 1), (3, 1), (4, 1), (5, 1), (6, 1), (7, 1), (8, 1), (9, 1), (10, 1)] := Plcs.of (fs := [{ name := "Size_", type := 12, offset := 0, embedded := false, tag := "", pkgPath := "", byteOffset := 0 }, { name := "PtrBytes", type := 12, offset := 1, embedded := false, tag := "", pkgPath := "", byteOffset := 8 }, { name := "Hash", type := 84, offset := 2, embedded := false, tag := "", pkgPath := "", byteOffset := 16 }, { name := "TFlag", type := 85, offset := 3, embedded := false, tag := "", pkgPath := "", byteOffset := 20 }, { name := "Align_", type := 5, offset := 4, embedded := false, tag := "", pkgPath := "", byteOffset := 21 }, { name := "FieldAlign_", type := 5, offset := 5, embedded := false, tag := "", pkgPath := "", byteOffset := 22 }, { name := "Kind_", type := 86, offset := 6, embedded := false, tag := "", pkgPath := "", byteOffset := 23 }, { name := "Equal", type := 87, offset := 7, embedded := false, tag := "", pkgPath := "", byteOffset := 24 }, { name := "GCData", type := 88, offset := 8, embedded := false, tag := "", pkgPath := "", byteOffset := 32 }, { name := "Str", type := 89, offset := 9, embedded := false, tag := "", pkgPath := "", byteOffset := 40 }, { name := "PtrToThis", type := 90, offset := 10, embedded := false, tag := "", pkgPath := "", byteOffset := 44 }]) inferInstance ⟨rfl, fun w i f p hf hp => by
  match i, hf, hp with
  | 0, hf, hp => cases hf; cases hp; exact ⟨rfl, run_size⟩
  | 1, hf, hp => cases hf; cases hp; exact ⟨rfl, run_size⟩
  | 2, hf, hp => cases hf; cases hp; exact ⟨rfl, run_size⟩
  | 3, hf, hp => cases hf; cases hp; exact ⟨rfl, run_size⟩
  | 4, hf, hp => cases hf; cases hp; exact ⟨rfl, run_size⟩
  | 5, hf, hp => cases hf; cases hp; exact ⟨rfl, run_size⟩
  | 6, hf, hp => cases hf; cases hp; exact ⟨rfl, run_size⟩
  | 7, hf, hp => cases hf; cases hp; exact ⟨rfl, run_size⟩
  | 8, hf, hp => cases hf; cases hp; exact ⟨rfl, run_size⟩
  | 9, hf, hp => cases hf; cases hp; exact ⟨rfl, run_size⟩
  | 10, hf, hp => cases hf; cases hp; exact ⟨rfl, run_size⟩
  | i + 11, hf, hp => simp at hf⟩
instance : Callee Try.prog 2 := Callee.of Try.func2 (by kernel_rfl) (by kernel_rfl)
instance : Callee Try.prog 3 := Callee.of Try.func3 (by kernel_rfl) (by kernel_rfl)
instance : Callee Try.prog 4 := Callee.of Try.func4 (by kernel_rfl) (by kernel_rfl)
instance : Callee Try.prog 5 := Callee.of Try.func5 (by kernel_rfl) (by kernel_rfl)
instance : Callee Try.prog 6 := Callee.of Try.func6 (by kernel_rfl) (by kernel_rfl)
instance : Callee Try.prog 7 := Callee.of Try.func7 (by kernel_rfl) (by kernel_rfl)
instance : Callee Try.prog 8 := Callee.of Try.func8 (by kernel_rfl) (by kernel_rfl)
instance : Callee Try.prog 9 := Callee.of Try.func9 (by kernel_rfl) (by kernel_rfl)
instance : Callee Try.prog 10 := Callee.of Try.func10 (by kernel_rfl) (by kernel_rfl)
instance : Callee Try.prog 11 := Callee.of Try.func11 (by kernel_rfl) (by kernel_rfl)
instance : Callee Try.prog 12 := Callee.of Try.func12 (by kernel_rfl) (by kernel_rfl)
instance : Callee Try.prog 13 := Callee.of Try.func13 (by kernel_rfl) (by kernel_rfl)
instance : Callee Try.prog 14 := Callee.of Try.func14 (by kernel_rfl) (by kernel_rfl)
instance : Callee Try.prog 15 := Callee.of Try.func15 (by kernel_rfl) (by kernel_rfl)
instance : Callee Try.prog 16 := Callee.of Try.func16 (by kernel_rfl) (by kernel_rfl)
instance : Callee Try.prog 17 := Callee.of Try.func17 (by kernel_rfl) (by kernel_rfl)
instance : Callee Try.prog 18 := Callee.of Try.func18 (by kernel_rfl) (by kernel_rfl)
instance : Callee Try.prog 19 := Callee.of Try.func19 (by kernel_rfl) (by kernel_rfl)
instance : Callee Try.prog 20 := Callee.of Try.func20 (by kernel_rfl) (by kernel_rfl)
instance : Callee Try.prog 21 := Callee.of Try.func21 (by kernel_rfl) (by kernel_rfl)
instance : Callee Try.prog 22 := Callee.of Try.func22 (by kernel_rfl) (by kernel_rfl)
instance : Callee Try.prog 23 := Callee.of Try.func23 (by kernel_rfl) (by kernel_rfl)
instance : Callee Try.prog 24 := Callee.of Try.func24 (by kernel_rfl) (by kernel_rfl)
instance : Callee Try.prog 25 := Callee.of Try.func25 (by kernel_rfl) (by kernel_rfl)
instance : Callee Try.prog 26 := Callee.of Try.func26 (by kernel_rfl) (by kernel_rfl)
instance : Callee Try.prog 27 := Callee.of Try.func27 (by kernel_rfl) (by kernel_rfl)
instance : Callee Try.prog 28 := Callee.of Try.func28 (by kernel_rfl) (by kernel_rfl)
instance : Callee Try.prog 29 := Callee.of Try.func29 (by kernel_rfl) (by kernel_rfl)
instance : Callee Try.prog 30 := Callee.of Try.func30 (by kernel_rfl) (by kernel_rfl)
instance : Callee Try.prog 31 := Callee.of Try.func31 (by kernel_rfl) (by kernel_rfl)
instance : Callee Try.prog 32 := Callee.of Try.func32 (by kernel_rfl) (by kernel_rfl)
instance : Callee Try.prog 33 := Callee.of Try.func33 (by kernel_rfl) (by kernel_rfl)
instance : Callee Try.prog 34 := Callee.of Try.func34 (by kernel_rfl) (by kernel_rfl)
instance : Callee Try.prog 35 := Callee.of Try.func35 (by kernel_rfl) (by kernel_rfl)
instance : Callee Try.prog 36 := Callee.of Try.func36 (by kernel_rfl) (by kernel_rfl)
theorem _root_.Go.Proofs.Try.mixed : Try.prog.follows .mixedOrders = true := by kernel_rfl
end Go.Lun
