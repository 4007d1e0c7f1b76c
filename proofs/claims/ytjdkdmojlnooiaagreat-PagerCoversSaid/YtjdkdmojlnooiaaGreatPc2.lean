/- Texts joined: Tab, Disk1, Pm, Disk2, Disk3, Disk4, Disk5, Disk6, Ret. -/
import Derived.Test.YtjdkdmojlnooiaaGreatProg
import Derived.KernelRfl
import Derived.Test.YtjdkdmojlnooiaaGreatPc1
/- What is known of the types and functions of this seat's program. -/
namespace Go.Lun
open Go.Proofs
instance : Ty Tryz.prog 1 (Go.TypeDesc.func #[] #[] false) Go.Value.nilFunc 1 8 := ⟨by kernel_rfl, Tryz.t1, by kernel_rfl, by kernel_rfl, by kernel_rfl, by kernel_rfl⟩
instance : Ty Tryz.prog 2 (Go.TypeDesc.int Go.IntKind.i64) (Go.Value.int Go.IntKind.i64 0) 1 8 := ⟨by kernel_rfl, Tryz.t2, by kernel_rfl, by kernel_rfl, by kernel_rfl, by kernel_rfl⟩
instance : Ty Tryz.prog 3 (Go.TypeDesc.int Go.IntKind.i64) (Go.Value.int Go.IntKind.i64 0) 1 8 := ⟨by kernel_rfl, Tryz.t3, by kernel_rfl, by kernel_rfl, by kernel_rfl, by kernel_rfl⟩
instance : Ty Tryz.prog 4 Go.TypeDesc.bool (Go.Value.bool false) 1 1 := ⟨by kernel_rfl, Tryz.t4, by kernel_rfl, by kernel_rfl, by kernel_rfl, by kernel_rfl⟩
instance : Ty Tryz.prog 5 (Go.TypeDesc.int Go.IntKind.u8) (Go.Value.int Go.IntKind.u8 0) 1 1 := ⟨by kernel_rfl, Tryz.t5, by kernel_rfl, by kernel_rfl, by kernel_rfl, by kernel_rfl⟩
instance : Ty Tryz.prog 6 (Go.TypeDesc.int Go.IntKind.u8) (Go.Value.int Go.IntKind.u8 0) 1 1 := ⟨by kernel_rfl, Tryz.t6, by kernel_rfl, by kernel_rfl, by kernel_rfl, by kernel_rfl⟩
instance : Ty Tryz.prog 7 (Go.TypeDesc.struct #[{ name := "x", type := 2, offset := 0, embedded := false, tag := "", pkgPath := "runtime", byteOffset := 0 }, { name := "y", type := 3, offset := 1, embedded := false, tag := "", pkgPath := "runtime", byteOffset := 8 }, { name := "signed", type := 4, offset := 2, embedded := false, tag := "", pkgPath := "runtime", byteOffset := 16 }, { name := "code", type := 6, offset := 3, embedded := false, tag := "", pkgPath := "runtime", byteOffset := 17 }]) (Go.Value.agg ⟨[(Go.Value.int Go.IntKind.i64 0), (Go.Value.int Go.IntKind.i64 0), (Go.Value.bool false), (Go.Value.int Go.IntKind.u8 0)]⟩) 4 24 := ⟨by kernel_rfl, Tryz.t7, by kernel_rfl, by kernel_rfl, by kernel_rfl, by kernel_rfl⟩
instance : Ty Tryz.prog 8 (Go.TypeDesc.struct #[{ name := "x", type := 2, offset := 0, embedded := false, tag := "", pkgPath := "runtime", byteOffset := 0 }, { name := "y", type := 3, offset := 1, embedded := false, tag := "", pkgPath := "runtime", byteOffset := 8 }, { name := "signed", type := 4, offset := 2, embedded := false, tag := "", pkgPath := "runtime", byteOffset := 16 }, { name := "code", type := 6, offset := 3, embedded := false, tag := "", pkgPath := "runtime", byteOffset := 17 }]) (Go.Value.agg ⟨[(Go.Value.int Go.IntKind.i64 0), (Go.Value.int Go.IntKind.i64 0), (Go.Value.bool false), (Go.Value.int Go.IntKind.u8 0)]⟩) 4 24 := ⟨by kernel_rfl, Tryz.t8, by kernel_rfl, by kernel_rfl, by kernel_rfl, by kernel_rfl⟩
instance : Ty Tryz.prog 9 Go.TypeDesc.string (Go.Value.string { data := #[] }) 1 16 := ⟨by kernel_rfl, Tryz.t9, by kernel_rfl, by kernel_rfl, by kernel_rfl, by kernel_rfl⟩
instance : Ty Tryz.prog 10 Go.TypeDesc.string (Go.Value.string { data := #[] }) 1 16 := ⟨by kernel_rfl, Tryz.t10, by kernel_rfl, by kernel_rfl, by kernel_rfl, by kernel_rfl⟩
instance : Ty Tryz.prog 11 Go.TypeDesc.string (Go.Value.string { data := #[] }) 1 16 := ⟨by kernel_rfl, Tryz.t11, by kernel_rfl, by kernel_rfl, by kernel_rfl, by kernel_rfl⟩
instance : Ty Tryz.prog 12 (Go.TypeDesc.int Go.IntKind.u64) (Go.Value.int Go.IntKind.u64 0) 1 8 := ⟨by kernel_rfl, Tryz.t12, by kernel_rfl, by kernel_rfl, by kernel_rfl, by kernel_rfl⟩
instance : Ty Tryz.prog 13 (Go.TypeDesc.struct #[{ name := "msg", type := 9, offset := 0, embedded := false, tag := "", pkgPath := "runtime", byteOffset := 0 }, { name := "addr", type := 12, offset := 1, embedded := false, tag := "", pkgPath := "runtime", byteOffset := 16 }]) (Go.Value.agg ⟨[(Go.Value.string { data := #[] }), (Go.Value.int Go.IntKind.u64 0)]⟩) 2 24 := ⟨by kernel_rfl, Tryz.t13, by kernel_rfl, by kernel_rfl, by kernel_rfl, by kernel_rfl⟩
instance : Ty Tryz.prog 14 (Go.TypeDesc.struct #[{ name := "msg", type := 9, offset := 0, embedded := false, tag := "", pkgPath := "runtime", byteOffset := 0 }, { name := "addr", type := 12, offset := 1, embedded := false, tag := "", pkgPath := "runtime", byteOffset := 16 }]) (Go.Value.agg ⟨[(Go.Value.string { data := #[] }), (Go.Value.int Go.IntKind.u64 0)]⟩) 2 24 := ⟨by kernel_rfl, Tryz.t14, by kernel_rfl, by kernel_rfl, by kernel_rfl, by kernel_rfl⟩
instance : Ty Tryz.prog 15 (Go.TypeDesc.pointer 294) (Go.Value.pointer none) 1 8 := ⟨by kernel_rfl, Tryz.t15, by kernel_rfl, by kernel_rfl, by kernel_rfl, by kernel_rfl⟩
instance : Ty Tryz.prog 16 (Go.TypeDesc.pointer 297) (Go.Value.pointer none) 1 8 := ⟨by kernel_rfl, Tryz.t16, by kernel_rfl, by kernel_rfl, by kernel_rfl, by kernel_rfl⟩
instance : Ty Tryz.prog 17 (Go.TypeDesc.pointer 305) (Go.Value.pointer none) 1 8 := ⟨by kernel_rfl, Tryz.t17, by kernel_rfl, by kernel_rfl, by kernel_rfl, by kernel_rfl⟩
instance : Ty Tryz.prog 18 (Go.TypeDesc.struct #[{ name := "typ", type := 17, offset := 0, embedded := false, tag := "", pkgPath := "internal/runtime/maps", byteOffset := 0 }]) (Go.Value.agg ⟨[(Go.Value.pointer none)]⟩) 1 8 := ⟨by kernel_rfl, Tryz.t18, by kernel_rfl, by kernel_rfl, by kernel_rfl, by kernel_rfl⟩
instance : Ty Tryz.prog 19 (Go.TypeDesc.struct #[{ name := "typ", type := 17, offset := 0, embedded := false, tag := "", pkgPath := "internal/runtime/maps", byteOffset := 0 }]) (Go.Value.agg ⟨[(Go.Value.pointer none)]⟩) 1 8 := ⟨by kernel_rfl, Tryz.t19, by kernel_rfl, by kernel_rfl, by kernel_rfl, by kernel_rfl⟩
instance : Ty Tryz.prog 20 (Go.TypeDesc.interface #[]) Go.Value.nilIface 1 16 := ⟨by kernel_rfl, Tryz.t20, by kernel_rfl, by kernel_rfl, by kernel_rfl, by kernel_rfl⟩
instance : Ty Tryz.prog 21 (Go.TypeDesc.int Go.IntKind.i32) (Go.Value.int Go.IntKind.i32 0) 1 4 := ⟨by kernel_rfl, Tryz.t21, by kernel_rfl, by kernel_rfl, by kernel_rfl, by kernel_rfl⟩
instance : Ty Tryz.prog 22 (Go.TypeDesc.slice 39) (Go.Value.slice none 0 0) 1 24 := ⟨by kernel_rfl, Tryz.t22, by kernel_rfl, by kernel_rfl, by kernel_rfl, by kernel_rfl⟩
instance : Ty Tryz.prog 23 (Go.TypeDesc.pointer 59) (Go.Value.pointer none) 1 8 := ⟨by kernel_rfl, Tryz.t23, by kernel_rfl, by kernel_rfl, by kernel_rfl, by kernel_rfl⟩
instance : Ty Tryz.prog 24 (Go.TypeDesc.pointer 168) (Go.Value.pointer none) 1 8 := ⟨by kernel_rfl, Tryz.t24, by kernel_rfl, by kernel_rfl, by kernel_rfl, by kernel_rfl⟩
instance : Ty Tryz.prog 26 (Go.TypeDesc.func #[3] #[23, 24] false) Go.Value.nilFunc 1 8 := ⟨by kernel_rfl, Tryz.t26, by kernel_rfl, by kernel_rfl, by kernel_rfl, by kernel_rfl⟩
instance : Ty Tryz.prog 27 (Go.TypeDesc.func #[] #[4] false) Go.Value.nilFunc 1 8 := ⟨by kernel_rfl, Tryz.t27, by kernel_rfl, by kernel_rfl, by kernel_rfl, by kernel_rfl⟩
instance : Ty Tryz.prog 28 (Go.TypeDesc.struct #[{ name := "Epoch", type := 3, offset := 0, embedded := false, tag := "", pkgPath := "", byteOffset := 0 }, { name := "Root", type := 3, offset := 1, embedded := false, tag := "", pkgPath := "", byteOffset := 8 }, { name := "Free", type := 3, offset := 2, embedded := false, tag := "", pkgPath := "", byteOffset := 16 }, { name := "Pages", type := 3, offset := 3, embedded := false, tag := "", pkgPath := "", byteOffset := 24 }]) (Go.Value.agg ⟨[(Go.Value.int Go.IntKind.i64 0), (Go.Value.int Go.IntKind.i64 0), (Go.Value.int Go.IntKind.i64 0), (Go.Value.int Go.IntKind.i64 0)]⟩) 4 32 := ⟨by kernel_rfl, Tryz.t28, by kernel_rfl, by kernel_rfl, by kernel_rfl, by kernel_rfl⟩
instance : Ty Tryz.prog 29 (Go.TypeDesc.struct #[{ name := "Epoch", type := 3, offset := 0, embedded := false, tag := "", pkgPath := "", byteOffset := 0 }, { name := "Root", type := 3, offset := 1, embedded := false, tag := "", pkgPath := "", byteOffset := 8 }, { name := "Free", type := 3, offset := 2, embedded := false, tag := "", pkgPath := "", byteOffset := 16 }, { name := "Pages", type := 3, offset := 3, embedded := false, tag := "", pkgPath := "", byteOffset := 24 }]) (Go.Value.agg ⟨[(Go.Value.int Go.IntKind.i64 0), (Go.Value.int Go.IntKind.i64 0), (Go.Value.int Go.IntKind.i64 0), (Go.Value.int Go.IntKind.i64 0)]⟩) 4 32 := ⟨by kernel_rfl, Tryz.t29, by kernel_rfl, by kernel_rfl, by kernel_rfl, by kernel_rfl⟩
instance : Ty Tryz.prog 30 (Go.TypeDesc.slice 65) (Go.Value.slice none 0 0) 1 24 := ⟨by kernel_rfl, Tryz.t30, by kernel_rfl, by kernel_rfl, by kernel_rfl, by kernel_rfl⟩
instance : Ty Tryz.prog 31 (Go.TypeDesc.slice 62) (Go.Value.slice none 0 0) 1 24 := ⟨by kernel_rfl, Tryz.t31, by kernel_rfl, by kernel_rfl, by kernel_rfl, by kernel_rfl⟩
instance : Ty Tryz.prog 32 (Go.TypeDesc.slice 3) (Go.Value.slice none 0 0) 1 24 := ⟨by kernel_rfl, Tryz.t32, by kernel_rfl, by kernel_rfl, by kernel_rfl, by kernel_rfl⟩
instance : Ty Tryz.prog 33 (Go.TypeDesc.struct #[{ name := "Most", type := 3, offset := 0, embedded := false, tag := "", pkgPath := "", byteOffset := 0 }, { name := "Grown", type := 3, offset := 1, embedded := false, tag := "", pkgPath := "", byteOffset := 8 }, { name := "X", type := 29, offset := 2, embedded := false, tag := "", pkgPath := "", byteOffset := 16 }, { name := "L", type := 30, offset := 6, embedded := false, tag := "", pkgPath := "", byteOffset := 48 }, { name := "Free", type := 31, offset := 7, embedded := false, tag := "", pkgPath := "", byteOffset := 72 }, { name := "Chain", type := 32, offset := 8, embedded := false, tag := "", pkgPath := "", byteOffset := 96 }, { name := "Fresh", type := 32, offset := 9, embedded := false, tag := "", pkgPath := "", byteOffset := 120 }, { name := "Pages", type := 3, offset := 10, embedded := false, tag := "", pkgPath := "", byteOffset := 144 }, { name := "Oldest", type := 3, offset := 11, embedded := false, tag := "", pkgPath := "", byteOffset := 152 }, { name := "LastFree", type := 31, offset := 12, embedded := false, tag := "", pkgPath := "", byteOffset := 160 }, { name := "LastChain", type := 32, offset := 13, embedded := false, tag := "", pkgPath := "", byteOffset := 184 }]) (Go.Value.agg ⟨[(Go.Value.int Go.IntKind.i64 0), (Go.Value.int Go.IntKind.i64 0), (Go.Value.int Go.IntKind.i64 0), (Go.Value.int Go.IntKind.i64 0), (Go.Value.int Go.IntKind.i64 0), (Go.Value.int Go.IntKind.i64 0), (Go.Value.slice none 0 0), (Go.Value.slice none 0 0), (Go.Value.slice none 0 0), (Go.Value.slice none 0 0), (Go.Value.int Go.IntKind.i64 0), (Go.Value.int Go.IntKind.i64 0), (Go.Value.slice none 0 0), (Go.Value.slice none 0 0)]⟩) 14 208 := ⟨by kernel_rfl, Tryz.t33, by kernel_rfl, by kernel_rfl, by kernel_rfl, by kernel_rfl⟩
instance : Ty Tryz.prog 34 (Go.TypeDesc.struct #[{ name := "Most", type := 3, offset := 0, embedded := false, tag := "", pkgPath := "", byteOffset := 0 }, { name := "Grown", type := 3, offset := 1, embedded := false, tag := "", pkgPath := "", byteOffset := 8 }, { name := "X", type := 29, offset := 2, embedded := false, tag := "", pkgPath := "", byteOffset := 16 }, { name := "L", type := 30, offset := 6, embedded := false, tag := "", pkgPath := "", byteOffset := 48 }, { name := "Free", type := 31, offset := 7, embedded := false, tag := "", pkgPath := "", byteOffset := 72 }, { name := "Chain", type := 32, offset := 8, embedded := false, tag := "", pkgPath := "", byteOffset := 96 }, { name := "Fresh", type := 32, offset := 9, embedded := false, tag := "", pkgPath := "", byteOffset := 120 }, { name := "Pages", type := 3, offset := 10, embedded := false, tag := "", pkgPath := "", byteOffset := 144 }, { name := "Oldest", type := 3, offset := 11, embedded := false, tag := "", pkgPath := "", byteOffset := 152 }, { name := "LastFree", type := 31, offset := 12, embedded := false, tag := "", pkgPath := "", byteOffset := 160 }, { name := "LastChain", type := 32, offset := 13, embedded := false, tag := "", pkgPath := "", byteOffset := 184 }]) (Go.Value.agg ⟨[(Go.Value.int Go.IntKind.i64 0), (Go.Value.int Go.IntKind.i64 0), (Go.Value.int Go.IntKind.i64 0), (Go.Value.int Go.IntKind.i64 0), (Go.Value.int Go.IntKind.i64 0), (Go.Value.int Go.IntKind.i64 0), (Go.Value.slice none 0 0), (Go.Value.slice none 0 0), (Go.Value.slice none 0 0), (Go.Value.slice none 0 0), (Go.Value.int Go.IntKind.i64 0), (Go.Value.int Go.IntKind.i64 0), (Go.Value.slice none 0 0), (Go.Value.slice none 0 0)]⟩) 14 208 := ⟨by kernel_rfl, Tryz.t34, by kernel_rfl, by kernel_rfl, by kernel_rfl, by kernel_rfl⟩
instance : Ty Tryz.prog 35 (Go.TypeDesc.func #[3] #[34] false) Go.Value.nilFunc 1 8 := ⟨by kernel_rfl, Tryz.t35, by kernel_rfl, by kernel_rfl, by kernel_rfl, by kernel_rfl⟩
instance : Ty Tryz.prog 36 (Go.TypeDesc.func #[39] #[4] false) Go.Value.nilFunc 1 8 := ⟨by kernel_rfl, Tryz.t36, by kernel_rfl, by kernel_rfl, by kernel_rfl, by kernel_rfl⟩
instance : Ty Tryz.prog 37 (Go.TypeDesc.slice 9) (Go.Value.slice none 0 0) 1 24 := ⟨by kernel_rfl, Tryz.t37, by kernel_rfl, by kernel_rfl, by kernel_rfl, by kernel_rfl⟩
instance : Ty Tryz.prog 38 (Go.TypeDesc.struct #[{ name := "Kind", type := 3, offset := 0, embedded := false, tag := "", pkgPath := "", byteOffset := 0 }, { name := "Of", type := 3, offset := 1, embedded := false, tag := "", pkgPath := "", byteOffset := 8 }, { name := "Link", type := 3, offset := 2, embedded := false, tag := "", pkgPath := "", byteOffset := 16 }, { name := "No", type := 3, offset := 3, embedded := false, tag := "", pkgPath := "", byteOffset := 24 }, { name := "Root", type := 3, offset := 4, embedded := false, tag := "", pkgPath := "", byteOffset := 32 }, { name := "Epoch", type := 3, offset := 5, embedded := false, tag := "", pkgPath := "", byteOffset := 40 }, { name := "Cells", type := 37, offset := 6, embedded := false, tag := "", pkgPath := "", byteOffset := 48 }]) (Go.Value.agg ⟨[(Go.Value.int Go.IntKind.i64 0), (Go.Value.int Go.IntKind.i64 0), (Go.Value.int Go.IntKind.i64 0), (Go.Value.int Go.IntKind.i64 0), (Go.Value.int Go.IntKind.i64 0), (Go.Value.int Go.IntKind.i64 0), (Go.Value.slice none 0 0)]⟩) 7 72 := ⟨by kernel_rfl, Tryz.t38, by kernel_rfl, by kernel_rfl, by kernel_rfl, by kernel_rfl⟩
instance : Ty Tryz.prog 39 (Go.TypeDesc.struct #[{ name := "Kind", type := 3, offset := 0, embedded := false, tag := "", pkgPath := "", byteOffset := 0 }, { name := "Of", type := 3, offset := 1, embedded := false, tag := "", pkgPath := "", byteOffset := 8 }, { name := "Link", type := 3, offset := 2, embedded := false, tag := "", pkgPath := "", byteOffset := 16 }, { name := "No", type := 3, offset := 3, embedded := false, tag := "", pkgPath := "", byteOffset := 24 }, { name := "Root", type := 3, offset := 4, embedded := false, tag := "", pkgPath := "", byteOffset := 32 }, { name := "Epoch", type := 3, offset := 5, embedded := false, tag := "", pkgPath := "", byteOffset := 40 }, { name := "Cells", type := 37, offset := 6, embedded := false, tag := "", pkgPath := "", byteOffset := 48 }]) (Go.Value.agg ⟨[(Go.Value.int Go.IntKind.i64 0), (Go.Value.int Go.IntKind.i64 0), (Go.Value.int Go.IntKind.i64 0), (Go.Value.int Go.IntKind.i64 0), (Go.Value.int Go.IntKind.i64 0), (Go.Value.int Go.IntKind.i64 0), (Go.Value.slice none 0 0)]⟩) 7 72 := ⟨by kernel_rfl, Tryz.t39, by kernel_rfl, by kernel_rfl, by kernel_rfl, by kernel_rfl⟩
instance : Ty Tryz.prog 40 (Go.TypeDesc.int Go.IntKind.i64) (Go.Value.int Go.IntKind.i64 0) 1 8 := ⟨by kernel_rfl, Tryz.t40, by kernel_rfl, by kernel_rfl, by kernel_rfl, by kernel_rfl⟩
instance : Ty Tryz.prog 42 (Go.TypeDesc.func #[34, 39] #[34, 3, 40] false) Go.Value.nilFunc 1 8 := ⟨by kernel_rfl, Tryz.t42, by kernel_rfl, by kernel_rfl, by kernel_rfl, by kernel_rfl⟩
instance : Ty Tryz.prog 44 (Go.TypeDesc.func #[23, 39] #[3, 40] false) Go.Value.nilFunc 1 8 := ⟨by kernel_rfl, Tryz.t44, by kernel_rfl, by kernel_rfl, by kernel_rfl, by kernel_rfl⟩
instance : Ty Tryz.prog 46 (Go.TypeDesc.func #[24] #[23, 40] false) Go.Value.nilFunc 1 8 := ⟨by kernel_rfl, Tryz.t46, by kernel_rfl, by kernel_rfl, by kernel_rfl, by kernel_rfl⟩
instance : Ty Tryz.prog 47 (Go.TypeDesc.func #[34] #[34] false) Go.Value.nilFunc 1 8 := ⟨by kernel_rfl, Tryz.t47, by kernel_rfl, by kernel_rfl, by kernel_rfl, by kernel_rfl⟩
instance : Ty Tryz.prog 48 (Go.TypeDesc.func #[] #[29] false) Go.Value.nilFunc 1 8 := ⟨by kernel_rfl, Tryz.t48, by kernel_rfl, by kernel_rfl, by kernel_rfl, by kernel_rfl⟩
instance : Ty Tryz.prog 49 (Go.TypeDesc.func #[31, 31] #[4] false) Go.Value.nilFunc 1 8 := ⟨by kernel_rfl, Tryz.t49, by kernel_rfl, by kernel_rfl, by kernel_rfl, by kernel_rfl⟩
instance : Ty Tryz.prog 50 (Go.TypeDesc.func #[] #[31] false) Go.Value.nilFunc 1 8 := ⟨by kernel_rfl, Tryz.t50, by kernel_rfl, by kernel_rfl, by kernel_rfl, by kernel_rfl⟩
instance : Ty Tryz.prog 51 (Go.TypeDesc.func #[32, 32] #[4] false) Go.Value.nilFunc 1 8 := ⟨by kernel_rfl, Tryz.t51, by kernel_rfl, by kernel_rfl, by kernel_rfl, by kernel_rfl⟩
instance : Ty Tryz.prog 52 (Go.TypeDesc.func #[] #[32] false) Go.Value.nilFunc 1 8 := ⟨by kernel_rfl, Tryz.t52, by kernel_rfl, by kernel_rfl, by kernel_rfl, by kernel_rfl⟩
instance : Ty Tryz.prog 53 (Go.TypeDesc.func #[] #[3] false) Go.Value.nilFunc 1 8 := ⟨by kernel_rfl, Tryz.t53, by kernel_rfl, by kernel_rfl, by kernel_rfl, by kernel_rfl⟩
instance : Ty Tryz.prog 54 (Go.TypeDesc.pointer 125) (Go.Value.pointer none) 1 8 := ⟨by kernel_rfl, Tryz.t54, by kernel_rfl, by kernel_rfl, by kernel_rfl, by kernel_rfl⟩
instance : Ty Tryz.prog 55 (Go.TypeDesc.map 3 3) (Go.Value.map none) 1 8 := ⟨by kernel_rfl, Tryz.t55, by kernel_rfl, by kernel_rfl, by kernel_rfl, by kernel_rfl⟩
instance : Ty Tryz.prog 56 (Go.TypeDesc.struct #[{ name := "pages", type := 3, offset := 0, embedded := false, tag := "", pkgPath := "lunette/pager", byteOffset := 0 }, { name := "free", type := 31, offset := 1, embedded := false, tag := "", pkgPath := "lunette/pager", byteOffset := 8 }, { name := "chain", type := 32, offset := 2, embedded := false, tag := "", pkgPath := "lunette/pager", byteOffset := 32 }]) (Go.Value.agg ⟨[(Go.Value.int Go.IntKind.i64 0), (Go.Value.slice none 0 0), (Go.Value.slice none 0 0)]⟩) 3 56 := ⟨by kernel_rfl, Tryz.t56, by kernel_rfl, by kernel_rfl, by kernel_rfl, by kernel_rfl⟩
instance : Ty Tryz.prog 57 (Go.TypeDesc.struct #[{ name := "pages", type := 3, offset := 0, embedded := false, tag := "", pkgPath := "lunette/pager", byteOffset := 0 }, { name := "free", type := 31, offset := 1, embedded := false, tag := "", pkgPath := "lunette/pager", byteOffset := 8 }, { name := "chain", type := 32, offset := 2, embedded := false, tag := "", pkgPath := "lunette/pager", byteOffset := 32 }]) (Go.Value.agg ⟨[(Go.Value.int Go.IntKind.i64 0), (Go.Value.slice none 0 0), (Go.Value.slice none 0 0)]⟩) 3 56 := ⟨by kernel_rfl, Tryz.t57, by kernel_rfl, by kernel_rfl, by kernel_rfl, by kernel_rfl⟩
instance : Ty Tryz.prog 58 (Go.TypeDesc.struct #[{ name := "reader", type := 54, offset := 0, embedded := true, tag := "", pkgPath := "lunette/pager", byteOffset := 0 }, { name := "x", type := 29, offset := 1, embedded := false, tag := "", pkgPath := "lunette/pager", byteOffset := 8 }, { name := "free", type := 31, offset := 5, embedded := false, tag := "", pkgPath := "lunette/pager", byteOffset := 40 }, { name := "chain", type := 32, offset := 6, embedded := false, tag := "", pkgPath := "lunette/pager", byteOffset := 64 }, { name := "fresh", type := 55, offset := 7, embedded := false, tag := "", pkgPath := "lunette/pager", byteOffset := 88 }, { name := "oldest", type := 3, offset := 8, embedded := false, tag := "", pkgPath := "lunette/pager", byteOffset := 96 }, { name := "last", type := 57, offset := 9, embedded := false, tag := "", pkgPath := "lunette/pager", byteOffset := 104 }]) (Go.Value.agg ⟨[(Go.Value.pointer none), (Go.Value.int Go.IntKind.i64 0), (Go.Value.int Go.IntKind.i64 0), (Go.Value.int Go.IntKind.i64 0), (Go.Value.int Go.IntKind.i64 0), (Go.Value.slice none 0 0), (Go.Value.slice none 0 0), (Go.Value.map none), (Go.Value.int Go.IntKind.i64 0), (Go.Value.int Go.IntKind.i64 0), (Go.Value.slice none 0 0), (Go.Value.slice none 0 0)]⟩) 12 160 := ⟨by kernel_rfl, Tryz.t58, by kernel_rfl, by kernel_rfl, by kernel_rfl, by kernel_rfl⟩
instance : Ty Tryz.prog 59 (Go.TypeDesc.struct #[{ name := "reader", type := 54, offset := 0, embedded := true, tag := "", pkgPath := "lunette/pager", byteOffset := 0 }, { name := "x", type := 29, offset := 1, embedded := false, tag := "", pkgPath := "lunette/pager", byteOffset := 8 }, { name := "free", type := 31, offset := 5, embedded := false, tag := "", pkgPath := "lunette/pager", byteOffset := 40 }, { name := "chain", type := 32, offset := 6, embedded := false, tag := "", pkgPath := "lunette/pager", byteOffset := 64 }, { name := "fresh", type := 55, offset := 7, embedded := false, tag := "", pkgPath := "lunette/pager", byteOffset := 88 }, { name := "oldest", type := 3, offset := 8, embedded := false, tag := "", pkgPath := "lunette/pager", byteOffset := 96 }, { name := "last", type := 57, offset := 9, embedded := false, tag := "", pkgPath := "lunette/pager", byteOffset := 104 }]) (Go.Value.agg ⟨[(Go.Value.pointer none), (Go.Value.int Go.IntKind.i64 0), (Go.Value.int Go.IntKind.i64 0), (Go.Value.int Go.IntKind.i64 0), (Go.Value.int Go.IntKind.i64 0), (Go.Value.slice none 0 0), (Go.Value.slice none 0 0), (Go.Value.map none), (Go.Value.int Go.IntKind.i64 0), (Go.Value.int Go.IntKind.i64 0), (Go.Value.slice none 0 0), (Go.Value.slice none 0 0)]⟩) 12 160 := ⟨by kernel_rfl, Tryz.t59, by kernel_rfl, by kernel_rfl, by kernel_rfl, by kernel_rfl⟩
instance : Ty Tryz.prog 60 (Go.TypeDesc.func #[5, 22] #[4] false) Go.Value.nilFunc 1 8 := ⟨by kernel_rfl, Tryz.t60, by kernel_rfl, by kernel_rfl, by kernel_rfl, by kernel_rfl⟩
instance : Ty Tryz.prog 61 (Go.TypeDesc.struct #[{ name := "Page", type := 3, offset := 0, embedded := false, tag := "", pkgPath := "", byteOffset := 0 }, { name := "Epoch", type := 3, offset := 1, embedded := false, tag := "", pkgPath := "", byteOffset := 8 }]) (Go.Value.agg ⟨[(Go.Value.int Go.IntKind.i64 0), (Go.Value.int Go.IntKind.i64 0)]⟩) 2 16 := ⟨by kernel_rfl, Tryz.t61, by kernel_rfl, by kernel_rfl, by kernel_rfl, by kernel_rfl⟩
instance : Ty Tryz.prog 62 (Go.TypeDesc.struct #[{ name := "Page", type := 3, offset := 0, embedded := false, tag := "", pkgPath := "", byteOffset := 0 }, { name := "Epoch", type := 3, offset := 1, embedded := false, tag := "", pkgPath := "", byteOffset := 8 }]) (Go.Value.agg ⟨[(Go.Value.int Go.IntKind.i64 0), (Go.Value.int Go.IntKind.i64 0)]⟩) 2 16 := ⟨by kernel_rfl, Tryz.t62, by kernel_rfl, by kernel_rfl, by kernel_rfl, by kernel_rfl⟩
instance : Ty Tryz.prog 63 (Go.TypeDesc.slice 40) (Go.Value.slice none 0 0) 1 24 := ⟨by kernel_rfl, Tryz.t63, by kernel_rfl, by kernel_rfl, by kernel_rfl, by kernel_rfl⟩
instance : Ty Tryz.prog 64 (Go.TypeDesc.struct #[{ name := "Kind", type := 3, offset := 0, embedded := false, tag := "", pkgPath := "", byteOffset := 0 }, { name := "No", type := 3, offset := 1, embedded := false, tag := "", pkgPath := "", byteOffset := 8 }, { name := "Epoch", type := 3, offset := 2, embedded := false, tag := "", pkgPath := "", byteOffset := 16 }, { name := "Link", type := 3, offset := 3, embedded := false, tag := "", pkgPath := "", byteOffset := 24 }, { name := "Cells", type := 37, offset := 4, embedded := false, tag := "", pkgPath := "", byteOffset := 32 }]) (Go.Value.agg ⟨[(Go.Value.int Go.IntKind.i64 0), (Go.Value.int Go.IntKind.i64 0), (Go.Value.int Go.IntKind.i64 0), (Go.Value.int Go.IntKind.i64 0), (Go.Value.slice none 0 0)]⟩) 5 56 := ⟨by kernel_rfl, Tryz.t64, by kernel_rfl, by kernel_rfl, by kernel_rfl, by kernel_rfl⟩
instance : Ty Tryz.prog 65 (Go.TypeDesc.struct #[{ name := "Kind", type := 3, offset := 0, embedded := false, tag := "", pkgPath := "", byteOffset := 0 }, { name := "No", type := 3, offset := 1, embedded := false, tag := "", pkgPath := "", byteOffset := 8 }, { name := "Epoch", type := 3, offset := 2, embedded := false, tag := "", pkgPath := "", byteOffset := 16 }, { name := "Link", type := 3, offset := 3, embedded := false, tag := "", pkgPath := "", byteOffset := 24 }, { name := "Cells", type := 37, offset := 4, embedded := false, tag := "", pkgPath := "", byteOffset := 32 }]) (Go.Value.agg ⟨[(Go.Value.int Go.IntKind.i64 0), (Go.Value.int Go.IntKind.i64 0), (Go.Value.int Go.IntKind.i64 0), (Go.Value.int Go.IntKind.i64 0), (Go.Value.slice none 0 0)]⟩) 5 56 := ⟨by kernel_rfl, Tryz.t65, by kernel_rfl, by kernel_rfl, by kernel_rfl, by kernel_rfl⟩
instance : Ty Tryz.prog 67 (Go.TypeDesc.func #[3] #[65, 40] false) Go.Value.nilFunc 1 8 := ⟨by kernel_rfl, Tryz.t67, by kernel_rfl, by kernel_rfl, by kernel_rfl, by kernel_rfl⟩
instance : Ty Tryz.prog 68 (Go.TypeDesc.func #[65, 65] #[4] false) Go.Value.nilFunc 1 8 := ⟨by kernel_rfl, Tryz.t68, by kernel_rfl, by kernel_rfl, by kernel_rfl, by kernel_rfl⟩
instance : Ty Tryz.prog 69 (Go.TypeDesc.func #[22, 22] #[4] false) Go.Value.nilFunc 1 8 := ⟨by kernel_rfl, Tryz.t69, by kernel_rfl, by kernel_rfl, by kernel_rfl, by kernel_rfl⟩
instance : Ty Tryz.prog 70 (Go.TypeDesc.func #[3, 3, 37] #[3, 40] false) Go.Value.nilFunc 1 8 := ⟨by kernel_rfl, Tryz.t70, by kernel_rfl, by kernel_rfl, by kernel_rfl, by kernel_rfl⟩
instance : Ty Tryz.prog 71 (Go.TypeDesc.func #[22, 37] #[4] false) Go.Value.nilFunc 1 8 := ⟨by kernel_rfl, Tryz.t71, by kernel_rfl, by kernel_rfl, by kernel_rfl, by kernel_rfl⟩
instance : Ty Tryz.prog 72 (Go.TypeDesc.func #[32, 3] #[32] false) Go.Value.nilFunc 1 8 := ⟨by kernel_rfl, Tryz.t72, by kernel_rfl, by kernel_rfl, by kernel_rfl, by kernel_rfl⟩
instance : Ty Tryz.prog 73 (Go.TypeDesc.func #[31, 32, 3] #[4] false) Go.Value.nilFunc 1 8 := ⟨by kernel_rfl, Tryz.t73, by kernel_rfl, by kernel_rfl, by kernel_rfl, by kernel_rfl⟩
instance : Ty Tryz.prog 74 (Go.TypeDesc.func #[22] #[4] false) Go.Value.nilFunc 1 8 := ⟨by kernel_rfl, Tryz.t74, by kernel_rfl, by kernel_rfl, by kernel_rfl, by kernel_rfl⟩
instance : Ty Tryz.prog 75 (Go.TypeDesc.slice 81) (Go.Value.slice none 0 0) 1 24 := ⟨by kernel_rfl, Tryz.t75, by kernel_rfl, by kernel_rfl, by kernel_rfl, by kernel_rfl⟩
instance : Ty Tryz.prog 76 (Go.TypeDesc.array 3 9) (Go.Value.agg ⟨[(Go.Value.string { data := #[] }), (Go.Value.string { data := #[] }), (Go.Value.string { data := #[] })]⟩) 3 48 := ⟨by kernel_rfl, Tryz.t76, by kernel_rfl, by kernel_rfl, by kernel_rfl, by kernel_rfl⟩
instance : Ty Tryz.prog 77 (Go.TypeDesc.func #[3] #[23] false) Go.Value.nilFunc 1 8 := ⟨by kernel_rfl, Tryz.t77, by kernel_rfl, by kernel_rfl, by kernel_rfl, by kernel_rfl⟩
instance : Ty Tryz.prog 78 (Go.TypeDesc.slice 99) (Go.Value.slice none 0 0) 1 24 := ⟨by kernel_rfl, Tryz.t78, by kernel_rfl, by kernel_rfl, by kernel_rfl, by kernel_rfl⟩
instance : Ty Tryz.prog 79 (Go.TypeDesc.func #[81] #[4] false) Go.Value.nilFunc 1 8 := ⟨by kernel_rfl, Tryz.t79, by kernel_rfl, by kernel_rfl, by kernel_rfl, by kernel_rfl⟩
instance : Ty Tryz.prog 80 (Go.TypeDesc.struct #[{ name := "Kind", type := 3, offset := 0, embedded := false, tag := "", pkgPath := "", byteOffset := 0 }, { name := "Key", type := 9, offset := 1, embedded := false, tag := "", pkgPath := "", byteOffset := 8 }, { name := "Value", type := 9, offset := 2, embedded := false, tag := "", pkgPath := "", byteOffset := 24 }]) (Go.Value.agg ⟨[(Go.Value.int Go.IntKind.i64 0), (Go.Value.string { data := #[] }), (Go.Value.string { data := #[] })]⟩) 3 40 := ⟨by kernel_rfl, Tryz.t80, by kernel_rfl, by kernel_rfl, by kernel_rfl, by kernel_rfl⟩
instance : Ty Tryz.prog 81 (Go.TypeDesc.struct #[{ name := "Kind", type := 3, offset := 0, embedded := false, tag := "", pkgPath := "", byteOffset := 0 }, { name := "Key", type := 9, offset := 1, embedded := false, tag := "", pkgPath := "", byteOffset := 8 }, { name := "Value", type := 9, offset := 2, embedded := false, tag := "", pkgPath := "", byteOffset := 24 }]) (Go.Value.agg ⟨[(Go.Value.int Go.IntKind.i64 0), (Go.Value.string { data := #[] }), (Go.Value.string { data := #[] })]⟩) 3 40 := ⟨by kernel_rfl, Tryz.t81, by kernel_rfl, by kernel_rfl, by kernel_rfl, by kernel_rfl⟩
instance : Ty Tryz.prog 83 (Go.TypeDesc.func #[23, 3, 78, 81] #[3, 78, 4] false) Go.Value.nilFunc 1 8 := ⟨by kernel_rfl, Tryz.t83, by kernel_rfl, by kernel_rfl, by kernel_rfl, by kernel_rfl⟩
instance : Ty Tryz.prog 85 (Go.TypeDesc.func #[23, 3, 9, 9, 3] #[78, 40] false) Go.Value.nilFunc 1 8 := ⟨by kernel_rfl, Tryz.t85, by kernel_rfl, by kernel_rfl, by kernel_rfl, by kernel_rfl⟩
instance : Ty Tryz.prog 87 (Go.TypeDesc.func #[23, 3, 9] #[9, 4, 40] false) Go.Value.nilFunc 1 8 := ⟨by kernel_rfl, Tryz.t87, by kernel_rfl, by kernel_rfl, by kernel_rfl, by kernel_rfl⟩
instance : Ty Tryz.prog 89 (Go.TypeDesc.func #[78, 9] #[9, 4] false) Go.Value.nilFunc 1 8 := ⟨by kernel_rfl, Tryz.t89, by kernel_rfl, by kernel_rfl, by kernel_rfl, by kernel_rfl⟩
instance : Ty Tryz.prog 90 (Go.TypeDesc.func #[23, 3, 78] #[4] false) Go.Value.nilFunc 1 8 := ⟨by kernel_rfl, Tryz.t90, by kernel_rfl, by kernel_rfl, by kernel_rfl, by kernel_rfl⟩
instance : Ty Tryz.prog 91 (Go.TypeDesc.func #[78, 78] #[4] false) Go.Value.nilFunc 1 8 := ⟨by kernel_rfl, Tryz.t91, by kernel_rfl, by kernel_rfl, by kernel_rfl, by kernel_rfl⟩
instance : Ty Tryz.prog 92 (Go.TypeDesc.func #[78, 9, 9, 3] #[78] false) Go.Value.nilFunc 1 8 := ⟨by kernel_rfl, Tryz.t92, by kernel_rfl, by kernel_rfl, by kernel_rfl, by kernel_rfl⟩
instance : Ty Tryz.prog 93 (Go.TypeDesc.func #[75, 76, 3] #[4] false) Go.Value.nilFunc 1 8 := ⟨by kernel_rfl, Tryz.t93, by kernel_rfl, by kernel_rfl, by kernel_rfl, by kernel_rfl⟩
instance : Ty Tryz.prog 94 (Go.TypeDesc.func #[75] #[4] false) Go.Value.nilFunc 1 8 := ⟨by kernel_rfl, Tryz.t94, by kernel_rfl, by kernel_rfl, by kernel_rfl, by kernel_rfl⟩
instance : Ty Tryz.prog 95 (Go.TypeDesc.func #[23, 3] #[3, 40] false) Go.Value.nilFunc 1 8 := ⟨by kernel_rfl, Tryz.t95, by kernel_rfl, by kernel_rfl, by kernel_rfl, by kernel_rfl⟩
instance : Ty Tryz.prog 96 (Go.TypeDesc.func #[3, 3, 37, 9] #[4] false) Go.Value.nilFunc 1 8 := ⟨by kernel_rfl, Tryz.t96, by kernel_rfl, by kernel_rfl, by kernel_rfl, by kernel_rfl⟩
instance : Ty Tryz.prog 97 (Go.TypeDesc.func #[23, 3, 9, 9] #[3, 40] false) Go.Value.nilFunc 1 8 := ⟨by kernel_rfl, Tryz.t97, by kernel_rfl, by kernel_rfl, by kernel_rfl, by kernel_rfl⟩
instance : Ty Tryz.prog 98 (Go.TypeDesc.func #[37, 5] #[4] false) Go.Value.nilFunc 1 8 := ⟨by kernel_rfl, Tryz.t98, by kernel_rfl, by kernel_rfl, by kernel_rfl, by kernel_rfl⟩
instance : Ty Tryz.prog 99 (Go.TypeDesc.array 2 9) (Go.Value.agg ⟨[(Go.Value.string { data := #[] }), (Go.Value.string { data := #[] })]⟩) 2 32 := ⟨by kernel_rfl, Tryz.t99, by kernel_rfl, by kernel_rfl, by kernel_rfl, by kernel_rfl⟩
instance : Ty Tryz.prog 100 (Go.TypeDesc.func #[75, 9] #[4] false) Go.Value.nilFunc 1 8 := ⟨by kernel_rfl, Tryz.t100, by kernel_rfl, by kernel_rfl, by kernel_rfl, by kernel_rfl⟩
instance : Ty Tryz.prog 102 (Go.TypeDesc.func #[23, 3, 9] #[3, 4, 40] false) Go.Value.nilFunc 1 8 := ⟨by kernel_rfl, Tryz.t102, by kernel_rfl, by kernel_rfl, by kernel_rfl, by kernel_rfl⟩
instance : Ty Tryz.prog 103 (Go.TypeDesc.func #[78, 9, 9] #[78] false) Go.Value.nilFunc 1 8 := ⟨by kernel_rfl, Tryz.t103, by kernel_rfl, by kernel_rfl, by kernel_rfl, by kernel_rfl⟩
instance : Ty Tryz.prog 105 (Go.TypeDesc.func #[78, 9] #[78, 4] false) Go.Value.nilFunc 1 8 := ⟨by kernel_rfl, Tryz.t105, by kernel_rfl, by kernel_rfl, by kernel_rfl, by kernel_rfl⟩
instance : Ty Tryz.prog 106 (Go.TypeDesc.func #[3] #[40] false) Go.Value.nilFunc 1 8 := ⟨by kernel_rfl, Tryz.t106, by kernel_rfl, by kernel_rfl, by kernel_rfl, by kernel_rfl⟩
instance : Ty Tryz.prog 107 (Go.TypeDesc.func #[5, 75] #[4] false) Go.Value.nilFunc 1 8 := ⟨by kernel_rfl, Tryz.t107, by kernel_rfl, by kernel_rfl, by kernel_rfl, by kernel_rfl⟩
instance : Ty Tryz.prog 108 (Go.TypeDesc.func #[3] #[] false) Go.Value.nilFunc 1 8 := ⟨by kernel_rfl, Tryz.t108, by kernel_rfl, by kernel_rfl, by kernel_rfl, by kernel_rfl⟩
instance : Ty Tryz.prog 109 (Go.TypeDesc.func #[75, 75] #[4] false) Go.Value.nilFunc 1 8 := ⟨by kernel_rfl, Tryz.t109, by kernel_rfl, by kernel_rfl, by kernel_rfl, by kernel_rfl⟩
instance : Ty Tryz.prog 111 (Go.TypeDesc.func #[23, 3] #[32, 40] false) Go.Value.nilFunc 1 8 := ⟨by kernel_rfl, Tryz.t111, by kernel_rfl, by kernel_rfl, by kernel_rfl, by kernel_rfl⟩
instance : Ty Tryz.prog 113 (Go.TypeDesc.func #[3] #[24, 40] false) Go.Value.nilFunc 1 8 := ⟨by kernel_rfl, Tryz.t113, by kernel_rfl, by kernel_rfl, by kernel_rfl, by kernel_rfl⟩
instance : Ty Tryz.prog 114 (Go.TypeDesc.func #[3, 3, 3, 37] #[3, 40] false) Go.Value.nilFunc 1 8 := ⟨by kernel_rfl, Tryz.t114, by kernel_rfl, by kernel_rfl, by kernel_rfl, by kernel_rfl⟩
instance : Ty Tryz.prog 115 (Go.TypeDesc.func #[34, 3] #[4] false) Go.Value.nilFunc 1 8 := ⟨by kernel_rfl, Tryz.t115, by kernel_rfl, by kernel_rfl, by kernel_rfl, by kernel_rfl⟩
instance : Ty Tryz.prog 116 (Go.TypeDesc.func #[32, 3] #[4] false) Go.Value.nilFunc 1 8 := ⟨by kernel_rfl, Tryz.t116, by kernel_rfl, by kernel_rfl, by kernel_rfl, by kernel_rfl⟩
instance : Ty Tryz.prog 118 (Go.TypeDesc.func #[65] #[9, 40] false) Go.Value.nilFunc 1 8 := ⟨by kernel_rfl, Tryz.t118, by kernel_rfl, by kernel_rfl, by kernel_rfl, by kernel_rfl⟩
instance : Ty Tryz.prog 119 (Go.TypeDesc.func #[30, 65] #[30] false) Go.Value.nilFunc 1 8 := ⟨by kernel_rfl, Tryz.t119, by kernel_rfl, by kernel_rfl, by kernel_rfl, by kernel_rfl⟩
instance : Ty Tryz.prog 121 (Go.TypeDesc.func #[34, 3] #[34, 40] false) Go.Value.nilFunc 1 8 := ⟨by kernel_rfl, Tryz.t121, by kernel_rfl, by kernel_rfl, by kernel_rfl, by kernel_rfl⟩
instance : Ty Tryz.prog 122 (Go.TypeDesc.pointer 194) (Go.Value.pointer none) 1 8 := ⟨by kernel_rfl, Tryz.t122, by kernel_rfl, by kernel_rfl, by kernel_rfl, by kernel_rfl⟩
instance : Ty Tryz.prog 123 (Go.TypeDesc.func #[] #[122] false) Go.Value.nilFunc 1 8 := ⟨by kernel_rfl, Tryz.t123, by kernel_rfl, by kernel_rfl, by kernel_rfl, by kernel_rfl⟩
instance : Ty Tryz.prog 124 (Go.TypeDesc.struct #[{ name := "d", type := 24, offset := 0, embedded := false, tag := "", pkgPath := "lunette/pager", byteOffset := 0 }, { name := "s", type := 122, offset := 1, embedded := false, tag := "", pkgPath := "lunette/pager", byteOffset := 8 }, { name := "pages", type := 3, offset := 2, embedded := false, tag := "", pkgPath := "lunette/pager", byteOffset := 16 }]) (Go.Value.agg ⟨[(Go.Value.pointer none), (Go.Value.pointer none), (Go.Value.int Go.IntKind.i64 0)]⟩) 3 24 := ⟨by kernel_rfl, Tryz.t124, by kernel_rfl, by kernel_rfl, by kernel_rfl, by kernel_rfl⟩
instance : Ty Tryz.prog 125 (Go.TypeDesc.struct #[{ name := "d", type := 24, offset := 0, embedded := false, tag := "", pkgPath := "lunette/pager", byteOffset := 0 }, { name := "s", type := 122, offset := 1, embedded := false, tag := "", pkgPath := "lunette/pager", byteOffset := 8 }, { name := "pages", type := 3, offset := 2, embedded := false, tag := "", pkgPath := "lunette/pager", byteOffset := 16 }]) (Go.Value.agg ⟨[(Go.Value.pointer none), (Go.Value.pointer none), (Go.Value.int Go.IntKind.i64 0)]⟩) 3 24 := ⟨by kernel_rfl, Tryz.t125, by kernel_rfl, by kernel_rfl, by kernel_rfl, by kernel_rfl⟩
instance : Ty Tryz.prog 126 (Go.TypeDesc.slice 5) (Go.Value.slice none 0 0) 1 24 := ⟨by kernel_rfl, Tryz.t126, by kernel_rfl, by kernel_rfl, by kernel_rfl, by kernel_rfl⟩
instance : Ty Tryz.prog 128 (Go.TypeDesc.func #[3] #[126, 40] false) Go.Value.nilFunc 1 8 := ⟨by kernel_rfl, Tryz.t128, by kernel_rfl, by kernel_rfl, by kernel_rfl, by kernel_rfl⟩
instance : Ty Tryz.prog 130 (Go.TypeDesc.func #[122, 126, 126] #[29, 40] false) Go.Value.nilFunc 1 8 := ⟨by kernel_rfl, Tryz.t130, by kernel_rfl, by kernel_rfl, by kernel_rfl, by kernel_rfl⟩
instance : Ty Tryz.prog 131 (Go.TypeDesc.func #[] #[40] false) Go.Value.nilFunc 1 8 := ⟨by kernel_rfl, Tryz.t131, by kernel_rfl, by kernel_rfl, by kernel_rfl, by kernel_rfl⟩
instance : Ty Tryz.prog 132 (Go.TypeDesc.func #[31] #[31] false) Go.Value.nilFunc 1 8 := ⟨by kernel_rfl, Tryz.t132, by kernel_rfl, by kernel_rfl, by kernel_rfl, by kernel_rfl⟩
instance : Ty Tryz.prog 133 (Go.TypeDesc.func #[32] #[32] false) Go.Value.nilFunc 1 8 := ⟨by kernel_rfl, Tryz.t133, by kernel_rfl, by kernel_rfl, by kernel_rfl, by kernel_rfl⟩
instance : Ty Tryz.prog 134 (Go.TypeDesc.func #[55, 135] #[] false) Go.Value.nilFunc 1 8 := ⟨by kernel_rfl, Tryz.t134, by kernel_rfl, by kernel_rfl, by kernel_rfl, by kernel_rfl⟩
instance : Ty Tryz.prog 135 (Go.TypeDesc.func #[3, 3] #[4] false) Go.Value.nilFunc 1 8 := ⟨by kernel_rfl, Tryz.t135, by kernel_rfl, by kernel_rfl, by kernel_rfl, by kernel_rfl⟩
instance : Ty Tryz.prog 136 (Go.TypeDesc.func #[122, 126] #[65, 40] false) Go.Value.nilFunc 1 8 := ⟨by kernel_rfl, Tryz.t136, by kernel_rfl, by kernel_rfl, by kernel_rfl, by kernel_rfl⟩
instance : Ty Tryz.prog 137 (Go.TypeDesc.func #[122, 65] #[126, 40] false) Go.Value.nilFunc 1 8 := ⟨by kernel_rfl, Tryz.t137, by kernel_rfl, by kernel_rfl, by kernel_rfl, by kernel_rfl⟩
instance : Ty Tryz.prog 138 (Go.TypeDesc.func #[] #[3, 40] false) Go.Value.nilFunc 1 8 := ⟨by kernel_rfl, Tryz.t138, by kernel_rfl, by kernel_rfl, by kernel_rfl, by kernel_rfl⟩
instance : Ty Tryz.prog 139 (Go.TypeDesc.func #[3, 3, 3, 37] #[40] false) Go.Value.nilFunc 1 8 := ⟨by kernel_rfl, Tryz.t139, by kernel_rfl, by kernel_rfl, by kernel_rfl, by kernel_rfl⟩
instance : Ty Tryz.prog 140 (Go.TypeDesc.func #[3, 3] #[40] false) Go.Value.nilFunc 1 8 := ⟨by kernel_rfl, Tryz.t140, by kernel_rfl, by kernel_rfl, by kernel_rfl, by kernel_rfl⟩
instance : Ty Tryz.prog 141 (Go.TypeDesc.struct #[{ name := "Leaf", type := 4, offset := 0, embedded := false, tag := "", pkgPath := "", byteOffset := 0 }, { name := "Keys", type := 37, offset := 1, embedded := false, tag := "", pkgPath := "", byteOffset := 8 }, { name := "Values", type := 37, offset := 2, embedded := false, tag := "", pkgPath := "", byteOffset := 32 }, { name := "Kids", type := 32, offset := 3, embedded := false, tag := "", pkgPath := "", byteOffset := 56 }]) (Go.Value.agg ⟨[(Go.Value.bool false), (Go.Value.slice none 0 0), (Go.Value.slice none 0 0), (Go.Value.slice none 0 0)]⟩) 4 80 := ⟨by kernel_rfl, Tryz.t141, by kernel_rfl, by kernel_rfl, by kernel_rfl, by kernel_rfl⟩
instance : Ty Tryz.prog 142 (Go.TypeDesc.struct #[{ name := "Leaf", type := 4, offset := 0, embedded := false, tag := "", pkgPath := "", byteOffset := 0 }, { name := "Keys", type := 37, offset := 1, embedded := false, tag := "", pkgPath := "", byteOffset := 8 }, { name := "Values", type := 37, offset := 2, embedded := false, tag := "", pkgPath := "", byteOffset := 32 }, { name := "Kids", type := 32, offset := 3, embedded := false, tag := "", pkgPath := "", byteOffset := 56 }]) (Go.Value.agg ⟨[(Go.Value.bool false), (Go.Value.slice none 0 0), (Go.Value.slice none 0 0), (Go.Value.slice none 0 0)]⟩) 4 80 := ⟨by kernel_rfl, Tryz.t142, by kernel_rfl, by kernel_rfl, by kernel_rfl, by kernel_rfl⟩
instance : Ty Tryz.prog 144 (Go.TypeDesc.func #[23, 3] #[142, 40] false) Go.Value.nilFunc 1 8 := ⟨by kernel_rfl, Tryz.t144, by kernel_rfl, by kernel_rfl, by kernel_rfl, by kernel_rfl⟩
instance : Ty Tryz.prog 145 (Go.TypeDesc.slice 149) (Go.Value.slice none 0 0) 1 24 := ⟨by kernel_rfl, Tryz.t145, by kernel_rfl, by kernel_rfl, by kernel_rfl, by kernel_rfl⟩
instance : Ty Tryz.prog 147 (Go.TypeDesc.func #[23, 3, 9] #[145, 4, 40] false) Go.Value.nilFunc 1 8 := ⟨by kernel_rfl, Tryz.t147, by kernel_rfl, by kernel_rfl, by kernel_rfl, by kernel_rfl⟩
instance : Ty Tryz.prog 148 (Go.TypeDesc.struct #[{ name := "no", type := 3, offset := 0, embedded := false, tag := "", pkgPath := "lunette/tree", byteOffset := 0 }, { name := "n", type := 142, offset := 1, embedded := false, tag := "", pkgPath := "lunette/tree", byteOffset := 8 }, { name := "at", type := 3, offset := 5, embedded := false, tag := "", pkgPath := "lunette/tree", byteOffset := 88 }]) (Go.Value.agg ⟨[(Go.Value.int Go.IntKind.i64 0), (Go.Value.bool false), (Go.Value.slice none 0 0), (Go.Value.slice none 0 0), (Go.Value.slice none 0 0), (Go.Value.int Go.IntKind.i64 0)]⟩) 6 96 := ⟨by kernel_rfl, Tryz.t148, by kernel_rfl, by kernel_rfl, by kernel_rfl, by kernel_rfl⟩
instance : Ty Tryz.prog 149 (Go.TypeDesc.struct #[{ name := "no", type := 3, offset := 0, embedded := false, tag := "", pkgPath := "lunette/tree", byteOffset := 0 }, { name := "n", type := 142, offset := 1, embedded := false, tag := "", pkgPath := "lunette/tree", byteOffset := 8 }, { name := "at", type := 3, offset := 5, embedded := false, tag := "", pkgPath := "lunette/tree", byteOffset := 88 }]) (Go.Value.agg ⟨[(Go.Value.int Go.IntKind.i64 0), (Go.Value.bool false), (Go.Value.slice none 0 0), (Go.Value.slice none 0 0), (Go.Value.slice none 0 0), (Go.Value.int Go.IntKind.i64 0)]⟩) 6 96 := ⟨by kernel_rfl, Tryz.t149, by kernel_rfl, by kernel_rfl, by kernel_rfl, by kernel_rfl⟩
instance : Ty Tryz.prog 150 (Go.TypeDesc.func #[9, 9] #[4] false) Go.Value.nilFunc 1 8 := ⟨by kernel_rfl, Tryz.t150, by kernel_rfl, by kernel_rfl, by kernel_rfl, by kernel_rfl⟩
instance : Ty Tryz.prog 151 (Go.TypeDesc.func #[23, 3, 3, 152] #[40] false) Go.Value.nilFunc 1 8 := ⟨by kernel_rfl, Tryz.t151, by kernel_rfl, by kernel_rfl, by kernel_rfl, by kernel_rfl⟩
instance : Ty Tryz.prog 152 (Go.TypeDesc.func #[3, 3, 142] #[4, 40] false) Go.Value.nilFunc 1 8 := ⟨by kernel_rfl, Tryz.t152, by kernel_rfl, by kernel_rfl, by kernel_rfl, by kernel_rfl⟩
instance : Ty Tryz.prog 154 (Go.TypeDesc.func #[23, 3, 142] #[32, 37, 40] false) Go.Value.nilFunc 1 8 := ⟨by kernel_rfl, Tryz.t154, by kernel_rfl, by kernel_rfl, by kernel_rfl, by kernel_rfl⟩
instance : Ty Tryz.prog 155 (Go.TypeDesc.func #[142, 9, 9] #[142] false) Go.Value.nilFunc 1 8 := ⟨by kernel_rfl, Tryz.t155, by kernel_rfl, by kernel_rfl, by kernel_rfl, by kernel_rfl⟩
instance : Ty Tryz.prog 156 (Go.TypeDesc.func #[23, 145, 32, 37] #[3, 40] false) Go.Value.nilFunc 1 8 := ⟨by kernel_rfl, Tryz.t156, by kernel_rfl, by kernel_rfl, by kernel_rfl, by kernel_rfl⟩
instance : Ty Tryz.prog 157 (Go.TypeDesc.func #[142, 9] #[142] false) Go.Value.nilFunc 1 8 := ⟨by kernel_rfl, Tryz.t157, by kernel_rfl, by kernel_rfl, by kernel_rfl, by kernel_rfl⟩
instance : Ty Tryz.prog 158 (Go.TypeDesc.func #[142, 3] #[142] false) Go.Value.nilFunc 1 8 := ⟨by kernel_rfl, Tryz.t158, by kernel_rfl, by kernel_rfl, by kernel_rfl, by kernel_rfl⟩
instance : Ty Tryz.prog 160 (Go.TypeDesc.func #[23, 149, 3, 142] #[149, 3, 142, 40] false) Go.Value.nilFunc 1 8 := ⟨by kernel_rfl, Tryz.t160, by kernel_rfl, by kernel_rfl, by kernel_rfl, by kernel_rfl⟩
instance : Ty Tryz.prog 161 (Go.TypeDesc.func #[142, 3, 32, 37] #[142] false) Go.Value.nilFunc 1 8 := ⟨by kernel_rfl, Tryz.t161, by kernel_rfl, by kernel_rfl, by kernel_rfl, by kernel_rfl⟩
instance : Ty Tryz.prog 162 (Go.TypeDesc.func #[23, 3, 142] #[3, 4, 40] false) Go.Value.nilFunc 1 8 := ⟨by kernel_rfl, Tryz.t162, by kernel_rfl, by kernel_rfl, by kernel_rfl, by kernel_rfl⟩
instance : Ty Tryz.prog 163 (Go.TypeDesc.func #[3] #[4] false) Go.Value.nilFunc 1 8 := ⟨by kernel_rfl, Tryz.t163, by kernel_rfl, by kernel_rfl, by kernel_rfl, by kernel_rfl⟩
instance : Ty Tryz.prog 164 (Go.TypeDesc.func #[3] #[29, 40] false) Go.Value.nilFunc 1 8 := ⟨by kernel_rfl, Tryz.t164, by kernel_rfl, by kernel_rfl, by kernel_rfl, by kernel_rfl⟩
instance : Ty Tryz.prog 165 (Go.TypeDesc.map 3 126) (Go.Value.map none) 1 8 := ⟨by kernel_rfl, Tryz.t165, by kernel_rfl, by kernel_rfl, by kernel_rfl, by kernel_rfl⟩
instance : Ty Tryz.prog 166 (Go.TypeDesc.slice 242) (Go.Value.slice none 0 0) 1 24 := ⟨by kernel_rfl, Tryz.t166, by kernel_rfl, by kernel_rfl, by kernel_rfl, by kernel_rfl⟩
instance : Ty Tryz.prog 167 (Go.TypeDesc.struct #[{ name := "most", type := 3, offset := 0, embedded := false, tag := "", pkgPath := "lunette/disk", byteOffset := 0 }, { name := "pages", type := 3, offset := 1, embedded := false, tag := "", pkgPath := "lunette/disk", byteOffset := 8 }, { name := "last", type := 165, offset := 2, embedded := false, tag := "", pkgPath := "lunette/disk", byteOffset := 16 }, { name := "loose", type := 166, offset := 3, embedded := false, tag := "", pkgPath := "lunette/disk", byteOffset := 24 }, { name := "now", type := 165, offset := 4, embedded := false, tag := "", pkgPath := "lunette/disk", byteOffset := 48 }, { name := "fuse", type := 3, offset := 5, embedded := false, tag := "", pkgPath := "lunette/disk", byteOffset := 56 }, { name := "burns", type := 4, offset := 6, embedded := false, tag := "", pkgPath := "lunette/disk", byteOffset := 64 }]) (Go.Value.agg ⟨[(Go.Value.int Go.IntKind.i64 0), (Go.Value.int Go.IntKind.i64 0), (Go.Value.map none), (Go.Value.slice none 0 0), (Go.Value.map none), (Go.Value.int Go.IntKind.i64 0), (Go.Value.bool false)]⟩) 7 72 := ⟨by kernel_rfl, Tryz.t167, by kernel_rfl, by kernel_rfl, by kernel_rfl, by kernel_rfl⟩
instance : Ty Tryz.prog 168 (Go.TypeDesc.struct #[{ name := "most", type := 3, offset := 0, embedded := false, tag := "", pkgPath := "lunette/disk", byteOffset := 0 }, { name := "pages", type := 3, offset := 1, embedded := false, tag := "", pkgPath := "lunette/disk", byteOffset := 8 }, { name := "last", type := 165, offset := 2, embedded := false, tag := "", pkgPath := "lunette/disk", byteOffset := 16 }, { name := "loose", type := 166, offset := 3, embedded := false, tag := "", pkgPath := "lunette/disk", byteOffset := 24 }, { name := "now", type := 165, offset := 4, embedded := false, tag := "", pkgPath := "lunette/disk", byteOffset := 48 }, { name := "fuse", type := 3, offset := 5, embedded := false, tag := "", pkgPath := "lunette/disk", byteOffset := 56 }, { name := "burns", type := 4, offset := 6, embedded := false, tag := "", pkgPath := "lunette/disk", byteOffset := 64 }]) (Go.Value.agg ⟨[(Go.Value.int Go.IntKind.i64 0), (Go.Value.int Go.IntKind.i64 0), (Go.Value.map none), (Go.Value.slice none 0 0), (Go.Value.map none), (Go.Value.int Go.IntKind.i64 0), (Go.Value.bool false)]⟩) 7 72 := ⟨by kernel_rfl, Tryz.t168, by kernel_rfl, by kernel_rfl, by kernel_rfl, by kernel_rfl⟩
instance : Ty Tryz.prog 170 (Go.TypeDesc.func #[34] #[34, 3, 40] false) Go.Value.nilFunc 1 8 := ⟨by kernel_rfl, Tryz.t170, by kernel_rfl, by kernel_rfl, by kernel_rfl, by kernel_rfl⟩
instance : Ty Tryz.prog 171 (Go.TypeDesc.func #[37] #[4] false) Go.Value.nilFunc 1 8 := ⟨by kernel_rfl, Tryz.t171, by kernel_rfl, by kernel_rfl, by kernel_rfl, by kernel_rfl⟩
instance : Ty Tryz.prog 172 (Go.TypeDesc.func #[3] #[9] false) Go.Value.nilFunc 1 8 := ⟨by kernel_rfl, Tryz.t172, by kernel_rfl, by kernel_rfl, by kernel_rfl, by kernel_rfl⟩
instance : Ty Tryz.prog 173 (Go.TypeDesc.int Go.IntKind.u32) (Go.Value.int Go.IntKind.u32 0) 1 4 := ⟨by kernel_rfl, Tryz.t173, by kernel_rfl, by kernel_rfl, by kernel_rfl, by kernel_rfl⟩
instance : Ty Tryz.prog 174 (Go.TypeDesc.func #[9] #[173] false) Go.Value.nilFunc 1 8 := ⟨by kernel_rfl, Tryz.t174, by kernel_rfl, by kernel_rfl, by kernel_rfl, by kernel_rfl⟩
instance : Ty Tryz.prog 175 (Go.TypeDesc.func #[31, 3, 3] #[31] false) Go.Value.nilFunc 1 8 := ⟨by kernel_rfl, Tryz.t175, by kernel_rfl, by kernel_rfl, by kernel_rfl, by kernel_rfl⟩
instance : Ty Tryz.prog 176 (Go.TypeDesc.slice 37) (Go.Value.slice none 0 0) 1 24 := ⟨by kernel_rfl, Tryz.t176, by kernel_rfl, by kernel_rfl, by kernel_rfl, by kernel_rfl⟩
instance : Ty Tryz.prog 177 (Go.TypeDesc.func #[31] #[176] false) Go.Value.nilFunc 1 8 := ⟨by kernel_rfl, Tryz.t177, by kernel_rfl, by kernel_rfl, by kernel_rfl, by kernel_rfl⟩
instance : Ty Tryz.prog 178 (Go.TypeDesc.struct #[]) (Go.Value.agg ⟨[]⟩) 0 0 := ⟨by kernel_rfl, Tryz.t178, by kernel_rfl, by kernel_rfl, by kernel_rfl, by kernel_rfl⟩
instance : Ty Tryz.prog 179 (Go.TypeDesc.struct #[]) (Go.Value.agg ⟨[]⟩) 0 0 := ⟨by kernel_rfl, Tryz.t179, by kernel_rfl, by kernel_rfl, by kernel_rfl, by kernel_rfl⟩
instance : Ty Tryz.prog 180 (Go.TypeDesc.struct #[]) (Go.Value.agg ⟨[]⟩) 0 0 := ⟨by kernel_rfl, Tryz.t180, by kernel_rfl, by kernel_rfl, by kernel_rfl, by kernel_rfl⟩
instance : Ty Tryz.prog 181 (Go.TypeDesc.struct #[{ name := "_", type := 180, offset := 0, embedded := false, tag := "", pkgPath := "sync/atomic", byteOffset := 0 }, { name := "v", type := 173, offset := 0, embedded := false, tag := "", pkgPath := "sync/atomic", byteOffset := 0 }]) (Go.Value.agg ⟨[(Go.Value.int Go.IntKind.u32 0)]⟩) 1 4 := ⟨by kernel_rfl, Tryz.t181, by kernel_rfl, by kernel_rfl, by kernel_rfl, by kernel_rfl⟩
instance : Ty Tryz.prog 182 (Go.TypeDesc.struct #[{ name := "_", type := 180, offset := 0, embedded := false, tag := "", pkgPath := "sync/atomic", byteOffset := 0 }, { name := "v", type := 173, offset := 0, embedded := false, tag := "", pkgPath := "sync/atomic", byteOffset := 0 }]) (Go.Value.agg ⟨[(Go.Value.int Go.IntKind.u32 0)]⟩) 1 4 := ⟨by kernel_rfl, Tryz.t182, by kernel_rfl, by kernel_rfl, by kernel_rfl, by kernel_rfl⟩
instance : Ty Tryz.prog 183 (Go.TypeDesc.struct #[{ name := "state", type := 21, offset := 0, embedded := false, tag := "", pkgPath := "internal/sync", byteOffset := 0 }, { name := "sema", type := 173, offset := 1, embedded := false, tag := "", pkgPath := "internal/sync", byteOffset := 4 }]) (Go.Value.agg ⟨[(Go.Value.int Go.IntKind.i32 0), (Go.Value.int Go.IntKind.u32 0)]⟩) 2 8 := ⟨by kernel_rfl, Tryz.t183, by kernel_rfl, by kernel_rfl, by kernel_rfl, by kernel_rfl⟩
instance : Ty Tryz.prog 184 (Go.TypeDesc.struct #[{ name := "state", type := 21, offset := 0, embedded := false, tag := "", pkgPath := "internal/sync", byteOffset := 0 }, { name := "sema", type := 173, offset := 1, embedded := false, tag := "", pkgPath := "internal/sync", byteOffset := 4 }]) (Go.Value.agg ⟨[(Go.Value.int Go.IntKind.i32 0), (Go.Value.int Go.IntKind.u32 0)]⟩) 2 8 := ⟨by kernel_rfl, Tryz.t184, by kernel_rfl, by kernel_rfl, by kernel_rfl, by kernel_rfl⟩
instance : Ty Tryz.prog 185 (Go.TypeDesc.struct #[{ name := "_", type := 179, offset := 0, embedded := false, tag := "", pkgPath := "sync", byteOffset := 0 }, { name := "mu", type := 184, offset := 0, embedded := false, tag := "", pkgPath := "sync", byteOffset := 0 }]) (Go.Value.agg ⟨[(Go.Value.int Go.IntKind.i32 0), (Go.Value.int Go.IntKind.u32 0)]⟩) 2 8 := ⟨by kernel_rfl, Tryz.t185, by kernel_rfl, by kernel_rfl, by kernel_rfl, by kernel_rfl⟩
instance : Ty Tryz.prog 186 (Go.TypeDesc.struct #[{ name := "_", type := 179, offset := 0, embedded := false, tag := "", pkgPath := "sync", byteOffset := 0 }, { name := "mu", type := 184, offset := 0, embedded := false, tag := "", pkgPath := "sync", byteOffset := 0 }]) (Go.Value.agg ⟨[(Go.Value.int Go.IntKind.i32 0), (Go.Value.int Go.IntKind.u32 0)]⟩) 2 8 := ⟨by kernel_rfl, Tryz.t186, by kernel_rfl, by kernel_rfl, by kernel_rfl, by kernel_rfl⟩
instance : Ty Tryz.prog 187 (Go.TypeDesc.struct #[{ name := "_", type := 179, offset := 0, embedded := false, tag := "", pkgPath := "sync", byteOffset := 0 }, { name := "done", type := 182, offset := 0, embedded := false, tag := "", pkgPath := "sync", byteOffset := 0 }, { name := "m", type := 186, offset := 1, embedded := false, tag := "", pkgPath := "sync", byteOffset := 4 }]) (Go.Value.agg ⟨[(Go.Value.int Go.IntKind.u32 0), (Go.Value.int Go.IntKind.i32 0), (Go.Value.int Go.IntKind.u32 0)]⟩) 3 12 := ⟨by kernel_rfl, Tryz.t187, by kernel_rfl, by kernel_rfl, by kernel_rfl, by kernel_rfl⟩
instance : Ty Tryz.prog 188 (Go.TypeDesc.struct #[{ name := "_", type := 179, offset := 0, embedded := false, tag := "", pkgPath := "sync", byteOffset := 0 }, { name := "done", type := 182, offset := 0, embedded := false, tag := "", pkgPath := "sync", byteOffset := 0 }, { name := "m", type := 186, offset := 1, embedded := false, tag := "", pkgPath := "sync", byteOffset := 4 }]) (Go.Value.agg ⟨[(Go.Value.int Go.IntKind.u32 0), (Go.Value.int Go.IntKind.i32 0), (Go.Value.int Go.IntKind.u32 0)]⟩) 3 12 := ⟨by kernel_rfl, Tryz.t188, by kernel_rfl, by kernel_rfl, by kernel_rfl, by kernel_rfl⟩
instance : Ty Tryz.prog 189 (Go.TypeDesc.array 256 173) (Go.Value.agg ⟨List.replicate 256 (Go.Value.int Go.IntKind.u32 0)⟩) 256 1024 := ⟨by kernel_rfl, Tryz.t189, by kernel_rfl, by kernel_rfl, by kernel_rfl, by kernel_rfl⟩
instance : Ty Tryz.prog 190 (Go.TypeDesc.struct #[]) (Go.Value.agg ⟨[]⟩) 0 0 := ⟨by kernel_rfl, Tryz.t190, by kernel_rfl, by kernel_rfl, by kernel_rfl, by kernel_rfl⟩
instance : Ty Tryz.prog 191 (Go.TypeDesc.struct #[{ name := "_", type := 180, offset := 0, embedded := false, tag := "", pkgPath := "sync/atomic", byteOffset := 0 }, { name := "_", type := 190, offset := 0, embedded := false, tag := "", pkgPath := "sync/atomic", byteOffset := 0 }, { name := "v", type := 2, offset := 0, embedded := false, tag := "", pkgPath := "sync/atomic", byteOffset := 0 }]) (Go.Value.agg ⟨[(Go.Value.int Go.IntKind.i64 0)]⟩) 1 8 := ⟨by kernel_rfl, Tryz.t191, by kernel_rfl, by kernel_rfl, by kernel_rfl, by kernel_rfl⟩
instance : Ty Tryz.prog 192 (Go.TypeDesc.struct #[{ name := "_", type := 180, offset := 0, embedded := false, tag := "", pkgPath := "sync/atomic", byteOffset := 0 }, { name := "_", type := 190, offset := 0, embedded := false, tag := "", pkgPath := "sync/atomic", byteOffset := 0 }, { name := "v", type := 2, offset := 0, embedded := false, tag := "", pkgPath := "sync/atomic", byteOffset := 0 }]) (Go.Value.agg ⟨[(Go.Value.int Go.IntKind.i64 0)]⟩) 1 8 := ⟨by kernel_rfl, Tryz.t192, by kernel_rfl, by kernel_rfl, by kernel_rfl, by kernel_rfl⟩
instance : Ty Tryz.prog 193 (Go.TypeDesc.struct #[{ name := "once", type := 188, offset := 0, embedded := false, tag := "", pkgPath := "lunette/sum", byteOffset := 0 }, { name := "table", type := 189, offset := 3, embedded := false, tag := "", pkgPath := "lunette/sum", byteOffset := 12 }, { name := "count", type := 192, offset := 259, embedded := false, tag := "", pkgPath := "lunette/sum", byteOffset := 1040 }]) (Go.Value.agg ⟨[(Go.Value.int Go.IntKind.u32 0)] ++ [(Go.Value.int Go.IntKind.i32 0)] ++ List.replicate 257 (Go.Value.int Go.IntKind.u32 0) ++ [(Go.Value.int Go.IntKind.i64 0)]⟩) 260 1048 := ⟨by kernel_rfl, Tryz.t193, by kernel_rfl, by kernel_rfl, by kernel_rfl, by kernel_rfl⟩
instance : Ty Tryz.prog 194 (Go.TypeDesc.struct #[{ name := "once", type := 188, offset := 0, embedded := false, tag := "", pkgPath := "lunette/sum", byteOffset := 0 }, { name := "table", type := 189, offset := 3, embedded := false, tag := "", pkgPath := "lunette/sum", byteOffset := 12 }, { name := "count", type := 192, offset := 259, embedded := false, tag := "", pkgPath := "lunette/sum", byteOffset := 1040 }]) (Go.Value.agg ⟨[(Go.Value.int Go.IntKind.u32 0)] ++ [(Go.Value.int Go.IntKind.i32 0)] ++ List.replicate 257 (Go.Value.int Go.IntKind.u32 0) ++ [(Go.Value.int Go.IntKind.i64 0)]⟩) 260 1048 := ⟨by kernel_rfl, Tryz.t194, by kernel_rfl, by kernel_rfl, by kernel_rfl, by kernel_rfl⟩
instance : Ty Tryz.prog 196 (Go.TypeDesc.func #[126] #[126] false) Go.Value.nilFunc 1 8 := ⟨by kernel_rfl, Tryz.t196, by kernel_rfl, by kernel_rfl, by kernel_rfl, by kernel_rfl⟩
instance : Ty Tryz.prog 197 (Go.TypeDesc.func #[122, 3, 126] #[29, 40] false) Go.Value.nilFunc 1 8 := ⟨by kernel_rfl, Tryz.t197, by kernel_rfl, by kernel_rfl, by kernel_rfl, by kernel_rfl⟩
instance : Ty Tryz.prog 199 (Go.TypeDesc.func #[122, 29] #[126, 3, 40] false) Go.Value.nilFunc 1 8 := ⟨by kernel_rfl, Tryz.t199, by kernel_rfl, by kernel_rfl, by kernel_rfl, by kernel_rfl⟩
instance : Ty Tryz.prog 200 (Go.TypeDesc.func #[3, 126] #[40] false) Go.Value.nilFunc 1 8 := ⟨by kernel_rfl, Tryz.t200, by kernel_rfl, by kernel_rfl, by kernel_rfl, by kernel_rfl⟩
instance : Ty Tryz.prog 202 (Go.TypeDesc.func #[176] #[31, 40] false) Go.Value.nilFunc 1 8 := ⟨by kernel_rfl, Tryz.t202, by kernel_rfl, by kernel_rfl, by kernel_rfl, by kernel_rfl⟩
instance : Ty Tryz.prog 203 (Go.TypeDesc.func #[205] #[176] false) Go.Value.nilFunc 1 8 := ⟨by kernel_rfl, Tryz.t203, by kernel_rfl, by kernel_rfl, by kernel_rfl, by kernel_rfl⟩
instance : Ty Tryz.prog 204 (Go.TypeDesc.func #[171] #[] false) Go.Value.nilFunc 1 8 := ⟨by kernel_rfl, Tryz.t204, by kernel_rfl, by kernel_rfl, by kernel_rfl, by kernel_rfl⟩
instance : Ty Tryz.prog 205 (Go.TypeDesc.func #[171] #[] false) Go.Value.nilFunc 1 8 := ⟨by kernel_rfl, Tryz.t205, by kernel_rfl, by kernel_rfl, by kernel_rfl, by kernel_rfl⟩
instance : Ty Tryz.prog 206 (Go.TypeDesc.func #[37, 3] #[205] false) Go.Value.nilFunc 1 8 := ⟨by kernel_rfl, Tryz.t206, by kernel_rfl, by kernel_rfl, by kernel_rfl, by kernel_rfl⟩
instance : Ty Tryz.prog 207 (Go.TypeDesc.func #[126, 173] #[4] false) Go.Value.nilFunc 1 8 := ⟨by kernel_rfl, Tryz.t207, by kernel_rfl, by kernel_rfl, by kernel_rfl, by kernel_rfl⟩
instance : Ty Tryz.prog 208 (Go.TypeDesc.func #[126] #[3] false) Go.Value.nilFunc 1 8 := ⟨by kernel_rfl, Tryz.t208, by kernel_rfl, by kernel_rfl, by kernel_rfl, by kernel_rfl⟩
instance : Ty Tryz.prog 209 (Go.TypeDesc.func #[126, 126] #[4] false) Go.Value.nilFunc 1 8 := ⟨by kernel_rfl, Tryz.t209, by kernel_rfl, by kernel_rfl, by kernel_rfl, by kernel_rfl⟩
instance : Ty Tryz.prog 210 (Go.TypeDesc.array 3 3) (Go.Value.agg ⟨[(Go.Value.int Go.IntKind.i64 0), (Go.Value.int Go.IntKind.i64 0), (Go.Value.int Go.IntKind.i64 0)]⟩) 3 24 := ⟨by kernel_rfl, Tryz.t210, by kernel_rfl, by kernel_rfl, by kernel_rfl, by kernel_rfl⟩
instance : Ty Tryz.prog 211 (Go.TypeDesc.func #[32] #[3] false) Go.Value.nilFunc 1 8 := ⟨by kernel_rfl, Tryz.t211, by kernel_rfl, by kernel_rfl, by kernel_rfl, by kernel_rfl⟩
instance : Ty Tryz.prog 212 (Go.TypeDesc.func #[126, 3] #[] false) Go.Value.nilFunc 1 8 := ⟨by kernel_rfl, Tryz.t212, by kernel_rfl, by kernel_rfl, by kernel_rfl, by kernel_rfl⟩
instance : Ty Tryz.prog 213 (Go.TypeDesc.func #[126] #[173] false) Go.Value.nilFunc 1 8 := ⟨by kernel_rfl, Tryz.t213, by kernel_rfl, by kernel_rfl, by kernel_rfl, by kernel_rfl⟩
instance : Ty Tryz.prog 215 (Go.TypeDesc.func #[31, 3] #[3, 31, 4] false) Go.Value.nilFunc 1 8 := ⟨by kernel_rfl, Tryz.t215, by kernel_rfl, by kernel_rfl, by kernel_rfl, by kernel_rfl⟩
instance : Ty Tryz.prog 216 (Go.TypeDesc.func #[4, 37] #[142, 40] false) Go.Value.nilFunc 1 8 := ⟨by kernel_rfl, Tryz.t216, by kernel_rfl, by kernel_rfl, by kernel_rfl, by kernel_rfl⟩
instance : Ty Tryz.prog 217 (Go.TypeDesc.func #[142, 9] #[3, 4] false) Go.Value.nilFunc 1 8 := ⟨by kernel_rfl, Tryz.t217, by kernel_rfl, by kernel_rfl, by kernel_rfl, by kernel_rfl⟩
instance : Ty Tryz.prog 219 (Go.TypeDesc.slice 142) (Go.Value.slice none 0 0) 1 24 := ⟨by kernel_rfl, Tryz.t219, by kernel_rfl, by kernel_rfl, by kernel_rfl, by kernel_rfl⟩
instance : Ty Tryz.prog 221 (Go.TypeDesc.func #[142] #[219, 37] false) Go.Value.nilFunc 1 8 := ⟨by kernel_rfl, Tryz.t221, by kernel_rfl, by kernel_rfl, by kernel_rfl, by kernel_rfl⟩
instance : Ty Tryz.prog 223 (Go.TypeDesc.func #[142] #[37, 40] false) Go.Value.nilFunc 1 8 := ⟨by kernel_rfl, Tryz.t223, by kernel_rfl, by kernel_rfl, by kernel_rfl, by kernel_rfl⟩
instance : Ty Tryz.prog 224 (Go.TypeDesc.func #[142] #[3] false) Go.Value.nilFunc 1 8 := ⟨by kernel_rfl, Tryz.t224, by kernel_rfl, by kernel_rfl, by kernel_rfl, by kernel_rfl⟩
instance : Ty Tryz.prog 225 (Go.TypeDesc.func #[142] #[142] false) Go.Value.nilFunc 1 8 := ⟨by kernel_rfl, Tryz.t225, by kernel_rfl, by kernel_rfl, by kernel_rfl, by kernel_rfl⟩
instance : Ty Tryz.prog 226 (Go.TypeDesc.func #[37, 3, 3, 37] #[37] true) Go.Value.nilFunc 1 8 := ⟨by kernel_rfl, Tryz.t226, by kernel_rfl, by kernel_rfl, by kernel_rfl, by kernel_rfl⟩
instance : Ty Tryz.prog 227 (Go.TypeDesc.func #[255] #[32] true) Go.Value.nilFunc 1 8 := ⟨by kernel_rfl, Tryz.t227, by kernel_rfl, by kernel_rfl, by kernel_rfl, by kernel_rfl⟩
instance : Ty Tryz.prog 228 (Go.TypeDesc.func #[176] #[37] true) Go.Value.nilFunc 1 8 := ⟨by kernel_rfl, Tryz.t228, by kernel_rfl, by kernel_rfl, by kernel_rfl, by kernel_rfl⟩
instance : Ty Tryz.prog 229 (Go.TypeDesc.array 2 3) (Go.Value.agg ⟨[(Go.Value.int Go.IntKind.i64 0), (Go.Value.int Go.IntKind.i64 0)]⟩) 2 16 := ⟨by kernel_rfl, Tryz.t229, by kernel_rfl, by kernel_rfl, by kernel_rfl, by kernel_rfl⟩
instance : Ty Tryz.prog 230 (Go.TypeDesc.func #[142, 9, 142] #[142] false) Go.Value.nilFunc 1 8 := ⟨by kernel_rfl, Tryz.t230, by kernel_rfl, by kernel_rfl, by kernel_rfl, by kernel_rfl⟩
instance : Ty Tryz.prog 231 (Go.TypeDesc.func #[31, 232] #[4] false) Go.Value.nilFunc 1 8 := ⟨by kernel_rfl, Tryz.t231, by kernel_rfl, by kernel_rfl, by kernel_rfl, by kernel_rfl⟩
instance : Ty Tryz.prog 232 (Go.TypeDesc.func #[62] #[4] false) Go.Value.nilFunc 1 8 := ⟨by kernel_rfl, Tryz.t232, by kernel_rfl, by kernel_rfl, by kernel_rfl, by kernel_rfl⟩
instance : Ty Tryz.prog 233 (Go.TypeDesc.func #[29, 3, 3, 3] #[29] false) Go.Value.nilFunc 1 8 := ⟨by kernel_rfl, Tryz.t233, by kernel_rfl, by kernel_rfl, by kernel_rfl, by kernel_rfl⟩
instance : Ty Tryz.prog 234 (Go.TypeDesc.func #[37] #[3] false) Go.Value.nilFunc 1 8 := ⟨by kernel_rfl, Tryz.t234, by kernel_rfl, by kernel_rfl, by kernel_rfl, by kernel_rfl⟩
instance : Ty Tryz.prog 235 (Go.TypeDesc.int Go.IntKind.u64) (Go.Value.int Go.IntKind.u64 0) 1 8 := ⟨by kernel_rfl, Tryz.t235, by kernel_rfl, by kernel_rfl, by kernel_rfl, by kernel_rfl⟩
instance : Ty Tryz.prog 236 (Go.TypeDesc.func #[31, 232] #[3] false) Go.Value.nilFunc 1 8 := ⟨by kernel_rfl, Tryz.t236, by kernel_rfl, by kernel_rfl, by kernel_rfl, by kernel_rfl⟩
instance : Ty Tryz.prog 237 (Go.TypeDesc.func #[259] #[31] true) Go.Value.nilFunc 1 8 := ⟨by kernel_rfl, Tryz.t237, by kernel_rfl, by kernel_rfl, by kernel_rfl, by kernel_rfl⟩
instance : Ty Tryz.prog 238 (Go.TypeDesc.func #[3] #[3] false) Go.Value.nilFunc 1 8 := ⟨by kernel_rfl, Tryz.t238, by kernel_rfl, by kernel_rfl, by kernel_rfl, by kernel_rfl⟩
instance : Ty Tryz.prog 239 (Go.TypeDesc.func #[29] #[4] false) Go.Value.nilFunc 1 8 := ⟨by kernel_rfl, Tryz.t239, by kernel_rfl, by kernel_rfl, by kernel_rfl, by kernel_rfl⟩
instance : Ty Tryz.prog 240 (Go.TypeDesc.func #[29] #[9] false) Go.Value.nilFunc 1 8 := ⟨by kernel_rfl, Tryz.t240, by kernel_rfl, by kernel_rfl, by kernel_rfl, by kernel_rfl⟩
instance : Ty Tryz.prog 241 (Go.TypeDesc.struct #[{ name := "page", type := 3, offset := 0, embedded := false, tag := "", pkgPath := "lunette/disk", byteOffset := 0 }, { name := "b", type := 126, offset := 1, embedded := false, tag := "", pkgPath := "lunette/disk", byteOffset := 8 }]) (Go.Value.agg ⟨[(Go.Value.int Go.IntKind.i64 0), (Go.Value.slice none 0 0)]⟩) 2 32 := ⟨by kernel_rfl, Tryz.t241, by kernel_rfl, by kernel_rfl, by kernel_rfl, by kernel_rfl⟩
instance : Ty Tryz.prog 242 (Go.TypeDesc.struct #[{ name := "page", type := 3, offset := 0, embedded := false, tag := "", pkgPath := "lunette/disk", byteOffset := 0 }, { name := "b", type := 126, offset := 1, embedded := false, tag := "", pkgPath := "lunette/disk", byteOffset := 8 }]) (Go.Value.agg ⟨[(Go.Value.int Go.IntKind.i64 0), (Go.Value.slice none 0 0)]⟩) 2 32 := ⟨by kernel_rfl, Tryz.t242, by kernel_rfl, by kernel_rfl, by kernel_rfl, by kernel_rfl⟩
instance : Ty Tryz.prog 243 (Go.TypeDesc.func #[32, 3] #[3] false) Go.Value.nilFunc 1 8 := ⟨by kernel_rfl, Tryz.t243, by kernel_rfl, by kernel_rfl, by kernel_rfl, by kernel_rfl⟩
instance : Ty Tryz.prog 244 (Go.TypeDesc.func #[31] #[4] false) Go.Value.nilFunc 1 8 := ⟨by kernel_rfl, Tryz.t244, by kernel_rfl, by kernel_rfl, by kernel_rfl, by kernel_rfl⟩
instance : Ty Tryz.prog 245 (Go.TypeDesc.func #[176, 205] #[176] false) Go.Value.nilFunc 1 8 := ⟨by kernel_rfl, Tryz.t245, by kernel_rfl, by kernel_rfl, by kernel_rfl, by kernel_rfl⟩
instance : Ty Tryz.prog 246 (Go.TypeDesc.func #[9] #[4] false) Go.Value.nilFunc 1 8 := ⟨by kernel_rfl, Tryz.t246, by kernel_rfl, by kernel_rfl, by kernel_rfl, by kernel_rfl⟩
instance : Ty Tryz.prog 247 (Go.TypeDesc.func #[37, 246] #[4] false) Go.Value.nilFunc 1 8 := ⟨by kernel_rfl, Tryz.t247, by kernel_rfl, by kernel_rfl, by kernel_rfl, by kernel_rfl⟩
instance : Ty Tryz.prog 248 (Go.TypeDesc.func #[262] #[173] true) Go.Value.nilFunc 1 8 := ⟨by kernel_rfl, Tryz.t248, by kernel_rfl, by kernel_rfl, by kernel_rfl, by kernel_rfl⟩
instance : Ty Tryz.prog 249 (Go.TypeDesc.func #[9] #[3] false) Go.Value.nilFunc 1 8 := ⟨by kernel_rfl, Tryz.t249, by kernel_rfl, by kernel_rfl, by kernel_rfl, by kernel_rfl⟩
instance : Ty Tryz.prog 250 (Go.TypeDesc.func #[142] #[40] false) Go.Value.nilFunc 1 8 := ⟨by kernel_rfl, Tryz.t250, by kernel_rfl, by kernel_rfl, by kernel_rfl, by kernel_rfl⟩
instance : Ty Tryz.prog 251 (Go.TypeDesc.func #[3, 163] #[3] false) Go.Value.nilFunc 1 8 := ⟨by kernel_rfl, Tryz.t251, by kernel_rfl, by kernel_rfl, by kernel_rfl, by kernel_rfl⟩
instance : Ty Tryz.prog 253 (Go.TypeDesc.func #[142] #[142, 9, 142] false) Go.Value.nilFunc 1 8 := ⟨by kernel_rfl, Tryz.t253, by kernel_rfl, by kernel_rfl, by kernel_rfl, by kernel_rfl⟩
instance : Ty Tryz.prog 254 (Go.TypeDesc.func #[37] #[37] false) Go.Value.nilFunc 1 8 := ⟨by kernel_rfl, Tryz.t254, by kernel_rfl, by kernel_rfl, by kernel_rfl, by kernel_rfl⟩
instance : Ty Tryz.prog 255 (Go.TypeDesc.slice 32) (Go.Value.slice none 0 0) 1 24 := ⟨by kernel_rfl, Tryz.t255, by kernel_rfl, by kernel_rfl, by kernel_rfl, by kernel_rfl⟩
instance : Ty Tryz.prog 256 (Go.TypeDesc.func #[37, 3] #[37] false) Go.Value.nilFunc 1 8 := ⟨by kernel_rfl, Tryz.t256, by kernel_rfl, by kernel_rfl, by kernel_rfl, by kernel_rfl⟩
instance : Ty Tryz.prog 258 (Go.TypeDesc.func #[31] #[176, 40] false) Go.Value.nilFunc 1 8 := ⟨by kernel_rfl, Tryz.t258, by kernel_rfl, by kernel_rfl, by kernel_rfl, by kernel_rfl⟩
instance : Ty Tryz.prog 259 (Go.TypeDesc.slice 31) (Go.Value.slice none 0 0) 1 24 := ⟨by kernel_rfl, Tryz.t259, by kernel_rfl, by kernel_rfl, by kernel_rfl, by kernel_rfl⟩
instance : Ty Tryz.prog 260 (Go.TypeDesc.func #[31, 3] #[31] false) Go.Value.nilFunc 1 8 := ⟨by kernel_rfl, Tryz.t260, by kernel_rfl, by kernel_rfl, by kernel_rfl, by kernel_rfl⟩
instance : Ty Tryz.prog 261 (Go.TypeDesc.func #[37, 246] #[3] false) Go.Value.nilFunc 1 8 := ⟨by kernel_rfl, Tryz.t261, by kernel_rfl, by kernel_rfl, by kernel_rfl, by kernel_rfl⟩
instance : Ty Tryz.prog 262 (Go.TypeDesc.slice 126) (Go.Value.slice none 0 0) 1 24 := ⟨by kernel_rfl, Tryz.t262, by kernel_rfl, by kernel_rfl, by kernel_rfl, by kernel_rfl⟩
instance : Ty Tryz.prog 263 (Go.TypeDesc.func #[1] #[] false) Go.Value.nilFunc 1 8 := ⟨by kernel_rfl, Tryz.t263, by kernel_rfl, by kernel_rfl, by kernel_rfl, by kernel_rfl⟩
instance : Ty Tryz.prog 264 (Go.TypeDesc.func #[2] #[2] false) Go.Value.nilFunc 1 8 := ⟨by kernel_rfl, Tryz.t264, by kernel_rfl, by kernel_rfl, by kernel_rfl, by kernel_rfl⟩
instance : Ty Tryz.prog 265 (Go.TypeDesc.func #[37, 3] #[4] false) Go.Value.nilFunc 1 8 := ⟨by kernel_rfl, Tryz.t265, by kernel_rfl, by kernel_rfl, by kernel_rfl, by kernel_rfl⟩
instance : Ty Tryz.prog 266 (Go.TypeDesc.func #[32, 163] #[4] false) Go.Value.nilFunc 1 8 := ⟨by kernel_rfl, Tryz.t266, by kernel_rfl, by kernel_rfl, by kernel_rfl, by kernel_rfl⟩
instance : Ty Tryz.prog 267 (Go.TypeDesc.func #[244] #[] false) Go.Value.nilFunc 1 8 := ⟨by kernel_rfl, Tryz.t267, by kernel_rfl, by kernel_rfl, by kernel_rfl, by kernel_rfl⟩
instance : Ty Tryz.prog 268 (Go.TypeDesc.func #[244] #[] false) Go.Value.nilFunc 1 8 := ⟨by kernel_rfl, Tryz.t268, by kernel_rfl, by kernel_rfl, by kernel_rfl, by kernel_rfl⟩
instance : Ty Tryz.prog 269 (Go.TypeDesc.func #[31, 3] #[268] false) Go.Value.nilFunc 1 8 := ⟨by kernel_rfl, Tryz.t269, by kernel_rfl, by kernel_rfl, by kernel_rfl, by kernel_rfl⟩
instance : Ty Tryz.prog 270 (Go.TypeDesc.pointer 188) (Go.Value.pointer none) 1 8 := ⟨by kernel_rfl, Tryz.t270, by kernel_rfl, by kernel_rfl, by kernel_rfl, by kernel_rfl⟩
instance : Ty Tryz.prog 271 (Go.TypeDesc.pointer 192) (Go.Value.pointer none) 1 8 := ⟨by kernel_rfl, Tryz.t271, by kernel_rfl, by kernel_rfl, by kernel_rfl, by kernel_rfl⟩
instance : Ty Tryz.prog 272 (Go.TypeDesc.func #[273, 2] #[2] false) Go.Value.nilFunc 1 8 := ⟨by kernel_rfl, Tryz.t272, by kernel_rfl, by kernel_rfl, by kernel_rfl, by kernel_rfl⟩
instance : Ty Tryz.prog 273 (Go.TypeDesc.pointer 2) (Go.Value.pointer none) 1 8 := ⟨by kernel_rfl, Tryz.t273, by kernel_rfl, by kernel_rfl, by kernel_rfl, by kernel_rfl⟩
instance : Ty Tryz.prog 274 (Go.TypeDesc.func #[32, 163] #[3] false) Go.Value.nilFunc 1 8 := ⟨by kernel_rfl, Tryz.t274, by kernel_rfl, by kernel_rfl, by kernel_rfl, by kernel_rfl⟩
instance : Ty Tryz.prog 275 (Go.TypeDesc.pointer 182) (Go.Value.pointer none) 1 8 := ⟨by kernel_rfl, Tryz.t275, by kernel_rfl, by kernel_rfl, by kernel_rfl, by kernel_rfl⟩
instance : Ty Tryz.prog 276 (Go.TypeDesc.func #[277] #[173] false) Go.Value.nilFunc 1 8 := ⟨by kernel_rfl, Tryz.t276, by kernel_rfl, by kernel_rfl, by kernel_rfl, by kernel_rfl⟩
instance : Ty Tryz.prog 277 (Go.TypeDesc.pointer 173) (Go.Value.pointer none) 1 8 := ⟨by kernel_rfl, Tryz.t277, by kernel_rfl, by kernel_rfl, by kernel_rfl, by kernel_rfl⟩
instance : Ty Tryz.prog 278 (Go.TypeDesc.func #[4] #[] false) Go.Value.nilFunc 1 8 := ⟨by kernel_rfl, Tryz.t278, by kernel_rfl, by kernel_rfl, by kernel_rfl, by kernel_rfl⟩
instance : Ty Tryz.prog 280 (Go.TypeDesc.func #[277, 173] #[] false) Go.Value.nilFunc 1 8 := ⟨by kernel_rfl, Tryz.t280, by kernel_rfl, by kernel_rfl, by kernel_rfl, by kernel_rfl⟩
instance : Ty Tryz.prog 281 (Go.TypeDesc.func #[4] #[173] false) Go.Value.nilFunc 1 8 := ⟨by kernel_rfl, Tryz.t281, by kernel_rfl, by kernel_rfl, by kernel_rfl, by kernel_rfl⟩
instance : Ty Tryz.prog 282 (Go.TypeDesc.pointer 184) (Go.Value.pointer none) 1 8 := ⟨by kernel_rfl, Tryz.t282, by kernel_rfl, by kernel_rfl, by kernel_rfl, by kernel_rfl⟩
instance : Ty Tryz.prog 283 (Go.TypeDesc.func #[284, 21, 21] #[4] false) Go.Value.nilFunc 1 8 := ⟨by kernel_rfl, Tryz.t283, by kernel_rfl, by kernel_rfl, by kernel_rfl, by kernel_rfl⟩
instance : Ty Tryz.prog 284 (Go.TypeDesc.pointer 21) (Go.Value.pointer none) 1 8 := ⟨by kernel_rfl, Tryz.t284, by kernel_rfl, by kernel_rfl, by kernel_rfl, by kernel_rfl⟩
instance : Ty Tryz.prog 285 (Go.TypeDesc.func #[286] #[] false) Go.Value.nilFunc 1 8 := ⟨by kernel_rfl, Tryz.t285, by kernel_rfl, by kernel_rfl, by kernel_rfl, by kernel_rfl⟩
instance : Ty Tryz.prog 286 Go.TypeDesc.unsafePointer (Go.Value.pointer none) 1 8 := ⟨by kernel_rfl, Tryz.t286, by kernel_rfl, by kernel_rfl, by kernel_rfl, by kernel_rfl⟩
instance : Ty Tryz.prog 287 (Go.TypeDesc.func #[284, 21] #[21] false) Go.Value.nilFunc 1 8 := ⟨by kernel_rfl, Tryz.t287, by kernel_rfl, by kernel_rfl, by kernel_rfl, by kernel_rfl⟩
instance : Ty Tryz.prog 288 (Go.TypeDesc.func #[21] #[] false) Go.Value.nilFunc 1 8 := ⟨by kernel_rfl, Tryz.t288, by kernel_rfl, by kernel_rfl, by kernel_rfl, by kernel_rfl⟩
instance : Ty Tryz.prog 289 (Go.TypeDesc.func #[9] #[] false) Go.Value.nilFunc 1 8 := ⟨by kernel_rfl, Tryz.t289, by kernel_rfl, by kernel_rfl, by kernel_rfl, by kernel_rfl⟩
instance : Ty Tryz.prog 290 (Go.TypeDesc.func #[] #[2] false) Go.Value.nilFunc 1 8 := ⟨by kernel_rfl, Tryz.t290, by kernel_rfl, by kernel_rfl, by kernel_rfl, by kernel_rfl⟩
instance : Ty Tryz.prog 291 (Go.TypeDesc.func #[277, 4, 3] #[] false) Go.Value.nilFunc 1 8 := ⟨by kernel_rfl, Tryz.t291, by kernel_rfl, by kernel_rfl, by kernel_rfl, by kernel_rfl⟩
instance : Ty Tryz.prog 292 (Go.TypeDesc.func #[] #[9] false) Go.Value.nilFunc 1 8 := ⟨by kernel_rfl, Tryz.t292, by kernel_rfl, by kernel_rfl, by kernel_rfl, by kernel_rfl⟩
instance : Ty Tryz.prog 293 (Go.TypeDesc.struct #[{ name := "_interface", type := 17, offset := 0, embedded := false, tag := "", pkgPath := "runtime", byteOffset := 0 }, { name := "concrete", type := 17, offset := 1, embedded := false, tag := "", pkgPath := "runtime", byteOffset := 8 }, { name := "asserted", type := 17, offset := 2, embedded := false, tag := "", pkgPath := "runtime", byteOffset := 16 }, { name := "missingMethod", type := 9, offset := 3, embedded := false, tag := "", pkgPath := "runtime", byteOffset := 24 }]) (Go.Value.agg ⟨[(Go.Value.pointer none), (Go.Value.pointer none), (Go.Value.pointer none), (Go.Value.string { data := #[] })]⟩) 4 40 := ⟨by kernel_rfl, Tryz.t293, by kernel_rfl, by kernel_rfl, by kernel_rfl, by kernel_rfl⟩
instance : Ty Tryz.prog 294 (Go.TypeDesc.struct #[{ name := "_interface", type := 17, offset := 0, embedded := false, tag := "", pkgPath := "runtime", byteOffset := 0 }, { name := "concrete", type := 17, offset := 1, embedded := false, tag := "", pkgPath := "runtime", byteOffset := 8 }, { name := "asserted", type := 17, offset := 2, embedded := false, tag := "", pkgPath := "runtime", byteOffset := 16 }, { name := "missingMethod", type := 9, offset := 3, embedded := false, tag := "", pkgPath := "runtime", byteOffset := 24 }]) (Go.Value.agg ⟨[(Go.Value.pointer none), (Go.Value.pointer none), (Go.Value.pointer none), (Go.Value.string { data := #[] })]⟩) 4 40 := ⟨by kernel_rfl, Tryz.t294, by kernel_rfl, by kernel_rfl, by kernel_rfl, by kernel_rfl⟩
instance : Ty Tryz.prog 295 (Go.TypeDesc.array 0 16) (Go.Value.agg ⟨[]⟩) 0 0 := ⟨by kernel_rfl, Tryz.t295, by kernel_rfl, by kernel_rfl, by kernel_rfl, by kernel_rfl⟩
instance : Ty Tryz.prog 296 (Go.TypeDesc.struct #[{ name := "_", type := 295, offset := 0, embedded := false, tag := "", pkgPath := "runtime", byteOffset := 0 }]) (Go.Value.agg ⟨[]⟩) 0 0 := ⟨by kernel_rfl, Tryz.t296, by kernel_rfl, by kernel_rfl, by kernel_rfl, by kernel_rfl⟩
instance : Ty Tryz.prog 297 (Go.TypeDesc.struct #[{ name := "_", type := 295, offset := 0, embedded := false, tag := "", pkgPath := "runtime", byteOffset := 0 }]) (Go.Value.agg ⟨[]⟩) 0 0 := ⟨by kernel_rfl, Tryz.t297, by kernel_rfl, by kernel_rfl, by kernel_rfl, by kernel_rfl⟩
instance : Ty Tryz.prog 298 (Go.TypeDesc.int Go.IntKind.u8) (Go.Value.int Go.IntKind.u8 0) 1 1 := ⟨by kernel_rfl, Tryz.t298, by kernel_rfl, by kernel_rfl, by kernel_rfl, by kernel_rfl⟩
instance : Ty Tryz.prog 299 (Go.TypeDesc.int Go.IntKind.u8) (Go.Value.int Go.IntKind.u8 0) 1 1 := ⟨by kernel_rfl, Tryz.t299, by kernel_rfl, by kernel_rfl, by kernel_rfl, by kernel_rfl⟩
instance : Ty Tryz.prog 300 (Go.TypeDesc.func #[286, 286] #[4] false) Go.Value.nilFunc 1 8 := ⟨by kernel_rfl, Tryz.t300, by kernel_rfl, by kernel_rfl, by kernel_rfl, by kernel_rfl⟩
instance : Ty Tryz.prog 301 (Go.TypeDesc.pointer 5) (Go.Value.pointer none) 1 8 := ⟨by kernel_rfl, Tryz.t301, by kernel_rfl, by kernel_rfl, by kernel_rfl, by kernel_rfl⟩
instance : Ty Tryz.prog 302 (Go.TypeDesc.int Go.IntKind.i32) (Go.Value.int Go.IntKind.i32 0) 1 4 := ⟨by kernel_rfl, Tryz.t302, by kernel_rfl, by kernel_rfl, by kernel_rfl, by kernel_rfl⟩
instance : Ty Tryz.prog 303 (Go.TypeDesc.int Go.IntKind.i32) (Go.Value.int Go.IntKind.i32 0) 1 4 := ⟨by kernel_rfl, Tryz.t303, by kernel_rfl, by kernel_rfl, by kernel_rfl, by kernel_rfl⟩
instance : Ty Tryz.prog 304 (Go.TypeDesc.struct #[{ name := "Size_", type := 12, offset := 0, embedded := false, tag := "", pkgPath := "", byteOffset := 0 }, { name := "PtrBytes", type := 12, offset := 1, embedded := false, tag := "", pkgPath := "", byteOffset := 8 }, { name := "Hash", type := 173, offset := 2, embedded := false, tag := "", pkgPath := "", byteOffset := 16 }, { name := "TFlag", type := 298, offset := 3, embedded := false, tag := "", pkgPath := "", byteOffset := 20 }, { name := "Align_", type := 5, offset := 4, embedded := false, tag := "", pkgPath := "", byteOffset := 21 }, { name := "FieldAlign_", type := 5, offset := 5, embedded := false, tag := "", pkgPath := "", byteOffset := 22 }, { name := "Kind_", type := 299, offset := 6, embedded := false, tag := "", pkgPath := "", byteOffset := 23 }, { name := "Equal", type := 300, offset := 7, embedded := false, tag := "", pkgPath := "", byteOffset := 24 }, { name := "GCData", type := 301, offset := 8, embedded := false, tag := "", pkgPath := "", byteOffset := 32 }, { name := "Str", type := 302, offset := 9, embedded := false, tag := "", pkgPath := "", byteOffset := 40 }, { name := "PtrToThis", type := 303, offset := 10, embedded := false, tag := "", pkgPath := "", byteOffset := 44 }]) (Go.Value.agg ⟨[(Go.Value.int Go.IntKind.u64 0), (Go.Value.int Go.IntKind.u64 0), (Go.Value.int Go.IntKind.u32 0), (Go.Value.int Go.IntKind.u8 0), (Go.Value.int Go.IntKind.u8 0), (Go.Value.int Go.IntKind.u8 0), (Go.Value.int Go.IntKind.u8 0), Go.Value.nilFunc, (Go.Value.pointer none), (Go.Value.int Go.IntKind.i32 0), (Go.Value.int Go.IntKind.i32 0)]⟩) 11 48 := ⟨by kernel_rfl, Tryz.t304, by kernel_rfl, by kernel_rfl, by kernel_rfl, by kernel_rfl⟩
instance : Ty Tryz.prog 305 (Go.TypeDesc.struct #[{ name := "Size_", type := 12, offset := 0, embedded := false, tag := "", pkgPath := "", byteOffset := 0 }, { name := "PtrBytes", type := 12, offset := 1, embedded := false, tag := "", pkgPath := "", byteOffset := 8 }, { name := "Hash", type := 173, offset := 2, embedded := false, tag := "", pkgPath := "", byteOffset := 16 }, { name := "TFlag", type := 298, offset := 3, embedded := false, tag := "", pkgPath := "", byteOffset := 20 }, { name := "Align_", type := 5, offset := 4, embedded := false, tag := "", pkgPath := "", byteOffset := 21 }, { name := "FieldAlign_", type := 5, offset := 5, embedded := false, tag := "", pkgPath := "", byteOffset := 22 }, { name := "Kind_", type := 299, offset := 6, embedded := false, tag := "", pkgPath := "", byteOffset := 23 }, { name := "Equal", type := 300, offset := 7, embedded := false, tag := "", pkgPath := "", byteOffset := 24 }, { name := "GCData", type := 301, offset := 8, embedded := false, tag := "", pkgPath := "", byteOffset := 32 }, { name := "Str", type := 302, offset := 9, embedded := false, tag := "", pkgPath := "", byteOffset := 40 }, { name := "PtrToThis", type := 303, offset := 10, embedded := false, tag := "", pkgPath := "", byteOffset := 44 }]) (Go.Value.agg ⟨[(Go.Value.int Go.IntKind.u64 0), (Go.Value.int Go.IntKind.u64 0), (Go.Value.int Go.IntKind.u32 0), (Go.Value.int Go.IntKind.u8 0), (Go.Value.int Go.IntKind.u8 0), (Go.Value.int Go.IntKind.u8 0), (Go.Value.int Go.IntKind.u8 0), Go.Value.nilFunc, (Go.Value.pointer none), (Go.Value.int Go.IntKind.i32 0), (Go.Value.int Go.IntKind.i32 0)]⟩) 11 48 := ⟨by kernel_rfl, Tryz.t305, by kernel_rfl, by kernel_rfl, by kernel_rfl, by kernel_rfl⟩
instance : Fld Tryz.prog 7 0 0 := Fld.of (fl := { name := "x", type := 2, offset := 0, embedded := false, tag := "", pkgPath := "runtime", byteOffset := 0 }) rfl inferInstance rfl
instance : Fld Tryz.prog 7 1 1 := Fld.of (fl := { name := "y", type := 3, offset := 1, embedded := false, tag := "", pkgPath := "runtime", byteOffset := 8 }) rfl inferInstance rfl
instance : Fld Tryz.prog 7 2 2 := Fld.of (fl := { name := "signed", type := 4, offset := 2, embedded := false, tag := "", pkgPath := "runtime", byteOffset := 16 }) rfl inferInstance rfl
instance : Fld Tryz.prog 7 3 3 := Fld.of (fl := { name := "code", type := 6, offset := 3, embedded := false, tag := "", pkgPath := "runtime", byteOffset := 17 }) rfl inferInstance rfl
instance : Plcs Tryz.prog 7 [(0, 1), (1, 1), (2, 1), (3, 1)] := Plcs.of (fs := [{ name := "x", type := 2, offset := 0, embedded := false, tag := "", pkgPath := "runtime", byteOffset := 0 }, { name := "y", type := 3, offset := 1, embedded := false, tag := "", pkgPath := "runtime", byteOffset := 8 }, { name := "signed", type := 4, offset := 2, embedded := false, tag := "", pkgPath := "runtime", byteOffset := 16 }, { name := "code", type := 6, offset := 3, embedded := false, tag := "", pkgPath := "runtime", byteOffset := 17 }]) inferInstance ⟨rfl, fun w i f p hf hp => by
  match i, hf, hp with
  | 0, hf, hp => cases hf; cases hp; exact ⟨rfl, run_size⟩
  | 1, hf, hp => cases hf; cases hp; exact ⟨rfl, run_size⟩
  | 2, hf, hp => cases hf; cases hp; exact ⟨rfl, run_size⟩
  | 3, hf, hp => cases hf; cases hp; exact ⟨rfl, run_size⟩
  | i + 4, hf, hp => simp at hf⟩
instance : Fld Tryz.prog 8 0 0 := Fld.of (fl := { name := "x", type := 2, offset := 0, embedded := false, tag := "", pkgPath := "runtime", byteOffset := 0 }) rfl inferInstance rfl
instance : Fld Tryz.prog 8 1 1 := Fld.of (fl := { name := "y", type := 3, offset := 1, embedded := false, tag := "", pkgPath := "runtime", byteOffset := 8 }) rfl inferInstance rfl
instance : Fld Tryz.prog 8 2 2 := Fld.of (fl := { name := "signed", type := 4, offset := 2, embedded := false, tag := "", pkgPath := "runtime", byteOffset := 16 }) rfl inferInstance rfl
instance : Fld Tryz.prog 8 3 3 := Fld.of (fl := { name := "code", type := 6, offset := 3, embedded := false, tag := "", pkgPath := "runtime", byteOffset := 17 }) rfl inferInstance rfl
instance : Plcs Tryz.prog 8 [(0, 1), (1, 1), (2, 1), (3, 1)] := Plcs.of (fs := [{ name := "x", type := 2, offset := 0, embedded := false, tag := "", pkgPath := "runtime", byteOffset := 0 }, { name := "y", type := 3, offset := 1, embedded := false, tag := "", pkgPath := "runtime", byteOffset := 8 }, { name := "signed", type := 4, offset := 2, embedded := false, tag := "", pkgPath := "runtime", byteOffset := 16 }, { name := "code", type := 6, offset := 3, embedded := false, tag := "", pkgPath := "runtime", byteOffset := 17 }]) inferInstance ⟨rfl, fun w i f p hf hp => by
  match i, hf, hp with
  | 0, hf, hp => cases hf; cases hp; exact ⟨rfl, run_size⟩
  | 1, hf, hp => cases hf; cases hp; exact ⟨rfl, run_size⟩
  | 2, hf, hp => cases hf; cases hp; exact ⟨rfl, run_size⟩
  | 3, hf, hp => cases hf; cases hp; exact ⟨rfl, run_size⟩
  | i + 4, hf, hp => simp at hf⟩
instance : Fld Tryz.prog 13 0 0 := Fld.of (fl := { name := "msg", type := 9, offset := 0, embedded := false, tag := "", pkgPath := "runtime", byteOffset := 0 }) rfl inferInstance rfl
instance : Fld Tryz.prog 13 1 1 := Fld.of (fl := { name := "addr", type := 12, offset := 1, embedded := false, tag := "", pkgPath := "runtime", byteOffset := 16 }) rfl inferInstance rfl
instance : Plcs Tryz.prog 13 [(0, 1), (1, 1)] := Plcs.of (fs := [{ name := "msg", type := 9, offset := 0, embedded := false, tag := "", pkgPath := "runtime", byteOffset := 0 }, { name := "addr", type := 12, offset := 1, embedded := false, tag := "", pkgPath := "runtime", byteOffset := 16 }]) inferInstance ⟨rfl, fun w i f p hf hp => by
  match i, hf, hp with
  | 0, hf, hp => cases hf; cases hp; exact ⟨rfl, run_size⟩
  | 1, hf, hp => cases hf; cases hp; exact ⟨rfl, run_size⟩
  | i + 2, hf, hp => simp at hf⟩
instance : Fld Tryz.prog 14 0 0 := Fld.of (fl := { name := "msg", type := 9, offset := 0, embedded := false, tag := "", pkgPath := "runtime", byteOffset := 0 }) rfl inferInstance rfl
instance : Fld Tryz.prog 14 1 1 := Fld.of (fl := { name := "addr", type := 12, offset := 1, embedded := false, tag := "", pkgPath := "runtime", byteOffset := 16 }) rfl inferInstance rfl
instance : Plcs Tryz.prog 14 [(0, 1), (1, 1)] := Plcs.of (fs := [{ name := "msg", type := 9, offset := 0, embedded := false, tag := "", pkgPath := "runtime", byteOffset := 0 }, { name := "addr", type := 12, offset := 1, embedded := false, tag := "", pkgPath := "runtime", byteOffset := 16 }]) inferInstance ⟨rfl, fun w i f p hf hp => by
  match i, hf, hp with
  | 0, hf, hp => cases hf; cases hp; exact ⟨rfl, run_size⟩
  | 1, hf, hp => cases hf; cases hp; exact ⟨rfl, run_size⟩
  | i + 2, hf, hp => simp at hf⟩
instance : Fld Tryz.prog 18 0 0 := Fld.of (fl := { name := "typ", type := 17, offset := 0, embedded := false, tag := "", pkgPath := "internal/runtime/maps", byteOffset := 0 }) rfl inferInstance rfl
instance : Plcs Tryz.prog 18 [(0, 1)] := Plcs.of (fs := [{ name := "typ", type := 17, offset := 0, embedded := false, tag := "", pkgPath := "internal/runtime/maps", byteOffset := 0 }]) inferInstance ⟨rfl, fun w i f p hf hp => by
  match i, hf, hp with
  | 0, hf, hp => cases hf; cases hp; exact ⟨rfl, run_size⟩
  | i + 1, hf, hp => simp at hf⟩
instance : Fld Tryz.prog 19 0 0 := Fld.of (fl := { name := "typ", type := 17, offset := 0, embedded := false, tag := "", pkgPath := "internal/runtime/maps", byteOffset := 0 }) rfl inferInstance rfl
instance : Plcs Tryz.prog 19 [(0, 1)] := Plcs.of (fs := [{ name := "typ", type := 17, offset := 0, embedded := false, tag := "", pkgPath := "internal/runtime/maps", byteOffset := 0 }]) inferInstance ⟨rfl, fun w i f p hf hp => by
  match i, hf, hp with
  | 0, hf, hp => cases hf; cases hp; exact ⟨rfl, run_size⟩
  | i + 1, hf, hp => simp at hf⟩
instance : Fld Tryz.prog 28 0 0 := Fld.of (fl := { name := "Epoch", type := 3, offset := 0, embedded := false, tag := "", pkgPath := "", byteOffset := 0 }) rfl inferInstance rfl
instance : Fld Tryz.prog 28 1 1 := Fld.of (fl := { name := "Root", type := 3, offset := 1, embedded := false, tag := "", pkgPath := "", byteOffset := 8 }) rfl inferInstance rfl
instance : Fld Tryz.prog 28 2 2 := Fld.of (fl := { name := "Free", type := 3, offset := 2, embedded := false, tag := "", pkgPath := "", byteOffset := 16 }) rfl inferInstance rfl
instance : Fld Tryz.prog 28 3 3 := Fld.of (fl := { name := "Pages", type := 3, offset := 3, embedded := false, tag := "", pkgPath := "", byteOffset := 24 }) rfl inferInstance rfl
instance : Plcs Tryz.prog 28 [(0, 1), (1, 1), (2, 1), (3, 1)] := Plcs.of (fs := [{ name := "Epoch", type := 3, offset := 0, embedded := false, tag := "", pkgPath := "", byteOffset := 0 }, { name := "Root", type := 3, offset := 1, embedded := false, tag := "", pkgPath := "", byteOffset := 8 }, { name := "Free", type := 3, offset := 2, embedded := false, tag := "", pkgPath := "", byteOffset := 16 }, { name := "Pages", type := 3, offset := 3, embedded := false, tag := "", pkgPath := "", byteOffset := 24 }]) inferInstance ⟨rfl, fun w i f p hf hp => by
  match i, hf, hp with
  | 0, hf, hp => cases hf; cases hp; exact ⟨rfl, run_size⟩
  | 1, hf, hp => cases hf; cases hp; exact ⟨rfl, run_size⟩
  | 2, hf, hp => cases hf; cases hp; exact ⟨rfl, run_size⟩
  | 3, hf, hp => cases hf; cases hp; exact ⟨rfl, run_size⟩
  | i + 4, hf, hp => simp at hf⟩
instance : Fld Tryz.prog 29 0 0 := Fld.of (fl := { name := "Epoch", type := 3, offset := 0, embedded := false, tag := "", pkgPath := "", byteOffset := 0 }) rfl inferInstance rfl
instance : Fld Tryz.prog 29 1 1 := Fld.of (fl := { name := "Root", type := 3, offset := 1, embedded := false, tag := "", pkgPath := "", byteOffset := 8 }) rfl inferInstance rfl
instance : Fld Tryz.prog 29 2 2 := Fld.of (fl := { name := "Free", type := 3, offset := 2, embedded := false, tag := "", pkgPath := "", byteOffset := 16 }) rfl inferInstance rfl
instance : Fld Tryz.prog 29 3 3 := Fld.of (fl := { name := "Pages", type := 3, offset := 3, embedded := false, tag := "", pkgPath := "", byteOffset := 24 }) rfl inferInstance rfl
instance : Plcs Tryz.prog 29 [(0, 1), (1, 1), (2, 1), (3, 1)] := Plcs.of (fs := [{ name := "Epoch", type := 3, offset := 0, embedded := false, tag := "", pkgPath := "", byteOffset := 0 }, { name := "Root", type := 3, offset := 1, embedded := false, tag := "", pkgPath := "", byteOffset := 8 }, { name := "Free", type := 3, offset := 2, embedded := false, tag := "", pkgPath := "", byteOffset := 16 }, { name := "Pages", type := 3, offset := 3, embedded := false, tag := "", pkgPath := "", byteOffset := 24 }]) inferInstance ⟨rfl, fun w i f p hf hp => by
  match i, hf, hp with
  | 0, hf, hp => cases hf; cases hp; exact ⟨rfl, run_size⟩
  | 1, hf, hp => cases hf; cases hp; exact ⟨rfl, run_size⟩
  | 2, hf, hp => cases hf; cases hp; exact ⟨rfl, run_size⟩
  | 3, hf, hp => cases hf; cases hp; exact ⟨rfl, run_size⟩
  | i + 4, hf, hp => simp at hf⟩
instance : Fld Tryz.prog 33 0 0 := Fld.of (fl := { name := "Most", type := 3, offset := 0, embedded := false, tag := "", pkgPath := "", byteOffset := 0 }) rfl inferInstance rfl
instance : Fld Tryz.prog 33 1 1 := Fld.of (fl := { name := "Grown", type := 3, offset := 1, embedded := false, tag := "", pkgPath := "", byteOffset := 8 }) rfl inferInstance rfl
instance : Fld Tryz.prog 33 2 2 := Fld.of (fl := { name := "X", type := 29, offset := 2, embedded := false, tag := "", pkgPath := "", byteOffset := 16 }) rfl inferInstance rfl
instance : Fld Tryz.prog 33 3 6 := Fld.of (fl := { name := "L", type := 30, offset := 6, embedded := false, tag := "", pkgPath := "", byteOffset := 48 }) rfl inferInstance rfl
instance : Fld Tryz.prog 33 4 7 := Fld.of (fl := { name := "Free", type := 31, offset := 7, embedded := false, tag := "", pkgPath := "", byteOffset := 72 }) rfl inferInstance rfl
instance : Fld Tryz.prog 33 5 8 := Fld.of (fl := { name := "Chain", type := 32, offset := 8, embedded := false, tag := "", pkgPath := "", byteOffset := 96 }) rfl inferInstance rfl
instance : Fld Tryz.prog 33 6 9 := Fld.of (fl := { name := "Fresh", type := 32, offset := 9, embedded := false, tag := "", pkgPath := "", byteOffset := 120 }) rfl inferInstance rfl
instance : Fld Tryz.prog 33 7 10 := Fld.of (fl := { name := "Pages", type := 3, offset := 10, embedded := false, tag := "", pkgPath := "", byteOffset := 144 }) rfl inferInstance rfl
instance : Fld Tryz.prog 33 8 11 := Fld.of (fl := { name := "Oldest", type := 3, offset := 11, embedded := false, tag := "", pkgPath := "", byteOffset := 152 }) rfl inferInstance rfl
instance : Fld Tryz.prog 33 9 12 := Fld.of (fl := { name := "LastFree", type := 31, offset := 12, embedded := false, tag := "", pkgPath := "", byteOffset := 160 }) rfl inferInstance rfl
instance : Fld Tryz.prog 33 10 13 := Fld.of (fl := { name := "LastChain", type := 32, offset := 13, embedded := false, tag := "", pkgPath := "", byteOffset := 184 }) rfl inferInstance rfl
instance : Plcs Tryz.prog 33 [(0, 1), (1, 1), (2, 4), (6, 1), (7, 1), (8, 1), (9, 1), (10, 1), (11, 1), (12, 1), (13, 1)] := Plcs.of (fs := [{ name := "Most", type := 3, offset := 0, embedded := false, tag := "", pkgPath := "", byteOffset := 0 }, { name := "Grown", type := 3, offset := 1, embedded := false, tag := "", pkgPath := "", byteOffset := 8 }, { name := "X", type := 29, offset := 2, embedded := false, tag := "", pkgPath := "", byteOffset := 16 }, { name := "L", type := 30, offset := 6, embedded := false, tag := "", pkgPath := "", byteOffset := 48 }, { name := "Free", type := 31, offset := 7, embedded := false, tag := "", pkgPath := "", byteOffset := 72 }, { name := "Chain", type := 32, offset := 8, embedded := false, tag := "", pkgPath := "", byteOffset := 96 }, { name := "Fresh", type := 32, offset := 9, embedded := false, tag := "", pkgPath := "", byteOffset := 120 }, { name := "Pages", type := 3, offset := 10, embedded := false, tag := "", pkgPath := "", byteOffset := 144 }, { name := "Oldest", type := 3, offset := 11, embedded := false, tag := "", pkgPath := "", byteOffset := 152 }, { name := "LastFree", type := 31, offset := 12, embedded := false, tag := "", pkgPath := "", byteOffset := 160 }, { name := "LastChain", type := 32, offset := 13, embedded := false, tag := "", pkgPath := "", byteOffset := 184 }]) inferInstance ⟨rfl, fun w i f p hf hp => by
  match i, hf, hp with
  | 0, hf, hp => cases hf; cases hp; exact ⟨rfl, run_size⟩
  | 1, hf, hp => cases hf; cases hp; exact ⟨rfl, run_size⟩
  | 2, hf, hp => cases hf; cases hp; exact ⟨rfl, run_size⟩
  | 3, hf, hp => cases hf; cases hp; exact ⟨rfl, run_size⟩
  | 4, hf, hp => cases hf; cases hp; exact ⟨rfl, run_size⟩
  | 5, hf, hp => cases hf; cases hp; exact ⟨rfl, run_size⟩
  | 6, hf, hp => cases hf; cases hp; exact ⟨rfl, run_size⟩
  | 7, hf, hp => cases hf; cases hp; exact ⟨rfl, run_size⟩
  | 8, hf, hp => cases hf; cases hp; exact ⟨rfl, run_size⟩
  | 9, hf, hp => cases hf; cases hp; exact ⟨rfl, run_size⟩
  | 10, hf, hp => cases hf; cases hp; exact ⟨rfl, run_size⟩
  | i + 11, hf, hp => simp at hf⟩
instance : Fld Tryz.prog 34 0 0 := Fld.of (fl := { name := "Most", type := 3, offset := 0, embedded := false, tag := "", pkgPath := "", byteOffset := 0 }) rfl inferInstance rfl
instance : Fld Tryz.prog 34 1 1 := Fld.of (fl := { name := "Grown", type := 3, offset := 1, embedded := false, tag := "", pkgPath := "", byteOffset := 8 }) rfl inferInstance rfl
instance : Fld Tryz.prog 34 2 2 := Fld.of (fl := { name := "X", type := 29, offset := 2, embedded := false, tag := "", pkgPath := "", byteOffset := 16 }) rfl inferInstance rfl
instance : Fld Tryz.prog 34 3 6 := Fld.of (fl := { name := "L", type := 30, offset := 6, embedded := false, tag := "", pkgPath := "", byteOffset := 48 }) rfl inferInstance rfl
instance : Fld Tryz.prog 34 4 7 := Fld.of (fl := { name := "Free", type := 31, offset := 7, embedded := false, tag := "", pkgPath := "", byteOffset := 72 }) rfl inferInstance rfl
instance : Fld Tryz.prog 34 5 8 := Fld.of (fl := { name := "Chain", type := 32, offset := 8, embedded := false, tag := "", pkgPath := "", byteOffset := 96 }) rfl inferInstance rfl
instance : Fld Tryz.prog 34 6 9 := Fld.of (fl := { name := "Fresh", type := 32, offset := 9, embedded := false, tag := "", pkgPath := "", byteOffset := 120 }) rfl inferInstance rfl
instance : Fld Tryz.prog 34 7 10 := Fld.of (fl := { name := "Pages", type := 3, offset := 10, embedded := false, tag := "", pkgPath := "", byteOffset := 144 }) rfl inferInstance rfl
instance : Fld Tryz.prog 34 8 11 := Fld.of (fl := { name := "Oldest", type := 3, offset := 11, embedded := false, tag := "", pkgPath := "", byteOffset := 152 }) rfl inferInstance rfl
instance : Fld Tryz.prog 34 9 12 := Fld.of (fl := { name := "LastFree", type := 31, offset := 12, embedded := false, tag := "", pkgPath := "", byteOffset := 160 }) rfl inferInstance rfl
instance : Fld Tryz.prog 34 10 13 := Fld.of (fl := { name := "LastChain", type := 32, offset := 13, embedded := false, tag := "", pkgPath := "", byteOffset := 184 }) rfl inferInstance rfl
instance : Plcs Tryz.prog 34 [(0, 1), (1, 1), (2, 4), (6, 1), (7, 1), (8, 1), (9, 1), (10, 1), (11, 1), (12, 1), (13, 1)] := Plcs.of (fs := [{ name := "Most", type := 3, offset := 0, embedded := false, tag := "", pkgPath := "", byteOffset := 0 }, { name := "Grown", type := 3, offset := 1, embedded := false, tag := "", pkgPath := "", byteOffset := 8 }, { name := "X", type := 29, offset := 2, embedded := false, tag := "", pkgPath := "", byteOffset := 16 }, { name := "L", type := 30, offset := 6, embedded := false, tag := "", pkgPath := "", byteOffset := 48 }, { name := "Free", type := 31, offset := 7, embedded := false, tag := "", pkgPath := "", byteOffset := 72 }, { name := "Chain", type := 32, offset := 8, embedded := false, tag := "", pkgPath := "", byteOffset := 96 }, { name := "Fresh", type := 32, offset := 9, embedded := false, tag := "", pkgPath := "", byteOffset := 120 }, { name := "Pages", type := 3, offset := 10, embedded := false, tag := "", pkgPath := "", byteOffset := 144 }, { name := "Oldest", type := 3, offset := 11, embedded := false, tag := "", pkgPath := "", byteOffset := 152 }, { name := "LastFree", type := 31, offset := 12, embedded := false, tag := "", pkgPath := "", byteOffset := 160 }, { name := "LastChain", type := 32, offset := 13, embedded := false, tag := "", pkgPath := "", byteOffset := 184 }]) inferInstance ⟨rfl, fun w i f p hf hp => by
  match i, hf, hp with
  | 0, hf, hp => cases hf; cases hp; exact ⟨rfl, run_size⟩
  | 1, hf, hp => cases hf; cases hp; exact ⟨rfl, run_size⟩
  | 2, hf, hp => cases hf; cases hp; exact ⟨rfl, run_size⟩
  | 3, hf, hp => cases hf; cases hp; exact ⟨rfl, run_size⟩
  | 4, hf, hp => cases hf; cases hp; exact ⟨rfl, run_size⟩
  | 5, hf, hp => cases hf; cases hp; exact ⟨rfl, run_size⟩
  | 6, hf, hp => cases hf; cases hp; exact ⟨rfl, run_size⟩
  | 7, hf, hp => cases hf; cases hp; exact ⟨rfl, run_size⟩
  | 8, hf, hp => cases hf; cases hp; exact ⟨rfl, run_size⟩
  | 9, hf, hp => cases hf; cases hp; exact ⟨rfl, run_size⟩
  | 10, hf, hp => cases hf; cases hp; exact ⟨rfl, run_size⟩
  | i + 11, hf, hp => simp at hf⟩
instance : Fld Tryz.prog 38 0 0 := Fld.of (fl := { name := "Kind", type := 3, offset := 0, embedded := false, tag := "", pkgPath := "", byteOffset := 0 }) rfl inferInstance rfl
instance : Fld Tryz.prog 38 1 1 := Fld.of (fl := { name := "Of", type := 3, offset := 1, embedded := false, tag := "", pkgPath := "", byteOffset := 8 }) rfl inferInstance rfl
instance : Fld Tryz.prog 38 2 2 := Fld.of (fl := { name := "Link", type := 3, offset := 2, embedded := false, tag := "", pkgPath := "", byteOffset := 16 }) rfl inferInstance rfl
instance : Fld Tryz.prog 38 3 3 := Fld.of (fl := { name := "No", type := 3, offset := 3, embedded := false, tag := "", pkgPath := "", byteOffset := 24 }) rfl inferInstance rfl
instance : Fld Tryz.prog 38 4 4 := Fld.of (fl := { name := "Root", type := 3, offset := 4, embedded := false, tag := "", pkgPath := "", byteOffset := 32 }) rfl inferInstance rfl
instance : Fld Tryz.prog 38 5 5 := Fld.of (fl := { name := "Epoch", type := 3, offset := 5, embedded := false, tag := "", pkgPath := "", byteOffset := 40 }) rfl inferInstance rfl
instance : Fld Tryz.prog 38 6 6 := Fld.of (fl := { name := "Cells", type := 37, offset := 6, embedded := false, tag := "", pkgPath := "", byteOffset := 48 }) rfl inferInstance rfl
instance : Plcs Tryz.prog 38 [(0, 1), (1, 1), (2, 1), (3, 1), (4, 1), (5, 1), (6, 1)] := Plcs.of (fs := [{ name := "Kind", type := 3, offset := 0, embedded := false, tag := "", pkgPath := "", byteOffset := 0 }, { name := "Of", type := 3, offset := 1, embedded := false, tag := "", pkgPath := "", byteOffset := 8 }, { name := "Link", type := 3, offset := 2, embedded := false, tag := "", pkgPath := "", byteOffset := 16 }, { name := "No", type := 3, offset := 3, embedded := false, tag := "", pkgPath := "", byteOffset := 24 }, { name := "Root", type := 3, offset := 4, embedded := false, tag := "", pkgPath := "", byteOffset := 32 }, { name := "Epoch", type := 3, offset := 5, embedded := false, tag := "", pkgPath := "", byteOffset := 40 }, { name := "Cells", type := 37, offset := 6, embedded := false, tag := "", pkgPath := "", byteOffset := 48 }]) inferInstance ⟨rfl, fun w i f p hf hp => by
  match i, hf, hp with
  | 0, hf, hp => cases hf; cases hp; exact ⟨rfl, run_size⟩
  | 1, hf, hp => cases hf; cases hp; exact ⟨rfl, run_size⟩
  | 2, hf, hp => cases hf; cases hp; exact ⟨rfl, run_size⟩
  | 3, hf, hp => cases hf; cases hp; exact ⟨rfl, run_size⟩
  | 4, hf, hp => cases hf; cases hp; exact ⟨rfl, run_size⟩
  | 5, hf, hp => cases hf; cases hp; exact ⟨rfl, run_size⟩
  | 6, hf, hp => cases hf; cases hp; exact ⟨rfl, run_size⟩
  | i + 7, hf, hp => simp at hf⟩
instance : Fld Tryz.prog 39 0 0 := Fld.of (fl := { name := "Kind", type := 3, offset := 0, embedded := false, tag := "", pkgPath := "", byteOffset := 0 }) rfl inferInstance rfl
instance : Fld Tryz.prog 39 1 1 := Fld.of (fl := { name := "Of", type := 3, offset := 1, embedded := false, tag := "", pkgPath := "", byteOffset := 8 }) rfl inferInstance rfl
instance : Fld Tryz.prog 39 2 2 := Fld.of (fl := { name := "Link", type := 3, offset := 2, embedded := false, tag := "", pkgPath := "", byteOffset := 16 }) rfl inferInstance rfl
instance : Fld Tryz.prog 39 3 3 := Fld.of (fl := { name := "No", type := 3, offset := 3, embedded := false, tag := "", pkgPath := "", byteOffset := 24 }) rfl inferInstance rfl
instance : Fld Tryz.prog 39 4 4 := Fld.of (fl := { name := "Root", type := 3, offset := 4, embedded := false, tag := "", pkgPath := "", byteOffset := 32 }) rfl inferInstance rfl
instance : Fld Tryz.prog 39 5 5 := Fld.of (fl := { name := "Epoch", type := 3, offset := 5, embedded := false, tag := "", pkgPath := "", byteOffset := 40 }) rfl inferInstance rfl
instance : Fld Tryz.prog 39 6 6 := Fld.of (fl := { name := "Cells", type := 37, offset := 6, embedded := false, tag := "", pkgPath := "", byteOffset := 48 }) rfl inferInstance rfl
instance : Plcs Tryz.prog 39 [(0, 1), (1, 1), (2, 1), (3, 1), (4, 1), (5, 1), (6, 1)] := Plcs.of (fs := [{ name := "Kind", type := 3, offset := 0, embedded := false, tag := "", pkgPath := "", byteOffset := 0 }, { name := "Of", type := 3, offset := 1, embedded := false, tag := "", pkgPath := "", byteOffset := 8 }, { name := "Link", type := 3, offset := 2, embedded := false, tag := "", pkgPath := "", byteOffset := 16 }, { name := "No", type := 3, offset := 3, embedded := false, tag := "", pkgPath := "", byteOffset := 24 }, { name := "Root", type := 3, offset := 4, embedded := false, tag := "", pkgPath := "", byteOffset := 32 }, { name := "Epoch", type := 3, offset := 5, embedded := false, tag := "", pkgPath := "", byteOffset := 40 }, { name := "Cells", type := 37, offset := 6, embedded := false, tag := "", pkgPath := "", byteOffset := 48 }]) inferInstance ⟨rfl, fun w i f p hf hp => by
  match i, hf, hp with
  | 0, hf, hp => cases hf; cases hp; exact ⟨rfl, run_size⟩
  | 1, hf, hp => cases hf; cases hp; exact ⟨rfl, run_size⟩
  | 2, hf, hp => cases hf; cases hp; exact ⟨rfl, run_size⟩
  | 3, hf, hp => cases hf; cases hp; exact ⟨rfl, run_size⟩
  | 4, hf, hp => cases hf; cases hp; exact ⟨rfl, run_size⟩
  | 5, hf, hp => cases hf; cases hp; exact ⟨rfl, run_size⟩
  | 6, hf, hp => cases hf; cases hp; exact ⟨rfl, run_size⟩
  | i + 7, hf, hp => simp at hf⟩
instance : Fld Tryz.prog 56 0 0 := Fld.of (fl := { name := "pages", type := 3, offset := 0, embedded := false, tag := "", pkgPath := "lunette/pager", byteOffset := 0 }) rfl inferInstance rfl
instance : Fld Tryz.prog 56 1 1 := Fld.of (fl := { name := "free", type := 31, offset := 1, embedded := false, tag := "", pkgPath := "lunette/pager", byteOffset := 8 }) rfl inferInstance rfl
instance : Fld Tryz.prog 56 2 2 := Fld.of (fl := { name := "chain", type := 32, offset := 2, embedded := false, tag := "", pkgPath := "lunette/pager", byteOffset := 32 }) rfl inferInstance rfl
instance : Plcs Tryz.prog 56 [(0, 1), (1, 1), (2, 1)] := Plcs.of (fs := [{ name := "pages", type := 3, offset := 0, embedded := false, tag := "", pkgPath := "lunette/pager", byteOffset := 0 }, { name := "free", type := 31, offset := 1, embedded := false, tag := "", pkgPath := "lunette/pager", byteOffset := 8 }, { name := "chain", type := 32, offset := 2, embedded := false, tag := "", pkgPath := "lunette/pager", byteOffset := 32 }]) inferInstance ⟨rfl, fun w i f p hf hp => by
  match i, hf, hp with
  | 0, hf, hp => cases hf; cases hp; exact ⟨rfl, run_size⟩
  | 1, hf, hp => cases hf; cases hp; exact ⟨rfl, run_size⟩
  | 2, hf, hp => cases hf; cases hp; exact ⟨rfl, run_size⟩
  | i + 3, hf, hp => simp at hf⟩
instance : Fld Tryz.prog 57 0 0 := Fld.of (fl := { name := "pages", type := 3, offset := 0, embedded := false, tag := "", pkgPath := "lunette/pager", byteOffset := 0 }) rfl inferInstance rfl
instance : Fld Tryz.prog 57 1 1 := Fld.of (fl := { name := "free", type := 31, offset := 1, embedded := false, tag := "", pkgPath := "lunette/pager", byteOffset := 8 }) rfl inferInstance rfl
instance : Fld Tryz.prog 57 2 2 := Fld.of (fl := { name := "chain", type := 32, offset := 2, embedded := false, tag := "", pkgPath := "lunette/pager", byteOffset := 32 }) rfl inferInstance rfl
instance : Plcs Tryz.prog 57 [(0, 1), (1, 1), (2, 1)] := Plcs.of (fs := [{ name := "pages", type := 3, offset := 0, embedded := false, tag := "", pkgPath := "lunette/pager", byteOffset := 0 }, { name := "free", type := 31, offset := 1, embedded := false, tag := "", pkgPath := "lunette/pager", byteOffset := 8 }, { name := "chain", type := 32, offset := 2, embedded := false, tag := "", pkgPath := "lunette/pager", byteOffset := 32 }]) inferInstance ⟨rfl, fun w i f p hf hp => by
  match i, hf, hp with
  | 0, hf, hp => cases hf; cases hp; exact ⟨rfl, run_size⟩
  | 1, hf, hp => cases hf; cases hp; exact ⟨rfl, run_size⟩
  | 2, hf, hp => cases hf; cases hp; exact ⟨rfl, run_size⟩
  | i + 3, hf, hp => simp at hf⟩
instance : Fld Tryz.prog 58 0 0 := Fld.of (fl := { name := "reader", type := 54, offset := 0, embedded := true, tag := "", pkgPath := "lunette/pager", byteOffset := 0 }) rfl inferInstance rfl
instance : Fld Tryz.prog 58 1 1 := Fld.of (fl := { name := "x", type := 29, offset := 1, embedded := false, tag := "", pkgPath := "lunette/pager", byteOffset := 8 }) rfl inferInstance rfl
instance : Fld Tryz.prog 58 2 5 := Fld.of (fl := { name := "free", type := 31, offset := 5, embedded := false, tag := "", pkgPath := "lunette/pager", byteOffset := 40 }) rfl inferInstance rfl
instance : Fld Tryz.prog 58 3 6 := Fld.of (fl := { name := "chain", type := 32, offset := 6, embedded := false, tag := "", pkgPath := "lunette/pager", byteOffset := 64 }) rfl inferInstance rfl
instance : Fld Tryz.prog 58 4 7 := Fld.of (fl := { name := "fresh", type := 55, offset := 7, embedded := false, tag := "", pkgPath := "lunette/pager", byteOffset := 88 }) rfl inferInstance rfl
instance : Fld Tryz.prog 58 5 8 := Fld.of (fl := { name := "oldest", type := 3, offset := 8, embedded := false, tag := "", pkgPath := "lunette/pager", byteOffset := 96 }) rfl inferInstance rfl
instance : Fld Tryz.prog 58 6 9 := Fld.of (fl := { name := "last", type := 57, offset := 9, embedded := false, tag := "", pkgPath := "lunette/pager", byteOffset := 104 }) rfl inferInstance rfl
instance : Plcs Tryz.prog 58 [(0, 1), (1, 4), (5, 1), (6, 1), (7, 1), (8, 1), (9, 3)] := Plcs.of (fs := [{ name := "reader", type := 54, offset := 0, embedded := true, tag := "", pkgPath := "lunette/pager", byteOffset := 0 }, { name := "x", type := 29, offset := 1, embedded := false, tag := "", pkgPath := "lunette/pager", byteOffset := 8 }, { name := "free", type := 31, offset := 5, embedded := false, tag := "", pkgPath := "lunette/pager", byteOffset := 40 }, { name := "chain", type := 32, offset := 6, embedded := false, tag := "", pkgPath := "lunette/pager", byteOffset := 64 }, { name := "fresh", type := 55, offset := 7, embedded := false, tag := "", pkgPath := "lunette/pager", byteOffset := 88 }, { name := "oldest", type := 3, offset := 8, embedded := false, tag := "", pkgPath := "lunette/pager", byteOffset := 96 }, { name := "last", type := 57, offset := 9, embedded := false, tag := "", pkgPath := "lunette/pager", byteOffset := 104 }]) inferInstance ⟨rfl, fun w i f p hf hp => by
  match i, hf, hp with
  | 0, hf, hp => cases hf; cases hp; exact ⟨rfl, run_size⟩
  | 1, hf, hp => cases hf; cases hp; exact ⟨rfl, run_size⟩
  | 2, hf, hp => cases hf; cases hp; exact ⟨rfl, run_size⟩
  | 3, hf, hp => cases hf; cases hp; exact ⟨rfl, run_size⟩
  | 4, hf, hp => cases hf; cases hp; exact ⟨rfl, run_size⟩
  | 5, hf, hp => cases hf; cases hp; exact ⟨rfl, run_size⟩
  | 6, hf, hp => cases hf; cases hp; exact ⟨rfl, run_size⟩
  | i + 7, hf, hp => simp at hf⟩
instance : Fld Tryz.prog 59 0 0 := Fld.of (fl := { name := "reader", type := 54, offset := 0, embedded := true, tag := "", pkgPath := "lunette/pager", byteOffset := 0 }) rfl inferInstance rfl
instance : Fld Tryz.prog 59 1 1 := Fld.of (fl := { name := "x", type := 29, offset := 1, embedded := false, tag := "", pkgPath := "lunette/pager", byteOffset := 8 }) rfl inferInstance rfl
instance : Fld Tryz.prog 59 2 5 := Fld.of (fl := { name := "free", type := 31, offset := 5, embedded := false, tag := "", pkgPath := "lunette/pager", byteOffset := 40 }) rfl inferInstance rfl
instance : Fld Tryz.prog 59 3 6 := Fld.of (fl := { name := "chain", type := 32, offset := 6, embedded := false, tag := "", pkgPath := "lunette/pager", byteOffset := 64 }) rfl inferInstance rfl
instance : Fld Tryz.prog 59 4 7 := Fld.of (fl := { name := "fresh", type := 55, offset := 7, embedded := false, tag := "", pkgPath := "lunette/pager", byteOffset := 88 }) rfl inferInstance rfl
instance : Fld Tryz.prog 59 5 8 := Fld.of (fl := { name := "oldest", type := 3, offset := 8, embedded := false, tag := "", pkgPath := "lunette/pager", byteOffset := 96 }) rfl inferInstance rfl
instance : Fld Tryz.prog 59 6 9 := Fld.of (fl := { name := "last", type := 57, offset := 9, embedded := false, tag := "", pkgPath := "lunette/pager", byteOffset := 104 }) rfl inferInstance rfl
instance : Plcs Tryz.prog 59 [(0, 1), (1, 4), (5, 1), (6, 1), (7, 1), (8, 1), (9, 3)] := Plcs.of (fs := [{ name := "reader", type := 54, offset := 0, embedded := true, tag := "", pkgPath := "lunette/pager", byteOffset := 0 }, { name := "x", type := 29, offset := 1, embedded := false, tag := "", pkgPath := "lunette/pager", byteOffset := 8 }, { name := "free", type := 31, offset := 5, embedded := false, tag := "", pkgPath := "lunette/pager", byteOffset := 40 }, { name := "chain", type := 32, offset := 6, embedded := false, tag := "", pkgPath := "lunette/pager", byteOffset := 64 }, { name := "fresh", type := 55, offset := 7, embedded := false, tag := "", pkgPath := "lunette/pager", byteOffset := 88 }, { name := "oldest", type := 3, offset := 8, embedded := false, tag := "", pkgPath := "lunette/pager", byteOffset := 96 }, { name := "last", type := 57, offset := 9, embedded := false, tag := "", pkgPath := "lunette/pager", byteOffset := 104 }]) inferInstance ⟨rfl, fun w i f p hf hp => by
  match i, hf, hp with
  | 0, hf, hp => cases hf; cases hp; exact ⟨rfl, run_size⟩
  | 1, hf, hp => cases hf; cases hp; exact ⟨rfl, run_size⟩
  | 2, hf, hp => cases hf; cases hp; exact ⟨rfl, run_size⟩
  | 3, hf, hp => cases hf; cases hp; exact ⟨rfl, run_size⟩
  | 4, hf, hp => cases hf; cases hp; exact ⟨rfl, run_size⟩
  | 5, hf, hp => cases hf; cases hp; exact ⟨rfl, run_size⟩
  | 6, hf, hp => cases hf; cases hp; exact ⟨rfl, run_size⟩
  | i + 7, hf, hp => simp at hf⟩
instance : Fld Tryz.prog 61 0 0 := Fld.of (fl := { name := "Page", type := 3, offset := 0, embedded := false, tag := "", pkgPath := "", byteOffset := 0 }) rfl inferInstance rfl
instance : Fld Tryz.prog 61 1 1 := Fld.of (fl := { name := "Epoch", type := 3, offset := 1, embedded := false, tag := "", pkgPath := "", byteOffset := 8 }) rfl inferInstance rfl
instance : Plcs Tryz.prog 61 [(0, 1), (1, 1)] := Plcs.of (fs := [{ name := "Page", type := 3, offset := 0, embedded := false, tag := "", pkgPath := "", byteOffset := 0 }, { name := "Epoch", type := 3, offset := 1, embedded := false, tag := "", pkgPath := "", byteOffset := 8 }]) inferInstance ⟨rfl, fun w i f p hf hp => by
  match i, hf, hp with
  | 0, hf, hp => cases hf; cases hp; exact ⟨rfl, run_size⟩
  | 1, hf, hp => cases hf; cases hp; exact ⟨rfl, run_size⟩
  | i + 2, hf, hp => simp at hf⟩
instance : Fld Tryz.prog 62 0 0 := Fld.of (fl := { name := "Page", type := 3, offset := 0, embedded := false, tag := "", pkgPath := "", byteOffset := 0 }) rfl inferInstance rfl
instance : Fld Tryz.prog 62 1 1 := Fld.of (fl := { name := "Epoch", type := 3, offset := 1, embedded := false, tag := "", pkgPath := "", byteOffset := 8 }) rfl inferInstance rfl
instance : Plcs Tryz.prog 62 [(0, 1), (1, 1)] := Plcs.of (fs := [{ name := "Page", type := 3, offset := 0, embedded := false, tag := "", pkgPath := "", byteOffset := 0 }, { name := "Epoch", type := 3, offset := 1, embedded := false, tag := "", pkgPath := "", byteOffset := 8 }]) inferInstance ⟨rfl, fun w i f p hf hp => by
  match i, hf, hp with
  | 0, hf, hp => cases hf; cases hp; exact ⟨rfl, run_size⟩
  | 1, hf, hp => cases hf; cases hp; exact ⟨rfl, run_size⟩
  | i + 2, hf, hp => simp at hf⟩
instance : Fld Tryz.prog 64 0 0 := Fld.of (fl := { name := "Kind", type := 3, offset := 0, embedded := false, tag := "", pkgPath := "", byteOffset := 0 }) rfl inferInstance rfl
instance : Fld Tryz.prog 64 1 1 := Fld.of (fl := { name := "No", type := 3, offset := 1, embedded := false, tag := "", pkgPath := "", byteOffset := 8 }) rfl inferInstance rfl
instance : Fld Tryz.prog 64 2 2 := Fld.of (fl := { name := "Epoch", type := 3, offset := 2, embedded := false, tag := "", pkgPath := "", byteOffset := 16 }) rfl inferInstance rfl
instance : Fld Tryz.prog 64 3 3 := Fld.of (fl := { name := "Link", type := 3, offset := 3, embedded := false, tag := "", pkgPath := "", byteOffset := 24 }) rfl inferInstance rfl
instance : Fld Tryz.prog 64 4 4 := Fld.of (fl := { name := "Cells", type := 37, offset := 4, embedded := false, tag := "", pkgPath := "", byteOffset := 32 }) rfl inferInstance rfl
instance : Plcs Tryz.prog 64 [(0, 1), (1, 1), (2, 1), (3, 1), (4, 1)] := Plcs.of (fs := [{ name := "Kind", type := 3, offset := 0, embedded := false, tag := "", pkgPath := "", byteOffset := 0 }, { name := "No", type := 3, offset := 1, embedded := false, tag := "", pkgPath := "", byteOffset := 8 }, { name := "Epoch", type := 3, offset := 2, embedded := false, tag := "", pkgPath := "", byteOffset := 16 }, { name := "Link", type := 3, offset := 3, embedded := false, tag := "", pkgPath := "", byteOffset := 24 }, { name := "Cells", type := 37, offset := 4, embedded := false, tag := "", pkgPath := "", byteOffset := 32 }]) inferInstance ⟨rfl, fun w i f p hf hp => by
  match i, hf, hp with
  | 0, hf, hp => cases hf; cases hp; exact ⟨rfl, run_size⟩
  | 1, hf, hp => cases hf; cases hp; exact ⟨rfl, run_size⟩
  | 2, hf, hp => cases hf; cases hp; exact ⟨rfl, run_size⟩
  | 3, hf, hp => cases hf; cases hp; exact ⟨rfl, run_size⟩
  | 4, hf, hp => cases hf; cases hp; exact ⟨rfl, run_size⟩
  | i + 5, hf, hp => simp at hf⟩
instance : Fld Tryz.prog 65 0 0 := Fld.of (fl := { name := "Kind", type := 3, offset := 0, embedded := false, tag := "", pkgPath := "", byteOffset := 0 }) rfl inferInstance rfl
instance : Fld Tryz.prog 65 1 1 := Fld.of (fl := { name := "No", type := 3, offset := 1, embedded := false, tag := "", pkgPath := "", byteOffset := 8 }) rfl inferInstance rfl
instance : Fld Tryz.prog 65 2 2 := Fld.of (fl := { name := "Epoch", type := 3, offset := 2, embedded := false, tag := "", pkgPath := "", byteOffset := 16 }) rfl inferInstance rfl
instance : Fld Tryz.prog 65 3 3 := Fld.of (fl := { name := "Link", type := 3, offset := 3, embedded := false, tag := "", pkgPath := "", byteOffset := 24 }) rfl inferInstance rfl
instance : Fld Tryz.prog 65 4 4 := Fld.of (fl := { name := "Cells", type := 37, offset := 4, embedded := false, tag := "", pkgPath := "", byteOffset := 32 }) rfl inferInstance rfl
instance : Plcs Tryz.prog 65 [(0, 1), (1, 1), (2, 1), (3, 1), (4, 1)] := Plcs.of (fs := [{ name := "Kind", type := 3, offset := 0, embedded := false, tag := "", pkgPath := "", byteOffset := 0 }, { name := "No", type := 3, offset := 1, embedded := false, tag := "", pkgPath := "", byteOffset := 8 }, { name := "Epoch", type := 3, offset := 2, embedded := false, tag := "", pkgPath := "", byteOffset := 16 }, { name := "Link", type := 3, offset := 3, embedded := false, tag := "", pkgPath := "", byteOffset := 24 }, { name := "Cells", type := 37, offset := 4, embedded := false, tag := "", pkgPath := "", byteOffset := 32 }]) inferInstance ⟨rfl, fun w i f p hf hp => by
  match i, hf, hp with
  | 0, hf, hp => cases hf; cases hp; exact ⟨rfl, run_size⟩
  | 1, hf, hp => cases hf; cases hp; exact ⟨rfl, run_size⟩
  | 2, hf, hp => cases hf; cases hp; exact ⟨rfl, run_size⟩
  | 3, hf, hp => cases hf; cases hp; exact ⟨rfl, run_size⟩
  | 4, hf, hp => cases hf; cases hp; exact ⟨rfl, run_size⟩
  | i + 5, hf, hp => simp at hf⟩
instance : Fld Tryz.prog 80 0 0 := Fld.of (fl := { name := "Kind", type := 3, offset := 0, embedded := false, tag := "", pkgPath := "", byteOffset := 0 }) rfl inferInstance rfl
instance : Fld Tryz.prog 80 1 1 := Fld.of (fl := { name := "Key", type := 9, offset := 1, embedded := false, tag := "", pkgPath := "", byteOffset := 8 }) rfl inferInstance rfl
instance : Fld Tryz.prog 80 2 2 := Fld.of (fl := { name := "Value", type := 9, offset := 2, embedded := false, tag := "", pkgPath := "", byteOffset := 24 }) rfl inferInstance rfl
instance : Plcs Tryz.prog 80 [(0, 1), (1, 1), (2, 1)] := Plcs.of (fs := [{ name := "Kind", type := 3, offset := 0, embedded := false, tag := "", pkgPath := "", byteOffset := 0 }, { name := "Key", type := 9, offset := 1, embedded := false, tag := "", pkgPath := "", byteOffset := 8 }, { name := "Value", type := 9, offset := 2, embedded := false, tag := "", pkgPath := "", byteOffset := 24 }]) inferInstance ⟨rfl, fun w i f p hf hp => by
  match i, hf, hp with
  | 0, hf, hp => cases hf; cases hp; exact ⟨rfl, run_size⟩
  | 1, hf, hp => cases hf; cases hp; exact ⟨rfl, run_size⟩
  | 2, hf, hp => cases hf; cases hp; exact ⟨rfl, run_size⟩
  | i + 3, hf, hp => simp at hf⟩
instance : Fld Tryz.prog 81 0 0 := Fld.of (fl := { name := "Kind", type := 3, offset := 0, embedded := false, tag := "", pkgPath := "", byteOffset := 0 }) rfl inferInstance rfl
instance : Fld Tryz.prog 81 1 1 := Fld.of (fl := { name := "Key", type := 9, offset := 1, embedded := false, tag := "", pkgPath := "", byteOffset := 8 }) rfl inferInstance rfl
instance : Fld Tryz.prog 81 2 2 := Fld.of (fl := { name := "Value", type := 9, offset := 2, embedded := false, tag := "", pkgPath := "", byteOffset := 24 }) rfl inferInstance rfl
instance : Plcs Tryz.prog 81 [(0, 1), (1, 1), (2, 1)] := Plcs.of (fs := [{ name := "Kind", type := 3, offset := 0, embedded := false, tag := "", pkgPath := "", byteOffset := 0 }, { name := "Key", type := 9, offset := 1, embedded := false, tag := "", pkgPath := "", byteOffset := 8 }, { name := "Value", type := 9, offset := 2, embedded := false, tag := "", pkgPath := "", byteOffset := 24 }]) inferInstance ⟨rfl, fun w i f p hf hp => by
  match i, hf, hp with
  | 0, hf, hp => cases hf; cases hp; exact ⟨rfl, run_size⟩
  | 1, hf, hp => cases hf; cases hp; exact ⟨rfl, run_size⟩
  | 2, hf, hp => cases hf; cases hp; exact ⟨rfl, run_size⟩
  | i + 3, hf, hp => simp at hf⟩
instance : Fld Tryz.prog 124 0 0 := Fld.of (fl := { name := "d", type := 24, offset := 0, embedded := false, tag := "", pkgPath := "lunette/pager", byteOffset := 0 }) rfl inferInstance rfl
instance : Fld Tryz.prog 124 1 1 := Fld.of (fl := { name := "s", type := 122, offset := 1, embedded := false, tag := "", pkgPath := "lunette/pager", byteOffset := 8 }) rfl inferInstance rfl
instance : Fld Tryz.prog 124 2 2 := Fld.of (fl := { name := "pages", type := 3, offset := 2, embedded := false, tag := "", pkgPath := "lunette/pager", byteOffset := 16 }) rfl inferInstance rfl
instance : Plcs Tryz.prog 124 [(0, 1), (1, 1), (2, 1)] := Plcs.of (fs := [{ name := "d", type := 24, offset := 0, embedded := false, tag := "", pkgPath := "lunette/pager", byteOffset := 0 }, { name := "s", type := 122, offset := 1, embedded := false, tag := "", pkgPath := "lunette/pager", byteOffset := 8 }, { name := "pages", type := 3, offset := 2, embedded := false, tag := "", pkgPath := "lunette/pager", byteOffset := 16 }]) inferInstance ⟨rfl, fun w i f p hf hp => by
  match i, hf, hp with
  | 0, hf, hp => cases hf; cases hp; exact ⟨rfl, run_size⟩
  | 1, hf, hp => cases hf; cases hp; exact ⟨rfl, run_size⟩
  | 2, hf, hp => cases hf; cases hp; exact ⟨rfl, run_size⟩
  | i + 3, hf, hp => simp at hf⟩
instance : Fld Tryz.prog 125 0 0 := Fld.of (fl := { name := "d", type := 24, offset := 0, embedded := false, tag := "", pkgPath := "lunette/pager", byteOffset := 0 }) rfl inferInstance rfl
instance : Fld Tryz.prog 125 1 1 := Fld.of (fl := { name := "s", type := 122, offset := 1, embedded := false, tag := "", pkgPath := "lunette/pager", byteOffset := 8 }) rfl inferInstance rfl
instance : Fld Tryz.prog 125 2 2 := Fld.of (fl := { name := "pages", type := 3, offset := 2, embedded := false, tag := "", pkgPath := "lunette/pager", byteOffset := 16 }) rfl inferInstance rfl
instance : Plcs Tryz.prog 125 [(0, 1), (1, 1), (2, 1)] := Plcs.of (fs := [{ name := "d", type := 24, offset := 0, embedded := false, tag := "", pkgPath := "lunette/pager", byteOffset := 0 }, { name := "s", type := 122, offset := 1, embedded := false, tag := "", pkgPath := "lunette/pager", byteOffset := 8 }, { name := "pages", type := 3, offset := 2, embedded := false, tag := "", pkgPath := "lunette/pager", byteOffset := 16 }]) inferInstance ⟨rfl, fun w i f p hf hp => by
  match i, hf, hp with
  | 0, hf, hp => cases hf; cases hp; exact ⟨rfl, run_size⟩
  | 1, hf, hp => cases hf; cases hp; exact ⟨rfl, run_size⟩
  | 2, hf, hp => cases hf; cases hp; exact ⟨rfl, run_size⟩
  | i + 3, hf, hp => simp at hf⟩
instance : Fld Tryz.prog 141 0 0 := Fld.of (fl := { name := "Leaf", type := 4, offset := 0, embedded := false, tag := "", pkgPath := "", byteOffset := 0 }) rfl inferInstance rfl
instance : Fld Tryz.prog 141 1 1 := Fld.of (fl := { name := "Keys", type := 37, offset := 1, embedded := false, tag := "", pkgPath := "", byteOffset := 8 }) rfl inferInstance rfl
instance : Fld Tryz.prog 141 2 2 := Fld.of (fl := { name := "Values", type := 37, offset := 2, embedded := false, tag := "", pkgPath := "", byteOffset := 32 }) rfl inferInstance rfl
instance : Fld Tryz.prog 141 3 3 := Fld.of (fl := { name := "Kids", type := 32, offset := 3, embedded := false, tag := "", pkgPath := "", byteOffset := 56 }) rfl inferInstance rfl
instance : Plcs Tryz.prog 141 [(0, 1), (1, 1), (2, 1), (3, 1)] := Plcs.of (fs := [{ name := "Leaf", type := 4, offset := 0, embedded := false, tag := "", pkgPath := "", byteOffset := 0 }, { name := "Keys", type := 37, offset := 1, embedded := false, tag := "", pkgPath := "", byteOffset := 8 }, { name := "Values", type := 37, offset := 2, embedded := false, tag := "", pkgPath := "", byteOffset := 32 }, { name := "Kids", type := 32, offset := 3, embedded := false, tag := "", pkgPath := "", byteOffset := 56 }]) inferInstance ⟨rfl, fun w i f p hf hp => by
  match i, hf, hp with
  | 0, hf, hp => cases hf; cases hp; exact ⟨rfl, run_size⟩
  | 1, hf, hp => cases hf; cases hp; exact ⟨rfl, run_size⟩
  | 2, hf, hp => cases hf; cases hp; exact ⟨rfl, run_size⟩
  | 3, hf, hp => cases hf; cases hp; exact ⟨rfl, run_size⟩
  | i + 4, hf, hp => simp at hf⟩
instance : Fld Tryz.prog 142 0 0 := Fld.of (fl := { name := "Leaf", type := 4, offset := 0, embedded := false, tag := "", pkgPath := "", byteOffset := 0 }) rfl inferInstance rfl
instance : Fld Tryz.prog 142 1 1 := Fld.of (fl := { name := "Keys", type := 37, offset := 1, embedded := false, tag := "", pkgPath := "", byteOffset := 8 }) rfl inferInstance rfl
instance : Fld Tryz.prog 142 2 2 := Fld.of (fl := { name := "Values", type := 37, offset := 2, embedded := false, tag := "", pkgPath := "", byteOffset := 32 }) rfl inferInstance rfl
instance : Fld Tryz.prog 142 3 3 := Fld.of (fl := { name := "Kids", type := 32, offset := 3, embedded := false, tag := "", pkgPath := "", byteOffset := 56 }) rfl inferInstance rfl
instance : Plcs Tryz.prog 142 [(0, 1), (1, 1), (2, 1), (3, 1)] := Plcs.of (fs := [{ name := "Leaf", type := 4, offset := 0, embedded := false, tag := "", pkgPath := "", byteOffset := 0 }, { name := "Keys", type := 37, offset := 1, embedded := false, tag := "", pkgPath := "", byteOffset := 8 }, { name := "Values", type := 37, offset := 2, embedded := false, tag := "", pkgPath := "", byteOffset := 32 }, { name := "Kids", type := 32, offset := 3, embedded := false, tag := "", pkgPath := "", byteOffset := 56 }]) inferInstance ⟨rfl, fun w i f p hf hp => by
  match i, hf, hp with
  | 0, hf, hp => cases hf; cases hp; exact ⟨rfl, run_size⟩
  | 1, hf, hp => cases hf; cases hp; exact ⟨rfl, run_size⟩
  | 2, hf, hp => cases hf; cases hp; exact ⟨rfl, run_size⟩
  | 3, hf, hp => cases hf; cases hp; exact ⟨rfl, run_size⟩
  | i + 4, hf, hp => simp at hf⟩
instance : Fld Tryz.prog 148 0 0 := Fld.of (fl := { name := "no", type := 3, offset := 0, embedded := false, tag := "", pkgPath := "lunette/tree", byteOffset := 0 }) rfl inferInstance rfl
instance : Fld Tryz.prog 148 1 1 := Fld.of (fl := { name := "n", type := 142, offset := 1, embedded := false, tag := "", pkgPath := "lunette/tree", byteOffset := 8 }) rfl inferInstance rfl
instance : Fld Tryz.prog 148 2 5 := Fld.of (fl := { name := "at", type := 3, offset := 5, embedded := false, tag := "", pkgPath := "lunette/tree", byteOffset := 88 }) rfl inferInstance rfl
instance : Plcs Tryz.prog 148 [(0, 1), (1, 4), (5, 1)] := Plcs.of (fs := [{ name := "no", type := 3, offset := 0, embedded := false, tag := "", pkgPath := "lunette/tree", byteOffset := 0 }, { name := "n", type := 142, offset := 1, embedded := false, tag := "", pkgPath := "lunette/tree", byteOffset := 8 }, { name := "at", type := 3, offset := 5, embedded := false, tag := "", pkgPath := "lunette/tree", byteOffset := 88 }]) inferInstance ⟨rfl, fun w i f p hf hp => by
  match i, hf, hp with
  | 0, hf, hp => cases hf; cases hp; exact ⟨rfl, run_size⟩
  | 1, hf, hp => cases hf; cases hp; exact ⟨rfl, run_size⟩
  | 2, hf, hp => cases hf; cases hp; exact ⟨rfl, run_size⟩
  | i + 3, hf, hp => simp at hf⟩
instance : Fld Tryz.prog 149 0 0 := Fld.of (fl := { name := "no", type := 3, offset := 0, embedded := false, tag := "", pkgPath := "lunette/tree", byteOffset := 0 }) rfl inferInstance rfl
instance : Fld Tryz.prog 149 1 1 := Fld.of (fl := { name := "n", type := 142, offset := 1, embedded := false, tag := "", pkgPath := "lunette/tree", byteOffset := 8 }) rfl inferInstance rfl
instance : Fld Tryz.prog 149 2 5 := Fld.of (fl := { name := "at", type := 3, offset := 5, embedded := false, tag := "", pkgPath := "lunette/tree", byteOffset := 88 }) rfl inferInstance rfl
instance : Plcs Tryz.prog 149 [(0, 1), (1, 4), (5, 1)] := Plcs.of (fs := [{ name := "no", type := 3, offset := 0, embedded := false, tag := "", pkgPath := "lunette/tree", byteOffset := 0 }, { name := "n", type := 142, offset := 1, embedded := false, tag := "", pkgPath := "lunette/tree", byteOffset := 8 }, { name := "at", type := 3, offset := 5, embedded := false, tag := "", pkgPath := "lunette/tree", byteOffset := 88 }]) inferInstance ⟨rfl, fun w i f p hf hp => by
  match i, hf, hp with
  | 0, hf, hp => cases hf; cases hp; exact ⟨rfl, run_size⟩
  | 1, hf, hp => cases hf; cases hp; exact ⟨rfl, run_size⟩
  | 2, hf, hp => cases hf; cases hp; exact ⟨rfl, run_size⟩
  | i + 3, hf, hp => simp at hf⟩
instance : Fld Tryz.prog 167 0 0 := Fld.of (fl := { name := "most", type := 3, offset := 0, embedded := false, tag := "", pkgPath := "lunette/disk", byteOffset := 0 }) rfl inferInstance rfl
instance : Fld Tryz.prog 167 1 1 := Fld.of (fl := { name := "pages", type := 3, offset := 1, embedded := false, tag := "", pkgPath := "lunette/disk", byteOffset := 8 }) rfl inferInstance rfl
instance : Fld Tryz.prog 167 2 2 := Fld.of (fl := { name := "last", type := 165, offset := 2, embedded := false, tag := "", pkgPath := "lunette/disk", byteOffset := 16 }) rfl inferInstance rfl
instance : Fld Tryz.prog 167 3 3 := Fld.of (fl := { name := "loose", type := 166, offset := 3, embedded := false, tag := "", pkgPath := "lunette/disk", byteOffset := 24 }) rfl inferInstance rfl
instance : Fld Tryz.prog 167 4 4 := Fld.of (fl := { name := "now", type := 165, offset := 4, embedded := false, tag := "", pkgPath := "lunette/disk", byteOffset := 48 }) rfl inferInstance rfl
instance : Fld Tryz.prog 167 5 5 := Fld.of (fl := { name := "fuse", type := 3, offset := 5, embedded := false, tag := "", pkgPath := "lunette/disk", byteOffset := 56 }) rfl inferInstance rfl
instance : Fld Tryz.prog 167 6 6 := Fld.of (fl := { name := "burns", type := 4, offset := 6, embedded := false, tag := "", pkgPath := "lunette/disk", byteOffset := 64 }) rfl inferInstance rfl
instance : Plcs Tryz.prog 167 [(0, 1), (1, 1), (2, 1), (3, 1), (4, 1), (5, 1), (6, 1)] := Plcs.of (fs := [{ name := "most", type := 3, offset := 0, embedded := false, tag := "", pkgPath := "lunette/disk", byteOffset := 0 }, { name := "pages", type := 3, offset := 1, embedded := false, tag := "", pkgPath := "lunette/disk", byteOffset := 8 }, { name := "last", type := 165, offset := 2, embedded := false, tag := "", pkgPath := "lunette/disk", byteOffset := 16 }, { name := "loose", type := 166, offset := 3, embedded := false, tag := "", pkgPath := "lunette/disk", byteOffset := 24 }, { name := "now", type := 165, offset := 4, embedded := false, tag := "", pkgPath := "lunette/disk", byteOffset := 48 }, { name := "fuse", type := 3, offset := 5, embedded := false, tag := "", pkgPath := "lunette/disk", byteOffset := 56 }, { name := "burns", type := 4, offset := 6, embedded := false, tag := "", pkgPath := "lunette/disk", byteOffset := 64 }]) inferInstance ⟨rfl, fun w i f p hf hp => by
  match i, hf, hp with
  | 0, hf, hp => cases hf; cases hp; exact ⟨rfl, run_size⟩
  | 1, hf, hp => cases hf; cases hp; exact ⟨rfl, run_size⟩
  | 2, hf, hp => cases hf; cases hp; exact ⟨rfl, run_size⟩
  | 3, hf, hp => cases hf; cases hp; exact ⟨rfl, run_size⟩
  | 4, hf, hp => cases hf; cases hp; exact ⟨rfl, run_size⟩
  | 5, hf, hp => cases hf; cases hp; exact ⟨rfl, run_size⟩
  | 6, hf, hp => cases hf; cases hp; exact ⟨rfl, run_size⟩
  | i + 7, hf, hp => simp at hf⟩
instance : Fld Tryz.prog 168 0 0 := Fld.of (fl := { name := "most", type := 3, offset := 0, embedded := false, tag := "", pkgPath := "lunette/disk", byteOffset := 0 }) rfl inferInstance rfl
instance : Fld Tryz.prog 168 1 1 := Fld.of (fl := { name := "pages", type := 3, offset := 1, embedded := false, tag := "", pkgPath := "lunette/disk", byteOffset := 8 }) rfl inferInstance rfl
instance : Fld Tryz.prog 168 2 2 := Fld.of (fl := { name := "last", type := 165, offset := 2, embedded := false, tag := "", pkgPath := "lunette/disk", byteOffset := 16 }) rfl inferInstance rfl
instance : Fld Tryz.prog 168 3 3 := Fld.of (fl := { name := "loose", type := 166, offset := 3, embedded := false, tag := "", pkgPath := "lunette/disk", byteOffset := 24 }) rfl inferInstance rfl
instance : Fld Tryz.prog 168 4 4 := Fld.of (fl := { name := "now", type := 165, offset := 4, embedded := false, tag := "", pkgPath := "lunette/disk", byteOffset := 48 }) rfl inferInstance rfl
instance : Fld Tryz.prog 168 5 5 := Fld.of (fl := { name := "fuse", type := 3, offset := 5, embedded := false, tag := "", pkgPath := "lunette/disk", byteOffset := 56 }) rfl inferInstance rfl
instance : Fld Tryz.prog 168 6 6 := Fld.of (fl := { name := "burns", type := 4, offset := 6, embedded := false, tag := "", pkgPath := "lunette/disk", byteOffset := 64 }) rfl inferInstance rfl
instance : Plcs Tryz.prog 168 [(0, 1), (1, 1), (2, 1), (3, 1), (4, 1), (5, 1), (6, 1)] := Plcs.of (fs := [{ name := "most", type := 3, offset := 0, embedded := false, tag := "", pkgPath := "lunette/disk", byteOffset := 0 }, { name := "pages", type := 3, offset := 1, embedded := false, tag := "", pkgPath := "lunette/disk", byteOffset := 8 }, { name := "last", type := 165, offset := 2, embedded := false, tag := "", pkgPath := "lunette/disk", byteOffset := 16 }, { name := "loose", type := 166, offset := 3, embedded := false, tag := "", pkgPath := "lunette/disk", byteOffset := 24 }, { name := "now", type := 165, offset := 4, embedded := false, tag := "", pkgPath := "lunette/disk", byteOffset := 48 }, { name := "fuse", type := 3, offset := 5, embedded := false, tag := "", pkgPath := "lunette/disk", byteOffset := 56 }, { name := "burns", type := 4, offset := 6, embedded := false, tag := "", pkgPath := "lunette/disk", byteOffset := 64 }]) inferInstance ⟨rfl, fun w i f p hf hp => by
  match i, hf, hp with
  | 0, hf, hp => cases hf; cases hp; exact ⟨rfl, run_size⟩
  | 1, hf, hp => cases hf; cases hp; exact ⟨rfl, run_size⟩
  | 2, hf, hp => cases hf; cases hp; exact ⟨rfl, run_size⟩
  | 3, hf, hp => cases hf; cases hp; exact ⟨rfl, run_size⟩
  | 4, hf, hp => cases hf; cases hp; exact ⟨rfl, run_size⟩
  | 5, hf, hp => cases hf; cases hp; exact ⟨rfl, run_size⟩
  | 6, hf, hp => cases hf; cases hp; exact ⟨rfl, run_size⟩
  | i + 7, hf, hp => simp at hf⟩
instance : Plcs Tryz.prog 178 [] := Plcs.of (fs := []) inferInstance ⟨rfl, fun w i f p hf hp => by
  match i, hf, hp with

  | i + 0, hf, hp => simp at hf⟩
instance : Plcs Tryz.prog 179 [] := Plcs.of (fs := []) inferInstance ⟨rfl, fun w i f p hf hp => by
  match i, hf, hp with

  | i + 0, hf, hp => simp at hf⟩
instance : Plcs Tryz.prog 180 [] := Plcs.of (fs := []) inferInstance ⟨rfl, fun w i f p hf hp => by
  match i, hf, hp with

  | i + 0, hf, hp => simp at hf⟩
instance : Fld Tryz.prog 181 1 0 := Fld.of (fl := { name := "v", type := 173, offset := 0, embedded := false, tag := "", pkgPath := "sync/atomic", byteOffset := 0 }) rfl inferInstance rfl
instance : Fld Tryz.prog 182 1 0 := Fld.of (fl := { name := "v", type := 173, offset := 0, embedded := false, tag := "", pkgPath := "sync/atomic", byteOffset := 0 }) rfl inferInstance rfl
instance : Fld Tryz.prog 183 0 0 := Fld.of (fl := { name := "state", type := 21, offset := 0, embedded := false, tag := "", pkgPath := "internal/sync", byteOffset := 0 }) rfl inferInstance rfl
instance : Fld Tryz.prog 183 1 1 := Fld.of (fl := { name := "sema", type := 173, offset := 1, embedded := false, tag := "", pkgPath := "internal/sync", byteOffset := 4 }) rfl inferInstance rfl
instance : Plcs Tryz.prog 183 [(0, 1), (1, 1)] := Plcs.of (fs := [{ name := "state", type := 21, offset := 0, embedded := false, tag := "", pkgPath := "internal/sync", byteOffset := 0 }, { name := "sema", type := 173, offset := 1, embedded := false, tag := "", pkgPath := "internal/sync", byteOffset := 4 }]) inferInstance ⟨rfl, fun w i f p hf hp => by
  match i, hf, hp with
  | 0, hf, hp => cases hf; cases hp; exact ⟨rfl, run_size⟩
  | 1, hf, hp => cases hf; cases hp; exact ⟨rfl, run_size⟩
  | i + 2, hf, hp => simp at hf⟩
instance : Fld Tryz.prog 184 0 0 := Fld.of (fl := { name := "state", type := 21, offset := 0, embedded := false, tag := "", pkgPath := "internal/sync", byteOffset := 0 }) rfl inferInstance rfl
instance : Fld Tryz.prog 184 1 1 := Fld.of (fl := { name := "sema", type := 173, offset := 1, embedded := false, tag := "", pkgPath := "internal/sync", byteOffset := 4 }) rfl inferInstance rfl
instance : Plcs Tryz.prog 184 [(0, 1), (1, 1)] := Plcs.of (fs := [{ name := "state", type := 21, offset := 0, embedded := false, tag := "", pkgPath := "internal/sync", byteOffset := 0 }, { name := "sema", type := 173, offset := 1, embedded := false, tag := "", pkgPath := "internal/sync", byteOffset := 4 }]) inferInstance ⟨rfl, fun w i f p hf hp => by
  match i, hf, hp with
  | 0, hf, hp => cases hf; cases hp; exact ⟨rfl, run_size⟩
  | 1, hf, hp => cases hf; cases hp; exact ⟨rfl, run_size⟩
  | i + 2, hf, hp => simp at hf⟩
instance : Fld Tryz.prog 185 1 0 := Fld.of (fl := { name := "mu", type := 184, offset := 0, embedded := false, tag := "", pkgPath := "sync", byteOffset := 0 }) rfl inferInstance rfl
instance : Fld Tryz.prog 186 1 0 := Fld.of (fl := { name := "mu", type := 184, offset := 0, embedded := false, tag := "", pkgPath := "sync", byteOffset := 0 }) rfl inferInstance rfl
instance : Fld Tryz.prog 187 1 0 := Fld.of (fl := { name := "done", type := 182, offset := 0, embedded := false, tag := "", pkgPath := "sync", byteOffset := 0 }) rfl inferInstance rfl
instance : Fld Tryz.prog 187 2 1 := Fld.of (fl := { name := "m", type := 186, offset := 1, embedded := false, tag := "", pkgPath := "sync", byteOffset := 4 }) rfl inferInstance rfl
instance : Fld Tryz.prog 188 1 0 := Fld.of (fl := { name := "done", type := 182, offset := 0, embedded := false, tag := "", pkgPath := "sync", byteOffset := 0 }) rfl inferInstance rfl
instance : Fld Tryz.prog 188 2 1 := Fld.of (fl := { name := "m", type := 186, offset := 1, embedded := false, tag := "", pkgPath := "sync", byteOffset := 4 }) rfl inferInstance rfl
instance : Plcs Tryz.prog 190 [] := Plcs.of (fs := []) inferInstance ⟨rfl, fun w i f p hf hp => by
  match i, hf, hp with

  | i + 0, hf, hp => simp at hf⟩
instance : Fld Tryz.prog 191 2 0 := Fld.of (fl := { name := "v", type := 2, offset := 0, embedded := false, tag := "", pkgPath := "sync/atomic", byteOffset := 0 }) rfl inferInstance rfl
instance : Fld Tryz.prog 192 2 0 := Fld.of (fl := { name := "v", type := 2, offset := 0, embedded := false, tag := "", pkgPath := "sync/atomic", byteOffset := 0 }) rfl inferInstance rfl
instance : Fld Tryz.prog 193 0 0 := Fld.of (fl := { name := "once", type := 188, offset := 0, embedded := false, tag := "", pkgPath := "lunette/sum", byteOffset := 0 }) rfl inferInstance rfl
instance : Fld Tryz.prog 193 1 3 := Fld.of (fl := { name := "table", type := 189, offset := 3, embedded := false, tag := "", pkgPath := "lunette/sum", byteOffset := 12 }) rfl inferInstance rfl
instance : Fld Tryz.prog 193 2 259 := Fld.of (fl := { name := "count", type := 192, offset := 259, embedded := false, tag := "", pkgPath := "lunette/sum", byteOffset := 1040 }) rfl inferInstance rfl
instance : Plcs Tryz.prog 193 [(0, 3), (3, 256), (259, 1)] := Plcs.of (fs := [{ name := "once", type := 188, offset := 0, embedded := false, tag := "", pkgPath := "lunette/sum", byteOffset := 0 }, { name := "table", type := 189, offset := 3, embedded := false, tag := "", pkgPath := "lunette/sum", byteOffset := 12 }, { name := "count", type := 192, offset := 259, embedded := false, tag := "", pkgPath := "lunette/sum", byteOffset := 1040 }]) inferInstance ⟨rfl, fun w i f p hf hp => by
  match i, hf, hp with
  | 0, hf, hp => cases hf; cases hp; exact ⟨rfl, run_size⟩
  | 1, hf, hp => cases hf; cases hp; exact ⟨rfl, run_size⟩
  | 2, hf, hp => cases hf; cases hp; exact ⟨rfl, run_size⟩
  | i + 3, hf, hp => simp at hf⟩
instance : Fld Tryz.prog 194 0 0 := Fld.of (fl := { name := "once", type := 188, offset := 0, embedded := false, tag := "", pkgPath := "lunette/sum", byteOffset := 0 }) rfl inferInstance rfl
instance : Fld Tryz.prog 194 1 3 := Fld.of (fl := { name := "table", type := 189, offset := 3, embedded := false, tag := "", pkgPath := "lunette/sum", byteOffset := 12 }) rfl inferInstance rfl
instance : Fld Tryz.prog 194 2 259 := Fld.of (fl := { name := "count", type := 192, offset := 259, embedded := false, tag := "", pkgPath := "lunette/sum", byteOffset := 1040 }) rfl inferInstance rfl
instance : Plcs Tryz.prog 194 [(0, 3), (3, 256), (259, 1)] := Plcs.of (fs := [{ name := "once", type := 188, offset := 0, embedded := false, tag := "", pkgPath := "lunette/sum", byteOffset := 0 }, { name := "table", type := 189, offset := 3, embedded := false, tag := "", pkgPath := "lunette/sum", byteOffset := 12 }, { name := "count", type := 192, offset := 259, embedded := false, tag := "", pkgPath := "lunette/sum", byteOffset := 1040 }]) inferInstance ⟨rfl, fun w i f p hf hp => by
  match i, hf, hp with
  | 0, hf, hp => cases hf; cases hp; exact ⟨rfl, run_size⟩
  | 1, hf, hp => cases hf; cases hp; exact ⟨rfl, run_size⟩
  | 2, hf, hp => cases hf; cases hp; exact ⟨rfl, run_size⟩
  | i + 3, hf, hp => simp at hf⟩
instance : Fld Tryz.prog 241 0 0 := Fld.of (fl := { name := "page", type := 3, offset := 0, embedded := false, tag := "", pkgPath := "lunette/disk", byteOffset := 0 }) rfl inferInstance rfl
instance : Fld Tryz.prog 241 1 1 := Fld.of (fl := { name := "b", type := 126, offset := 1, embedded := false, tag := "", pkgPath := "lunette/disk", byteOffset := 8 }) rfl inferInstance rfl
instance : Plcs Tryz.prog 241 [(0, 1), (1, 1)] := Plcs.of (fs := [{ name := "page", type := 3, offset := 0, embedded := false, tag := "", pkgPath := "lunette/disk", byteOffset := 0 }, { name := "b", type := 126, offset := 1, embedded := false, tag := "", pkgPath := "lunette/disk", byteOffset := 8 }]) inferInstance ⟨rfl, fun w i f p hf hp => by
  match i, hf, hp with
  | 0, hf, hp => cases hf; cases hp; exact ⟨rfl, run_size⟩
  | 1, hf, hp => cases hf; cases hp; exact ⟨rfl, run_size⟩
  | i + 2, hf, hp => simp at hf⟩
instance : Fld Tryz.prog 242 0 0 := Fld.of (fl := { name := "page", type := 3, offset := 0, embedded := false, tag := "", pkgPath := "lunette/disk", byteOffset := 0 }) rfl inferInstance rfl
instance : Fld Tryz.prog 242 1 1 := Fld.of (fl := { name := "b", type := 126, offset := 1, embedded := false, tag := "", pkgPath := "lunette/disk", byteOffset := 8 }) rfl inferInstance rfl
instance : Plcs Tryz.prog 242 [(0, 1), (1, 1)] := Plcs.of (fs := [{ name := "page", type := 3, offset := 0, embedded := false, tag := "", pkgPath := "lunette/disk", byteOffset := 0 }, { name := "b", type := 126, offset := 1, embedded := false, tag := "", pkgPath := "lunette/disk", byteOffset := 8 }]) inferInstance ⟨rfl, fun w i f p hf hp => by
  match i, hf, hp with
  | 0, hf, hp => cases hf; cases hp; exact ⟨rfl, run_size⟩
  | 1, hf, hp => cases hf; cases hp; exact ⟨rfl, run_size⟩
  | i + 2, hf, hp => simp at hf⟩
instance : Fld Tryz.prog 293 0 0 := Fld.of (fl := { name := "_interface", type := 17, offset := 0, embedded := false, tag := "", pkgPath := "runtime", byteOffset := 0 }) rfl inferInstance rfl
instance : Fld Tryz.prog 293 1 1 := Fld.of (fl := { name := "concrete", type := 17, offset := 1, embedded := false, tag := "", pkgPath := "runtime", byteOffset := 8 }) rfl inferInstance rfl
instance : Fld Tryz.prog 293 2 2 := Fld.of (fl := { name := "asserted", type := 17, offset := 2, embedded := false, tag := "", pkgPath := "runtime", byteOffset := 16 }) rfl inferInstance rfl
instance : Fld Tryz.prog 293 3 3 := Fld.of (fl := { name := "missingMethod", type := 9, offset := 3, embedded := false, tag := "", pkgPath := "runtime", byteOffset := 24 }) rfl inferInstance rfl
instance : Plcs Tryz.prog 293 [(0, 1), (1, 1), (2, 1), (3, 1)] := Plcs.of (fs := [{ name := "_interface", type := 17, offset := 0, embedded := false, tag := "", pkgPath := "runtime", byteOffset := 0 }, { name := "concrete", type := 17, offset := 1, embedded := false, tag := "", pkgPath := "runtime", byteOffset := 8 }, { name := "asserted", type := 17, offset := 2, embedded := false, tag := "", pkgPath := "runtime", byteOffset := 16 }, { name := "missingMethod", type := 9, offset := 3, embedded := false, tag := "", pkgPath := "runtime", byteOffset := 24 }]) inferInstance ⟨rfl, fun w i f p hf hp => by
  match i, hf, hp with
  | 0, hf, hp => cases hf; cases hp; exact ⟨rfl, run_size⟩
  | 1, hf, hp => cases hf; cases hp; exact ⟨rfl, run_size⟩
  | 2, hf, hp => cases hf; cases hp; exact ⟨rfl, run_size⟩
  | 3, hf, hp => cases hf; cases hp; exact ⟨rfl, run_size⟩
  | i + 4, hf, hp => simp at hf⟩
instance : Fld Tryz.prog 294 0 0 := Fld.of (fl := { name := "_interface", type := 17, offset := 0, embedded := false, tag := "", pkgPath := "runtime", byteOffset := 0 }) rfl inferInstance rfl
instance : Fld Tryz.prog 294 1 1 := Fld.of (fl := { name := "concrete", type := 17, offset := 1, embedded := false, tag := "", pkgPath := "runtime", byteOffset := 8 }) rfl inferInstance rfl
instance : Fld Tryz.prog 294 2 2 := Fld.of (fl := { name := "asserted", type := 17, offset := 2, embedded := false, tag := "", pkgPath := "runtime", byteOffset := 16 }) rfl inferInstance rfl
instance : Fld Tryz.prog 294 3 3 := Fld.of (fl := { name := "missingMethod", type := 9, offset := 3, embedded := false, tag := "", pkgPath := "runtime", byteOffset := 24 }) rfl inferInstance rfl
instance : Plcs Tryz.prog 294 [(0, 1), (1, 1), (2, 1), (3, 1)] := Plcs.of (fs := [{ name := "_interface", type := 17, offset := 0, embedded := false, tag := "", pkgPath := "runtime", byteOffset := 0 }, { name := "concrete", type := 17, offset := 1, embedded := false, tag := "", pkgPath := "runtime", byteOffset := 8 }, { name := "asserted", type := 17, offset := 2, embedded := false, tag := "", pkgPath := "runtime", byteOffset := 16 }, { name := "missingMethod", type := 9, offset := 3, embedded := false, tag := "", pkgPath := "runtime", byteOffset := 24 }]) inferInstance ⟨rfl, fun w i f p hf hp => by
  match i, hf, hp with
  | 0, hf, hp => cases hf; cases hp; exact ⟨rfl, run_size⟩
  | 1, hf, hp => cases hf; cases hp; exact ⟨rfl, run_size⟩
  | 2, hf, hp => cases hf; cases hp; exact ⟨rfl, run_size⟩
  | 3, hf, hp => cases hf; cases hp; exact ⟨rfl, run_size⟩
  | i + 4, hf, hp => simp at hf⟩
instance : Fld Tryz.prog 304 0 0 := Fld.of (fl := { name := "Size_", type := 12, offset := 0, embedded := false, tag := "", pkgPath := "", byteOffset := 0 }) rfl inferInstance rfl
instance : Fld Tryz.prog 304 1 1 := Fld.of (fl := { name := "PtrBytes", type := 12, offset := 1, embedded := false, tag := "", pkgPath := "", byteOffset := 8 }) rfl inferInstance rfl
instance : Fld Tryz.prog 304 2 2 := Fld.of (fl := { name := "Hash", type := 173, offset := 2, embedded := false, tag := "", pkgPath := "", byteOffset := 16 }) rfl inferInstance rfl
instance : Fld Tryz.prog 304 3 3 := Fld.of (fl := { name := "TFlag", type := 298, offset := 3, embedded := false, tag := "", pkgPath := "", byteOffset := 20 }) rfl inferInstance rfl
instance : Fld Tryz.prog 304 4 4 := Fld.of (fl := { name := "Align_", type := 5, offset := 4, embedded := false, tag := "", pkgPath := "", byteOffset := 21 }) rfl inferInstance rfl
instance : Fld Tryz.prog 304 5 5 := Fld.of (fl := { name := "FieldAlign_", type := 5, offset := 5, embedded := false, tag := "", pkgPath := "", byteOffset := 22 }) rfl inferInstance rfl
instance : Fld Tryz.prog 304 6 6 := Fld.of (fl := { name := "Kind_", type := 299, offset := 6, embedded := false, tag := "", pkgPath := "", byteOffset := 23 }) rfl inferInstance rfl
instance : Fld Tryz.prog 304 7 7 := Fld.of (fl := { name := "Equal", type := 300, offset := 7, embedded := false, tag := "", pkgPath := "", byteOffset := 24 }) rfl inferInstance rfl
instance : Fld Tryz.prog 304 8 8 := Fld.of (fl := { name := "GCData", type := 301, offset := 8, embedded := false, tag := "", pkgPath := "", byteOffset := 32 }) rfl inferInstance rfl
instance : Fld Tryz.prog 304 9 9 := Fld.of (fl := { name := "Str", type := 302, offset := 9, embedded := false, tag := "", pkgPath := "", byteOffset := 40 }) rfl inferInstance rfl
instance : Fld Tryz.prog 304 10 10 := Fld.of (fl := { name := "PtrToThis", type := 303, offset := 10, embedded := false, tag := "", pkgPath := "", byteOffset := 44 }) rfl inferInstance rfl
instance : Plcs Tryz.prog 304 [(0, 1), (1, 1), (2, 1), (3, 1), (4, 1), (5, 1), (6, 1), (7, 1), (8, 1), (9, 1), (10, 1)] := Plcs.of (fs := [{ name := "Size_", type := 12, offset := 0, embedded := false, tag := "", pkgPath := "", byteOffset := 0 }, { name := "PtrBytes", type := 12, offset := 1, embedded := false, tag := "", pkgPath := "", byteOffset := 8 }, { name := "Hash", type := 173, offset := 2, embedded := false, tag := "", pkgPath := "", byteOffset := 16 }, { name := "TFlag", type := 298, offset := 3, embedded := false, tag := "", pkgPath := "", byteOffset := 20 }, { name := "Align_", type := 5, offset := 4, embedded := false, tag := "", pkgPath := "", byteOffset := 21 }, { name := "FieldAlign_", type := 5, offset := 5, embedded := false, tag := "", pkgPath := "", byteOffset := 22 }, { name := "Kind_", type := 299, offset := 6, embedded := false, tag := "", pkgPath := "", byteOffset := 23 }, { name := "Equal", type := 300, offset := 7, embedded := false, tag := "", pkgPath := "", byteOffset := 24 }, { name := "GCData", type := 301, offset := 8, embedded := false, tag := "", pkgPath := "", byteOffset := 32 }, { name := "Str", type := 302, offset := 9, embedded := false, tag := "", pkgPath := "", byteOffset := 40 }, { name := "PtrToThis", type := 303, offset := 10, embedded := false, tag := "", pkgPath := "", byteOffset := 44 }]) inferInstance ⟨rfl, fun w i f p hf hp => by
  match i, hf, hp with
  | 0, hf, hp => cases hf; cases hp; exact ⟨rfl, run_size⟩
  | 1, hf, hp => cases hf; cases hp; exact ⟨rfl, run_size⟩
  | 2, hf, hp => cases hf; cases hp; exact ⟨rfl, run_size⟩
  | 3, hf, hp => cases hf; cases hp; exact ⟨rfl, run_size⟩
  | 4, hf, hp => cases hf; cases hp; exact ⟨rfl, run_size⟩
  | 5, hf, hp => cases hf; cases hp; exact ⟨rfl, run_size⟩
  | 6, hf, hp => cases hf; cases hp; exact ⟨rfl, run_size⟩
  | 7, hf, hp => cases hf; cases hp; exact ⟨rfl, run_size⟩
  | 8, hf, hp => cases hf; cases hp; exact ⟨rfl, run_size⟩
  | 9, hf, hp => cases hf; cases hp; exact ⟨rfl, run_size⟩
  | 10, hf, hp => cases hf; cases hp; exact ⟨rfl, run_size⟩
  | i + 11, hf, hp => simp at hf⟩
instance : Fld Tryz.prog 305 0 0 := Fld.of (fl := { name := "Size_", type := 12, offset := 0, embedded := false, tag := "", pkgPath := "", byteOffset := 0 }) rfl inferInstance rfl
instance : Fld Tryz.prog 305 1 1 := Fld.of (fl := { name := "PtrBytes", type := 12, offset := 1, embedded := false, tag := "", pkgPath := "", byteOffset := 8 }) rfl inferInstance rfl
instance : Fld Tryz.prog 305 2 2 := Fld.of (fl := { name := "Hash", type := 173, offset := 2, embedded := false, tag := "", pkgPath := "", byteOffset := 16 }) rfl inferInstance rfl
instance : Fld Tryz.prog 305 3 3 := Fld.of (fl := { name := "TFlag", type := 298, offset := 3, embedded := false, tag := "", pkgPath := "", byteOffset := 20 }) rfl inferInstance rfl
instance : Fld Tryz.prog 305 4 4 := Fld.of (fl := { name := "Align_", type := 5, offset := 4, embedded := false, tag := "", pkgPath := "", byteOffset := 21 }) rfl inferInstance rfl
instance : Fld Tryz.prog 305 5 5 := Fld.of (fl := { name := "FieldAlign_", type := 5, offset := 5, embedded := false, tag := "", pkgPath := "", byteOffset := 22 }) rfl inferInstance rfl
instance : Fld Tryz.prog 305 6 6 := Fld.of (fl := { name := "Kind_", type := 299, offset := 6, embedded := false, tag := "", pkgPath := "", byteOffset := 23 }) rfl inferInstance rfl
instance : Fld Tryz.prog 305 7 7 := Fld.of (fl := { name := "Equal", type := 300, offset := 7, embedded := false, tag := "", pkgPath := "", byteOffset := 24 }) rfl inferInstance rfl
instance : Fld Tryz.prog 305 8 8 := Fld.of (fl := { name := "GCData", type := 301, offset := 8, embedded := false, tag := "", pkgPath := "", byteOffset := 32 }) rfl inferInstance rfl
instance : Fld Tryz.prog 305 9 9 := Fld.of (fl := { name := "Str", type := 302, offset := 9, embedded := false, tag := "", pkgPath := "", byteOffset := 40 }) rfl inferInstance rfl
instance : Fld Tryz.prog 305 10 10 := Fld.of (fl := { name := "PtrToThis", type := 303, offset := 10, embedded := false, tag := "", pkgPath := "", byteOffset := 44 }) rfl inferInstance rfl
instance : Plcs Tryz.prog 305 [(0, 1), (1, 1), (2, 1), (3, 1), (4, 1), (5, 1), (6, 1), (7, 1), (8, 1), (9, 1), (10, 1)] := Plcs.of (fs := [{ name := "Size_", type := 12, offset := 0, embedded := false, tag := "", pkgPath := "", byteOffset := 0 }, { name := "PtrBytes", type := 12, offset := 1, embedded := false, tag := "", pkgPath := "", byteOffset := 8 }, { name := "Hash", type := 173, offset := 2, embedded := false, tag := "", pkgPath := "", byteOffset := 16 }, { name := "TFlag", type := 298, offset := 3, embedded := false, tag := "", pkgPath := "", byteOffset := 20 }, { name := "Align_", type := 5, offset := 4, embedded := false, tag := "", pkgPath := "", byteOffset := 21 }, { name := "FieldAlign_", type := 5, offset := 5, embedded := false, tag := "", pkgPath := "", byteOffset := 22 }, { name := "Kind_", type := 299, offset := 6, embedded := false, tag := "", pkgPath := "", byteOffset := 23 }, { name := "Equal", type := 300, offset := 7, embedded := false, tag := "", pkgPath := "", byteOffset := 24 }, { name := "GCData", type := 301, offset := 8, embedded := false, tag := "", pkgPath := "", byteOffset := 32 }, { name := "Str", type := 302, offset := 9, embedded := false, tag := "", pkgPath := "", byteOffset := 40 }, { name := "PtrToThis", type := 303, offset := 10, embedded := false, tag := "", pkgPath := "", byteOffset := 44 }]) inferInstance ⟨rfl, fun w i f p hf hp => by
  match i, hf, hp with
  | 0, hf, hp => cases hf; cases hp; exact ⟨rfl, run_size⟩
  | 1, hf, hp => cases hf; cases hp; exact ⟨rfl, run_size⟩
  | 2, hf, hp => cases hf; cases hp; exact ⟨rfl, run_size⟩
  | 3, hf, hp => cases hf; cases hp; exact ⟨rfl, run_size⟩
  | 4, hf, hp => cases hf; cases hp; exact ⟨rfl, run_size⟩
  | 5, hf, hp => cases hf; cases hp; exact ⟨rfl, run_size⟩
  | 6, hf, hp => cases hf; cases hp; exact ⟨rfl, run_size⟩
  | 7, hf, hp => cases hf; cases hp; exact ⟨rfl, run_size⟩
  | 8, hf, hp => cases hf; cases hp; exact ⟨rfl, run_size⟩
  | 9, hf, hp => cases hf; cases hp; exact ⟨rfl, run_size⟩
  | 10, hf, hp => cases hf; cases hp; exact ⟨rfl, run_size⟩
  | i + 11, hf, hp => simp at hf⟩
instance : Callee Tryz.prog 2 := Callee.of Tryz.func2 (by kernel_rfl) (by kernel_rfl)
instance : Callee Tryz.prog 3 := Callee.of Tryz.func3 (by kernel_rfl) (by kernel_rfl)
instance : Callee Tryz.prog 4 := Callee.of Tryz.func4 (by kernel_rfl) (by kernel_rfl)
instance : Callee Tryz.prog 5 := Callee.of Tryz.func5 (by kernel_rfl) (by kernel_rfl)
instance : Callee Tryz.prog 6 := Callee.of Tryz.func6 (by kernel_rfl) (by kernel_rfl)
instance : Callee Tryz.prog 7 := Callee.of Tryz.func7 (by kernel_rfl) (by kernel_rfl)
instance : Callee Tryz.prog 8 := Callee.of Tryz.func8 (by kernel_rfl) (by kernel_rfl)
instance : Callee Tryz.prog 9 := Callee.of Tryz.func9 (by kernel_rfl) (by kernel_rfl)
instance : Callee Tryz.prog 10 := Callee.of Tryz.func10 (by kernel_rfl) (by kernel_rfl)
instance : Callee Tryz.prog 11 := Callee.of Tryz.func11 (by kernel_rfl) (by kernel_rfl)
instance : Callee Tryz.prog 12 := Callee.of Tryz.func12 (by kernel_rfl) (by kernel_rfl)
instance : Callee Tryz.prog 13 := Callee.of Tryz.func13 (by kernel_rfl) (by kernel_rfl)
instance : Callee Tryz.prog 14 := Callee.of Tryz.func14 (by kernel_rfl) (by kernel_rfl)
instance : Callee Tryz.prog 15 := Callee.of Tryz.func15 (by kernel_rfl) (by kernel_rfl)
instance : Callee Tryz.prog 16 := Callee.of Tryz.func16 (by kernel_rfl) (by kernel_rfl)
instance : Callee Tryz.prog 17 := Callee.of Tryz.func17 (by kernel_rfl) (by kernel_rfl)
instance : Callee Tryz.prog 18 := Callee.of Tryz.func18 (by kernel_rfl) (by kernel_rfl)
instance : Callee Tryz.prog 19 := Callee.of Tryz.func19 (by kernel_rfl) (by kernel_rfl)
instance : Callee Tryz.prog 20 := Callee.of Tryz.func20 (by kernel_rfl) (by kernel_rfl)
instance : Callee Tryz.prog 21 := Callee.of Tryz.func21 (by kernel_rfl) (by kernel_rfl)
instance : Callee Tryz.prog 22 := Callee.of Tryz.func22 (by kernel_rfl) (by kernel_rfl)
instance : Callee Tryz.prog 23 := Callee.of Tryz.func23 (by kernel_rfl) (by kernel_rfl)
instance : Callee Tryz.prog 24 := Callee.of Tryz.func24 (by kernel_rfl) (by kernel_rfl)
instance : Callee Tryz.prog 25 := Callee.of Tryz.func25 (by kernel_rfl) (by kernel_rfl)
instance : Callee Tryz.prog 26 := Callee.of Tryz.func26 (by kernel_rfl) (by kernel_rfl)
instance : Callee Tryz.prog 27 := Callee.of Tryz.func27 (by kernel_rfl) (by kernel_rfl)
instance : Callee Tryz.prog 28 := Callee.of Tryz.func28 (by kernel_rfl) (by kernel_rfl)
instance : Callee Tryz.prog 29 := Callee.of Tryz.func29 (by kernel_rfl) (by kernel_rfl)
instance : Callee Tryz.prog 30 := Callee.of Tryz.func30 (by kernel_rfl) (by kernel_rfl)
instance : Callee Tryz.prog 31 := Callee.of Tryz.func31 (by kernel_rfl) (by kernel_rfl)
instance : Callee Tryz.prog 32 := Callee.of Tryz.func32 (by kernel_rfl) (by kernel_rfl)
instance : Callee Tryz.prog 33 := Callee.of Tryz.func33 (by kernel_rfl) (by kernel_rfl)
instance : Callee Tryz.prog 34 := Callee.of Tryz.func34 (by kernel_rfl) (by kernel_rfl)
instance : Callee Tryz.prog 35 := Callee.of Tryz.func35 (by kernel_rfl) (by kernel_rfl)
instance : Callee Tryz.prog 36 := Callee.of Tryz.func36 (by kernel_rfl) (by kernel_rfl)
instance : Callee Tryz.prog 37 := Callee.of Tryz.func37 (by kernel_rfl) (by kernel_rfl)
instance : Callee Tryz.prog 38 := Callee.of Tryz.func38 (by kernel_rfl) (by kernel_rfl)
instance : Callee Tryz.prog 39 := Callee.of Tryz.func39 (by kernel_rfl) (by kernel_rfl)
instance : Callee Tryz.prog 40 := Callee.of Tryz.func40 (by kernel_rfl) (by kernel_rfl)
instance : Callee Tryz.prog 41 := Callee.of Tryz.func41 (by kernel_rfl) (by kernel_rfl)
instance : Callee Tryz.prog 42 := Callee.of Tryz.func42 (by kernel_rfl) (by kernel_rfl)
instance : Callee Tryz.prog 43 := Callee.of Tryz.func43 (by kernel_rfl) (by kernel_rfl)
instance : Callee Tryz.prog 44 := Callee.of Tryz.func44 (by kernel_rfl) (by kernel_rfl)
instance : Callee Tryz.prog 45 := Callee.of Tryz.func45 (by kernel_rfl) (by kernel_rfl)
instance : Callee Tryz.prog 46 := Callee.of Tryz.func46 (by kernel_rfl) (by kernel_rfl)
instance : Callee Tryz.prog 47 := Callee.of Tryz.func47 (by kernel_rfl) (by kernel_rfl)
instance : Callee Tryz.prog 48 := Callee.of Tryz.func48 (by kernel_rfl) (by kernel_rfl)
instance : Callee Tryz.prog 49 := Callee.of Tryz.func49 (by kernel_rfl) (by kernel_rfl)
instance : Callee Tryz.prog 50 := Callee.of Tryz.func50 (by kernel_rfl) (by kernel_rfl)
instance : Callee Tryz.prog 51 := Callee.of Tryz.func51 (by kernel_rfl) (by kernel_rfl)
instance : Callee Tryz.prog 52 := Callee.of Tryz.func52 (by kernel_rfl) (by kernel_rfl)
instance : Callee Tryz.prog 53 := Callee.of Tryz.func53 (by kernel_rfl) (by kernel_rfl)
instance : Callee Tryz.prog 54 := Callee.of Tryz.func54 (by kernel_rfl) (by kernel_rfl)
instance : Callee Tryz.prog 55 := Callee.of Tryz.func55 (by kernel_rfl) (by kernel_rfl)
instance : Callee Tryz.prog 56 := Callee.of Tryz.func56 (by kernel_rfl) (by kernel_rfl)
instance : Callee Tryz.prog 57 := Callee.of Tryz.func57 (by kernel_rfl) (by kernel_rfl)
instance : Callee Tryz.prog 58 := Callee.of Tryz.func58 (by kernel_rfl) (by kernel_rfl)
instance : Callee Tryz.prog 59 := Callee.of Tryz.func59 (by kernel_rfl) (by kernel_rfl)
instance : Callee Tryz.prog 60 := Callee.of Tryz.func60 (by kernel_rfl) (by kernel_rfl)
instance : Callee Tryz.prog 61 := Callee.of Tryz.func61 (by kernel_rfl) (by kernel_rfl)
instance : Callee Tryz.prog 62 := Callee.of Tryz.func62 (by kernel_rfl) (by kernel_rfl)
instance : Callee Tryz.prog 63 := Callee.of Tryz.func63 (by kernel_rfl) (by kernel_rfl)
instance : Callee Tryz.prog 64 := Callee.of Tryz.func64 (by kernel_rfl) (by kernel_rfl)
instance : Callee Tryz.prog 65 := Callee.of Tryz.func65 (by kernel_rfl) (by kernel_rfl)
instance : Callee Tryz.prog 66 := Callee.of Tryz.func66 (by kernel_rfl) (by kernel_rfl)
instance : Callee Tryz.prog 67 := Callee.of Tryz.func67 (by kernel_rfl) (by kernel_rfl)
instance : Callee Tryz.prog 68 := Callee.of Tryz.func68 (by kernel_rfl) (by kernel_rfl)
instance : Callee Tryz.prog 69 := Callee.of Tryz.func69 (by kernel_rfl) (by kernel_rfl)
instance : Callee Tryz.prog 70 := Callee.of Tryz.func70 (by kernel_rfl) (by kernel_rfl)
instance : Callee Tryz.prog 71 := Callee.of Tryz.func71 (by kernel_rfl) (by kernel_rfl)
instance : Callee Tryz.prog 72 := Callee.of Tryz.func72 (by kernel_rfl) (by kernel_rfl)
instance : Callee Tryz.prog 73 := Callee.of Tryz.func73 (by kernel_rfl) (by kernel_rfl)
instance : Callee Tryz.prog 74 := Callee.of Tryz.func74 (by kernel_rfl) (by kernel_rfl)
instance : Callee Tryz.prog 75 := Callee.of Tryz.func75 (by kernel_rfl) (by kernel_rfl)
instance : Callee Tryz.prog 76 := Callee.of Tryz.func76 (by kernel_rfl) (by kernel_rfl)
instance : Callee Tryz.prog 77 := Callee.of Tryz.func77 (by kernel_rfl) (by kernel_rfl)
instance : Callee Tryz.prog 78 := Callee.of Tryz.func78 (by kernel_rfl) (by kernel_rfl)
instance : Callee Tryz.prog 79 := Callee.of Tryz.func79 (by kernel_rfl) (by kernel_rfl)
instance : Callee Tryz.prog 80 := Callee.of Tryz.func80 (by kernel_rfl) (by kernel_rfl)
instance : Callee Tryz.prog 81 := Callee.of Tryz.func81 (by kernel_rfl) (by kernel_rfl)
instance : Callee Tryz.prog 82 := Callee.of Tryz.func82 (by kernel_rfl) (by kernel_rfl)
instance : Callee Tryz.prog 83 := Callee.of Tryz.func83 (by kernel_rfl) (by kernel_rfl)
instance : Callee Tryz.prog 84 := Callee.of Tryz.func84 (by kernel_rfl) (by kernel_rfl)
instance : Callee Tryz.prog 85 := Callee.of Tryz.func85 (by kernel_rfl) (by kernel_rfl)
instance : Callee Tryz.prog 86 := Callee.of Tryz.func86 (by kernel_rfl) (by kernel_rfl)
instance : Callee Tryz.prog 87 := Callee.of Tryz.func87 (by kernel_rfl) (by kernel_rfl)
instance : Callee Tryz.prog 88 := Callee.of Tryz.func88 (by kernel_rfl) (by kernel_rfl)
instance : Callee Tryz.prog 89 := Callee.of Tryz.func89 (by kernel_rfl) (by kernel_rfl)
instance : Callee Tryz.prog 90 := Callee.of Tryz.func90 (by kernel_rfl) (by kernel_rfl)
instance : Callee Tryz.prog 91 := Callee.of Tryz.func91 (by kernel_rfl) (by kernel_rfl)
instance : Callee Tryz.prog 92 := Callee.of Tryz.func92 (by kernel_rfl) (by kernel_rfl)
instance : Callee Tryz.prog 93 := Callee.of Tryz.func93 (by kernel_rfl) (by kernel_rfl)
instance : Callee Tryz.prog 94 := Callee.of Tryz.func94 (by kernel_rfl) (by kernel_rfl)
instance : Callee Tryz.prog 95 := Callee.of Tryz.func95 (by kernel_rfl) (by kernel_rfl)
instance : Callee Tryz.prog 96 := Callee.of Tryz.func96 (by kernel_rfl) (by kernel_rfl)
instance : Callee Tryz.prog 97 := Callee.of Tryz.func97 (by kernel_rfl) (by kernel_rfl)
instance : Callee Tryz.prog 98 := Callee.of Tryz.func98 (by kernel_rfl) (by kernel_rfl)
instance : Callee Tryz.prog 99 := Callee.of Tryz.func99 (by kernel_rfl) (by kernel_rfl)
instance : Callee Tryz.prog 100 := Callee.of Tryz.func100 (by kernel_rfl) (by kernel_rfl)
instance : Callee Tryz.prog 101 := Callee.of Tryz.func101 (by kernel_rfl) (by kernel_rfl)
instance : Callee Tryz.prog 102 := Callee.of Tryz.func102 (by kernel_rfl) (by kernel_rfl)
instance : Callee Tryz.prog 103 := Callee.of Tryz.func103 (by kernel_rfl) (by kernel_rfl)
instance : Callee Tryz.prog 104 := Callee.of Tryz.func104 (by kernel_rfl) (by kernel_rfl)
instance : Callee Tryz.prog 105 := Callee.of Tryz.func105 (by kernel_rfl) (by kernel_rfl)
instance : Callee Tryz.prog 106 := Callee.of Tryz.func106 (by kernel_rfl) (by kernel_rfl)
instance : Callee Tryz.prog 107 := Callee.of Tryz.func107 (by kernel_rfl) (by kernel_rfl)
instance : Callee Tryz.prog 108 := Callee.of Tryz.func108 (by kernel_rfl) (by kernel_rfl)
instance : Callee Tryz.prog 109 := Callee.of Tryz.func109 (by kernel_rfl) (by kernel_rfl)
instance : Callee Tryz.prog 110 := Callee.of Tryz.func110 (by kernel_rfl) (by kernel_rfl)
instance : Callee Tryz.prog 111 := Callee.of Tryz.func111 (by kernel_rfl) (by kernel_rfl)
instance : Callee Tryz.prog 112 := Callee.of Tryz.func112 (by kernel_rfl) (by kernel_rfl)
instance : Callee Tryz.prog 113 := Callee.of Tryz.func113 (by kernel_rfl) (by kernel_rfl)
instance : Callee Tryz.prog 114 := Callee.of Tryz.func114 (by kernel_rfl) (by kernel_rfl)
instance : Callee Tryz.prog 115 := Callee.of Tryz.func115 (by kernel_rfl) (by kernel_rfl)
instance : Callee Tryz.prog 116 := Callee.of Tryz.func116 (by kernel_rfl) (by kernel_rfl)
instance : Callee Tryz.prog 117 := Callee.of Tryz.func117 (by kernel_rfl) (by kernel_rfl)
instance : Callee Tryz.prog 118 := Callee.of Tryz.func118 (by kernel_rfl) (by kernel_rfl)
instance : Callee Tryz.prog 119 := Callee.of Tryz.func119 (by kernel_rfl) (by kernel_rfl)
instance : Callee Tryz.prog 120 := Callee.of Tryz.func120 (by kernel_rfl) (by kernel_rfl)
instance : Callee Tryz.prog 121 := Callee.of Tryz.func121 (by kernel_rfl) (by kernel_rfl)
instance : Callee Tryz.prog 122 := Callee.of Tryz.func122 (by kernel_rfl) (by kernel_rfl)
instance : Callee Tryz.prog 123 := Callee.of Tryz.func123 (by kernel_rfl) (by kernel_rfl)
instance : Callee Tryz.prog 124 := Callee.of Tryz.func124 (by kernel_rfl) (by kernel_rfl)
instance : Callee Tryz.prog 125 := Callee.of Tryz.func125 (by kernel_rfl) (by kernel_rfl)
instance : Callee Tryz.prog 126 := Callee.of Tryz.func126 (by kernel_rfl) (by kernel_rfl)
instance : Callee Tryz.prog 127 := Callee.of Tryz.func127 (by kernel_rfl) (by kernel_rfl)
instance : Callee Tryz.prog 128 := Callee.of Tryz.func128 (by kernel_rfl) (by kernel_rfl)
instance : Callee Tryz.prog 129 := Callee.of Tryz.func129 (by kernel_rfl) (by kernel_rfl)
instance : Callee Tryz.prog 130 := Callee.of Tryz.func130 (by kernel_rfl) (by kernel_rfl)
instance : Callee Tryz.prog 131 := Callee.of Tryz.func131 (by kernel_rfl) (by kernel_rfl)
instance : Callee Tryz.prog 132 := Callee.of Tryz.func132 (by kernel_rfl) (by kernel_rfl)
instance : Callee Tryz.prog 133 := Callee.of Tryz.func133 (by kernel_rfl) (by kernel_rfl)
instance : Callee Tryz.prog 134 := Callee.of Tryz.func134 (by kernel_rfl) (by kernel_rfl)
instance : Callee Tryz.prog 135 := Callee.of Tryz.func135 (by kernel_rfl) (by kernel_rfl)
instance : Callee Tryz.prog 136 := Callee.of Tryz.func136 (by kernel_rfl) (by kernel_rfl)
instance : Callee Tryz.prog 137 := Callee.of Tryz.func137 (by kernel_rfl) (by kernel_rfl)
instance : Callee Tryz.prog 138 := Callee.of Tryz.func138 (by kernel_rfl) (by kernel_rfl)
instance : Callee Tryz.prog 139 := Callee.of Tryz.func139 (by kernel_rfl) (by kernel_rfl)
instance : Callee Tryz.prog 140 := Callee.of Tryz.func140 (by kernel_rfl) (by kernel_rfl)
instance : Callee Tryz.prog 141 := Callee.of Tryz.func141 (by kernel_rfl) (by kernel_rfl)
instance : Callee Tryz.prog 142 := Callee.of Tryz.func142 (by kernel_rfl) (by kernel_rfl)
instance : Callee Tryz.prog 143 := Callee.of Tryz.func143 (by kernel_rfl) (by kernel_rfl)
instance : Callee Tryz.prog 144 := Callee.of Tryz.func144 (by kernel_rfl) (by kernel_rfl)
instance : Callee Tryz.prog 145 := Callee.of Tryz.func145 (by kernel_rfl) (by kernel_rfl)
instance : Callee Tryz.prog 146 := Callee.of Tryz.func146 (by kernel_rfl) (by kernel_rfl)
instance : Callee Tryz.prog 147 := Callee.of Tryz.func147 (by kernel_rfl) (by kernel_rfl)
instance : Callee Tryz.prog 148 := Callee.of Tryz.func148 (by kernel_rfl) (by kernel_rfl)
instance : Callee Tryz.prog 149 := Callee.of Tryz.func149 (by kernel_rfl) (by kernel_rfl)
instance : Callee Tryz.prog 150 := Callee.of Tryz.func150 (by kernel_rfl) (by kernel_rfl)
instance : Callee Tryz.prog 151 := Callee.of Tryz.func151 (by kernel_rfl) (by kernel_rfl)
instance : Callee Tryz.prog 152 := Callee.of Tryz.func152 (by kernel_rfl) (by kernel_rfl)
instance : Callee Tryz.prog 153 := Callee.of Tryz.func153 (by kernel_rfl) (by kernel_rfl)
instance : Callee Tryz.prog 154 := Callee.of Tryz.func154 (by kernel_rfl) (by kernel_rfl)
instance : Callee Tryz.prog 155 := Callee.of Tryz.func155 (by kernel_rfl) (by kernel_rfl)
instance : Callee Tryz.prog 156 := Callee.of Tryz.func156 (by kernel_rfl) (by kernel_rfl)
instance : Callee Tryz.prog 157 := Callee.of Tryz.func157 (by kernel_rfl) (by kernel_rfl)
instance : Callee Tryz.prog 158 := Callee.of Tryz.func158 (by kernel_rfl) (by kernel_rfl)
instance : Callee Tryz.prog 159 := Callee.of Tryz.func159 (by kernel_rfl) (by kernel_rfl)
instance : Callee Tryz.prog 160 := Callee.of Tryz.func160 (by kernel_rfl) (by kernel_rfl)
instance : Callee Tryz.prog 161 := Callee.of Tryz.func161 (by kernel_rfl) (by kernel_rfl)
instance : Callee Tryz.prog 162 := Callee.of Tryz.func162 (by kernel_rfl) (by kernel_rfl)
instance : Callee Tryz.prog 163 := Callee.of Tryz.func163 (by kernel_rfl) (by kernel_rfl)
instance : Callee Tryz.prog 164 := Callee.of Tryz.func164 (by kernel_rfl) (by kernel_rfl)
instance : Callee Tryz.prog 165 := Callee.of Tryz.func165 (by kernel_rfl) (by kernel_rfl)
instance : Callee Tryz.prog 166 := Callee.of Tryz.func166 (by kernel_rfl) (by kernel_rfl)
instance : Callee Tryz.prog 167 := Callee.of Tryz.func167 (by kernel_rfl) (by kernel_rfl)
instance : Callee Tryz.prog 168 := Callee.of Tryz.func168 (by kernel_rfl) (by kernel_rfl)
instance : Callee Tryz.prog 169 := Callee.of Tryz.func169 (by kernel_rfl) (by kernel_rfl)
instance : Callee Tryz.prog 170 := Callee.of Tryz.func170 (by kernel_rfl) (by kernel_rfl)
instance : Callee Tryz.prog 171 := Callee.of Tryz.func171 (by kernel_rfl) (by kernel_rfl)
instance : Callee Tryz.prog 172 := Callee.of Tryz.func172 (by kernel_rfl) (by kernel_rfl)
instance : Callee Tryz.prog 173 := Callee.of Tryz.func173 (by kernel_rfl) (by kernel_rfl)
instance : Callee Tryz.prog 174 := Callee.of Tryz.func174 (by kernel_rfl) (by kernel_rfl)
instance : Callee Tryz.prog 175 := Callee.of Tryz.func175 (by kernel_rfl) (by kernel_rfl)
instance : Callee Tryz.prog 176 := Callee.of Tryz.func176 (by kernel_rfl) (by kernel_rfl)
instance : Callee Tryz.prog 177 := Callee.of Tryz.func177 (by kernel_rfl) (by kernel_rfl)
instance : Callee Tryz.prog 178 := Callee.of Tryz.func178 (by kernel_rfl) (by kernel_rfl)
instance : Callee Tryz.prog 179 := Callee.of Tryz.func179 (by kernel_rfl) (by kernel_rfl)
instance : Callee Tryz.prog 180 := Callee.of Tryz.func180 (by kernel_rfl) (by kernel_rfl)
instance : Callee Tryz.prog 181 := Callee.of Tryz.func181 (by kernel_rfl) (by kernel_rfl)
instance : Callee Tryz.prog 182 := Callee.of Tryz.func182 (by kernel_rfl) (by kernel_rfl)
instance : Callee Tryz.prog 183 := Callee.of Tryz.func183 (by kernel_rfl) (by kernel_rfl)
instance : Callee Tryz.prog 184 := Callee.of Tryz.func184 (by kernel_rfl) (by kernel_rfl)
instance : Callee Tryz.prog 186 := Callee.of Tryz.func186 (by kernel_rfl) (by kernel_rfl)
instance : Callee Tryz.prog 187 := Callee.of Tryz.func187 (by kernel_rfl) (by kernel_rfl)
instance : Callee Tryz.prog 189 := Callee.of Tryz.func189 (by kernel_rfl) (by kernel_rfl)
instance : Callee Tryz.prog 190 := Callee.of Tryz.func190 (by kernel_rfl) (by kernel_rfl)
instance : Callee Tryz.prog 191 := Callee.of Tryz.func191 (by kernel_rfl) (by kernel_rfl)
instance : Callee Tryz.prog 192 := Callee.of Tryz.func192 (by kernel_rfl) (by kernel_rfl)
instance : Callee Tryz.prog 193 := Callee.of Tryz.func193 (by kernel_rfl) (by kernel_rfl)
instance : Callee Tryz.prog 195 := Callee.of Tryz.func195 (by kernel_rfl) (by kernel_rfl)
instance : Callee Tryz.prog 200 := Callee.of Tryz.func200 (by kernel_rfl) (by kernel_rfl)
instance : Callee Tryz.prog 203 := Callee.of Tryz.func203 (by kernel_rfl) (by kernel_rfl)
theorem _root_.Go.Proofs.Tryz.mixed : Tryz.prog.follows .mixedOrders = true := by kernel_rfl
end Go.Lun

/- The disk's small methods. -/
namespace Go.Lun
open Go.Proofs

abbrev Bytes := List UInt8

/-- The disk's struct. -/
abbrev dobj (most pages : Int) (lm : Nat) (loose : Value) (nm : Nat) (fuse : Int) (burns : Bool) : Obj :=
  .cells ⟨[.int .i64 most, .int .i64 pages, .map (some lm), loose, .map (some nm), .int .i64 fuse, .bool burns]⟩ 168 (0, 0)
/-- A page's bytes. -/
abbrev bobj (l : Bytes) : Obj := .cells ⟨l.map byteV⟩ 5 (0, 0)

section
variable (d : Nat) (most pages : Int) (lm nm : Nat) (la : Option Addr) (ln lc : Nat) (fuse : Int) (burns : Bool)

theorem has_fn (page : Int) : Fn Tryz.prog 105 [.pointer (some ⟨d, 0, none⟩), .int .i64 page] [Blk d (dobj most pages lm (.slice la ln lc) nm fuse burns)]
      (fun v L => v = .bool (decide (0 ≤ page ∧ page < pages)) ∧ L = [Blk d (dobj most pages lm (.slice la ln lc) nm fuse burns)]) := by
  refine fn_start Tryz.func105 rfl rfl rfl fun F => ?_
  by_cases h0 : 0 ≤ page
  · by_cases h1 : page < pages
    · refine c_seq ?_
      refine c_region ?_
      refine o_y (y_assign rfl) rfl ?_
      refine o_nil ?_
      refine f_seq ?_
      refine c_seq ?_
      refine c_region ?_
      refine o_y (y_move rfl) rfl ?_
      refine o_y (y_geq_t rfl rfl (by omega)) rfl ?_
      refine o_y (y_move rfl) rfl ?_
      refine o_want rfl ?_
      refine o_y (y_move rfl) rfl ?_
      refine o_want rfl ?_
      refine o_y (y_move rfl) rfl ?_
      refine o_want rfl ?_
      refine o_y (y_nilCheck rfl) rfl ?_
      refine o_want rfl ?_
      refine o_y (y_fieldAddr0 rfl) rfl ?_
      refine o_want rfl ?_
      refine o_y (y_load rfl rfl rfl) rfl ?_
      refine o_want rfl ?_
      refine o_y (y_lss_t rfl rfl (by omega)) rfl ?_
      refine o_y (y_pick_t rfl rfl) rfl ?_
      refine o_y (y_assign rfl) rfl ?_
      refine o_nil ?_
      refine f_seq ?_
      refine c_ret ?_
      exact f_ret rfl ⟨by simp [tup, h0, h1], rfl⟩
    · refine c_seq ?_
      refine c_region ?_
      refine o_y (y_assign rfl) rfl ?_
      refine o_nil ?_
      refine f_seq ?_
      refine c_seq ?_
      refine c_region ?_
      refine o_y (y_move rfl) rfl ?_
      refine o_y (y_geq_t rfl rfl (by omega)) rfl ?_
      refine o_y (y_move rfl) rfl ?_
      refine o_want rfl ?_
      refine o_y (y_move rfl) rfl ?_
      refine o_want rfl ?_
      refine o_y (y_move rfl) rfl ?_
      refine o_want rfl ?_
      refine o_y (y_nilCheck rfl) rfl ?_
      refine o_want rfl ?_
      refine o_y (y_fieldAddr0 rfl) rfl ?_
      refine o_want rfl ?_
      refine o_y (y_load rfl rfl rfl) rfl ?_
      refine o_want rfl ?_
      refine o_y (y_lss_f rfl rfl (by omega)) rfl ?_
      refine o_y (y_pick_t rfl rfl) rfl ?_
      refine o_y (y_assign rfl) rfl ?_
      refine o_nil ?_
      refine f_seq ?_
      refine c_ret ?_
      exact f_ret rfl ⟨by simp [tup, h1], rfl⟩
  · refine c_seq ?_
    refine c_region ?_
    refine o_y (y_assign rfl) rfl ?_
    refine o_nil ?_
    refine f_seq ?_
    refine c_seq ?_
    refine c_region ?_
    refine o_y (y_move rfl) rfl ?_
    refine o_y (y_geq_f rfl rfl (by omega)) rfl ?_
    refine o_y (y_move rfl) rfl ?_
    refine o_skip rfl rfl ?_
    refine o_skip rfl rfl ?_
    refine o_skip rfl rfl ?_
    refine o_skip rfl rfl ?_
    refine o_skip rfl rfl ?_
    refine o_skip rfl rfl ?_
    refine o_y (y_pick_f rfl rfl) rfl ?_
    refine o_y (y_assign rfl) rfl ?_
    refine o_nil ?_
    refine f_seq ?_
    refine c_ret ?_
    exact f_ret rfl ⟨by simp [tup, h0], rfl⟩

theorem pages_fn : Fn Tryz.prog 69 [.pointer (some ⟨d, 0, none⟩)] [Blk d (dobj most pages lm (.slice la ln lc) nm fuse burns)]
      (fun v L => v = .int .i64 pages ∧ L = [Blk d (dobj most pages lm (.slice la ln lc) nm fuse burns)]) := by
  refine fn_start Tryz.func69 rfl rfl rfl fun F => ?_
  refine c_seq ?_
  refine c_region ?_
  refine o_y (y_assign rfl) rfl ?_
  refine o_nil ?_
  refine f_seq ?_
  refine c_seq ?_
  refine c_region ?_
  refine o_y (y_move rfl) rfl ?_
  refine o_y (y_nilCheck rfl) rfl ?_
  refine o_y (y_fieldAddr0 rfl) rfl ?_
  refine o_y (y_load rfl rfl rfl) rfl ?_
  refine o_y (y_assign rfl) rfl ?_
  refine o_nil ?_
  refine f_seq ?_
  refine c_ret ?_
  exact f_ret rfl ⟨rfl, rfl⟩

theorem loose_fn : Fn Tryz.prog 112 [.pointer (some ⟨d, 0, none⟩)] [Blk d (dobj most pages lm (.slice la ln lc) nm fuse burns)]
      (fun v L => v = .int .i64 (ln : Int) ∧ L = [Blk d (dobj most pages lm (.slice la ln lc) nm fuse burns)]) := by
  refine fn_start Tryz.func112 rfl rfl rfl fun F => ?_
  refine c_seq ?_
  refine c_region ?_
  refine o_y (y_assign rfl) rfl ?_
  refine o_nil ?_
  refine f_seq ?_
  refine c_seq ?_
  refine c_region ?_
  refine o_y (y_move rfl) rfl ?_
  refine o_y (y_nilCheck rfl) rfl ?_
  refine o_y (y_fieldAddr0 rfl) rfl ?_
  refine o_y (y_load rfl rfl rfl) rfl ?_
  refine o_y (y_len_slice rfl) rfl ?_
  refine o_y (y_assign rfl) rfl ?_
  refine o_nil ?_
  refine f_seq ?_
  refine c_ret ?_
  exact f_ret rfl ⟨rfl, rfl⟩

theorem dead_fn : Fn Tryz.prog 65 [.pointer (some ⟨d, 0, none⟩)] [Blk d (dobj most pages lm (.slice la ln lc) nm fuse burns)]
      (fun v L => v = .bool (burns && decide (fuse = 0)) ∧ L = [Blk d (dobj most pages lm (.slice la ln lc) nm fuse burns)]) := by
  refine fn_start Tryz.func65 rfl rfl rfl fun F => ?_
  cases burns
  · refine c_seq ?_
    refine c_region ?_
    refine o_y (y_assign rfl) rfl ?_
    refine o_nil ?_
    refine f_seq ?_
    refine c_seq ?_
    refine c_region ?_
    refine o_y (y_move rfl) rfl ?_
    refine o_y (y_nilCheck rfl) rfl ?_
    refine o_y (y_fieldAddr0 rfl) rfl ?_
    refine o_y (y_load rfl rfl rfl) rfl ?_
    refine o_y (y_move rfl) rfl ?_
    refine o_skip rfl rfl ?_
    refine o_skip rfl rfl ?_
    refine o_skip rfl rfl ?_
    refine o_skip rfl rfl ?_
    refine o_skip rfl rfl ?_
    refine o_y (y_pick_f rfl rfl) rfl ?_
    refine o_y (y_assign rfl) rfl ?_
    refine o_nil ?_
    refine f_seq ?_
    refine c_ret ?_
    exact f_ret rfl ⟨rfl, rfl⟩
  · by_cases h : fuse = 0
    · refine c_seq ?_
      refine c_region ?_
      refine o_y (y_assign rfl) rfl ?_
      refine o_nil ?_
      refine f_seq ?_
      refine c_seq ?_
      refine c_region ?_
      refine o_y (y_move rfl) rfl ?_
      refine o_y (y_nilCheck rfl) rfl ?_
      refine o_y (y_fieldAddr0 rfl) rfl ?_
      refine o_y (y_load rfl rfl rfl) rfl ?_
      refine o_y (y_move rfl) rfl ?_
      refine o_want rfl ?_
      refine o_y (y_move rfl) rfl ?_
      refine o_want rfl ?_
      refine o_y (y_nilCheck rfl) rfl ?_
      refine o_want rfl ?_
      refine o_y (y_fieldAddr0 rfl) rfl ?_
      refine o_want rfl ?_
      refine o_y (y_load rfl rfl rfl) rfl ?_
      refine o_want rfl ?_
      refine o_y (y_eql_t rfl rfl (by omega)) rfl ?_
      refine o_y (y_pick_t rfl rfl) rfl ?_
      refine o_y (y_assign rfl) rfl ?_
      refine o_nil ?_
      refine f_seq ?_
      refine c_ret ?_
      exact f_ret rfl ⟨by simp [tup, h], rfl⟩
    · refine c_seq ?_
      refine c_region ?_
      refine o_y (y_assign rfl) rfl ?_
      refine o_nil ?_
      refine f_seq ?_
      refine c_seq ?_
      refine c_region ?_
      refine o_y (y_move rfl) rfl ?_
      refine o_y (y_nilCheck rfl) rfl ?_
      refine o_y (y_fieldAddr0 rfl) rfl ?_
      refine o_y (y_load rfl rfl rfl) rfl ?_
      refine o_y (y_move rfl) rfl ?_
      refine o_want rfl ?_
      refine o_y (y_move rfl) rfl ?_
      refine o_want rfl ?_
      refine o_y (y_nilCheck rfl) rfl ?_
      refine o_want rfl ?_
      refine o_y (y_fieldAddr0 rfl) rfl ?_
      refine o_want rfl ?_
      refine o_y (y_load rfl rfl rfl) rfl ?_
      refine o_want rfl ?_
      refine o_y (y_eql_f rfl rfl (by omega)) rfl ?_
      refine o_y (y_pick_t rfl rfl) rfl ?_
      refine o_y (y_assign rfl) rfl ?_
      refine o_nil ?_
      refine f_seq ?_
      refine c_ret ?_
      exact f_ret rfl ⟨by simp [tup, h], rfl⟩

theorem alive_fn (hf : -9223372036854775808 < fuse) (hf' : fuse ≤ 9223372036854775807) : Fn Tryz.prog 151 [.pointer (some ⟨d, 0, none⟩)] [Blk d (dobj most pages lm (.slice la ln lc) nm fuse burns)]
      (fun v L => v = .bool (!(burns && decide (fuse = 0))) ∧ L = [Blk d (dobj most pages lm (.slice la ln lc) nm (if (burns && decide (fuse = 0)) = true then fuse else fuse - 1) burns)]) := by
  refine fn_start Tryz.func151 rfl rfl rfl fun F => ?_
  refine c_seq ?_
  refine c_region ?_
  refine o_y (y_assign rfl) rfl ?_
  refine o_nil ?_
  refine f_seq ?_
  refine c_seq ?_
  refine c_seq ?_
  refine c_region ?_
  refine o_y (y_move rfl) rfl ?_
  refine o_call rfl (dead_fn d most pages lm nm la ln lc fuse burns) (by repeat (first | with_reducible exact Takes.nil | (apply Takes.cons; focus (repeat (first | with_reducible exact Rem.here | apply Rem.there))))) rfl ?_
  rintro _ _ ⟨rfl, rfl⟩
  simp only [List.append_eq, List.cons_append, List.nil_append, List.append_nil, tup]
  cases hb : (burns && decide (fuse = 0))
  · refine o_nil ?_
    refine f_seq ?_
    refine c_false rfl ?_
    refine c_skip ?_
    refine f_seq ?_
    refine c_seq ?_
    refine c_region ?_
    refine o_y (y_move rfl) rfl ?_
    refine o_y (y_nilCheck rfl) rfl ?_
    refine o_y (y_fieldAddr0 rfl) rfl ?_
    refine o_y (y_load rfl rfl rfl) rfl ?_
    refine o_y (y_arith64 rfl rfl rfl (by omega)) rfl ?_
    refine o_y (y_nilCheck rfl) rfl ?_
    refine o_y (y_fieldAddr0 rfl) rfl ?_
    refine o_store rfl rfl rfl frz0 ?_
    refine o_nil ?_
    refine f_seq ?_
    refine c_seq ?_
    refine c_region ?_
    refine o_y (y_assign rfl) rfl ?_
    refine o_nil ?_
    refine f_seq ?_
    refine c_ret ?_
    exact f_ret rfl ⟨rfl, rfl⟩
  · refine o_nil ?_
    refine f_seq ?_
    refine c_true rfl ?_
    refine c_seq ?_
    refine c_region ?_
    refine o_y (y_assign rfl) rfl ?_
    refine o_nil ?_
    refine f_seq ?_
    refine c_ret ?_
    refine f_seq_ret ?_
    exact f_ret rfl ⟨rfl, rfl⟩

/-- Bytes of their own: 256 of them. -/
def pad (l : Bytes) : Bytes := l.take 256 ++ List.replicate (256 - l.length) 0

theorem pad_nil : (pad []).map byteV = List.replicate 256 (.int .u8 0) := by
  unfold pad
  rw [List.take_nil, List.nil_append, List.length_nil, List.map_replicate]; rfl
theorem bytes_one (l : Bytes) : ∀ u ∈ l.map byteV, u.oneCell' = true := by simp [byteV, Value.oneCell']
theorem pad_map (l : Bytes) : (pad l).map byteV = (l.take 256).map byteV ++ List.replicate (256 - l.length) (.int .u8 0) := by
  unfold pad
  rw [List.map_append, List.map_replicate]; rfl

theorem copied_nil : Fn Tryz.prog 106 [.slice none 0 0] [] (fun v L => ∃ b, v = .slice (some ⟨b, 0, none⟩) 256 256 ∧ L = [Blk b (bobj (pad []))]) := by
  refine fn_start Tryz.func106 rfl rfl rfl fun F => ?_
  refine c_seq ?_
  refine c_region ?_
  refine o_y (y_assign rfl) rfl ?_
  refine o_nil ?_
  refine f_seq ?_
  refine c_seq ?_
  refine c_region ?_
  refine o_makeSlice1 256 256 rfl rfl (by omega) (by omega) (by omega) rfl (fun b => ?_)
  refine o_y (y_assign rfl) rfl ?_
  refine o_nil ?_
  refine f_seq ?_
  refine c_seq ?_
  refine c_region ?_
  refine o_y (y_move rfl) rfl ?_
  refine o_y (y_move rfl) rfl ?_
  refine o_copy (k := 0) (ys := []) rfl rfl Src.nil rfl (by simp only [List.length_replicate]; omega) (by intro u hu; cases hu) frz0 rfl ?_
  refine o_nil ?_
  refine f_seq ?_
  refine c_seq ?_
  refine c_region ?_
  refine o_y (y_move rfl) rfl ?_
  refine o_y (y_assign rfl) rfl ?_
  refine o_nil ?_
  refine f_seq ?_
  refine c_ret ?_
  refine f_ret rfl ⟨b, rfl, ?_⟩
  rw [bobj, pad_nil]; rfl

theorem copied_at (p : Bool) (b off k cap : Nat) (cs : List Value) (T : TypeId) (fz : Nat × Nat) (l : Bytes) (hl : getN cs off k = some (l.map byteV)) :
    Fn Tryz.prog 106 [.slice (some ⟨b, off, none⟩) k cap] [Bkp p b (.cells ⟨cs⟩ T fz)]
      (fun v L => ∃ b', v = .slice (some ⟨b', 0, none⟩) 256 256 ∧ L = [Blk b' (bobj (pad l)), Bkp p b (.cells ⟨cs⟩ T fz)]) := by
  refine fn_start Tryz.func106 rfl rfl rfl fun F => ?_
  refine c_seq ?_
  refine c_region ?_
  refine o_y (y_assign rfl) rfl ?_
  refine o_nil ?_
  refine f_seq ?_
  refine c_seq ?_
  refine c_region ?_
  refine o_makeSlice1 256 256 rfl rfl (by omega) (by omega) (by omega) rfl (fun b' => ?_)
  refine o_y (y_assign rfl) rfl ?_
  refine o_nil ?_
  refine f_seq ?_
  refine c_seq ?_
  refine c_region ?_
  refine o_y (y_move rfl) rfl ?_
  refine o_y (y_move rfl) rfl ?_
  refine o_copy (k := k) (ys := l.map byteV) rfl rfl (Src.slice (by rw [Nat.mul_one]; exact hl)) rfl (by simp only [List.length_replicate]; omega) (bytes_one l) frz0 rfl ?_
  refine o_nil ?_
  refine f_seq ?_
  refine c_seq ?_
  refine c_region ?_
  refine o_y (y_move rfl) rfl ?_
  refine o_y (y_assign rfl) rfl ?_
  refine o_nil ?_
  refine f_seq ?_
  refine c_ret ?_
  refine f_ret rfl ⟨b', rfl, ?_⟩
  have hk : l.length = k := by have := getN_length hl; simpa using this
  have h3 : min l.length 256 + (256 - l.length) = 256 := by omega
  have h2 := spl_mid ((l.take 256).map byteV) [] (List.replicate (min l.length 256) (Value.int .u8 0)) (List.replicate (256 - l.length) (Value.int .u8 0)) (by rw [List.length_replicate, List.length_map, List.length_take, Nat.min_comm])
  simp only [List.nil_append, List.length_nil, List.replicate_append_replicate, h3] at h2
  have h4 : List.take (min k 256 * 1) (List.map byteV l) = (l.take 256).map byteV := by
    rw [← List.map_take, ← hk]; congr 1
    rw [Nat.mul_one]
    rcases Nat.le_total l.length 256 with h | h
    · rw [Nat.min_eq_left h, List.take_of_length_le (Nat.le_refl _), List.take_of_length_le h]
    · rw [Nat.min_eq_right h]
  rw [h4, h2, bobj, pad_map]
end
end Go.Lun

/- Pages in a map: a map from whole numbers to rows of bytes. -/
namespace Go.Lun
open Go.Proofs

/-- An entry: key, block, bytes, stamp. -/
structure PE where
  key : Int
  blk : Nat
  bs : Bytes
  born : Nat

abbrev pageV (b : Nat) : Value := .slice (some ⟨b, 0, none⟩) 256 256
abbrev PE.ent (e : PE) : Int × Value × Nat := (e.key, pageV e.blk, e.born)
abbrev PE.asrt (e : PE) : Asrt := Blk e.blk (bobj e.bs)

def pfind : List PE → Int → Option PE
  | [], _ => none
  | e :: es, k => if k = e.key then some e else pfind es k

def pents (es : List PE) : Array MapEntry := ents (es.map PE.ent)

theorem mget_pe (k : Int) : ∀ es : List PE, mget (es.map PE.ent) k = (pfind es k).map fun e => pageV e.blk
  | [] => rfl
  | e :: es => by
    simp only [List.map_cons, PE.ent, mget, pfind]
    split
    · rfl
    · exact mget_pe k es

theorem pfind_some {k : Int} {e : PE} : ∀ {es : List PE}, pfind es k = some e → e ∈ es ∧ e.key = k
  | [], h => by cases h
  | e' :: es, h => by
    simp only [pfind] at h
    split at h
    · injection h with h; subst h; exact ⟨by simp, by simp [*]⟩
    · obtain ⟨h1, h2⟩ := pfind_some h; exact ⟨by simp [h1], h2⟩
theorem pfind_none {k : Int} : ∀ {es : List PE}, pfind es k = none → ∀ e ∈ es, e.key ≠ k
  | [], _, e, he => by cases he
  | e' :: es, h, e, he => by
    simp only [pfind] at h
    split at h
    · cases h
    · rcases List.mem_cons.1 he with rfl | he
      · intro h2; exact absurd h2.symm (by assumption)
      · exact pfind_none h e he
theorem pfind_append {k : Int} {m : List PE} : ∀ {l : List PE}, pfind (l ++ m) k = (pfind l k).or (pfind m k)
  | [] => by simp [pfind]
  | e :: es => by
    simp only [List.cons_append, pfind]
    split
    · simp
    · exact pfind_append

/-- The first entry of a key with another block and bytes. -/
def pmod (b : Nat) (l : Bytes) : List PE → Int → List PE
  | [], _ => []
  | e :: es, k => if k = e.key then { e with blk := b, bs := l } :: es else e :: pmod b l es k

theorem mmod_pe (b : Nat) (l : Bytes) (k : Int) : ∀ es : List PE, mmod (es.map PE.ent) k (pageV b) = (pmod b l es k).map PE.ent
  | [] => rfl
  | e :: es => by
    simp only [List.map_cons, PE.ent, mmod, pmod]
    split
    · rename_i h; subst h; rfl
    · simp only [List.map_cons]; rw [mmod_pe b l k es]
theorem pmod_keys (b : Nat) (l : Bytes) (k : Int) : ∀ es : List PE, (pmod b l es k).map PE.key = es.map PE.key ∧ (pmod b l es k).map PE.born = es.map PE.born
  | [] => ⟨rfl, rfl⟩
  | e :: es => by
    simp only [pmod]
    split
    · exact ⟨rfl, rfl⟩
    · have := pmod_keys b l k es; simp [this.1, this.2]
theorem pmod_mem {b : Nat} {l : Bytes} {k : Int} {x : PE} : ∀ {es : List PE}, x ∈ pmod b l es k → x ∈ es ∨ x.bs = l
  | [], h => by cases h
  | e :: es, h => by
    simp only [pmod] at h
    split at h
    · rcases List.mem_cons.1 h with rfl | h
      · exact .inr rfl
      · exact .inl (by simp [h])
    · rcases List.mem_cons.1 h with rfl | h
      · exact .inl (by simp)
      · rcases pmod_mem h with h | h
        · exact .inl (by simp [h])
        · exact .inr h
theorem pfind_pmod {b : Nat} {l : Bytes} {k x : Int} : ∀ {es : List PE}, (pfind (pmod b l es k) x).map PE.bs = if x = k ∧ (pfind es k).isSome then some l else (pfind es x).map PE.bs
  | [] => by simp [pmod, pfind]
  | e :: es => by
    simp only [pmod, pfind]
    by_cases h : k = e.key
    · subst h
      simp only [if_true, pfind, Option.isSome_some, and_true]
      split <;> rfl
    · simp only [h, if_false, pfind]
      by_cases h2 : x = e.key
      · subst h2
        have : ¬ e.key = k := fun h3 => h h3.symm
        simp [this]
      · simp only [h2, if_false]; exact pfind_pmod

def upd (f : Int → Option Bytes) (k : Int) (l : Bytes) : Int → Option Bytes := fun x => if x = k then some l else f x

structure PMok (es : List PE) (ck : Nat) (f : Int → Option Bytes) : Prop where
  get : ∀ k, (pfind es k).map PE.bs = f k
  keys : (es.map PE.key).Nodup
  born : (es.map PE.born).Nodup
  old : ∀ e ∈ es, e.born < ck
  len : ∀ e ∈ es, e.bs.length = 256

/-- The map of pages at a block. -/
def PM (m : Nat) (f : Int → Option Bytes) : Asrt := fun r => ∃ (es : List PE) (ck : Nat), PMok es ck f ∧ sep [Blk m (.map (pents es) ck), Star (es.map PE.asrt)] r

instance {m : Nat} {f : Int → Option Bytes} : Opens (PM m f) (List PE × Nat) (fun x => PMok x.1 x.2 f) (fun x => [Blk m (.map (pents x.1) x.2), Star (x.1.map PE.asrt)]) :=
  ⟨fun _ ⟨es, ck, h1, h2⟩ => ⟨(es, ck), h1, h2⟩⟩

/-- One entry's bytes taken out. -/
theorem pe_take {k : Int} {e : PE} : ∀ {es : List PE}, pfind es k = some e → ∃ rs : List PE, (es.map PE.asrt).Perm (e.asrt :: rs.map PE.asrt) ∧ ∀ b l, ((pmod b l es k).map PE.asrt).Perm (Blk b (bobj l) :: rs.map PE.asrt)
  | [], h => by cases h
  | e' :: es, h => by
    simp only [pfind] at h
    split at h
    · rename_i hk
      injection h with h; subst h
      exact ⟨es, .refl _, fun b l => by simp only [pmod, hk, if_true, List.map_cons]; exact .refl _⟩
    · rename_i hk
      obtain ⟨rs, h1, h2⟩ := pe_take h
      refine ⟨e' :: rs, ?_, fun b l => ?_⟩
      · exact (List.Perm.cons _ h1).trans (.swap _ _ _)
      · simp only [pmod, hk, if_false, List.map_cons]
        exact (List.Perm.cons _ (h2 b l)).trans (.swap _ _ _)

theorem pe_open {k : Int} {e : PE} {es : List PE} (h : pfind es k = some e) : ∃ rs : List PE, Ent [Star (es.map PE.asrt)] [e.asrt, Star (rs.map PE.asrt)] ∧
    Ent [e.asrt, Star (rs.map PE.asrt)] [Star (es.map PE.asrt)] ∧ ∀ b l, Ent [Blk b (bobj l), Star (rs.map PE.asrt)] [Star ((pmod b l es k).map PE.asrt)] := by
  obtain ⟨rs, h1, h2⟩ := pe_take h
  have o : Ent [Star (rs.map PE.asrt)] (rs.map PE.asrt) := by simpa using Ent.open_star (M := rs.map PE.asrt) (L := [])
  refine ⟨rs, ?_, Ent.star ((Ent.cons o).trans (Ent.perm h1.symm)), fun b l => Ent.star ((Ent.cons o).trans (Ent.perm (h2 b l).symm))⟩
  exact Ent.open_star.trans ((by rw [List.append_nil]; exact Ent.perm h1 : Ent _ _).trans (Ent.cons (Ent.star (Ent.refl _))))

/-- An entry put. -/
theorem PMok.put {es : List PE} {ck : Nat} {f : Int → Option Bytes} (h : PMok es ck f) (k : Int) (b : Nat) (l : Bytes) (hl : l.length = 256) :
    ∃ es' ck', mput (es.map PE.ent) ck k (pageV b) = .map (pents es') ck' ∧ PMok es' ck' (upd f k l) ∧ Ent [Star (es.map PE.asrt), Blk b (bobj l)] [Star (es'.map PE.asrt)] := by
  cases hf : pfind es k with
  | none =>
    refine ⟨es ++ [⟨k, b, l, ck⟩], ck + 1, ?_, ⟨?_, ?_, ?_, ?_, ?_⟩, ?_⟩
    · simp [mput, mget_pe, hf, pents, PE.ent]
    · intro x
      rw [pfind_append]
      have := h.get x
      by_cases e : x = k
      · subst e; simp [hf, pfind, upd]
      · cases hx : pfind es x with
        | none => rw [hx] at this; simp [pfind, e, upd, ← this]
        | some y => rw [hx] at this; simp [upd, e, ← this]
    · simp only [List.map_append, List.map_cons, List.map_nil]
      refine List.nodup_append.2 ⟨h.keys, by simp, fun x hx y hy hxy => ?_⟩
      obtain ⟨e, he, rfl⟩ := List.mem_map.1 hx
      rw [List.mem_singleton] at hy; subst hy
      exact pfind_none hf e he hxy
    · simp only [List.map_append, List.map_cons, List.map_nil]
      refine List.nodup_append.2 ⟨h.born, by simp, fun x hx y hy hxy => ?_⟩
      obtain ⟨e, he, rfl⟩ := List.mem_map.1 hx
      rw [List.mem_singleton] at hy; subst hy
      have := h.old e he; omega
    · intro e he
      rcases List.mem_append.1 he with he | he
      · have := h.old e he; omega
      · rw [List.mem_singleton] at he; subst he; simp
    · intro e he
      rcases List.mem_append.1 he with he | he
      · exact h.len e he
      · rw [List.mem_singleton] at he; subst he; exact hl
    · intro r hr
      have := Ent.open_star r hr
      rw [List.map_append]
      exact sep_single this
  | some e =>
    refine ⟨pmod b l es k, ck, ?_, ⟨?_, ?_, ?_, ?_, ?_⟩, ?_⟩
    · simp [mput, mget_pe, hf, pents, mmod_pe b l]
    · intro x
      rw [pfind_pmod, hf]
      by_cases e : x = k
      · simp [e, upd]
      · simp [e, upd, h.get x]
    · rw [(pmod_keys b l k es).1]; exact h.keys
    · rw [(pmod_keys b l k es).2]; exact h.born
    · intro x hx
      have h1 : x.born ∈ (pmod b l es k).map PE.born := List.mem_map.2 ⟨x, hx, rfl⟩
      rw [(pmod_keys b l k es).2] at h1
      obtain ⟨y, hy, hxy⟩ := List.mem_map.1 h1
      rw [← hxy]; exact h.old y hy
    · intro x hx
      rcases pmod_mem hx with h1 | h1
      · exact h.len x h1
      · rw [h1]; exact hl
    · obtain ⟨rs, h1, h2⟩ := pe_take hf
      refine Ent.star ?_
      have e1 : Ent [Star (es.map PE.asrt), Blk b (bobj l)] (es.map PE.asrt ++ [Blk b (bobj l)]) := Ent.open_star
      have e2 : Ent (es.map PE.asrt ++ [Blk b (bobj l)]) (rs.map PE.asrt ++ [Blk b (bobj l)]) := Ent.app ((Ent.perm h1).trans Ent.drop)
      exact e1.trans (e2.trans ((Ent.perm List.perm_append_comm).trans (Ent.perm (h2 b l).symm)))

theorem PMok.clear {ck : Nat} : PMok [] ck (fun _ => none) := ⟨fun _ => rfl, by simp, by simp, by simp, by simp⟩

/-- A map of pages shut again. -/
theorem PM.shut {m : Nat} {es : List PE} {ck : Nat} {f : Int → Option Bytes} (h : PMok es ck f) : ∀ r, sep [Blk m (.map (pents es) ck), Star (es.map PE.asrt)] r → PM m f r := fun _ hr => ⟨es, ck, h, hr⟩

end Go.Lun

/- The disk: what it holds, and what its methods make of it. -/
namespace Go.Lun
open Go.Proofs

structure DS where
  most : Int
  pages : Int
  last : Int → Option Bytes
  now : Int → Option Bytes
  loose : List (Int × Bytes)
  fuse : Int
  burns : Bool

/-- A loose write: page, block, bytes. -/
structure WE where
  page : Int
  blk : Nat
  bs : Bytes
abbrev WE.asrt (w : WE) : Asrt := Blk w.blk (bobj w.bs)
def wcells (ws : List WE) : List Value := ws.flatMap fun w => [.int .i64 w.page, pageV w.blk]
def WE.abs (w : WE) : Int × Bytes := (w.page, w.bs)

structure WOk (ws : List WE) (l : List (Int × Bytes)) : Prop where
  abs : ws.map WE.abs = l
  len : ∀ w ∈ ws, w.bs.length = 256

structure DX where
  lm : Nat
  nm : Nat
  la : Option Addr
  lc : Nat
  ws : List WE

def DRep (d : Nat) (S : DS) : Asrt := fun r => ∃ x : DX, WOk x.ws S.loose ∧ sep [Blk d (dobj S.most S.pages x.lm (.slice x.la x.ws.length x.lc) x.nm S.fuse S.burns), PM x.lm S.last, PM x.nm S.now, Sl 242 2 x.la x.ws.length x.lc (wcells x.ws), Star (x.ws.map WE.asrt)] r

instance {d : Nat} {S : DS} : Opens (DRep d S) DX (fun x => WOk x.ws S.loose) (fun x => [Blk d (dobj S.most S.pages x.lm (.slice x.la x.ws.length x.lc) x.nm S.fuse S.burns), PM x.lm S.last, PM x.nm S.now, Sl 242 2 x.la x.ws.length x.lc (wcells x.ws), Star (x.ws.map WE.asrt)]) := ⟨fun _ h => h⟩

def DS.dead (S : DS) : Bool := S.burns && decide (S.fuse = 0)
def DS.has (S : DS) (p : Int) : Prop := 0 ≤ p ∧ p < S.pages
instance (S : DS) (p : Int) : Decidable (S.has p) := by unfold DS.has; infer_instance

theorem DRep.shut {d : Nat} {S : DS} (x : DX) (h : WOk x.ws S.loose) : ∀ r, sep [Blk d (dobj S.most S.pages x.lm (.slice x.la x.ws.length x.lc) x.nm S.fuse S.burns), PM x.lm S.last, PM x.nm S.now, Sl 242 2 x.la x.ws.length x.lc (wcells x.ws), Star (x.ws.map WE.asrt)] r → DRep d S r :=
  fun _ hr => ⟨x, h, hr⟩

theorem DRep.mk {d : Nat} {S : DS} {most pages fuse : Int} {lm nm ln lc : Nat} {la : Option Addr} {burns : Bool} {last now : Int → Option Bytes} {xs : List Value} (ws : List WE)
    (h : WOk ws S.loose) (hS : most = S.most ∧ pages = S.pages ∧ fuse = S.fuse ∧ burns = S.burns ∧ last = S.last ∧ now = S.now) (hl : ln = ws.length) (hx : xs = wcells ws) :
    ∀ r, sep [Blk d (dobj most pages lm (.slice la ln lc) nm fuse burns), PM lm last, PM nm now, Sl 242 2 la ln lc xs, Star (ws.map WE.asrt)] r → DRep d S r := by
  intro r hr
  obtain ⟨rfl, rfl, rfl, rfl, rfl, rfl⟩ := hS
  subst hl; subst hx
  exact ⟨⟨lm, nm, la, lc, ws⟩, h, hr⟩

theorem pages_d (d : Nat) (S : DS) : Fn Tryz.prog 69 [.pointer (some ⟨d, 0, none⟩)] [DRep d S] (fun v L => v = .int .i64 S.pages ∧ L = [DRep d S]) := by
  refine fn_open (A := DRep d S) Rem.here (fun x hx => ?_)
  simp only [List.append_eq, List.cons_append, List.nil_append, List.append_nil, tup]
  refine (pages_fn d S.most S.pages x.lm x.nm x.la x.ws.length x.lc S.fuse S.burns).frame (by repeat (first | with_reducible exact Takes.nil | (apply Takes.cons; focus (repeat (first | with_reducible exact Rem.here | apply Rem.there))))) ?_
  rintro _ _ ⟨rfl, rfl⟩
  refine ⟨_, _, ⟨rfl, rfl⟩, rfl, ?_⟩
  simp only [List.append_eq, List.cons_append, List.nil_append, List.append_nil, tup]
  exact Ent.shut (by repeat (first | with_reducible exact Takes.nil | (apply Takes.cons; focus (repeat (first | with_reducible exact Rem.here | apply Rem.there))))) (DRep.shut x hx)


theorem loose_d (d : Nat) (S : DS) : Fn Tryz.prog 112 [.pointer (some ⟨d, 0, none⟩)] [DRep d S] (fun v L => v = .int .i64 (S.loose.length : Int) ∧ L = [DRep d S]) := by
  refine fn_open (A := DRep d S) Rem.here (fun x hx => ?_)
  simp only [List.append_eq, List.cons_append, List.nil_append, List.append_nil, tup]
  refine (loose_fn d S.most S.pages x.lm x.nm x.la x.ws.length x.lc S.fuse S.burns).frame (by repeat (first | with_reducible exact Takes.nil | (apply Takes.cons; focus (repeat (first | with_reducible exact Rem.here | apply Rem.there))))) ?_
  rintro _ _ ⟨rfl, rfl⟩
  refine ⟨_, _, ⟨by rw [← hx.abs, List.length_map], rfl⟩, rfl, ?_⟩
  simp only [List.append_eq, List.cons_append, List.nil_append, List.append_nil, tup]
  exact Ent.shut (by repeat (first | with_reducible exact Takes.nil | (apply Takes.cons; focus (repeat (first | with_reducible exact Rem.here | apply Rem.there))))) (DRep.shut x hx)

theorem dead_d (d : Nat) (S : DS) : Fn Tryz.prog 65 [.pointer (some ⟨d, 0, none⟩)] [DRep d S] (fun v L => v = .bool S.dead ∧ L = [DRep d S]) := by
  refine fn_open (A := DRep d S) Rem.here (fun x hx => ?_)
  simp only [List.append_eq, List.cons_append, List.nil_append, List.append_nil, tup]
  refine (dead_fn d S.most S.pages x.lm x.nm x.la x.ws.length x.lc S.fuse S.burns).frame (by repeat (first | with_reducible exact Takes.nil | (apply Takes.cons; focus (repeat (first | with_reducible exact Rem.here | apply Rem.there))))) ?_
  rintro _ _ ⟨rfl, rfl⟩
  refine ⟨_, _, ⟨rfl, rfl⟩, rfl, ?_⟩
  simp only [List.append_eq, List.cons_append, List.nil_append, List.append_nil, tup]
  exact Ent.shut (by repeat (first | with_reducible exact Takes.nil | (apply Takes.cons; focus (repeat (first | with_reducible exact Rem.here | apply Rem.there))))) (DRep.shut x hx)

/-- An entailment at the function's end. -/
theorem grow_d (d : Nat) (S : DS) (n : Int) : Fn Tryz.prog 108 [.pointer (some ⟨d, 0, none⟩), .int .i64 n] [DRep d S]
    (fun v L => ∃ S' c, v = .int .i64 c ∧ L = [DRep d S'] ∧ (if S.most < n then c = 32 ∧ S' = S else if S.dead = true then c = 33 ∧ S' = S else c = 0 ∧ S' = { S with pages := max S.pages n })) := by
  refine fn_open (A := DRep d S) Rem.here (fun x hx => ?_)
  simp only [List.append_eq, List.cons_append, List.nil_append, List.append_nil, tup]
  refine fn_start Tryz.func108 rfl rfl rfl fun F => ?_
  by_cases h1 : S.most < n
  · refine c_seq ?_
    refine c_region ?_
    refine o_y (y_assign rfl) rfl ?_
    refine o_nil ?_
    refine f_seq ?_
    refine c_seq ?_
    refine c_seq ?_
    refine c_region ?_
    refine o_y (y_move rfl) rfl ?_
    refine o_y (y_move rfl) rfl ?_
    refine o_y (y_nilCheck rfl) rfl ?_
    refine o_y (y_fieldAddr0 rfl) rfl ?_
    refine o_y (y_load rfl rfl rfl) rfl ?_
    refine o_y (y_gtr_t rfl rfl (by omega)) rfl ?_
    refine o_nil ?_
    refine f_seq ?_
    refine c_true rfl ?_
    refine c_seq ?_
    refine c_region ?_
    refine o_y (y_assign rfl) rfl ?_
    refine o_nil ?_
    refine f_seq ?_
    refine c_ret ?_
    refine f_seq_ret ?_
    refine f_ent (Ent.shut (by repeat (first | with_reducible exact Takes.nil | (apply Takes.cons; focus (repeat (first | with_reducible exact Rem.here | apply Rem.there))))) (DRep.shut x hx)) (f_ret rfl ⟨S, 32, rfl, rfl, ?_⟩)
    rw [if_pos h1]; exact ⟨rfl, rfl⟩
  · refine c_seq ?_
    refine c_region ?_
    refine o_y (y_assign rfl) rfl ?_
    refine o_nil ?_
    refine f_seq ?_
    refine c_seq ?_
    refine c_seq ?_
    refine c_region ?_
    refine o_y (y_move rfl) rfl ?_
    refine o_y (y_move rfl) rfl ?_
    refine o_y (y_nilCheck rfl) rfl ?_
    refine o_y (y_fieldAddr0 rfl) rfl ?_
    refine o_y (y_load rfl rfl rfl) rfl ?_
    refine o_y (y_gtr_f rfl rfl (by omega)) rfl ?_
    refine o_nil ?_
    refine f_seq ?_
    refine c_false rfl ?_
    refine c_skip ?_
    refine f_seq ?_
    refine c_seq ?_
    refine c_seq ?_
    refine c_region ?_
    refine o_y (y_move rfl) rfl ?_
    refine o_call rfl (dead_fn d S.most S.pages x.lm x.nm x.la x.ws.length x.lc S.fuse S.burns) (by repeat (first | with_reducible exact Takes.nil | (apply Takes.cons; focus (repeat (first | with_reducible exact Rem.here | apply Rem.there))))) rfl ?_
    rintro _ _ ⟨rfl, rfl⟩
    simp only [List.append_eq, List.cons_append, List.nil_append, List.append_nil, tup]
    cases hb : (S.burns && decide (S.fuse = 0))
    · refine o_nil ?_
      refine f_seq ?_
      refine c_false rfl ?_
      refine c_skip ?_
      refine f_seq ?_
      refine c_seq ?_
      refine c_region ?_
      refine o_y (y_move rfl) rfl ?_
      refine o_y (y_move rfl) rfl ?_
      refine o_y (y_nilCheck rfl) rfl ?_
      refine o_y (y_fieldAddr0 rfl) rfl ?_
      refine o_y (y_load rfl rfl rfl) rfl ?_
      refine o_y (y_move rfl) rfl ?_
      refine o_y (y_max rfl rfl) rfl ?_
      refine o_y (y_nilCheck rfl) rfl ?_
      refine o_y (y_fieldAddr0 rfl) rfl ?_
      refine o_store rfl rfl rfl frz0 ?_
      refine o_nil ?_
      refine f_seq ?_
      refine c_seq ?_
      refine c_region ?_
      refine o_y (y_assign rfl) rfl ?_
      refine o_nil ?_
      refine f_seq ?_
      refine c_ret ?_
      refine f_ent (Ent.shut (by repeat (first | with_reducible exact Takes.nil | (apply Takes.cons; focus (repeat (first | with_reducible exact Rem.here | apply Rem.there))))) (DRep.shut (S := { S with pages := max S.pages n }) x hx)) (f_ret rfl ⟨_, 0, rfl, rfl, ?_⟩)
      rw [if_neg h1, if_neg (by simp [DS.dead, hb])]; exact ⟨rfl, rfl⟩
    · refine o_nil ?_
      refine f_seq ?_
      refine c_true rfl ?_
      refine c_seq ?_
      refine c_region ?_
      refine o_y (y_assign rfl) rfl ?_
      refine o_nil ?_
      refine f_seq ?_
      refine c_ret ?_
      refine f_seq_ret ?_
      refine f_ent (Ent.shut (by repeat (first | with_reducible exact Takes.nil | (apply Takes.cons; focus (repeat (first | with_reducible exact Rem.here | apply Rem.there))))) (DRep.shut x hx)) (f_ret rfl ⟨S, 33, rfl, rfl, ?_⟩)
      rw [if_neg h1, if_pos (by simp [DS.dead, hb])]; exact ⟨rfl, rfl⟩

end Go.Lun

/- The disk's Write, Read, Sync, Fuse, New. -/
namespace Go.Lun
open Go.Proofs

def DS.write (S : DS) (p : Int) (l : Bytes) : DS := { S with loose := S.loose ++ [(p, l)], now := upd S.now p l, fuse := S.fuse - 1 }

theorem pad_len (l : Bytes) : (pad l).length = 256 := by unfold pad; rw [List.length_append, List.length_take, List.length_replicate]; omega
theorem pad_full {l : Bytes} (h : l.length = 256) : pad l = l := by
  unfold pad; rw [List.take_of_length_le (by omega), h]; simp

theorem write_d (d : Nat) (S : DS) (page : Int) (b off k cap : Nat) (cs : List Value) (T : TypeId) (fz : Nat × Nat) (q : Bool) (l : Bytes) (hl : getN cs off k = some (l.map byteV))
    (hf : -9223372036854775808 < S.fuse) (hf' : S.fuse ≤ 9223372036854775807) (hn : S.loose.length ≤ 1000000) (hk : k ≤ 140737488355328) :
    Fn Tryz.prog 110 [.pointer (some ⟨d, 0, none⟩), .int .i64 page, .slice (some ⟨b, off, none⟩) k cap] [DRep d S, Bkp q b (.cells ⟨cs⟩ T fz)]
    (fun v L => ∃ S' c, v = .int .i64 c ∧ L = [DRep d S', Bkp q b (.cells ⟨cs⟩ T fz)] ∧
      (if ¬ S.has page then c = 30 ∧ S' = S else if l.length ≠ 256 then c = 31 ∧ S' = S else if S.dead = true then c = 33 ∧ S' = S else c = 0 ∧ S' = S.write page l)) := by
  have hlk : l.length = k := by have := getN_length hl; simpa using this
  refine fn_open (A := DRep d S) Rem.here (fun x hx => ?_)
  have hwl : x.ws.length = S.loose.length := by rw [← hx.abs, List.length_map]
  refine fn_open (A := PM x.nm S.now) (.there (.there .here)) (fun y hy => ?_)
  obtain ⟨es, ck⟩ := y
  simp only [List.append_eq, List.cons_append, List.nil_append, List.append_nil, tup]
  refine fn_start Tryz.func110 rfl rfl rfl fun F => ?_
  refine c_seq ?_
  refine c_region ?_
  refine o_y (y_assign rfl) rfl ?_
  refine o_nil ?_
  refine f_seq ?_
  refine c_seq ?_
  refine c_block ?_
  refine c_seq ?_
  refine c_region ?_
  refine o_y (y_move rfl) rfl ?_
  refine o_y (y_move rfl) rfl ?_
  refine o_call rfl (has_fn d S.most S.pages x.lm x.nm x.la x.ws.length x.lc S.fuse S.burns page) (by repeat (first | with_reducible exact Takes.nil | (apply Takes.cons; focus (repeat (first | with_reducible exact Rem.here | apply Rem.there))))) rfl ?_
  rintro _ _ ⟨rfl, rfl⟩
  simp only [List.append_eq, List.cons_append, List.nil_append, List.append_nil, tup]
  by_cases hp : S.has page
  case neg =>
    have hp' : decide (0 ≤ page ∧ page < S.pages) = false := by simpa [DS.has] using hp
    rw [hp']
    refine o_y (y_not rfl) rfl ?_
    refine o_y (y_assign rfl) rfl ?_
    refine o_nil ?_
    refine f_seq ?_
    refine c_true rfl ?_
    refine c_seq ?_
    refine c_region ?_
    refine o_y (y_assign rfl) rfl ?_
    refine o_nil ?_
    refine f_seq ?_
    refine c_ret ?_
    refine f_block_ret ?_
    refine f_seq_ret ?_
    refine f_ent ?_ (f_ret rfl ⟨S, 30, rfl, rfl, by rw [if_pos hp]; exact ⟨rfl, rfl⟩⟩)
    refine (Ent.shut (A := PM x.nm S.now) (by repeat (first | with_reducible exact Takes.nil | (apply Takes.cons; focus (repeat (first | with_reducible exact Rem.here | apply Rem.there))))) (PM.shut hy)).trans ?_
    refine Ent.put (by repeat (first | with_reducible exact Takes.nil | (apply Takes.cons; focus (repeat (first | with_reducible exact Rem.here | apply Rem.there))))) (DRep.shut x hx) ?_
    repeat (first | with_reducible exact Ent.nil | (apply Ent.one; focus (repeat (first | with_reducible exact Rem.here | apply Rem.there))))
  case pos =>
    have hp' : decide (0 ≤ page ∧ page < S.pages) = true := by simpa [DS.has] using hp
    rw [hp']
    by_cases h256 : l.length ≠ 256
    · refine o_y (y_not rfl) rfl ?_
      refine o_y (y_assign rfl) rfl ?_
      refine o_nil ?_
      refine f_seq ?_
      refine c_false rfl ?_
      refine c_seq ?_
      refine c_region ?_
      refine o_y (y_move rfl) rfl ?_
      refine o_y (y_len_slice rfl) rfl ?_
      refine o_y (y_neq_t rfl rfl (by omega)) rfl ?_
      refine o_y (y_assign rfl) rfl ?_
      refine o_nil ?_
      refine f_seq ?_
      refine c_true rfl ?_
      refine c_seq ?_
      refine c_region ?_
      refine o_y (y_assign rfl) rfl ?_
      refine o_nil ?_
      refine f_seq ?_
      refine c_ret ?_
      refine f_block_ret ?_
      refine f_seq_ret ?_
      refine f_ent ?_ (f_ret rfl ⟨S, 31, rfl, rfl, by rw [if_neg (not_not_intro hp), if_pos h256]; exact ⟨rfl, rfl⟩⟩)
      refine (Ent.shut (A := PM x.nm S.now) (by repeat (first | with_reducible exact Takes.nil | (apply Takes.cons; focus (repeat (first | with_reducible exact Rem.here | apply Rem.there))))) (PM.shut hy)).trans ?_
      refine Ent.put (by repeat (first | with_reducible exact Takes.nil | (apply Takes.cons; focus (repeat (first | with_reducible exact Rem.here | apply Rem.there))))) (DRep.shut x hx) ?_
      repeat (first | with_reducible exact Ent.nil | (apply Ent.one; focus (repeat (first | with_reducible exact Rem.here | apply Rem.there))))
    have h256' : l.length = 256 := Decidable.not_not.1 h256
    refine o_y (y_not rfl) rfl ?_
    refine o_y (y_assign rfl) rfl ?_
    refine o_nil ?_
    refine f_seq ?_
    refine c_false rfl ?_
    refine c_seq ?_
    refine c_region ?_
    refine o_y (y_move rfl) rfl ?_
    refine o_y (y_len_slice rfl) rfl ?_
    refine o_y (y_neq_f rfl rfl (by omega)) rfl ?_
    refine o_y (y_assign rfl) rfl ?_
    refine o_nil ?_
    refine f_seq ?_
    refine c_false rfl ?_
    refine c_seq ?_
    refine c_region ?_
    refine o_y (y_move rfl) rfl ?_
    refine o_call rfl (alive_fn d S.most S.pages x.lm x.nm x.la x.ws.length x.lc S.fuse S.burns hf hf') (by repeat (first | with_reducible exact Takes.nil | (apply Takes.cons; focus (repeat (first | with_reducible exact Rem.here | apply Rem.there))))) rfl ?_
    rintro _ _ ⟨rfl, rfl⟩
    simp only [List.append_eq, List.cons_append, List.nil_append, List.append_nil, tup]
    cases hb : (S.burns && decide (S.fuse = 0))
    case true =>
      simp only [if_true]
      refine o_y (y_not rfl) rfl ?_
      refine o_y (y_assign rfl) rfl ?_
      refine o_nil ?_
      refine f_seq ?_
      refine c_true rfl ?_
      refine c_seq ?_
      refine c_region ?_
      refine o_y (y_assign rfl) rfl ?_
      refine o_nil ?_
      refine f_seq ?_
      refine c_ret ?_
      refine f_block_ret ?_
      refine f_seq_ret ?_
      refine f_ent ?_ (f_ret rfl ⟨S, 33, rfl, rfl, by rw [if_neg (not_not_intro hp), if_neg h256, if_pos (by simp [DS.dead, hb])]; exact ⟨rfl, rfl⟩⟩)
      refine (Ent.shut (A := PM x.nm S.now) (by repeat (first | with_reducible exact Takes.nil | (apply Takes.cons; focus (repeat (first | with_reducible exact Rem.here | apply Rem.there))))) (PM.shut hy)).trans ?_
      refine Ent.put (by repeat (first | with_reducible exact Takes.nil | (apply Takes.cons; focus (repeat (first | with_reducible exact Rem.here | apply Rem.there))))) (DRep.shut x hx) ?_
      repeat (first | with_reducible exact Ent.nil | (apply Ent.one; focus (repeat (first | with_reducible exact Rem.here | apply Rem.there))))
    case false =>
      simp only [Bool.false_eq_true, if_false]
      refine o_y (y_not rfl) rfl ?_
      refine o_y (y_assign rfl) rfl ?_
      refine o_nil ?_
      refine f_seq ?_
      refine c_false rfl ?_
      refine c_skip ?_
      refine f_block ?_
      refine f_seq ?_
      refine c_seq ?_
      refine pl_start [7, 9, 10, 13] Tryz.mixed ?_; intro hd
      refine pl_lock (A := Blk _ _) Rem.here rfl ?_ hd; intro hb0
      refine pl_take (i := 0) rfl (by kernel_rfl) (y_move rfl) ?_ hd; clear hd; intro hd
      refine pl_take (i := 1) rfl (by kernel_rfl) (y_move rfl) ?_ hd; clear hd; intro hd
      refine pl_take (i := 2) rfl (by kernel_rfl) (y_nilCheck rfl) ?_ hd; clear hd; intro hd
      refine pl_take (i := 3) rfl (by kernel_rfl) (y_fieldAddr0 rfl) ?_ hd; clear hd; intro hd
      refine pl_take (i := 4) rfl (by kernel_rfl) (y_load rfl rfl rfl) ?_ hd; clear hd; intro hd
      refine pl_take (i := 5) rfl (by kernel_rfl) (y_move rfl) ?_ hd; clear hd; intro hd
      refine pl_take (i := 6) rfl (by kernel_rfl) (y_move rfl) ?_ hd; clear hd; intro hd
      refine pl_sole (i := 7) (by kernel_rfl) rfl ?_ hd; clear hd; intro hd
      refine o_call rfl (copied_at q b off k cap cs T fz l hl) (by repeat (first | with_reducible exact Takes.nil | (apply Takes.cons; focus (repeat (first | with_reducible exact Rem.here | apply Rem.there))))) rfl ?_
      rintro _ _ ⟨b1, rfl, rfl⟩
      simp only [List.append_eq, List.cons_append, List.nil_append, List.append_nil, tup]
      refine pl_back (by repeat (first | with_reducible exact Owes.nil | with_reducible refine Owes.same ?_ | with_reducible refine Owes.any ?_ | refine Owes.waived 7 (by kernel_rfl) ?_)) ?_ hd; clear hd; intro hd
      refine pl_take (i := 8) rfl (by kernel_rfl) (y_build rfl) ?_ hd; clear hd; intro hd
      refine pl_sole (i := 9) (by kernel_rfl) rfl ?_ hd; clear hd; intro hd
      refine o_buildSlice rfl rfl rfl rfl rfl (fun nb => ?_)
      refine pl_back (by repeat (first | with_reducible exact Owes.nil | with_reducible refine Owes.same ?_ | with_reducible refine Owes.any ?_ | refine Owes.waived 9 (by kernel_rfl) ?_ | refine Owes.waived 7 (by kernel_rfl) ?_)) ?_ hd; clear hd; intro hd
      refine pl_sole (i := 10) (by kernel_rfl) rfl ?_ hd; clear hd; intro hd
      refine o_append (k := 1) (ys := [.int .i64 page, pageV b1]) rfl rfl (Src.slice rfl) (by repeat (first | with_reducible exact Rem.here | apply Rem.there)) (by simp [pageV, Value.oneCell']) (by omega) rfl (by omega) rfl (fun a' cap' => ?_)
      refine pl_back (by repeat (first | with_reducible exact Owes.nil | with_reducible refine Owes.same ?_ | with_reducible refine Owes.any ?_ | refine Owes.waived 10 (by kernel_rfl) ?_ | refine Owes.waived 9 (by kernel_rfl) ?_ | refine Owes.waived 7 (by kernel_rfl) ?_)) ?_ hd; clear hd; intro hd
      refine pl_take (i := 11) rfl (by kernel_rfl) (y_nilCheck rfl) ?_ hd; clear hd; intro hd
      refine pl_take (i := 12) rfl (by kernel_rfl) (y_fieldAddr0 rfl) ?_ hd; clear hd; intro hd
      refine pl_sole (i := 13) (by kernel_rfl) rfl ?_ hd; clear hd; intro hd
      refine o_unlock (A := Blk _ _) ?_
      refine o_store rfl rfl rfl frz0 ?_
      refine pl_back (by repeat (first | with_reducible exact Owes.nil | with_reducible refine Owes.same ?_ | with_reducible refine Owes.any ?_ | refine Owes.waived 13 (by kernel_rfl) ?_ | refine Owes.waived 10 (by kernel_rfl) ?_ | refine Owes.waived 9 (by kernel_rfl) ?_ | refine Owes.waived 7 (by kernel_rfl) ?_)) ?_ hd; clear hd; intro hd
      refine pl_done (by kernel_rfl) ?_ hd
      refine f_seq ?_
      refine c_seq ?_
      refine pl_start [6, 7] Tryz.mixed ?_; intro hd
      refine pl_lock (A := Blk _ _) Rem.here rfl ?_ hd; intro hb0
      refine pl_take (i := 0) rfl (by kernel_rfl) (y_move rfl) ?_ hd; clear hd; intro hd
      refine pl_take (i := 1) rfl (by kernel_rfl) (y_nilCheck rfl) ?_ hd; clear hd; intro hd
      refine pl_take (i := 2) rfl (by kernel_rfl) (y_fieldAddr0 rfl) ?_ hd; clear hd; intro hd
      refine pl_take (i := 3) rfl (by kernel_rfl) (y_load rfl rfl rfl) ?_ hd; clear hd; intro hd
      refine pl_take (i := 4) rfl (by kernel_rfl) (y_move rfl) ?_ hd; clear hd; intro hd
      refine pl_take (i := 5) rfl (by kernel_rfl) (y_move rfl) ?_ hd; clear hd; intro hd
      refine pl_sole (i := 6) (by kernel_rfl) rfl ?_ hd; clear hd; intro hd
      refine o_call rfl (copied_at q b off k cap cs T fz l hl) (by repeat (first | with_reducible exact Takes.nil | (apply Takes.cons; focus (repeat (first | with_reducible exact Rem.here | apply Rem.there))))) rfl ?_
      rintro _ _ ⟨b2, rfl, rfl⟩
      simp only [List.append_eq, List.cons_append, List.nil_append, List.append_nil, tup]
      refine pl_back (by repeat (first | with_reducible exact Owes.nil | with_reducible refine Owes.same ?_ | with_reducible refine Owes.any ?_ | refine Owes.waived 6 (by kernel_rfl) ?_)) ?_ hd; clear hd; intro hd
      refine pl_sole (i := 7) (by kernel_rfl) rfl ?_ hd; clear hd; intro hd
      refine o_mapUpdate (es := es.map PE.ent) (v := pageV b2) rfl rfl rfl ?_
      refine pl_back (by repeat (first | with_reducible exact Owes.nil | with_reducible refine Owes.same ?_ | with_reducible refine Owes.any ?_ | refine Owes.waived 7 (by kernel_rfl) ?_ | refine Owes.waived 6 (by kernel_rfl) ?_)) ?_ hd; clear hd; intro hd
      refine pl_done (by kernel_rfl) ?_ hd
      refine f_unlock (A := Blk _ _) ?_
      refine f_seq ?_
      refine c_seq ?_
      refine c_region ?_
      refine o_y (y_assign rfl) rfl ?_
      refine o_nil ?_
      refine f_seq ?_
      refine c_ret ?_
      rw [pad_full h256']
      obtain ⟨es', ck', h1, h2, h3⟩ := hy.put page b2 l h256'
      rw [h1]
      refine f_ent ?_ (f_ret rfl ⟨S.write page l, 0, rfl, rfl, by rw [if_neg (not_not_intro hp), if_neg h256, if_neg (by simp [DS.dead, hb])]; exact ⟨rfl, rfl⟩⟩)
      refine (Takes.ent_of (by repeat (first | with_reducible exact Takes.nil | (apply Takes.cons; focus (repeat (first | with_reducible exact Rem.here | apply Rem.there))))) h3).trans ?_
      simp only [List.append_eq, List.cons_append, List.nil_append, List.append_nil, tup]
      refine (Ent.shut (A := PM x.nm (upd S.now page l)) (by repeat (first | with_reducible exact Takes.nil | (apply Takes.cons; focus (repeat (first | with_reducible exact Rem.here | apply Rem.there))))) (PM.shut h2)).trans ?_
      refine (Ent.shut (A := Star ((x.ws ++ [WE.mk page b1 l]).map WE.asrt)) (P := [Star (x.ws.map WE.asrt), Blk b1 (bobj l)]) (by repeat (first | with_reducible exact Takes.nil | (apply Takes.cons; focus (repeat (first | with_reducible exact Rem.here | apply Rem.there))))) ?_).trans ?_
      · intro r hr
        rw [List.map_append]
        exact Ent.open_star r hr
      refine Ent.put (by repeat (first | with_reducible exact Takes.nil | (apply Takes.cons; focus (repeat (first | with_reducible exact Rem.here | apply Rem.there))))) (DRep.mk (S := S.write page l) (x.ws ++ [WE.mk page b1 l]) ⟨?_, ?_⟩ ?_ ?_ ?_) ?_
      · simp [DS.write, WE.abs, ← hx.abs]
      · intro w hw
        rcases List.mem_append.1 hw with hw | hw
        · exact hx.len w hw
        · rw [List.mem_singleton] at hw; subst hw; exact h256'
      · exact ⟨rfl, rfl, rfl, rfl, rfl, rfl⟩
      · simp
      · simp [wcells]
      repeat (first | with_reducible exact Ent.nil | (apply Ent.one; focus (repeat (first | with_reducible exact Rem.here | apply Rem.there))))
end Go.Lun

/- The disk's Read, Fuse, done, New. -/
namespace Go.Lun
open Go.Proofs

theorem pm_clear (m ck : Nat) : ∀ r, sep [Blk m (.map #[] ck)] r → PM m (fun _ => none) r := fun r hr => ⟨[], ck, PMok.clear, by
  obtain ⟨a, b, hc, rfl, h1, h2⟩ := hr
  exact ⟨a, b, hc, rfl, h1, sep_single trivial⟩⟩
theorem pm_new (m : Nat) : ∀ r, sep [Blk m (.map #[] 0)] r → PM m (fun _ => none) r := pm_clear m 0

theorem done_f (d : Nat) (most pages fuse : Int) (lm nm ln lc : Nat) (la : Option Addr) (burns : Bool) (now : Int → Option Bytes) :
    Fn Tryz.prog 152 [.pointer (some ⟨d, 0, none⟩)] [Blk d (dobj most pages lm (.slice la ln lc) nm fuse burns), PM nm now]
    (fun v L => v = .tuple ⟨[]⟩ ∧ L = [Blk d (dobj most pages lm (.slice none 0 0) nm fuse burns), PM nm fun _ => none]) := by
  refine fn_open (A := PM nm now) (.there .here) (fun y hy => ?_)
  obtain ⟨es, ck⟩ := y
  simp only [List.append_eq, List.cons_append, List.nil_append, List.append_nil, tup]
  refine fn_start Tryz.func152 rfl rfl rfl fun F => ?_
  refine c_seq ?_
  refine c_region ?_
  refine o_y (y_move rfl) rfl ?_
  refine o_y (y_nilCheck rfl) rfl ?_
  refine o_y (y_fieldAddr0 rfl) rfl ?_
  refine o_y (y_load rfl rfl rfl) rfl ?_
  refine o_clear rfl rfl ?_
  refine o_nil ?_
  refine f_seq ?_
  refine c_region ?_
  refine o_y (y_move rfl) rfl ?_
  refine o_y (y_nilCheck rfl) rfl ?_
  refine o_y (y_fieldAddr0 rfl) rfl ?_
  refine o_store rfl rfl rfl frz0 ?_
  refine o_nil ?_
  refine f_ent ?_ (f_end rfl ⟨rfl, rfl⟩)
  refine Ent.one (by repeat (first | with_reducible exact Rem.here | apply Rem.there)) ?_
  refine Ent.put (P := [Blk nm (.map #[] ck)]) (by repeat (first | with_reducible exact Takes.nil | (apply Takes.cons; focus (repeat (first | with_reducible exact Rem.here | apply Rem.there))))) (fun r hr => ⟨[], ck, PMok.clear, ?_⟩) Ent.nil
  obtain ⟨a, b, hc, rfl, h1, h2⟩ := hr
  exact ⟨a, b, hc, rfl, h1, sep_single trivial⟩

def DS.new (most : Int) : DS := { most := most, pages := 0, last := fun _ => none, now := fun _ => none, loose := [], fuse := 0, burns := false }

theorem new_d (most : Int) : Fn Tryz.prog 55 [.int .i64 most] []
    (fun v L => (¬ (1 ≤ most ∧ most ≤ 4096) ∧ v = .tuple ⟨[.pointer none, .int .i64 32]⟩ ∧ L = []) ∨ ((1 ≤ most ∧ most ≤ 4096) ∧ ∃ d, v = .tuple ⟨[.pointer (some ⟨d, 0, none⟩), .int .i64 0]⟩ ∧ L = [DRep d (DS.new most)])) := by
  refine fn_start Tryz.func55 rfl rfl rfl fun F => ?_
  by_cases h1 : most < 1
  · refine c_seq ?_
    refine c_region ?_
    refine o_y (y_assign rfl) rfl ?_
    refine o_y (y_assign rfl) rfl ?_
    refine o_nil ?_
    refine f_seq ?_
    refine c_seq ?_
    refine c_seq ?_
    refine c_region ?_
    refine o_y (y_move rfl) rfl ?_
    refine o_y (y_lss_t rfl rfl (by omega)) rfl ?_
    refine o_y (y_move rfl) rfl ?_
    refine o_skip rfl rfl ?_
    refine o_skip rfl rfl ?_
    refine o_y (y_pick_t rfl rfl) rfl ?_
    refine o_nil ?_
    refine f_seq ?_
    refine c_true rfl ?_
    refine c_seq ?_
    refine c_region ?_
    refine o_y (y_assign rfl) rfl ?_
    refine o_y (y_assign rfl) rfl ?_
    refine o_nil ?_
    refine f_seq ?_
    refine c_ret ?_
    refine f_seq_ret ?_
    exact f_ret rfl (.inl ⟨by omega, rfl, rfl⟩)
  · by_cases h2 : most > 4096
    · refine c_seq ?_
      refine c_region ?_
      refine o_y (y_assign rfl) rfl ?_
      refine o_y (y_assign rfl) rfl ?_
      refine o_nil ?_
      refine f_seq ?_
      refine c_seq ?_
      refine c_seq ?_
      refine c_region ?_
      refine o_y (y_move rfl) rfl ?_
      refine o_y (y_lss_f rfl rfl (by omega)) rfl ?_
      refine o_y (y_move rfl) rfl ?_
      refine o_want rfl ?_
      refine o_y (y_move rfl) rfl ?_
      refine o_want rfl ?_
      refine o_y (y_gtr_t rfl rfl (by omega)) rfl ?_
      refine o_y (y_pick_f rfl rfl) rfl ?_
      refine o_nil ?_
      refine f_seq ?_
      refine c_true rfl ?_
      refine c_seq ?_
      refine c_region ?_
      refine o_y (y_assign rfl) rfl ?_
      refine o_y (y_assign rfl) rfl ?_
      refine o_nil ?_
      refine f_seq ?_
      refine c_ret ?_
      refine f_seq_ret ?_
      exact f_ret rfl (.inl ⟨by omega, rfl, rfl⟩)
    · refine c_seq ?_
      refine c_region ?_
      refine o_y (y_assign rfl) rfl ?_
      refine o_y (y_assign rfl) rfl ?_
      refine o_nil ?_
      refine f_seq ?_
      refine c_seq ?_
      refine c_seq ?_
      refine c_region ?_
      refine o_y (y_move rfl) rfl ?_
      refine o_y (y_lss_f rfl rfl (by omega)) rfl ?_
      refine o_y (y_move rfl) rfl ?_
      refine o_want rfl ?_
      refine o_y (y_move rfl) rfl ?_
      refine o_want rfl ?_
      refine o_y (y_gtr_f rfl rfl (by omega)) rfl ?_
      refine o_y (y_pick_f rfl rfl) rfl ?_
      refine o_nil ?_
      refine f_seq ?_
      refine c_false rfl ?_
      refine c_skip ?_
      refine f_seq ?_
      refine c_seq ?_
      refine c_region ?_
      refine o_y (y_move rfl) rfl ?_
      refine o_makeMap rfl (fun nb => ?_)
      refine o_makeMap rfl (fun nb => ?_)
      refine o_y (y_build rfl) rfl ?_
      refine o_box rfl rfl (fun nb => ?_)
      refine o_y (y_assign rfl) rfl ?_
      refine o_y (y_assign rfl) rfl ?_
      refine o_nil ?_
      refine f_seq ?_
      refine c_ret ?_
      refine f_ent ?_ (f_ret rfl (.inr ⟨by omega, _, rfl, rfl⟩))
      rename_i n1 n2
      refine Ent.trans (M := [Blk nb (dobj most 0 n1 (.slice none 0 0) n2 0 false), PM n1 (fun _ => none), PM n2 (fun _ => none), Sl 242 2 none 0 0 [], Star (([] : List WE).map WE.asrt)]) ?_ (Ent.put (by repeat (first | with_reducible exact Takes.nil | (apply Takes.cons; focus (repeat (first | with_reducible exact Rem.here | apply Rem.there))))) (DRep.mk (S := DS.new most) [] ⟨rfl, by simp⟩ ?_ ?_ ?_) Ent.nil)
      rotate_left
      · exact ⟨rfl, rfl, rfl, rfl, rfl, rfl⟩
      · rfl
      · rfl
      refine Ent.one (by repeat (first | with_reducible exact Rem.here | apply Rem.there)) ?_
      refine Ent.put (by repeat (first | with_reducible exact Takes.nil | (apply Takes.cons; focus (repeat (first | with_reducible exact Rem.here | apply Rem.there))))) (pm_new n1) ?_
      refine Ent.put (by repeat (first | with_reducible exact Takes.nil | (apply Takes.cons; focus (repeat (first | with_reducible exact Rem.here | apply Rem.there))))) (pm_new n2) ?_
      refine Ent.put (P := []) (by repeat (first | with_reducible exact Takes.nil | (apply Takes.cons; focus (repeat (first | with_reducible exact Rem.here | apply Rem.there))))) (fun r _ => ⟨rfl, .inl ⟨rfl, rfl, rfl⟩⟩) ?_
      exact Ent.put (P := []) (by repeat (first | with_reducible exact Takes.nil | (apply Takes.cons; focus (repeat (first | with_reducible exact Rem.here | apply Rem.there))))) (fun r _ => trivial) Ent.nil

def DS.read (S : DS) (p : Int) : Bytes := match S.now p with
  | some l => l
  | none => (S.last p).getD (List.replicate 256 0)

theorem read_d (d : Nat) (S : DS) (page : Int) : Fn Tryz.prog 67 [.pointer (some ⟨d, 0, none⟩), .int .i64 page] [DRep d S]
    (fun v L => (¬ S.has page ∧ v = .tuple ⟨[.slice none 0 0, .int .i64 30]⟩ ∧ L = [DRep d S]) ∨ (S.has page ∧ ∃ b, v = .tuple ⟨[pageV b, .int .i64 0]⟩ ∧ L = [Blk b (bobj (S.read page)), DRep d S] ∧ (S.read page).length = 256)) := by
  refine fn_open (A := DRep d S) Rem.here (fun x hx => ?_)
  refine fn_open (A := PM x.nm S.now) (.there (.there .here)) (fun y hy => ?_)
  obtain ⟨es, ck⟩ := y
  refine fn_open (A := PM x.lm S.last) (.there (.there (.there .here))) (fun y hz => ?_)
  obtain ⟨fs, ck2⟩ := y
  simp only [List.append_eq, List.cons_append, List.nil_append, List.append_nil, tup]
  refine fn_start Tryz.func67 rfl rfl rfl fun F => ?_
  refine c_seq ?_
  refine c_region ?_
  refine o_y (y_assign rfl) rfl ?_
  refine o_y (y_assign rfl) rfl ?_
  refine o_nil ?_
  refine f_seq ?_
  refine c_seq ?_
  refine c_seq ?_
  refine c_region ?_
  refine o_y (y_move rfl) rfl ?_
  refine o_y (y_move rfl) rfl ?_
  refine o_call rfl (has_fn d S.most S.pages x.lm x.nm x.la x.ws.length x.lc S.fuse S.burns page) (by repeat (first | with_reducible exact Takes.nil | (apply Takes.cons; focus (repeat (first | with_reducible exact Rem.here | apply Rem.there))))) rfl ?_
  rintro _ _ ⟨rfl, rfl⟩
  simp only [List.append_eq, List.cons_append, List.nil_append, List.append_nil, tup]
  by_cases hp : S.has page
  case neg =>
    have hp' : decide (0 ≤ page ∧ page < S.pages) = false := by simpa [DS.has] using hp
    rw [hp']
    refine o_y (y_not rfl) rfl ?_
    refine o_nil ?_
    refine f_seq ?_
    refine c_true rfl ?_
    refine c_seq ?_
    refine c_region ?_
    refine o_y (y_assign rfl) rfl ?_
    refine o_y (y_assign rfl) rfl ?_
    refine o_nil ?_
    refine f_seq ?_
    refine c_ret ?_
    refine f_seq_ret ?_
    refine f_ent ?_ (f_ret rfl (.inl ⟨hp, rfl, rfl⟩))
    refine (Ent.shut (A := PM x.nm S.now) (by repeat (first | with_reducible exact Takes.nil | (apply Takes.cons; focus (repeat (first | with_reducible exact Rem.here | apply Rem.there))))) (PM.shut hy)).trans ?_
    refine (Ent.shut (A := PM x.lm S.last) (by repeat (first | with_reducible exact Takes.nil | (apply Takes.cons; focus (repeat (first | with_reducible exact Rem.here | apply Rem.there))))) (PM.shut hz)).trans ?_
    refine Ent.put (by repeat (first | with_reducible exact Takes.nil | (apply Takes.cons; focus (repeat (first | with_reducible exact Rem.here | apply Rem.there))))) (DRep.shut x hx) ?_
    repeat (first | with_reducible exact Ent.nil | (apply Ent.one; focus (repeat (first | with_reducible exact Rem.here | apply Rem.there))))
  case pos =>
    have hp' : decide (0 ≤ page ∧ page < S.pages) = true := by simpa [DS.has] using hp
    rw [hp']
    cases hf : pfind es page
    case some e =>
      have hm : mget (es.map PE.ent) page = some (pageV e.blk) := by rw [mget_pe, hf]; rfl
      have hb : e.bs.length = 256 := hy.len e (pfind_some hf).1
      have hr : S.read page = e.bs := by have := hy.get page; simp only [hf, Option.map_some] at this; simp [DS.read, ← this]
      refine o_y (y_not rfl) rfl ?_
      refine o_nil ?_
      refine f_seq ?_
      refine c_false rfl ?_
      refine c_skip ?_
      refine f_seq ?_
      refine c_seq ?_
      refine c_seq ?_
      refine c_region ?_
      refine o_y (y_move rfl) rfl ?_
      refine o_y (y_nilCheck rfl) rfl ?_
      refine o_y (y_fieldAddr0 rfl) rfl ?_
      refine o_y (y_load rfl rfl rfl) rfl ?_
      refine o_y (y_move rfl) rfl ?_
      refine o_y (y_lookup_okv rfl rfl (by assumption)) rfl ?_
      refine o_y (y_move rfl) rfl ?_
      refine o_y (y_extract rfl rfl) rfl ?_
      refine o_y (y_extract rfl rfl) rfl ?_
      refine o_y (y_assign rfl) rfl ?_
      refine o_y (y_assign rfl) rfl ?_
      refine o_nil ?_
      refine f_seq ?_
      refine c_seq ?_
      refine c_region ?_
      refine o_y (y_move rfl) rfl ?_
      refine o_nil ?_
      refine f_seq ?_
      refine c_true rfl ?_
      refine c_seq ?_
      refine c_region ?_
      refine o_y (y_move rfl) rfl ?_
      obtain ⟨rs, hsh, hbk, _⟩ := pe_open hf
      refine o_ent (Takes.ent_of (by repeat (first | with_reducible exact Takes.nil | (apply Takes.cons; focus (repeat (first | with_reducible exact Rem.here | apply Rem.there))))) hsh) ?_
      simp only [List.append_eq, List.cons_append, List.nil_append, List.append_nil, tup]
      refine o_call rfl (copied_at true e.blk 0 256 256 (e.bs.map byteV) 5 (0, 0) e.bs (by have := getN_front (e.bs.map byteV) []; simpa [hb] using this)) (by repeat (first | with_reducible exact Takes.nil | (apply Takes.cons; focus (repeat (first | with_reducible exact Rem.here | apply Rem.there))))) rfl ?_
      rintro _ _ ⟨b, rfl, rfl⟩
      simp only [List.append_eq, List.cons_append, List.nil_append, List.append_nil, tup]
      refine o_y (y_assign rfl) rfl ?_
      refine o_y (y_assign rfl) rfl ?_
      refine o_nil ?_
      refine f_seq ?_
      refine c_ret ?_
      refine f_seq_ret ?_
      refine f_ent ?_ (f_ret rfl (.inr ⟨hp, b, rfl, rfl, by rw [hr, hb]⟩))
      rw [hr, pad_full hb]
      refine Ent.one (by repeat (first | with_reducible exact Rem.here | apply Rem.there)) ?_
      refine (Takes.ent_of (by repeat (first | with_reducible exact Takes.nil | (apply Takes.cons; focus (repeat (first | with_reducible exact Rem.here | apply Rem.there))))) hbk).trans ?_
      simp only [List.append_eq, List.cons_append, List.nil_append, List.append_nil, tup]
      refine (Ent.shut (A := PM x.nm S.now) (by repeat (first | with_reducible exact Takes.nil | (apply Takes.cons; focus (repeat (first | with_reducible exact Rem.here | apply Rem.there))))) (PM.shut hy)).trans ?_
      refine (Ent.shut (A := PM x.lm S.last) (by repeat (first | with_reducible exact Takes.nil | (apply Takes.cons; focus (repeat (first | with_reducible exact Rem.here | apply Rem.there))))) (PM.shut hz)).trans ?_
      refine Ent.put (by repeat (first | with_reducible exact Takes.nil | (apply Takes.cons; focus (repeat (first | with_reducible exact Rem.here | apply Rem.there))))) (DRep.shut x hx) ?_
      repeat (first | with_reducible exact Ent.nil | (apply Ent.one; focus (repeat (first | with_reducible exact Rem.here | apply Rem.there))))
    case none =>
      have hm : mget (es.map PE.ent) page = none := by rw [mget_pe, hf]; rfl
      have hn : S.now page = none := by have := hy.get page; simp only [hf, Option.map_none] at this; exact this.symm
      cases hg : pfind fs page
      case some e =>
        have hm2 : mget (fs.map PE.ent) page = some (pageV e.blk) := by rw [mget_pe, hg]; rfl
        have hb : e.bs.length = 256 := hz.len e (pfind_some hg).1
        have hr : S.read page = e.bs := by have := hz.get page; simp only [hg, Option.map_some] at this; simp [DS.read, hn, ← this]
        refine o_y (y_not rfl) rfl ?_
        refine o_nil ?_
        refine f_seq ?_
        refine c_false rfl ?_
        refine c_skip ?_
        refine f_seq ?_
        refine c_seq ?_
        refine c_seq ?_
        refine c_region ?_
        refine o_y (y_move rfl) rfl ?_
        refine o_y (y_nilCheck rfl) rfl ?_
        refine o_y (y_fieldAddr0 rfl) rfl ?_
        refine o_y (y_load rfl rfl rfl) rfl ?_
        refine o_y (y_move rfl) rfl ?_
        refine o_y (y_lookup_okz rfl rfl (by assumption)) rfl ?_
        refine o_y (y_move rfl) rfl ?_
        refine o_y (y_extract rfl rfl) rfl ?_
        refine o_y (y_extract rfl rfl) rfl ?_
        refine o_y (y_assign rfl) rfl ?_
        refine o_y (y_assign rfl) rfl ?_
        refine o_nil ?_
        refine f_seq ?_
        refine c_seq ?_
        refine c_region ?_
        refine o_y (y_move rfl) rfl ?_
        refine o_nil ?_
        refine f_seq ?_
        refine c_false rfl ?_
        refine c_skip ?_
        refine f_seq ?_
        refine c_seq ?_
        refine c_region ?_
        refine o_y (y_move rfl) rfl ?_
        refine o_y (y_nilCheck rfl) rfl ?_
        refine o_y (y_fieldAddr0 rfl) rfl ?_
        refine o_y (y_load rfl rfl rfl) rfl ?_
        refine o_y (y_move rfl) rfl ?_
        refine o_y (y_lookup_v rfl rfl (by assumption)) rfl ?_
        obtain ⟨rs, hsh, hbk, _⟩ := pe_open hg
        refine o_ent (Takes.ent_of (by repeat (first | with_reducible exact Takes.nil | (apply Takes.cons; focus (repeat (first | with_reducible exact Rem.here | apply Rem.there))))) hsh) ?_
        simp only [List.append_eq, List.cons_append, List.nil_append, List.append_nil, tup]
        refine o_call rfl (copied_at true e.blk 0 256 256 (e.bs.map byteV) 5 (0, 0) e.bs (by have := getN_front (e.bs.map byteV) []; simpa [hb] using this)) (by repeat (first | with_reducible exact Takes.nil | (apply Takes.cons; focus (repeat (first | with_reducible exact Rem.here | apply Rem.there))))) rfl ?_
        rintro _ _ ⟨b, rfl, rfl⟩
        simp only [List.append_eq, List.cons_append, List.nil_append, List.append_nil, tup]
        refine o_y (y_assign rfl) rfl ?_
        refine o_y (y_assign rfl) rfl ?_
        refine o_nil ?_
        refine f_seq ?_
        refine c_ret ?_
        refine f_ent ?_ (f_ret rfl (.inr ⟨hp, b, rfl, rfl, by rw [hr, hb]⟩))
        rw [hr, pad_full hb]
        refine Ent.one (by repeat (first | with_reducible exact Rem.here | apply Rem.there)) ?_
        refine (Takes.ent_of (by repeat (first | with_reducible exact Takes.nil | (apply Takes.cons; focus (repeat (first | with_reducible exact Rem.here | apply Rem.there))))) hbk).trans ?_
        simp only [List.append_eq, List.cons_append, List.nil_append, List.append_nil, tup]
        refine (Ent.shut (A := PM x.nm S.now) (by repeat (first | with_reducible exact Takes.nil | (apply Takes.cons; focus (repeat (first | with_reducible exact Rem.here | apply Rem.there))))) (PM.shut hy)).trans ?_
        refine (Ent.shut (A := PM x.lm S.last) (by repeat (first | with_reducible exact Takes.nil | (apply Takes.cons; focus (repeat (first | with_reducible exact Rem.here | apply Rem.there))))) (PM.shut hz)).trans ?_
        refine Ent.put (by repeat (first | with_reducible exact Takes.nil | (apply Takes.cons; focus (repeat (first | with_reducible exact Rem.here | apply Rem.there))))) (DRep.shut x hx) ?_
        repeat (first | with_reducible exact Ent.nil | (apply Ent.one; focus (repeat (first | with_reducible exact Rem.here | apply Rem.there))))
      case none =>
        have hm2 : mget (fs.map PE.ent) page = none := by rw [mget_pe, hg]; rfl
        have hr : S.read page = pad [] := by have := hz.get page; simp only [hg, Option.map_none] at this; simp only [DS.read, hn, ← this, Option.getD_none]; rfl
        refine o_y (y_not rfl) rfl ?_
        refine o_nil ?_
        refine f_seq ?_
        refine c_false rfl ?_
        refine c_skip ?_
        refine f_seq ?_
        refine c_seq ?_
        refine c_seq ?_
        refine c_region ?_
        refine o_y (y_move rfl) rfl ?_
        refine o_y (y_nilCheck rfl) rfl ?_
        refine o_y (y_fieldAddr0 rfl) rfl ?_
        refine o_y (y_load rfl rfl rfl) rfl ?_
        refine o_y (y_move rfl) rfl ?_
        refine o_y (y_lookup_okz rfl rfl (by assumption)) rfl ?_
        refine o_y (y_move rfl) rfl ?_
        refine o_y (y_extract rfl rfl) rfl ?_
        refine o_y (y_extract rfl rfl) rfl ?_
        refine o_y (y_assign rfl) rfl ?_
        refine o_y (y_assign rfl) rfl ?_
        refine o_nil ?_
        refine f_seq ?_
        refine c_seq ?_
        refine c_region ?_
        refine o_y (y_move rfl) rfl ?_
        refine o_nil ?_
        refine f_seq ?_
        refine c_false rfl ?_
        refine c_skip ?_
        refine f_seq ?_
        refine c_seq ?_
        refine c_region ?_
        refine o_y (y_move rfl) rfl ?_
        refine o_y (y_nilCheck rfl) rfl ?_
        refine o_y (y_fieldAddr0 rfl) rfl ?_
        refine o_y (y_load rfl rfl rfl) rfl ?_
        refine o_y (y_move rfl) rfl ?_
        refine o_y (y_lookup_z rfl rfl (by assumption)) rfl ?_
        refine o_call rfl copied_nil (by repeat (first | with_reducible exact Takes.nil | (apply Takes.cons; focus (repeat (first | with_reducible exact Rem.here | apply Rem.there))))) rfl ?_
        rintro _ _ ⟨b, rfl, rfl⟩
        simp only [List.append_eq, List.cons_append, List.nil_append, List.append_nil, tup]
        refine o_y (y_assign rfl) rfl ?_
        refine o_y (y_assign rfl) rfl ?_
        refine o_nil ?_
        refine f_seq ?_
        refine c_ret ?_
        refine f_ent ?_ (f_ret rfl (.inr ⟨hp, b, rfl, rfl, by rw [hr]; exact pad_len _⟩))
        rw [hr]
        refine Ent.one (by repeat (first | with_reducible exact Rem.here | apply Rem.there)) ?_
        refine (Ent.shut (A := PM x.nm S.now) (by repeat (first | with_reducible exact Takes.nil | (apply Takes.cons; focus (repeat (first | with_reducible exact Rem.here | apply Rem.there))))) (PM.shut hy)).trans ?_
        refine (Ent.shut (A := PM x.lm S.last) (by repeat (first | with_reducible exact Takes.nil | (apply Takes.cons; focus (repeat (first | with_reducible exact Rem.here | apply Rem.there))))) (PM.shut hz)).trans ?_
        refine Ent.put (by repeat (first | with_reducible exact Takes.nil | (apply Takes.cons; focus (repeat (first | with_reducible exact Rem.here | apply Rem.there))))) (DRep.shut x hx) ?_
        repeat (first | with_reducible exact Ent.nil | (apply Ent.one; focus (repeat (first | with_reducible exact Rem.here | apply Rem.there))))
end Go.Lun

/- The disk's Sync. -/
namespace Go.Lun
open Go.Proofs

def DS.sync (S : DS) : DS := { S with last := S.loose.foldl (fun f w => upd f w.1 w.2) S.last, now := fun _ => none, loose := [], fuse := S.fuse - 1 }

theorem wcells_get {ws : List WE} {rs : List Value} : ∀ {i : Nat} {w : WE}, ws[i]? = some w → getN (wcells ws ++ rs) (i * 2) 2 = some [.int .i64 w.page, pageV w.blk] := by
  induction ws with
  | nil => intro i w h; simp at h
  | cons v ws ih =>
    intro i w h
    cases i with
    | zero => simp at h; subst h; simp [wcells, getN, takeN]
    | succ i =>
      have := ih (by simpa using h)
      have e : (i + 1) * 2 = i * 2 + 1 + 1 := by omega
      rw [e]
      exact this

def lay (f : Int → Option Bytes) (ws : List WE) : Int → Option Bytes := ws.foldl (fun f w => upd f w.page w.bs) f
theorem lay_abs (ws : List WE) : ∀ f, (ws.map WE.abs).foldl (fun f w => upd f w.1 w.2) f = lay f ws := by
  induction ws with
  | nil => intro f; rfl
  | cons w ws ih => intro f; simp only [List.map_cons, List.foldl_cons, lay]; exact ih _
theorem lay_snoc (f : Int → Option Bytes) (ws : List WE) (w : WE) : lay f (ws ++ [w]) = upd (lay f ws) w.page w.bs := by simp [lay]
theorem take_snoc' {α : Type} {l : List α} {i : Nat} {x : α} (h : l[i]? = some x) : l.take (i + 1) = l.take i ++ [x] := by
  rw [List.take_add_one, h]; rfl
theorem drop_cons' {α : Type} {l : List α} {i : Nat} {x : α} (h : l[i]? = some x) : l.drop i = x :: l.drop (i + 1) := by
  have hlt : i < l.length := by
    rcases Nat.lt_or_ge i l.length with h' | h'
    · exact h'
    · rw [List.getElem?_eq_none h'] at h; cases h
  rw [List.drop_eq_getElem_cons hlt]
  rw [List.getElem?_eq_getElem hlt] at h
  injection h with h; rw [h]

theorem sync_d (d : Nat) (S : DS) (hf : -9223372036854775808 < S.fuse) (hf' : S.fuse ≤ 9223372036854775807) (hn : S.loose.length ≤ 1000000) :
    Fn Tryz.prog 111 [.pointer (some ⟨d, 0, none⟩)] [DRep d S] (fun v L => v = .tuple ⟨[]⟩ ∧ L = [DRep d (if S.dead = true then S else S.sync)]) := by
  refine fn_open (A := DRep d S) Rem.here (fun x hx => ?_)
  obtain ⟨lm, nm, la, lc, ws⟩ := x
  have hwl : ws.length = S.loose.length := by rw [← hx.abs, List.length_map]
  refine fn_open (A := PM lm S.last) (.there .here) (fun y hy => ?_)
  obtain ⟨es, ck⟩ := y
  simp only [List.append_eq, List.cons_append, List.nil_append, List.append_nil, tup]
  refine fn_start Tryz.func111 rfl rfl rfl fun F => ?_
  refine c_seq ?_
  refine c_seq ?_
  refine c_region ?_
  refine o_y (y_move rfl) rfl ?_
  refine o_call rfl (alive_fn d S.most S.pages lm nm la ws.length lc S.fuse S.burns hf hf') (by repeat (first | with_reducible exact Takes.nil | (apply Takes.cons; focus (repeat (first | with_reducible exact Rem.here | apply Rem.there))))) rfl ?_
  rintro _ _ ⟨rfl, rfl⟩
  simp only [List.append_eq, List.cons_append, List.nil_append, List.append_nil, tup]
  cases hb : (S.burns && decide (S.fuse = 0))
  case true =>
    simp only [if_true]
    refine o_y (y_not rfl) rfl ?_
    refine o_nil ?_
    refine f_seq ?_
    refine c_true rfl ?_
    refine c_ret ?_
    refine f_seq_ret ?_
    refine f_ent ?_ (f_ret rfl ⟨rfl, rfl⟩)
    rw [if_pos (by simp [DS.dead, hb])]
    refine (Ent.shut (A := PM lm S.last) (by repeat (first | with_reducible exact Takes.nil | (apply Takes.cons; focus (repeat (first | with_reducible exact Rem.here | apply Rem.there))))) (PM.shut hy)).trans ?_
    refine Ent.put (by repeat (first | with_reducible exact Takes.nil | (apply Takes.cons; focus (repeat (first | with_reducible exact Rem.here | apply Rem.there))))) (DRep.shut ⟨lm, nm, la, lc, ws⟩ hx) ?_
    repeat (first | with_reducible exact Ent.nil | (apply Ent.one; focus (repeat (first | with_reducible exact Rem.here | apply Rem.there))))
  case false =>
    simp only [Bool.false_eq_true, if_false]
    refine o_y (y_not rfl) rfl ?_
    refine o_nil ?_
    refine f_seq ?_
    refine c_false rfl ?_
    refine c_skip ?_
    refine f_seq ?_
    refine c_seq ?_
    refine c_seq ?_
    refine c_region ?_
    refine o_y (y_move rfl) rfl ?_
    refine o_y (y_nilCheck rfl) rfl ?_
    refine o_y (y_fieldAddr0 rfl) rfl ?_
    refine o_y (y_load rfl rfl rfl) rfl ?_
    refine o_y (y_len_slice rfl) rfl ?_
    refine o_y (y_move rfl) rfl ?_
    refine o_nil ?_
    refine f_seq ?_
    refine c_block ?_
    refine c_openSl (by repeat (first | with_reducible exact Rem.here | apply Rem.there)) (fun hl h1 h2 h3 => ?_) (fun rb rs hl h1 h2 h3 => ?_)
    · have hw0 : ws = [] := List.length_eq_zero_iff.1 h2
      subst h1; subst hw0; subst h3
      simp only [List.length_nil]
      refine c_loop ?_
      refine c_seq ?_
      refine c_region ?_
      refine o_y (y_lss_f rfl rfl (by omega)) rfl ?_
      refine o_nil ?_
      refine f_seq ?_
      refine c_seq ?_
      refine c_false rfl ?_
      refine c_exit ?_
      refine f_seq_exit ?_
      refine f_seq_exit ?_
      refine f_block_here ?_
      refine f_seq ?_
      refine c_region ?_
      refine o_y (y_move rfl) rfl ?_
      refine o_call rfl (done_f d S.most S.pages (S.fuse - 1) lm nm 0 0 none S.burns S.now) (by repeat (first | with_reducible exact Takes.nil | (apply Takes.cons; focus (repeat (first | with_reducible exact Rem.here | apply Rem.there))))) rfl ?_
      rintro _ _ ⟨rfl, rfl⟩
      simp only [List.append_eq, List.cons_append, List.nil_append, List.append_nil, tup]
      refine o_nil ?_
      refine f_ent ?_ (f_end rfl ⟨rfl, rfl⟩)
      rw [if_neg (by simp [DS.dead, hb])]
      have hlo : S.loose = [] := by rw [← hx.abs]; rfl
      refine (Ent.shut (A := PM lm S.last) (by repeat (first | with_reducible exact Takes.nil | (apply Takes.cons; focus (repeat (first | with_reducible exact Rem.here | apply Rem.there))))) (PM.shut hy)).trans ?_
      refine (Ent.shut (A := Sl 242 2 none 0 0 []) (P := []) (by repeat (first | with_reducible exact Takes.nil | (apply Takes.cons; focus (repeat (first | with_reducible exact Rem.here | apply Rem.there))))) Sl.shut_nil).trans ?_
      refine Ent.put (by repeat (first | with_reducible exact Takes.nil | (apply Takes.cons; focus (repeat (first | with_reducible exact Rem.here | apply Rem.there))))) (DRep.mk (S := S.sync) [] ⟨rfl, by simp⟩ ?_ ?_ ?_) ?_
      rotate_left 3
      · repeat (first | with_reducible exact Ent.nil | (apply Ent.one; focus (repeat (first | with_reducible exact Rem.here | apply Rem.there))))
      · exact ⟨rfl, rfl, rfl, rfl, by simp [DS.sync, hlo], rfl⟩
      · rfl
      · rfl
    · subst h1
      refine c_loop_inv (X := Nat × List PE × Nat) (fun x => x.1 ≤ ws.length ∧ PMok x.2.1 x.2.2 (lay S.last (ws.take x.1))) (fun x => ws.length - x.1)
        (fun x => [Blk d (dobj S.most S.pages lm (.slice (some ⟨rb, 0, none⟩) ws.length lc) nm (S.fuse - 1) S.burns), Blk lm (.map (pents x.2.1) x.2.2), Star (x.2.1.map PE.asrt), Star ((ws.drop x.1).map WE.asrt), Blk rb (.cells ⟨wcells ws ++ rs⟩ 242 (0, 0)), PM nm S.now])
        (fun x => [(0, .pointer (some ⟨d, 0, none⟩)), (10, .slice (some ⟨rb, 0, none⟩) ws.length lc), (11, .int .i64 (ws.length : Int)), (12, .int .i64 (x.1 : Int))]) (0, es, ck) ⟨Nat.zero_le _, hy⟩ (by simp only [List.drop_zero]; repeat (first | with_reducible exact Ent.nil | (apply Ent.one; focus (repeat (first | with_reducible exact Rem.here | apply Rem.there))))) (by repeat (first | exact trivial | refine ⟨rfl, ?_⟩)) ?_
      rintro ⟨i, es, ck⟩ ⟨hi, hy⟩ ih
      dsimp only at hi hy ih ⊢
      by_cases hlt : i < ws.length
      · have hw : ws[i]? = some ws[i] := List.getElem?_eq_getElem hlt
        generalize ws[i] = w at hw
        rw [drop_cons' hw, List.map_cons]
        refine c_ent (Takes.ent_of (P := [Star (w.asrt :: (ws.drop (i + 1)).map WE.asrt)]) (M := [w.asrt, Star ((ws.drop (i + 1)).map WE.asrt)]) (by repeat (first | with_reducible exact Takes.nil | (apply Takes.cons; focus (repeat (first | with_reducible exact Rem.here | apply Rem.there))))) Ent.star_cons) ?_
        simp only [List.append_eq, List.cons_append, List.nil_append, List.append_nil, tup]
        refine c_seq ?_
        refine c_region ?_
        refine o_y (y_lss_t rfl rfl (by omega)) rfl ?_
        refine o_nil ?_
        refine f_seq ?_
        refine c_seq ?_
        refine c_true rfl ?_
        refine c_skip ?_
        refine f_seq ?_
        refine c_seq ?_
        refine c_block ?_
        refine c_seq ?_
        refine c_region ?_
        refine o_y (y_indexAddr i rfl rfl rfl hlt) rfl ?_
        refine o_y (y_loadN rfl rfl (by rw [Nat.zero_add]; exact wcells_get hw)) rfl ?_
        refine o_alloc rfl (fun nb => ?_)
        refine o_store rfl rfl rfl frz0 ?_
        refine o_nil ?_
        refine f_seq ?_
        have hl256 : w.bs.length = 256 := hx.len w (List.mem_of_getElem? hw)
        refine pl_start [8] Tryz.mixed ?_; intro hd
        refine pl_lock (A := Blk _ _) Rem.here rfl ?_ hd; intro hb0
        refine pl_lock (A := Blk _ _) (Rem.there (Rem.there Rem.here)) rfl ?_ hd; intro hb1
        refine pl_take (i := 0) rfl (by kernel_rfl) (y_move rfl) ?_ hd; clear hd; intro hd
        refine pl_take (i := 1) rfl (by kernel_rfl) (y_nilCheck rfl) ?_ hd; clear hd; intro hd
        refine pl_take (i := 2) rfl (by kernel_rfl) (y_fieldAddr0 rfl) ?_ hd; clear hd; intro hd
        refine pl_take (i := 3) rfl (by kernel_rfl) (y_load rfl rfl rfl) ?_ hd; clear hd; intro hd
        refine pl_take (i := 4) rfl (by kernel_rfl) (y_fieldAddr0 rfl) ?_ hd; clear hd; intro hd
        refine pl_take (i := 5) rfl (by kernel_rfl) (y_load rfl rfl rfl) ?_ hd; clear hd; intro hd
        refine pl_take (i := 6) rfl (by kernel_rfl) (y_fieldAddr0 rfl) ?_ hd; clear hd; intro hd
        refine pl_take (i := 7) rfl (by kernel_rfl) (y_load rfl rfl rfl) ?_ hd; clear hd; intro hd
        refine pl_sole (i := 8) (by kernel_rfl) rfl ?_ hd; clear hd; intro hd
        refine o_mapUpdate (es := es.map PE.ent) (v := pageV w.blk) rfl rfl rfl ?_
        refine pl_back (by repeat (first | with_reducible exact Owes.nil | with_reducible refine Owes.same ?_ | with_reducible refine Owes.any ?_ | refine Owes.waived 8 (by kernel_rfl) ?_)) ?_ hd; clear hd; intro hd
        refine pl_done (by kernel_rfl) ?_ hd
        refine f_unlock (A := Blk _ _) ?_
        refine f_unlock (A := Blk _ _) ?_
        obtain ⟨es', ck', g1, g2, g3⟩ := hy.put w.page w.blk w.bs hl256
        rw [g1]
        refine f_ent (Takes.ent_of (by repeat (first | with_reducible exact Takes.nil | (apply Takes.cons; focus (repeat (first | with_reducible exact Rem.here | apply Rem.there))))) g3) ?_
        simp only [List.append_eq, List.cons_append, List.nil_append, List.append_nil, tup]
        refine f_block ?_
        refine f_seq ?_
        refine c_region ?_
        refine o_y (y_arith64 rfl rfl rfl (by omega)) rfl ?_
        refine o_y (y_move rfl) rfl ?_
        refine o_nil ?_
        refine f_next ?_ ?_ (ih (i + 1, es', ck') ⟨hlt, ?_⟩ ?_)
        · repeat (first | with_reducible exact Ent.nil | (apply Ent.one; focus (repeat (first | with_reducible exact Rem.here | apply Rem.there))))
        · repeat (first | exact trivial | refine ⟨rfl, ?_⟩)
        · rw [take_snoc' hw, lay_snoc]; exact g2
        · dsimp only; omega
      · have hi' : i = ws.length := by omega
        subst hi'
        rw [List.take_length] at hy
        refine c_seq ?_
        refine c_region ?_
        refine o_y (y_lss_f rfl rfl (by omega)) rfl ?_
        refine o_nil ?_
        refine f_seq ?_
        refine c_seq ?_
        refine c_false rfl ?_
        refine c_exit ?_
        refine f_seq_exit ?_
        refine f_seq_exit ?_
        refine f_block_here ?_
        refine f_seq ?_
        refine c_region ?_
        refine o_y (y_move rfl) rfl ?_
        refine o_call rfl (done_f d S.most S.pages (S.fuse - 1) lm nm ws.length lc (some ⟨rb, 0, none⟩) S.burns S.now) (by repeat (first | with_reducible exact Takes.nil | (apply Takes.cons; focus (repeat (first | with_reducible exact Rem.here | apply Rem.there))))) rfl ?_
        rintro _ _ ⟨rfl, rfl⟩
        simp only [List.append_eq, List.cons_append, List.nil_append, List.append_nil, tup]
        refine o_nil ?_
        refine f_ent ?_ (f_end rfl ⟨rfl, rfl⟩)
        rw [if_neg (by simp [DS.dead, hb])]
        have hlo : S.sync.last = lay S.last ws := by simp only [DS.sync]; rw [← hx.abs]; exact lay_abs ws S.last
        rw [← hlo] at hy
        refine (Ent.shut (A := PM lm S.sync.last) (by repeat (first | with_reducible exact Takes.nil | (apply Takes.cons; focus (repeat (first | with_reducible exact Rem.here | apply Rem.there))))) (PM.shut hy)).trans ?_
        refine (Ent.shut (A := Sl 242 2 none 0 0 []) (P := []) (by repeat (first | with_reducible exact Takes.nil | (apply Takes.cons; focus (repeat (first | with_reducible exact Rem.here | apply Rem.there))))) Sl.shut_nil).trans ?_
        refine (Ent.shut (A := Star (([] : List WE).map WE.asrt)) (P := []) (by repeat (first | with_reducible exact Takes.nil | (apply Takes.cons; focus (repeat (first | with_reducible exact Rem.here | apply Rem.there))))) (fun _ _ => trivial)).trans ?_
        refine Ent.put (by repeat (first | with_reducible exact Takes.nil | (apply Takes.cons; focus (repeat (first | with_reducible exact Rem.here | apply Rem.there))))) (DRep.mk (S := S.sync) [] ⟨rfl, by simp⟩ ?_ ?_ ?_) ?_
        rotate_left 3
        · repeat (first | with_reducible exact Ent.nil | (apply Ent.one; focus (repeat (first | with_reducible exact Rem.here | apply Rem.there))))
        · exact ⟨rfl, rfl, rfl, rfl, rfl, rfl⟩
        · rfl
        · rfl
end Go.Lun

/- The disk's Crash. -/
namespace Go.Lun
open Go.Proofs

/-- A row that is read: where it has anything, it lies at a block, and its places hold what is told. -/
def RowA {α : Type} (q : Bool) (f : α → List Value) (k : Nat) (a : Option Addr) (xs : List α) : Asrt := fun r => xs ≠ [] → ∃ (b off : Nat) (cs : List Value) (T : TypeId) (fz : Nat × Nat),
  a = some ⟨b, off, none⟩ ∧ getN cs off (xs.length * k) = some (xs.flatMap f) ∧ r b = some (q, .cells ⟨cs⟩ T fz)

structure RX where
  b : Nat
  off : Nat
  cs : List Value
  T : TypeId
  fz : Nat × Nat
theorem RowA.opens {α : Type} {q : Bool} {f : α → List Value} {k : Nat} {a : Option Addr} {xs : List α} (hne : xs ≠ []) : Opens (RowA q f k a xs) RX (fun y => a = some ⟨y.b, y.off, none⟩ ∧ getN y.cs y.off (xs.length * k) = some (xs.flatMap f)) (fun y => [Bkp q y.b (.cells ⟨y.cs⟩ y.T y.fz)]) :=
  ⟨fun r h => by
    obtain ⟨b, off, cs, T, fz, h1, h2, h3⟩ := h hne
    exact ⟨⟨b, off, cs, T, fz⟩, ⟨h1, h2⟩, sep_single h3⟩⟩
theorem RowA.shut {α : Type} {q : Bool} {f : α → List Value} {k : Nat} {T : TypeId} {a : Option Addr} {xs : List α} {b off : Nat} {cs : List Value} {fz : Nat × Nat} (h1 : a = some ⟨b, off, none⟩) (h2 : getN cs off (xs.length * k) = some (xs.flatMap f)) :
    ∀ r, sep [Bkp q b (.cells ⟨cs⟩ T fz)] r → RowA q f k a xs r := fun r ⟨u, v, _, e, hu, _⟩ _ => ⟨b, off, cs, T, fz, h1, h2, by rw [e]; exact join_some hu⟩
theorem RowA.empty {α : Type} {q : Bool} {f : α → List Value} {k : Nat} {a : Option Addr} : ∀ r, sep [] r → RowA q f k a [] r := fun _ _ h => absurd rfl h


structure TK where
  wr : Int
  sec : Nat
def TK.cells (k : TK) : List Value := [.int .i64 k.wr, .int .u8 (k.sec : Int)]
def tcells (ks : List TK) : List Value := ks.flatMap fun k => [.int .i64 k.wr, .int .u8 (k.sec : Int)]
theorem getN_sub {cs xs ys : List Value} {off n k m : Nat} (h : getN cs off n = some xs) (hk : getN xs k m = some ys) : getN cs (off + k) m = some ys := by
  unfold getN at *
  rw [← List.drop_drop]
  have hx := takeN_get h
  have hy := takeN_get hk
  have hle : k + m ≤ n ∨ n < k + m := by omega
  have hlen : m ≤ (xs.drop k).length := by
    rcases Nat.lt_or_ge (xs.drop k).length m with h' | h'
    · have := hy.2 (xs.drop k).length h'
      rw [List.getElem?_eq_none (Nat.le_refl _), List.getElem?_eq_getElem (by omega)] at this
      cases this
    · exact h'
  have hcs : n ≤ (cs.drop off).length := by
    rcases Nat.lt_or_ge (cs.drop off).length n with h' | h'
    · have := hx.2 (cs.drop off).length h'
      rw [List.getElem?_eq_none (Nat.le_refl _), List.getElem?_eq_getElem (by omega)] at this
      cases this
    · exact h'
  rw [takeN_take hcs] at h
  injection h with h
  subst h
  rw [takeN_take hlen] at hk
  rw [List.length_drop, List.length_take] at hlen
  rw [takeN_take (by rw [List.length_drop]; omega), ← hk]
  congr 1
  apply List.ext_getElem?
  intro i
  simp only [List.getElem?_take, List.getElem?_drop]
  split
  · rw [if_pos (by omega)]
  · rfl

/-- Bytes laid over others. -/
def splb : Bytes → Nat → Bytes → Bytes
  | l, _, [] => l
  | l, k, v :: vs => splb (l.set k v) (k + 1) vs
theorem splb_map : ∀ (vs l : Bytes) (k : Nat), spl (l.map byteV) k (vs.map byteV) = (splb l k vs).map byteV
  | [], _, _ => rfl
  | v :: vs, l, k => by simp only [List.map_cons, spl, splb]; rw [← List.map_set, splb_map vs]
theorem splb_len : ∀ (vs l : Bytes) (k : Nat), (splb l k vs).length = l.length
  | [], _, _ => rfl
  | v :: vs, l, k => by simp only [splb]; rw [splb_len vs]; simp

/-- The first s sectors torn. -/
def tear (sec : Nat) (by_ : Bytes) : Nat → Bytes → Bytes
  | 0, l => l
  | s + 1, l => let l' := tear sec by_ s l; if sec / 2 ^ s % 2 = 1 then splb l' (s * 64) ((by_.drop (s * 64)).take 64) else l'
def page0 : Bytes := pad []
/-- One write that survives in part. -/
def DS.keep (S : DS) (k : TK) : DS :=
  if 0 ≤ k.wr ∧ k.wr < S.loose.length then
    match S.loose[k.wr.toNat]? with
    | some w => { S with last := upd S.last w.1 (tear k.sec w.2 4 ((S.last w.1).getD page0)) }
    | none => S
  else S
def DS.crash (S : DS) (ks : List TK) : DS := { ks.foldl DS.keep S with now := fun _ => none, loose := [], burns := false }

end Go.Lun

/- Results that lie in a block of their own; what is owned, shared from now on. -/
namespace Go.Lun
open Go.Proofs

section
variable {P : Program} {n : Nat} {ds : List Deferred} {F : Fr} {L : List Asrt} {env : Env} {Q : Post} {ops : Array Oper} {rest : List Oper}

/-- A function's end, its first result a block's cells. -/
theorem f_retc {fn : Func} {R : Value → List Asrt → Prop} {b : Nat} {cs vs us : List Value} {t : TypeId} {d : TypeDesc} {z : Value} {sz by_ : Nat} {T : TypeId} {fz : Nat × Nat} {a0 : Tmp} {l : List ResultVar} [Ty P t d z sz by_]
    (hl : fn.results.toList = .cell a0 t :: l) (hs : aggD d = true) (ha : look env a0 = some (.pointer (some ⟨b, 0, none⟩))) [hb : Has F L b (.cells ⟨cs⟩ T fz)] (hv : getN cs 0 sz = some vs)
    {L' : List Asrt} (hr : resE env l = some us) (hE : Ent L L') (hR : R (tup (.agg ⟨vs⟩ :: us)) L') : FinJ P n [] F L env .ret (FnPost P fn F R) := .mk fun w a s k => by
  have h1 : (results fn a.tmps).run P w = .ok (tup (.agg ⟨vs⟩ :: us)) w := by
    have ih := run_resE (P := P) (w := w) k hr
    have e : results fn a.tmps = (do let vs ← fn.results.mapM (resM a.tmps); pure (if h : vs.size = 1 then vs[0] else .tuple vs)) := rfl
    have hm : ((ResultVar.cell a0 t :: l).mapM (resM a.tmps)).run P w = .ok (.agg ⟨vs⟩ :: us) w := by
      rw [List.mapM_cons]
      have hc : (resM a.tmps (.cell a0 t)).run P w = .ok (.agg ⟨vs⟩) w := by
        simp [resM, k.val a0 _ ha, asAddr, loadVar, run_isAgg, hs, run_size, run_loadCells (hb.out w s) hv]
      simp only [Sem.run_bind, hc, Result.andThen_ok, ih, Sem.run_pure]
    rw [e, ← Array.toArray_toList (xs := fn.results), List.mapM_toArray, hl]
    simp only [Sem.run_bind, Sem.run_map, hm, Result.andThen_ok]
    cases us with
    | nil => simp [tup]
    | cons v r => simp [tup]
  exact post_ret k.defers h1 ⟨_, _, rfl, hR, s.ent hE⟩

theorem o_openSl {l : List Oper} {E : TypeId} {sz len cap : Nat} {a : Option Addr} {xs : List Value} {R : List Asrt} (hr : Rem L (Sl E sz a len cap xs) R)
    (hn : xs.length = len * sz → a = none → len = 0 → cap = 0 → OpsJ P n ds F R env ops l Q)
    (hs : ∀ b rs, xs.length = len * sz → a = some ⟨b, 0, none⟩ → len ≤ cap → xs.length + rs.length = cap * sz → OpsJ P n ds F (Blk b (.cells ⟨xs ++ rs⟩ E (0, 0)) :: R) env ops l Q) : OpsJ P n ds F L env ops l Q := .mk fun w a' s o => by
  obtain ⟨h1, h2, h3, r, hc, hf, hrs, hsp⟩ := s
  obtain ⟨u, v, huv, rfl, hA, hR⟩ := sep_perm hr.perm hsp
  obtain ⟨hl, ⟨e1, e2, e3⟩ | ⟨b, rs, e1, e2, e3, hb⟩⟩ := hA.cases
  · exact (hn hl e1 e2 e3).out w a' ⟨h1, h2, h3, _, hc, hf, hrs, sep_grow huv hR⟩ o
  · exact (hs b rs hl e1 e2 e3).out w a' ⟨h1, h2, h3, _, hc, hf, hrs, u, v, huv, rfl, hb, hR⟩ o

theorem o_open {l : List Oper} {A : Asrt} {R : List Asrt} {X : Type} {φ : X → Prop} {M : X → List Asrt} [h : Opens A X φ M] (ht : Rem L A R)
    (k : ∀ x, φ x → OpsJ P n ds F (M x ++ R) env ops l Q) : OpsJ P n ds F L env ops l Q := .mk fun w a s o => by
  obtain ⟨h1, h2, h3, r, hc, hf, hr, hs⟩ := s
  obtain ⟨u, v, huv, rfl, hA, hR⟩ := sep_perm ht.perm hs
  obtain ⟨x, hx, hM⟩ := h.out u hA
  exact (k x hx).out w a ⟨h1, h2, h3, _, hc, hf, hr, sep_append huv hM hR⟩ o
theorem o_share {b : Nat} {o : Obj} {R : List Asrt} (hr : Rem L (Blk b o) R) {l : List Oper} (h : OpsJ P n ds F (Sh b o :: R) env ops l Q) : OpsJ P n ds F L env ops l Q := .mk fun w a s k => h.out w a (s.share hr) k
theorem c_share {b : Nat} {o : Obj} {R : List Asrt} (hr : Rem L (Blk b o) R) {c : Code} (h : CodeJ P n ds F (Sh b o :: R) env c Q) : CodeJ P n ds F L env c Q := .mk fun w a s k => h.out w a (s.share hr) k

/-- A row that was owned. -/
theorem St.shareSl {α : Type} (f : α → List Value) {k : Nat} {E : TypeId} {w : World} {a : Option Addr} {cap m : Nat} {xs : List α} {cs : List Value} {R : List Asrt} (s : St F L w) (hr : Rem L (Sl E k a m cap cs) R) (hm : m = xs.length) (hc : cs = xs.flatMap f) :
    St F (RowA false f k a xs :: R) w := by
  subst hm; subst hc
  obtain ⟨h1, h2, h3, r, hcp, hf, hrs, hsp⟩ := s
  obtain ⟨u, v, huv, rfl, hA, hR⟩ := sep_perm hr.perm hsp
  obtain ⟨hl, ⟨e1, e2, e3⟩ | ⟨b, rs, e1, e2, e3, hb⟩⟩ := hA.cases
  · have hx : xs = [] := List.eq_nil_of_length_eq_zero e2
    subst hx
    exact ⟨h1, h2, h3, _, hcp, hf, hrs, u, v, huv, rfl, fun h => absurd rfl h, hR⟩
  · subst e1
    have s2 : St F (Sh b (.cells ⟨xs.flatMap f ++ rs⟩ E (0, 0)) :: R) w := St.share (L := Blk b (.cells ⟨xs.flatMap f ++ rs⟩ E (0, 0)) :: R) ⟨h1, h2, h3, _, hcp, hf, hrs, u, v, huv, rfl, hb, hR⟩ Rem.here
    obtain ⟨h1, h2, h3, r, hcp, hf, hrs, u', v', huv', rfl, hA', hR'⟩ := s2
    refine ⟨h1, h2, h3, _, hcp, hf, hrs, u', v', huv', rfl, fun _ => ⟨b, 0, _, _, _, rfl, ?_, hA'⟩, hR'⟩
    rw [← hl]; exact getN_front _ _
theorem o_shareSl {α : Type} (f : α → List Value) (xs : List α) {k : Nat} {E : TypeId} {a : Option Addr} {cap m : Nat} {cs : List Value} {R : List Asrt} (hr : Rem L (Sl E k a m cap cs) R) (hm : m = xs.length) (hc : cs = xs.flatMap f) {l : List Oper}
    (h : OpsJ P n ds F (RowA false f k a xs :: R) env ops l Q) : OpsJ P n ds F L env ops l Q := .mk fun w b s k => h.out w b (St.shareSl f s hr hm hc) k
theorem f_shareSl {α : Type} (f : α → List Value) (xs : List α) {k : Nat} {E : TypeId} {a : Option Addr} {cap m : Nat} {cs : List Value} {R : List Asrt} (hr : Rem L (Sl E k a m cap cs) R) (hm : m = xs.length) (hc : cs = xs.flatMap f) {e : Exit}
    (h : FinJ P n ds F (RowA false f k a xs :: R) env e Q) : FinJ P n ds F L env e Q := .mk fun w b s k => h.out w b (St.shareSl f s hr hm hc) k
theorem c_shareSl {α : Type} (f : α → List Value) (xs : List α) {k : Nat} {E : TypeId} {a : Option Addr} {cap m : Nat} {cs : List Value} {R : List Asrt} (hr : Rem L (Sl E k a m cap cs) R) (hm : m = xs.length) (hc : cs = xs.flatMap f) {c : Code}
    (h : CodeJ P n ds F (RowA false f k a xs :: R) env c Q) : CodeJ P n ds F L env c Q := .mk fun w b s k => h.out w b (St.shareSl f s hr hm hc) k
end

theorem RowA.dup {α : Type} {f : α → List Value} {k : Nat} {a : Option Addr} {xs : List α} {L : List Asrt} : Ent (RowA false f k a xs :: L) (RowA false f k a xs :: RowA false f k a xs :: L) := by
  intro r ⟨u, v, hc, e, hu, hv⟩
  by_cases hx : xs = []
  · refine ⟨fun _ => none, r, ?_, ?_, fun h => absurd hx h, u, v, hc, e, hu, hv⟩
    · intro x p o q o' h; cases h
    · funext x; rfl
  · obtain ⟨b, off, cs, T, fz, h1, h2, h3⟩ := hu hx
    obtain ⟨u1, v1, hc1, e1, hu1, u2, v2, hc2, e2, hu2, hv2⟩ := Ent.dup (b := b) (o := .cells ⟨cs⟩ T fz) (L := L) r ⟨u, v, hc, e, h3, hv⟩
    exact ⟨u1, v1, hc1, e1, fun _ => ⟨b, off, cs, T, fz, h1, h2, hu1⟩, u2, v2, hc2, e2, fun _ => ⟨b, off, cs, T, fz, h1, h2, hu2⟩, hv2⟩
end Go.Lun
