/- The types of the seat, as the walk wants them. Written by a small program of this session (seat.py); the kernel holds each row against the program. -/
import Derived.Test.YtinkcffklomneaaDoorProg
import Derived.Test.YtinkcffklomneaaDoorSymZd
import Derived.KernelRfl
import Derived.Shelf.Strconv.Quote
import Derived.Room.Shelf.Join48
import Derived.Shelf.LaysM
import Derived.Shelf.Strconv.Itoa1
import Derived.Shelf.Strconv.Itoa2
import Derived.Lib.Walk
import Derived.Lib.ItoaMem
import Derived.WalkKit
import Derived.BigCall
import Derived.BigGuard
import Derived.Shelf.Strconv.Itoa3
import Derived.Lib.LaidPrint
namespace Go.Proofs.YtinkcffklomneaaDoor
open Go Go.Proofs.YtinkcffklomneaaDoor.Sym
set_option maxRecDepth 100000
noncomputable abbrev P : Program := Tryd.prog
def T : TypeId → Option TI
  | 3 => some { desc := (.int .i64), size := 1, bytes := 8, zero := [.int .i64 0] }
  | 4 => some { desc := .bool, size := 1, bytes := 1, zero := [.bool false] }
  | 5 => some { desc := (.int .u8), size := 1, bytes := 1, zero := [.int .u8 0] }
  | 9 => some { desc := .string, size := 1, bytes := 16, zero := [.string .empty] }
  | 22 => some { desc := (.int .u64), size := 1, bytes := 8, zero := [.int .u64 0] }
  | 23 => some { desc := (.slice 9), size := 1, bytes := 24, zero := [.slice none 0 0] }
  | 25 => some { desc := (.struct #[{ name := "Kind", type := 3, offset := 0, embedded := false, tag := "", pkgPath := "", byteOffset := 0 }, { name := "User", type := 9, offset := 1, embedded := false, tag := "", pkgPath := "", byteOffset := 8 }, { name := "Id", type := 3, offset := 2, embedded := false, tag := "", pkgPath := "", byteOffset := 24 }, { name := "Status", type := 3, offset := 3, embedded := false, tag := "", pkgPath := "", byteOffset := 32 }, { name := "Prio", type := 3, offset := 4, embedded := false, tag := "", pkgPath := "", byteOffset := 40 }, { name := "Ttl", type := 22, offset := 5, embedded := false, tag := "", pkgPath := "", byteOffset := 48 }, { name := "Users", type := 23, offset := 6, embedded := false, tag := "", pkgPath := "", byteOffset := 56 }]), size := 7, bytes := 80, zero := [.int .i64 0, .string .empty, .int .i64 0, .int .i64 0, .int .i64 0, .int .u64 0, .slice none 0 0] }
  | 32 => some { desc := (.int .i64), size := 1, bytes := 8, zero := [.int .i64 0] }
  | 33 => some { desc := (.slice 38), size := 1, bytes := 24, zero := [.slice none 0 0] }
  | 34 => some { desc := (.slice 40), size := 1, bytes := 24, zero := [.slice none 0 0] }
  | 36 => some { desc := (.struct #[{ name := "Err", type := 32, offset := 0, embedded := false, tag := "", pkgPath := "", byteOffset := 0 }, { name := "Values", type := 33, offset := 1, embedded := false, tag := "", pkgPath := "", byteOffset := 8 }, { name := "Events", type := 34, offset := 2, embedded := false, tag := "", pkgPath := "", byteOffset := 32 }, { name := "Lost", type := 4, offset := 3, embedded := false, tag := "", pkgPath := "", byteOffset := 56 }]), size := 4, bytes := 64, zero := [.int .i64 0, .slice none 0 0, .slice none 0 0, .bool false] }
  | 38 => some { desc := (.struct #[{ name := "Status", type := 3, offset := 0, embedded := false, tag := "", pkgPath := "", byteOffset := 0 }, { name := "Prio", type := 3, offset := 1, embedded := false, tag := "", pkgPath := "", byteOffset := 8 }, { name := "Live", type := 3, offset := 2, embedded := false, tag := "", pkgPath := "", byteOffset := 16 }]), size := 3, bytes := 24, zero := [.int .i64 0, .int .i64 0, .int .i64 0] }
  | 40 => some { desc := (.struct #[{ name := "User", type := 9, offset := 0, embedded := false, tag := "", pkgPath := "", byteOffset := 0 }, { name := "Old", type := 38, offset := 1, embedded := false, tag := "", pkgPath := "", byteOffset := 16 }, { name := "New", type := 38, offset := 4, embedded := false, tag := "", pkgPath := "", byteOffset := 40 }, { name := "Seq", type := 22, offset := 7, embedded := false, tag := "", pkgPath := "", byteOffset := 64 }]), size := 8, bytes := 72, zero := [.string .empty, .int .i64 0, .int .i64 0, .int .i64 0, .int .i64 0, .int .i64 0, .int .i64 0, .int .u64 0] }
  | 47 => some { desc := (.slice 5), size := 1, bytes := 24, zero := [.slice none 0 0] }
  | 52 => some { desc := (.array 10 9), size := 10, bytes := 160, zero := [.string .empty, .string .empty, .string .empty, .string .empty, .string .empty, .string .empty, .string .empty, .string .empty, .string .empty, .string .empty] }
  | _ => none
theorem ty3 : (P.info? 3).map (fun i => (i.size, i.bytes, i.zero)) = some (1, 8, some (.int .i64 0)) := by kernel_rfl
theorem ty4 : (P.info? 4).map (fun i => (i.size, i.bytes, i.zero)) = some (1, 1, some (.bool false)) := by kernel_rfl
theorem ty5 : (P.info? 5).map (fun i => (i.size, i.bytes, i.zero)) = some (1, 1, some (.int .u8 0)) := by kernel_rfl
theorem ty9 : (P.info? 9).map (fun i => (i.size, i.bytes, i.zero)) = some (1, 16, some (.string .empty)) := by kernel_rfl
theorem ty22 : (P.info? 22).map (fun i => (i.size, i.bytes, i.zero)) = some (1, 8, some (.int .u64 0)) := by kernel_rfl
theorem ty23 : (P.info? 23).map (fun i => (i.size, i.bytes, i.zero)) = some (1, 24, some (.slice none 0 0)) := by kernel_rfl
theorem ty25 : (P.info? 25).map (fun i => (i.size, i.bytes, i.zero)) = some (7, 80, some (.agg #[.int .i64 0, .string .empty, .int .i64 0, .int .i64 0, .int .i64 0, .int .u64 0, .slice none 0 0])) := by kernel_rfl
theorem ty32 : (P.info? 32).map (fun i => (i.size, i.bytes, i.zero)) = some (1, 8, some (.int .i64 0)) := by kernel_rfl
theorem ty33 : (P.info? 33).map (fun i => (i.size, i.bytes, i.zero)) = some (1, 24, some (.slice none 0 0)) := by kernel_rfl
theorem ty34 : (P.info? 34).map (fun i => (i.size, i.bytes, i.zero)) = some (1, 24, some (.slice none 0 0)) := by kernel_rfl
theorem ty36 : (P.info? 36).map (fun i => (i.size, i.bytes, i.zero)) = some (4, 64, some (.agg #[.int .i64 0, .slice none 0 0, .slice none 0 0, .bool false])) := by kernel_rfl
theorem ty38 : (P.info? 38).map (fun i => (i.size, i.bytes, i.zero)) = some (3, 24, some (.agg #[.int .i64 0, .int .i64 0, .int .i64 0])) := by kernel_rfl
theorem ty40 : (P.info? 40).map (fun i => (i.size, i.bytes, i.zero)) = some (8, 72, some (.agg #[.string .empty, .int .i64 0, .int .i64 0, .int .i64 0, .int .i64 0, .int .i64 0, .int .i64 0, .int .u64 0])) := by kernel_rfl
theorem ty47 : (P.info? 47).map (fun i => (i.size, i.bytes, i.zero)) = some (1, 24, some (.slice none 0 0)) := by kernel_rfl
theorem ty52 : (P.info? 52).map (fun i => (i.size, i.bytes, i.zero)) = some (10, 160, some (.agg #[.string .empty, .string .empty, .string .empty, .string .empty, .string .empty, .string .empty, .string .empty, .string .empty, .string .empty, .string .empty])) := by kernel_rfl
theorem row_ok {t : TypeId} {d : TypeDesc} {size bytes : Nat} {z : Value} {zero : List Value} (hu : P.underlying t = some d) (hi : (P.info? t).map (fun i => (i.size, i.bytes, i.zero)) = some (size, bytes, some z)) (hz : z.cells.toList = zero) :
    P.underlying t = some d ∧ ∃ i z, P.info? t = some i ∧ i.size = size ∧ i.bytes = bytes ∧ i.zero = some z ∧ z.cells.toList = zero := by
  refine ⟨hu, ?_⟩
  cases h : P.info? t with
  | none => rw [h] at hi; cases hi
  | some i =>
    rw [h] at hi
    simp only [Option.map_some, Option.some.injEq, Prod.mk.injEq] at hi
    exact ⟨i, z, rfl, hi.1, hi.2.1, hi.2.2, hz⟩
theorem tyOk : TyOk P T := by
  intro t ti h
  unfold T at h
  split at h
  · cases h; exact row_ok Tryd.underlying3 ty3 rfl
  · cases h; exact row_ok Tryd.underlying4 ty4 rfl
  · cases h; exact row_ok Tryd.underlying5 ty5 rfl
  · cases h; exact row_ok Tryd.underlying9 ty9 rfl
  · cases h; exact row_ok Tryd.underlying22 ty22 rfl
  · cases h; exact row_ok Tryd.underlying23 ty23 rfl
  · cases h; exact row_ok Tryd.underlying25 ty25 rfl
  · cases h; exact row_ok Tryd.underlying32 ty32 rfl
  · cases h; exact row_ok Tryd.underlying33 ty33 rfl
  · cases h; exact row_ok Tryd.underlying34 ty34 rfl
  · cases h; exact row_ok Tryd.underlying36 ty36 rfl
  · cases h; exact row_ok Tryd.underlying38 ty38 rfl
  · cases h; exact row_ok Tryd.underlying40 ty40 rfl
  · cases h; exact row_ok Tryd.underlying47 ty47 rfl
  · cases h; exact row_ok Tryd.underlying52 ty52 rfl
  · cases h
theorem eqc38 {xs ys : List AV} : eqC P T 38 xs ys = (kOks [.int .i64, .int .i64, .int .i64] xs ys = true) := eqC_eq (by kernel_rfl) (by kernel_rfl)
theorem eqc40 {xs ys : List AV} : eqC P T 40 xs ys = (kOks [.str, .int .i64, .int .i64, .int .i64, .int .i64, .int .i64, .int .i64, .int .u64] xs ys = true) := eqC_eq (by kernel_rfl) (by kernel_rfl)
end Go.Proofs.YtinkcffklomneaaDoor
namespace Go.Proofs.YtinkcffklomneaaDoor
open Go Go.Shelf Go.Proofs
set_option maxRecDepth 100000
def lays177_ren : Go.Shelf.Ren := ⟨fun | 177 => 25 | 250 => 32 | 289 => 37 | 197 => 44 | 323 => 45 | 260 => 53 | 339 => 54 | 340 => 55 | 242 => 56 | 119 => 57 | 345 => 60 | 346 => 61 | 278 => 62 | n => n, fun | 9 => 9 | 5 => 5 | 4 => 4 | 3 => 3 | 37 => 47 | 21 => 21 | 105 => 74 | 46 => 76 | 119 => 91 | 0 => 0 | 139 => 94 | 138 => 93 | 49 => 95 | 234 => 96 | 131 => 97 | 51 => 84 | 236 => 99 | n => n, fun | 3 => 3 | 4 => 4 | 20 => 5 | 21 => 6 | 22 => 7 | 23 => 8 | 24 => 9 | n => n⟩
theorem lays177 : Lays.n177 Tryd.prog lays177_ren where
  mixed := by kernel_rfl
  f119 := Tryd.func57.trans (congrArg some (by kernel_rfl))
  f177 := Tryd.func25.trans (congrArg some (by kernel_rfl))
  f197 := Tryd.func44.trans (congrArg some (by kernel_rfl))
  f242 := Tryd.func56.trans (congrArg some (by kernel_rfl))
  f250 := Tryd.func32.trans (congrArg some (by kernel_rfl))
  f260 := Tryd.func53.trans (congrArg some (by kernel_rfl))
  f278 := Tryd.func62.trans (congrArg some (by kernel_rfl))
  f289 := Tryd.func37.trans (congrArg some (by kernel_rfl))
  f323 := Tryd.func45.trans (congrArg some (by kernel_rfl))
  f339 := Tryd.func54.trans (congrArg some (by kernel_rfl))
  f340 := Tryd.func55.trans (congrArg some (by kernel_rfl))
  f345 := Tryd.func60.trans (congrArg some (by kernel_rfl))
  f346 := Tryd.func61.trans (congrArg some (by kernel_rfl))
  t0 := Tryd.underlying0
  a0 := Tryd.isAgg0
  z0 := Tryd.sizeOf0
  v0 := Tryd.zeroValue0
  t3 := Tryd.underlying3
  a3 := Tryd.isAgg3
  z3 := Tryd.sizeOf3
  v3 := Tryd.zeroValue3
  t4 := Tryd.underlying4
  a4 := Tryd.isAgg4
  z4 := Tryd.sizeOf4
  v4 := Tryd.zeroValue4
  t5 := Tryd.underlying5
  a5 := Tryd.isAgg5
  z5 := Tryd.sizeOf5
  v5 := Tryd.zeroValue5
  t9 := Tryd.underlying9
  a9 := Tryd.isAgg9
  z9 := Tryd.sizeOf9
  v9 := Tryd.zeroValue9
  t21 := Tryd.underlying21
  a21 := Tryd.isAgg21
  z21 := Tryd.sizeOf21
  v21 := Tryd.zeroValue21
  t37 := Tryd.underlying47
  a37 := Tryd.isAgg47
  z37 := Tryd.sizeOf47
  v37 := Tryd.zeroValue47
  t46 := Tryd.underlying76
  a46 := Tryd.isAgg76
  z46 := Tryd.sizeOf76
  v46 := Tryd.zeroValue76
  t49 := Tryd.underlying95
  a49 := Tryd.isAgg95
  z49 := Tryd.sizeOf95
  v49 := Tryd.zeroValue95
  t51 := Tryd.underlying84
  a51 := Tryd.isAgg84
  z51 := Tryd.sizeOf84
  v51 := Tryd.zeroValue84
  t105 := Tryd.underlying74
  a105 := Tryd.isAgg74
  z105 := Tryd.sizeOf74
  v105 := Tryd.zeroValue74
  t119 := Tryd.underlying91
  a119 := Tryd.isAgg91
  z119 := Tryd.sizeOf91
  t131 := Tryd.underlying97
  a131 := Tryd.isAgg97
  z131 := Tryd.sizeOf97
  v131 := Tryd.zeroValue97
  t138 := Tryd.underlying93
  a138 := Tryd.isAgg93
  z138 := Tryd.sizeOf93
  v138 := Tryd.zeroValue93
  t139 := Tryd.underlying94
  a139 := Tryd.isAgg94
  z139 := Tryd.sizeOf94
  v139 := Tryd.zeroValue94
  t234 := Tryd.underlying96
  a234 := Tryd.isAgg96
  z234 := Tryd.sizeOf96
  v234 := Tryd.zeroValue96
  t236 := Tryd.underlying99
  a236 := Tryd.isAgg99
  z236 := Tryd.sizeOf99
  v236 := Tryd.zeroValue99
  g3 := by kernel_rfl
  g4 := by kernel_rfl
  g20 := by kernel_rfl
  g21 := by kernel_rfl
  g22 := by kernel_rfl
  g23 := by kernel_rfl
  g24 := by kernel_rfl
def lays156_ren : Go.Shelf.Ren := ⟨fun | 156 => 30 | 165 => 33 | 166 => 34 | 169 => 35 | 240 => 38 | 241 => 39 | 276 => 46 | 277 => 47 | n => n, fun | 31 => 23 | 9 => 9 | 3 => 3 | 4 => 4 | 0 => 0 | 20 => 20 | 72 => 60 | 76 => 64 | 70 => 58 | 37 => 47 | 75 => 63 | 127 => 68 | 164 => 78 | 5 => 5 | 80 => 66 | n => n, fun | n => n⟩
theorem lays156 : Lays.n156 Tryd.prog lays156_ren where
  mixed := by kernel_rfl
  f156 := Tryd.func30.trans (congrArg some (by kernel_rfl))
  f165 := Tryd.func33.trans (congrArg some (by kernel_rfl))
  f166 := Tryd.func34.trans (congrArg some (by kernel_rfl))
  f169 := Tryd.func35.trans (congrArg some (by kernel_rfl))
  f240 := Tryd.func38.trans (congrArg some (by kernel_rfl))
  f241 := Tryd.func39.trans (congrArg some (by kernel_rfl))
  f276 := Tryd.func46.trans (congrArg some (by kernel_rfl))
  f277 := Tryd.func47.trans (congrArg some (by kernel_rfl))
  t0 := Tryd.underlying0
  a0 := Tryd.isAgg0
  z0 := Tryd.sizeOf0
  v0 := Tryd.zeroValue0
  t3 := Tryd.underlying3
  a3 := Tryd.isAgg3
  z3 := Tryd.sizeOf3
  v3 := Tryd.zeroValue3
  t4 := Tryd.underlying4
  a4 := Tryd.isAgg4
  z4 := Tryd.sizeOf4
  v4 := Tryd.zeroValue4
  t9 := Tryd.underlying9
  a9 := Tryd.isAgg9
  z9 := Tryd.sizeOf9
  v9 := Tryd.zeroValue9
  t20 := Tryd.underlying20
  a20 := Tryd.isAgg20
  z20 := Tryd.sizeOf20
  v20 := Tryd.zeroValue20
  t31 := Tryd.underlying23
  a31 := Tryd.isAgg23
  z31 := Tryd.sizeOf23
  v31 := Tryd.zeroValue23
  t37 := Tryd.underlying47
  a37 := Tryd.isAgg47
  z37 := Tryd.sizeOf47
  v37 := Tryd.zeroValue47
  t70 := Tryd.underlying58
  a70 := Tryd.isAgg58
  z70 := Tryd.sizeOf58
  v70 := Tryd.zeroValue58
  t72 := Tryd.underlying60
  a72 := Tryd.isAgg60
  z72 := Tryd.sizeOf60
  v72 := Tryd.zeroValue60
  t75 := Tryd.underlying63
  a75 := Tryd.isAgg63
  z75 := Tryd.sizeOf63
  v75 := Tryd.zeroValue63
  t76 := Tryd.underlying64
  a76 := Tryd.isAgg64
  z76 := Tryd.sizeOf64
  v76 := Tryd.zeroValue64
  t127 := Tryd.underlying68
  a127 := Tryd.isAgg68
  z127 := Tryd.sizeOf68
  v127 := Tryd.zeroValue68
  t164 := Tryd.underlying78
  a164 := Tryd.isAgg78
  z164 := Tryd.sizeOf78
  v164 := Tryd.zeroValue78
def lays284_ren : Go.Shelf.Ren := ⟨fun | 284 => 41 | 129 => 49 | 317 => 48 | 318 => 50 | n => n, fun | 53 => 22 | 3 => 3 | 212 => 83 | 0 => 0 | 4 => 4 | 46 => 76 | 5 => 5 | 9 => 9 | n => n, fun | 17 => 1 | n => n⟩
theorem lays284 : LaysM.n284 Tryd.prog lays284_ren where
  mixed := by kernel_rfl
  f129 := Tryd.func49.trans (congrArg some (by kernel_rfl))
  f284 := Tryd.func41.trans (congrArg some (by kernel_rfl))
  f317 := Tryd.func48.trans (congrArg some (by kernel_rfl))
  f318 := Tryd.func50.trans (congrArg some (by kernel_rfl))
  t0 := Tryd.underlying0
  a0 := Tryd.isAgg0
  z0 := Tryd.sizeOf0
  v0 := Tryd.zeroValue0
  t3 := Tryd.underlying3
  a3 := Tryd.isAgg3
  z3 := Tryd.sizeOf3
  v3 := Tryd.zeroValue3
  t4 := Tryd.underlying4
  a4 := Tryd.isAgg4
  z4 := Tryd.sizeOf4
  v4 := Tryd.zeroValue4
  t5 := Tryd.underlying5
  a5 := Tryd.isAgg5
  z5 := Tryd.sizeOf5
  v5 := Tryd.zeroValue5
  t9 := Tryd.underlying9
  a9 := Tryd.isAgg9
  z9 := Tryd.sizeOf9
  v9 := Tryd.zeroValue9
  t46 := Tryd.underlying76
  a46 := Tryd.isAgg76
  z46 := Tryd.sizeOf76
  v46 := Tryd.zeroValue76
  t53 := Tryd.underlying22
  a53 := Tryd.isAgg22
  z53 := Tryd.sizeOf22
  v53 := Tryd.zeroValue22
  t212 := Tryd.underlying83
  a212 := Tryd.isAgg83
  z212 := Tryd.sizeOf83
  v212 := Tryd.zeroValue83
  g17 := by kernel_rfl
  i0 := by kernel_rfl
  i3 := by kernel_rfl
  i4 := by kernel_rfl
  i5 := by kernel_rfl
  i9 := by kernel_rfl
  i46 := by kernel_rfl
  i53 := by kernel_rfl
  i212 := by kernel_rfl
  m17 := by kernel_rfl
def lays285_ren : Go.Shelf.Ren := ⟨fun | 285 => 42 | n => n, fun | 37 => 47 | 53 => 22 | 3 => 3 | 4 => 4 | 51 => 84 | 9 => 9 | 5 => 5 | 0 => 0 | n => n, fun | n => n⟩
theorem lays285 : Lays.n285 Tryd.prog lays285_ren where
  mixed := by kernel_rfl
  f285 := Tryd.func42.trans (congrArg some (by kernel_rfl))
  t0 := Tryd.underlying0
  a0 := Tryd.isAgg0
  z0 := Tryd.sizeOf0
  v0 := Tryd.zeroValue0
  t3 := Tryd.underlying3
  a3 := Tryd.isAgg3
  z3 := Tryd.sizeOf3
  v3 := Tryd.zeroValue3
  t4 := Tryd.underlying4
  a4 := Tryd.isAgg4
  z4 := Tryd.sizeOf4
  v4 := Tryd.zeroValue4
  t5 := Tryd.underlying5
  a5 := Tryd.isAgg5
  z5 := Tryd.sizeOf5
  v5 := Tryd.zeroValue5
  t9 := Tryd.underlying9
  a9 := Tryd.isAgg9
  z9 := Tryd.sizeOf9
  v9 := Tryd.zeroValue9
  t37 := Tryd.underlying47
  a37 := Tryd.isAgg47
  z37 := Tryd.sizeOf47
  v37 := Tryd.zeroValue47
  t51 := Tryd.underlying84
  a51 := Tryd.isAgg84
  z51 := Tryd.sizeOf84
  v51 := Tryd.zeroValue84
  t53 := Tryd.underlying22
  a53 := Tryd.isAgg22
  z53 := Tryd.sizeOf22
  v53 := Tryd.zeroValue22
def lays283_ren : Go.Shelf.Ren := ⟨fun | 283 => 40 | n => n, fun | 3 => 3 | 9 => 9 | 4 => 4 | n => n, fun | n => n⟩
theorem lays283 : Lays.n283 Tryd.prog lays283_ren where
  mixed := by kernel_rfl
  f283 := Tryd.func40.trans (congrArg some (by kernel_rfl))
  t3 := Tryd.underlying3
  a3 := Tryd.isAgg3
  z3 := Tryd.sizeOf3
  v3 := Tryd.zeroValue3
  t4 := Tryd.underlying4
  a4 := Tryd.isAgg4
  z4 := Tryd.sizeOf4
  v4 := Tryd.zeroValue4
  t9 := Tryd.underlying9
  a9 := Tryd.isAgg9
  z9 := Tryd.sizeOf9
  v9 := Tryd.zeroValue9
theorem builderX : Builder.Extra Tryd.prog lays156_ren where
  sizeBuilder := by kernel_rfl
  liesBuilder := by kernel_rfl
  t5 := Tryd.underlying5
  a5 := Tryd.isAgg5
  z5 := Tryd.sizeOf5
  v5 := Tryd.zeroValue5
  infoByte := by kernel_rfl
  cellsByte := by kernel_rfl
  sizeByte := by kernel_rfl
  neB5 := by decide
end Go.Proofs.YtinkcffklomneaaDoor
namespace Go.Proofs.YtinkcffklomneaaDoor
open Go Go.Shelf Go.RowKit Go.Sort Go.Lib Go.Proofs

theorem holds_zero0 (w : World) (T : TypeId) (nd : Nat) (hs : nd ≤ 24) : Holds (fun (b : UInt8) => Value.int .u8 (b.toNat : Int)) (w.alloc (.cells zeros24 T)) w.heap.size 0 (Array.replicate nd (0 : UInt8)) := fun j hj => by
  have hj' : j < nd := by simpa using hj
  refine ⟨?_, World.frozen?_alloc_new _ _ _ _⟩
  rw [World.cell?_alloc_new, zeros24_at _ (by omega), getElem!_pos _ j hj]
  simp

theorem fin_pos0 (w : World) (o : Obj) (dk : Array UInt8) (k : Nat) : ∃ os, (putRow (fun (b : UInt8) => Value.int .u8 (b.toNat : Int)) (w.alloc o) w.heap.size 0 dk).drewN k = grow (w.drewN k) os := by
  rw [alloc_eq_grow]
  obtain ⟨os', _, e⟩ := putRow_grow_new (fun (b : UInt8) => Value.int .u8 (b.toNat : Int)) w #[o] w.heap.size 0 dk (Nat.le_refl _)
  exact ⟨os', by rw [e]; rfl⟩

set_option maxHeartbeats 6400000 in
set_option maxRecDepth 100000 in
theorem fmtU (u : Nat) (hu64 : u < 18446744073709551616) (w : World) (htab : Lib.TabIs Tryd.prog w "internal/strconv.uint64pow10" .u64 Lib.pow10Tab) :
    Calls Tryd.prog 36 #[.int .u64 u, .int .i64 10] w fun e w' => e = .returned (.string ⟨(Lib.decDigits u).toArray⟩) ∧ ∃ k os, w' = grow (w.drewN k) os := by
  by_cases hs : u < 100
  · have cS : ∀ w, Calls Tryd.prog 40 #[.int .i64 u] w fun e w' => e = .returned (.string ⟨(Lib.decDigits u).toArray⟩) ∧ w' = w := fun w => Any.internal_strconv_small lays283 u hs w
    have hw : IntKind.i64.wrap (u : Int) = (u : Int) := by rw [IntKind.wrap_i64]; omega
    go_enter Tryd.func36, Tryd.ntmps36
    go_wp2_with (go_at_call 40; refine (cS _).mono ?_; rintro e w' ⟨rfl, rfl⟩)
    go_ret
    exact ⟨rfl, 0, #[], by simp [World.drewN_zero]⟩
  · have hu1 : 1 ≤ u := by omega
    have hnd20 : Lib.nDigits u ≤ 20 := by have := Lib.numDigits_eq u hu1 hu64; split at this <;> omega
    have hal : Tryd.prog.arrayLen 69 = 24 := by simp [Program.arrayLen, Tryd.underlying69]
    have hsl1 : ∀ W, (Instr.sliceAt 69 (.pointer (some ⟨w.heap.size, 0, none⟩)) none (some (.int .i64 (Lib.nDigits u : Int))) none).run Tryd.prog W = .ok (.slice (some ⟨w.heap.size, 0, none⟩) (Lib.nDigits u) 24) W := fun W => by
      rw [run_sliceAt_array_h W 69 ⟨w.heap.size, 0, none⟩ (by simp [Program.arrayLen, Program.elem, Tryd.underlying69]) .i64 (Lib.nDigits u : Int) (by omega) (by rw [hal]; omega)]
      go_simp
    have cN : ∀ w1, Lib.TabIs Tryd.prog w1 "internal/strconv.uint64pow10" .u64 Lib.pow10Tab → Calls Tryd.prog 41 #[.int .u64 u] w1 fun e w' => e = .returned (.int .i64 (Lib.nDigits u)) ∧ w' = w1 := fun w1 h1 => Any.internal_strconv_numDigits lays284 u hu1 hu64 w1 h1
    have hH0 := holds_zero0 w 69 (Lib.nDigits u) (by omega)
    have hfmt : Calls Tryd.prog 42 _ _ _ := Any.internal_strconv_formatBase10 lays285 w.heap.size 0 24 u (Array.replicate (Lib.nDigits u) 0) (w.alloc (.cells Lib.zeros24 69)) hH0 (by rw [Array.size_replicate]; exact Lib.lt_pow_nDigits u) hu64 (by rw [Array.size_replicate]; omega)
    rw [Array.size_replicate] at hfmt
    have HH0 := Lib.hid hH0
    clear hH0 hal
    go_enter Tryd.func36, Tryd.ntmps36
    go_wp2_with (first
      | (go_at_call 41; refine (cN _ (Lib.tabIs_alloc htab _)).mono ?_; rintro e w' ⟨rfl, rfl⟩))
    go_at_call 42
    refine hfmt.mono ?_
    rintro e w' ⟨rfl, k, v', dk, rfl, hF⟩
    have hcv : (convert 47 9 (.slice (some ⟨w.heap.size, 0, none⟩) (Lib.nDigits u) 24)).run Tryd.prog ((putRow (fun (b : UInt8) => Value.int .u8 (b.toNat : Int)) (w.alloc (.cells Lib.zeros24 69)) w.heap.size 0 dk).drewN k) = .ok (.string ⟨(Lib.decDigits u).toArray⟩) ((putRow (fun (b : UInt8) => Value.int .u8 (b.toNat : Int)) (w.alloc (.cells Lib.zeros24 69)) w.heap.size 0 dk).drewN k) := by
      have h := run_convert_bytes_back (P := Tryd.prog) ((putRow (fun (b : UInt8) => Value.int .u8 (b.toNat : Int)) (w.alloc (.cells Lib.zeros24 69)) w.heap.size 0 dk).drewN k) 47 9 5 ⟨w.heap.size, 0, none⟩ 24 (Lib.decDigits u) Tryd.underlying47 Tryd.underlying5 Tryd.underlying9 (fun j hj => by
        rw [Lib.row_is_numeral hF j hj, Lib.add_plain, World.cell?_drewN]
        exact cell?_putRow (fun (b : UInt8) => Value.int .u8 (b.toNat : Int)) _ w.heap.size 0 _ dk HH0.out (by rw [hF.size, Array.size_replicate]) j (by rw [hF.size]; rw [Lib.decDigits_length] at hj; exact hj))
      rw [Lib.decDigits_length] at h
      exact h
    go_wp2
    go_ret
    obtain ⟨os, eo⟩ := fin_pos0 w (.cells Lib.zeros24 69) dk k
    exact ⟨rfl, k, os, eo⟩

theorem below_drew_grow (w : World) (k : Nat) (os : Array Obj) : Below w.heap.size w (grow (w.drewN k) os) :=
  ⟨rfl, rfl, rfl, by simp [grow, World.drewN], fun i hi => by simp [grow, World.drewN, Array.getElem?_append_left hi]⟩

theorem strFmtU (u : Nat) (hu64 : u < 18446744073709551616) (w : World) (htab : Lib.TabIs Tryd.prog w "internal/strconv.uint64pow10" .u64 Lib.pow10Tab) :
    Calls Tryd.prog 31 #[.int .u64 u, .int .i64 10] w fun e w' => e = .returned (.string ⟨(Lib.decDigits u).toArray⟩) ∧ Below w.heap.size w w' := by
  have cF := fmtU u hu64 w htab
  go_enter Tryd.func31, Tryd.ntmps31
  go_wp2_with (go_at_call 36; refine cF.mono ?_; rintro e w' ⟨rfl, k, os, rfl⟩)
  go_ret
  exact ⟨rfl, below_drew_grow _ _ _⟩
#print axioms strFmtU
end Go.Proofs.YtinkcffklomneaaDoor
namespace Go.Proofs.YtinkcffklomneaaDoor
open Go Go.Proofs.YtinkcffklomneaaDoor.Sym Go.Shelf Go.RowKit
set_option maxRecDepth 100000
set_option linter.unusedSimpArgs false
set_option linter.unusedVariables false

/-- A contract that leaves all that was there, and answers one plain value. -/
theorem pcall_below {P : Program} {g : FuncId} {args : List AV} {y : Value} (hen : Sym.Enters P g)
    (h : ∀ (Hd : Nat → Prop) (ι : Sym.Loc) (w : World) (vs : List Value), Rel Hd 0 ι ⟨args, []⟩ ⟨vs.toArray, []⟩ w → Calls P g vs.toArray w fun e w' => e = .returned y ∧ Below w.heap.size w w') :
    PCall P g args (fun x => x = .v y) := by
  refine ⟨hen, fun Hd ι w vs hR => (h Hd ι w vs hR).mono ?_⟩
  rintro e w' ⟨rfl, hb⟩
  have e : ∀ L, Ext L ι w ι w' := fun L => ⟨hb.os, hb.tape, hb.output, hb.size, fun r hr hn => ⟨hn, hb.block r hr⟩, fun r hr => shape_of_heap (hb.block r hr), fun _ _ _ h => h⟩
  exact ⟨y, .v y, ι, [], rfl, ⟨hR.len, fun r hr => Nat.lt_of_lt_of_le (hR.lt r hr) hb.size, hR.inj, ⟨y, [], rfl, rfl, rfl⟩, fun i blk hi => (by simp at hi), hR.marks.ext (e 0), hR.hidExt (e 0), hR.glob.ext (e 0)⟩, e, rfl, rfl⟩

/-! ### What the variables hold -/
theorem tabSlice_of {Hd : Nat → Prop} {ι : Sym.Loc} {w : World} (h : GlobOk Hd ι w) {g : Nat} {k : IntKind} {t : List Nat} (hg : GT g = some (t.map fun (n : Nat) => .int k (n : Int))) : Lib.TabSlice g k t w := by
  obtain ⟨_, R, o, c, h1, _, h2⟩ := h.tab g _ hg
  refine ⟨R, o, c, by simpa using h1, fun j hj => ?_⟩
  have := h2 j (by simpa using hj)
  rw [this]
  simp [List.getD, List.getElem?_eq_getElem hj]

theorem printTabs_of {Hd : Nat → Prop} {ι : Sym.Loc} {w : World} (h : GlobOk Hd ι w) : Lib.PrintTabsAt (lays177_ren.g 20) (lays177_ren.g 21) (lays177_ren.g 22) (lays177_ren.g 23) Lib.goPrintTabs w :=
  ⟨tabSlice_of h rfl, tabSlice_of h rfl, tabSlice_of h rfl, tabSlice_of h rfl, by decide, by decide, by decide⟩

theorem utf8Tabs_of {Hd : Nat → Prop} {ι : Sym.Loc} {w : World} (h : GlobOk Hd ι w) : Lib.Utf8Tabs (lays177_ren.g 3) (lays177_ren.g 4) w := by
  have h3 := (h.plain 3 _ rfl).2
  have h4 := (h.plain 4 _ rfl).2
  refine ⟨fun c hc => ?_, fun i hi => ?_⟩
  · have := h3 c (by simpa using hc)
    rw [Nat.zero_add] at this
    refine this.trans ?_
    simp
  · have a := h4 (2 * i) (by simp; omega)
    have b := h4 (2 * i + 1) (by simp; omega)
    rw [Nat.zero_add] at a b
    refine ⟨a.trans ?_, b.trans ?_⟩ <;>
      (rcases (by omega : i = 0 ∨ i = 1 ∨ i = 2 ∨ i = 3 ∨ i = 4 ∨ i = 5 ∨ i = 6 ∨ i = 7 ∨ i = 8 ∨ i = 9 ∨ i = 10 ∨ i = 11 ∨ i = 12 ∨ i = 13 ∨ i = 14 ∨ i = 15) with rfl | rfl | rfl | rfl | rfl | rfl | rfl | rfl | rfl | rfl | rfl | rfl | rfl | rfl | rfl | rfl <;> rfl)

theorem gPow : Tryd.prog.globalNamed "internal/strconv.uint64pow10" = some 1 := by kernel_rfl
theorem pow_of {Hd : Nat → Prop} {ι : Sym.Loc} {w : World} (h : GlobOk Hd ι w) : Lib.TabIs Tryd.prog w "internal/strconv.uint64pow10" .u64 Lib.pow10Tab := by
  obtain ⟨_, t, f, h1⟩ := h.whole 1 _ rfl
  unfold Lib.TabIs World.var?
  rw [gPow]
  simp only [Option.bind_some]
  rw [h1]

/-! ### The three contracts -/
/-- A text quoted. -/
def quo (s : ByteArray) : ByteArray := strOfNums (Lib.quoteZ Lib.goPrintTabs s)
/-- A number's digits. -/
def dgt (u : Nat) : ByteArray := ⟨(Lib.decDigits u).toArray⟩
/-- Texts, a blank between. -/
def joinB (sep : ByteArray) : List ByteArray → ByteArray
  | [] => ByteArray.empty
  | x :: r => r.foldl (fun a y => a ++ sep ++ y) x

theorem quote_call (s : ByteArray) (hs : 10 * s.size + 12 ≤ 140737488355328) : PCall Tryd.prog 25 [.v (.string s)] (fun x => x = .v (.string (quo s))) := by
  refine pcall_below ⟨_, Tryd.func25, by kernel_rfl, by kernel_rfl⟩ fun Hd ι w vs hR => ?_
  obtain ⟨y, z, hz, rfl, rfl⟩ := hR.tmps
  obtain rfl : vs = [.string s] := hz
  exact Any.strconv_Quote lays177 (by kernel_rfl) Lib.goPrintTabs s w hs (printTabs_of hR.glob) (utf8Tabs_of hR.glob)

theorem fmt_call (u : Nat) (hu : u < 18446744073709551616) : PCall Tryd.prog 31 [.v (.int .u64 u), .v (.int .i64 10)] (fun x => x = .v (.string (dgt u))) := by
  refine pcall_below ⟨_, Tryd.func31, by kernel_rfl, by kernel_rfl⟩ fun Hd ι w vs hR => ?_
  obtain ⟨y, z, hz, rfl, y2, z2, rfl, rfl, rfl⟩ := hR.tmps
  obtain rfl : vs = [.int .u64 u, .int .i64 10] := hz
  exact strFmtU u hu w (pow_of hR.glob)

theorem foldl_join (sep : ByteArray) : ∀ (r : List ByteArray) (x : ByteArray), (r.foldl (fun a y => a ++ sep ++ y) x).data.toList = x.data.toList ++ Lib.joinTail sep.data.toList (r.map (·.data.toList))
  | [], x => by simp [Lib.joinTail]
  | y :: r, x => by
    rw [List.foldl_cons, foldl_join sep r]
    simp [Lib.joinTail, ByteArray.data_append]

theorem joinB_eq (sep : ByteArray) (l : List ByteArray) : (⟨(Lib.join (l.map (·.data.toList)) sep.data.toList).toArray⟩ : ByteArray) = joinB sep l := by
  cases l with
  | nil => rfl
  | cons x r =>
    rw [List.map_cons, Lib.join_cons, ← foldl_join]
    simp [joinB]

theorem rels_strings {Hd : Nat → Prop} {ι : Sym.Loc} {w : World} : ∀ {xs : List ByteArray} {vs : List Value}, rels Hd ι w (xs.map fun s => AV.v (.string s)) vs → vs = xs.map Value.string
  | [], _, h => h
  | x :: xs, _, h => by
    obtain ⟨y, z, rfl, rfl, h2⟩ := h
    rw [rels_strings h2]; rfl

theorem flatV_strings : ∀ xs : List ByteArray, flatV (xs.map Value.string) = xs.map Value.string
  | [] => rfl
  | x :: xs => by
    have := flatV_strings xs
    simp only [flatV, List.map_cons, List.flatMap_cons] at this ⊢
    rw [this]; rfl

theorem join_call (x : ByteArray) (xs : List ByteArray) (sep : ByteArray) (hN : (x :: xs).length ≤ 140737488355328) (hlen : (joinB sep (x :: xs)).size ≤ 281474976710656) :
    PCall Tryd.prog 30 [.sl 1 ((x :: xs).map fun s => AV.v (.string s)), .v (.string sep)] (fun y => y = .v (.string (joinB sep (x :: xs)))) := by
  refine pcall_below ⟨_, Tryd.func30, by kernel_rfl, by kernel_rfl⟩ fun Hd ι w vs hR => ?_
  obtain ⟨y, z, hz, ⟨_, a, cap, us, rfl, hc, hrs, hm⟩, y2, z2, rfl, rfl, rfl⟩ := hR.tmps
  obtain rfl := rels_strings hrs
  rcases hm with hm | ⟨r, off, rfl, hi, hrow⟩
  · cases hm
  obtain rfl := hz
  have hcells : ∀ (j : Nat) s, (x :: xs)[j]? = some s → w.cell? ⟨r, off + j, none⟩ = some (.string s) := by
    intro j s hj
    obtain ⟨hjl, hje⟩ := List.getElem?_eq_some_iff.1 hj
    have hl : j < (flatV ((x :: xs).map Value.string)).length := by rw [flatV_strings]; simpa using hjl
    have h1 := hrow.2.1 j hl
    rw [h1]
    simp only [flatV_strings, List.getElem_map, hje]
  have hc' : (x :: xs).length ≤ cap := by simpa using hc
  have hlen' : (Lib.join ((x :: xs).map (·.data.toList)) sep.data.toList).length ≤ 281474976710656 := by
    have := joinB_eq sep (x :: xs)
    rw [← this] at hlen
    simpa [ByteArray.size] using hlen
  have := Any.strings_Join_48 lays156 builderX r off cap (x :: xs) sep w hcells hi.1 hN hc' hlen'
  rw [joinB_eq] at this
  have hl : ((x :: xs).map fun s => AV.v (.string s)).length = (x :: xs).length := by simp
  rw [hl]
  exact this
#print axioms join_call
end Go.Proofs.YtinkcffklomneaaDoor
