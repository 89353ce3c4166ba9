/- A text of the walk that proves a law of this seat; joined by a program. -/
import Derived.Test.YtdkcpcflfnakdaaGreatProg
import Derived.Test.YtdkcpcflfnakdaaGreatSymZj
import Derived.KernelRfl
import Derived.Test.YtdkcpcflfnakdaaGreatSymU
set_option linter.unusedSimpArgs false
set_option linter.unusedVariables false
namespace Go.Proofs.YtdkcpcflfnakdaaGreat
open Go Go.Proofs.YtdkcpcflfnakdaaGreat.Sym
set_option maxRecDepth 100000
noncomputable abbrev P : Program := Tryz.prog
def T : TypeId → Option TI
 | 3 => some { desc := (.int .i64), size := 1, bytes := 8, zero := [.int .i64 0] }
 | 4 => some { desc := .bool, size := 1, bytes := 1, zero := [.bool false] }
 | 5 => some { desc := (.int .u8), size := 1, bytes := 1, zero := [.int .u8 0] }
 | 9 => some { desc := .string, size := 1, bytes := 16, zero := [.string .empty] }
 | 22 => some { desc := (.int .u64), size := 1, bytes := 8, zero := [.int .u64 0] }
 | 23 => some { desc := (.slice 9), size := 1, bytes := 24, zero := [.slice none 0 0] }
 | 25 => some { desc := (.struct #[{ name := "Kind", type := 3, offset := 0, embedded := false, tag := "", pkgPath := "", byteOffset := 0 }, { name := "User", type := 9, offset := 1, embedded := false, tag := "", pkgPath := "", byteOffset := 8 }, { name := "Id", type := 3, offset := 2, embedded := false, tag := "", pkgPath := "", byteOffset := 24 }, { name := "Status", type := 3, offset := 3, embedded := false, tag := "", pkgPath := "", byteOffset := 32 }, { name := "Prio", type := 3, offset := 4, embedded := false, tag := "", pkgPath := "", byteOffset := 40 }, { name := "Ttl", type := 22, offset := 5, embedded := false, tag := "", pkgPath := "", byteOffset := 48 }, { name := "Users", type := 23, offset := 6, embedded := false, tag := "", pkgPath := "", byteOffset := 56 }]), size := 7, bytes := 80, zero := [.int .i64 0, .string .empty, .int .i64 0, .int .i64 0, .int .i64 0, .int .u64 0, .slice none 0 0] }
 | 29 => some { desc := (.slice 46), size := 1, bytes := 24, zero := [.slice none 0 0] }
 | 31 => some { desc := (.pointer 75), size := 1, bytes := 8, zero := [.pointer none] }
 | 32 => some { desc := (.int .i64), size := 1, bytes := 8, zero := [.int .i64 0] }
 | 36 => some { desc := (.struct #[{ name := "Stripes", type := 3, offset := 0, embedded := false, tag := "", pkgPath := "", byteOffset := 0 }, { name := "Sessions", type := 3, offset := 1, embedded := false, tag := "", pkgPath := "", byteOffset := 8 }, { name := "Queue", type := 3, offset := 2, embedded := false, tag := "", pkgPath := "", byteOffset := 16 }, { name := "Watches", type := 3, offset := 3, embedded := false, tag := "", pkgPath := "", byteOffset := 24 }, { name := "Retries", type := 3, offset := 4, embedded := false, tag := "", pkgPath := "", byteOffset := 32 }, { name := "Epochs", type := 22, offset := 5, embedded := false, tag := "", pkgPath := "", byteOffset := 40 }, { name := "Start", type := 22, offset := 6, embedded := false, tag := "", pkgPath := "", byteOffset := 48 }]), size := 7, bytes := 56, zero := [.int .i64 0, .int .i64 0, .int .i64 0, .int .i64 0, .int .i64 0, .int .u64 0, .int .u64 0] }
 | 38 => some { desc := (.slice 44), size := 1, bytes := 24, zero := [.slice none 0 0] }
 | 39 => some { desc := (.slice 49), size := 1, bytes := 24, zero := [.slice none 0 0] }
 | 41 => some { desc := (.struct #[{ name := "Err", type := 32, offset := 0, embedded := false, tag := "", pkgPath := "", byteOffset := 0 }, { name := "Values", type := 38, offset := 1, embedded := false, tag := "", pkgPath := "", byteOffset := 8 }, { name := "Events", type := 39, offset := 2, embedded := false, tag := "", pkgPath := "", byteOffset := 32 }, { name := "Lost", type := 4, offset := 3, embedded := false, tag := "", pkgPath := "", byteOffset := 56 }]), size := 4, bytes := 64, zero := [.int .i64 0, .slice none 0 0, .slice none 0 0, .bool false] }
 | 44 => some { desc := (.struct #[{ name := "Status", type := 3, offset := 0, embedded := false, tag := "", pkgPath := "", byteOffset := 0 }, { name := "Prio", type := 3, offset := 1, embedded := false, tag := "", pkgPath := "", byteOffset := 8 }, { name := "Live", type := 3, offset := 2, embedded := false, tag := "", pkgPath := "", byteOffset := 16 }]), size := 3, bytes := 24, zero := [.int .i64 0, .int .i64 0, .int .i64 0] }
 | 46 => some { desc := (.struct #[{ name := "Do", type := 5, offset := 0, embedded := false, tag := "", pkgPath := "", byteOffset := 0 }, { name := "Who", type := 3, offset := 1, embedded := false, tag := "", pkgPath := "", byteOffset := 8 }, { name := "Op", type := 25, offset := 2, embedded := false, tag := "", pkgPath := "", byteOffset := 16 }, { name := "By", type := 22, offset := 9, embedded := false, tag := "", pkgPath := "", byteOffset := 96 }]), size := 10, bytes := 104, zero := [.int .u8 0, .int .i64 0, .int .i64 0, .string .empty, .int .i64 0, .int .i64 0, .int .i64 0, .int .u64 0, .slice none 0 0, .int .u64 0] }
 | 49 => some { desc := (.struct #[{ name := "User", type := 9, offset := 0, embedded := false, tag := "", pkgPath := "", byteOffset := 0 }, { name := "Old", type := 44, offset := 1, embedded := false, tag := "", pkgPath := "", byteOffset := 16 }, { name := "New", type := 44, offset := 4, embedded := false, tag := "", pkgPath := "", byteOffset := 40 }, { name := "Seq", type := 22, offset := 7, embedded := false, tag := "", pkgPath := "", byteOffset := 64 }]), size := 8, bytes := 72, zero := [.string .empty, .int .i64 0, .int .i64 0, .int .i64 0, .int .i64 0, .int .i64 0, .int .i64 0, .int .u64 0] }
 | 52 => some { desc := (.struct #[{ name := "Now", type := 22, offset := 0, embedded := false, tag := "", pkgPath := "", byteOffset := 0 }, { name := "Seq", type := 22, offset := 1, embedded := false, tag := "", pkgPath := "", byteOffset := 8 }, { name := "Closed", type := 4, offset := 2, embedded := false, tag := "", pkgPath := "", byteOffset := 16 }]), size := 3, bytes := 24, zero := [.int .u64 0, .int .u64 0, .bool false] }
 | 57 => some { desc := (.pointer 65), size := 1, bytes := 8, zero := [.pointer none] }
 | 62 => some { desc := (.slice 96), size := 1, bytes := 24, zero := [.slice none 0 0] }
 | 63 => some { desc := (.slice 88), size := 1, bytes := 24, zero := [.slice none 0 0] }
 | 65 => some { desc := (.struct #[{ name := "C", type := 36, offset := 0, embedded := false, tag := "", pkgPath := "", byteOffset := 0 }, { name := "T", type := 52, offset := 7, embedded := false, tag := "", pkgPath := "", byteOffset := 56 }, { name := "Books", type := 62, offset := 10, embedded := false, tag := "", pkgPath := "", byteOffset := 80 }, { name := "Feeds", type := 63, offset := 11, embedded := false, tag := "", pkgPath := "", byteOffset := 104 }]), size := 12, bytes := 128, zero := [.int .i64 0, .int .i64 0, .int .i64 0, .int .i64 0, .int .i64 0, .int .u64 0, .int .u64 0, .int .u64 0, .int .u64 0, .bool false, .slice none 0 0, .slice none 0 0] }
 | 68 => some { desc := (.slice 5), size := 1, bytes := 24, zero := [.slice none 0 0] }
 | 72 => some { desc := (.slice 87), size := 1, bytes := 24, zero := [.slice none 0 0] }
 | 73 => some { desc := (.slice 76), size := 1, bytes := 24, zero := [.slice none 0 0] }
 | 75 => some { desc := (.struct #[{ name := "c", type := 36, offset := 0, embedded := false, tag := "", pkgPath := "doorman/model", byteOffset := 0 }, { name := "time", type := 52, offset := 7, embedded := false, tag := "", pkgPath := "doorman/model", byteOffset := 56 }, { name := "books", type := 72, offset := 10, embedded := false, tag := "", pkgPath := "doorman/model", byteOffset := 80 }, { name := "feeds", type := 73, offset := 11, embedded := false, tag := "", pkgPath := "doorman/model", byteOffset := 104 }]), size := 12, bytes := 128, zero := [.int .i64 0, .int .i64 0, .int .i64 0, .int .i64 0, .int .i64 0, .int .u64 0, .int .u64 0, .int .u64 0, .int .u64 0, .bool false, .slice none 0 0, .slice none 0 0] }
 | 76 => some { desc := (.pointer 126), size := 1, bytes := 8, zero := [.pointer none] }
 | 85 => some { desc := (.slice 138), size := 1, bytes := 24, zero := [.slice none 0 0] }
 | 87 => some { desc := (.struct #[{ name := "keys", type := 23, offset := 0, embedded := false, tag := "", pkgPath := "doorman/omap", byteOffset := 0 }, { name := "values", type := 85, offset := 1, embedded := false, tag := "", pkgPath := "doorman/omap", byteOffset := 24 }]), size := 2, bytes := 48, zero := [.slice none 0 0, .slice none 0 0] }
 | 88 => some { desc := (.pointer 93), size := 1, bytes := 8, zero := [.pointer none] }
 | 89 => some { desc := (.slice 156), size := 1, bytes := 24, zero := [.slice none 0 0] }
 | 90 => some { desc := (.array 8 39), size := 8, bytes := 192, zero := [.slice none 0 0, .slice none 0 0, .slice none 0 0, .slice none 0 0, .slice none 0 0, .slice none 0 0, .slice none 0 0, .slice none 0 0] }
 | 91 => some { desc := (.array 8 4), size := 8, bytes := 8, zero := [.bool false, .bool false, .bool false, .bool false, .bool false, .bool false, .bool false, .bool false] }
 | 93 => some { desc := (.struct #[{ name := "Room", type := 3, offset := 0, embedded := false, tag := "", pkgPath := "", byteOffset := 0 }, { name := "Pairs", type := 89, offset := 1, embedded := false, tag := "", pkgPath := "", byteOffset := 8 }, { name := "Queues", type := 90, offset := 2, embedded := false, tag := "", pkgPath := "", byteOffset := 32 }, { name := "Lost", type := 91, offset := 10, embedded := false, tag := "", pkgPath := "", byteOffset := 224 }]), size := 18, bytes := 232, zero := [.int .i64 0, .slice none 0 0, .slice none 0 0, .slice none 0 0, .slice none 0 0, .slice none 0 0, .slice none 0 0, .slice none 0 0, .slice none 0 0, .slice none 0 0, .bool false, .bool false, .bool false, .bool false, .bool false, .bool false, .bool false, .bool false] }
 | 96 => some { desc := (.slice 115), size := 1, bytes := 24, zero := [.slice none 0 0] }
 | 97 => some { desc := (.slice 145), size := 1, bytes := 24, zero := [.slice none 0 0] }
 | 101 => some { desc := (.slice 39), size := 1, bytes := 24, zero := [.slice none 0 0] }
 | 113 => some { desc := (.slice 151), size := 1, bytes := 24, zero := [.slice none 0 0] }
 | 115 => some { desc := (.struct #[{ name := "Name", type := 9, offset := 0, embedded := false, tag := "", pkgPath := "", byteOffset := 0 }, { name := "Sessions", type := 113, offset := 1, embedded := false, tag := "", pkgPath := "", byteOffset := 16 }, { name := "Told", type := 44, offset := 2, embedded := false, tag := "", pkgPath := "", byteOffset := 40 }]), size := 5, bytes := 64, zero := [.string .empty, .slice none 0 0, .int .i64 0, .int .i64 0, .int .i64 0] }
 | 116 => some { desc := (.slice 163), size := 1, bytes := 24, zero := [.slice none 0 0] }
 | 120 => some { desc := (.slice 130), size := 1, bytes := 24, zero := [.slice none 0 0] }
 | 122 => some { desc := (.struct #[{ name := "keys", type := 23, offset := 0, embedded := false, tag := "", pkgPath := "doorman/omap", byteOffset := 0 }, { name := "values", type := 120, offset := 1, embedded := false, tag := "", pkgPath := "doorman/omap", byteOffset := 24 }]), size := 2, bytes := 48, zero := [.slice none 0 0, .slice none 0 0] }
 | 123 => some { desc := (.pointer 166), size := 1, bytes := 8, zero := [.pointer none] }
 | 124 => some { desc := (.array 8 123), size := 8, bytes := 64, zero := [.pointer none, .pointer none, .pointer none, .pointer none, .pointer none, .pointer none, .pointer none, .pointer none] }
 | 126 => some { desc := (.struct #[{ name := "watches", type := 122, offset := 0, embedded := false, tag := "", pkgPath := "doorman/feed", byteOffset := 0 }, { name := "queues", type := 124, offset := 2, embedded := false, tag := "", pkgPath := "doorman/feed", byteOffset := 48 }]), size := 10, bytes := 112, zero := [.slice none 0 0, .slice none 0 0, .pointer none, .pointer none, .pointer none, .pointer none, .pointer none, .pointer none, .pointer none, .pointer none] }
 | 130 => some { desc := (.int .u32), size := 1, bytes := 4, zero := [.int .u32 0] }
 | 138 => some { desc := (.struct #[{ name := "Sessions", type := 113, offset := 0, embedded := false, tag := "", pkgPath := "", byteOffset := 0 }, { name := "Told", type := 44, offset := 1, embedded := false, tag := "", pkgPath := "", byteOffset := 24 }]), size := 4, bytes := 48, zero := [.slice none 0 0, .int .i64 0, .int .i64 0, .int .i64 0] }
 | 145 => some { desc := (.struct #[{ name := "User", type := 9, offset := 0, embedded := false, tag := "", pkgPath := "", byteOffset := 0 }, { name := "Old", type := 44, offset := 1, embedded := false, tag := "", pkgPath := "", byteOffset := 16 }, { name := "New", type := 44, offset := 4, embedded := false, tag := "", pkgPath := "", byteOffset := 40 }]), size := 7, bytes := 64, zero := [.string .empty, .int .i64 0, .int .i64 0, .int .i64 0, .int .i64 0, .int .i64 0, .int .i64 0] }
 | 151 => some { desc := (.struct #[{ name := "Id", type := 3, offset := 0, embedded := false, tag := "", pkgPath := "", byteOffset := 0 }, { name := "Status", type := 3, offset := 1, embedded := false, tag := "", pkgPath := "", byteOffset := 8 }, { name := "Prio", type := 3, offset := 2, embedded := false, tag := "", pkgPath := "", byteOffset := 16 }, { name := "Until", type := 22, offset := 3, embedded := false, tag := "", pkgPath := "", byteOffset := 24 }]), size := 4, bytes := 32, zero := [.int .i64 0, .int .i64 0, .int .i64 0, .int .u64 0] }
 | 156 => some { desc := (.struct #[{ name := "Who", type := 3, offset := 0, embedded := false, tag := "", pkgPath := "", byteOffset := 0 }, { name := "User", type := 9, offset := 1, embedded := false, tag := "", pkgPath := "", byteOffset := 8 }]), size := 2, bytes := 24, zero := [.int .i64 0, .string .empty] }
 | 163 => some { desc := (.struct #[{ name := "User", type := 9, offset := 0, embedded := false, tag := "", pkgPath := "", byteOffset := 0 }, { name := "Old", type := 44, offset := 1, embedded := false, tag := "", pkgPath := "", byteOffset := 16 }, { name := "New", type := 44, offset := 4, embedded := false, tag := "", pkgPath := "", byteOffset := 40 }]), size := 7, bytes := 64, zero := [.string .empty, .int .i64 0, .int .i64 0, .int .i64 0, .int .i64 0, .int .i64 0, .int .i64 0] }
 | 166 => some { desc := (.struct #[{ name := "room", type := 3, offset := 0, embedded := false, tag := "", pkgPath := "doorman/ring", byteOffset := 0 }, { name := "l", type := 39, offset := 1, embedded := false, tag := "", pkgPath := "doorman/ring", byteOffset := 8 }, { name := "lost", type := 4, offset := 2, embedded := false, tag := "", pkgPath := "doorman/ring", byteOffset := 32 }]), size := 3, bytes := 40, zero := [.int .i64 0, .slice none 0 0, .bool false] }
 | 172 => some { desc := (.slice 3), size := 1, bytes := 24, zero := [.slice none 0 0] }
 | 188 => some { desc := (.int .u64), size := 1, bytes := 8, zero := [.int .u64 0] }
 | _ => none
theorem ty3 : (P.info? 3).map (fun i => (i.size, i.bytes, i.zero)) = some (1, 8, some (.int .i64 0)) := by kernel_rfl
theorem ty4 : (P.info? 4).map (fun i => (i.size, i.bytes, i.zero)) = some (1, 1, some (.bool false)) := by kernel_rfl
theorem ty5 : (P.info? 5).map (fun i => (i.size, i.bytes, i.zero)) = some (1, 1, some (.int .u8 0)) := by kernel_rfl
theorem ty9 : (P.info? 9).map (fun i => (i.size, i.bytes, i.zero)) = some (1, 16, some (.string .empty)) := by kernel_rfl
theorem ty22 : (P.info? 22).map (fun i => (i.size, i.bytes, i.zero)) = some (1, 8, some (.int .u64 0)) := by kernel_rfl
theorem ty23 : (P.info? 23).map (fun i => (i.size, i.bytes, i.zero)) = some (1, 24, some (.slice none 0 0)) := by kernel_rfl
theorem ty25 : (P.info? 25).map (fun i => (i.size, i.bytes, i.zero)) = some (7, 80, some (.agg #[.int .i64 0, .string .empty, .int .i64 0, .int .i64 0, .int .i64 0, .int .u64 0, .slice none 0 0])) := by kernel_rfl
theorem ty29 : (P.info? 29).map (fun i => (i.size, i.bytes, i.zero)) = some (1, 24, some (.slice none 0 0)) := by kernel_rfl
theorem ty31 : (P.info? 31).map (fun i => (i.size, i.bytes, i.zero)) = some (1, 8, some (.pointer none)) := by kernel_rfl
theorem ty32 : (P.info? 32).map (fun i => (i.size, i.bytes, i.zero)) = some (1, 8, some (.int .i64 0)) := by kernel_rfl
theorem ty36 : (P.info? 36).map (fun i => (i.size, i.bytes, i.zero)) = some (7, 56, some (.agg #[.int .i64 0, .int .i64 0, .int .i64 0, .int .i64 0, .int .i64 0, .int .u64 0, .int .u64 0])) := by kernel_rfl
theorem ty38 : (P.info? 38).map (fun i => (i.size, i.bytes, i.zero)) = some (1, 24, some (.slice none 0 0)) := by kernel_rfl
theorem ty39 : (P.info? 39).map (fun i => (i.size, i.bytes, i.zero)) = some (1, 24, some (.slice none 0 0)) := by kernel_rfl
theorem ty41 : (P.info? 41).map (fun i => (i.size, i.bytes, i.zero)) = some (4, 64, some (.agg #[.int .i64 0, .slice none 0 0, .slice none 0 0, .bool false])) := by kernel_rfl
theorem ty44 : (P.info? 44).map (fun i => (i.size, i.bytes, i.zero)) = some (3, 24, some (.agg #[.int .i64 0, .int .i64 0, .int .i64 0])) := by kernel_rfl
theorem ty46 : (P.info? 46).map (fun i => (i.size, i.bytes, i.zero)) = some (10, 104, some (.agg #[.int .u8 0, .int .i64 0, .int .i64 0, .string .empty, .int .i64 0, .int .i64 0, .int .i64 0, .int .u64 0, .slice none 0 0, .int .u64 0])) := by kernel_rfl
theorem ty49 : (P.info? 49).map (fun i => (i.size, i.bytes, i.zero)) = some (8, 72, some (.agg #[.string .empty, .int .i64 0, .int .i64 0, .int .i64 0, .int .i64 0, .int .i64 0, .int .i64 0, .int .u64 0])) := by kernel_rfl
theorem ty52 : (P.info? 52).map (fun i => (i.size, i.bytes, i.zero)) = some (3, 24, some (.agg #[.int .u64 0, .int .u64 0, .bool false])) := by kernel_rfl
theorem ty57 : (P.info? 57).map (fun i => (i.size, i.bytes, i.zero)) = some (1, 8, some (.pointer none)) := by kernel_rfl
theorem ty62 : (P.info? 62).map (fun i => (i.size, i.bytes, i.zero)) = some (1, 24, some (.slice none 0 0)) := by kernel_rfl
theorem ty63 : (P.info? 63).map (fun i => (i.size, i.bytes, i.zero)) = some (1, 24, some (.slice none 0 0)) := by kernel_rfl
theorem ty65 : (P.info? 65).map (fun i => (i.size, i.bytes, i.zero)) = some (12, 128, some (.agg #[.int .i64 0, .int .i64 0, .int .i64 0, .int .i64 0, .int .i64 0, .int .u64 0, .int .u64 0, .int .u64 0, .int .u64 0, .bool false, .slice none 0 0, .slice none 0 0])) := by kernel_rfl
theorem ty68 : (P.info? 68).map (fun i => (i.size, i.bytes, i.zero)) = some (1, 24, some (.slice none 0 0)) := by kernel_rfl
theorem ty72 : (P.info? 72).map (fun i => (i.size, i.bytes, i.zero)) = some (1, 24, some (.slice none 0 0)) := by kernel_rfl
theorem ty73 : (P.info? 73).map (fun i => (i.size, i.bytes, i.zero)) = some (1, 24, some (.slice none 0 0)) := by kernel_rfl
theorem ty75 : (P.info? 75).map (fun i => (i.size, i.bytes, i.zero)) = some (12, 128, some (.agg #[.int .i64 0, .int .i64 0, .int .i64 0, .int .i64 0, .int .i64 0, .int .u64 0, .int .u64 0, .int .u64 0, .int .u64 0, .bool false, .slice none 0 0, .slice none 0 0])) := by kernel_rfl
theorem ty76 : (P.info? 76).map (fun i => (i.size, i.bytes, i.zero)) = some (1, 8, some (.pointer none)) := by kernel_rfl
theorem ty85 : (P.info? 85).map (fun i => (i.size, i.bytes, i.zero)) = some (1, 24, some (.slice none 0 0)) := by kernel_rfl
theorem ty87 : (P.info? 87).map (fun i => (i.size, i.bytes, i.zero)) = some (2, 48, some (.agg #[.slice none 0 0, .slice none 0 0])) := by kernel_rfl
theorem ty88 : (P.info? 88).map (fun i => (i.size, i.bytes, i.zero)) = some (1, 8, some (.pointer none)) := by kernel_rfl
theorem ty89 : (P.info? 89).map (fun i => (i.size, i.bytes, i.zero)) = some (1, 24, some (.slice none 0 0)) := by kernel_rfl
theorem ty90 : (P.info? 90).map (fun i => (i.size, i.bytes, i.zero)) = some (8, 192, some (.agg #[.slice none 0 0, .slice none 0 0, .slice none 0 0, .slice none 0 0, .slice none 0 0, .slice none 0 0, .slice none 0 0, .slice none 0 0])) := by kernel_rfl
theorem ty91 : (P.info? 91).map (fun i => (i.size, i.bytes, i.zero)) = some (8, 8, some (.agg #[.bool false, .bool false, .bool false, .bool false, .bool false, .bool false, .bool false, .bool false])) := by kernel_rfl
theorem ty93 : (P.info? 93).map (fun i => (i.size, i.bytes, i.zero)) = some (18, 232, some (.agg #[.int .i64 0, .slice none 0 0, .slice none 0 0, .slice none 0 0, .slice none 0 0, .slice none 0 0, .slice none 0 0, .slice none 0 0, .slice none 0 0, .slice none 0 0, .bool false, .bool false, .bool false, .bool false, .bool false, .bool false, .bool false, .bool false])) := by kernel_rfl
theorem ty96 : (P.info? 96).map (fun i => (i.size, i.bytes, i.zero)) = some (1, 24, some (.slice none 0 0)) := by kernel_rfl
theorem ty97 : (P.info? 97).map (fun i => (i.size, i.bytes, i.zero)) = some (1, 24, some (.slice none 0 0)) := by kernel_rfl
theorem ty101 : (P.info? 101).map (fun i => (i.size, i.bytes, i.zero)) = some (1, 24, some (.slice none 0 0)) := by kernel_rfl
theorem ty113 : (P.info? 113).map (fun i => (i.size, i.bytes, i.zero)) = some (1, 24, some (.slice none 0 0)) := by kernel_rfl
theorem ty115 : (P.info? 115).map (fun i => (i.size, i.bytes, i.zero)) = some (5, 64, some (.agg #[.string .empty, .slice none 0 0, .int .i64 0, .int .i64 0, .int .i64 0])) := by kernel_rfl
theorem ty116 : (P.info? 116).map (fun i => (i.size, i.bytes, i.zero)) = some (1, 24, some (.slice none 0 0)) := by kernel_rfl
theorem ty120 : (P.info? 120).map (fun i => (i.size, i.bytes, i.zero)) = some (1, 24, some (.slice none 0 0)) := by kernel_rfl
theorem ty122 : (P.info? 122).map (fun i => (i.size, i.bytes, i.zero)) = some (2, 48, some (.agg #[.slice none 0 0, .slice none 0 0])) := by kernel_rfl
theorem ty123 : (P.info? 123).map (fun i => (i.size, i.bytes, i.zero)) = some (1, 8, some (.pointer none)) := by kernel_rfl
theorem ty124 : (P.info? 124).map (fun i => (i.size, i.bytes, i.zero)) = some (8, 64, some (.agg #[.pointer none, .pointer none, .pointer none, .pointer none, .pointer none, .pointer none, .pointer none, .pointer none])) := by kernel_rfl
theorem ty126 : (P.info? 126).map (fun i => (i.size, i.bytes, i.zero)) = some (10, 112, some (.agg #[.slice none 0 0, .slice none 0 0, .pointer none, .pointer none, .pointer none, .pointer none, .pointer none, .pointer none, .pointer none, .pointer none])) := by kernel_rfl
theorem ty130 : (P.info? 130).map (fun i => (i.size, i.bytes, i.zero)) = some (1, 4, some (.int .u32 0)) := by kernel_rfl
theorem ty138 : (P.info? 138).map (fun i => (i.size, i.bytes, i.zero)) = some (4, 48, some (.agg #[.slice none 0 0, .int .i64 0, .int .i64 0, .int .i64 0])) := by kernel_rfl
theorem ty145 : (P.info? 145).map (fun i => (i.size, i.bytes, i.zero)) = some (7, 64, some (.agg #[.string .empty, .int .i64 0, .int .i64 0, .int .i64 0, .int .i64 0, .int .i64 0, .int .i64 0])) := by kernel_rfl
theorem ty151 : (P.info? 151).map (fun i => (i.size, i.bytes, i.zero)) = some (4, 32, some (.agg #[.int .i64 0, .int .i64 0, .int .i64 0, .int .u64 0])) := by kernel_rfl
theorem ty156 : (P.info? 156).map (fun i => (i.size, i.bytes, i.zero)) = some (2, 24, some (.agg #[.int .i64 0, .string .empty])) := by kernel_rfl
theorem ty163 : (P.info? 163).map (fun i => (i.size, i.bytes, i.zero)) = some (7, 64, some (.agg #[.string .empty, .int .i64 0, .int .i64 0, .int .i64 0, .int .i64 0, .int .i64 0, .int .i64 0])) := by kernel_rfl
theorem ty166 : (P.info? 166).map (fun i => (i.size, i.bytes, i.zero)) = some (3, 40, some (.agg #[.int .i64 0, .slice none 0 0, .bool false])) := by kernel_rfl
theorem ty172 : (P.info? 172).map (fun i => (i.size, i.bytes, i.zero)) = some (1, 24, some (.slice none 0 0)) := by kernel_rfl
theorem ty188 : (P.info? 188).map (fun i => (i.size, i.bytes, i.zero)) = some (1, 8, some (.int .u64 0)) := by kernel_rfl
theorem q0p {t : TypeId} {d : TypeDesc} {size bytes : Nat} {z : Value} {zero : List Value} (hu : P.underlying t = some d) (hi : (P.info? t).map (fun i => (i.size, i.bytes, i.zero)) = some (size, bytes, some z)) (hz : z.cells.toList = zero) :
 P.underlying t = some d ∧ ∃ i z, P.info? t = some i ∧ i.size = size ∧ i.bytes = bytes ∧ i.zero = some z ∧ z.cells.toList = zero := by
 refine ⟨hu, ?_⟩
 cases h : P.info? t with
 | none => rw [h] at hi; cases hi
 | some i =>
  rw [h] at hi
  simp only [z19, z1d, z34] at hi
  exact ⟨i, z, rfl, hi.1, hi.2.1, hi.2.2, hz⟩
theorem tyOk : TyOk P T := by
 intro t ti h
 unfold T at h
 split at h
 · cases h; exact q0p Tryz.underlying3 ty3 rfl
 · cases h; exact q0p Tryz.underlying4 ty4 rfl
 · cases h; exact q0p Tryz.underlying5 ty5 rfl
 · cases h; exact q0p Tryz.underlying9 ty9 rfl
 · cases h; exact q0p Tryz.underlying22 ty22 rfl
 · cases h; exact q0p Tryz.underlying23 ty23 rfl
 · cases h; exact q0p Tryz.underlying25 ty25 rfl
 · cases h; exact q0p Tryz.underlying29 ty29 rfl
 · cases h; exact q0p Tryz.underlying31 ty31 rfl
 · cases h; exact q0p Tryz.underlying32 ty32 rfl
 · cases h; exact q0p Tryz.underlying36 ty36 rfl
 · cases h; exact q0p Tryz.underlying38 ty38 rfl
 · cases h; exact q0p Tryz.underlying39 ty39 rfl
 · cases h; exact q0p Tryz.underlying41 ty41 rfl
 · cases h; exact q0p Tryz.underlying44 ty44 rfl
 · cases h; exact q0p Tryz.underlying46 ty46 rfl
 · cases h; exact q0p Tryz.underlying49 ty49 rfl
 · cases h; exact q0p Tryz.underlying52 ty52 rfl
 · cases h; exact q0p Tryz.underlying57 ty57 rfl
 · cases h; exact q0p Tryz.underlying62 ty62 rfl
 · cases h; exact q0p Tryz.underlying63 ty63 rfl
 · cases h; exact q0p Tryz.underlying65 ty65 rfl
 · cases h; exact q0p Tryz.underlying68 ty68 rfl
 · cases h; exact q0p Tryz.underlying72 ty72 rfl
 · cases h; exact q0p Tryz.underlying73 ty73 rfl
 · cases h; exact q0p Tryz.underlying75 ty75 rfl
 · cases h; exact q0p Tryz.underlying76 ty76 rfl
 · cases h; exact q0p Tryz.underlying85 ty85 rfl
 · cases h; exact q0p Tryz.underlying87 ty87 rfl
 · cases h; exact q0p Tryz.underlying88 ty88 rfl
 · cases h; exact q0p Tryz.underlying89 ty89 rfl
 · cases h; exact q0p Tryz.underlying90 ty90 rfl
 · cases h; exact q0p Tryz.underlying91 ty91 rfl
 · cases h; exact q0p Tryz.underlying93 ty93 rfl
 · cases h; exact q0p Tryz.underlying96 ty96 rfl
 · cases h; exact q0p Tryz.underlying97 ty97 rfl
 · cases h; exact q0p Tryz.underlying101 ty101 rfl
 · cases h; exact q0p Tryz.underlying113 ty113 rfl
 · cases h; exact q0p Tryz.underlying115 ty115 rfl
 · cases h; exact q0p Tryz.underlying116 ty116 rfl
 · cases h; exact q0p Tryz.underlying120 ty120 rfl
 · cases h; exact q0p Tryz.underlying122 ty122 rfl
 · cases h; exact q0p Tryz.underlying123 ty123 rfl
 · cases h; exact q0p Tryz.underlying124 ty124 rfl
 · cases h; exact q0p Tryz.underlying126 ty126 rfl
 · cases h; exact q0p Tryz.underlying130 ty130 rfl
 · cases h; exact q0p Tryz.underlying138 ty138 rfl
 · cases h; exact q0p Tryz.underlying145 ty145 rfl
 · cases h; exact q0p Tryz.underlying151 ty151 rfl
 · cases h; exact q0p Tryz.underlying156 ty156 rfl
 · cases h; exact q0p Tryz.underlying163 ty163 rfl
 · cases h; exact q0p Tryz.underlying166 ty166 rfl
 · cases h; exact q0p Tryz.underlying172 ty172 rfl
 · cases h; exact q0p Tryz.underlying188 ty188 rfl
 · cases h
theorem eqc36 {xs ys : List AV} : eqC P T 36 xs ys = (kOks [.int .i64, .int .i64, .int .i64, .int .i64, .int .i64, .int .u64, .int .u64] xs ys = true) := qam (by kernel_rfl) (by kernel_rfl)
theorem eqc44 {xs ys : List AV} : eqC P T 44 xs ys = (kOks [.int .i64, .int .i64, .int .i64] xs ys = true) := qam (by kernel_rfl) (by kernel_rfl)
theorem eqc49 {xs ys : List AV} : eqC P T 49 xs ys = (kOks [.str, .int .i64, .int .i64, .int .i64, .int .i64, .int .i64, .int .i64, .int .u64] xs ys = true) := qam (by kernel_rfl) (by kernel_rfl)
theorem eqc52 {xs ys : List AV} : eqC P T 52 xs ys = (kOks [.int .u64, .int .u64, .bool] xs ys = true) := qam (by kernel_rfl) (by kernel_rfl)
theorem eqc145 {xs ys : List AV} : eqC P T 145 xs ys = (kOks [.str, .int .i64, .int .i64, .int .i64, .int .i64, .int .i64, .int .i64] xs ys = true) := qam (by kernel_rfl) (by kernel_rfl)
theorem eqc151 {xs ys : List AV} : eqC P T 151 xs ys = (kOks [.int .i64, .int .i64, .int .i64, .int .u64] xs ys = true) := qam (by kernel_rfl) (by kernel_rfl)
theorem eqc156 {xs ys : List AV} : eqC P T 156 xs ys = (kOks [.int .i64, .str] xs ys = true) := qam (by kernel_rfl) (by kernel_rfl)
theorem eqc163 {xs ys : List AV} : eqC P T 163 xs ys = (kOks [.str, .int .i64, .int .i64, .int .i64, .int .i64, .int .i64, .int .i64] xs ys = true) := qam (by kernel_rfl) (by kernel_rfl)
attribute [go_sem] T eqc36 eqc44 eqc49 eqc52 eqc145 eqc151 eqc156 eqc163
end Go.Proofs.YtdkcpcflfnakdaaGreat
namespace Go.Proofs.YtdkcpcflfnakdaaGreat
open Go Go.Proofs.YtdkcpcflfnakdaaGreat.Sym
structure StrictOrd {α : Type} (lt : α → α → Bool) : Prop where
 irrefl : ∀ a, lt a a = false
 trans : ∀ a b c, lt a b = true → lt b c = true → lt a c = true
 total : ∀ a b, lt a b = false → lt b a = false → a = b
section
variable {α : Type} {lt : α → α → Bool}
def q8t (lt : α → α → Bool) (l : List α) : Prop := l.Pairwise fun a b => lt a b = true
def lb (lt : α → α → Bool) (l : List α) (k : α) : Nat := (l.takeWhile fun x => lt x k).length
theorem qcw (l : List α) (k : α) : lb lt l k ≤ l.length := by
 unfold lb
 induction l with
 | nil => exact z09 _
 | cons x xs ih =>
  simp only [z2v]
  split
  · simp; exact ih
  · simp
theorem lb_lt {l : List α} {k : α} : ∀ {i : Nat} (h : i < lb lt l k), lt (l[i]'(z10 h (qcw l k))) k = true := by
 induction l with
 | nil => intro i h; simp [lb] at h
 | cons x xs ih =>
  intro i h
  have h' := h
  simp only [lb, z2v] at h'
  split at h'
  · rename_i hx
    cases i with
    | zero => exact hx
    | succ i => exact ih (i := i) (by simpa [lb] using h')
  · simp at h'
theorem lb_ge (O : StrictOrd lt) {l : List α} (hl : q8t lt l) {k : α} : ∀ {i : Nat} (h : i < l.length), lb lt l k ≤ i → lt l[i] k = false := by
 induction l with
 | nil => intro i h; simp at h
 | cons x xs ih =>
  intro i h hi
  have hp := z2f.1 hl
  by_cases hx : lt x k = true
  · cases i with
    | zero => simp [lb, z2v, hx] at hi
    | succ i =>
     refine ih hp.2 (by simpa using h) ?_
     simp only [lb, z2v, hx, if_true, z02] at hi ⊢
     omega
  · have hx' : lt x k = false := by simpa using hx
    cases i with
    | zero => exact hx'
    | succ i =>
     have hi' : i < xs.length := by simpa using h
     cases hc : lt xs[i] k with
     | false => simpa using hc
     | true =>
      have := O.trans _ _ _ (hp.1 _ (z1i hi')) hc
      rw [hx'] at this; cases this
theorem qye (O : StrictOrd lt) {l : List α} (hl : q8t lt l) {k : α} {p : Nat} (hp : p ≤ l.length) (h1 : ∀ i (h : i < l.length), i < p → lt l[i] k = true) (h2 : ∀ i (h : i < l.length), p ≤ i → lt l[i] k = false) : p = lb lt l k := by
 rcases Nat.lt_trichotomy p (lb lt l k) with h | h | h
 · have a := lb_lt h
   have b := h2 p (z10 h (qcw l k)) (z09 _)
   rw [b] at a; cases a
 · exact h
 · have hlt : lb lt l k < l.length := by omega
   have a := lb_ge O hl hlt (z09 _)
   have b := h1 _ hlt h
   rw [b] at a; cases a
def q1q (lt eq : α → α → Bool) (l : List α) (k : α) : Bool := match l[lb lt l k]? with | some x => eq x k | none => false
theorem q6r {eq : α → α → Bool} {l : List α} {k : α} (h : lb lt l k < l.length) : q1q lt eq l k = eq l[lb lt l k] k := by
 rw [q1q, z05 h]
theorem q88 {eq : α → α → Bool} {l : List α} {k : α} (h : ¬ lb lt l k < l.length) : q1q lt eq l k = false := by
 rw [q1q, z0p (by omega)]
theorem qg1 (O : StrictOrd lt) {eq : α → α → Bool} (he : ∀ a b, eq a b = true ↔ a = b) {l : List α} (hl : q8t lt l) {k : α} : q1q lt eq l k = true ↔ k ∈ l := by
 constructor
 · intro h
   by_cases hc : lb lt l k < l.length
   · rw [q6r hc] at h
     rw [← (he _ _).1 h]; exact z1i hc
   · rw [q88 hc] at h; cases h
 · intro h
   obtain ⟨i, hi, rfl⟩ := z3v.1 h
   have h1 : lb lt l l[i] = i := by
    refine (qye O hl (Nat.le_of_lt hi) (fun j hj hji => z2x.1 hl j i hj hi hji) (fun j hj hij => ?_)).symm
    rcases Nat.lt_or_ge i j with h | h
    · have a := z2x.1 hl i j hi hj h
      cases hc : lt l[j] l[i] with
      | false => rfl
      | true => have := O.trans _ _ _ a hc; rw [O.irrefl] at this; cases this
    · obtain rfl : i = j := by omega
      exact O.irrefl _
   rw [q6r (by omega)]
   simp only [h1]
   exact (he _ _).2 rfl
end
def ltI (a b : Int) : Bool := decide (a < b)
def eqI (a b : Int) : Bool := a == b
theorem ordI : StrictOrd ltI := ⟨fun a => by simp [ltI], fun a b c h1 h2 => by simp [ltI] at *; omega, fun a b h1 h2 => by simp [ltI] at *; omega⟩
theorem qhd (a b : Int) : eqI a b = true ↔ a = b := by simp [eqI]
def ltS (a b : ByteArray) : Bool := Op.bytesLess a.toList b.toList
def eqS (a b : ByteArray) : Bool := a.toList == b.toList
theorem qiu : ∀ l : List UInt8, Op.bytesLess l l = false
 | [] => rfl
 | a :: l => by simp [Op.bytesLess, qiu l]
theorem qle : ∀ a b c : List UInt8, Op.bytesLess a b = true → Op.bytesLess b c = true → Op.bytesLess a c = true
 | _, [], _, h, _ => by simp [Op.bytesLess] at h
 | _, _ :: _, [], _, h => by simp [Op.bytesLess] at h
 | [], _ :: _, _ :: _, _, _ => rfl
 | a :: x, b :: y, c :: z, h1, h2 => by
  simp only [Op.bytesLess, z1q, decide_eq_true_eq, z0d, beq_iff_eq] at h1 h2 ⊢
  rcases h1 with h1 | ⟨rfl, h1⟩
  · rcases h2 with h2 | ⟨rfl, h2⟩
    · exact .inl (UInt8.lt_trans h1 h2)
    · exact .inl h1
  · rcases h2 with h2 | ⟨rfl, h2⟩
    · exact .inl h2
    · exact .inr ⟨rfl, qle x y z h1 h2⟩
theorem qlp : ∀ a b : List UInt8, Op.bytesLess a b = false → Op.bytesLess b a = false → a = b
 | [], [], _, _ => rfl
 | [], _ :: _, h, _ => by simp [Op.bytesLess] at h
 | _ :: _, [], _, h => by simp [Op.bytesLess] at h
 | a :: x, b :: y, h1, h2 => by
  simp only [Op.bytesLess, z2m, decide_eq_false_iff_not, z4a, beq_iff_eq] at h1 h2
  have hab : a = b := by
   apply UInt8.toNat_inj.1
   have p := h1.1; have q := h2.1
   rw [UInt8.lt_iff_toNat_lt] at p q
   omega
  subst hab
  rw [qlp x y (h1.2 rfl) (h2.2 rfl)]
theorem qka {a b : ByteArray} (h : a.toList = b.toList) : a = b := by
 have e : ∀ c : ByteArray, c.toList = c.data.toList := fun c => by
  exact ByteArray.toList_eq c
 rw [e, e] at h
 cases a; cases b
 simp at h
 rw [h]
theorem ordS : StrictOrd ltS := ⟨fun a => qiu _, fun a b c h1 h2 => qle _ _ _ h1 h2, fun a b h1 h2 => qka (qlp _ _ h1 h2)⟩
theorem q0t (a b : ByteArray) : eqS a b = true ↔ a = b := by
 rw [eqS, beq_iff_eq]
 exact ⟨qka, fun h => by rw [h]⟩
end Go.Proofs.YtdkcpcflfnakdaaGreat
namespace Go.Proofs.YtdkcpcflfnakdaaGreat
section
variable {α β : Type} {lt eq : α → α → Bool}
def q2p (lt eq : α → α → Bool) (m : List (α × β)) (k : α) (v : β) : List (α × β) :=
 if q1q lt eq (m.map Prod.fst) k = true then m.set (lb lt (m.map Prod.fst) k) (k, v)
 else m.take (lb lt (m.map Prod.fst) k) ++ [(k, v)] ++ m.drop (lb lt (m.map Prod.fst) k)
def q1l (lt eq : α → α → Bool) (m : List (α × β)) (k : α) : List (α × β) :=
 if q1q lt eq (m.map Prod.fst) k = true then m.take (lb lt (m.map Prod.fst) k) ++ m.drop (lb lt (m.map Prod.fst) k + 1) else m
def getG (lt eq : α → α → Bool) (none : β) (m : List (α × β)) (k : α) : β × Bool :=
 if q1q lt eq (m.map Prod.fst) k = true then ((m.map Prod.snd).getD (lb lt (m.map Prod.fst) k) none, true) else (none, false)
abbrev q3p (lt : α → α → Bool) (m : List (α × β)) : Prop := q8t lt (m.map Prod.fst)
theorem q2r {m : List (α × β)} : q3p lt m ↔ m.Pairwise fun a b => lt a.1 b.1 = true := z5j
theorem qj2 (m : List (α × β)) (k : α) (v : β) : (q2p lt eq m k v).length ≤ m.length + 1 := by
 unfold q2p
 split
 · simp
 · simp
   omega
theorem qii (m : List (α × β)) (k : α) : (q1l lt eq m k).length ≤ m.length := by
 unfold q1l
 split
 · simp; omega
 · exact z09 _
theorem q8h {p : α × β → Bool} {l : List (α × β)} (h : ∀ x ∈ l, p x = false) : l.filter p = [] := by
 rw [List.filter_eq_nil_iff]; intro x hx; rw [h x hx]; decide
theorem q3l {p : α × β → Bool} {l : List (α × β)} (h : ∀ x ∈ l, p x = true) : l.filter p = l := List.filter_eq_self.2 h
theorem qdt (O : StrictOrd lt) (he : ∀ a b, eq a b = true ↔ a = b) {m : List (α × β)} (hr : q3p lt m) (k : α) (v : β) :
 q2p lt eq m k v = m.filter (fun p => lt p.1 k) ++ [(k, v)] ++ m.filter (fun p => lt k p.1) := by
 induction m with
 | nil => simp [q2p, q1q, lb]
 | cons x xs ih =>
  have hp := z2f.1 (q2r.1 hr)
  by_cases hx : lt x.1 k = true
  · have hkx : lt k x.1 = false := by
     cases hc : lt k x.1 with
     | false => rfl
     | true => have := O.trans _ _ _ hx hc; rw [O.irrefl] at this; cases this
    have hlb : lb lt ((x :: xs).map Prod.fst) k = lb lt (xs.map Prod.fst) k + 1 := by simp [lb, z2v, hx]
    have hh : q1q lt eq ((x :: xs).map Prod.fst) k = q1q lt eq (xs.map Prod.fst) k := by unfold q1q; rw [hlb]; simp
    have e : q2p lt eq (x :: xs) k v = x :: q2p lt eq xs k v := by
     unfold q2p
     rw [hh, hlb]
     split <;> simp
    rw [e, ih (q2r.2 hp.2), z1p, z1p, hx, hkx]
    simp
  · have hx' : lt x.1 k = false := by simpa using hx
    have hlb : lb lt ((x :: xs).map Prod.fst) k = 0 := by simp [lb, z2v, hx']
    have hh : q1q lt eq ((x :: xs).map Prod.fst) k = eq x.1 k := by unfold q1q; rw [hlb]; simp
    have hlow : ∀ y ∈ xs, lt y.1 k = false := by
     intro y hy
     cases hc : lt y.1 k with
     | false => rfl
     | true => have := O.trans _ _ _ (hp.1 y hy) hc; rw [hx'] at this; cases this
    unfold q2p
    rw [hh, hlb, z1p, hx', q8h hlow]
    cases heq : eq x.1 k with
    | true =>
     have hk := (he _ _).1 heq
     subst hk
     rw [z1p, O.irrefl, q3l (l := xs) (fun y hy => hp.1 y hy)]
     simp
    | false =>
     have hkx : lt k x.1 = true := by
      cases hc : lt k x.1 with
      | true => rfl
      | false =>
       have := O.total _ _ hx' hc
       rw [(he _ _).2 this] at heq; cases heq
     rw [z1p, hkx, q3l (l := xs) (fun y hy => O.trans _ _ _ hkx (hp.1 y hy))]
     simp
theorem q5r (O : StrictOrd lt) (he : ∀ a b, eq a b = true ↔ a = b) {m : List (α × β)} (hr : q3p lt m) (k : α) :
 q1l lt eq m k = m.filter (fun p => !eq p.1 k) := by
 induction m with
 | nil => simp [q1l, q1q, lb]
 | cons x xs ih =>
  have hp := z2f.1 (q2r.1 hr)
  by_cases hx : lt x.1 k = true
  · have hne : eq x.1 k = false := by
     cases hc : eq x.1 k with
     | false => rfl
     | true => rw [(he _ _).1 hc, O.irrefl] at hx; cases hx
    have hlb : lb lt ((x :: xs).map Prod.fst) k = lb lt (xs.map Prod.fst) k + 1 := by simp [lb, z2v, hx]
    have hh : q1q lt eq ((x :: xs).map Prod.fst) k = q1q lt eq (xs.map Prod.fst) k := by unfold q1q; rw [hlb]; simp
    have e : q1l lt eq (x :: xs) k = x :: q1l lt eq xs k := by
     unfold q1l
     rw [hh, hlb]
     split <;> simp
    rw [e, ih (q2r.2 hp.2), z1p, hne]
    simp
  · have hx' : lt x.1 k = false := by simpa using hx
    have hlb : lb lt ((x :: xs).map Prod.fst) k = 0 := by simp [lb, z2v, hx']
    have hh : q1q lt eq ((x :: xs).map Prod.fst) k = eq x.1 k := by unfold q1q; rw [hlb]; simp
    have hne : ∀ y ∈ xs, eq y.1 k = false := by
     intro y hy
     cases hc : eq y.1 k with
     | false => rfl
     | true =>
      have h1 := hp.1 y hy
      rw [(he _ _).1 hc, hx'] at h1; cases h1
    unfold q1l
    rw [hh, hlb, z1p, q3l (l := xs) (fun y hy => by rw [hne y hy]; rfl)]
    cases heq : eq x.1 k <;> simp
theorem qlb (O : StrictOrd lt) (he : ∀ a b, eq a b = true ↔ a = b) {m : List (α × β)} (hr : q3p lt m) (k : α) (v : β) : q3p lt (q2p lt eq m k v) := by
 rw [qdt O he hr]
 have h0 := q2r.1 hr
 refine q2r.2 ?_
 rw [z1r, z2e]
 refine ⟨h0.sublist z2w, ?_, ?_⟩
 · rw [z1u, z21, z2f]
   exact ⟨fun y hy => (z1v.1 hy).2, h0.sublist z2w⟩
 · intro a ha b hb
   have ha := (z1v.1 ha).2
   rcases z0q.1 hb with hb | hb
   · obtain rfl : b = (k, v) := by simpa using hb
     exact ha
   · exact O.trans _ _ _ ha (z1v.1 hb).2
theorem qfi (O : StrictOrd lt) (he : ∀ a b, eq a b = true ↔ a = b) {m : List (α × β)} (hr : q3p lt m) (k : α) : q3p lt (q1l lt eq m k) := by
 rw [q5r O he hr]
 exact q2r.2 ((q2r.1 hr).sublist z2w)
theorem qhb (O : StrictOrd lt) (he : ∀ a b, eq a b = true ↔ a = b) {m : List (α × β)} (hr : q3p lt m) {k : α} {v none : β} (h : (k, v) ∈ m) : getG lt eq none m k = (v, true) := by
 obtain ⟨i, hi, hiv⟩ := z3v.1 h
 have hmk : k ∈ m.map Prod.fst := z1b.2 ⟨_, h, rfl⟩
 have hh := (qg1 O he hr).2 hmk
 have hki : (m.map Prod.fst)[i]'(by simpa using hi) = k := by simp [hiv]
 have hlb : lb lt (m.map Prod.fst) k = i := by
  have hl : lb lt (m.map Prod.fst) k < (m.map Prod.fst).length := by
   apply z2k
   intro hc
   rw [q88 (by omega)] at hh; cases hh
  rw [q6r hl] at hh
  have h2 := (he _ _).1 hh
  rcases Nat.lt_trichotomy (lb lt (m.map Prod.fst) k) i with h3 | h3 | h3
  · have := z2x.1 hr _ _ hl (by simpa using hi) h3
    rw [h2, hki, O.irrefl] at this; cases this
  · exact h3
  · have := z2x.1 hr _ _ (by simpa using hi) hl h3
    rw [h2, hki, O.irrefl] at this; cases this
 unfold getG
 rw [if_pos hh, hlb, z04, z11, z05 hi, hiv]
 rfl
theorem qem (O : StrictOrd lt) (he : ∀ a b, eq a b = true ↔ a = b) {m : List (α × β)} (hr : q3p lt m) {k : α} {none : β} (h : k ∉ m.map Prod.fst) : getG lt eq none m k = (none, false) := by
 unfold getG
 rw [if_neg (fun hc => h ((qg1 O he hr).1 hc))]
theorem qcf (O : StrictOrd lt) (he : ∀ a b, eq a b = true ↔ a = b) {m : List (α × β)} (hr : q3p lt m) {k : α} {v : β} {p : α × β} : p ∈ q2p lt eq m k v ↔ p = (k, v) ∨ (p ∈ m ∧ p.1 ≠ k) := by
 rw [qdt O he hr]
 simp only [z0q, z1v, z1j]
 constructor
 · rintro ((⟨h1, h2⟩ | h) | ⟨h1, h2⟩)
   · exact .inr ⟨h1, fun hc => by rw [hc, O.irrefl] at h2; cases h2⟩
   · exact .inl h
   · exact .inr ⟨h1, fun hc => by rw [hc, O.irrefl] at h2; cases h2⟩
 · rintro (h | ⟨h1, h2⟩)
   · exact .inl (.inr h)
   · cases ha : lt p.1 k with
     | true => exact .inl (.inl ⟨h1, rfl⟩)
     | false =>
      cases hb : lt k p.1 with
      | true => exact .inr ⟨h1, rfl⟩
      | false => exact absurd (O.total _ _ ha hb) h2
end
end Go.Proofs.YtdkcpcflfnakdaaGreat
namespace Go.Proofs.YtdkcpcflfnakdaaGreat
open Go Go.Proofs.YtdkcpcflfnakdaaGreat.Sym
set_option maxRecDepth 100000
set_option maxHeartbeats 1000000
abbrev u64 (n : Int) : AV := .v (.int .u64 n)
abbrev i64 (n : Int) : AV := .v (.int .i64 n)
abbrev bool (b : Bool) : AV := .v (.bool b)
abbrev str (s : ByteArray) : AV := .v (.string s)
theorem wrap_i64 {n : Int} (h1 : -9223372036854775808 ≤ n) (h2 : n ≤ 9223372036854775807) : IntKind.i64.wrap n = n := by rw [z4f]; omega
theorem wrap_u64 {n : Int} (h1 : 0 ≤ n) (h2 : n ≤ 18446744073709551615) : IntKind.u64.wrap n = n := by rw [z2z]; omega
theorem q2d {α : Type} {l : List α} {f : α → AV} {i : Nat} (h : i < l.length) : (l.map f).getD (Int.toNat (i : Int)) .any = f l[i] := by
 simp [z04, z05 h]
theorem qgg {α : Type} {l : List α} {f : α → AV} {i : Nat} (h : i < l.length) {x : AV} (hx : x = f l[i]) : (l.map f).set i x = l.map f := by
 subst hx
 apply z1e
 intro j
 by_cases hj : i = j
 · subst hj
   rw [z0m (by simpa using h), z11, z05 h]; rfl
 · rw [z0e hj]
theorem qc3 {i sz : Nat} {f : AV} {xs : List AV} (h : i < xs.length) : (if 0 + (xs.length - 1) ≤ (xs.take i ++ xs.drop (i + 1) ++ [f]).length then AV.sl sz ((xs.take i ++ xs.drop (i + 1) ++ [f]).take (xs.length - 1)) else .any) = .sl sz (xs.take i ++ xs.drop (i + 1)) := by
 rw [if_pos (by simp; omega), z0x (by simp; omega), z07 (by simp; omega)]
theorem qq9 {i j : Nat} (h : i + j ≤ 9223372036854775807) (hij : i < j) : i ≤ (i + j) / 2 ∧ (i + j) / 2 < j ∧ IntKind.i64.wrap (shrF .u64 (IntKind.u64.wrap (IntKind.i64.wrap ((i : Int) + (j : Int)))) 1) = (((i + j) / 2 : Nat) : Int) := by
 refine ⟨by omega, by omega, ?_⟩
 have e : IntKind.i64.wrap ((i : Int) + (j : Int)) = ((i + j : Nat) : Int) := by rw [wrap_i64 (by omega) (by omega)]; rfl
 rw [e, wrap_u64 (by omega) (by omega)]
 have e2 : shrF .u64 ((i + j : Nat) : Int) 1 = (((i + j) / 2 : Nat) : Int) := by
  show ((i + j : Nat) : Int).fdiv (2 ^ 1) = _
  rw [Int.fdiv_eq_ediv_of_nonneg _ (by decide)]
  omega
 rw [e2, wrap_i64 (by omega) (by omega)]
theorem qli (a : Int) : q08 P 145 [i64 a] (fun x => x = bool false) := by
 refine q09 tyOk Tryz.func145 rfl rfl fun K hK => ?_
 simp only [seval, go_sem, Tryz.ntmps145]
 apply hK
 simp only [seval, go_sem, Tryz.results145]
theorem qvo (a : ByteArray) : q08 P 147 [str a] (fun x => x = bool false) := by
 refine q09 tyOk Tryz.func147 rfl rfl fun K hK => ?_
 simp only [seval, go_sem, Tryz.ntmps147]
 apply hK
 simp only [seval, go_sem, Tryz.results147]
theorem qo8 (a : ByteArray) : q08 P 140 [str a] (fun x => x = bool false) := by
 refine q09 tyOk Tryz.func140 rfl rfl fun K hK => ?_
 simp only [seval, go_sem, Tryz.ntmps140]
 apply hK
 simp only [seval, go_sem, Tryz.results140]
theorem less_str (a b : ByteArray) : q08 P 139 [str a, str b] (fun x => x = bool (ltS a b)) := by
 refine q09 tyOk Tryz.func139 rfl rfl fun K hK => ?_
 simp only [seval, go_sem, Tryz.ntmps139]
 (refine q00 (qvo a) rfl ?_; rintro _ rfl)
 simp only [seval, go_sem]
 apply hK
 simp only [seval, go_sem, Tryz.results139]
 all_goals rfl
theorem qk7 (ks : List ByteArray) (hr : q8t ltS ks) (k : ByteArray) (hlen : ks.length ≤ 1000000) :
 q08 P 123 [.sl 1 (ks.map fun x => str x), str k] (fun x => x = .tup [i64 ((lb ltS ks k : Nat) : Int), bool (q1q ltS eqS ks k)]) := by
 refine q09 tyOk Tryz.func123 rfl rfl fun K hK => ?_
 simp only [seval, go_sem, Tryz.ntmps123, z0f]
 have hle := qcw (lt := ltS) ks k
 refine q0d tyOk (α := Nat × Nat) 0 [0, 1, 4, 5, 6, 7, 8] (fun q => q.1 ≤ lb ltS ks k ∧ lb ltS ks k ≤ q.2 ∧ q.2 ≤ ks.length)
  (fun q => ⟨[.sl 1 (ks.map fun x => str x), str k, .any, .any, i64 0, bool false, i64 ks.length, i64 q.1, i64 q.2, .any, .any, .any, .any, .any, .any, .any, .any, .any, .any, .any, .any, .any, .any, .any, .any, .any, .any, .any, .any, .any, .any, .any, .any, .any, .any, .any, .any, .any, .any, .any, .any, .any, .any, .any, .any, .any, .any, .any, .any, .any, .any, .any, .any, .any], []⟩)
  (fun q => q.2 - q.1) (0, ks.length) (z00 _) ⟨z00 _, hle, z09 _⟩ rfl ?_
 rintro ⟨i, j⟩ ⟨h1, h2, h3⟩
 simp only at h1 h2 h3
 simp only [seval, go_sem]
 refine q02 ?_ ?_ <;> intro hc <;> simp only [seval, go_sem]
 · have hij : i < j := by simpa using hc
   obtain ⟨hh, hlt, ew⟩ := qq9 (i := i) (j := j) (by omega) hij
   have hhn : (i + j) / 2 < ks.length := by omega
   have eg := q2d (f := fun x : ByteArray => str x) hhn
   have k1 : (0 : Int) ≤ (((i + j) / 2 : Nat) : Int) ∧ Int.toNat (((i + j) / 2 : Nat) : Int) < ks.length := by omega
   have w1 : IntKind.i64.wrap ((((i + j) / 2 : Nat) : Int) + 1) = (((i + j) / 2 + 1 : Nat) : Int) := by rw [wrap_i64 (by omega) (by omega)]; rfl
   simp only [seval, go_sem, ew, eg, k1, z0f]
   (refine q00 (less_str _ k) rfl ?_; rintro _ rfl)
   cases hl : ltS ks[(i + j) / 2] k
   · simp only [seval, go_sem]
     simp only [seval, go_sem, q01]
     refine ⟨(i, (i + j) / 2), ⟨h1, ?_, by omega⟩, by simp only; omega, rfl⟩
     apply z1x
     intro hb
     have := lb_lt (lt := ltS) hb
     rw [hl] at this; cases this
   · simp only [seval, go_sem, w1]
     simp only [seval, go_sem, q01]
     refine ⟨((i + j) / 2 + 1, j), ⟨?_, h2, h3⟩, by simp only; omega, rfl⟩
     apply z2k
     intro hb
     have := lb_ge ordS hr hhn hb
     rw [hl] at this; cases this
 · have hij : ¬ i < j := by simpa using hc
   obtain rfl : i = lb ltS ks k := by omega
   by_cases hn : lb ltS ks k < ks.length
   · have eg := q2d (f := fun x : ByteArray => str x) hn
     have k1 : (0 : Int) ≤ ((lb ltS ks k : Nat) : Int) ∧ Int.toNat ((lb ltS ks k : Nat) : Int) < ks.length := by omega
     have d1 : decide (((lb ltS ks k : Nat) : Int) < (ks.length : Int)) = true := decide_eq_true (by omega)
     have hh := q6r (eq := eqS) hn
     rw [hh] at hK
     cases he : eqS ks[lb ltS ks k] k
     · rw [he] at hK
       have he' := he
       simp only [eqS] at he'
       simp only [seval, go_sem, d1, eg, k1, z0f, he']
       (refine q00 (qo8 _) rfl ?_; rintro _ rfl)
       simp only [seval, go_sem]
       apply hK
       simp only [seval, go_sem, Tryz.results123]
     · rw [he] at hK
       have he' := he
       simp only [eqS] at he'
       simp only [seval, go_sem, d1, eg, k1, z0f, he']
       apply hK
       simp only [seval, go_sem, Tryz.results123]
   · have d1 : decide (((lb ltS ks k : Nat) : Int) < (ks.length : Int)) = false := decide_eq_false (by omega)
     rw [q88 hn] at hK
     simp only [seval, go_sem, d1]
     apply hK
     simp only [seval, go_sem, Tryz.results123]
end Go.Proofs.YtdkcpcflfnakdaaGreat
namespace Go.Proofs.YtdkcpcflfnakdaaGreat
open Go Go.Proofs.YtdkcpcflfnakdaaGreat.Sym
set_option maxRecDepth 100000
set_option maxHeartbeats 1000000
theorem qd3 (xs : List AV) (hlen : xs.length ≤ 1000000) :
 ACall P 103 [] [.sl 1 xs] (fun x m' => x = .own 0 1 0 xs.length ∧ m' = [.row 9 1 xs]) := by
 have hm : xs.length ≤ maxLen := by simp only [maxLen]; omega
 have hby : xs.length * 16 ≤ 140737488355328 := by omega
 by_cases h0 : xs = []
 · subst h0
   refine ACall.empty fun a cap => ?_
   cases a with
   | none =>
    refine ACall.weaken (K := fun x m' => x = .v (.slice none 0 0) ∧ m' = []) (q0j.toA (q1f tyOk Tryz.func103 rfl rfl (N := 0) (M := 1) (z00 _) (by simp) ?_)) ?_
    · intro K hK
      simp only [seval, go_sem, Tryz.ntmps103]
      apply hK
      simp only [seval, go_sem, Tryz.results103]
    · rintro x m' ⟨rfl, rfl⟩
      exact ⟨_, _, q0c.adopt (i := 0) 9 1 rfl, rfl, rfl⟩
   | some a =>
    refine q0j.toA (q1f tyOk Tryz.func103 rfl rfl (N := 0) (M := 1) (z00 _) (by simp) ?_)
    intro K hK
    simp only [seval, go_sem, Tryz.ntmps103]
    apply hK
    simp only [seval, go_sem, Tryz.results103]
 · have hpos : 0 < xs.length := z3y.2 h0
   refine q0j.toA (q1f tyOk Tryz.func103 rfl rfl (N := 0) (M := 1) (z00 _) (by simp) ?_)
   intro K hK
   simp only [seval, go_sem, Tryz.ntmps103, hpos]
   refine ⟨⟨hm, hby⟩, ?_⟩
   apply hK
   simp only [seval, go_sem, Tryz.results103]
theorem ql2 (xs : List AV) (i : Nat) (hi : i < xs.length) (hlen : xs.length ≤ 1000000) :
 ACall P 102 [.row 9 1 xs] [.own 0 1 0 xs.length, i64 (i : Int), i64 ((i + 1 : Nat) : Int)] (fun x m' => x = .own 0 1 0 (xs.length - 1) ∧ m' = [.row 9 1 (xs.take i ++ xs.drop (i + 1) ++ [str .empty])]) := by
 refine ACall.weaken (K := fun x m' => x = .own 0 1 0 (xs.length - 1) ∧ ∃ N, m' = [.rowc 9 1 (xs.take i ++ xs.drop (i + 1) ++ [str .empty]) N]) (q0j.toA (m := [_]) (q0j.room (by decide) fun N hN _ => ?_)) ?_
 · refine q3a tyOk Tryz.func102 rfl rfl (by simp) fun K hK => ?_
   simp only [seval, go_sem, Tryz.ntmps102]
   have f1 : ((i : Int) == ((i + 1 : Nat) : Int)) = false := by simp; omega
   simp only [seval, go_sem, z0g, f1]
   refine ⟨by omega, ?_⟩
   by_cases he : i + 1 = xs.length
   · have e1 : (xs.take i ++ xs.drop i).length = xs.length := by rw [z1o]
     have e2 : ((xs.take i ++ xs.drop i).take i ++ List.replicate (xs.length - i) (str .empty)) ++ (xs.take i ++ xs.drop i).drop (i + (xs.length - i)) = xs.take i ++ xs.drop (i + 1) ++ [str .empty] := by
      rw [z1o, z14 (by omega), z14 (by omega), show xs.length - i = 1 by omega, z0i, z0i]
      rfl
     have hni : ¬ i = xs.length := by omega
     refine q0a tyOk (by rfl) (by simp only [z02, z0a, Nat.reduceAdd, z09]) (by kernel_rfl) rfl ?_
     simp only [seval, go_sem, z0g, he]
     refine ⟨by omega, by omega, by omega, ?_⟩
     refine ⟨by kernel_rfl, ?_⟩
     simp only [seval, go_sem, hni, e1]
     refine ⟨by omega, by omega, ?_⟩
     apply hK
     simp only [seval, go_sem, Tryz.results102]
     simp only [e2]
     all_goals exact ⟨by congr 1; omega, N, rfl⟩
   · have hd : (xs.drop (i + 1)).length = xs.length - (i + 1) := by simp
     have ht : (xs.drop (i + 1)).take (xs.length - (i + 1)) = xs.drop (i + 1) := z07 (by simp)
     have hni : ¬ i + (xs.length - (i + 1)) = xs.length := by omega
     have e1 : (xs.take i ++ xs.drop (i + 1) ++ xs.drop (i + (xs.length - (i + 1)))).length = xs.length := by simp; omega
     have e2 : (xs.take i ++ xs.drop (i + 1) ++ xs.drop (i + (xs.length - (i + 1)))).take (i + (xs.length - (i + 1))) ++ List.replicate (xs.length - (i + (xs.length - (i + 1)))) (str .empty) ++
      (xs.take i ++ xs.drop (i + 1) ++ xs.drop (i + (xs.length - (i + 1)))).drop (i + (xs.length - (i + 1)) + (xs.length - (i + (xs.length - (i + 1))))) = xs.take i ++ xs.drop (i + 1) ++ [str .empty] := by
      rw [show xs.length - (i + (xs.length - (i + 1))) = 1 by omega, z14 (l := xs.take i ++ xs.drop (i + 1) ++ xs.drop (i + (xs.length - (i + 1)))) (by rw [e1]; omega), z0i,
       z0x (by simp; omega), z07 (by simp; omega)]
      rfl
     refine q0a tyOk (by rfl) (by simp only [z02, z0a, Nat.reduceAdd, z09]) (by kernel_rfl) rfl ?_
     simp only [seval, go_sem, z0g, he, ht, hd]
     refine ⟨by omega, by omega, by omega, ?_⟩
     refine ⟨by kernel_rfl, ?_⟩
     simp only [seval, go_sem, hni, e1]
     refine ⟨by omega, by omega, ?_⟩
     apply hK
     simp only [seval, go_sem, Tryz.results102]
     simp only [e2]
     all_goals exact ⟨by congr 1; omega, N, rfl⟩
 · rintro x m' ⟨rfl, N, rfl⟩
   exact ⟨_, _, q0c.unroom, rfl, rfl⟩
theorem qko (xs : List AV) (v : AV) (i : Nat) (hi : i ≤ xs.length) (hlen : xs.length ≤ 1000000) :
 q0r P (fun _ => false) 106 [.row 9 1 xs] [.own 0 1 0 xs.length, i64 (i : Int), .sl 1 [v]] (fun x m' => x = .own 0 1 0 (xs.length + 1) ∧ m' = [.row 9 1 (xs.take i ++ [v] ++ xs.drop i)]) := by
 refine q0j.relocate (q0j.room (by decide) fun N hN _ => q1f tyOk Tryz.func106 rfl rfl (N := 0) (M := 2) (z00 _) (by simp) ?_)
 intro K hK
 simp only [seval, go_sem, -Int.reduceNatCast, -Int.reduceNatCast', -Nat.reduceSubDiff, Tryz.ntmps106]
 have w1 : IntKind.i64.wrap ((xs.length : Int) + ((1 : Nat) : Int)) = ((xs.length + 1 : Nat) : Int) := by rw [wrap_i64 (by omega) (by omega)]; rfl
 have w2 : IntKind.i64.wrap ((i : Int) + ((1 : Nat) : Int)) = ((i + 1 : Nat) : Int) := by rw [wrap_i64 (by omega) (by omega)]; rfl
 have w3 : IntKind.i64.wrap (((xs.length + 1 : Nat) : Int) - (i : Int)) = ((xs.length + 1 - i : Nat) : Int) := by rw [wrap_i64 (by omega) (by omega)]; omega
 have c1 : (((1 : Nat) : Int) == 0) = false := by decide
 by_cases hin : i = xs.length
 · subst hin
   simp only [seval, go_sem, -Int.reduceNatCast, -Int.reduceNatCast', -Nat.reduceSubDiff, z0g, c1]
   refine ⟨by omega, ?_⟩
   by_cases hr : xs.length + 1 ≤ N
   · simp only [seval, go_sem, -Int.reduceNatCast, -Int.reduceNatCast', -Nat.reduceSubDiff, hr]
     apply hK
     simp only [seval, go_sem, -Int.reduceNatCast, -Int.reduceNatCast', -Nat.reduceSubDiff, Tryz.results106, retK, ares, z1k, z0y, z0o, z0r, true_and, and_true, AV.ofResults, St.trunc, q06, q0e, AB.trunc, z0h, exists_eq_left']
     all_goals exact .inl ⟨N, [], by simp⟩
   · simp only [seval, go_sem, -Int.reduceNatCast, -Int.reduceNatCast', -Nat.reduceSubDiff, hr]
     refine ⟨⟨by simp only [maxLen]; omega, by omega⟩, ?_⟩
     apply hK
     simp only [seval, go_sem, -Int.reduceNatCast, -Int.reduceNatCast', -Nat.reduceSubDiff, Tryz.results106, retK, ares, z1k, z0y, z0o, z0r, true_and, and_true, AV.ofResults, St.trunc, q06, q0e, AB.trunc, z0h, exists_eq_left']
     all_goals exact .inr (by simp)
 · have hlt : i < xs.length := by omega
   have c2 : ((i : Int) == (xs.length : Int)) = false := by simp; omega
   by_cases hr : xs.length + 1 ≤ N
   · have d1 : decide ((N : Int) < ((xs.length + 1 : Nat) : Int)) = false := decide_eq_false (by omega)
     have n1 : ¬ i + 1 = xs.length + 1 := by omega
     have n2 : ¬ i = xs.length + 1 := by omega
     simp only [seval, go_sem, -Int.reduceNatCast, -Int.reduceNatCast', -Nat.reduceSubDiff, z0g, c1, c2, w1, w2, z3s, d1, hin, n1]
     refine ⟨by omega, by omega, by omega, ?_⟩
     refine q44 ?_
     simp only [seval, go_sem, -Int.reduceNatCast, -Int.reduceNatCast', -Nat.reduceSubDiff]
     refine qcn (q6v (tS := 23) (tR := 4) (e := 9) tyOk Tryz.func124 rfl rfl (by kernel_rfl) (by kernel_rfl) rfl rfl rfl (by decide) rfl rfl) ?_
     simp only [seval, go_sem, -Int.reduceNatCast, -Int.reduceNatCast', -Nat.reduceSubDiff]
     have ek : (xs.drop i).take (min (xs.length + 1 - (i + 1)) (xs.length + 1 - i)) = xs.drop i := z07 (by simp; omega)
     refine q0a tyOk (by rfl) (by simp only [z02, z0a, Nat.reduceAdd, z00]) (by kernel_rfl) rfl ?_
     simp only [seval, go_sem, -Int.reduceNatCast, -Int.reduceNatCast', -Nat.reduceSubDiff, z0g, w2, n1, n2, ek]
     refine ⟨by omega, by omega, by omega, ?_⟩
     refine ⟨by kernel_rfl, ?_⟩
     have es : List.take (xs.length + 1 - i) [v] = [v] := z07 (by simp; omega)
     have e3 : (xs.take (i + 1) ++ xs.drop i ++ xs.drop (i + 1 + (xs.drop i).length)).take i ++ [v] ++ (xs.take (i + 1) ++ xs.drop i ++ xs.drop (i + 1 + (xs.drop i).length)).drop (i + 1) = xs.take i ++ [v] ++ xs.drop i := by
      have hl : (xs.take (i + 1)).length = i + 1 := by simp; omega
      have hd : xs.drop (i + 1 + (xs.drop i).length) = [] := z14 (by simp; omega)
      rw [hd, z0i, z0x (by omega), z3q, z3z (by omega),
       z3o (by omega), z14 (by omega), z21]
     simp only [seval, go_sem, -Int.reduceNatCast, -Int.reduceNatCast', -Nat.reduceSubDiff, es]
     refine ⟨by omega, ⟨by omega, by simp; omega⟩, ?_⟩
     apply hK
     simp only [seval, go_sem, -Int.reduceNatCast, -Int.reduceNatCast', -Nat.reduceSubDiff, Tryz.results106, retK, ares, z1k, z0y, z0o, z0r, true_and, and_true, AV.ofResults, St.trunc, q06, q0e, AB.trunc, z0h, exists_eq_left']
     all_goals exact .inl ⟨N, [], by rw [e3, z0i]⟩
   · have d1 : decide ((N : Int) < ((xs.length + 1 : Nat) : Int)) = true := decide_eq_true (by omega)
     have g1 : ¬ i + (xs.length + 1 - i) ≤ N := by omega
     have g2 : ¬ i = i + (xs.length + 1 - i) := by omega
     have g3 : ¬ i + 1 = i + (xs.length + 1 - i) := by omega
     have g4 : List.take (i + (xs.length + 1 - i) - i) [v] = [v] := z07 (by simp; omega)
     have g5 : (xs.drop i).take (min (i + (xs.length + 1 - i) - (i + 1)) (xs.length - i)) = xs.drop i := z07 (by simp; omega)
     simp only [seval, go_sem, -Int.reduceNatCast, -Int.reduceNatCast', -Nat.reduceSubDiff, z0g, c1, c2, w1, w3, z3s, d1, hin, g1, g2, g4]
     refine ⟨by omega, by omega, ⟨by omega, by omega, by omega, by omega, by simp only [maxLen]; omega, by omega⟩, by omega, ⟨by omega, by simp; omega⟩, ?_⟩
     refine q0a tyOk (by rfl) (by simp only [z02, z0a, Nat.reduceAdd, z00]) (by kernel_rfl) rfl ?_
     simp only [seval, go_sem, -Int.reduceNatCast, -Int.reduceNatCast', -Nat.reduceSubDiff, z0g, w2, g3, g5, hin]
     have hB : (xs.take i ++ List.replicate (xs.length + 1 - i) (str .empty)).take i = xs.take i := by
      rw [z0x (by simp; omega), z3q, z5o]
     have hli : (xs.take i).length = i := by simp; omega
     rw [hB]
     refine ⟨by omega, by omega, ⟨by omega, by omega, by simp; omega⟩, ?_⟩
     refine ⟨by kernel_rfl, ?_⟩
     apply hK
     simp only [seval, go_sem, -Int.reduceNatCast, -Int.reduceNatCast', -Nat.reduceSubDiff, Tryz.results106, retK, ares, z1k, z0y, z0o, z0r, and_true, AV.ofResults, St.trunc, q06, q0e, AB.trunc, z0h, exists_eq_left']
     have e4 : ∀ D : List AV, (xs.take i ++ [v] ++ D).take (i + 1) = xs.take i ++ [v] := fun D => by
      rw [z0x (by simp; omega), z07 (by simp; omega)]
     have e5 : (xs.take i ++ [v] ++ (xs.take i ++ List.replicate (xs.length + 1 - i) (str .empty)).drop (i + 1)).drop (i + 1 + (xs.drop i).length) = [] := z14 (by simp; omega)
     refine .inr ?_
     rw [e4, e5, z0i]
     exact ⟨by congr 1; omega, rfl⟩
end Go.Proofs.YtdkcpcflfnakdaaGreat
namespace Go.Proofs.YtdkcpcflfnakdaaGreat
open Go Go.Proofs.YtdkcpcflfnakdaaGreat.Sym
set_option maxRecDepth 100000
set_option maxHeartbeats 1000000
structure Pr where
 st : Int
 pr : Int
 n : Int
 deriving DecidableEq
def Pr.av (p : Pr) : AV := .agg [i64 p.st, i64 p.pr, i64 p.n]
structure Chg where
 u : ByteArray
 old : Pr
 new : Pr
 deriving DecidableEq
def Chg.av (c : Chg) : AV := .agg [str c.u, i64 c.old.st, i64 c.old.pr, i64 c.old.n, i64 c.new.st, i64 c.new.pr, i64 c.new.n]
def chgs (l : List Chg) : List AV := l.map Chg.av
theorem q5s (l : List Chg) : (chgs l).length = l.length := by simp [chgs]
theorem qln (a b : Pr) : (a.st == b.st && (a.pr == b.pr && a.n == b.n)) = decide (a = b) := by
 cases a; cases b
 rw [z2b]
 simp
end Go.Proofs.YtdkcpcflfnakdaaGreat
namespace Go.Proofs.YtdkcpcflfnakdaaGreat
open Go Go.Proofs.YtdkcpcflfnakdaaGreat.Sym
set_option maxRecDepth 100000
set_option maxHeartbeats 1000000
structure Ses where
 id : Int
 st : Int
 pr : Int
 un : Int
 deriving DecidableEq
def Ses.av (s : Ses) : AV := .agg [i64 s.id, i64 s.st, i64 s.pr, u64 s.un]
abbrev sess (id st pr un : Int) : AV := .agg [i64 id, i64 st, i64 pr, u64 un]
def avs (l : List Ses) : List AV := l.map Ses.av
def Ses.lives (now : Int) (s : Ses) : Bool := !decide (s.un ≤ now)
def lives (now : Int) (l : List Ses) : List Ses := l.filter (Ses.lives now)
def Ses.ok (s : Ses) : Prop := (Lit.int .i64 s.id).wf = true ∧ (Lit.int .i64 s.st).wf = true ∧ (Lit.int .i64 s.pr).wf = true ∧ (Lit.int .u64 s.un).wf = true
theorem qnj (a b : Int) : q08 P 117 [u64 a, u64 b] (fun x => x = bool (decide (b ≤ a))) := by
 refine q09 tyOk Tryz.func117 rfl rfl fun K hK => ?_
 simp only [seval, go_sem, Tryz.ntmps117]
 apply hK
 simp only [seval, go_sem, Tryz.results117]
theorem q07 (l : List Ses) : (avs l).length = l.length := by simp [avs]
theorem q6y {l : List Ses} {i : Nat} (h : i < l.length) : (avs l).getD (Int.toNat (i : Int)) .any = (l[i]).av := by
 simp [avs, z04, z11, z05 h]
theorem q8s {l : List Ses} {i : Nat} (hb : l.length < 9223372036854775807) (h : decide ((i : Int) < (l.length : Int)) = true) :
 ∃ hlt : i < l.length, (avs l).getD (Int.toNat (i : Int)) .any = .agg [i64 (l[i]).id, i64 (l[i]).st, i64 (l[i]).pr, u64 (l[i]).un] ∧ IntKind.i64.wrap ((i : Int) + 1) = ((i + 1 : Nat) : Int) ∧ ((0 : Int) ≤ (i : Int) ∧ Int.toNat (i : Int) < l.length) := by
 have hlt : i < l.length := by simpa using h
 exact ⟨hlt, q6y hlt, by rw [wrap_i64 (by omega) (by omega)]; rfl, by omega⟩
theorem q5z {n i : Nat} (hi : i ≤ n) (h : decide ((i : Int) < (n : Int)) = false) : i = n := by
 have : ¬ ((i : Int) < (n : Int)) := by simpa using h
 omega
theorem q6g {now : Int} {l : List Ses} {i : Nat} (h : i < l.length) (hl : (l[i]).lives now = false) : lives now (l.take (i + 1)) = lives now (l.take i) := by
 rw [q12 h, lives, z2n, lives]; simp [hl]
theorem q7u {now : Int} {l : List Ses} {i : Nat} (h : i < l.length) (hl : (l[i]).lives now = true) : lives now (l.take (i + 1)) = lives now (l.take i) ++ [l[i]] := by
 rw [q12 h, lives, z2n, lives]; simp [hl]
theorem snoc_ind {α : Type} {p : List α → Prop} (h0 : p []) (h1 : ∀ l a, p l → p (l ++ [a])) : ∀ l, p l := by
 intro l
 rw [← List.reverse_reverse l]
 induction l.reverse with
 | nil => exact h0
 | cons a l ih => rw [z47]; exact h1 _ _ ih
theorem qcu (xs : List AV) (hlen : xs.length ≤ 1000000) :
 ACall P 115 [] [.sl 4 xs] (fun x m' => x = .own 0 4 0 xs.length ∧ m' = [.row 151 4 xs]) := by
 have hm : xs.length ≤ maxLen := by simp only [maxLen]; omega
 have hby : xs.length * 32 ≤ 140737488355328 := by omega
 by_cases h0 : xs = []
 · subst h0
   refine ACall.empty fun a cap => ?_
   cases a with
   | none =>
    refine ACall.weaken (K := fun x m' => x = .v (.slice none 0 0) ∧ m' = []) (q0j.toA (q1f tyOk Tryz.func115 rfl rfl (N := 0) (M := 1) (z00 _) (by simp) ?_)) ?_
    · intro K hK
      simp only [seval, go_sem, Tryz.ntmps115]
      apply hK
      simp only [seval, go_sem, Tryz.results115]
    · rintro x m' ⟨rfl, rfl⟩
      exact ⟨_, _, q0c.adopt (i := 0) 151 4 rfl, rfl, rfl⟩
   | some a =>
    refine q0j.toA (q1f tyOk Tryz.func115 rfl rfl (N := 0) (M := 1) (z00 _) (by simp) ?_)
    intro K hK
    simp only [seval, go_sem, Tryz.ntmps115]
    apply hK
    simp only [seval, go_sem, Tryz.results115]
 · have hpos : 0 < xs.length := z3y.2 h0
   refine q0j.toA (q1f tyOk Tryz.func115 rfl rfl (N := 0) (M := 1) (z00 _) (by simp) ?_)
   intro K hK
   simp only [seval, go_sem, Tryz.ntmps115, hpos]
   refine ⟨⟨hm, hby⟩, ?_⟩
   apply hK
   simp only [seval, go_sem, Tryz.results115]
theorem qu9 (xs : List AV) (i : Nat) (hi : i < xs.length) (hlen : xs.length ≤ 1000000) :
 ACall P 120 [.row 151 4 xs] [.own 0 4 0 xs.length, i64 (i : Int), i64 ((i + 1 : Nat) : Int)] (fun x m' => x = .own 0 4 0 (xs.length - 1) ∧ m' = [.row 151 4 (xs.take i ++ xs.drop (i + 1) ++ [(AV.agg [i64 0, i64 0, i64 0, u64 0])])]) := by
 refine ACall.weaken (K := fun x m' => x = .own 0 4 0 (xs.length - 1) ∧ ∃ N, m' = [.rowc 151 4 (xs.take i ++ xs.drop (i + 1) ++ [(AV.agg [i64 0, i64 0, i64 0, u64 0])]) N]) (q0j.toA (m := [_]) (q0j.room (by decide) fun N hN _ => ?_)) ?_
 · refine q3a tyOk Tryz.func120 rfl rfl (by simp) fun K hK => ?_
   simp only [seval, go_sem, Tryz.ntmps120]
   have f1 : ((i : Int) == ((i + 1 : Nat) : Int)) = false := by simp; omega
   simp only [seval, go_sem, z0g, f1]
   refine ⟨by omega, ?_⟩
   by_cases he : i + 1 = xs.length
   · have e1 : (xs.take i ++ xs.drop i).length = xs.length := by rw [z1o]
     have e2 : ((xs.take i ++ xs.drop i).take i ++ List.replicate (xs.length - i) ((AV.agg [i64 0, i64 0, i64 0, u64 0]))) ++ (xs.take i ++ xs.drop i).drop (i + (xs.length - i)) = xs.take i ++ xs.drop (i + 1) ++ [(AV.agg [i64 0, i64 0, i64 0, u64 0])] := by
      rw [z1o, z14 (by omega), z14 (by omega), show xs.length - i = 1 by omega, z0i, z0i]
      rfl
     have hni : ¬ i = xs.length := by omega
     refine q0a tyOk (by rfl) (by simp only [z02, z0a, Nat.reduceAdd, z09]) (by kernel_rfl) rfl ?_
     simp only [seval, go_sem, z0g, he]
     refine ⟨by omega, by omega, by omega, ?_⟩
     refine ⟨by kernel_rfl, ?_⟩
     simp only [seval, go_sem, hni, e1]
     refine ⟨by omega, by omega, ?_⟩
     apply hK
     simp only [seval, go_sem, Tryz.results120]
     simp only [e2]
     all_goals exact ⟨by congr 1; omega, N, rfl⟩
   · have hd : (xs.drop (i + 1)).length = xs.length - (i + 1) := by simp
     have ht : (xs.drop (i + 1)).take (xs.length - (i + 1)) = xs.drop (i + 1) := z07 (by simp)
     have hni : ¬ i + (xs.length - (i + 1)) = xs.length := by omega
     have e1 : (xs.take i ++ xs.drop (i + 1) ++ xs.drop (i + (xs.length - (i + 1)))).length = xs.length := by simp; omega
     have e2 : (xs.take i ++ xs.drop (i + 1) ++ xs.drop (i + (xs.length - (i + 1)))).take (i + (xs.length - (i + 1))) ++ List.replicate (xs.length - (i + (xs.length - (i + 1)))) ((AV.agg [i64 0, i64 0, i64 0, u64 0])) ++
      (xs.take i ++ xs.drop (i + 1) ++ xs.drop (i + (xs.length - (i + 1)))).drop (i + (xs.length - (i + 1)) + (xs.length - (i + (xs.length - (i + 1))))) = xs.take i ++ xs.drop (i + 1) ++ [(AV.agg [i64 0, i64 0, i64 0, u64 0])] := by
      rw [show xs.length - (i + (xs.length - (i + 1))) = 1 by omega, z14 (l := xs.take i ++ xs.drop (i + 1) ++ xs.drop (i + (xs.length - (i + 1)))) (by rw [e1]; omega), z0i,
       z0x (by simp; omega), z07 (by simp; omega)]
      rfl
     refine q0a tyOk (by rfl) (by simp only [z02, z0a, Nat.reduceAdd, z09]) (by kernel_rfl) rfl ?_
     simp only [seval, go_sem, z0g, he, ht, hd]
     refine ⟨by omega, by omega, by omega, ?_⟩
     refine ⟨by kernel_rfl, ?_⟩
     simp only [seval, go_sem, hni, e1]
     refine ⟨by omega, by omega, ?_⟩
     apply hK
     simp only [seval, go_sem, Tryz.results120]
     simp only [e2]
     all_goals exact ⟨by congr 1; omega, N, rfl⟩
 · rintro x m' ⟨rfl, N, rfl⟩
   exact ⟨_, _, q0c.unroom, rfl, rfl⟩
theorem qty (xs : List AV) (v : AV) (i : Nat) (hi : i ≤ xs.length) (hlen : xs.length ≤ 1000000) :
 q0r P (fun _ => false) 119 [.row 151 4 xs] [.own 0 4 0 xs.length, i64 (i : Int), .sl 4 [v]] (fun x m' => x = .own 0 4 0 (xs.length + 1) ∧ m' = [.row 151 4 (xs.take i ++ [v] ++ xs.drop i)]) := by
 refine q0j.relocate (q0j.room (by decide) fun N hN _ => q1f tyOk Tryz.func119 rfl rfl (N := 0) (M := 2) (z00 _) (by simp) ?_)
 intro K hK
 simp only [seval, go_sem, -Int.reduceNatCast, -Int.reduceNatCast', -Nat.reduceSubDiff, Tryz.ntmps119]
 have w1 : IntKind.i64.wrap ((xs.length : Int) + ((1 : Nat) : Int)) = ((xs.length + 1 : Nat) : Int) := by rw [wrap_i64 (by omega) (by omega)]; rfl
 have w2 : IntKind.i64.wrap ((i : Int) + ((1 : Nat) : Int)) = ((i + 1 : Nat) : Int) := by rw [wrap_i64 (by omega) (by omega)]; rfl
 have w3 : IntKind.i64.wrap (((xs.length + 1 : Nat) : Int) - (i : Int)) = ((xs.length + 1 - i : Nat) : Int) := by rw [wrap_i64 (by omega) (by omega)]; omega
 have c1 : (((1 : Nat) : Int) == 0) = false := by decide
 by_cases hin : i = xs.length
 · subst hin
   simp only [seval, go_sem, -Int.reduceNatCast, -Int.reduceNatCast', -Nat.reduceSubDiff, z0g, c1]
   refine ⟨by omega, ?_⟩
   by_cases hr : xs.length + 1 ≤ N
   · simp only [seval, go_sem, -Int.reduceNatCast, -Int.reduceNatCast', -Nat.reduceSubDiff, hr]
     apply hK
     simp only [seval, go_sem, -Int.reduceNatCast, -Int.reduceNatCast', -Nat.reduceSubDiff, Tryz.results119, retK, ares, z1k, z0y, z0o, z0r, true_and, and_true, AV.ofResults, St.trunc, q06, q0e, AB.trunc, z0h, exists_eq_left']
     all_goals exact .inl ⟨N, [], by simp⟩
   · simp only [seval, go_sem, -Int.reduceNatCast, -Int.reduceNatCast', -Nat.reduceSubDiff, hr]
     refine ⟨⟨by simp only [maxLen]; omega, by omega⟩, ?_⟩
     apply hK
     simp only [seval, go_sem, -Int.reduceNatCast, -Int.reduceNatCast', -Nat.reduceSubDiff, Tryz.results119, retK, ares, z1k, z0y, z0o, z0r, true_and, and_true, AV.ofResults, St.trunc, q06, q0e, AB.trunc, z0h, exists_eq_left']
     all_goals exact .inr (by simp)
 · have hlt : i < xs.length := by omega
   have c2 : ((i : Int) == (xs.length : Int)) = false := by simp; omega
   by_cases hr : xs.length + 1 ≤ N
   · have d1 : decide ((N : Int) < ((xs.length + 1 : Nat) : Int)) = false := decide_eq_false (by omega)
     have n1 : ¬ i + 1 = xs.length + 1 := by omega
     have n2 : ¬ i = xs.length + 1 := by omega
     simp only [seval, go_sem, -Int.reduceNatCast, -Int.reduceNatCast', -Nat.reduceSubDiff, z0g, c1, c2, w1, w2, z3s, d1, hin, n1]
     refine ⟨by omega, by omega, by omega, ?_⟩
     refine q44 ?_
     simp only [seval, go_sem, -Int.reduceNatCast, -Int.reduceNatCast', -Nat.reduceSubDiff]
     refine qcn (q6v (tS := 113) (tR := 4) (e := 151) tyOk Tryz.func136 rfl rfl (by kernel_rfl) (by kernel_rfl) rfl rfl rfl (by decide) rfl rfl) ?_
     simp only [seval, go_sem, -Int.reduceNatCast, -Int.reduceNatCast', -Nat.reduceSubDiff]
     have ek : (xs.drop i).take (min (xs.length + 1 - (i + 1)) (xs.length + 1 - i)) = xs.drop i := z07 (by simp; omega)
     refine q0a tyOk (by rfl) (by simp only [z02, z0a, Nat.reduceAdd, z00]) (by kernel_rfl) rfl ?_
     simp only [seval, go_sem, -Int.reduceNatCast, -Int.reduceNatCast', -Nat.reduceSubDiff, z0g, w2, n1, n2, ek]
     refine ⟨by omega, by omega, by omega, ?_⟩
     refine ⟨by kernel_rfl, ?_⟩
     have es : List.take (xs.length + 1 - i) [v] = [v] := z07 (by simp; omega)
     have e3 : (xs.take (i + 1) ++ xs.drop i ++ xs.drop (i + 1 + (xs.drop i).length)).take i ++ [v] ++ (xs.take (i + 1) ++ xs.drop i ++ xs.drop (i + 1 + (xs.drop i).length)).drop (i + 1) = xs.take i ++ [v] ++ xs.drop i := by
      have hl : (xs.take (i + 1)).length = i + 1 := by simp; omega
      have hd : xs.drop (i + 1 + (xs.drop i).length) = [] := z14 (by simp; omega)
      rw [hd, z0i, z0x (by omega), z3q, z3z (by omega),
       z3o (by omega), z14 (by omega), z21]
     simp only [seval, go_sem, -Int.reduceNatCast, -Int.reduceNatCast', -Nat.reduceSubDiff, es]
     refine ⟨by omega, ⟨by omega, by simp; omega⟩, ?_⟩
     apply hK
     simp only [seval, go_sem, -Int.reduceNatCast, -Int.reduceNatCast', -Nat.reduceSubDiff, Tryz.results119, retK, ares, z1k, z0y, z0o, z0r, true_and, and_true, AV.ofResults, St.trunc, q06, q0e, AB.trunc, z0h, exists_eq_left']
     all_goals exact .inl ⟨N, [], by rw [e3, z0i]⟩
   · have d1 : decide ((N : Int) < ((xs.length + 1 : Nat) : Int)) = true := decide_eq_true (by omega)
     have g1 : ¬ i + (xs.length + 1 - i) ≤ N := by omega
     have g2 : ¬ i = i + (xs.length + 1 - i) := by omega
     have g3 : ¬ i + 1 = i + (xs.length + 1 - i) := by omega
     have g4 : List.take (i + (xs.length + 1 - i) - i) [v] = [v] := z07 (by simp; omega)
     have g5 : (xs.drop i).take (min (i + (xs.length + 1 - i) - (i + 1)) (xs.length - i)) = xs.drop i := z07 (by simp; omega)
     simp only [seval, go_sem, -Int.reduceNatCast, -Int.reduceNatCast', -Nat.reduceSubDiff, z0g, c1, c2, w1, w3, z3s, d1, hin, g1, g2, g4]
     refine ⟨by omega, by omega, ⟨by omega, by omega, by omega, by omega, by simp only [maxLen]; omega, by omega⟩, by omega, ⟨by omega, by simp; omega⟩, ?_⟩
     refine q0a tyOk (by rfl) (by simp only [z02, z0a, Nat.reduceAdd, z00]) (by kernel_rfl) rfl ?_
     simp only [seval, go_sem, -Int.reduceNatCast, -Int.reduceNatCast', -Nat.reduceSubDiff, z0g, w2, g3, g5, hin]
     have hB : (xs.take i ++ List.replicate (xs.length + 1 - i) ((AV.agg [i64 0, i64 0, i64 0, u64 0]))).take i = xs.take i := by
      rw [z0x (by simp; omega), z3q, z5o]
     have hli : (xs.take i).length = i := by simp; omega
     rw [hB]
     refine ⟨by omega, by omega, ⟨by omega, by omega, by simp; omega⟩, ?_⟩
     refine ⟨by kernel_rfl, ?_⟩
     apply hK
     simp only [seval, go_sem, -Int.reduceNatCast, -Int.reduceNatCast', -Nat.reduceSubDiff, Tryz.results119, retK, ares, z1k, z0y, z0o, z0r, and_true, AV.ofResults, St.trunc, q06, q0e, AB.trunc, z0h, exists_eq_left']
     have e4 : ∀ D : List AV, (xs.take i ++ [v] ++ D).take (i + 1) = xs.take i ++ [v] := fun D => by
      rw [z0x (by simp; omega), z07 (by simp; omega)]
     have e5 : (xs.take i ++ [v] ++ (xs.take i ++ List.replicate (xs.length + 1 - i) ((AV.agg [i64 0, i64 0, i64 0, u64 0]))).drop (i + 1)).drop (i + 1 + (xs.drop i).length) = [] := z14 (by simp; omega)
     refine .inr ?_
     rw [e4, e5, z0i]
     exact ⟨by congr 1; omega, rfl⟩
end Go.Proofs.YtdkcpcflfnakdaaGreat
namespace Go.Proofs.YtdkcpcflfnakdaaGreat
open Go Go.Proofs.YtdkcpcflfnakdaaGreat.Sym
set_option maxRecDepth 100000
set_option maxHeartbeats 1000000
theorem q2t (l : List Ses) (s : Ses) : avs l ++ [s.av] = avs (l ++ [s]) := by simp [avs]
theorem qdm (l : List Ses) (now : Int) (hlen : l.length ≤ 10000) : q08 P 81 [.sl 4 (avs l), u64 now] (fun x => x = .sl 4 (avs (lives now l))) := by
 refine q09 tyOk Tryz.func81 rfl rfl fun K hK => ?_
 simp only [seval, go_sem, Tryz.ntmps81]
 refine q1r (q0c.adopt (i := 5) 151 4 rfl) ?_
 refine q0d tyOk (α := Nat) 1 [0, 1, 5, 6] (fun i => i ≤ l.length)
  (fun i => ⟨[.sl 4 (avs l), u64 now, .any, .any, .any, .own 0 4 0 (lives now (l.take i)).length, i64 i, .any, .any, .any, .any, .any, .any, .any, .any, .any, .any, .any, .any, .any, .any, .any, .any, .any, .any, .any, .any, .any], [.row 151 4 (avs (lives now (l.take i)))]⟩)
  (fun i => l.length - i) 0 (z00 _) (z00 _) rfl ?_
 intro i hi
 simp only [seval, go_sem, q07]
 refine q02 ?_ ?_ <;> intro h <;> simp only [seval, go_sem]
 · have hlt : i < l.length := by simpa using h
   have eg := q6y hlt
   have ew : IntKind.i64.wrap ((i : Int) + 1) = ((i + 1 : Nat) : Int) := by rw [wrap_i64 (by omega) (by omega)]; rfl
   have c1 : (0 : Int) ≤ (i : Int) ∧ Int.toNat (i : Int) < l.length := by omega
   have hf : (lives now (l.take i)).length ≤ 10000 := z1f (z1n _ _) (by rw [z1l]; omega)
   simp only [seval, go_sem, eg, c1, Ses.av, q07]
   cases hl : (l[i]).lives now with
   | false =>
    have e1 : decide (now < (l[i]).un) = false := by
     simp only [Ses.lives, z4n, decide_eq_true_eq] at hl
     simp; omega
    simp only [seval, go_sem, e1, ew]
    simp only [seval, go_sem, q01]
    all_goals exact ⟨i + 1, hlt, by omega, by rw [q6g hlt hl]⟩
   | true =>
    have e1 : decide (now < (l[i]).un) = true := by
     simp only [Ses.lives, z2l, decide_eq_false_iff_not] at hl
     simp; omega
    simp only [seval, go_sem, e1, ew, eg, c1, Ses.av, q07]
    refine ⟨⟨by simp only [maxLen]; omega, by omega⟩, ?_⟩
    simp only [seval, go_sem, q01]
    all_goals exact ⟨i + 1, hlt, by omega, by rw [q7u hlt hl, ← q2t, z0c]; rfl⟩
 · have hge : i = l.length := by have : ¬ ((i : Int) < (l.length : Int)) := by simpa using h
                                 omega
   subst hge
   apply hK
   simp only [seval, go_sem, Tryz.results81]
   rw [z0w, if_pos (by rw [q07]; omega), z07 (by rw [q07]; exact z09 _)]
def has (l : List Ses) (id : Int) : Bool := l.any (fun s => s.id == id)
theorem qgf (l : List Ses) (id : Int) (hlen : l.length ≤ 10000) : q08 P 86 [.sl 4 (avs l), i64 id] (fun x => x = bool (has l id)) := by
 refine q09 tyOk Tryz.func86 rfl rfl fun K hK => ?_
 simp only [seval, go_sem, Tryz.ntmps86]
 refine q0d tyOk (α := Nat) 0 [0, 1, 5] (fun i => i ≤ l.length ∧ has (l.take i) id = false)
  (fun i => ⟨[.sl 4 (avs l), i64 id, .any, .any, .any, i64 i, .any, .any, .any, .any, .any, .any, .any, .any, .any, .any, .any, .any, .any], []⟩)
  (fun i => l.length - i) 0 (z00 _) ⟨z00 _, rfl⟩ rfl ?_
 intro i ⟨hi, hn⟩
 simp only [seval, go_sem, q07]
 refine q02 ?_ ?_ <;> intro h <;> simp only [seval, go_sem]
 · obtain ⟨hlt, eg, ew, c1⟩ := q8s (by omega) h
   simp only [seval, go_sem, eg, c1, q07]
   have hh : has (l.take (i + 1)) id = ((l[i]).id == id) := by
    rw [q12 hlt, has, z40, ← has, hn]; simp
   refine q02 ?_ ?_ <;> intro h2 <;> simp only [seval, go_sem, ew]
   · apply hK
     simp only [seval, go_sem, Tryz.results86]
     have : has l id = true := by
      rw [has, z39]
      exact ⟨l[i], z1i _, h2⟩
     rw [this]
   · simp only [seval, go_sem, q01]
     all_goals exact ⟨i + 1, ⟨hlt, by rw [hh, h2]⟩, by omega, rfl⟩
 · obtain rfl := q5z hi h
   apply hK
   simp only [seval, go_sem, Tryz.results86]
   rw [z0w] at hn
   rw [hn]
def clear (l : List Ses) (id : Int) : List Ses := l.filter (fun s => s.id != id)
theorem quw {id : Int} {l : List Ses} {i : Nat} (h : i < l.length) (hl : ((l[i]).id != id) = false) : clear (l.take (i + 1)) id = clear (l.take i) id := by
 rw [q12 h, clear, z2n, clear]; simp only [z1p, hl, z55, z0i, z0n, if_false]
theorem clear_in {id : Int} {l : List Ses} {i : Nat} (h : i < l.length) (hl : ((l[i]).id != id) = true) : clear (l.take (i + 1)) id = clear (l.take i) id ++ [l[i]] := by
 rw [q12 h, clear, z2n, clear]; simp only [z1p, hl, z55, if_true]
theorem qdn (l : List Ses) (id : Int) (hlen : l.length ≤ 10000) : q08 P 87 [.sl 4 (avs l), i64 id] (fun x => x = .sl 4 (avs (clear l id))) := by
 refine q09 tyOk Tryz.func87 rfl rfl fun K hK => ?_
 simp only [seval, go_sem, Tryz.ntmps87]
 refine q1r (q0c.adopt (i := 5) 151 4 rfl) ?_
 refine q0d tyOk (α := Nat) 1 [0, 1, 5, 6] (fun i => i ≤ l.length)
  (fun i => ⟨[.sl 4 (avs l), i64 id, .any, .any, .any, .own 0 4 0 (clear (l.take i) id).length, i64 i, .any, .any, .any, .any, .any, .any, .any, .any, .any, .any, .any, .any, .any, .any, .any, .any, .any, .any, .any, .any, .any], [.row 151 4 (avs (clear (l.take i) id))]⟩)
  (fun i => l.length - i) 0 (z00 _) (z00 _) rfl ?_
 intro i hi
 simp only [seval, go_sem, q07]
 refine q02 ?_ ?_ <;> intro h <;> simp only [seval, go_sem]
 · obtain ⟨hlt, eg, ew, c1⟩ := q8s (by omega) h
   have hf : (clear (l.take i) id).length ≤ 10000 := z1f (z1n _ _) (by rw [z1l]; omega)
   simp only [seval, go_sem, eg, c1, q07]
   refine q02 ?_ ?_ <;> intro h2
   · simp only [seval, go_sem, ew, eg, c1, q07]
     refine ⟨⟨by simp only [maxLen]; omega, by omega⟩, ?_⟩
     simp only [seval, go_sem, q01]
     all_goals exact ⟨i + 1, hlt, by omega, by rw [clear_in hlt h2, ← q2t, z0c]; rfl⟩
   · simp only [seval, go_sem, ew]
     simp only [seval, go_sem, q01]
     all_goals exact ⟨i + 1, hlt, by omega, by rw [quw hlt h2]⟩
 · obtain rfl := q5z hi h
   apply hK
   simp only [seval, go_sem, Tryz.results87]
   rw [z0w, if_pos (by rw [q07]; omega), z07 (by rw [q07]; exact z09 _)]
def q1s (s : Ses) (o : List Ses × Bool) (r : Ses) : List Ses × Bool := if !o.2 && decide (s.id < r.id) then (o.1 ++ [s] ++ [r], true) else (o.1 ++ [r], o.2)
def insF (s : Ses) (l : List Ses) : List Ses × Bool := l.foldl (q1s s) ([], false)
def ins (s : Ses) (l : List Ses) : List Ses := if (insF s l).2 then (insF s l).1 else (insF s l).1 ++ [s]
theorem qno {s : Ses} {l : List Ses} {i : Nat} (h : i < l.length) : insF s (l.take (i + 1)) = q1s s (insF s (l.take i)) l[i] := by
 rw [q12 h, insF, z3k]; rfl
theorem qf9 (s : Ses) (l : List Ses) : (insF s l).1.length ≤ l.length + 1 ∧ ((insF s l).2 = false → (insF s l).1.length = l.length) := by
 suffices H : ∀ (l : List Ses) (o : List Ses × Bool), (l.foldl (q1s s) o).1.length + (if o.2 then 1 else 0) ≤ o.1.length + l.length + 1 ∧ ((l.foldl (q1s s) o).2 = false → o.2 = false ∧ (l.foldl (q1s s) o).1.length = o.1.length + l.length) by
  have := H l ([], false)
  exact ⟨by simpa [insF] using this.1, fun h => by simpa [insF] using (this.2 h).2⟩
 intro l
 induction l with
 | nil => intro o; simp; split <;> omega
 | cons r l ih =>
  intro o
  have h := ih (q1s s o r)
  simp only [z2o, z02]
  by_cases c : (!o.2 && decide (s.id < r.id)) = true
  · have e : q1s s o r = (o.1 ++ [s] ++ [r], true) := by rw [q1s, if_pos c]
    have ho : o.2 = false := by simp at c; exact c.1
    rw [e] at h ⊢
    simp only [z0c, z20, if_true] at h
    refine ⟨by rw [ho]; simp only [z0n, if_false]; omega, fun hh => ?_⟩
    have := (h.2 hh).1
    cases this
  · have e : q1s s o r = (o.1 ++ [r], o.2) := by rw [q1s, if_neg c]
    rw [e] at h ⊢
    simp only [z0c, z20] at h
    exact ⟨by omega, fun hh => ⟨(h.2 hh).1, by have := (h.2 hh).2; omega⟩⟩
def setF (l : List Ses) (s : Ses) (most : Int) : List Ses × Int := if !has l s.id && decide (most ≤ l.length) then (l, 2) else (ins s (clear l s.id), 0)
theorem qx9 (l : List Ses) (s : Ses) (most : Int) (hlen : l.length ≤ 9000) :
 q08 P 84 [.sl 4 (avs l), s.av, i64 most] (fun x => x = .tup [.sl 4 (avs (setF l s most).1), i64 (setF l s most).2]) := by
 refine q09 tyOk Tryz.func84 rfl rfl fun K hK => ?_
 simp only [seval, go_sem, Tryz.ntmps84, Ses.av]
 (refine q00 (qgf l s.id (by omega)) rfl ?_; rintro _ rfl)
 simp only [seval, go_sem]
 refine q1v ?_ ?_ <;> intro h1
 · simp only [seval, go_sem, q07]
   refine q02 ?_ ?_ <;> intro h2
   · simp only [seval, go_sem]
     apply hK
     simp only [Tryz.results84, retK, ares, z0t, z0z, AV.ofResults, St.trunc, q06, q0e, z0u, z0v, z13, z0o, true_and, and_true, z0h, exists_eq_left']
     rw [setF, if_pos (by rw [h1, h2]; rfl)]
   · have he : setF l s most = (ins s (clear l s.id), 0) := by rw [setF, if_neg (by rw [h1, h2]; simp)]
     simp only [seval, go_sem]
     rw [he] at hK
     have hR : (clear l s.id).length ≤ 9000 := z1f (z1n _ _) hlen
     (refine q00 (qdn l s.id (by omega)) rfl ?_; rintro _ rfl)
     simp only [seval, go_sem]
     generalize clear l s.id = R at hR hK
     refine q1r (q0c.adopt (i := 8) 151 4 rfl) ?_
     refine q0d tyOk (α := Nat) 2 [4, 8, 9, 10, 11] (fun i => i ≤ R.length)
      (fun i => ⟨[.any, .any, .any, .any, .ptr 0 0, .any, .any, .any, .own 1 4 0 (insF s (R.take i)).1.length, bool (insF s (R.take i)).2, .sl 4 (avs R), i64 i, .any, .any, .any, .any, .any, .any, .any, .any, .any, .any, .any, .any, .any, .any, .any, .any, .any, .any, .any, .any, .any, .any, .any, .any, .any, .any, .any, .any, .any, .any, .any, .any, .any, .any, .any, .any, .any, .any, .any, .any, .any, .any, .any, .any, .any, .any, .any, .any, .any, .any, .any, .any], [.box [i64 s.id, i64 s.st, i64 s.pr, u64 s.un], .row 151 4 (avs (insF s (R.take i)).1)]⟩)
      (fun i => R.length - i) 0 (z00 _) (z00 _) rfl ?_
     intro i hi
     simp only [seval, go_sem, q07]
     refine q02 ?_ ?_ <;> intro h <;> simp only [seval, go_sem]
     · obtain ⟨hlt, eg, ew, c1⟩ := q8s (by omega) h
       have hb := qno (s := s) hlt
       have hl := (qf9 s (R.take i)).1
       rw [z1l] at hl
       generalize insF s (R.take i) = o at hb hl
       obtain ⟨o1, o2⟩ := o
       simp only at hl
       refine q0a tyOk (by rfl) (by simp only [z02, z0a, Nat.reduceAdd, z00]) (by kernel_rfl) rfl ?_
       simp only [seval, go_sem]
       cases o2 with
       | true =>
        simp only [seval, go_sem]
        refine ⟨by kernel_rfl, ?_⟩
        simp only [seval, go_sem, eg, c1, q07, ew]
        refine ⟨⟨by simp only [maxLen]; omega, by omega⟩, ?_⟩
        simp only [seval, go_sem, q01]
        all_goals exact ⟨i + 1, hlt, by omega, by rw [hb, q1s, if_neg (by simp)]; simp only; rw [← q2t, z0c]; rfl⟩
       | false =>
        simp only [seval, go_sem, eg, c1, q07]
        refine ⟨by kernel_rfl, ?_⟩
        refine q02 ?_ ?_ <;> intro h3
        · simp only [seval, go_sem, eg, c1, q07, ew]
          refine ⟨⟨by simp only [maxLen]; omega, by omega⟩, ⟨by simp only [maxLen]; omega, by omega⟩, ?_⟩
          simp only [seval, go_sem, q01]
          all_goals exact ⟨i + 1, hlt, by omega, by rw [hb, q1s, if_pos (by rw [h3]; simp)]; simp only; rw [← q2t, ← q2t, z0c, z0c]; rfl⟩
        · simp only [seval, go_sem, eg, c1, q07, ew]
          refine ⟨⟨by simp only [maxLen]; omega, by omega⟩, ?_⟩
          simp only [seval, go_sem, q01]
          all_goals exact ⟨i + 1, hlt, by omega, by rw [hb, q1s, if_neg (by rw [h3]; simp)]; simp only; rw [← q2t, z0c]; rfl⟩
     · obtain rfl := q5z hi h
       rw [z0w]
       have hl := (qf9 s R).1
       refine q02 ?_ ?_ <;> intro h3
       · simp only [seval, go_sem, q07]
         refine ⟨⟨by simp only [maxLen]; omega, by omega⟩, ?_⟩
         apply hK
         simp only [Tryz.results84, retK, ares, z0t, z0z, AV.ofResults, St.trunc, q06, q0e, z0u, z0v, z13, z17, z0o, z01, z03, Nat.reduceLeDiff, true_and, and_true, ↓reduceIte, z0h, exists_eq_left']
         rw [q1b (by rw [z0c, q07]; rfl), ins, if_neg (by simpa using h3), ← q2t]; rfl
       · simp only [seval, go_sem]
         apply hK
         simp only [Tryz.results84, retK, ares, z0t, z0z, AV.ofResults, St.trunc, q06, q0e, z0u, z0v, z13, z17, z0o, z01, z03, Nat.reduceLeDiff, true_and, and_true, ↓reduceIte, z0h, exists_eq_left']
         rw [q1b (q07 _), ins, if_pos (by simpa using h3)]
 · have he : setF l s most = (ins s (clear l s.id), 0) := by rw [setF, if_neg (by rw [h1]; simp)]
   simp only [seval, go_sem]
   rw [he] at hK
   have hR : (clear l s.id).length ≤ 9000 := z1f (z1n _ _) hlen
   (refine q00 (qdn l s.id (by omega)) rfl ?_; rintro _ rfl)
   simp only [seval, go_sem]
   generalize clear l s.id = R at hR hK
   refine q1r (q0c.adopt (i := 8) 151 4 rfl) ?_
   refine q0d tyOk (α := Nat) 2 [4, 8, 9, 10, 11] (fun i => i ≤ R.length)
    (fun i => ⟨[.any, .any, .any, .any, .ptr 0 0, .any, .any, .any, .own 1 4 0 (insF s (R.take i)).1.length, bool (insF s (R.take i)).2, .sl 4 (avs R), i64 i, .any, .any, .any, .any, .any, .any, .any, .any, .any, .any, .any, .any, .any, .any, .any, .any, .any, .any, .any, .any, .any, .any, .any, .any, .any, .any, .any, .any, .any, .any, .any, .any, .any, .any, .any, .any, .any, .any, .any, .any, .any, .any, .any, .any, .any, .any, .any, .any, .any, .any, .any, .any], [.box [i64 s.id, i64 s.st, i64 s.pr, u64 s.un], .row 151 4 (avs (insF s (R.take i)).1)]⟩)
    (fun i => R.length - i) 0 (z00 _) (z00 _) rfl ?_
   intro i hi
   simp only [seval, go_sem, q07]
   refine q02 ?_ ?_ <;> intro h <;> simp only [seval, go_sem]
   · obtain ⟨hlt, eg, ew, c1⟩ := q8s (by omega) h
     have hb := qno (s := s) hlt
     have hl := (qf9 s (R.take i)).1
     rw [z1l] at hl
     generalize insF s (R.take i) = o at hb hl
     obtain ⟨o1, o2⟩ := o
     simp only at hl
     refine q0a tyOk (by rfl) (by simp only [z02, z0a, Nat.reduceAdd, z00]) (by kernel_rfl) rfl ?_
     simp only [seval, go_sem]
     cases o2 with
     | true =>
      simp only [seval, go_sem]
      refine ⟨by kernel_rfl, ?_⟩
      simp only [seval, go_sem, eg, c1, q07, ew]
      refine ⟨⟨by simp only [maxLen]; omega, by omega⟩, ?_⟩
      simp only [seval, go_sem, q01]
      all_goals exact ⟨i + 1, hlt, by omega, by rw [hb, q1s, if_neg (by simp)]; simp only; rw [← q2t, z0c]; rfl⟩
     | false =>
      simp only [seval, go_sem, eg, c1, q07]
      refine ⟨by kernel_rfl, ?_⟩
      refine q02 ?_ ?_ <;> intro h3
      · simp only [seval, go_sem, eg, c1, q07, ew]
        refine ⟨⟨by simp only [maxLen]; omega, by omega⟩, ⟨by simp only [maxLen]; omega, by omega⟩, ?_⟩
        simp only [seval, go_sem, q01]
        all_goals exact ⟨i + 1, hlt, by omega, by rw [hb, q1s, if_pos (by rw [h3]; simp)]; simp only; rw [← q2t, ← q2t, z0c, z0c]; rfl⟩
      · simp only [seval, go_sem, eg, c1, q07, ew]
        refine ⟨⟨by simp only [maxLen]; omega, by omega⟩, ?_⟩
        simp only [seval, go_sem, q01]
        all_goals exact ⟨i + 1, hlt, by omega, by rw [hb, q1s, if_neg (by rw [h3]; simp)]; simp only; rw [← q2t, z0c]; rfl⟩
   · obtain rfl := q5z hi h
     rw [z0w]
     have hl := (qf9 s R).1
     refine q02 ?_ ?_ <;> intro h3
     · simp only [seval, go_sem, q07]
       refine ⟨⟨by simp only [maxLen]; omega, by omega⟩, ?_⟩
       apply hK
       simp only [Tryz.results84, retK, ares, z0t, z0z, AV.ofResults, St.trunc, q06, q0e, z0u, z0v, z13, z17, z0o, z01, z03, Nat.reduceLeDiff, true_and, and_true, ↓reduceIte, z0h, exists_eq_left']
       rw [q1b (by rw [z0c, q07]; rfl), ins, if_neg (by simpa using h3), ← q2t]; rfl
     · simp only [seval, go_sem]
       apply hK
       simp only [Tryz.results84, retK, ares, z0t, z0z, AV.ofResults, St.trunc, q06, q0e, z0u, z0v, z13, z17, z0o, z01, z03, Nat.reduceLeDiff, true_and, and_true, ↓reduceIte, z0h, exists_eq_left']
       rw [q1b (q07 _), ins, if_pos (by simpa using h3)]
end Go.Proofs.YtdkcpcflfnakdaaGreat
namespace Go.Proofs.YtdkcpcflfnakdaaGreat
open Go Go.Proofs.YtdkcpcflfnakdaaGreat.Sym
set_option maxRecDepth 100000
set_option maxHeartbeats 1000000
def cmpF (a b : Int) : Int := if a < b then -1 else if b < a then 1 else 0
theorem cmp_lt (a b : Int) : decide (cmpF a b < 0) = ltI a b := by
 unfold cmpF ltI
 split
 · rename_i h; simp [h]
 · rename_i h
   split <;> simp [h]
theorem cmp_eq (a b : Int) : (cmpF a b == 0) = eqI a b := by
 unfold cmpF eqI
 rw [z2b]
 split
 · simp; omega
 · split
   · simp; omega
   · simp; omega
theorem qsh (a b : Int) : q08 P 135 [i64 a, i64 b] (fun x => x = i64 (cmpF a b)) := by
 refine q09 tyOk Tryz.func135 rfl rfl fun K hK => ?_
 simp only [seval, go_sem, Tryz.ntmps135]
 (refine q00 (qli a) rfl ?_; rintro _ rfl)
 simp only [seval, go_sem]
 (refine q00 (qli b) rfl ?_; rintro _ rfl)
 simp only [seval, go_sem]
 refine q02 ?_ ?_ <;> intro h
 · simp only [seval, go_sem]
   apply hK
   simp only [seval, go_sem, Tryz.results135]
   rw [cmpF, if_pos (by simpa using h)]
 · simp only [seval, go_sem]
   refine q02 ?_ ?_ <;> intro h2
   · simp only [seval, go_sem]
     apply hK
     simp only [seval, go_sem, Tryz.results135]
     rw [cmpF, if_neg (by simpa using h), if_pos (by simpa using h2)]
   · simp only [seval, go_sem]
     apply hK
     simp only [seval, go_sem, Tryz.results135]
     rw [cmpF, if_neg (by simpa using h), if_neg (by simpa using h2)]
theorem qqx (s : Ses) (id : Int) : q08 P 134 [s.av, i64 id] (fun x => x = i64 (cmpF s.id id)) := by
 refine q09 tyOk Tryz.func134 rfl rfl fun K hK => ?_
 simp only [seval, go_sem, Tryz.ntmps134, Ses.av]
 (refine q00 (qsh s.id id) rfl ?_; rintro _ rfl)
 simp only [seval, go_sem]
 apply hK
 simp only [seval, go_sem, Tryz.results134]
def ids (l : List Ses) : List Int := l.map Ses.id
theorem q78 (l : List Ses) : (ids l).length = l.length := by simp [ids]
theorem qmm {l : List Ses} {i : Nat} (h : i < l.length) : (ids l)[i]'(by rw [q78]; exact h) = l[i].id := by simp [ids]
theorem qw8 (l : List Ses) (hr : q8t ltI (ids l)) (k : Int) (hlen : l.length ≤ 1000000) :
 q08 P 133 [.sl 4 (avs l), i64 k, .fn 134 []] (fun x => x = .tup [i64 ((lb ltI (ids l) k : Nat) : Int), bool (q1q ltI eqI (ids l) k)]) := by
 refine q09 tyOk Tryz.func133 rfl rfl fun K hK => ?_
 simp only [seval, go_sem, Tryz.ntmps133, q07]
 have hle := qcw (lt := ltI) (ids l) k
 rw [q78] at hle
 refine q0d tyOk (α := Nat × Nat) 0 [0, 1, 2, 6, 7, 8, 9, 10] (fun q => q.1 ≤ lb ltI (ids l) k ∧ lb ltI (ids l) k ≤ q.2 ∧ q.2 ≤ l.length)
  (fun q => ⟨[.sl 4 (avs l), i64 k, .fn 134 [], .any, .any, .any, i64 0, bool false, i64 l.length, i64 q.1, i64 q.2, .any, .any, .any, .any, .any, .any, .any, .any, .any, .any, .any, .any, .any, .any, .any, .any, .any, .any, .any, .any, .any, .any, .any, .any, .any, .any, .any, .any, .any, .any, .any, .any, .any, .any, .any, .any, .any, .any], []⟩)
  (fun q => q.2 - q.1) (0, l.length) (z00 _) ⟨z00 _, hle, z09 _⟩ rfl ?_
 rintro ⟨i, j⟩ ⟨h1, h2, h3⟩
 simp only at h1 h2 h3
 simp only [seval, go_sem]
 refine q02 ?_ ?_ <;> intro hc <;> simp only [seval, go_sem]
 · have hij : i < j := by simpa using hc
   obtain ⟨hh, hlt, ew⟩ := qq9 (i := i) (j := j) (by omega) hij
   have hhn : (i + j) / 2 < l.length := by omega
   have eg := q6y hhn
   have k1 : (0 : Int) ≤ (((i + j) / 2 : Nat) : Int) ∧ Int.toNat (((i + j) / 2 : Nat) : Int) < l.length := by omega
   have w1 : IntKind.i64.wrap ((((i + j) / 2 : Nat) : Int) + 1) = (((i + j) / 2 + 1 : Nat) : Int) := by rw [wrap_i64 (by omega) (by omega)]; rfl
   have hid := qmm hhn
   simp only [seval, go_sem, ew, eg, k1, q07, Ses.av]
   (refine q00 (qqx l[(i + j) / 2] k) rfl ?_; rintro _ rfl)
   simp only [seval, go_sem, cmp_lt]
   cases hl : ltI l[(i + j) / 2].id k
   · simp only [seval, go_sem]
     simp only [seval, go_sem, q01]
     refine ⟨(i, (i + j) / 2), ⟨h1, ?_, by omega⟩, by simp only; omega, rfl⟩
     apply z1x
     intro hb
     have := lb_lt (lt := ltI) hb
     rw [hid, hl] at this; cases this
   · simp only [seval, go_sem, w1]
     simp only [seval, go_sem, q01]
     refine ⟨((i + j) / 2 + 1, j), ⟨?_, h2, h3⟩, by simp only; omega, rfl⟩
     apply z2k
     intro hb
     have := lb_ge ordI hr (by rw [q78]; exact hhn) hb
     rw [hid, hl] at this; cases this
 · have hij : ¬ i < j := by simpa using hc
   obtain rfl : i = lb ltI (ids l) k := by omega
   by_cases hn : lb ltI (ids l) k < l.length
   · have eg := q6y hn
     have k1 : (0 : Int) ≤ ((lb ltI (ids l) k : Nat) : Int) ∧ Int.toNat ((lb ltI (ids l) k : Nat) : Int) < l.length := by omega
     have d1 : decide (((lb ltI (ids l) k : Nat) : Int) < (l.length : Int)) = true := decide_eq_true (by omega)
     have hh := q6r (eq := eqI) (show lb ltI (ids l) k < (ids l).length by rw [q78]; exact hn)
     rw [qmm hn] at hh
     rw [hh] at hK
     simp only [seval, go_sem, d1, eg, k1, q07, Ses.av]
     (refine q00 (qqx l[lb ltI (ids l) k] k) rfl ?_; rintro _ rfl)
     simp only [seval, go_sem, cmp_eq]
     apply hK
     simp only [seval, go_sem, Tryz.results133]
   · have d1 : decide (((lb ltI (ids l) k : Nat) : Int) < (l.length : Int)) = false := decide_eq_false (by omega)
     rw [q88 (by rw [q78]; omega)] at hK
     simp only [seval, go_sem, d1]
     apply hK
     simp only [seval, go_sem, Tryz.results133]
theorem qj4 (l : List Ses) (hr : q8t ltI (ids l)) (k : Int) (hlen : l.length ≤ 1000000) :
 q08 P 118 [.sl 4 (avs l), i64 k] (fun x => x = .tup [i64 ((lb ltI (ids l) k : Nat) : Int), bool (q1q ltI eqI (ids l) k)]) := by
 refine q09 tyOk Tryz.func118 rfl rfl fun K hK => ?_
 simp only [seval, go_sem, Tryz.ntmps118]
 (refine q00 (qw8 l hr k hlen) rfl ?_; rintro _ rfl)
 simp only [seval, go_sem]
 apply hK
 simp only [seval, go_sem, Tryz.results118]
theorem has_iff {l : List Ses} {id : Int} : has l id = true ↔ id ∈ ids l := by
 rw [has, z39, ids, z1b]
 constructor
 · rintro ⟨s, h1, h2⟩; exact ⟨s, h1, by simpa using h2⟩
 · rintro ⟨s, h1, rfl⟩; exact ⟨s, h1, by simp⟩
theorem qc2 {l : List Ses} (hr : q8t ltI (ids l)) (id : Int) : q1q ltI eqI (ids l) id = has l id := by
 rw [z2b, qg1 ordI qhd hr, has_iff]
abbrev Up (l : List Ses) : Prop := q8t ltI (ids l)
theorem q8o {l : List Ses} : Up l ↔ l.Pairwise fun a b => a.id < b.id := by
 rw [Up, q8t, ids, z5j]
 simp only [ltI, decide_eq_true_eq]
def put (l : List Ses) (s : Ses) : List Ses := l.filter (fun x => decide (x.id < s.id)) ++ [s] ++ l.filter (fun x => decide (s.id < x.id))
def q55 (l : List Ses) : List (Int × Ses) := l.map fun s => (s.id, s)
theorem qde (l : List Ses) : (q55 l).map Prod.fst = ids l := by rw [q55, ids, z3f]; rfl
theorem qdf (l : List Ses) : (q55 l).map Prod.snd = l := by rw [q55, z3f]; exact z5d _
theorem qr0 {l : List Ses} (hr : Up l) (s : Ses) : (if has l s.id = true then l.set (lb ltI (ids l) s.id) s else l.take (lb ltI (ids l) s.id) ++ [s] ++ l.drop (lb ltI (ids l) s.id)) = put l s := by
 have h := congrArg (List.map Prod.snd) (qdt ordI qhd (m := q55 l) (by rw [q3p, qde]; exact hr) s.id s)
 have f : ∀ p : Ses → Bool, ((q55 l).filter fun q => p q.2).map Prod.snd = l.filter p := by
  intro p
  rw [q55, z41, z3f]
  exact z5d _
 have f1 : (q55 l).filter (fun p => ltI p.1 s.id) = (q55 l).filter (fun q => (fun x : Ses => decide (x.id < s.id)) q.2) := by
  rw [q55, z41, z41]; rfl
 have f2 : (q55 l).filter (fun p => ltI s.id p.1) = (q55 l).filter (fun q => (fun x : Ses => decide (s.id < x.id)) q.2) := by
  rw [q55, z41, z41]; rfl
 rw [f1, f2, z12, z12, f (fun x => decide (x.id < s.id)), f (fun x => decide (s.id < x.id))] at h
 unfold q2p at h
 rw [qde, qc2 hr] at h
 rw [put]
 refine Eq.trans ?_ h
 split
 · rw [z4b, qdf]
 · rw [z12, z12, z38, z3n, qdf]; rfl
theorem put_up {l : List Ses} (hr : Up l) (s : Ses) : Up (put l s) := by
 have h0 := q8o.1 hr
 refine q8o.2 ?_
 rw [put, z1r, z2e]
 refine ⟨h0.sublist z2w, ?_, ?_⟩
 · rw [z1u, z21, z2f]
   exact ⟨fun y hy => by simpa using (z1v.1 hy).2, h0.sublist z2w⟩
 · intro a ha b hb
   have ha : a.id < s.id := by simpa using (z1v.1 ha).2
   rcases z0q.1 hb with hb | hb
   · obtain rfl : b = s := by simpa using hb
     exact ha
   · have hb : s.id < b.id := by simpa using (z1v.1 hb).2
     omega
theorem qqp {l : List Ses} (hr : Up l) (id : Int) : Up (clear l id) := q8o.2 ((q8o.1 hr).sublist z2w)
theorem qep {l : List Ses} (hr : Up l) (now : Int) : Up (lives now l) := q8o.2 ((q8o.1 hr).sublist z2w)
theorem insF_put (s : Ses) (l : List Ses) : ∀ out, l.foldl (q1s s) (out, true) = (out ++ l, true) := by
 induction l with
 | nil => intro out; simp
 | cons x xs ih =>
  intro out
  have e : q1s s (out, true) x = (out ++ [x], true) := by simp [q1s]
  rw [z2o, e, ih]
  simp
theorem insF_eq (s : Ses) (l : List Ses) (hr : Up l) (hn : ∀ x ∈ l, x.id ≠ s.id) : ∀ out, (fun o : List Ses × Bool => if o.2 = true then o.1 else o.1 ++ [s]) (l.foldl (q1s s) (out, false)) = out ++ put l s := by
 induction l with
 | nil => intro out; simp [put]
 | cons x xs ih =>
  intro out
  have hp := z2f.1 (q8o.1 hr)
  have hx := hn x z3b
  by_cases hsx : s.id < x.id
  · have e : q1s s (out, false) x = (out ++ [s] ++ [x], true) := by simp [q1s, hsx]
    have f1 : xs.filter (fun y => decide (y.id < s.id)) = [] := List.filter_eq_nil_iff.2 fun y hy => by have := hp.1 y hy; simp; omega
    have f2 : xs.filter (fun y => decide (s.id < y.id)) = xs := List.filter_eq_self.2 fun y hy => by have := hp.1 y hy; simp; omega
    have d1 : decide (x.id < s.id) = false := by simp; omega
    have d2 : decide (s.id < x.id) = true := by simp; omega
    rw [z2o, e, insF_put, put, z1p, z1p, d1, d2, f1, f2]
    simp
  · have e : q1s s (out, false) x = (out ++ [x], false) := by simp [q1s, hsx]
    have d1 : decide (x.id < s.id) = true := by simp; omega
    have d2 : decide (s.id < x.id) = false := by simp; omega
    rw [z2o, e, ih (q8o.2 hp.2) (fun y hy => hn y (z3g _ hy)), put, put, z1p, z1p, d1, d2]
    simp
theorem qqn {l : List Ses} (hr : Up l) (s : Ses) : ins s (clear l s.id) = put l s := by
 have h := insF_eq s (clear l s.id) (qqp hr _) (fun x hx => by simpa [clear] using (z1v.1 hx).2) []
 have e : put (clear l s.id) s = put l s := by
  rw [put, put, clear, List.filter_filter, List.filter_filter]
  congr 1
  · congr 1
    refine List.filter_congr fun x _ => ?_
    rw [z2b]; simp; omega
  · refine List.filter_congr fun x _ => ?_
    rw [z2b]; simp; omega
 rw [z21, e] at h
 rw [← h, ins, insF]
