/- A text of the walk that proves a law of this seat; joined by a program. -/
import Derived.WalkKit
set_option linter.unusedSimpArgs false
set_option linter.unusedVariables false
namespace Go.Proofs.YtdkcpcflfnakdaaGreat
open Go Go.RowKit
abbrev z00 := @Nat.zero_le
abbrev z01 := @List.getElem?_cons_zero
abbrev z02 := @List.length_cons
abbrev z03 := @List.getElem?_cons_succ
abbrev z04 := @List.getD_eq_getElem?_getD
abbrev z05 := @List.getElem?_eq_getElem
abbrev z06 := @List.mem_of_getElem?
abbrev z07 := @List.take_of_length_le
abbrev z08 := @List.getElem?_eq_some_iff
abbrev z09 := @Nat.le_refl
abbrev z0a := @List.length_nil
abbrev z0b := @Result.andThen_ok
abbrev z0c := @List.length_append
abbrev z0d := @Bool.and_eq_true
abbrev z0e := @List.getElem?_set_ne
abbrev z0f := @List.length_map
abbrev z0g := @Int.toNat_natCast
abbrev z0h := @List.cons.injEq
abbrev z0i := @List.append_nil
abbrev z0j := @List.getElem?_append_left
abbrev z0k := @List.getElem?_toArray
abbrev z0l := @List.all_eq_true
abbrev z0m := @List.getElem?_set_self
abbrev z0n := @Bool.false_eq_true
abbrev z0o := @List.map_nil
abbrev z0p := @List.getElem?_eq_none
abbrev z0q := @List.mem_append
abbrev z0r := @List.map_cons
abbrev z0s := @Sem.run_bind
abbrev z0t := @Bool.and_true
abbrev z0u := @List.getD_cons_zero
abbrev z0v := @List.getD_cons_succ
abbrev z0w := @List.take_length
abbrev z0x := @List.take_append_of_le_length
abbrev z0y := @List.take_succ_cons
abbrev z0z := @Bool.true_and
abbrev z10 := @Nat.lt_of_lt_of_le
abbrev z11 := @List.getElem?_map
abbrev z12 := @List.map_append
abbrev z13 := @List.take_zero
abbrev z14 := @List.drop_of_length_le
abbrev z15 := @Sem.run_pure
abbrev z16 := @Nat.zero_add
abbrev z17 := @List.drop_zero
abbrev z18 := @List.getElem?_append_right
abbrev z19 := @Option.map_some
abbrev z1a := @List.eq_nil_of_length_eq_zero
abbrev z1b := @List.mem_map
abbrev z1c := @List.mem_of_mem_take
abbrev z1d := @Option.some.injEq
abbrev z1e := @List.ext_getElem?
abbrev z1f := @Nat.le_trans
abbrev z1g := @Array.length_toList
abbrev z1h := @List.eq_of_mem_replicate
abbrev z1i := @List.getElem_mem
abbrev z1j := @List.mem_singleton
abbrev z1k := @List.take_nil
abbrev z1l := @List.length_take
abbrev z1m := @List.getElem?_of_mem
abbrev z1n := @List.length_filter_le
abbrev z1o := @List.take_append_drop
abbrev z1p := @List.filter_cons
abbrev z1q := @Bool.or_eq_true
abbrev z1r := @List.append_assoc
abbrev z1s := @Array.toArray_toList
abbrev z1t := @Array.getElem?_eq_some_iff
abbrev z1u := @List.cons_append
abbrev z1v := @List.mem_filter
abbrev z1w := @Nat.mul_le_mul_right
abbrev z1x := @Nat.le_of_not_lt
abbrev z1y := @Nat.add_zero
abbrev z1z := @List.mem_or_eq_of_mem_set
abbrev z20 := @List.length_singleton
abbrev z21 := @List.nil_append
abbrev z22 := @List.length_range'
abbrev z23 := @Bool.false_and
abbrev z24 := @List.nodup_nil
abbrev z25 := @Nat.add_mul
abbrev z26 := @List.mem_cons
abbrev z27 := @List.mem_flatMap
abbrev z28 := @Nat.not_lt_zero
abbrev z29 := @List.length_replicate
abbrev z2a := @Nat.exists_eq_add_of_le
abbrev z2b := @Bool.eq_iff_iff
abbrev z2c := @List.nodup_range'
abbrev z2d := @List.size_toArray
abbrev z2e := @List.pairwise_append
abbrev z2f := @List.pairwise_cons
abbrev z2g := @Bool.false_or
abbrev z2h := @Go.run_underlying
abbrev z2i := @List.drop_eq_getElem_cons
abbrev z2j := @List.range_succ
abbrev z2k := @Nat.lt_of_not_le
abbrev z2l := @Bool.not_eq_true'
abbrev z2m := @Bool.or_eq_false_iff
abbrev z2n := @List.filter_append
abbrev z2o := @List.foldl_cons
abbrev z2p := @List.map_congr_left
abbrev z2q := @Nat.le_succ_of_le
abbrev z2r := @Bool.and_false
abbrev z2s := @Nat.le_antisymm
abbrev z2t := @Bool.or_true
abbrev z2u := @List.append_eq_nil_iff
abbrev z2v := @List.takeWhile_cons
abbrev z2w := @List.filter_sublist
abbrev z2x := @List.pairwise_iff_getElem
abbrev z2y := @Array.getElem?_eq_getElem
abbrev z2z := @IntKind.wrap_u64
abbrev z30 := @Bool.true_or
abbrev z31 := @List.length_drop
abbrev z32 := @List.getElem_append_left
abbrev z33 := @Option.isSome_none
abbrev z34 := @Prod.mk.injEq
abbrev z35 := @List.all_cons
abbrev z36 := @Bool.or_false
abbrev z37 := @Ne.symm
abbrev z38 := @List.map_take
abbrev z39 := @List.any_eq_true
abbrev z3a := @Below.heap_alloc
abbrev z3b := @List.mem_cons_self
abbrev z3c := @Bool.not_false
abbrev z3d := @Array.getElem?_toList
abbrev z3e := @Nat.le_succ
abbrev z3f := @List.map_map
abbrev z3g := @List.mem_cons_of_mem
abbrev z3h := @List.nodup_cons
abbrev z3i := @Nat.lt_succ_iff_lt_or_eq
abbrev z3j := @List.mem_of_mem_drop
abbrev z3k := @List.foldl_append
abbrev z3l := @List.flatMap_cons
abbrev z3m := @Function.comp_def
abbrev z3n := @List.map_drop
abbrev z3o := @List.drop_append_of_le_length
abbrev z3p := @List.replicate_succ
abbrev z3q := @List.take_take
abbrev z3r := @Nat.lt_succ_self
abbrev z3s := @Nat.sub_zero
abbrev z3t := @List.all_nil
abbrev z3u := @Bool.or_assoc
abbrev z3v := @List.mem_iff_getElem
abbrev z3w := @List.rel_of_pairwise_cons
abbrev z3x := @Option.getD_some
abbrev z3y := @List.length_pos_iff
abbrev z3z := @Nat.min_eq_left
abbrev z40 := @List.any_append
abbrev z41 := @List.filter_map
abbrev z42 := @List.set_cons_zero
abbrev z43 := @List.set_cons_succ
abbrev z44 := @List.headD_cons
abbrev z45 := @List.eq_nil_iff_forall_not_mem
abbrev z46 := @Option.map_eq_some_iff
abbrev z47 := @List.reverse_cons
abbrev z48 := @List.getElem_take
abbrev z49 := @Array.size_append
abbrev z4a := @Bool.and_eq_false_imp
abbrev z4b := @List.map_set
abbrev z4c := @List.set_append_right
abbrev z4d := @Nat.mul_comm
abbrev z4e := @List.take_left
abbrev z4f := @IntKind.wrap_i64
abbrev z4g := @List.ext_getElem
abbrev z4h := @List.take_prefix
abbrev z4i := @Option.bind_some
abbrev z4j := @Nat.add_assoc
abbrev z4k := @Bool.not_true
abbrev z4l := @Nat.mul_le_mul_left
abbrev z4m := @List.all_append
abbrev z4n := @Bool.not_eq_false'
abbrev z4o := @Array.ext_getElem?
abbrev z4p := @Array.foldl_toList
abbrev z4q := @Array.ext'
abbrev z4r := @List.any_eq_false
abbrev z4s := @List.getElem_cons_zero
abbrev z4t := @Nat.mul_one
abbrev z4u := @List.length_eq_one_iff
abbrev z4v := @Bool.and_self
abbrev z4w := @List.sum_cons
abbrev z4x := @Oper.semAt_eq
abbrev z4y := @List.take_append
abbrev z4z := @List.not_mem_nil
abbrev z50 := @Nat.zero_lt_succ
abbrev z51 := @List.take_succ_eq_append_getElem
abbrev z52 := @Array.toList_map
abbrev z53 := @List.singleton_append
abbrev z54 := @List.mem_append_right
abbrev z55 := @List.filter_nil
abbrev z56 := @List.length_set
abbrev z57 := @List.sum_append
abbrev z58 := @Array.eq_empty_of_size_eq_zero
abbrev z59 := @Nat.div_lt_of_lt_mul
abbrev z5a := @List.getElem?_range
abbrev z5b := @List.drop_succ_cons
abbrev z5c := @Array.getElem?_setIfInBounds
abbrev z5d := @List.map_id
abbrev z5e := @Nat.lt_or_gt_of_ne
abbrev z5f := @Nat.eq_zero_or_pos
abbrev z5g := @List.getElem?_take
abbrev z5h := @List.zip_cons_cons
abbrev z5i := @Array.empty_append
abbrev z5j := @List.pairwise_map
abbrev z5k := @List.getElem?_set
abbrev z5l := @List.mapM_toArray
abbrev z5m := @List.getElem_append_right
abbrev z5n := @List.getElem?_eq_none_iff
abbrev z5o := @Nat.min_self
abbrev z5p := @Nat.succ_pos
abbrev z5q := @Nat.mul_succ
abbrev z5r := @Bool.or_comm
abbrev z5s := @Bool.not_eq_true
abbrev z5t := @World.size_alloc
abbrev z5u := @Option.map_none
abbrev z5v := @Nat.div_add_mod
abbrev z5w := @Nat.mul_le_mul
abbrev z5x := @List.mapM_cons
end Go.Proofs.YtdkcpcflfnakdaaGreat
namespace Go.Proofs.YtdkcpcflfnakdaaGreat.Sym
open Go Go.RowKit
variable {B r : Nat} {w w' : World}
inductive AV where
 | v (x : Value)                 -- a value without addresses, as it stands
 | agg (xs : List AV)            -- a struct or an array: its cells
 | tup (xs : List AV)            -- several results
 | sl (sz : Nat) (xs : List AV)  -- a slice that nobody changes: its elements
 | rp (cs : List AV)             -- an address of cells that nobody changes: these and those behind
 | own (b sz off len : Nat)      -- a slice of a row of our own
 | ptr (b c : Nat)               -- the address of a cell of a box of our own
 | ep (b sz i c : Nat)         -- the address of a cell of an element of a row of our own
 | fn (f : FuncId) (caps : List AV)
 | any
 deriving Inhabited
variable {x : AV} {xs : List AV}
def AV.cells : AV → List AV
 | .agg xs => xs
 | .v x => x.cells.toList.map .v
 | x => [x]
inductive AB where
 | box (cs : List AV)
 | row (t : TypeId) (sz : Nat) (xs : List AV)
 | rowc (t : TypeId) (sz : Nat) (xs : List AV) (N : Nat)  -- a row that has room for so many
 | gone
 | tr (xs : List AV) (stopped : Bool)  -- no memory: what an iterator has handed out, and whether it was told to stop
 deriving Inhabited
abbrev Loc := List (Option Nat)
variable {ι ι' : Loc}
def G : Nat → Option (List Value)
 | _ => none
def GT : Nat → Option (List Value)
 | _ => none
def GW : Nat → Option (List Value)
 | _ => none
def Imm (Hd : Nat → Prop) (ι : Loc) (w : World) (r : Nat) : Prop := r < w.heap.size ∧ some r ∉ ι ∧ ¬ Hd r
def q22 (w : World) (r off : Nat) (vs : List Value) : Prop :=
 ∀ i, (h : i < vs.length) → w.cell? ⟨r, off + i, none⟩ = some vs[i]
def q04 (vs : List Value) : List Value := vs.flatMap fun v => v.cells.toList
def q20 (w : World) (r off sz : Nat) (vs : List Value) : Prop := (∀ v ∈ vs, v.cells.size = sz) ∧ q22 w r off (q04 vs) ∧ ∀ u ∈ q04 vs, u.oneCell' = true
mutual
def AV.refs : AV → List Nat
 | .agg xs => q05 xs
 | .tup xs => q05 xs
 | .sl _ xs => q05 xs
 | .rp cs => q05 cs
 | .own b _ _ _ => [b]
 | .ptr b _ => [b]
 | .ep b _ _ _ => [b]
 | .fn _ caps => q05 caps
 | _ => []
def q05 : List AV → List Nat
 | [] => []
 | x :: xs => x.refs ++ q05 xs
end
mutual
def rel (Hd : Nat → Prop) (ι : Loc) (w : World) : AV → Value → Prop
 | .v x, y => y = x
 | .agg xs, y => ∃ vs : List Value, y = .agg vs.toArray ∧ rels Hd ι w xs vs
 | .tup xs, y => ∃ vs : List Value, y = .tuple vs.toArray ∧ rels Hd ι w xs vs
 | .sl sz xs, y => q05 xs = [] ∧ ∃ (a : Option Addr) (cap : Nat) (vs : List Value), y = .slice a xs.length cap ∧ xs.length ≤ cap ∧ rels Hd ι w xs vs ∧
  (xs = [] ∨ ∃ r off, a = some ⟨r, off, none⟩ ∧ Imm Hd ι w r ∧ q20 w r off sz vs)
 | .rp cs, y => q05 cs = [] ∧ ∃ (r off : Nat) (vs : List Value), y = .pointer (some ⟨r, off, none⟩) ∧ Imm Hd ι w r ∧ rels Hd ι w cs vs ∧ q22 w r off vs
 | .own b sz off len, y => (∃ r cap n t, y = .slice (some ⟨r, off * sz, none⟩) len cap ∧ len ≤ cap ∧ off + cap ≤ maxLen ∧ ι[b]? = some (some r) ∧ w.shape? r = some (t, n) ∧ (off + cap) * sz = n) ∨
  (∃ a, y = .slice a 0 0 ∧ off = 0 ∧ len = 0 ∧ ι[b]? = some none)
 | .ptr b c, y => ∃ r, y = .pointer (some ⟨r, c, none⟩) ∧ ι[b]? = some (some r)
 | .ep b sz i c, y => ∃ r, y = .pointer (some ⟨r, i * sz + c, none⟩) ∧ ι[b]? = some (some r)
 | .fn f caps, y => ∃ vs : List Value, y = .func (.func f) #[] vs.toArray ∧ rels Hd ι w caps vs
 | .any, _ => True
def rels (Hd : Nat → Prop) (ι : Loc) (w : World) : List AV → List Value → Prop
 | [], ys => ys = []
 | x :: xs, ys => ∃ y zs, ys = y :: zs ∧ rel Hd ι w x y ∧ rels Hd ι w xs zs
end
structure Ext (L : Nat) (ι : Loc) (w : World) (ι' : Loc) (w' : World) : Prop where
 os : w'.os = w.os
 tape : w'.tape = w.tape
 output : w'.output = w.output
 size : w.heap.size ≤ w'.heap.size
 imm : ∀ r, r < w.heap.size → some r ∉ ι → some r ∉ ι' ∧ w'.heap[r]? = w.heap[r]?
 shape : ∀ r, r < w.heap.size → w'.shape? r = w.shape? r
 keep : ∀ (b : Nat) (o : Option Nat), b < L → ι[b]? = some o → ι'[b]? = some o
variable {L : Nat} {Hd : Nat → Prop}
theorem Ext.refl (ι : Loc) (w : World) : Ext L ι w ι w := ⟨rfl, rfl, rfl, z09 _, fun _ _ h => ⟨h, rfl⟩, fun _ _ => rfl, fun _ _ _ h => h⟩
theorem Ext.trans {ι₁ ι₂ ι₃ : Loc} {w₁ w₂ w₃ : World} (h : Ext L ι₁ w₁ ι₂ w₂) (k : Ext L ι₂ w₂ ι₃ w₃) : Ext L ι₁ w₁ ι₃ w₃ :=
 ⟨k.os.trans h.os, k.tape.trans h.tape, k.output.trans h.output, z1f h.size k.size,
  fun r hr hn => ⟨(k.imm r (z10 hr h.size) (h.imm r hr hn).1).1, (k.imm r (z10 hr h.size) (h.imm r hr hn).1).2.trans (h.imm r hr hn).2⟩,
  fun r hr => (k.shape r (z10 hr h.size)).trans (h.shape r hr), fun b o hb ho => k.keep b o hb (h.keep b o hb ho)⟩
theorem q15 (h : w'.heap[r]? = w.heap[r]?) (o : Nat) : w'.cell? ⟨r, o, none⟩ = w.cell? ⟨r, o, none⟩ := by
 simp only [World.cell?, h]
theorem Imm.ext (h : Imm Hd ι w r) (e : Ext L ι w ι' w') : Imm Hd ι' w' r :=
 ⟨z10 h.1 e.size, (e.imm r h.1 h.2.1).1, h.2.2⟩
theorem q20.ext {off sz : Nat} {vs : List Value} (hi : Imm Hd ι w r) (e : Ext L ι w ι' w') (h : q20 w r off sz vs) : q20 w' r off sz vs :=
 ⟨h.1, fun i hl => (q15 (e.imm r hi.1 hi.2.1).2 _).trans (h.2.1 i hl), h.2.2⟩
theorem q22.ext {off : Nat} {vs : List Value} (hi : Imm Hd ι w r) (e : Ext L ι w ι' w') (h : q22 w r off vs) : q22 w' r off vs :=
 fun i hl => (q15 (e.imm r hi.1 hi.2.1).2 _).trans (h i hl)
mutual
theorem q66 (e : Ext L ι w ι' w') (hl : ∀ r, some r ∈ ι → r < w.heap.size) : ∀ (x : AV) (y : Value), (∀ b ∈ x.refs, ∀ o, ι[b]? = some o → ι'[b]? = some o) → rel Hd ι w x y → rel Hd ι' w' x y
 | .v _, _, _, h => h
 | .agg xs, _, hk, h => by
  obtain ⟨vs, rfl, h⟩ := h
  exact ⟨vs, rfl, q0l e hl xs vs hk h⟩
 | .tup xs, _, hk, h => by
  obtain ⟨vs, rfl, h⟩ := h
  exact ⟨vs, rfl, q0l e hl xs vs hk h⟩
 | .sl sz xs, _, hk, h => by
  obtain ⟨hp, a, cap, vs, rfl, hc, h, hm⟩ := h
  refine ⟨hp, a, cap, vs, rfl, hc, q0l e hl xs vs hk h, hm.imp id ?_⟩
  rintro ⟨r, off, rfl, hi, hr⟩
  exact ⟨r, off, rfl, hi.ext e, hr.ext hi e⟩
 | .rp cs, _, hk, h => by
  obtain ⟨hp, r, off, vs, rfl, hi, h, hc⟩ := h
  exact ⟨hp, r, off, vs, rfl, hi.ext e, q0l e hl cs vs hk h, hc.ext hi e⟩
 | .own b sz off len, _, hk, h => by
  rcases h with ⟨r, cap, n, t, rfl, hc, hm, hb, hs, hn⟩ | ⟨a0, rfl, h1, h2, h3⟩
  · exact .inl ⟨r, cap, n, t, rfl, hc, hm, hk b (by simp [AV.refs]) _ hb, (e.shape r (hl r (z06 hb))).trans hs, hn⟩
  · exact .inr ⟨a0, rfl, h1, h2, hk b (by simp [AV.refs]) _ h3⟩
 | .ptr b c, _, hk, h => by
  obtain ⟨r, rfl, hb⟩ := h
  exact ⟨r, rfl, hk b (by simp [AV.refs]) _ hb⟩
 | .ep b sz i c, _, hk, h => by
  obtain ⟨r, rfl, hb⟩ := h
  exact ⟨r, rfl, hk b (by simp [AV.refs]) _ hb⟩
 | .fn f caps, _, hk, h => by
  obtain ⟨vs, rfl, h⟩ := h
  exact ⟨vs, rfl, q0l e hl caps vs hk h⟩
 | .any, _, _, _ => trivial
theorem q0l (e : Ext L ι w ι' w') (hl : ∀ r, some r ∈ ι → r < w.heap.size) : ∀ (xs : List AV) (ys : List Value), (∀ b ∈ q05 xs, ∀ o, ι[b]? = some o → ι'[b]? = some o) → rels Hd ι w xs ys → rels Hd ι' w' xs ys
 | [], _, _, h => h
 | x :: xs, _, hk, h => by
  obtain ⟨y, zs, rfl, h1, h2⟩ := h
  exact ⟨y, zs, rfl, q66 e hl x y (fun b hb => hk b (by simp [q05, hb])) h1, q0l e hl xs zs (fun b hb => hk b (by simp [q05, hb])) h2⟩
end
theorem q0h : ∀ {xs : List AV} {ys : List Value}, rels Hd ι w xs ys → xs.length = ys.length
 | [], _, h => by cases h; rfl
 | x :: xs, _, h => by obtain ⟨y, zs, rfl, _, h2⟩ := h; simp [q0h h2]
theorem q9r : ∀ {xs : List AV} {ys : List Value} {i : Nat} {x : AV}, rels Hd ι w xs ys → xs[i]? = some x → ∃ y, ys[i]? = some y ∧ rel Hd ι w x y
 | [], _, _, _, _, hx => by simp at hx
 | x :: xs, _, i, x', h, hx => by
  obtain ⟨y, zs, rfl, h1, h2⟩ := h
  cases i with
  | zero => simp at hx; subst hx; exact ⟨y, rfl, h1⟩
  | succ i => simpa using q9r h2 (by simpa using hx)
theorem q13 : ∀ {xs xs' : List AV} {ys ys' : List Value}, rels Hd ι w xs ys → rels Hd ι w xs' ys' → rels Hd ι w (xs ++ xs') (ys ++ ys')
 | [], _, _, _, h, h' => by cases h; exact h'
 | x :: xs, _, _, _, h, h' => by
  obtain ⟨y, zs, rfl, h1, h2⟩ := h
  exact ⟨y, zs ++ _, rfl, h1, q13 h2 h'⟩
theorem qbw : ∀ {xs : List AV} {ys : List Value} (i : Nat) {x : AV} {y : Value}, rels Hd ι w xs ys → rel Hd ι w x y → rels Hd ι w (xs.set i x) (ys.set i y)
 | [], _, _, _, _, h, _ => by cases h; rfl
 | x :: xs, _, i, _, _, h, hx => by
  obtain ⟨y, zs, rfl, h1, h2⟩ := h
  cases i with
  | zero => exact ⟨_, zs, rfl, hx, h2⟩
  | succ i => exact ⟨y, _, rfl, h1, qbw i h2 hx⟩
theorem q1u : ∀ {xs : List AV} {ys : List Value} (i : Nat), rels Hd ι w xs ys → rels Hd ι w (xs.drop i) (ys.drop i)
 | [], _, i, h => by cases h; simp [rels]
 | x :: xs, _, i, h => by
  obtain ⟨y, zs, rfl, h1, h2⟩ := h
  cases i with
  | zero => exact ⟨y, zs, rfl, h1, h2⟩
  | succ i => exact q1u i h2
theorem q2c : ∀ {xs : List AV} {ys : List Value} (i : Nat), rels Hd ι w xs ys → rels Hd ι w (xs.take i) (ys.take i)
 | [], _, i, h => by cases h; simp [rels]
 | x :: xs, _, i, h => by
  obtain ⟨y, zs, rfl, h1, h2⟩ := h
  cases i with
  | zero => rfl
  | succ i => exact ⟨y, _, rfl, h1, q2c i h2⟩
theorem qar : ∀ {xs ys : List Value}, rels Hd ι w (xs.map AV.v) ys ↔ ys = xs
 | [], _ => Iff.rfl
 | x :: xs, ys => by
  constructor
  · rintro ⟨y, zs, rfl, h1, h2⟩
    have h1 : y = x := h1
    rw [qar.1 h2, h1]
  · rintro rfl
    exact ⟨x, xs, rfl, (rfl : x = x), qar.2 rfl⟩
theorem q2x : ∀ {ys : List Value}, rels Hd ι w (List.replicate ys.length .any) ys
 | [] => rfl
 | y :: ys => ⟨y, ys, rfl, True.intro, q2x⟩
theorem q6h {y : Value} (h : rel Hd ι w x y) (hx : x ≠ .any) : rels Hd ι w x.cells y.cells.toList := by
 cases x with
 | v x => cases h; exact qar.2 rfl
 | agg xs => obtain ⟨vs, rfl, h⟩ := h; simpa [AV.cells, Value.cells] using h
 | any => exact absurd rfl hx
 | tup xs => have h' := h; obtain ⟨vs, rfl, h⟩ := h; exact ⟨_, [], rfl, h', rfl⟩
 | sl sz xs => have h' := h; obtain ⟨_, a, cap, vs, rfl, _⟩ := h; exact ⟨_, [], rfl, h', rfl⟩
 | rp cs => have h' := h; obtain ⟨_, a, cap, vs, rfl, _⟩ := h; exact ⟨_, [], rfl, h', rfl⟩
 | own b sz off len =>
  have h' := h
  rcases h with ⟨r, cap, n, t, rfl, _⟩ | ⟨a0, rfl, _⟩ <;> exact ⟨_, [], rfl, h', rfl⟩
 | ptr b c => have h' := h; obtain ⟨r, rfl, _⟩ := h; exact ⟨_, [], rfl, h', rfl⟩
 | ep b sz i c => have h' := h; obtain ⟨r, rfl, _⟩ := h; exact ⟨_, [], rfl, h', rfl⟩
 | fn f caps => have h' := h; obtain ⟨r, rfl, _⟩ := h; exact ⟨_, [], rfl, h', rfl⟩
def AV.flat : AV → Bool
 | .v x => x.oneCell'
 | .agg _ => false
 | .tup _ => false
 | .any => false
 | _ => true
theorem qj5 {y : Value} (h : rel Hd ι w x y) (hx : x.flat = true) : y.oneCell' = true := by
 cases x with
 | v x => cases h; exact hx
 | agg xs => simp [AV.flat] at hx
 | any => simp [AV.flat] at hx
 | tup xs => simp [AV.flat] at hx
 | sl sz xs => obtain ⟨_, a, cap, vs, rfl, _⟩ := h; rfl
 | rp cs => obtain ⟨_, a, cap, vs, rfl, _⟩ := h; rfl
 | own b sz off len => rcases h with ⟨r, cap, n, t, rfl, _⟩ | ⟨a0, rfl, _⟩ <;> rfl
 | ptr b c => obtain ⟨r, rfl, _⟩ := h; rfl
 | ep b sz i c => obtain ⟨r, rfl, _⟩ := h; rfl
 | fn f caps => obtain ⟨r, rfl, _⟩ := h; rfl
theorem q0x : q05 xs = [] ↔ ∀ x ∈ xs, x.refs = [] := by
 induction xs with
 | nil => simp [q05]
 | cons x xs ih => simp [q05, ih]
theorem qks (h : x.refs = []) : q05 x.cells = [] := by
 cases x with
 | v y => rw [q0x]; intro z hz; simp only [AV.cells, z1b] at hz; obtain ⟨_, _, rfl⟩ := hz; rfl
 | agg xs => exact h
 | _ => rw [q0x]; intro z hz; simp only [AV.cells, z1j] at hz; subst hz; exact h
theorem q25 (h : q05 xs = []) (n : Nat) : q05 (xs.drop n) = [] := by
 rw [q0x] at h ⊢
 exact fun x hx => h x (z3j hx)
theorem q2e (h : q05 xs = []) (n : Nat) : q05 (xs.take n) = [] := by
 rw [q0x] at h ⊢
 exact fun x hx => h x (z1c hx)
theorem q2h {ys : List AV} (h : q05 xs = []) (k : q05 ys = []) : q05 (xs ++ ys) = [] := by
 rw [q0x] at h k ⊢
 intro x hx
 rcases z0q.1 hx with hx | hx
 · exact h x hx
 · exact k x hx
theorem qi0 (h : q05 xs = []) (i : Nat) (k : x.refs = []) : q05 (xs.set i x) = [] := by
 rw [q0x] at h ⊢
 intro y hy
 rcases z1z hy with hy | rfl
 · exact h y hy
 · exact k
structure St where
 tmps : List AV
 mem : List AB
def qa9 (ι : Loc) (w : World) (i sz N : Nat) : Prop := (∃ r t, ι[i]? = some (some r) ∧ w.shape? r = some (t, N * sz)) ∨ (ι[i]? = some none ∧ N = 0)
theorem qa9.move {i j sz N : Nat} (h : qa9 ι w i sz N) (hk : ∀ o : Option Nat, ι[i]? = some o → ι'[j]? = some o) (hs : ∀ r : Nat, ι[i]? = some (some r) → w'.shape? r = w.shape? r) : qa9 ι' w' j sz N := by
 rcases h with ⟨r, t, h1, h2⟩ | ⟨h1, h2⟩
 · exact .inl ⟨r, t, hk _ h1, (hs r h1).trans h2⟩
 · exact .inr ⟨hk _ h1, h2⟩
theorem qfc (h : w'.heap[r]? = w.heap[r]?) : w'.shape? r = w.shape? r := by simp only [World.shape?, h]
def q2j (Hd : Nat → Prop) (ι : Loc) (w : World) (i : Nat) : AB → Prop
 | .box cs => ∃ r t vs, ι[i]? = some (some r) ∧ w.heap[r]? = some (.cells vs t (0, 0)) ∧ rels Hd ι w cs vs.toList
 | .row t sz xs => q05 xs = [] ∧ ((∃ r cells vs, ι[i]? = some (some r) ∧ w.heap[r]? = some (.cells cells t (0, 0)) ∧ rels Hd ι w xs vs ∧ q20 w r 0 sz vs) ∨ (ι[i]? = some none ∧ xs = []))
 | .rowc t sz xs N => (q05 xs = [] ∧ ((∃ r cells vs, ι[i]? = some (some r) ∧ w.heap[r]? = some (.cells cells t (0, 0)) ∧ rels Hd ι w xs vs ∧ q20 w r 0 sz vs) ∨ (ι[i]? = some none ∧ xs = []))) ∧ qa9 ι w i sz N
 | .gone => True
 | .tr _ _ => True
def qcx (Hd : Nat → Prop) (B : Nat) (ι : Loc) (ds : List Deferred) (w : World) : Prop :=
 ∃ rs : List Nat, ds = rs.map (fun r => { target := .collected r, args := #[] }) ∧ rs.Nodup ∧ ∀ r ∈ rs, B ≤ r ∧ Imm Hd ι w r ∧ w.heap[r]? = some (.deferred (some []))
structure GlobOk (Hd : Nat → Prop) (ι : Loc) (w : World) : Prop where
 plain : ∀ g vs, G g = some vs → Imm Hd ι w g ∧ q22 w g 0 vs
 tab : ∀ g vs, GT g = some vs → Imm Hd ι w g ∧ ∃ R o c, w.cell? ⟨g, 0, none⟩ = some (.slice (some ⟨R, o, none⟩) vs.length c) ∧ Imm Hd ι w R ∧ q22 w R o vs
 whole : ∀ g vs, GW g = some vs → Imm Hd ι w g ∧ ∃ t f, w.heap[g]? = some (.cells vs.toArray t f)
theorem GlobOk.ext (h : GlobOk Hd ι w) (e : Ext L ι w ι' w') : GlobOk Hd ι' w' :=
 ⟨fun g vs hg => ⟨(h.plain g vs hg).1.ext e, (h.plain g vs hg).2.ext (h.plain g vs hg).1 e⟩,
  fun g vs hg => by
   obtain ⟨h1, R, o, c, h2, h3, h4⟩ := h.tab g vs hg
   exact ⟨h1.ext e, R, o, c, (q15 (e.imm g h1.1 h1.2.1).2 _).trans h2, h3.ext e, h4.ext h3 e⟩,
  fun g vs hg => by
   obtain ⟨h1, t, f, h2⟩ := h.whole g vs hg
   exact ⟨h1.ext e, t, f, (e.imm g h1.1 h1.2.1).2.trans h2⟩⟩
theorem GlobOk.free {Hd Hd' : Nat → Prop} (h : GlobOk Hd ι w) (hI : ∀ r, Imm Hd ι w r → Imm Hd' ι' w r) : GlobOk Hd' ι' w :=
 ⟨fun g vs hg => ⟨hI g (h.plain g vs hg).1, (h.plain g vs hg).2⟩,
  fun g vs hg => by
   obtain ⟨h1, R, o, c, h2, h3, h4⟩ := h.tab g vs hg
   exact ⟨hI g h1, R, o, c, h2, hI R h3, h4⟩,
  fun g vs hg => ⟨hI g (h.whole g vs hg).1, (h.whole g vs hg).2⟩⟩
theorem GlobOk.none {Hd : Nat → Prop} (h1 : ∀ g, G g = .none) (h2 : ∀ g, GT g = .none) (h3 : ∀ g, GW g = .none) : GlobOk Hd ι w :=
 ⟨fun g vs hg => (by rw [h1] at hg; cases hg), fun g vs hg => (by rw [h2] at hg; cases hg), fun g vs hg => (by rw [h3] at hg; cases hg)⟩
structure Rel (Hd : Nat → Prop) (B : Nat) (ι : Loc) (s : St) (a : Act) (w : World) : Prop where
 len : ι.length = s.mem.length
 lt : ∀ r : Nat, some r ∈ ι → r < w.heap.size
 inj : ∀ i j r : Nat, ι[i]? = some (some r) → ι[j]? = some (some r) → i = j
 tmps : rels Hd ι w s.tmps a.tmps.toList
 mem : ∀ i blk, s.mem[i]? = some blk → q2j Hd ι w i blk
 marks : qcx Hd B ι a.defers w
 hid : ∀ r, Hd r → r < w.heap.size ∧ some r ∉ ι
 glob : GlobOk Hd ι w
theorem Rel.hidExt {s : St} {a : Act} (h : Rel Hd B ι s a w) (e : Ext L ι w ι' w') : ∀ r, Hd r → r < w'.heap.size ∧ some r ∉ ι' :=
 fun r hr => ⟨z10 (h.hid r hr).1 e.size, (e.imm r (h.hid r hr).1 (h.hid r hr).2).1⟩
theorem Rel.nhid {s : St} {a : Act} (h : Rel Hd B ι s a w) : ∀ r : Nat, some r ∈ ι → ¬ Hd r :=
 fun r hr hh => (h.hid r hh).2 hr
theorem qcx.ext {ds : List Deferred} (h : qcx Hd B ι ds w) (e : Ext L ι w ι' w') : qcx Hd B ι' ds w' := by
 obtain ⟨rs, h1, h2, h3⟩ := h
 refine ⟨rs, h1, h2, fun r hr => ?_⟩
 obtain ⟨k1, k2, k3⟩ := h3 r hr
 exact ⟨k1, k2.ext e, (e.imm r k2.1 k2.2.1).2.trans k3⟩
