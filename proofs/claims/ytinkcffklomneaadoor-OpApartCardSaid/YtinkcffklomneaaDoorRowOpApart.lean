/- The row of OpApart, out of its contract. Printed by row.py, a program of this session. -/
import Derived.Test.YtinkcffklomneaaDoorMa
import Derived.Test.YtinkcffklomneaaDoorSymU
import Derived.PinnedBridge
import Derived.Test.YtinkcffklomneaaDoorRows
import Derived.LaidMore
import Derived.Lib.LaidTab
import Derived.MakeChecks
import Derived.OpenShut
import Derived.ChangeArms
import Derived.FnData
import Derived.Lay
import Derived.LaidOnce
import Derived.Test.YtinkcffklomneaaDoorMh
import Derived.Test.YtinkcffklomneaaDoorTie
import Derived.Test.YtinkcffklomneaaDoorCards
import Derived.SevenTiedAt
namespace Go.Proofs.YtinkcffklomneaaDoor
open Go Go.Proofs.YtinkcffklomneaaDoor.Sym
set_option maxRecDepth 100000
set_option linter.unusedSimpArgs false
set_option linter.unusedVariables false

def litV : Lit → Value
  | .int k n => .int k n
  | .bool b => .bool b
  | .string s => .string ⟨s.toArray⟩
  | _ => .nilIface

/-- An array of texts that reads as listed holds them, cell for cell. -/
theorem cells_of_texts {H : Type} {enc : TypeId × Value → H} {Q : Program} {w : World} {base : Nat} {sp : Nat → Bool} {held : Bool} {fuel : Nat} {t e : TypeId} {n : Nat} {cs : List Value} {zs : List (List UInt8)} {p : List MemPlace}
    (ht : Q.underlying t = some (.array n e)) (he : Q.underlying e = some .string) (hce : Q.cellsOf e = 1) (hct : Q.cellsOf t = n)
    (h : DataW.trod enc Q w base sp held fuel t cs = some (.agg (zs.map fun z => .lit (.string z)), p)) : cs = zs.map fun z => Value.string ⟨z.toArray⟩ := by
  obtain ⟨xs, m, rfl, hx, hl, hn, hel⟩ := DataW.trod_array ht h
  simp only [Prod.mk.injEq, DataW.agg.injEq] at hx
  have hzl : zs.length = n := by have := congrArg List.length hx.1; simp at this; omega
  rw [hce] at hel
  apply List.ext_getElem?
  intro i
  by_cases hi : i < n
  · have hf := hel i hi
    obtain ⟨b, hb⟩ : ∃ b, xs[i]? = some b := ⟨xs[i]'(by omega), List.getElem?_eq_getElem _⟩
    rw [hb] at hf
    obtain ⟨s, hc, rfl, _⟩ := DataW.trod_string he hf
    have h1 : cs[i]? = some (.string s) := by
      have := congrArg (·[0]?) hc
      simpa [List.getElem?_take, List.getElem?_drop] using this
    have h2 : (xs.map (·.1))[i]? = some (DataW.lit (.string s.data.toList) : DataW H) := by simp [hb]
    rw [← hx.1] at h2
    simp only [List.getElem?_map, Option.map_eq_some_iff, DataW.lit.injEq, Lit.string.injEq] at h2
    obtain ⟨z', hz', rfl⟩ := h2
    rw [h1]
    simp [hz']
  · rw [List.getElem?_eq_none (by omega), List.getElem?_eq_none (by simp; omega)]

theorem gNames : Tryd.prog.globalNamed "doorman/op.names" = some 0 := by kernel_rfl
theorem tNames : (Tryd.prog.globals[0]?).map (·.type) = some 52 := by kernel_rfl
theorem tPow : (Tryd.prog.globals[1]?).map (·.type) = some 83 := by kernel_rfl
def namesZ : List (List UInt8) := [[], [115, 101, 116], [98, 101, 97, 116], [99, 108, 101, 97, 114], [113, 117, 101, 114, 121], [98, 97, 116, 99, 104], [119, 97, 116, 99, 104], [117, 110, 119, 97, 116, 99, 104], [112, 111, 108, 108], [99, 108, 111, 115, 101]]
def laidL : List (String × DataW Unit) := [("math/bits.deBruijn32tab", Rows.laid_math_bits_deBruijn32tab), ("math/bits.deBruijn64tab", Rows.laid_math_bits_deBruijn64tab), ("internal/strconv.uint64pow10", Rows.laid_internal_strconv_uint64pow10), ("unicode/utf8.acceptRanges", Rows.laid_unicode_utf8_acceptRanges), ("doorman/op.names", Rows.laid_doorman_op_names), ("strconv.isGraphic", Rows.laid_strconv_isGraphic), ("strconv.isNotPrint16", Rows.laid_strconv_isNotPrint16), ("strconv.isNotPrint32", Rows.laid_strconv_isNotPrint32), ("strconv.isPrint16", Rows.laid_strconv_isPrint16), ("strconv.isPrint32", Rows.laid_strconv_isPrint32), ("unicode/utf8.first", Rows.laid_unicode_utf8_first)]
theorem c52 : Tryd.prog.cellsOf 52 = 10 := by kernel_rfl
theorem c9 : Tryd.prog.cellsOf 9 = 1 := by kernel_rfl
theorem c83 : Tryd.prog.cellsOf 83 = 20 := by kernel_rfl
theorem c22 : Tryd.prog.cellsOf 22 = 1 := by kernel_rfl
theorem cell_lt {w : World} {r o : Nat} {v : Value} (h : w.cell? ⟨r, o, none⟩ = some v) : r < w.heap.size := by
  rw [World.cell?] at h
  by_cases hs : r < w.heap.size
  · exact hs
  · rw [Array.getElem?_eq_none (by show w.heap.size ≤ r; omega)] at h
    cases h
theorem accL (i : Nat) (hi : i < 32) : ([Value.int .u8 128, Value.int .u8 191, Value.int .u8 160, Value.int .u8 191, Value.int .u8 128, Value.int .u8 159, Value.int .u8 144, Value.int .u8 191, Value.int .u8 128, Value.int .u8 143, Value.int .u8 0, Value.int .u8 0, Value.int .u8 0, Value.int .u8 0, Value.int .u8 0, Value.int .u8 0, Value.int .u8 0, Value.int .u8 0, Value.int .u8 0, Value.int .u8 0, Value.int .u8 0, Value.int .u8 0, Value.int .u8 0, Value.int .u8 0, Value.int .u8 0, Value.int .u8 0, Value.int .u8 0, Value.int .u8 0, Value.int .u8 0, Value.int .u8 0, Value.int .u8 0, Value.int .u8 0] : List Value)[i]? = some (.int .u8 (if i % 2 = 0 then (Lib.accLo (i / 2) : Int) else (Lib.accHi (i / 2) : Int))) := by
  rcases (by omega : i = 0 ∨ i = 1 ∨ i = 2 ∨ i = 3 ∨ i = 4 ∨ i = 5 ∨ i = 6 ∨ i = 7 ∨ i = 8 ∨ i = 9 ∨ i = 10 ∨ i = 11 ∨ i = 12 ∨ i = 13 ∨ i = 14 ∨ i = 15 ∨ i = 16 ∨ i = 17 ∨ i = 18 ∨ i = 19 ∨ i = 20 ∨ i = 21 ∨ i = 22 ∨ i = 23 ∨ i = 24 ∨ i = 25 ∨ i = 26 ∨ i = 27 ∨ i = 28 ∨ i = 29 ∨ i = 30 ∨ i = 31) with rfl | rfl | rfl | rfl | rfl | rfl | rfl | rfl | rfl | rfl | rfl | rfl | rfl | rfl | rfl | rfl | rfl | rfl | rfl | rfl | rfl | rfl | rfl | rfl | rfl | rfl | rfl | rfl | rfl | rfl | rfl | rfl <;> rfl
theorem tab_of {Hd : Nat → Prop} {w : World} {g : Nat} {k : IntKind} {t : List Nat} (hH : ∀ r, ¬ Hd r) (h : Lib.TabSlice g k t w) (h0 : 0 < t.length) {vs : List Value} (hv : some (t.map fun (n : Nat) => Value.int k (n : Int)) = some vs) :
    Imm Hd [] w g ∧ ∃ R o c, w.cell? ⟨g, 0, none⟩ = some (.slice (some ⟨R, o, none⟩) vs.length c) ∧ Imm Hd [] w R ∧ CellsAt w R o vs := by
  obtain rfl := Option.some.inj hv
  obtain ⟨R, o, c, h1, h2⟩ := h
  refine ⟨⟨cell_lt h1, by simp, hH _⟩, R, o, c, by simpa using h1, ⟨cell_lt (h2 0 h0), by simp, hH _⟩, fun j hj => ?_⟩
  have hj' : j < t.length := by simpa using hj
  rw [h2 j hj']
  simp [List.getD, List.getElem?_eq_getElem hj']

/-- What the row's condition gives the walk. -/
theorem glob_of_laid {W : World} (h : laidMetH Tryd.prog laidL W) : GlobOk (fun _ => False) [] W := by
  rw [MakeChecks.laidMetH_plain _ _ _ (by kernel_rfl)] at h
  have r : ∀ {n : String} {d : DataW Unit}, (n, d) ∈ laidL → Lib.VarReads Tryd.prog W n d := fun hm => Lib.laidMet.reads h hm
  have hU : Lib.Utf8Tabs (lays177_ren.g 3) (lays177_ren.g 4) W :=
    utf8Tabs_of_reads (ρ := lays177_ren) { lays177 with } ⟨by kernel_rfl, by kernel_rfl, by kernel_rfl, by kernel_rfl, by kernel_rfl, by kernel_rfl, by kernel_rfl⟩ (Pinned.utf8First_eq ▸ r (.tail _ (.tail _ (.tail _ (.tail _ (.tail _ (.tail _ (.tail _ (.tail _ (.tail _ (.tail _ (.head _)))))))))))) (show Lib.VarReads Tryd.prog W _ Lib.acceptData from (show Rows.laid_unicode_utf8_acceptRanges = Lib.acceptData by kernel_rfl) ▸ r (.tail _ (.tail _ (.tail _ (.head _)))))
  have hT : Lib.PrintTabsAt (lays177_ren.g 20) (lays177_ren.g 21) (lays177_ren.g 22) (lays177_ren.g 23) Lib.goPrintTabs W :=
    printTabs_of_reads (ρ := lays177_ren) { lays177 with } ⟨by kernel_rfl, by kernel_rfl, by kernel_rfl, by kernel_rfl, by kernel_rfl, by kernel_rfl, by kernel_rfl, by kernel_rfl, by kernel_rfl, by kernel_rfl⟩
      (Pinned.isPrint16_eq ▸ r (.tail _ (.tail _ (.tail _ (.tail _ (.tail _ (.tail _ (.tail _ (.tail _ (.head _)))))))))) (Pinned.isNotPrint16_eq ▸ r (.tail _ (.tail _ (.tail _ (.tail _ (.tail _ (.tail _ (.head _)))))))) (Pinned.isPrint32_eq ▸ r (.tail _ (.tail _ (.tail _ (.tail _ (.tail _ (.tail _ (.tail _ (.tail _ (.tail _ (.head _))))))))))) (Pinned.isNotPrint32_eq ▸ r (.tail _ (.tail _ (.tail _ (.tail _ (.tail _ (.tail _ (.tail _ (.head _)))))))))
  have hN := r (.tail _ (.tail _ (.tail _ (.tail _ (.head _)))))
  have hP := r (.tail _ (.tail _ (.head _)))
  refine ⟨fun g vs hg => ?_, fun g vs hg => ?_, fun g vs hg => ?_⟩
  · match g with
    | 0 =>
      cases hg
      obtain ⟨g0, t0, cs0, f0, p0, hg0, ht0, hv0, hd0⟩ := hN
      obtain rfl := Option.some.inj (gNames.symm.trans hg0)
      obtain rfl := Option.some.inj (tNames.symm.trans ht0)
      have hc : cs0.toList = namesZ.map fun z => Value.string ⟨z.toArray⟩ := cells_of_texts Tryd.underlying52 Tryd.underlying9 c9 c52 hd0
      have hcell := World.var?_cell hg0 hv0
      have h00 : W.cell? ⟨0, 0, none⟩ = some (.string ⟨#[]⟩) := by rw [hcell 0, ← Array.getElem?_toList, hc]; rfl
      refine ⟨⟨cell_lt h00, by simp, id⟩, fun i hi => ?_⟩
      rw [Nat.zero_add, hcell i, ← Array.getElem?_toList, hc]
      have hi' : i < 10 := hi
      rcases (by omega : i = 0 ∨ i = 1 ∨ i = 2 ∨ i = 3 ∨ i = 4 ∨ i = 5 ∨ i = 6 ∨ i = 7 ∨ i = 8 ∨ i = 9) with rfl | rfl | rfl | rfl | rfl | rfl | rfl | rfl | rfl | rfl <;> rfl
    | 3 =>
      obtain rfl := Option.some.inj hg
      refine ⟨⟨cell_lt (hU.1 0 (by omega)), by simp, id⟩, fun i hi => ?_⟩
      have hi' : i < 256 := by simpa using hi
      rw [Nat.zero_add]
      refine (hU.1 i hi').trans ?_
      simp
    | 4 =>
      obtain rfl := Option.some.inj hg
      refine ⟨⟨cell_lt (hU.2 0 (by omega)).1, by simp, id⟩, fun i hi => ?_⟩
      have hi' : i < 32 := hi
      have hl := accL i hi'
      rw [List.getElem?_eq_getElem hi'] at hl
      rw [Nat.zero_add]
      refine Eq.trans ?_ hl.symm
      by_cases h2 : i % 2 = 0
      · rw [if_pos h2]
        have := (hU.2 (i / 2) (by omega)).1
        rw [show 2 * (i / 2) = i by omega] at this
        exact this
      · rw [if_neg h2]
        have := (hU.2 (i / 2) (by omega)).2
        rw [show 2 * (i / 2) + 1 = i by omega] at this
        exact this
    | 1 | 2 | (n + 5) => cases hg
  · match g with
    | 5 => exact tab_of (fun _ => id) hT.1 (by decide) hg
    | 6 => exact tab_of (fun _ => id) hT.2.1 (by decide) hg
    | 7 => exact tab_of (fun _ => id) hT.2.2.1 (by decide) hg
    | 8 => exact tab_of (fun _ => id) hT.2.2.2.1 (by decide) hg
    | 0 | 1 | 2 | 3 | 4 | (n + 9) => cases hg
  · match g with
    | 1 =>
      obtain rfl := Option.some.inj hg
      obtain ⟨g0, t0, cs0, f0, p0, hg0, ht0, hv0, hd0⟩ := hP
      obtain rfl := Option.some.inj (gPow.symm.trans hg0)
      obtain rfl := Option.some.inj (tPow.symm.trans ht0)
      rw [show Rows.laid_internal_strconv_uint64pow10 = (Lib.tabData .u64 Lib.pow10Tab : DataW Unit) by kernel_rfl] at hd0
      have hc := Lib.cells_of_tab Tryd.underlying83 Tryd.underlying22 c22 c83 hd0
      unfold World.var? at hv0
      rw [gPow, Option.bind_some] at hv0
      split at hv0
      · rename_i cs t f hh
        obtain rfl := Option.some.inj hv0
        have hlt : 1 < W.heap.size := by
          by_cases hs : 1 < W.heap.size
          · exact hs
          · rw [Array.getElem?_eq_none (by omega)] at hh
            cases hh
        exact ⟨⟨hlt, by simp, id⟩, t, f, by rw [hh, ← hc]⟩
      · cases hv0
    | 0 | (n + 2) => cases hg

/-- A world in which all that is listed is laid meets the condition. -/
theorem laid_met (os : Os) (args : Array Value) : laidMetH Tryd.prog laidL ((World.laidAll Tryd.prog os laidL).forCall (fun _ _ => 0) ⟨#[], args, []⟩).memory := by
  rw [MakeChecks.laidMetH_plain _ _ _ (by kernel_rfl)]
  exact laidMet_laidAll _ (by kernel_rfl) (by kernel_rfl)
#print axioms laid_met
end Go.Proofs.YtinkcffklomneaaDoor
namespace Go.Proofs.YtinkcffklomneaaDoor.opApart
open Go.ChangeShapes Go.WideShapes Go.ChangeAt Go.RowKit Go.Proofs.YtinkcffklomneaaDoor.Sym
open Go.ChangeMaps (open_string shut_string)
set_option linter.unusedVariables false
theorem own : ownKnob Tryd.prog.godebug = none := by kernel_rfl
theorem laidOut : laidOutB Tryd.prog = true := by kernel_rfl
set_option maxRecDepth 100000 in
theorem lifted (os : Os) (started : os.Started) (H : Type) (enc : TypeId × Value → H) :
    ReturnsInHanded {} Tryd.checked os 6 .any (fun w args => (Rows.opApartSpec.pre enc Tryd.prog Tryd.f6 [] false w args ∧ laidMetH Tryd.prog laidL w) ∧ sizedMet enc Tryd.prog Tryd.f6 (OpenSpec.ofChange Rows.opApartSpec) false w args)
      (Rows.opApartSpec.post enc Tryd.prog Tryd.f6 false true false false) := by
  refine returnsInHanded_of_change_and (C := Tryd.checked) (X := fun w _ => laidMetH Tryd.prog laidL w) (fun _ _ _ hh h => h.of_heap hh) own started (by kernel_rfl) Tryd.func6
    (ChangeSpec.witness_shaped (enc := enc) (C := Tryd.checked) (os := os) (X := fun w _ => laidMetH Tryd.prog laidL w) false (World.laidAll Tryd.prog os laidL) #[.agg #[.int .i64 0, .string .empty, .int .i64 0, .int .i64 0, .int .i64 0, .int .u64 0, .slice none 0 0], .agg #[.int .i64 0, .string .empty, .int .i64 0, .int .i64 0, .int .i64 0, .int .u64 0, .slice none 0 0], .agg #[.int .i64 0, .slice none 0 0, .slice none 0 0, .bool false], .agg #[.int .i64 0, .slice none 0 0, .slice none 0 0, .bool false]] 8 (World.laidAll_os _ _ _) (World.shaped_of_ZipB (by kernel_rfl) (by kernel_rfl)) (by kernel_rfl) (by kernel_rfl) (by kernel_rfl) (laid_met os _)) ?_
  intro W base args ds gs before hval0 hW hcnd hsz0 hL _
  have hval : ∀ (j : Nat) t v, Tryd.f6.params[j]? = some t → args[j]? = some v → Value.okWide Tryd.prog W .any base t v := hval0
  have hW' := hW
  obtain ⟨p, q, hA0, hV, rfl, hfz, hnd⟩ := hW
  have hA : DataW.TrodAll enc Tryd.prog W 0 (fun _ => true) true Tryd.f6.params.toList args.toList ds p := hA0
  have hval2 : ∀ (j : Nat) t v, Tryd.f6.params.toList[j]? = some t → args.toList[j]? = some v → Value.okWide Tryd.prog W .any base t v := fun j t v h1 h2 => hval j t v (by simpa using h1) (by simpa using h2)
  rw [Tryd.params6] at hA hval2
  obtain ⟨xs, hfit, hrel⟩ := open_args tyOk _ _ _ _ _ shapesOpApart_ok hval2 hA
  obtain ⟨v0, vs0, d0, ds0, p0, q0, hargs, rfl, rfl, h0, r0⟩ := trodAll_cons hA
  obtain ⟨v1, vs1, d1, ds1, p1, q1, rfl, rfl, rfl, h1, r1⟩ := trodAll_cons r0
  obtain ⟨v2, vs2, d2, ds2, p2, q2, rfl, rfl, rfl, h2, r2⟩ := trodAll_cons r1
  obtain ⟨v3, vs3, d3, ds3, p3, q3, rfl, rfl, rfl, h3, r3⟩ := trodAll_cons r2
  obtain ⟨rfl, rfl, rfl⟩ := trodAll_nil r3
  obtain rfl : args = #[v0, v1, v2, v3] := by cases args; simp_all
  obtain ⟨rfl, rfl⟩ := trodVars_none hV
  have k0 := h0
  have lt0 : ∀ x ∈ p0, x.block < W.heap.size := by obtain ⟨m, hm⟩ := k0; exact DataW.trod_lt m _ _ _ hm
  have k1 := h1
  have lt1 : ∀ x ∈ p1, x.block < W.heap.size := by obtain ⟨m, hm⟩ := k1; exact DataW.trod_lt m _ _ _ hm
  have k2 := h2
  have lt2 : ∀ x ∈ p2, x.block < W.heap.size := by obtain ⟨m, hm⟩ := k2; exact DataW.trod_lt m _ _ _ hm
  have k3 := h3
  have lt3 : ∀ x ∈ p3, x.block < W.heap.size := by obtain ⟨m, hm⟩ := k3; exact DataW.trod_lt m _ _ _ hm
  clear hA0 hval0 hsz0 hval hval2
  refine (PCall.calls (law_OpApart xs hfit) hrel (glob_of_laid hL)).mono ?_
  rintro e W' ⟨y, x, rfl, rfl, hy, bel⟩
  obtain rfl := hy _ rfl
  exact ⟨_, rfl, _, _, _, [], _, [], hW', trodAll_mk1 (shut_bool Tryd.underlying4 _), (trodAll_cons_mk (Below.trod laidOut (by kernel_rfl) (of_decide_eq_true (by kernel_rfl)) k0 bel lt0) (trodAll_cons_mk (Below.trod laidOut (by kernel_rfl) (of_decide_eq_true (by kernel_rfl)) k1 bel lt1) (trodAll_cons_mk (Below.trod laidOut (by kernel_rfl) (of_decide_eq_true (by kernel_rfl)) k2 bel lt2) (trodAll_cons_mk (Below.trod laidOut (by kernel_rfl) (of_decide_eq_true (by kernel_rfl)) k3 bel lt3) trodAll_mk0)))), rfl, bel.frame _, fun h => by cases h⟩
theorem over : Rows.opApartRow.holds Tryd.pinned (OpenSpec.ofChange Rows.opApartSpec) :=
  OpenClaim.holds_of_wide 6 Tryd.f6 rfl rfl rfl rfl rfl rfl rfl ⟨rfl, rfl, rfl, rfl, rfl⟩ rfl rfl rfl rfl rfl (by kernel_rfl) Tryd.func6 (by kernel_rfl)
    (of_decide_eq_true (by kernel_rfl)) (by unfold Func.isWrapper; first | (rw [if_pos (by decide +kernel)]; kernel_rfl) | (rw [if_neg (by decide +kernel)]; exact ⟨rfl, rfl⟩))
    (fun os started H enc _ => lifted os started H enc)
theorem card : Rows.OpApartCardSaid :=
  Claim7.holds_tied_plain_at .later [] [.data, .data, .data, .data, .data, .pinned, .pinned, .pinned, .pinned, .pinned, .pinned] true (true, "12f2c9f372caeb371b9f8a985f0b8b519893e217908945a358e8c08d97a402e3") false
    over (fun _ h => by cases h) (by kernel_rfl) (fun _ h => by cases h) opApart_row_tie rfl ⟨rfl, rfl⟩ (by kernel_rfl) rfl
    (fun f fn hf hfn => by
      obtain rfl : f = 6 := Option.some.inj ((show Tryd.prog.funcNamed "doorman/doormanlaw11.OpApart" = some 6 by kernel_rfl).symm.trans hf) |>.symm
      obtain rfl : fn = Tryd.f6 := (Option.some.inj (Tryd.func6.symm.trans hfn)).symm
      exact ⟨by kernel_rfl, fun j t ht => by
        rw [Tryd.params6] at ht
        have hm : t ∈ [25, 25, 36, 36] := by simpa using Array.mem_of_getElem? ht
        have hall : ([25, 25, 36, 36].all fun u => !Tryd.prog.wantsStandIn u) = true := by kernel_rfl
        exact (show Tryd.prog.wantsStandIn t = false by simpa using List.all_eq_true.1 hall t hm)⟩)
    (by kernel_rfl)
theorem proved : Rows.OpApartCardSaid := card
#print axioms proved
end Go.Proofs.YtinkcffklomneaaDoor.opApart
namespace Go.Proofs.YtinkcffklomneaaDoor
/-- The card, under a short name, for the claim. -/
theorem opApart_holds : Rows.OpApartCardSaid := opApart.proved
end Go.Proofs.YtinkcffklomneaaDoor
