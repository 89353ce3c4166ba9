/- A text of the walk that proves a law of this seat; joined by a program. -/
import Derived.Test.YtdkcpcflfnakdaaGreatSymZc
import Derived.Laws.Externs
import Derived.Lib.Overlaps
set_option linter.unusedSimpArgs false
set_option linter.unusedVariables false
namespace Go.Proofs.YtdkcpcflfnakdaaGreat.Sym
open Go Go.RowKit
variable {L : Nat} {Hd : Nat → Prop} {P : Program} {T : TypeId → Option TI}
variable {e tR tS : TypeId}
theorem q1f (hT : TyOk P T) {g : FuncId} {fn : Func} {c : Code} (hf : P.funcs[g]? = some fn) (hb : fn.body = some c) (hname : (fn.name == "runtime.NumGoroutine") = false)
 {N M : Nat} {m : List AB} (hN : N ≤ m.length) (hM : m.length ≤ M) {args : List AV} {R : AV → List AB → Prop} (h : ∀ K, (∀ e s, retK P T fn M R e s → K e s) → go P T N [.code c] ⟨args ++ List.replicate (fn.ntmps - args.length) .any, m⟩ K) : q0j P N g m args R := by
 have h2 : q43 P T N c ⟨args ++ List.replicate (fn.ntmps - args.length) .any, m⟩ (retK P T fn M R) := h _ (fun e s hh => hh)
 exact qcr hT hf hb hname hN hM fun n => q48 hT c _ _ h2 Fence.wide n (.inl rfl)
theorem qjt {w : World} (ht : P.underlying tS = some (.slice e)) (size : Nat) (hz : ∀ w, (Go.sizeOf e).run P w = .ok size w) (a b : Addr) (la ca lb cb : Nat) (hne : a.block ≠ b.block) (tA tB : TypeId) (kA kB : Nat) (hsa : w.shape? a.block = some (tA, kA)) (hsb : w.shape? b.block = some (tB, kB)) (hkA : kA ≠ 0) (hfb : w.frozen? b = false) (hfe : w.frozen? { block := b.block, off := kB } = false) :
 (Extern.SlicesOverlaps.overlaps #[tS, tS] #[tR] #[.slice (some a) la ca, .slice (some b) lb cb]).run P w = .ok (.bool false) w := by
 have hnb : (a.block != b.block) = true := by simpa using hne
 have hnb' : (a.block == b.block) = false := by simpa using hne
 change Sem.run P (α := Value) (do
  let some t := (#[tS, tS] : Array TypeId)[0]? | stuck "slices.overlaps: no parameter types"
  let .slice elem ← underlying t | stuck "slices.overlaps: slice type expected"
  let size ← sizeOf elem
  match (some a : Option Addr), (some b : Option Addr) with
  | some a, some b =>
   if la = 0 ∨ lb = 0 ∨ size = 0 then pure (Value.bool false)
   else if a.block != b.block && (← frozen a) && (← frozen b) then unsupported .addressObserved
   else do
    if a.block != b.block then do
     noView a; noView b
     if ← mayBeOne a b then return Value.bool ((← choose (.extern "sameAddr.stringBytes" 2)) == 1)
    pure (Value.bool (a.block == b.block && a.off < b.off + lb * size && b.off < a.off + la * size))
  | _, _ => pure (Value.bool false)) w = _
 by_cases h0 : la = 0 ∨ lb = 0 ∨ size = 0
 · simp [z2h ht, hz, h0]
 · cases kA with
   | zero => exact absurd rfl hkA
   | succ kA =>
    cases hA : w.frozen? a <;> cases hA2 : w.frozen? { block := a.block, off := kA + 1 } <;>
     simp [z2h ht, hz, h0, hnb, hnb', frozen, noView, viewAt, mayBeOne, stringish, shape, Sem.run, hsa, hsb, hfb, hfe, hA, hA2]
theorem q7c {w : World} (ht : P.underlying tS = some (.slice e)) (size : Nat) (hz : ∀ w, (Go.sizeOf e).run P w = .ok size w) (a b : Option Addr) (la ca lb cb : Nat) (h : a = none ∨ b = none ∨ la = 0 ∨ lb = 0) :
 (Extern.SlicesOverlaps.overlaps #[tS, tS] #[tR] #[.slice a la ca, .slice b lb cb]).run P w = .ok (.bool false) w := by
 change Sem.run P (α := Value) (do
  let some t := (#[tS, tS] : Array TypeId)[0]? | stuck "slices.overlaps: no parameter types"
  let .slice elem ← underlying t | stuck "slices.overlaps: slice type expected"
  let size ← sizeOf elem
  match a, b with
  | some a, some b =>
   if la = 0 ∨ lb = 0 ∨ size = 0 then pure (Value.bool false)
   else if a.block != b.block && (← frozen a) && (← frozen b) then unsupported .addressObserved
   else do
    if a.block != b.block then do
     noView a; noView b
     if ← mayBeOne a b then return Value.bool ((← choose (.extern "sameAddr.stringBytes" 2)) == 1)
    pure (Value.bool (a.block == b.block && a.off < b.off + lb * size && b.off < a.off + la * size))
  | _, _ => pure (Value.bool false)) w = _
 cases a with
 | none => simp [z2h ht, hz]
 | some a =>
  cases b with
  | none => simp [z2h ht, hz]
  | some b =>
   have h0 : la = 0 ∨ lb = 0 ∨ size = 0 := by
    rcases h with h | h | h | h
    · cases h
    · cases h
    · exact .inl h
    · exact .inr (.inl h)
   simp [z2h ht, hz, h0]
theorem q6v (hT : TyOk P T) {g : FuncId} {fn : Func} (hf : P.funcs[g]? = some fn) (hname : (fn.name == "runtime.NumGoroutine") = false) (hb : fn.body.isNone = true) (hn : Extern.findNext fn = none) {ti te : TI} (he : Extern.find fn = some (Extern.SlicesOverlaps.overlaps #[tS, tS] #[tR])) (ht : T tS = some ti) (hd : ti.desc = .slice e) (hte : T e = some te) (hsz : te.size ≠ 0) {m : List AB} {b : Nat} {blk : AB} {t : TypeId} {sz0 : Nat} {xs : List AV} (hm : m[b]? = some blk) (hro : blk.rowOf = some (t, sz0, xs)) {ys : List AV} {sz off len : Nat} : XCall P g m [.sl te.size ys, .own b sz off len] (.v (.bool false)) := by
 refine ⟨fn, hf, fun Hd B ι tm a w vs hR hvs => ?_⟩
 obtain ⟨y1, z1, rfl, h1, y2, z2, rfl, h2, rfl⟩ := hvs
 refine ⟨.bool false, ?_, rfl⟩
 rw [run_callFunc_extern hf hname hb hn he]
 have hu : P.underlying tS = some (.slice e) := by rw [(hT tS ti ht).1, hd]
 have hz : ∀ w, (Go.sizeOf e).run P w = .ok te.size w := fun w => q10 hT hte w
 obtain ⟨hp, ad, cap, us, rfl, hc, hr, hrow⟩ := h1
 obtain ⟨hpx, hmr⟩ := q6o hro (hR.mem b _ hm)
 have key : (Extern.SlicesOverlaps.overlaps #[tS, tS] #[tR] #[.slice ad ys.length cap, y2]).run P w = .ok (.bool false) w := by
  rcases h2 with ⟨r, cap2, n, t', rfl, hcap, hmx, hbr, hs, hnn⟩ | ⟨a0, rfl, _, h0, _⟩
  · rcases hrow with rfl | ⟨r1, off1, rfl, hi, hra⟩
    · exact q7c hu _ hz _ _ _ _ _ _ (.inr (.inr (.inl rfl)))
    · by_cases hy : ys = []
      · subst hy; exact q7c hu _ hz _ _ _ _ _ _ (.inr (.inr (.inl rfl)))
      · rcases hmr with ⟨r', cells, vs, k1, k2, k3, k4⟩ | ⟨k1, _⟩
        · obtain rfl : r = r' := by rw [hbr] at k1; simpa using k1
          have hne : r1 ≠ r := by rintro rfl; exact hi.2.1 (z06 hbr)
          have hul : 0 < us.length := by rw [← q0h hr]; exact z3y.2 hy
          have hfl := q0k us hra.1
          have hpos : 0 < (q04 us).length := by rw [hfl]; exact Nat.mul_pos hul (Nat.pos_of_ne_zero hsz)
          have hcell := hra.2.1 0 hpos
          obtain ⟨cs1, t1, f1, hh1, hl1⟩ : ∃ cs1 t1 f1, w.heap[r1]? = some (.cells cs1 t1 f1) ∧ 0 < cs1.size := by
           unfold World.cell? at hcell
           simp only at hcell
           split at hcell
           · rename_i c1 t1 f1 hh
             simp at hcell
             exact ⟨c1, t1, f1, hh, by have := (z1t.1 hcell).1; omega⟩
           · cases hcell
          refine qjt hu _ hz _ _ _ _ _ _ hne t1 t cs1.size cells.size (by simp only [World.shape?, hh1]) (by simp only [World.shape?, k2]) (by omega) ?_ ?_
          · simp [World.frozen?, k2]
          · simp [World.frozen?, k2]
        · rw [hbr] at k1; cases k1
  · subst h0
    exact q7c hu _ hz _ _ _ _ _ _ (.inr (.inr (.inr rfl)))
 rw [key]; rfl
theorem q0c.unroom {tm : List AV} {t : TypeId} {sz N : Nat} {xs : List AV} : q0c ⟨tm, [.rowc t sz xs N]⟩ ⟨tm, [.row t sz xs]⟩ := by
 intro Hd B ι a w hR
 refine ⟨ι, ⟨hR.len, hR.lt, hR.inj, hR.tmps, ?_, hR.marks, hR.hid, hR.glob⟩, fun _ => Ext.refl _ _⟩
 intro i blk hi
 cases i with
 | zero => cases hi; exact (hR.mem 0 _ rfl).1
 | succ i => simp at hi
