/- A text of the walk that proves a law of this seat; joined by a program. -/
import Derived.Test.YtdkcpcflfnakdaaGreatSymK
import Derived.Laws.StructEq
set_option linter.unusedSimpArgs false
set_option linter.unusedVariables false
namespace Go.Proofs.YtdkcpcflfnakdaaGreat.Sym
open Go Go.RowKit
variable {L : Nat} {Hd : Nat → Prop}
variable {P : Program} {T : TypeId → Option TI} {t : TypeId} {x y : AV}
inductive Lf where
 | int (k : IntKind)
 | bool
 | str
 | sl (sz : Nat) (agg : Bool) (cs : List Lf)
def lfsF (T : TypeId → Option TI) (rec : TypeId → Option (List Lf)) (size : Nat) : List Field → Nat → Option (List Lf)
 | [], off => if off = size then some [] else none
 | f :: fs, off => if f.offset = off then match T f.type with
  | some tf => match rec f.type, lfsF T rec size fs (off + tf.size) with
   | some a, some b => some (a ++ b)
   | _, _ => none
  | none => none
  else none
def lfs (T : TypeId → Option TI) : Nat → TypeId → Option (List Lf)
 | 0, _ => none
 | n + 1, t => match T t with
  | none => none
  | some ti => match ti.desc with
   | .int k => some [.int k]
   | .bool => some [.bool]
   | .string => some [.str]
   | .slice e => match T e with
    | some te => if 0 < te.size then (lfs T n e).map fun l => [.sl te.size te.isAgg l] else none
    | none => none
   | .struct fs => lfsF T (lfs T n) ti.size fs.toList 0
   | _ => none
theorem qm9 {n : Nat} {ti : TI} {l : List Lf} (ht : T t = some ti) (ha : ti.isAgg = false) (h : lfs T n t = some l) : ∃ a, l = [a] := by
 cases n with
 | zero => simp [lfs] at h
 | succ n =>
  simp only [lfs, ht] at h
  split at h
  · cases h; exact ⟨_, rfl⟩
  · cases h; exact ⟨_, rfl⟩
  · cases h; exact ⟨_, rfl⟩
  · split at h <;> try (cases h; done)
    split at h <;> try (cases h; done)
    simp only [z46] at h
    obtain ⟨l', _, rfl⟩ := h
    exact ⟨_, rfl⟩
  · rename_i fs hd
    simp [TI.isAgg, hd] at ha
  · cases h
def kOk : Lf → AV → AV → Bool
 | .int k, .v (.int k1 _), .v (.int k2 _) => decide (k1 = k) && decide (k2 = k)
 | .bool, .v (.bool _), .v (.bool _) => true
 | .str, .v (.string _), .v (.string _) => true
 | _, _, _ => false
def kOks : List Lf → List AV → List AV → Bool
 | [], [], [] => true
 | l :: ls, x :: xs, y :: ys => kOk l x y && kOks ls xs ys
 | _, _, _ => false
def eqV : AV → AV → Bool
 | .v (.int _ m), .v (.int _ n) => m == n
 | .v (.bool p), .v (.bool q) => p == q
 | .v (.string p), .v (.string q) => p.toList == q.toList
 | _, _ => false
def eqVs : List AV → List AV → Bool
 | x :: xs, y :: ys => eqV x y && eqVs xs ys
 | _, _ => true
def qk8 (P : Program) (T : TypeId → Option TI) : Nat → TypeId → Bool
 | 0, _ => false
 | n + 1, t => match T t with
  | none => false
  | some ti => match ti.desc with
   | .int _ => decide (ti.size = 1)
   | .bool => decide (ti.size = 1)
   | .string => decide (ti.size = 1)
   | .struct fs => !P.stoodInHeld t && fs.toList.all (fun f => f.name != "_" && qk8 P T n f.type)
   | _ => false
def qlz (P : Program) (T : TypeId → Option TI) (t : TypeId) : Bool :=
 qk8 P T 8 t && !P.eqGuardType P.depth t && ((T t).map TI.isAgg).getD false
def eqC (P : Program) (T : TypeId → Option TI) (t : TypeId) (xs ys : List AV) : Prop :=
 qlz P T t = true ∧ ∃ ls, lfs T 8 t = some ls ∧ kOks ls xs ys = true
def mkV (agg : Bool) (us : List Value) : Value := if agg then .agg us.toArray else us.headD undef
theorem q67 : ∀ {ls : List Lf} {xs ys : List AV}, kOks ls xs ys = true → xs.length = ls.length ∧ ys.length = ls.length
 | [], [], [], _ => ⟨rfl, rfl⟩
 | [], _ :: _, _, h => by simp [kOks] at h
 | [], [], _ :: _, h => by simp [kOks] at h
 | l :: ls, [], _, h => by simp [kOks] at h
 | l :: ls, _ :: _, [], h => by simp [kOks] at h
 | l :: ls, x :: xs, y :: ys, h => by
  simp only [kOks, z0d] at h
  have := q67 h.2
  simp [this.1, this.2]
theorem qim : ∀ {a b : List Lf} {xs ys : List AV}, kOks (a ++ b) xs ys = true → kOks a (xs.take a.length) (ys.take a.length) = true ∧ kOks b (xs.drop a.length) (ys.drop a.length) = true
 | [], b, xs, ys, h => ⟨by simp [kOks], by simpa using h⟩
 | l :: a, b, [], _, h => by simp [kOks] at h
 | l :: a, b, _ :: _, [], h => by simp [kOks] at h
 | l :: a, b, x :: xs, y :: ys, h => by
  simp only [z1u, kOks, z0d] at h
  have := qim h.2
  simp only [z02, z0y, z5b, kOks, z0d]
  exact ⟨⟨h.1, this.1⟩, this.2⟩
theorem qin : ∀ {xs1 ys1 xs2 ys2 : List AV}, xs1.length = ys1.length → eqVs (xs1 ++ xs2) (ys1 ++ ys2) = (eqVs xs1 ys1 && eqVs xs2 ys2)
 | [], [], xs2, ys2, _ => by simp [eqVs]
 | [], _ :: _, _, _, h => by simp at h
 | _ :: _, [], _, _, h => by simp at h
 | x :: xs1, y :: ys1, xs2, ys2, h => by
  simp only [z1u, eqVs]
  rw [qin (by simpa using h), Bool.and_assoc]
theorem qce : ∀ {xs ys : List AV} {us vs : List Value}, q41 xs = some us → q41 ys = some vs → q41 (xs ++ ys) = some (us ++ vs)
 | [], ys, us, vs, h, k => by simp [q41] at h; subst h; exact k
 | x :: xs, ys, us, vs, h, k => by
  simp only [q41] at h
  split at h <;> try (cases h; done)
  rename_i v vs' h1 h2
  cases h
  simp only [z1u, q41, h1, qce h2 k]
theorem qkj {ι : Loc} {w : World} : ∀ (us : List Value), rels Hd ι w (us.map AV.v) us
 | [] => rfl
 | u :: us => ⟨u, us, rfl, rfl, qkj us⟩
theorem qi9 : ∀ (us : List Value), q41 (us.map AV.v) = some us
 | [] => rfl
 | u :: us => by simp only [z0r, q41, aval, qi9 us]
theorem qg9 (hT : TyOk P T) {ti : TI} (ht : T t = some ti) {u0 u1 u2 : List Value} (h1 : u1.length = ti.size) (h2 : ti.isAgg = false → u1.length = 1) (w : World) :
 (part t (u0 ++ (u1 ++ u2)).toArray u0.length).run P w = .ok (mkV ti.isAgg u1) w := by
 obtain ⟨x, y, hr, hrel, hk⟩ := qdj (Hd := fun _ => False) (ι := []) (w := w) (P := P) hT (K := fun x => aval x = some (mkV ti.isAgg u1)) (t := t) (cs := (u0 ++ (u1 ++ u2)).map AV.v) (off := u0.length) (qkj _) (by
  unfold apart
  rw [ht]
  simp only
  have hd : ((u0 ++ (u1 ++ u2)).map AV.v).drop u0.length = u1.map AV.v ++ u2.map AV.v := by
   rw [← z3n, List.drop_left, z12]
  by_cases ha : ti.isAgg = true
  · rw [if_pos ha]
    refine ⟨by simp; omega, ?_⟩
    rw [hd, z0x (by simp; omega), z07 (by simp; omega)]
    simp only [aval, qi9, z19, mkV, ha, if_true]
  · rw [if_neg ha, hd]
    have := h2 (by simpa using ha)
    match u1, this with
    | [u], _ => simp [aval, mkV, ha])
 rw [hr, q81 hrel hk]
theorem kOk_v {l : Lf} (h : kOk l x y = true) : ∃ u v, x = .v u ∧ y = .v v := by
 unfold kOk at h
 split at h <;> first | exact ⟨_, _, rfl, rfl⟩ | cases h
theorem kOk_int {k : IntKind} (h : kOk (.int k) x y = true) : ∃ m n, x = .v (.int k m) ∧ y = .v (.int k n) := by
 obtain ⟨u, v, rfl, rfl⟩ := kOk_v h
 cases u <;> cases v <;> simp [kOk] at h
 obtain ⟨rfl, rfl⟩ := h
 exact ⟨_, _, rfl, rfl⟩
theorem kOk_bool (h : kOk .bool x y = true) : ∃ m n, x = .v (.bool m) ∧ y = .v (.bool n) := by
 obtain ⟨u, v, rfl, rfl⟩ := kOk_v h
 cases u <;> cases v <;> simp [kOk] at h
 exact ⟨_, _, rfl, rfl⟩
theorem kOk_str (h : kOk .str x y = true) : ∃ m n, x = .v (.string m) ∧ y = .v (.string n) := by
 obtain ⟨u, v, rfl, rfl⟩ := kOk_v h
 cases u <;> cases v <;> simp [kOk] at h
 exact ⟨_, _, rfl, rfl⟩
theorem eqs_run (hT : TyOk P T) : ∀ (n : Nat) (t : TypeId) (ti : TI) (ls : List Lf), T t = some ti → lfs T n t = some ls → qk8 P T n t = true → ls.length = ti.size ∧
 ∀ xs ys, kOks ls xs ys = true → ∃ us vs, q41 xs = some us ∧ q41 ys = some vs ∧ us.length = ls.length ∧ vs.length = ls.length ∧
  ∀ d, n ≤ d → ∀ w, (Op.equalIn d t (mkV ti.isAgg us) (mkV ti.isAgg vs)).run P w = .ok (eqVs xs ys) w := by
 intro n
 induction n with
 | zero => intro t ti ls ht h; simp [lfs] at h
 | succ n ih =>
  intro t ti ls ht h hq
  obtain ⟨hu, -⟩ := hT t ti ht
  simp only [lfs, ht] at h
  simp only [qk8, ht] at hq
  split at h <;> rename_i hd
  · cases h
    rw [hd] at hu hq
    have hs : ti.size = 1 := by simpa using hq
    refine ⟨by simp [hs], ?_⟩
    intro xs ys hk
    obtain ⟨l1, l2⟩ := q67 hk
    match xs, ys, l1, l2 with
    | [x], [y], _, _ =>
     simp only [kOks, z0t] at hk
     obtain ⟨m, m', rfl, rfl⟩ := kOk_int hk
     refine ⟨[.int _ m], [.int _ m'], rfl, rfl, rfl, rfl, fun d hd' w => ?_⟩
     obtain ⟨d, rfl⟩ : ∃ d', d = d' + 1 := ⟨d - 1, by omega⟩
     simp only [mkV, TI.isAgg, hd, z0n, if_false, z44]
     rw [run_equalIn_int w d t _ _ _ _ hu]
     simp [eqVs, eqV]
  · cases h
    rw [hd] at hu hq
    have hs : ti.size = 1 := by simpa using hq
    refine ⟨by simp [hs], ?_⟩
    intro xs ys hk
    obtain ⟨l1, l2⟩ := q67 hk
    match xs, ys, l1, l2 with
    | [x], [y], _, _ =>
     simp only [kOks, z0t] at hk
     obtain ⟨p, q, rfl, rfl⟩ := kOk_bool hk
     refine ⟨[.bool p], [.bool q], rfl, rfl, rfl, rfl, fun d hd' w => ?_⟩
     obtain ⟨d, rfl⟩ : ∃ d', d = d' + 1 := ⟨d - 1, by omega⟩
     simp only [mkV, TI.isAgg, hd, z0n, if_false, z44]
     rw [run_equalIn_bool' w d t _ _ hu]
     simp [eqVs, eqV]
  · cases h
    rw [hd] at hu hq
    have hs : ti.size = 1 := by simpa using hq
    refine ⟨by simp [hs], ?_⟩
    intro xs ys hk
    obtain ⟨l1, l2⟩ := q67 hk
    match xs, ys, l1, l2 with
    | [x], [y], _, _ =>
     simp only [kOks, z0t] at hk
     obtain ⟨p, q, rfl, rfl⟩ := kOk_str hk
     refine ⟨[.string p], [.string q], rfl, rfl, rfl, rfl, fun d hd' w => ?_⟩
     obtain ⟨d, rfl⟩ : ∃ d', d = d' + 1 := ⟨d - 1, by omega⟩
     simp only [mkV, TI.isAgg, hd, z0n, if_false, z44]
     rw [run_equalIn_string w d t _ _ hu]
     simp [eqVs, eqV]
  · rename_i e
    rw [hd] at hq
    simp at hq
  · rename_i fs
    rw [hd] at hu hq
    simp only [z0d, z2l] at hq
    obtain ⟨hst, hall⟩ := hq
    have hf : P.fieldsOf t = fs := by simp [Program.fieldsOf, hu]
    have key : ∀ (gs : List Field) (off : Nat) (l : List Lf), lfsF T (lfs T n) ti.size gs off = some l → (∀ f ∈ gs, f.name ≠ "_" ∧ qk8 P T n f.type = true) → off + l.length = ti.size ∧
     ∀ xs ys, kOks l xs ys = true → ∃ us vs, q41 xs = some us ∧ q41 ys = some vs ∧ us.length = l.length ∧ vs.length = l.length ∧
      ∀ (u0 v0 : List Value), u0.length = off → v0.length = off → ∀ d, n ≤ d → ∀ w, (Op.eqFields d (u0 ++ us).toArray (v0 ++ vs).toArray gs).run P w = .ok (eqVs xs ys) w := by
     intro gs
     induction gs with
     | nil =>
      intro off l hl _
      simp only [lfsF] at hl
      split at hl
      · cases hl
        rename_i ho
        refine ⟨by simp [ho], fun xs ys hk => ?_⟩
        obtain ⟨l1, l2⟩ := q67 hk
        match xs, ys, l1, l2 with
        | [], [], _, _ => exact ⟨[], [], rfl, rfl, rfl, rfl, fun u0 v0 _ _ d _ w => by simp [Op.eqFields, eqVs]⟩
      · cases hl
     | cons f gs ihg =>
      intro off l hl hok
      simp only [lfsF] at hl
      split at hl <;> try (cases hl; done)
      rename_i ho
      split at hl <;> try (cases hl; done)
      rename_i tf htf
      split at hl <;> try (cases hl; done)
      rename_i a b ha hb
      cases hl
      obtain ⟨hname, hqf⟩ := hok f (by simp)
      obtain ⟨hla, hea⟩ := ih f.type tf a htf ha hqf
      obtain ⟨hlb, heb⟩ := ihg _ _ hb (fun g hg => hok g (by simp [hg]))
      refine ⟨by simp; omega, fun xs ys hk => ?_⟩
      obtain ⟨hka, hkb⟩ := qim hk
      obtain ⟨us1, vs1, p1, p2, p3, p4, p5⟩ := hea _ _ hka
      obtain ⟨us2, vs2, q1, q2, q3, q4, q5⟩ := heb _ _ hkb
      have ex : xs = xs.take a.length ++ xs.drop a.length := (z1o _ _).symm
      have ey : ys = ys.take a.length ++ ys.drop a.length := (z1o _ _).symm
      refine ⟨us1 ++ us2, vs1 ++ vs2, by rw [ex]; exact qce p1 q1, by rw [ey]; exact qce p2 q2, by simp [p3, q3], by simp [p4, q4], ?_⟩
      intro u0 v0 hu0 hv0 d hdn w
      have one : tf.isAgg = false → a.length = 1 := fun hag => by obtain ⟨x, rfl⟩ := qm9 htf hag ha; rfl
      rw [Op.eqFields]
      simp only [if_pos hname, z0s]
      rw [show f.offset = u0.length by omega, qg9 hT htf (by omega) (fun h => by rw [p3]; exact one h) w]
      simp only [z0b]
      rw [show u0.length = v0.length by omega, qg9 hT htf (by omega) (fun h => by rw [p4]; exact one h) w]
      simp only [z0b]
      rw [p5 d hdn w]
      simp only [z0b]
      have elen : (xs.take a.length).length = (ys.take a.length).length := by
       obtain ⟨r1, r2⟩ := q67 hka
       rw [r1, r2]
      have eeq : eqVs xs ys = (eqVs (xs.take a.length) (ys.take a.length) && eqVs (xs.drop a.length) (ys.drop a.length)) := by
       conv => lhs; rw [ex, ey]
       exact qin elen
      rw [eeq]
      cases hb1 : eqVs (xs.take a.length) (ys.take a.length)
      · simp
      · have := q5 (u0 ++ us1) (v0 ++ vs1) (by simp; omega) (by simp; omega) d hdn w
        simpa [z1r] using this
    obtain ⟨k1, k2⟩ := key fs.toList 0 ls h (fun f hfm => by
     have := z0l.1 hall f hfm
     simpa using this)
    refine ⟨by omega, fun xs ys hk => ?_⟩
    obtain ⟨us, vs, p1, p2, p3, p4, p5⟩ := k2 xs ys hk
    refine ⟨us, vs, p1, p2, p3, p4, fun d hdn w => ?_⟩
    obtain ⟨d, rfl⟩ : ∃ d', d = d' + 1 := ⟨d - 1, by omega⟩
    simp only [mkV, TI.isAgg, hd, if_true]
    rw [run_equalIn_struct w d t _ _ (by rw [hf]; exact hu) hst, hf]
    have := p5 [] [] rfl rfl d (by omega) w
    simpa using this
  · cases h
theorem qtr (hT : TyOk P T) {xs ys : List AV} (h : eqC P T t xs ys) : ∃ us vs, aval (.agg xs) = some (.agg us) ∧ aval (.agg ys) = some (.agg vs) ∧
 ∀ (op : BinOp) (xo yo : Operand) (w : World), (op = .eql → (do eqGuard op t xo yo (.agg us) (.agg vs); binOp op t (.agg us) (.agg vs) : Sem Value).run P w = .ok (.bool (eqVs xs ys)) w) ∧
  (op = .neq → (do eqGuard op t xo yo (.agg us) (.agg vs); binOp op t (.agg us) (.agg vs) : Sem Value).run P w = .ok (.bool (!eqVs xs ys)) w) := by
 obtain ⟨htop, ls, hl, hk⟩ := h
 unfold qlz at htop
 simp only [z0d, z2l] at htop
 obtain ⟨⟨hq, hg⟩, hag⟩ := htop
 cases ht : T t with
 | none => rw [ht] at hag; simp at hag
 | some ti =>
  rw [ht] at hag
  simp at hag
  obtain ⟨-, he⟩ := eqs_run hT 8 t ti ls ht hl hq
  obtain ⟨us, vs, p1, p2, p3, p4, p5⟩ := he xs ys hk
  refine ⟨us.toArray, vs.toArray, by simp [aval, p1], by simp [aval, p2], fun op xo yo w => ?_⟩
  have h5 := p5 10000 (by omega) w
  simp only [mkV, hag, if_true] at h5
  constructor
  · rintro rfl
    rw [z0s, run_eqGuard_agg w _ t xo yo _ _ hg]
    simp only [z0b]
    rw [run_eql_struct w, h5]
    rfl
  · rintro rfl
    rw [z0s, run_eqGuard_agg w _ t xo yo _ _ hg]
    simp only [z0b]
    rw [run_neq_struct w, h5]
    rfl
theorem qam {ls : List Lf} {xs ys : List AV} (h1 : qlz P T t = true) (h2 : lfs T 8 t = some ls) : eqC P T t xs ys = (kOks ls xs ys = true) := by
 apply propext
 constructor
 · rintro ⟨_, l, h3, h4⟩
   rw [h2] at h3
   cases h3
   exact h4
 · intro h
   exact ⟨h1, ls, h2, h⟩
