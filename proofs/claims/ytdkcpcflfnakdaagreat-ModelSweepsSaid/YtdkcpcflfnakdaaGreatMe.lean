/- A text of the walk that proves a law of this seat; joined by a program. -/
import Derived.Test.YtdkcpcflfnakdaaGreatMd
import Derived.Test.YtdkcpcflfnakdaaGreatMc
import Derived.Test.YtdkcpcflfnakdaaGreatMb
set_option linter.unusedSimpArgs false
set_option linter.unusedVariables false
namespace Go.Proofs.YtdkcpcflfnakdaaGreat
open Go Go.Proofs.YtdkcpcflfnakdaaGreat.Sym
set_option maxRecDepth 100000
set_option maxHeartbeats 1000000
set_option maxHeartbeats 2000000
def nextG (P : Program) (T : TypeId → Option TI) (L : Nat) (ops : Array Oper) (j : Nat) (s : St) (Kn : St → Prop) : Prop :=
  match ops[j]? with
  | some o => o.guard = none ∧ go P T L [.ops ops [o]] s (fun _ s' => Kn s')
  | none => False
theorem q1b {P : Program} {T : TypeId → Option TI} {L : Nat} (hT : TyOk P T) {ops : Array Oper} {j : Nat} {s : St} {Kn : St → Prop} (h : nextG P T L ops j s Kn) : nextOp P T L ops j s Kn := by
  unfold nextG at h
  split at h
  · rename_i o ho
    obtain ⟨hg, h⟩ := h
    have h1 := q3b hT [o] s _ h
    simp only [vcOps, hg] at h1
    exact ⟨o, ho, hg, h1⟩
  · exact h.elim
theorem any_ruleO {P : Program} {T : TypeId → Option TI} {L : Nat} (hT : TyOk P T) (hm : P.follows .mixedOrders = true) {id : Nat} {ops : Array Oper} {k : List Fr} {s : St} {K : AExit → St → Prop}
    (h : ∀ o : Array Oper, o = ops → ∃ Inv : Nat → Array Bool → St → Prop, Inv o.size (Array.replicate o.size false) s ∧ (∀ listed s, Inv 0 listed s → Region.ready .any o listed = [] ∧ go P T L k s K) ∧
      (∀ n listed s, Inv (n + 1) listed s → Region.ready .any o listed ≠ [] ∧ ∀ j ∈ Region.ready .any o listed, nextOp P T L o j s (fun s' => Inv n (listed.setIfInBounds j true) s'))) :
    restK P T L (.region id ops true) k s K := by
  obtain ⟨Inv, h1, h2, h3⟩ := h ops rfl
  exact any_rule hT hm Inv h1 h2 h3
def nextA (T : TypeId → Option TI) (L : Nat) (ops : Array Oper) (j : Nat) (s : St) (Kn : St → Prop) : Prop :=
  match ops[j]? with
  | some o => o.guard = none ∧ aappB T L o.op s (fun x s' => Kn (s'.put o.dst x))
  | none => False
theorem nextA_op {P : Program} {T : TypeId → Option TI} {L : Nat} {ops : Array Oper} {j : Nat} {s : St} {Kn : St → Prop} (h : nextA T L ops j s Kn) : nextOp P T L ops j s Kn := by
  unfold nextA at h
  split at h
  · rename_i o ho
    exact ⟨o, ho, h.1, .inr (.inr (.inr h.2))⟩
  · exact h.elim
theorem ACall.renum {g : FuncId} {args : List AV} {K K' : AV → List AB → Prop} (h : ACall P g [] args K) (hk : ∀ x m', K x m' → ∃ x' m'', TurnsL 0 ⟨[x], m'⟩ ⟨[x'], m''⟩ ∧ K' x' m'') : ACall P g [] args K' := by
  refine ⟨h.1, fun Hd ι w vs hR => (h.2 Hd ι w vs hR).mono ?_⟩
  rintro e w' ⟨y, x, ι', m', rfl, h1, h2, h3⟩
  obtain ⟨x', m'', ht, hk'⟩ := hk x m' h3
  obtain ⟨ι2, h4, h5⟩ := ht Hd 0 ι' _ w' h1
  have hι : ι = [] := List.eq_nil_of_length_eq_zero (by simpa using hR.len)
  subst hι
  have hE := (h2 0).trans h5
  exact ⟨y, x', ι2, m'', rfl, h4, fun L => ⟨hE.os, hE.tape, hE.output, hE.size, hE.imm, hE.shape, fun b o _ ho => by simp at ho⟩, hk'⟩
def nilRow (n : Nat) : List AV := List.replicate n (.agg [.v (.slice none 0 0), .v (.slice none 0 0)])
def cfgC (c : Cf) : List AV := [i64 c.s, i64 c.k, i64 c.q, i64 c.w, i64 c.r, u64 c.e, u64 c.st]
def lst3 (p q r z : Nat) : Array Bool := #[decide (1 ≤ p), decide (1 ≤ q), decide (2 ≤ q), decide (3 ≤ q), decide (1 ≤ r), decide (2 ≤ r), decide (3 ≤ r), decide (1 ≤ z), decide (2 ≤ z), decide (3 ≤ z)]
def rdy3 (p q r z : Nat) : List Nat :=
  (if p = 0 then [0] else []) ++ (if q < 3 then [q + 1] else []) ++ (if r < 3 then [r + 4] else []) ++ (if p = 1 ∧ q = 3 ∧ r = 3 ∧ z < 3 then [z + 7] else [])
def mod0 (c : Cf) (n : Nat) : List AV := [i64 c.s, i64 c.k, i64 c.q, i64 c.w, i64 c.r, u64 c.e, u64 c.st, u64 c.st, u64 0, bool false, .own 1 2 0 n, .v (.slice none 0 0)]
def S3 (c : Cf) (n p q r z : Nat) : St :=
  ⟨[.agg (cfgC c), .ptr 0 0, .v (.pointer none), .v (.int .i64 0), if 3 ≤ z then .ptr 2 0 else .any, .agg (cfgC c), bool true, .v (.bool false), if 1 ≤ p then .agg (cfgC c) else .any, if 1 ≤ q then .ptr 0 6 else .any, if 2 ≤ q then u64 c.st else .any, if 3 ≤ q then .agg [u64 c.st, u64 0, bool false] else .any, if 1 ≤ r then .ptr 0 0 else .any, if 2 ≤ r then i64 c.s else .any, if 3 ≤ r then .own 1 2 0 n else .any, if 1 ≤ z then .agg (mod0 c n) else .any, if 2 ≤ z then .ptr 2 0 else .any, .any, .any, .any, .any, .any, .any, .any, .any, .any, .any, .any, .any, .any, .any, .any, .any, .any, .any],
    .box (cfgC c) :: ((if 3 ≤ r then [.row 87 2 (nilRow n)] else []) ++ (if 2 ≤ z then [.box (mod0 c n)] else []))⟩
def Inv3 (c : Cf) (n k : Nat) (listed : Array Bool) (s : St) : Prop :=
  ∃ p q r z, p ≤ 1 ∧ q ≤ 3 ∧ r ≤ 3 ∧ z ≤ 3 ∧ (0 < z → p = 1 ∧ q = 3 ∧ r = 3) ∧ k + p + q + r + z = 10 ∧ listed = lst3 p q r z ∧ s = S3 c n p q r z
def lst6 (p q o z : Nat) : Array Bool := #[decide (1 ≤ p), decide (1 ≤ q), decide (2 ≤ q), decide (3 ≤ q), decide (4 ≤ q), decide (1 ≤ o), decide (2 ≤ o), decide (3 ≤ o), decide (4 ≤ o), decide (1 ≤ z), decide (2 ≤ z), decide (3 ≤ z), decide (4 ≤ z)]
def rdy6 (p q o z : Nat) : List Nat :=
  (if p = 0 then [0] else []) ++ (if q < 4 then [q + 1] else []) ++ (if o < 4 then [o + 5] else []) ++ (if q = 4 ∧ o = 4 ∧ (z = 0 ∨ (p = 1 ∧ z < 4)) then [z + 9] else [])
def freshF (c : Cf) : Fd := ⟨[], max c.q 0, fun _ => ([], false)⟩
def fid (i : Nat) : Nat := 4 + 18 * i
def nfs (c : Cf) : Nat → List AB
  | 0 => []
  | i + 1 => nfs c i ++ (fblk (fid i) (freshF c) ++ [.box [.ptr (fid i) 0]])
theorem nfs_len (c : Cf) : ∀ i, (nfs c i).length = 18 * i
  | 0 => rfl
  | i + 1 => by rw [nfs, List.length_append, List.length_append, fblk_len, nfs_len c i, List.length_singleton]; omega
def ptrsI (i : Nat) : List AV := (List.range i).map fun j => .ptr (fid j) 0
def fdB (i pad : Nat) : AB := match i with
  | 0 => .row 76 1 []
  | _ => .box (ptrsI i ++ List.replicate pad .any)
def modI (c : Cf) (n : Nat) (x : AV) : List AV := [i64 c.s, i64 c.k, i64 c.q, i64 c.w, i64 c.r, u64 c.e, u64 c.st, u64 c.st, u64 0, bool false, .own 1 2 0 n, x]
def S6 (c : Cf) (n i pad : Nat) (x20 : AV) (p q o : Nat) : St :=
  ⟨[.any, .ptr 0 0, .any, .any, .ptr 2 0, .any, .any, .any, .any, .any, .any, .any, .any, .any, .any, .any, .any, .any, i64 c.s, i64 i, x20, if 1 ≤ p then .ptr 2 0 else .any, if 1 ≤ q then .ptr 2 0 else .any, if 2 ≤ q then .ptr 2 0 else .any, if 3 ≤ q then .ptr 2 11 else .any, if 4 ≤ q then .own 3 1 0 i else .any, if 1 ≤ o then .ptr 0 2 else .any, if 2 ≤ o then i64 c.q else .any, if 3 ≤ o then .ptr (fid i) 0 else .any, if 4 ≤ o then .own (fid i + 17) 1 0 1 else .any, .any, .any, .any, .any, .any],
    .box (cfgC c) :: .row 87 2 (nilRow n) :: .box (modI c n (.own 3 1 0 i)) :: fdB i pad :: (nfs c i ++ ((if 3 ≤ o then fblk (fid i) (freshF c) else []) ++ (if 4 ≤ o then [.box [.ptr (fid i) 0]] else [])))⟩
def Z6 (c : Cf) (n i kk : Nat) (x20 : AV) (p z : Nat) : St :=
  ⟨[.any, .ptr 0 0, .any, .any, .ptr 2 0, .any, .any, .any, .any, .any, .any, .any, .any, .any, .any, .any, .any, .any, i64 c.s, i64 i, x20, if 1 ≤ p then .ptr 2 0 else .any, .ptr 2 0, .ptr 2 0, .ptr 2 11, .any, .ptr 0 2, i64 c.q, .ptr (fid i) 0, .own (fid i + 17) 1 0 1, .own 3 1 0 (i + 1), if 2 ≤ z then .ptr 2 0 else .any, if 3 ≤ z then .ptr 2 11 else .any, .any, .any],
    .box (cfgC c) :: .row 87 2 (nilRow n) :: .box (modI c n (if 4 ≤ z then .own 3 1 0 (i + 1) else .any)) :: .box (ptrsI (i + 1) ++ List.replicate kk .any) :: nfs c (i + 1)⟩
def Inv6 (c : Cf) (n i pad : Nat) (x20 : AV) (k : Nat) (listed : Array Bool) (s : St) : Prop :=
  ∃ p q o z, p ≤ 1 ∧ q ≤ 4 ∧ o ≤ 4 ∧ z ≤ 4 ∧ (0 < z → q = 4 ∧ o = 4) ∧ (1 < z → p = 1) ∧ k + p + q + o + z = 13 ∧ listed = lst6 p q o z ∧ ((z = 0 ∧ s = S6 c n i pad x20 p q o) ∨ (0 < z ∧ ∃ kk, s = Z6 c n i kk x20 p z))
theorem s6_len (c : Cf) (i pad : Nat) (a b d : AB) : (a :: b :: d :: fdB i pad :: nfs c i).length = fid i := by
  simp only [List.length_cons, nfs_len, fid]; omega
theorem s6_get {a b d e z : AB} {X Y : List AB} {i : Nat} (hX : X.length = 18 * i) (hY : Y.length = 17) : (a :: b :: d :: e :: (X ++ (Y ++ [z])))[fid i + 17]? = some z := by
  rw [show fid i + 17 = (18 * i + 17) + 1 + 1 + 1 + 1 by simp only [fid]; omega]
  simp only [List.getElem?_cons_succ]
  rw [List.getElem?_append_right (by omega), List.getElem?_append_right (by omega), hX, hY]
  rw [show 18 * i + 17 - 18 * i - 17 = 0 by omega]
  rfl
theorem ptrsI_bks (i pad : Nat) : ∀ b ∈ q03 (ptrsI i ++ List.replicate pad AV.any), ∃ j < i, b = fid j := by
  have h1 : ∀ (l : List Nat) b, b ∈ q03 (l.map (fun j => AV.ptr (fid j) 0)) → ∃ j ∈ l, b = fid j := by
    intro l b hb
    induction l with
    | nil => simp [q03] at hb
    | cons j l ih =>
      simp only [List.map_cons, q03, bks, List.mem_append, List.mem_singleton] at hb
      rcases hb with rfl | hb
      · exact ⟨j, by simp, rfl⟩
      · obtain ⟨k, hk, e⟩ := ih hb; exact ⟨k, by simp [hk], e⟩
  have h2 : ∀ k, q03 (List.replicate k AV.any) = [] := by
    intro k
    induction k with
    | zero => rfl
    | succ k ih => simp [List.replicate_succ, q03, bks, ih]
  intro b hb
  rw [q41, h2, List.append_nil] at hb
  obtain ⟨j, hj, e⟩ := h1 _ b hb
  exact ⟨j, by simpa using hj, e⟩
theorem ptrsI_ok (i : Nat) : boxOk (ptrsI i) := by
  have : ∀ l : List Nat, boxOk (l.map (fun j => AV.ptr (fid j) 0)) := by
    intro l
    induction l with
    | nil => trivial
    | cons j l ih => exact ⟨rfl, rfl, ih⟩
  exact this _
theorem ptrsI_next (i : Nat) : ptrsI i ++ [.ptr (fid i) 0] = ptrsI (i + 1) := by simp [ptrsI, List.range_succ]
theorem refsAll_ptrs (l : List AV) : (∀ x ∈ l, ∃ j, x = .ptr (fid j) 0) → ∀ c ∈ q04 l, c ≠ 3 := by
  intro h
  induction l with
  | nil => intro c hc; simp [q04] at hc
  | cons x l ih =>
    obtain ⟨j, rfl⟩ := h x (by simp)
    intro c hc
    simp only [q04, AV.refs, List.mem_append, List.mem_singleton] at hc
    rcases hc with rfl | hc
    · simp only [fid]; omega
    · exact ih (fun y hy => h y (by simp [hy])) c hc
theorem nfs_ids (c : Cf) : ∀ i blk, blk ∈ nfs c i → ∀ cs, blk = .box cs → ∀ b ∈ q03 cs, 4 ≤ b ∧ b < fid i
  | 0, blk, h => by simp [nfs] at h
  | i + 1, blk, h => by
    intro cs e b hb
    rw [nfs, List.mem_append, List.mem_append] at h
    rcases h with h | h | h
    · have := nfs_ids c i blk h cs e b hb
      simp only [fid] at *; omega
    · obtain ⟨k, hk⟩ := List.getElem?_of_mem h
      rw [fblk, q2c] at hk
      cases hg : (feedM (freshF c))[k]? with
      | none => rw [hg] at hk; cases hk
      | some blk0 =>
        rw [hg] at hk
        simp only [Option.map_some, Option.some.injEq] at hk
        subst e
        cases blk0 with
        | box cs0 =>
          simp only [AB.ren, AB.box.injEq] at hk
          subst hk
          obtain ⟨d, hd, rfl, _⟩ := q39 cs0 (feed_box hg) b hb
          simp only [fid]; omega
        | row _ _ _ => simp [AB.ren] at hk
        | rowc _ _ _ _ => simp [AB.ren] at hk
        | gone => simp [AB.ren] at hk
        | tr _ _ => simp [AB.ren] at hk
    · rw [List.mem_singleton] at h
      subst h
      cases e
      simp only [q03, bks, List.append_nil, List.mem_singleton] at hb
      subst hb
      simp only [fid]; omega
theorem nfs_fix (c : Cf) (i : Nat) {f : AB → AB} (h1 : ∀ cs, (∀ b ∈ q03 cs, 4 ≤ b ∧ b < fid i) → f (.box cs) = .box cs) (h2 : ∀ blk, (∀ cs, blk ≠ .box cs) → f blk = blk) : (nfs c i).map f = nfs c i := by
  refine (List.map_congr_left (g := _root_.id) fun blk hm => ?_).trans (List.map_id _)
  by_cases hb : ∃ cs, blk = .box cs
  · obtain ⟨cs, rfl⟩ := hb
    exact h1 cs (nfs_ids c i _ hm cs rfl)
  · exact h2 blk (fun cs hc => hb ⟨cs, hc⟩)
theorem nfs_kill (c : Cf) (i : Nat) : (nfs c i).map (AB.kill 3) = nfs c i :=
  nfs_fix c i (fun cs hc => by simp only [AB.kill]; rw [killVs_id cs (fun b hb => by have := hc b hb; omega)]) (fun blk hb => by cases blk <;> first | rfl | exact absurd rfl (hb _))
theorem nfs_trunc (c : Cf) (i : Nat) {X : List AB} {N : Nat} (h : fid i ≤ N) : (nfs c i).map (AB.trunc X N) = nfs c i :=
  nfs_fix c i (fun cs hc => by simp only [AB.trunc]; rw [q3c cs (fun b hb => by have := hc b hb; omega)]) (fun blk hb => by cases blk <;> first | rfl | exact absurd rfl (hb _))
def newM6 (c : Cf) (n i pad : Nat) : List AB := .box (cfgC c) :: .row 87 2 (nilRow n) :: .box (modI c n (.own 3 1 0 i)) :: .box (ptrsI i ++ List.replicate pad .any) :: nfs c i
theorem newM6_trunc (c : Cf) (n i pad : Nat) (hi : i ≤ 8) {X : List AB} : ((newM6 c n i pad).take 10000).map (AB.trunc X 10000) = newM6 c n i pad := by
  have hl : (newM6 c n i pad).length ≤ 10000 := by simp only [newM6, List.length_cons, nfs_len]; omega
  rw [List.take_of_length_le hl]
  have hf : ∀ j, j < i → fid j < 10000 := fun j hj => by simp only [fid]; omega
  simp only [newM6, List.map_cons, AB.trunc]
  rw [nfs_trunc c i (by simp only [fid]; omega), q3c (ptrsI i ++ List.replicate pad AV.any) (fun b hb => by obtain ⟨j, hj, rfl⟩ := ptrsI_bks i pad b hb; exact hf j hj)]
  rfl
theorem new_made (c : Cf) (n : Nat) (hn : c.s = n) (h1 : 1 ≤ n) (h8 : n ≤ 8) (hr : c.right = true) : ACall P 17 [] [c.av] (fun x m' => x = .tup [.ptr 2 0, i64 0] ∧ ∃ pad, m' = newM6 c n n pad) := by
  refine q0h.toA (q1d tyOk Tryz.func17 rfl rfl (N := 0) (M := 10000) (Nat.zero_le _) (by simp) ?_)
  intro K hK
  simp only [Tryz.ntmps17, List.length_cons, List.length_nil, Nat.reduceAdd, Nat.reduceSub, List.replicate, List.cons_append, List.nil_append]
  try simp only [seval, go_sem, Cf.av]
  have hR := model_Right c
  unfold Cf.av at hR
  rw [hr] at hR
  (refine q02 hR rfl ?_; rintro _ rfl)
  try simp only [seval, go_sem]
  refine any_ruleO tyOk (by rfl) ?_
  intro ops hops
  refine ⟨Inv3 c n, ?_, ?_, ?_⟩
  rotate_left 2
  · rintro k listed s ⟨p, q, r, z, hp, hq, hr3, hz, hzz, hk, rfl, rfl⟩
    have hrd : Region.ready .any ops (lst3 p q r z) = rdy3 p q r z := by
      subst hops
      by_cases hz0 : z = 0
      · subst hz0
        rcases (show p = 0 ∨ p = 1 by omega) with rfl | rfl <;> rcases (show q = 0 ∨ q = 1 ∨ q = 2 ∨ q = 3 by omega) with rfl | rfl | rfl | rfl <;> rcases (show r = 0 ∨ r = 1 ∨ r = 2 ∨ r = 3 by omega) with rfl | rfl | rfl | rfl <;> kernel_rfl
      · obtain ⟨rfl, rfl, rfl⟩ := hzz (by omega)
        rcases (show z = 1 ∨ z = 2 ∨ z = 3 by omega) with rfl | rfl | rfl <;> kernel_rfl
    rw [hrd]
    refine ⟨?_, ?_⟩
    · intro he
      simp only [rdy3, List.append_eq_nil_iff] at he
      obtain ⟨⟨⟨e1, e2⟩, e3⟩, e4⟩ := he
      have g1 : p = 1 := by
        apply Nat.le_antisymm hp
        apply Nat.lt_of_not_le
        intro h
        rw [if_pos (by omega)] at e1; cases e1
      have g2 : q = 3 := by
        apply Nat.le_antisymm hq
        apply Nat.le_of_not_lt
        intro h
        rw [if_pos h] at e2; cases e2
      have g3 : r = 3 := by
        apply Nat.le_antisymm hr3
        apply Nat.le_of_not_lt
        intro h
        rw [if_pos h] at e3; cases e3
      rw [if_pos ⟨g1, g2, g3, by omega⟩] at e4; cases e4
    · intro j hj
      have hj' : (j = 0 ∧ p = 0) ∨ (j = q + 1 ∧ q < 3) ∨ (j = r + 4 ∧ r < 3) ∨ (j = z + 7 ∧ p = 1 ∧ q = 3 ∧ r = 3 ∧ z < 3) := by
        simp only [rdy3, List.mem_append] at hj
        rcases hj with ((hj | hj) | hj) | hj
        · split at hj
          · rename_i h; exact .inl ⟨by simpa using hj, h⟩
          · cases hj
        · split at hj
          · rename_i h; exact .inr (.inl ⟨by simpa using hj, h⟩)
          · cases hj
        · split at hj
          · rename_i h; exact .inr (.inr (.inl ⟨by simpa using hj, h⟩))
          · cases hj
        · split at hj
          · rename_i h; exact .inr (.inr (.inr ⟨by simpa using hj, h⟩))
          · cases hj
      clear hj hrd
      have hn0 : (0 : Int) ≤ (n : Int) := by omega
      rcases hj' with ⟨rfl, rfl⟩ | ⟨rfl, hlt⟩ | ⟨rfl, hlt⟩ | ⟨rfl, rfl, rfl, rfl, hlt⟩
      · refine q1b tyOk ?_
        unfold nextG
        simp only [hops, List.getElem?_toArray, List.getElem?_cons_zero]
        refine ⟨trivial, ?_⟩
        simp only [S3, cfgC, mod0]
        try simp only [seval, go_sem, cfgC, mod0]
        exact ⟨1, q, r, z, by omega, hq, hr3, hz, by omega, by omega, by simp [lst3], by first | rfl | simp [S3, cfgC, mod0]⟩
      · have hz0 : z = 0 := by omega
        subst hz0
        rcases (show q = 0 ∨ q = 1 ∨ q = 2 by omega) with rfl | rfl | rfl
        · refine q1b tyOk ?_
          unfold nextG
          simp only [hops, List.getElem?_toArray, List.getElem?_cons_zero, List.getElem?_cons_succ, Nat.zero_add]
          refine ⟨trivial, ?_⟩
          simp only [S3, cfgC, mod0]
          try simp only [seval, go_sem, cfgC, mod0]
          exact ⟨p, 1, r, 0, hp, by omega, hr3, hz, by omega, by omega, by simp [lst3], by first | rfl | simp [S3, cfgC, mod0]⟩
        · refine q1b tyOk ?_
          unfold nextG
          simp only [hops, List.getElem?_toArray, List.getElem?_cons_zero, List.getElem?_cons_succ, Nat.reduceAdd]
          refine ⟨trivial, ?_⟩
          simp only [S3, cfgC, mod0]
          try simp only [seval, go_sem, cfgC, mod0]
          exact ⟨p, 2, r, 0, hp, by omega, hr3, hz, by omega, by omega, by simp [lst3], by first | rfl | simp [S3, cfgC, mod0]⟩
        · refine q1b tyOk ?_
          unfold nextG
          simp only [hops, List.getElem?_toArray, List.getElem?_cons_zero, List.getElem?_cons_succ, Nat.reduceAdd]
          refine ⟨trivial, ?_⟩
          simp only [S3, cfgC, mod0]
          try simp only [seval, go_sem, cfgC, mod0]
          exact ⟨p, 3, r, 0, hp, by omega, hr3, hz, by omega, by omega, by simp [lst3], by first | rfl | simp [S3, cfgC, mod0]⟩
      · have hz0 : z = 0 := by omega
        subst hz0
        rcases (show r = 0 ∨ r = 1 ∨ r = 2 by omega) with rfl | rfl | rfl
        · refine q1b tyOk ?_
          unfold nextG
          simp only [hops, List.getElem?_toArray, List.getElem?_cons_zero, List.getElem?_cons_succ, Nat.zero_add]
          refine ⟨trivial, ?_⟩
          simp only [S3, cfgC, mod0]
          try simp only [seval, go_sem, cfgC, mod0]
          exact ⟨p, q, 1, 0, hp, hq, by omega, hz, by omega, by omega, by simp [lst3], by first | rfl | simp [S3, cfgC, mod0]⟩
        · refine q1b tyOk ?_
          unfold nextG
          simp only [hops, List.getElem?_toArray, List.getElem?_cons_zero, List.getElem?_cons_succ, Nat.reduceAdd]
          refine ⟨trivial, ?_⟩
          simp only [S3, cfgC, mod0]
          try simp only [seval, go_sem, cfgC, mod0]
          exact ⟨p, q, 2, 0, hp, hq, by omega, hz, by omega, by omega, by simp [lst3], by first | rfl | simp [S3, cfgC, mod0]⟩
        · refine q1b tyOk ?_
          unfold nextG
          simp only [hops, List.getElem?_toArray, List.getElem?_cons_zero, List.getElem?_cons_succ, Nat.reduceAdd]
          refine ⟨trivial, ?_⟩
          simp only [S3, cfgC, mod0]
          try simp only [seval, go_sem, cfgC, mod0]
          have hcn : c.s.toNat = n := by omega
          refine ⟨⟨by omega, by omega, by omega⟩, p, q, 3, 0, hp, hq, by omega, hz, by omega, by omega, by simp [lst3], ?_⟩
          first | done | simp [S3, cfgC, mod0, nilRow, hcn]
      · rcases (show z = 0 ∨ z = 1 ∨ z = 2 by omega) with rfl | rfl | rfl
        · refine q1b tyOk ?_
          unfold nextG
          simp only [hops, List.getElem?_toArray, List.getElem?_cons_zero, List.getElem?_cons_succ, Nat.zero_add]
          refine ⟨trivial, ?_⟩
          simp only [S3, cfgC, mod0]
          try simp only [seval, go_sem, cfgC, mod0]
          exact ⟨1, 3, 3, 1, by omega, by omega, by omega, by omega, by omega, by omega, by simp [lst3], by first | rfl | simp [S3, cfgC, mod0]⟩
        · refine q1b tyOk ?_
          unfold nextG
          simp only [hops, List.getElem?_toArray, List.getElem?_cons_zero, List.getElem?_cons_succ, Nat.reduceAdd]
          refine ⟨trivial, ?_⟩
          simp only [S3, cfgC, mod0]
          try simp only [seval, go_sem, cfgC, mod0]
          exact ⟨1, 3, 3, 2, by omega, by omega, by omega, by omega, by omega, by omega, by simp [lst3], by first | rfl | simp [S3, cfgC, mod0]⟩
        · refine q1b tyOk ?_
          unfold nextG
          simp only [hops, List.getElem?_toArray, List.getElem?_cons_zero, List.getElem?_cons_succ, Nat.reduceAdd]
          refine ⟨trivial, ?_⟩
          simp only [S3, cfgC, mod0]
          try simp only [seval, go_sem, cfgC, mod0]
          exact ⟨1, 3, 3, 3, by omega, by omega, by omega, by omega, by omega, by omega, by simp [lst3], by first | rfl | simp [S3, cfgC, mod0]⟩
  · rw [show ops.size = 10 by rw [hops]; rfl]
    exact ⟨0, 0, 0, 0, by omega, by omega, by omega, by omega, by omega, by omega, rfl, rfl⟩
  rintro listed s ⟨p, q, r, z, hp, hq, hr3, hz, hzz, hk, rfl, rfl⟩
  obtain rfl : p = 1 := by omega
  obtain rfl : q = 3 := by omega
  obtain rfl : r = 3 := by omega
  obtain rfl : z = 3 := by omega
  refine ⟨by subst hops; kernel_rfl, ?_⟩
  clear hops
  simp only [S3, cfgC, mod0]
  try simp only [seval, go_sem]
  refine loopK_turn (Turns.adoptIn (b := 2) (c := 11) 76 1 rfl rfl) ?_
  try simp only [seval, go_sem]
  refine q12 tyOk (α := Nat × Nat) 10000 [1, 4, 18, 19] (fun q => q.1 ≤ n)
    (fun q => ⟨[.any, .ptr 0 0, .any, .any, .ptr 2 0, .any, .any, .any, .any, .any, .any, .any, .any, .any, .any, .any, .any, .any, i64 c.s, i64 q.1, .any, .any, .any, .any, .any, .any, .any, .any, .any, .any, .any, .any, .any, .any, .any], .box (cfgC c) :: .row 87 2 (nilRow n) :: .box (modI c n (.own 3 1 0 q.1)) :: fdB q.1 q.2 :: nfs c q.1⟩)
    (fun q => n - q.1) (0, 0) (Nat.zero_le _) (Nat.zero_le _) ?_ ?_
  · rfl
  rintro ⟨i, pad⟩ hi
  simp only at hi
  try simp only [seval, go_sem, cfgC, modI]
  (first | refine q05 ?_ ?_ | refine q08 ?_ ?_ | refine q09 ?_ ?_ | refine q07 ?_ ?_ | refine q06 ?_ ?_) <;> intro hc
  · have hlt : i < n := by rw [hn] at hc; simpa using hc
    try simp only [seval, go_sem]
    refine any_ruleO tyOk (by rfl) ?_
    intro ops hops
    refine ⟨Inv6 c n i pad (.v (.bool (decide ((i : Int) < c.s)))), ?_, ?_, ?_⟩
    rotate_left 2
    · rintro k listed s ⟨p, q, o, z, hp, hq, ho, hz, hzz, hzp, hk, rfl, hs⟩
      have hrd : Region.ready .any ops (lst6 p q o z) = rdy6 p q o z := by
        subst hops
        by_cases hz0 : z = 0
        · subst hz0
          rcases (show p = 0 ∨ p = 1 by omega) with rfl | rfl <;> rcases (show q = 0 ∨ q = 1 ∨ q = 2 ∨ q = 3 ∨ q = 4 by omega) with rfl | rfl | rfl | rfl | rfl <;> rcases (show o = 0 ∨ o = 1 ∨ o = 2 ∨ o = 3 ∨ o = 4 by omega) with rfl | rfl | rfl | rfl | rfl <;> kernel_rfl
        · obtain ⟨rfl, rfl⟩ := hzz (by omega)
          by_cases hz1 : z = 1
          · subst hz1
            rcases (show p = 0 ∨ p = 1 by omega) with rfl | rfl <;> kernel_rfl
          · obtain rfl := hzp (by omega)
            rcases (show z = 2 ∨ z = 3 ∨ z = 4 by omega) with rfl | rfl | rfl <;> kernel_rfl
      rw [hrd]
      refine ⟨?_, ?_⟩
      · intro he
        simp only [rdy6, List.append_eq_nil_iff] at he
        obtain ⟨⟨⟨e1, e2⟩, e3⟩, e4⟩ := he
        have g1 : p = 1 := by
          apply Nat.le_antisymm hp
          apply Nat.lt_of_not_le
          intro h
          rw [if_pos (by omega)] at e1; cases e1
        have g2 : q = 4 := by
          apply Nat.le_antisymm hq
          apply Nat.le_of_not_lt
          intro h
          rw [if_pos h] at e2; cases e2
        have g3 : o = 4 := by
          apply Nat.le_antisymm ho
          apply Nat.le_of_not_lt
          intro h
          rw [if_pos h] at e3; cases e3
        rw [if_pos ⟨g2, g3, .inr ⟨g1, by omega⟩⟩] at e4; cases e4
      · intro j hj
        have hj' : (j = 0 ∧ p = 0) ∨ (j = q + 1 ∧ q < 4) ∨ (j = o + 5 ∧ o < 4) ∨ (j = z + 9 ∧ q = 4 ∧ o = 4 ∧ (z = 0 ∨ (p = 1 ∧ z < 4))) := by
          simp only [rdy6, List.mem_append] at hj
          rcases hj with ((hj | hj) | hj) | hj
          · split at hj
            · rename_i h; exact .inl ⟨by simpa using hj, h⟩
            · cases hj
          · split at hj
            · rename_i h; exact .inr (.inl ⟨by simpa using hj, h⟩)
            · cases hj
          · split at hj
            · rename_i h; exact .inr (.inr (.inl ⟨by simpa using hj, h⟩))
            · cases hj
          · split at hj
            · rename_i h; exact .inr (.inr (.inr ⟨by simpa using hj, h⟩))
            · cases hj
        clear hj hrd
        rcases hj' with ⟨rfl, rfl⟩ | ⟨rfl, hlq⟩ | ⟨rfl, hlo⟩ | ⟨rfl, rfl, rfl, hlz⟩
        · by_cases hz0 : z = 0
          · subst hz0
            obtain rfl : s = S6 c n i pad _ 0 q o := by rcases hs with ⟨_, h⟩ | ⟨h, _⟩; exact h; omega
            refine q1b tyOk ?_
            unfold nextG
            simp only [hops, List.getElem?_toArray, List.getElem?_cons_zero]
            refine ⟨trivial, ?_⟩
            simp only [S6, cfgC, modI]
            try simp only [seval, go_sem]
            exact ⟨1, q, o, 0, by omega, hq, ho, hz, by omega, by omega, by omega, by simp [lst6], .inl ⟨rfl, by first | rfl | simp [S6, cfgC, modI]⟩⟩
          · obtain ⟨rfl, rfl⟩ := hzz (by omega)
            obtain rfl : z = 1 := by omega
            obtain ⟨kk, rfl⟩ : ∃ kk, s = Z6 c n i kk _ 0 1 := by rcases hs with ⟨h, _⟩ | ⟨_, h⟩; omega; exact h
            refine q1b tyOk ?_
            unfold nextG
            simp only [hops, List.getElem?_toArray, List.getElem?_cons_zero]
            refine ⟨trivial, ?_⟩
            simp only [Z6, cfgC, modI]
            try simp only [seval, go_sem]
            exact ⟨1, 4, 4, 1, by omega, by omega, by omega, by omega, by omega, by omega, by omega, by simp [lst6], .inr ⟨by omega, kk, by first | rfl | simp [Z6, cfgC, modI]⟩⟩
        · have hz0 : z = 0 := by omega
          subst hz0
          obtain rfl : s = S6 c n i pad _ p q o := by rcases hs with ⟨_, h⟩ | ⟨h, _⟩; exact h; omega
          rcases (show q = 0 ∨ q = 1 ∨ q = 2 ∨ q = 3 by omega) with rfl | rfl | rfl | rfl
          · refine q1b tyOk ?_
            unfold nextG
            simp only [hops, List.getElem?_toArray, List.getElem?_cons_zero, List.getElem?_cons_succ, Nat.zero_add]
            refine ⟨trivial, ?_⟩
            simp only [S6, cfgC, modI]
            try simp only [seval, go_sem]
            exact ⟨p, 1, o, 0, by omega, by omega, ho, hz, by omega, by omega, by omega, by simp [lst6], .inl ⟨rfl, by first | rfl | simp [S6, cfgC, modI]⟩⟩
          · refine q1b tyOk ?_
            unfold nextG
            simp only [hops, List.getElem?_toArray, List.getElem?_cons_zero, List.getElem?_cons_succ, Nat.reduceAdd]
            refine ⟨trivial, ?_⟩
            simp only [S6, cfgC, modI]
            try simp only [seval, go_sem]
            exact ⟨p, 2, o, 0, by omega, by omega, ho, hz, by omega, by omega, by omega, by simp [lst6], .inl ⟨rfl, by first | rfl | simp [S6, cfgC, modI]⟩⟩
          · refine q1b tyOk ?_
            unfold nextG
            simp only [hops, List.getElem?_toArray, List.getElem?_cons_zero, List.getElem?_cons_succ, Nat.reduceAdd]
            refine ⟨trivial, ?_⟩
            simp only [S6, cfgC, modI]
            try simp only [seval, go_sem]
            exact ⟨p, 3, o, 0, by omega, by omega, ho, hz, by omega, by omega, by omega, by simp [lst6], .inl ⟨rfl, by first | rfl | simp [S6, cfgC, modI]⟩⟩
          · refine q1b tyOk ?_
            unfold nextG
            simp only [hops, List.getElem?_toArray, List.getElem?_cons_zero, List.getElem?_cons_succ, Nat.reduceAdd]
            refine ⟨trivial, ?_⟩
            simp only [S6, cfgC, modI]
            try simp only [seval, go_sem]
            exact ⟨p, 4, o, 0, by omega, by omega, ho, hz, by omega, by omega, by omega, by simp [lst6], .inl ⟨rfl, by first | rfl | simp [S6, cfgC, modI]⟩⟩
        · have hz0 : z = 0 := by omega
          subst hz0
          obtain rfl : s = S6 c n i pad _ p q o := by rcases hs with ⟨_, h⟩ | ⟨h, _⟩; exact h; omega
          rcases (show o = 0 ∨ o = 1 ∨ o = 2 ∨ o = 3 by omega) with rfl | rfl | rfl | rfl
          · refine q1b tyOk ?_
            unfold nextG
            simp only [hops, List.getElem?_toArray, List.getElem?_cons_zero, List.getElem?_cons_succ, Nat.zero_add]
            refine ⟨trivial, ?_⟩
            simp only [S6, cfgC, modI]
            try simp only [seval, go_sem]
            exact ⟨p, q, 1, 0, by omega, by omega, by omega, hz, by omega, by omega, by omega, by simp [lst6], .inl ⟨rfl, by first | rfl | simp [S6, cfgC, modI]⟩⟩
          · refine q1b tyOk ?_
            unfold nextG
            simp only [hops, List.getElem?_toArray, List.getElem?_cons_zero, List.getElem?_cons_succ, Nat.reduceAdd]
            refine ⟨trivial, ?_⟩
            simp only [S6, cfgC, modI]
            try simp only [seval, go_sem]
            exact ⟨p, q, 2, 0, by omega, by omega, by omega, hz, by omega, by omega, by omega, by simp [lst6], .inl ⟨rfl, by first | rfl | simp [S6, cfgC, modI]⟩⟩
          · refine q1b tyOk ?_
            unfold nextG
            simp only [hops, List.getElem?_toArray, List.getElem?_cons_zero, List.getElem?_cons_succ, Nat.reduceAdd]
            refine ⟨trivial, ?_⟩
            simp only [S6, cfgC, modI]
            try simp only [seval, go_sem]
            refine q0t (ACall.news (feed_New c.q) rfl ?_)
            rintro x M ⟨rfl, rfl⟩
            rw [q22, s6_len]
            try simp only [seval, go_sem]
            exact ⟨p, q, 3, 0, by omega, by omega, by omega, hz, by omega, by omega, by omega, by simp [lst6], .inl ⟨rfl, by first | rfl | (simp [S6, cfgC, modI, fblk, freshF]; done) | (simp [S6, cfgC, modI, fblk, freshF]; rfl)⟩⟩
          · refine q1b tyOk ?_
            unfold nextG
            simp only [hops, List.getElem?_toArray, List.getElem?_cons_zero, List.getElem?_cons_succ, Nat.reduceAdd]
            refine ⟨trivial, ?_⟩
            simp only [S6, cfgC, modI]
            try simp only [seval, go_sem]
            have hl17 : (nfs c i).length + (fblk (fid i) (freshF c)).length + 1 + 1 + 1 + 1 = fid i + 17 := by rw [nfs_len, fblk_len, fid]; omega
            exact ⟨p, q, 4, 0, by omega, by omega, by omega, hz, by omega, by omega, by omega, by simp [lst6], .inl ⟨rfl, by first | (simp only [hl17, S6, cfgC, modI, List.append_assoc, Nat.reduceLeDiff, ↓reduceIte]; done) | (simp only [hl17]; rfl) | rfl | (simp [S6, cfgC, modI]; done) | (simp [S6, cfgC, modI, freshF]; done) | (simp [S6, cfgC, modI, freshF]; rfl)⟩⟩
        · rcases (show z = 0 ∨ (p = 1 ∧ (z = 1 ∨ z = 2 ∨ z = 3)) by omega) with rfl | ⟨rfl, rfl | rfl | rfl⟩
          · obtain rfl : s = S6 c n i pad _ p 4 4 := by rcases hs with ⟨_, h⟩ | ⟨h, _⟩; exact h; omega
            refine nextA_op ?_
            unfold nextA
            simp only [hops, List.getElem?_toArray, List.getElem?_cons_zero, List.getElem?_cons_succ, Nat.zero_add]
            refine ⟨trivial, ?_⟩
            unfold aappB
            simp only [S6, cfgC, modI]
            have hcs : ∃ cs, (fdB i pad = .box cs ∨ (fdB i pad = .row 76 1 [] ∧ cs = [])) ∧ i ≤ cs.length ∧ cs.take i = ptrsI i := by
              cases i with
              | zero => exact ⟨[], .inr ⟨rfl, rfl⟩, Nat.le_refl _, rfl⟩
              | succ i => exact ⟨_, .inl rfl, by simp [ptrsI], by rw [List.take_append_of_le_length (by simp [ptrsI]), List.take_of_length_le (by simp [ptrsI])]⟩
            obtain ⟨cs, hcs1, hcs2, hcs3⟩ := hcs
            refine ⟨73, 76, _, _, 3, i, fid i + 17, cs, [], .ptr (fid i) 0, rfl, rfl, rfl, rfl, rfl, by rfl, by decide, rfl, rfl, Nat.zero_le _, ?_, hcs2, ?_, ?_, rfl, ?_, by omega, ?_⟩
            · exact hcs1.imp (fun h => by rw [h]; rfl) (fun ⟨h, e⟩ => ⟨by rw [h]; rfl, e⟩)
            · exact s6_get (nfs_len c i) (fblk_len _ _)
            · rw [hcs3]; exact ptrsI_ok i
            · rw [hcs3, ptrsI_next]
              exact refsAll_ptrs _ (fun x hx => by simp only [ptrsI, List.mem_map] at hx; obtain ⟨j, _, rfl⟩ := hx; exact ⟨j, rfl⟩)
            · intro kk
              rw [hcs3, ptrsI_next]
              refine ⟨p, 4, 4, 1, hp, by omega, by omega, by omega, by omega, by omega, by omega, by simp [lst6], .inr ⟨by omega, kk, ?_⟩⟩
              have hkn : (nfs c i ++ (fblk (fid i) (freshF c) ++ [AB.box [.ptr (fid i) 0]])).map (AB.kill 3) = nfs c (i + 1) := nfs_kill c (i + 1)
              have hf3 : (fid i = 3) = False := by simp [fid]; omega
              have hf4 : (fid i + 17 = 3) = False := by simp [fid]
              simp only [St.rehome, St.put, List.map_cons, Nat.reduceLeDiff, ↓reduceIte]
              rw [hkn]
              rcases (show p = 0 ∨ p = 1 by omega) with rfl | rfl
              · simp only [q17, killV, AB.kill, hf3, hf4, List.set_cons_zero, List.set_cons_succ, Z6, cfgC, modI, Nat.reduceLeDiff, Nat.reduceEqDiff, ↓reduceIte]
              · simp only [q17, killV, AB.kill, hf3, hf4, List.set_cons_zero, List.set_cons_succ, Z6, cfgC, modI, Nat.reduceLeDiff, Nat.reduceEqDiff, ↓reduceIte]
          · obtain ⟨kk, rfl⟩ : ∃ kk, s = Z6 c n i kk _ 1 1 := by rcases hs with ⟨h, _⟩ | ⟨_, h⟩; omega; exact h
            refine q1b tyOk ?_
            unfold nextG
            simp only [hops, List.getElem?_toArray, List.getElem?_cons_zero, List.getElem?_cons_succ, Nat.reduceAdd]
            refine ⟨trivial, ?_⟩
            simp only [Z6, cfgC, modI]
            try simp only [seval, go_sem]
            exact ⟨1, 4, 4, 2, by omega, by omega, by omega, by omega, by omega, by omega, by omega, by simp [lst6], .inr ⟨by omega, kk, by first | rfl | simp [Z6, cfgC, modI]⟩⟩
          · obtain ⟨kk, rfl⟩ : ∃ kk, s = Z6 c n i kk _ 1 2 := by rcases hs with ⟨h, _⟩ | ⟨_, h⟩; omega; exact h
            refine q1b tyOk ?_
            unfold nextG
            simp only [hops, List.getElem?_toArray, List.getElem?_cons_zero, List.getElem?_cons_succ, Nat.reduceAdd]
            refine ⟨trivial, ?_⟩
            simp only [Z6, cfgC, modI]
            try simp only [seval, go_sem]
            exact ⟨1, 4, 4, 3, by omega, by omega, by omega, by omega, by omega, by omega, by omega, by simp [lst6], .inr ⟨by omega, kk, by first | rfl | simp [Z6, cfgC, modI]⟩⟩
          · obtain ⟨kk, rfl⟩ : ∃ kk, s = Z6 c n i kk _ 1 3 := by rcases hs with ⟨h, _⟩ | ⟨_, h⟩; omega; exact h
            refine q1b tyOk ?_
            unfold nextG
            simp only [hops, List.getElem?_toArray, List.getElem?_cons_zero, List.getElem?_cons_succ, Nat.reduceAdd]
            refine ⟨trivial, ?_⟩
            simp only [Z6, cfgC, modI]
            try simp only [seval, go_sem]
            exact ⟨1, 4, 4, 4, by omega, by omega, by omega, by omega, by omega, by omega, by omega, by simp [lst6], .inr ⟨by omega, kk, by first | rfl | simp [Z6, cfgC, modI]⟩⟩
    · rw [show ops.size = 13 by rw [hops]; rfl]
      exact ⟨0, 0, 0, 0, by omega, by omega, by omega, by omega, by omega, by omega, by omega, rfl, .inl ⟨rfl, by first | rfl | simp [S6, cfgC, modI]⟩⟩
    rintro listed s ⟨p, q, o, z, hp, hq, ho, hz, hzz, hzp, hk, rfl, hs⟩
    obtain rfl : p = 1 := by omega
    obtain rfl : q = 4 := by omega
    obtain rfl : o = 4 := by omega
    obtain rfl : z = 4 := by omega
    obtain ⟨kk, rfl⟩ : ∃ kk, s = Z6 c n i kk _ 1 4 := by rcases hs with ⟨h, _⟩ | ⟨_, h⟩; omega; exact h
    refine ⟨by subst hops; kernel_rfl, ?_⟩
    clear hops
    simp only [Z6, cfgC, modI]
    have ew : IntKind.i64.wrap ((i : Int) + 1) = ((i + 1 : Nat) : Int) := by rw [wrap_i64 (by omega) (by omega)]; rfl
    try simp only [seval, go_sem, ew]
    refine ⟨(i + 1, kk), hlt, by simp only; omega, ?_⟩
    have htr := fun X => newM6_trunc c n (i + 1) kk (by omega) (X := X)
    simp only [newM6, cfgC, modI] at htr
    simp only [St.trunc, htr]
    rfl
  · have hge : i = n := by have : ¬ ((i : Int) < (n : Int)) := by rw [hn] at hc; simpa using hc
                           omega
    subst hge
    try simp only [seval, go_sem]
    apply hK
    simp only [Tryz.results17, retK, ares, Bool.and_true, Bool.true_and, AV.ofResults, St.trunc, q00, q01, AB.trunc, List.getD_cons_zero, List.getD_cons_succ, List.take_succ_cons, List.map_cons, Nat.reduceLeDiff, true_and, and_true, ↓reduceIte, List.cons.injEq, exists_eq_left']
    cases i with
    | zero => omega
    | succ i =>
      refine ⟨pad, ?_⟩
      exact newM6_trunc c (i + 1) (i + 1) pad (by omega)
theorem Turns.weakRow {tm : List AV} {m : List AB} {b : Nat} {t : TypeId} {sz : Nat} {xs ys : List AV} (hb : m[b]? = some (.row t sz xs)) (hw : weaks xs ys) (hp : q04 ys = []) (hl : xs = [] → ys = []) : Turns ⟨tm, m⟩ ⟨tm, m.set b (.row t sz ys)⟩ := by
  intro Hd B ι a w h
  refine ⟨ι, ⟨by simpa using h.len, h.lt, h.inj, h.tmps, ?_, h.marks, h.hid, h.glob⟩, fun L => Ext.refl _ _⟩
  intro i blk hi
  have hi : (m.set b (.row t sz ys))[i]? = some blk := hi
  by_cases c : b = i
  · subst c
    rw [List.getElem?_set_self (List.getElem?_eq_some_iff.1 hb).1] at hi
    cases hi
    obtain ⟨_, hm⟩ := h.mem b _ hb
    refine ⟨hp, ?_⟩
    rcases hm with ⟨r, cells, vs, h1, h2, h3, h4⟩ | ⟨h1, h2⟩
    · exact .inl ⟨r, cells, vs, h1, h2, q34 _ _ _ hw h3, h4⟩
    · exact .inr ⟨h1, hl h2⟩
  · rw [List.getElem?_set_ne c] at hi
    exact h.mem i blk hi
theorem weaks_rep {x y : AV} (h : Sym.weak x y) : ∀ n, weaks (List.replicate n x) (List.replicate n y)
  | 0 => by simp [weaks]
  | n + 1 => ⟨y, List.replicate n y, rfl, h, weaks_rep h n⟩
def fresh (c : Cf) : Md := ⟨c, ⟨c.st, 0, false⟩, fun _ => [], fun _ => freshF c⟩
theorem bkRow_nil (n : Nat) : bkRow n (fun _ => []) = List.replicate n (.agg [.sl 1 [], .sl 4 []]) := by
  simp only [bkRow, q0n, List.map_nil]
  apply List.ext_getElem?
  intro i
  by_cases hi : i < n
  · simp [hi]
  · simp [hi]
def nids : Nat → List Nat
  | 0 => [2, 1, 3]
  | n + 1 => nids n ++ List.range' (fid n) 17
theorem model_New (c : Cf) (n : Nat) (hn : c.s = n) (h1 : 1 ≤ n) (h8 : n ≤ 8) (hr : c.right = true) : ACall P 17 [] [c.av] (fun x m' => x = .tup [.ptr 0 0, i64 0] ∧ ∃ pad, m' = modM n pad (fresh c)) := by
  refine ACall.renum (new_made c n hn h1 h8 hr) ?_
  rintro x m' ⟨rfl, pad, rfl⟩
  refine ⟨.tup [.ptr 0 0, i64 0], modM n pad (fresh c), ?_, rfl, pad, rfl⟩
  refine TurnsL.trans (s' := ⟨[.tup [.ptr 2 0, i64 0]], (newM6 c n n pad).set 1 (.row 87 2 (bkRow n fun _ => []))⟩) (Turns.toL (Turns.weakRow (b := 1) (xs := nilRow n) rfl ?_ ?_ ?_)) ?_
  · rw [bkRow_nil]
    exact weaks_rep nil_se n
  · rw [bkRow_nil, q0z]
    intro x hx
    rw [List.eq_of_mem_replicate hx]
    rfl
  · intro h
    have := congrArg List.length h
    simp [nilRow] at this
    omega
  · have hin : ∀ k, (modM k pad (fresh c)).all (AB.inR (mlen k)) = true := fun k => mm_inR k pad (fresh c)
    have key : ∀ k, (nids k).length = mlen k := by
      intro k
      induction k with
      | zero => rfl
      | succ k ih => rw [nids, List.length_append, ih, List.length_range']; simp only [mlen]; omega
    refine TurnsL.pick (nids n) ?_ ?_ ?_ ?_ ?_ (fun b hb => absurd hb (Nat.not_lt_zero b))
    · rcases n_cases h1 h8 with rfl | rfl | rfl | rfl | rfl | rfl | rfl | rfl <;> decide +kernel
    · have hrep : ∀ k, q0e (nids n) (List.replicate k AV.any) = List.replicate k AV.any := by
        intro k
        induction k with
        | zero => rfl
        | succ k ih => rw [List.replicate_succ, q0e, ih]; rfl
      have happ : ∀ l m, q0e (nids n) (l ++ m) = q0e (nids n) l ++ q0e (nids n) m := by
        intro l m
        induction l with
        | nil => rfl
        | cons x l ih => rw [List.cons_append, q0e, ih]; rfl
      have hp : q0e (nids n) (ptrs n pad) = ptrsI n ++ List.replicate pad AV.any := by
        rw [ptrs, happ, hrep]
        congr 1
        rcases n_cases h1 h8 with rfl | rfl | rfl | rfl | rfl | rfl | rfl | rfl <;> rfl
      have e : renM (nids n) (modM n pad (fresh c)) = .box (q0e (nids n) [i64 c.s, i64 c.k, i64 c.q, i64 c.w, i64 c.r, u64 c.e, u64 c.st, u64 c.st, u64 0, bool false, .own 1 2 0 n, .own 2 1 0 n]) ::
          .row 87 2 (bkRow n fun _ => []) :: .box (ptrsI n ++ List.replicate pad AV.any) :: renM (nids n) (feedsM (fun _ => freshF c) n 0) := by
        rw [← hp]; rfl
      show List.map _ (nids n) = List.map some (renM (nids n) (modM n pad (fresh c)))
      rw [e]
      clear hrep happ hp e
      generalize List.replicate pad AV.any = Q
      rcases n_cases h1 h8 with rfl | rfl | rfl | rfl | rfl | rfl | rfl | rfl <;> kernel_rfl
    · rcases n_cases h1 h8 with rfl | rfl | rfl | rfl | rfl | rfl | rfl | rfl <;> exact q1q _
    · rw [key]
      refine List.all_eq_true.2 fun b hb => ?_
      have hb0 : b = 0 := by simpa [q03, bks] using hb
      subst hb0
      exact decide_eq_true (by simp only [mlen]; omega)
    · rw [key]; exact hin n
end Go.Proofs.YtdkcpcflfnakdaaGreat
namespace Go.Proofs.YtdkcpcflfnakdaaGreat
open Go Go.Proofs.YtdkcpcflfnakdaaGreat.Sym
set_option maxRecDepth 100000
set_option maxHeartbeats 1000000
set_option maxHeartbeats 2000000
def sm : Cf := ⟨3, 2, 16, 4, 1, 100, 0⟩
theorem law_Small : PCall P 18 [] (fun x => x = sm.av) := by
  refine q0d tyOk Tryz.func18 rfl rfl ?_
  intro K hK
  simp only [Tryz.ntmps18, List.length_nil, Nat.reduceSub, List.replicate, List.nil_append]
  try simp only [seval, go_sem]
  apply hK
  simp only [Tryz.results18, retK, ares, List.take_nil, Bool.and_true, Bool.true_and, AV.ofResults, St.trunc, q00, q01, aload, acell, T, TI.isAgg, List.getD_cons_zero, List.take_zero, List.take_succ_cons, List.drop_zero, List.map_nil, List.getElem?_cons_zero, List.length_cons, List.length_nil, Nat.reduceAdd, Nat.le_refl, true_and, and_true, ↓reduceIte, List.cons.injEq, exists_eq_left']
  try rfl
abbrev annU : ByteArray := ⟨#[97, 110, 110]⟩
def opW : Opb := ⟨6, annU, 0, 0, 0, 0, []⟩
def opS : Opb := ⟨1, annU, 0, 2, 0, 9, []⟩
def opP : Opb := ⟨8, ⟨#[]⟩, 0, 0, 0, 0, []⟩
theorem nameB_iff (u : ByteArray) : nameB u = true ↔ (u.size ≠ 0 ∧ u.size ≤ 16) := by
  unfold nameB
  rw [Bool.and_eq_true, decide_eq_true_eq]
  have h1 : (!(u.toList == ByteArray.toList ⟨#[]⟩)) = true ↔ u.size ≠ 0 := by
    have := q0u u ⟨#[]⟩
    have e : (u.toList == ByteArray.toList ⟨#[]⟩) = eqS u ⟨#[]⟩ := rfl
    rw [e]
    constructor
    · intro h h0
      have hu : u = ⟨#[]⟩ := by
        cases u with
        | mk d => have : d.size = 0 := h0; rw [Array.eq_empty_of_size_eq_zero this]
      rw [this.2 hu] at h; cases h
    · intro h
      cases he : eqS u ⟨#[]⟩ with
      | false => rfl
      | true => exact absurd (by rw [this.1 he]; rfl) h
  rw [h1]
  constructor
  · rintro ⟨a, b⟩; exact ⟨a, by omega⟩
  · rintro ⟨a, b⟩; exact ⟨a, by omega⟩
theorem nameB_ann : nameB annU = true := (nameB_iff annU).2 ⟨by decide, by decide⟩
theorem badW : badO opW = false := by simp [badO, opW, nameB_ann]
theorem badS : badO opS = false := by simp [badO, opS, nameB_ann]
theorem badP : badO opP = false := by simp [badO, opP]
def kA : Nat := stN 3 annU
theorem kA_lt : kA < 3 := (stN_lt (n := 3) (by decide) (by decide) annU).1
def annM1 : Md := (fresh sm).watchF kA 1 annU
theorem awake1 : doM 3 (fresh sm) 1 opW = annM1 := by
  have hf : fullW 3 (fresh sm) 1 annU = false := by
    unfold fullW
    have h1 : countM (fresh sm) 1 3 = 0 := by rfl
    rw [h1]
    simp [fresh, sm]
  have hi : inB 1 0 7 = true := by decide
  unfold doM
  rw [badW, hi]
  simp only [opW, hf]
  rfl
def annC : Chg := ⟨annU, ⟨0, 0, 0⟩, ⟨2, 0, 1⟩⟩
theorem annB : writeC [] opS 0 2 = [annC] := by rfl
def annM2 : Md := (annM1.take.setB kA (q29 [] opS 0 2)).tell kA [annC] 1
theorem awake2 : doM 3 annM1 0 opS = annM2 := by
  have hi : inB 0 0 7 = true := by decide
  unfold doM
  rw [badS, hi]
  have : annM1.write 3 opS = annM2 := by
    unfold Md.write
    have h1 : annM1.t.cl = false := rfl
    rw [h1, if_neg (by decide)]
    have h2 : addW annM1.t.seq 1 = 1 := by decide
    rw [h2]
    show (annM1.take.setB kA (q29 [] opS 0 2)).tell kA (writeC [] opS 0 2) 1 = _
    rw [annB]; rfl
  simp only [opS] at this ⊢
  rw [this]; rfl
def annE : Ev := ⟨annU, ⟨0, 0, 0⟩, ⟨2, 0, 1⟩, 1⟩
theorem annQ (j : Nat) : ((annM2.f j).q 1) = if j = kA then ([annE], false) else ([], false) := by
  unfold annM2 Md.tell Md.setF
  simp only
  by_cases h : j = kA
  · rw [if_pos h, if_pos h]
    have hw : watF ((annM1.take.setB kA (q29 [] opS 0 2)).f kA).m 1 annC.u = true := by
      show watF (watchM [] 1 annU) 1 annU = true
      have h2 : ((annM1.take.setB kA (q29 [] opS 0 2)).f kA).m = watchM [] 1 annU := by
        simp [annM1, Md.take, Md.setB, Md.watchF, Md.setF, fresh, freshF]
      rw [wat_watch msk_nil]
      simp [cli]
    rw [tell_one, tell1_qy (by decide) (by
      have h2 : ((annM1.take.setB kA (q29 [] opS 0 2)).f kA).m = watchM [] 1 annU := by
        simp [annM1, Md.take, Md.setB, Md.watchF, Md.setF, fresh, freshF]
      rw [h2, Int.natCast_one]
      show watF (watchM [] 1 annU) 1 annU = true
      rw [wat_watch msk_nil]
      simp [cli])]
    have hq : ((annM1.take.setB kA (q29 [] opS 0 2)).f kA).q 1 = ([], false) := by
      simp [annM1, Md.take, Md.setB, Md.watchF, Md.setF, fresh, freshF]
    have hr : ((annM1.take.setB kA (q29 [] opS 0 2)).f kA).room = 16 := by
      simp [annM1, Md.take, Md.setB, Md.watchF, Md.setF, fresh, freshF, sm]
      decide
    rw [hq, hr]
    rfl
  · rw [if_neg h, if_neg h]
    simp [annM1, Md.take, Md.setB, Md.watchF, Md.setF, fresh, freshF, h]
theorem awake3 : doR 3 annM2 1 opP = ⟨0, none, some [annE], false⟩ := by
  have hi : inB 1 0 7 = true := by decide
  unfold doR
  rw [badP, hi]
  have h1 : rowsW annM2 1 3 = (List.range 3).map fun j => if j = kA then [annE] else [] := by
    unfold rowsW
    apply List.map_congr_left
    intro j _
    rw [show (1 : Int).toNat = 1 from rfl, annQ]
    split <;> rfl
  have h2 : lostW annM2 1 3 = false := by
    unfold lostW
    rw [List.any_eq_false]
    intro j _
    rw [show (1 : Int).toNat = 1 from rfl, annQ]
    split <;> simp
  have h3 : mergeF (rowsW annM2 1 3) = [annE] := by
    rw [h1]
    have hk := kA_lt
    generalize kA = k at *
    rcases (show k = 0 ∨ k = 1 ∨ k = 2 by omega) with rfl | rfl | rfl <;> rfl
  rw [h2, h3]
  rfl
structure WOk (n B : Nat) (M : Md) : Prop where
  ok : MOk n B M
  room : ∀ j, (M.f j).room ≤ 100
  msk : ∀ j, mskOk (M.f j).m
theorem tell_q {F : Fd} (hq : ∀ k, (F.q k).1.length ≤ 100) (hr : F.room ≤ 100) (seq : Int) : ∀ (l : List Chg) k, ((tellF F l seq).q k).1.length ≤ 100 := by
  intro l
  induction l generalizing F with
  | nil => exact hq
  | cons c l ih =>
    refine ih (F := tell1 F c seq 8) (fun k => ?_) hr
    unfold tell1
    simp only
    split
    · unfold putR
      split
      · exact hq k
      · rename_i h
        simp only [List.length_append, List.length_singleton]
        omega
    · exact hq k
theorem WOk.mono {n B B' : Nat} {M : Md} (h : WOk n B M) (hB : B ≤ B') (h9 : B' ≤ 900) : WOk n B' M :=
  ⟨⟨h.ok.n1, h.ok.n8, h.ok.s, fun j => (h.ok.b j).mono hB, h.ok.m, fun j => Nat.le_trans (h.ok.ml j) hB, h.ok.q, h9⟩, h.room, h.msk⟩
theorem wok_t {n B : Nat} {M : Md} (h : WOk n B M) (t : Tm) : WOk n B { M with t := t } := ⟨⟨h.ok.n1, h.ok.n8, h.ok.s, h.ok.b, h.ok.m, h.ok.ml, h.ok.q, h.ok.B⟩, h.room, h.msk⟩
theorem wok_setB {n B : Nat} {M : Md} (h : WOk n B M) (s : Nat) {b : Bk} (hb : q2i B b) : WOk n B (M.setB s b) :=
  ⟨⟨h.ok.n1, h.ok.n8, h.ok.s, fun j => by
    simp only [Md.setB]
    split
    · exact hb
    · exact h.ok.b j, h.ok.m, h.ok.ml, h.ok.q, h.ok.B⟩, h.room, h.msk⟩
theorem wok_setF {n B : Nat} {M : Md} (h : WOk n B M) (s : Nat) {F : Fd} (hm : mskOk F.m) (hl : F.m.length ≤ B) (hq : ∀ k, (F.q k).1.length ≤ 100) (hr : F.room ≤ 100) : WOk n B (M.setF s F) :=
  ⟨⟨h.ok.n1, h.ok.n8, h.ok.s, h.ok.b, fun j => by
    simp only [Md.setF]
    split
    · exact hm.1
    · exact h.ok.m j, fun j => by
    simp only [Md.setF]
    split
    · exact hl
    · exact h.ok.ml j, fun j => by
    simp only [Md.setF]
    split
    · exact hq
    · exact h.ok.q j, h.ok.B⟩, fun j => by
    simp only [Md.setF]
    split
    · exact hr
    · exact h.room j, fun j => by
    simp only [Md.setF]
    split
    · exact hm
    · exact h.msk j⟩
theorem wok_tell {n B : Nat} {M : Md} (h : WOk n B M) (s : Nat) (l : List Chg) (seq : Int) : WOk n B (M.tell s l seq) := by
  obtain ⟨h1, h2, _⟩ := tellF_ok (M.f s) l seq
  exact wok_setF h s (by rw [h1]; exact h.msk s) (by rw [h1]; exact h.ok.ml s) (tell_q (h.ok.q s) (h.room s) seq l) (by rw [h2]; exact h.room s)
theorem wok_fresh {c : Cf} {n : Nat} (hn : c.s = n) (h1 : 1 ≤ n) (h8 : n ≤ 8) (hq : c.q ≤ 100) : WOk n 0 (fresh c) :=
  ⟨⟨h1, h8, hn, fun j => ⟨List.Pairwise.nil, Nat.le_refl _, fun p hp => by cases hp⟩, fun j => msk_nil.1, fun j => Nat.le_refl _, fun j k => Nat.zero_le _, by omega⟩, fun j => by show max c.q 0 ≤ 100; omega, fun j => msk_nil⟩
theorem wok_sweep {n B : Nat} {M : Md} (h : WOk n B M) (s : Int) : WOk n B (M.sweep n s) := by
  unfold Md.sweep
  split
  · exact h
  · exact wok_tell (wok_setB (wok_t h _) _ (book_sweep (h.ok.b _) _)) _ _ _
theorem wok_tick {n B : Nat} {M : Md} (h : WOk n B M) (by_ : Int) : WOk n B (M.tick by_) := wok_t h _
theorem wok_do {n B : Nat} {M : Md} (h : WOk n B M) (hB : B + 1 ≤ 900) (who : Int) (o : Opb) : WOk n (B + 1) (doM n M who o) := by
  have hm := h.mono (Nat.le_succ B) hB
  unfold doM
  split
  · exact hm
  split
  · unfold Md.write
    split
    · exact wok_t hm _
    · exact wok_tell (wok_setB (wok_t hm _) _ (book_write (h.ok.b _) o _ _)) _ _ _
  split
  · refine ⟨?_, fun j => ?_, fun j => ?_⟩
    · have := mok_drains h.ok who n
      exact ⟨this.n1, this.n8, this.s, fun j => (this.b j).mono (Nat.le_succ _), this.m, fun j => Nat.le_succ_of_le (this.ml j), this.q, hB⟩
    · simp only [Md.drains]
      split
      · unfold Fd.drain; split <;> exact h.room j
      · exact h.room j
    · simp only [Md.drains]
      split
      · unfold Fd.drain; split <;> exact h.msk j
      · exact h.msk j
  split
  · exact hm
  split
  · split
    · exact hm
    · exact wok_setF hm _ (watch_ok (h.msk _) who o.u) (by have := watch_len (M.f (stN n o.u)).m who o.u; have := h.ok.ml (stN n o.u); simp only; omega) (h.ok.q _) (h.room _)
  split
  · exact wok_setF hm _ (unwatch_ok (h.msk _) who o.u) (by have := unwatch_len (M.f (stN n o.u)).m who o.u; have := h.ok.ml (stN n o.u); simp only; omega) (h.ok.q _) (h.room _)
  split
  · exact wok_t hm _
  · exact hm
def opNil (o : Opb) : AV := .agg [i64 o.kind, str o.u, i64 o.id, i64 o.st, i64 o.pr, u64 o.ttl, .v (.slice none 0 0)]
theorem Do_in {n pad B : Nat} {M : Md} (h : WOk n B M) (hB : B + 1 ≤ 900) (who : Int) (o : Opb) (ho : OpOk o) (r : List AB) (hr : r.all (AB.calm n) = true) : q0j P (kpX n) 19 (modM n pad M ++ r) [.ptr 0 0, i64 who, o.av]
    (fun x m' => x = (doR n M who o).av ∧ m' = modM n pad (doM n M who o) ++ r) :=
  mod_inX (model_Do h.ok hB who o ho) (by rfl) hr (by rintro x m' ⟨rfl, rfl⟩; exact ⟨by
    generalize doR n M who o = R
    cases R with
    | mk e v ev l => cases v <;> cases ev <;> rfl, _, rfl, rfl, rfl⟩)
theorem Do_nil {n pad B : Nat} {M : Md} (h : WOk n B M) (hB : B + 1 ≤ 900) (who : Int) (o : Opb) (ho : OpOk o) (hu : o.us = []) (r : List AB) (hr : r.all (AB.calm n) = true) : q0j P (kpX n) 19 (modM n pad M ++ r) [.ptr 0 0, i64 who, opNil o]
    (fun x m' => x = (doR n M who o).av ∧ m' = modM n pad (doM n M who o) ++ r) := by
  refine mod_inX (K0 := fun x m' => x = (doR n M who o).av ∧ m' = modM n pad (doM n M who o)) ?_ (by rfl) hr (by rintro x m' ⟨rfl, rfl⟩; exact ⟨by
    generalize doR n M who o = R
    cases R with
    | mk e v ev l => cases v <;> cases ev <;> rfl, _, rfl, rfl, rfl⟩)
  refine q0h.turn (Turns.weak (s := ⟨[.ptr 0 0, i64 who, opNil o], modM n pad M⟩) (s' := ⟨[.ptr 0 0, i64 who, o.av], modM n pad M⟩) ⟨_, _, rfl, q0s _, _, _, rfl, q0s _, _, _, rfl, ?_, rfl⟩ (weakM_refl _)) (model_Do h.ok hB who o ho)
  unfold Opb.av
  rw [hu]
  exact .inr ⟨_, rfl, _, _, rfl, q0s _, _, _, rfl, q0s _, _, _, rfl, q0s _, _, _, rfl, q0s _, _, _, rfl, q0s _, _, _, rfl, q0s _, _, _, rfl, q3y 1, rfl⟩
theorem annV : evts [annE] = [.agg [.v (.string ⟨#[97, 110, 110]⟩), i64 0, i64 0, i64 0, i64 2, i64 0, i64 1, u64 1]] := rfl
theorem law_awake : PCall P 11 [] (fun x => x = bool true) := by
  refine q0d tyOk Tryz.func11 rfl rfl ?_
  intro K hK
  simp only [Tryz.ntmps11, List.length_nil, Nat.reduceSub, List.replicate, List.nil_append]
  try simp only [seval, go_sem]
  (refine q02 law_Small rfl ?_; rintro _ rfl)
  try simp only [seval, go_sem]
  have h0 : WOk 3 0 (fresh sm) := wok_fresh rfl (by decide) (by decide) (by decide)
  refine q0t ((model_New sm 3 rfl (by decide) (by decide) (by rfl)).mono ?_)
  rintro _ _ ⟨rfl, pad, rfl⟩
  try simp only [seval, go_sem, Nat.add_assoc, AB.calm, kpX, kpM, Nat.one_ne_zero]
  rw [← List.append_nil (modM 3 pad (fresh sm))]
  refine q2u (kp := kpX 3) (fun b hb => absurd hb (Nat.not_lt_zero b)) ((Do_nil h0 (by decide) 1 opW (by constructor <;> first | decide | simp [opW]) rfl [] rfl).mono ?_)
  rintro _ _ ⟨rfl, rfl⟩
  have h1 := wok_do h0 (by decide) 1 opW
  rw [awake1] at h1 ⊢
  try simp only [seval, go_sem, Nat.add_assoc, AB.calm, kpX, kpM, Nat.one_ne_zero]
  refine q2u (kp := kpX 3) (fun b hb => absurd hb (Nat.not_lt_zero b)) ((Do_nil h1 (by decide) 0 opS (by constructor <;> first | decide | simp [opS]) rfl [] rfl).mono ?_)
  rintro _ _ ⟨rfl, rfl⟩
  have h2 := wok_do h1 (by decide) 0 opS
  rw [awake2] at h2 ⊢
  try simp only [seval, go_sem, Nat.add_assoc, AB.calm, kpX, kpM, Nat.one_ne_zero]
  refine q2u (kp := kpX 3) (fun b hb => absurd hb (Nat.not_lt_zero b)) ((Do_nil h2 (by decide) 1 opP (by constructor <;> first | decide | simp [opP]) rfl [] rfl).mono ?_)
  rintro _ _ ⟨rfl, rfl⟩
  rw [awake3, List.append_nil]
  try simp only [seval, go_sem, Nat.add_assoc, AB.calm, kpX, kpM, Nat.one_ne_zero, Rp.av, slO, Option.map, annV, Int.natCast_one, Int.toNat_zero, Nat.zero_lt_one, Nat.zero_lt_succ]
  apply hK
  simp only [Tryz.results11, retK, ares, Bool.and_true, Bool.true_and, AV.ofResults, St.trunc, q00, q01, List.getD_cons_zero, List.take_zero, List.map_nil, true_and, and_true, List.cons.injEq, exists_eq_left']
end Go.Proofs.YtdkcpcflfnakdaaGreat
namespace Go.Proofs.YtdkcpcflfnakdaaGreat
open Go Go.Proofs.YtdkcpcflfnakdaaGreat.Sym
set_option maxRecDepth 100000
set_option maxHeartbeats 1000000
set_option maxHeartbeats 2000000
def longU (us : List ByteArray) : Bool := us.any fun u => decide (40 < u.size)
def shortO (o : Opb) : Bool := !decide (40 < o.u.size) && (!decide (20 < o.us.length) && !longU o.us)
theorem longU_next {us : List ByteArray} {i : Nat} (h : i < us.length) : longU (us.take (i + 1)) = (longU (us.take i) || decide (40 < us[i].size)) := by
  rw [q1f h, longU, List.any_append]; simp [longU]
theorem short_ok {o : Opb} (h : shortO o = true) : OpOk o := by
  unfold shortO longU at h
  simp only [Bool.and_eq_true, Bool.not_eq_true', decide_eq_false_iff_not, List.any_eq_false, decide_eq_true_eq] at h
  obtain ⟨h1, h2, h3⟩ := h
  exact ⟨by omega, by omega, fun u hu => by have := h3 u hu; omega⟩
theorem law_Short (o : Opb) (hu : o.us.length ≤ maxLen) : PCall P 12 [o.av] (fun x => x = bool (shortO o)) := by
  have hu' : o.us.length ≤ 9223372036854775807 := hu
  refine q0d tyOk Tryz.func12 rfl rfl ?_
  intro K hK
  simp only [Tryz.ntmps12, List.length_cons, List.length_nil, Nat.reduceAdd, Nat.reduceSub, List.replicate, List.cons_append, List.nil_append]
  unfold shortO at hK
  by_cases h1 : 40 < o.u.size
  · have c1 : decide ((40 : Int) < (o.u.size : Int)) = true := decide_eq_true (by omega)
    have c1' : decide ((o.u.size : Int) > (40 : Int)) = true := decide_eq_true (by omega)
    rw [decide_eq_true h1] at hK
    try simp only [seval, go_sem, Opb.av, c1, c1']
    apply hK
    simp only [Tryz.results12, retK, ares, Bool.and_true, Bool.true_and, AV.ofResults, St.trunc, q00, q01, List.getD_cons_zero, List.getD_cons_succ, List.take_zero, List.map_nil, true_and, and_true, List.cons.injEq, exists_eq_left']
    try rfl
  · have c1 : decide ((40 : Int) < (o.u.size : Int)) = false := decide_eq_false (by omega)
    have c1' : decide ((o.u.size : Int) > (40 : Int)) = false := decide_eq_false (by omega)
    rw [decide_eq_false h1] at hK
    by_cases h2 : 20 < o.us.length
    · have c2 : decide ((20 : Int) < (o.us.length : Int)) = true := decide_eq_true (by omega)
      have c2' : decide ((o.us.length : Int) > (20 : Int)) = true := decide_eq_true (by omega)
      rw [decide_eq_true h2] at hK
      try simp only [seval, go_sem, Opb.av, c1, c1', c2, c2', List.length_map]
      apply hK
      simp only [Tryz.results12, retK, ares, Bool.and_true, Bool.true_and, AV.ofResults, St.trunc, q00, q01, List.getD_cons_zero, List.getD_cons_succ, List.take_zero, List.map_nil, true_and, and_true, List.cons.injEq, exists_eq_left']
      try rfl
    · have c2 : decide ((20 : Int) < (o.us.length : Int)) = false := decide_eq_false (by omega)
      have c2' : decide ((o.us.length : Int) > (20 : Int)) = false := decide_eq_false (by omega)
      rw [decide_eq_false h2] at hK
      try simp only [seval, go_sem, Opb.av, c1, c1', c2, c2', List.length_map]
      refine q12 tyOk (α := Nat) 1 [1, 3] (fun i => i ≤ o.us.length ∧ longU (o.us.take i) = false)
        (fun i => ⟨[.any, .ptr 0 0, .any, i64 i, .any, .any, .any, .any, .any, .any, .any, .any, .any, .any, .any, .any, .any, .any, .any, .any, .any, .any, .any, .any, .any, .any, .any, .any], [.box [i64 o.kind, str o.u, i64 o.id, i64 o.st, i64 o.pr, u64 o.ttl, .sl 1 (o.us.map fun x => str x)]]⟩)
        (fun i => o.us.length - i) 0 (Nat.zero_le _) ⟨Nat.zero_le _, rfl⟩ rfl ?_
      rintro i ⟨hi, hl⟩
      try simp only [seval, go_sem, List.length_map]
      (first | refine q05 ?_ ?_ | refine q08 ?_ ?_ | refine q09 ?_ ?_ | refine q07 ?_ ?_ | refine q06 ?_ ?_) <;> intro hc
      · have hlt : i < o.us.length := by simpa using hc
        have c1 : (0 : Int) ≤ (i : Int) ∧ Int.toNat (i : Int) < o.us.length := by omega
        have eg : (o.us.map fun x => str x).getD (Int.toNat (i : Int)) .any = str o.us[i] := by
          simp [List.getD_eq_getElem?_getD, hlt]
        have ew : IntKind.i64.wrap ((i : Int) + 1) = ((i + 1 : Nat) : Int) := by rw [wrap_i64 (by omega) (by omega)]; rfl
        have hn := longU_next hlt
        by_cases h3 : 40 < o.us[i].size
        · have c3 : decide ((40 : Int) < (o.us[i].size : Int)) = true := decide_eq_true (by omega)
          have c3' : decide ((o.us[i].size : Int) > (40 : Int)) = true := decide_eq_true (by omega)
          have he : longU o.us = true := List.any_eq_true.2 ⟨_, List.getElem_mem hlt, decide_eq_true h3⟩
          rw [he] at hK
          try simp only [seval, go_sem, c1, eg, List.length_map, c3, c3']
          apply hK
          simp only [Tryz.results12, retK, ares, Bool.and_true, Bool.true_and, AV.ofResults, St.trunc, q00, q01, List.getD_cons_zero, List.getD_cons_succ, List.take_zero, List.map_nil, true_and, and_true, List.cons.injEq, exists_eq_left']
          try rfl
        · have c3 : decide ((40 : Int) < (o.us[i].size : Int)) = false := decide_eq_false (by omega)
          have c3' : decide ((o.us[i].size : Int) > (40 : Int)) = false := decide_eq_false (by omega)
          try simp only [seval, go_sem, c1, eg, List.length_map, c3, c3', ew]
          simp only [q0f, St.trunc, St.keep, q00, q01, AB.trunc, keepV, List.elem_cons, List.elem_nil, List.take_succ_cons, List.take_zero, List.map_cons, List.map_nil, Nat.reduceAdd, Nat.reduceBEq, Nat.reduceLeDiff, Nat.zero_add, Bool.false_eq_true, ↓reduceIte]
          exact ⟨i + 1, ⟨hlt, by rw [hn, hl, decide_eq_false h3]; rfl⟩, by omega, by first | rfl | simp⟩
      · have hge : i = o.us.length := by have : ¬ ((i : Int) < (o.us.length : Int)) := by simpa using hc
                                         omega
        subst hge
        rw [List.take_length] at hl
        rw [hl] at hK
        try simp only [seval, go_sem, List.length_map]
        apply hK
        simp only [Tryz.results12, retK, ares, Bool.and_self, Bool.and_true, Bool.true_and, AV.ofResults, St.trunc, q00, q01, List.getD_cons_zero, List.getD_cons_succ, List.take_zero, List.map_nil, true_and, and_true, List.cons.injEq, exists_eq_left']
        try rfl
theorem fits_strs {ys : List AV} (h : ∀ y ∈ ys, ∃ zs, q21 [.str] zs ∧ y = pack false zs) : ∃ l : List ByteArray, ys = l.map fun x => str x := by
  induction ys with
  | nil => exact ⟨[], rfl⟩
  | cons y ys ih =>
    obtain ⟨l, rfl⟩ := ih (fun z hz => h z (List.mem_cons_of_mem _ hz))
    obtain ⟨zs, ⟨x, r, rfl, ⟨s, rfl, _⟩, rfl⟩, rfl⟩ := h y List.mem_cons_self
    exact ⟨s :: l, rfl⟩
end Go.Proofs.YtdkcpcflfnakdaaGreat
namespace Go.Proofs.YtdkcpcflfnakdaaGreat
open Go Go.Proofs.YtdkcpcflfnakdaaGreat.Sym
set_option maxRecDepth 100000
set_option maxHeartbeats 1000000
set_option maxHeartbeats 2000000
structure Ac where
  d : Nat
  who : Int
  op : Opb
  by_ : Nat
def Ac.av (a : Ac) : AV := .agg [.v (.int .u8 a.d), i64 a.who, i64 a.op.kind, str a.op.u, i64 a.op.id, i64 a.op.st, i64 a.op.pr, u64 a.op.ttl, .sl 1 (a.op.us.map fun x => str x), u64 a.by_]
abbrev Ac.cs (a : Ac) : List AV := [.v (.int .u8 a.d), i64 a.who, i64 a.op.kind, str a.op.u, i64 a.op.id, i64 a.op.st, i64 a.op.pr, u64 a.op.ttl, .sl 1 (a.op.us.map fun x => str x), u64 a.by_]
def acts (l : List Ac) : List AV := l.map Ac.av
theorem q1p (l : List Ac) : (acts l).length = l.length := by simp [acts]
theorem acts_get {l : List Ac} {i : Nat} (h : i < l.length) : (acts l).getD (Int.toNat (i : Int)) .any = .agg [.v (.int .u8 l[i].d), i64 l[i].who, i64 l[i].op.kind, str l[i].op.u, i64 l[i].op.id, i64 l[i].op.st, i64 l[i].op.pr, u64 l[i].op.ttl, .sl 1 (l[i].op.us.map fun x => str x), u64 l[i].by_] := by
  rw [Int.toNat_natCast]; simp [acts, List.getD, h, Ac.av]
def longA (l : List Ac) : Bool := l.any fun a => !shortO a.op
theorem longA_next {l : List Ac} {i : Nat} (h : i < l.length) : longA (l.take (i + 1)) = (longA (l.take i) || !shortO l[i].op) := by
  rw [q1f h, longA, List.any_append]; simp [longA]
theorem law_long (l : List Ac) (hl : l.length ≤ maxLen) (hu : ∀ a ∈ l, a.op.us.length ≤ maxLen) : PCall P 16 [.sl 10 (acts l)] (fun x => x = bool (decide (120 < l.length) || longA l)) := by
  have hl' : l.length ≤ 9223372036854775807 := hl
  refine q0d tyOk Tryz.func16 rfl rfl ?_
  intro K hK
  simp only [Tryz.ntmps16, List.length_cons, List.length_nil, Nat.reduceAdd, Nat.reduceSub, List.replicate, List.cons_append, List.nil_append]
  by_cases h0 : l.length ≤ 120
  · have c0 : decide ((120 : Int) < (l.length : Int)) = false := decide_eq_false (by omega)
    have c0' : decide ((l.length : Int) > (120 : Int)) = false := decide_eq_false (by omega)
    rw [decide_eq_false (by omega : ¬ 120 < l.length), Bool.false_or] at hK
    try simp only [seval, go_sem, q1p, c0, c0']
    refine q12 tyOk (α := Nat) 0 [0, 3] (fun i => i ≤ l.length ∧ longA (l.take i) = false)
      (fun i => ⟨[.sl 10 (acts l), .any, .any, i64 i, .any, .any, .any, .any, .any, .any, .any, .any, .any, .any, .any, .any, .any, .any, .any, .any], []⟩)
      (fun i => l.length - i) 0 (by simp) ⟨Nat.zero_le _, rfl⟩ rfl ?_
    rintro i ⟨hi, hall⟩
    try simp only [seval, go_sem, q1p]
    (first | refine q05 ?_ ?_ | refine q08 ?_ ?_ | refine q09 ?_ ?_ | refine q07 ?_ ?_ | refine q06 ?_ ?_) <;> intro hf <;> try simp only [seval, go_sem]
    · have hlt : i < l.length := by simpa using hf
      have eg := acts_get hlt
      have ew : IntKind.i64.wrap ((i : Int) + 1) = ((i + 1 : Nat) : Int) := by rw [wrap_i64 (by omega) (by omega)]; rfl
      have b1 : (0 : Int) ≤ (i : Int) ∧ Int.toNat (i : Int) < l.length := by omega
      have hS := law_Short l[i].op (hu _ (List.getElem_mem hlt))
      have hn := longA_next hlt
      unfold Opb.av at hS
      try simp only [seval, go_sem, eg, b1, q1p]
      (refine q02 hS rfl ?_; rintro _ rfl)
      try simp only [seval, go_sem]
      cases h3 : shortO l[i].op
      · have he : longA l = true := List.any_eq_true.2 ⟨_, List.getElem_mem hlt, by rw [h3]; rfl⟩
        rw [he] at hK
        try simp only [seval, go_sem]
        apply hK
        simp only [Tryz.results16, retK, ares, List.take_nil, Bool.and_true, Bool.true_and, AV.ofResults, St.trunc, q00, q01, List.getD_cons_zero, List.getD_cons_succ, List.map_nil, true_and, and_true, List.cons.injEq, exists_eq_left']
        try rfl
      · try simp only [seval, go_sem, ew]
        simp only [q0f, St.trunc, St.keep, q00, q01, keepV, List.elem_cons, List.elem_nil, List.take_zero, List.map_nil, Nat.reduceAdd, Nat.reduceBEq, Nat.zero_add, Bool.false_eq_true, ↓reduceIte]
        exact ⟨i + 1, ⟨hlt, by rw [hn, hall, h3]; rfl⟩, by omega, rfl⟩
    · obtain rfl : i = l.length := by have := of_decide_eq_false hf; omega
      rw [List.take_length] at hall
      rw [hall] at hK
      apply hK
      simp only [Tryz.results16, retK, ares, List.take_nil, Bool.and_true, Bool.true_and, AV.ofResults, St.trunc, q00, q01, List.getD_cons_zero, List.getD_cons_succ, List.map_nil, true_and, and_true, List.cons.injEq, exists_eq_left']
      try rfl
  · have c0 : decide ((120 : Int) < (l.length : Int)) = true := decide_eq_true (by omega)
    have c0' : decide ((l.length : Int) > (120 : Int)) = true := decide_eq_true (by omega)
    rw [decide_eq_true (by omega : 120 < l.length), Bool.true_or] at hK
    try simp only [seval, go_sem, q1p, c0, c0']
    apply hK
    simp only [Tryz.results16, retK, ares, List.take_nil, Bool.and_true, Bool.true_and, AV.ofResults, St.trunc, q00, q01, List.getD_cons_zero, List.getD_cons_succ, List.map_nil, true_and, and_true, List.cons.injEq, exists_eq_left']
    try rfl
theorem fits_acts {ys : List AV} (h : ∀ y ∈ ys, ∃ zs, q21 [.int .u8, .int .i64, .int .i64, .str, .int .i64, .int .i64, .int .i64, .int .u64, .sl 1 false [.str], .int .u64] zs ∧ y = pack true zs) : ∃ l : List Ac, ys = acts l ∧ (∀ a ∈ l, a.by_ ≤ 18446744073709551615) ∧ ∀ a ∈ l, a.op.us.length ≤ maxLen := by
  induction ys with
  | nil => exact ⟨[], rfl, (fun a ha => by cases ha), (fun a ha => by cases ha)⟩
  | cons y ys ih =>
    obtain ⟨l, rfl, hl, hu⟩ := ih (fun z hz => h z (List.mem_cons_of_mem _ hz))
    obtain ⟨zs, ⟨_, _, rfl, ⟨d, rfl, hd⟩, _, _, rfl, ⟨w, rfl, _⟩, _, _, rfl, ⟨a, rfl, _⟩, _, _, rfl, ⟨u, rfl, _⟩, _, _, rfl, ⟨b, rfl, _⟩, _, _, rfl, ⟨c, rfl, _⟩, _, _, rfl, ⟨e, rfl, _⟩, _, _, rfl, ⟨t, rfl, _⟩, _, _, rfl, ⟨vs, rfl, hvl, hvs⟩, _, _, rfl, ⟨y, rfl, hy⟩, rfl⟩, rfl⟩ := h y List.mem_cons_self
    obtain ⟨us, rfl⟩ := fits_strs hvs
    have hd' : 0 ≤ d ∧ d ≤ 255 := by simpa [Lit.wf, IntKind.min, IntKind.max, IntKind.signed, IntKind.bits] using hd
    have hy' : 0 ≤ y ∧ y ≤ 18446744073709551615 := by simpa [Lit.wf, IntKind.min, IntKind.max, IntKind.signed, IntKind.bits] using hy
    obtain ⟨d, rfl⟩ : ∃ m : Nat, d = m := ⟨d.toNat, by omega⟩
    obtain ⟨y, rfl⟩ : ∃ m : Nat, y = m := ⟨y.toNat, by omega⟩
    rw [List.length_map] at hvl
    refine ⟨⟨d, w, ⟨a, u, b, c, e, t, us⟩, y⟩ :: l, rfl, fun x hx => ?_, fun x hx => ?_⟩
    · rcases List.mem_cons.1 hx with rfl | hx
      · simp only; omega
      · exact hl x hx
    · rcases List.mem_cons.1 hx with rfl | hx
      · exact hvl
      · exact hu x hx
def befM (n : Nat) (M : Md) (a : Ac) : Md := if a.d % 3 = 1 then M.tick a.by_ else if a.d % 3 = 2 then M.sweep n ((a.by_ % 9 : Nat) : Int) else doM n M a.who a.op
def befR (n : Nat) (M : Md) (a : Ac) : Rp := if a.d % 3 = 1 then errR 0 else if a.d % 3 = 2 then errR 0 else doR n M a.who a.op
theorem law_befalls {n pad B : Nat} {M : Md} (h : WOk n B M) (hB : B + 1 ≤ 900) (a : Ac) (ho : OpOk a.op) : q0h P 3 20 (modM n pad M) [.ptr 0 0, a.av]
    (fun x m' => x = (befR n M a).av ∧ m' = modM n pad (befM n M a)) := by
  refine q2p tyOk Tryz.func20 rfl rfl (by rw [q0c, mlen]; omega) ?_
  intro K hK
  rw [q0c] at hK
  simp only [Tryz.ntmps20, List.length_cons, List.length_nil, Nat.reduceAdd, Nat.reduceSub, List.replicate, List.cons_append, List.nil_append]
  have em : Int.tmod (a.d : Int) 3 = ((a.d % 3 : Nat) : Int) := rfl
  have e9 : Int.tmod (a.by_ : Int) 9 = ((a.by_ % 9 : Nat) : Int) := rfl
  have wu (k : Nat) (hk : k < 256) : IntKind.u8.wrap ((k : Nat) : Int) = k := by rw [IntKind.wrap_u8]; omega
  have w9 : IntKind.u64.wrap ((a.by_ % 9 : Nat) : Int) = ((a.by_ % 9 : Nat) : Int) := by rw [IntKind.wrap_u64]; omega
  have w9' : IntKind.i64.wrap ((a.by_ % 9 : Nat) : Int) = ((a.by_ % 9 : Nat) : Int) := wrap_i64 (by omega) (by omega)
  unfold befM befR at hK
  try simp only [seval, go_sem, Nat.add_assoc, AB.calm, kpX, kpM, Nat.one_ne_zero, Ac.av, em, e9]
  obtain ⟨q, hq⟩ : ∃ q, a.d % 3 = q := ⟨_, rfl⟩
  have hq3 : q < 3 := by omega
  rw [hq] at hK ⊢
  rcases (show q = 1 ∨ q = 2 ∨ q = 0 by omega) with rfl | rfl | rfl
  · simp only [if_pos] at hK
    have q1 : ((((1 : Nat) : Int)) == 1) = true := rfl
    try simp only [seval, go_sem, Nat.add_assoc, AB.calm, kpX, kpM, Nat.one_ne_zero, q1]
    refine q0t (mod_in (model_Tick n pad M a.by_) rfl ?_)
    rintro _ _ ⟨rfl, rfl⟩
    refine ⟨rfl, _, rfl, ?_⟩
    try simp only [seval, go_sem, Nat.add_assoc, AB.calm, kpX, kpM, Nat.one_ne_zero]
    apply hK
    simp only [Tryz.results20, retK, ares, Bool.and_true, AV.ofResults, St.trunc, q00, q01, aload, acell, T, TI.isAgg, List.getD_cons_zero, List.getD_cons_succ, List.drop_zero, and_true, ↓reduceIte, List.cons.injEq, exists_eq_left']
    simp only [mm_at1, List.getElem?_cons_zero, List.getElem?_cons_succ, List.take_succ_cons, List.take_zero, q23, and_true, true_and, List.length_cons, List.length_nil, q00, q01, Nat.reduceAdd, Nat.le_refl]
    try (first | exact ⟨rfl, rfl⟩ | rfl | exact ⟨rfl, _, rfl⟩)
  · rw [if_neg (by decide), if_pos rfl, if_neg (by decide), if_pos rfl] at hK
    have q1 : ((((2 : Nat) : Int)) == 1) = false := rfl
    have q2 : ((((2 : Nat) : Int)) == 2) = true := rfl
    try simp only [seval, go_sem, Nat.add_assoc, AB.calm, kpX, kpM, Nat.one_ne_zero, q1, q2, e9, w9, w9']
    refine q2u (kp := kpX n) (fun b hb => by simp [kpX, show b < 3 by omega]) (mod_inX (model_Sweep h.ok ((a.by_ % 9 : Nat) : Int)) rfl ?_ ?_)
    · rfl
    rintro _ _ ⟨rfl, rfl⟩
    refine ⟨rfl, _, rfl, ?_⟩
    try simp only [seval, go_sem, Nat.add_assoc, AB.calm, kpX, kpM, Nat.one_ne_zero]
    apply hK
    simp only [Tryz.results20, retK, ares, Bool.and_true, AV.ofResults, St.trunc, q00, q01, aload, acell, T, TI.isAgg, List.getD_cons_zero, List.getD_cons_succ, List.drop_zero, and_true, ↓reduceIte, List.cons.injEq, exists_eq_left']
    simp only [mm_at1, List.getElem?_cons_zero, List.getElem?_cons_succ, List.take_succ_cons, List.take_zero, q23, and_true, true_and, List.length_cons, List.length_nil, q00, q01, Nat.reduceAdd, Nat.le_refl]
    try (first | exact ⟨rfl, rfl⟩ | rfl | exact ⟨rfl, _, rfl⟩)
  · rw [if_neg (by decide), if_neg (by decide), if_neg (by decide), if_neg (by decide)] at hK
    have q1 : ((((0 : Nat) : Int)) == 1) = false := rfl
    have q2 : ((((0 : Nat) : Int)) == 2) = false := rfl
    have hDo := Do_in (pad := pad) h hB a.who a.op ho [.box a.cs, .box [.v (.int .i64 0), .v (.slice none 0 0), .v (.slice none 0 0), .v (.bool false)]] rfl
    unfold Opb.av at hDo
    try simp only [seval, go_sem, Nat.add_assoc, AB.calm, kpX, kpM, Nat.one_ne_zero, q1, q2]
    refine q2u (kp := kpX n) (fun b hb => by simp [kpX, show b < 3 by omega]) (hDo.mono ?_)
    rintro _ _ ⟨rfl, rfl⟩
    generalize doR n M a.who a.op = R at *
    cases R with
    | mk e v ev l =>
      cases v <;> cases ev
      all_goals
        try simp only [seval, go_sem, Nat.add_assoc, AB.calm, kpX, kpM, Nat.one_ne_zero, Rp.av, slO, Option.map]
        apply hK
        simp only [Tryz.results20, retK, ares, Bool.and_true, AV.ofResults, St.trunc, q00, q01, aload, acell, T, TI.isAgg, List.getD_cons_zero, List.getD_cons_succ, List.drop_zero, and_true, ↓reduceIte, List.cons.injEq, exists_eq_left']
        simp only [mm_at1, List.getElem?_cons_zero, List.getElem?_cons_succ, List.take_succ_cons, List.take_zero, q23, and_true, true_and, List.length_cons, List.length_nil, q00, q01, Nat.reduceAdd, Nat.le_refl]
        try (first | exact ⟨rfl, rfl⟩ | rfl | exact ⟨rfl, _, rfl⟩)
end Go.Proofs.YtdkcpcflfnakdaaGreat
namespace Go.Proofs.YtdkcpcflfnakdaaGreat
open Go Go.Proofs.YtdkcpcflfnakdaaGreat.Sym
set_option maxRecDepth 100000
set_option maxHeartbeats 1000000
set_option maxHeartbeats 2000000
theorem lives_late {now earlier : Int} (h : earlier ≤ now) (l : List Ses) : lives now (lives earlier l) = lives now l := by
  rw [lives, lives, lives, List.filter_filter]
  refine List.filter_congr fun x _ => ?_
  simp only [Ses.lives]
  rw [Bool.eq_iff_iff]
  simp
  omega
theorem swept_was {m : Bk} (hr : q16 m) (now : Int) (u : ByteArray) : (wasOf (q1j m now).1 u).l = lives now (wasOf m u).l := by
  have hr2 := (sweep_ok hr now m.length).1
  rw [show q15 m now m.length = q1j m now by rw [q15, List.take_length, q1j]] at hr2
  by_cases hc : u ∈ (q1j m now).1.map Prod.fst
  · obtain ⟨p, hp, rfl⟩ := List.mem_map.1 hc
    have hw : wasOf (q1j m now).1 p.1 = p.2 := by
      rw [wasOf, get_mem ordS q0u hr2 (k := p.1) (v := p.2) hp]
    rw [hw]
    rw [sweepF_eq hr] at hp
    obtain ⟨q, hq, rfl, hn⟩ := swept_mem hp
    have hw2 : wasOf m q.1 = q.2 := by rw [wasOf, get_mem ordS q0u hr (k := q.1) (v := q.2) hq]
    simp only [hw2]
  · have hw : wasOf (q1j m now).1 u = nilEn := by rw [wasOf, q3v ordS q0u hr2 hc]
    rw [hw]
    by_cases hm : u ∈ m.map Prod.fst
    · obtain ⟨q, hq, rfl⟩ := List.mem_map.1 hm
      have hw2 : wasOf m q.1 = q.2 := by rw [wasOf, get_mem ordS q0u hr (k := q.1) (v := q.2) hq]
      rw [hw2]
      by_cases hl : (lives now q.2.l).length = 0
      · rw [List.eq_nil_of_length_eq_zero hl]; rfl
      · exfalso
        refine hc (List.mem_map.2 ⟨(q.1, ⟨lives now q.2.l, ofP (lives now q.2.l) now⟩), ?_, rfl⟩)
        rw [sweepF_eq hr]
        exact List.mem_filterMap.2 ⟨q, hq, by unfold sweptE; rw [if_neg hl]⟩
    · have hw2 : wasOf m u = nilEn := by rw [wasOf, q3v ordS q0u hr hm]
      rw [hw2]; rfl
theorem wok_bef {B : Nat} {M : Md} (h : WOk 3 B M) (hB : B + 1 ≤ 900) (a : Ac) : WOk 3 (B + 1) (befM 3 M a) := by
  unfold befM
  split
  · exact (wok_tick h _).mono (Nat.le_succ _) hB
  split
  · exact (wok_sweep h _).mono (Nat.le_succ _) hB
  · exact wok_do h hB _ _
end Go.Proofs.YtdkcpcflfnakdaaGreat
namespace Go.Proofs.YtdkcpcflfnakdaaGreat
open Go Go.Proofs.YtdkcpcflfnakdaaGreat.Sym
set_option maxRecDepth 100000
set_option maxHeartbeats 1000000
section
variable {α β : Type} {lt eq : α → α → Bool}
theorem get_same (O : StrictOrd lt) (he : ∀ a b, eq a b = true ↔ a = b) {m m' : List (α × β)} (hr : q2f lt m) (hr' : q2f lt m') {k : α} (none : β) (h : ∀ v, (k, v) ∈ m ↔ (k, v) ∈ m') : getG lt eq none m k = getG lt eq none m' k := by
  by_cases hk : k ∈ m.map Prod.fst
  · obtain ⟨⟨k', v⟩, hp, rfl⟩ := List.mem_map.1 hk
    rw [get_mem O he hr hp, get_mem O he hr' ((h v).1 hp)]
  · have hk' : k ∉ m'.map Prod.fst := fun hc => by
      obtain ⟨⟨k', v⟩, hp, rfl⟩ := List.mem_map.1 hc
      exact hk (List.mem_map.2 ⟨_, (h v).2 hp, rfl⟩)
    rw [q3v O he hr hk, q3v O he hr' hk']
end
theorem settle_other {m : Bk} (hr : q16 m) {u k : ByteArray} (hne : ¬ k = u) (l : List Ses) (now : Int) : wasOf (q1g m u l now) k = wasOf m k := by
  have hs := (q54 hr u l now).1
  have : getG ltS eqS nilEn (q1g m u l now) k = getG ltS eqS nilEn m k := by
    refine get_same ordS q0u hs hr nilEn fun v => ?_
    unfold q1g
    split
    · rw [q3r ordS q0u hr, List.mem_filter]
      have : eqS k u = false := by
        cases hc : eqS k u with
        | false => rfl
        | true => exact absurd ((q0u _ _).1 hc) hne
      simp [this]
    · rw [mem_with ordS q0u hr]
      constructor
      · rintro (h | h)
        · exact absurd (Prod.mk.inj h).1 hne
        · exact h.1
      · exact fun h => .inr ⟨h, hne⟩
  rw [wasOf, this, wasOf]
structure Tells (now : Int) (B : Bk) (xs : List Chg) (B' : Bk) : Prop where
  apart : xs.Pairwise fun a b => a.u ≠ b.u
  each : ∀ c ∈ xs, c.old = (wasOf B c.u).t ∧ c.new = (wasOf B' c.u).t ∧ c.old ≠ c.new
  rest : ∀ u, (∀ c ∈ xs, c.u ≠ u) → (wasOf B' u).t = (wasOf B u).t
end Go.Proofs.YtdkcpcflfnakdaaGreat
namespace Go.Proofs.YtdkcpcflfnakdaaGreat
open Go Go.Proofs.YtdkcpcflfnakdaaGreat.Sym
set_option maxRecDepth 100000
set_option maxHeartbeats 1000000
set_option maxHeartbeats 2000000
def storN (n : Nat) (M : Md) (i : Nat) : Nat := ((List.range i).map fun j => sumL (M.b j)).sum
theorem storN_next (n : Nat) (M : Md) (i : Nat) : storN n M (i + 1) = storN n M i + sumL (M.b i) := by
  simp [storN, List.range_succ]
theorem sum_bd {m : Bk} (h : q2i 200 m) : sumL m ≤ 40000 := by
  have h1 := sum_le h m.length
  rw [List.take_length] at h1
  have h2 := h.2.1
  have : 200 * m.length ≤ 200 * 200 := Nat.mul_le_mul_left _ (by omega)
  omega
theorem storN_le {n : Nat} {M : Md} (h : ∀ j, q2i 200 (M.b j)) : ∀ i, storN n M i ≤ 40000 * i
  | 0 => by simp [storN]
  | i + 1 => by
    have h1 := storN_le (n := n) h i
    have h2 := sum_bd (h i)
    rw [storN_next]; omega
theorem q5d {n pad B : Nat} {M : Md} (h : MOk n B M) (hB : B ≤ 200) : ACall P 31 (modM n pad M) [.ptr 0 0] (fun x m' => x = i64 (storN n M n : Nat) ∧ m' = modM n pad M) := by
  have hb : ∀ j, q2i 200 (M.b j) := fun j => (h.b j).mono hB
  have hn8 := h.n8
  refine q2q tyOk Tryz.func31 rfl rfl ?_
  intro K hK
  rw [q0c] at hK ⊢
  simp only [Tryz.ntmps31, List.length_cons, List.length_nil, Nat.reduceAdd, Nat.reduceSub, List.replicate, List.cons_append, List.nil_append]
  try simp only [seval, go_sem, Nat.add_assoc, AB.calm, kpX, kpM, Nat.one_ne_zero]
  refine q12 tyOk (α := Nat) (mlen n) [0, 3, 9, 10, 11] (fun i => i ≤ n)
    (fun i => ⟨[.ptr 0 0, .any, .any, i64 (storN n M i : Nat), .any, .any, .any, .any, .any, .own 1 2 0 n, i64 n, i64 i, .any, .any, .any, .any, .any, .any, .any, .any, .any], modM n pad M⟩)
    (fun i => n - i) 0 (by simp) (Nat.zero_le _) ?_ ?_
  · simp only [St.trunc, St.keep, q00, q01, keepV, ml_n0, ml_n1, q36, List.elem_cons, List.elem_nil, Nat.reduceAdd, Nat.reduceBEq, Nat.zero_add, Bool.false_eq_true, ↓reduceIte]
    rfl
  intro i hi
  try simp only [seval, go_sem, Nat.add_assoc, AB.calm, kpX, kpM, Nat.one_ne_zero]
  (first | refine q05 ?_ ?_ | refine q08 ?_ ?_ | refine q09 ?_ ?_ | refine q07 ?_ ?_ | refine q06 ?_ ?_) <;> intro hf
  · have hlt : i < n := by simpa using hf
    have eb := bk_at M.b hlt
    have ew : IntKind.i64.wrap ((i : Int) + 1) = ((i + 1 : Nat) : Int) := by rw [wrap_i64 (by omega) (by omega)]; rfl
    have hS := stored_call (M.b i) (hb i)
    unfold q0n at hS
    have hs := storN_le (n := n) hb i
    have hs2 := sum_bd (hb i)
    have hs3 := storN_next n M i
    have ew2 : IntKind.i64.wrap (((storN n M i : Nat) : Int) + ((sumL (M.b i) : Nat) : Int)) = ((storN n M (i + 1) : Nat) : Int) := by
      rw [hs3, wrap_i64 (by omega) (by omega)]; rfl
    have b1 : (0 : Int) ≤ (i : Int) ∧ Int.toNat (i : Int) < n := by omega
    try simp only [seval, go_sem, Nat.add_assoc, AB.calm, kpX, kpM, Nat.one_ne_zero, eb, b1, q3p]
    (refine q02 hS rfl ?_; rintro _ rfl)
    try simp only [seval, go_sem, Nat.add_assoc, AB.calm, kpX, kpM, Nat.one_ne_zero, ew, ew2]
    simp only [q0f, St.trunc, St.keep, q00, q01, keepV, ml_n0, ml_n1, q23, List.drop_zero, List.elem_cons, List.elem_nil, Nat.reduceAdd, Nat.reduceBEq, Nat.le_refl, Nat.zero_add, Bool.false_eq_true, ↓reduceIte]
    exact ⟨i + 1, hlt, by omega, rfl⟩
  · obtain rfl : i = n := by have := of_decide_eq_false hf; omega
    try simp only [seval, go_sem, Nat.add_assoc, AB.calm, kpX, kpM, Nat.one_ne_zero]
    apply hK
    simp only [Tryz.results31, retK, ares, Bool.and_true, Bool.true_and, AV.ofResults, St.trunc, q00, q01, List.getD_cons_zero, List.getD_cons_succ, true_and, and_true, List.cons.injEq, exists_eq_left']
    simp only [q36]
    try rfl
end Go.Proofs.YtdkcpcflfnakdaaGreat
namespace Go.Proofs.YtdkcpcflfnakdaaGreat
open Go Go.Proofs.YtdkcpcflfnakdaaGreat.Sym
set_option maxRecDepth 100000
set_option maxHeartbeats 1000000
set_option maxHeartbeats 2000000
theorem prs_len (l : List Pr) : (prs l).length = l.length := by simp [prs]
theorem take_pr {a b : List Pr} {i : Nat} (h1 : i < a.length) (h2 : i < b.length) : (a.take (i + 1) = b.take (i + 1)) ↔ (a.take i = b.take i ∧ a[i] = b[i]) := by
  rw [q1f h1, q1f h2]
  constructor
  · intro h
    obtain ⟨p, q⟩ := List.append_inj' h rfl
    exact ⟨p, by simpa using q⟩
  · rintro ⟨p, q⟩; rw [p, q]
def sameR (a b : Rp) : Bool := decide (a.err = b.err) && (decide (a.lost = b.lost) && (decide (a.vals.getD [] = b.vals.getD []) && decide (a.evs.getD [] = b.evs.getD [])))
theorem sameR_refl (a : Rp) : sameR a a = true := by simp [sameR]
theorem rp_weak (a : Rp) : weak a.av (.agg [i64 a.err, .sl 3 (prs (a.vals.getD [])), .sl 8 (evts (a.evs.getD [])), bool a.lost]) := by
  cases a with
  | mk e v ev l => cases v <;> cases ev
                   · exact .inr ⟨_, rfl, _, _, rfl, q0s _, _, _, rfl, q3y 3, _, _, rfl, q3y 8, _, _, rfl, q0s _, rfl⟩
                   · exact .inr ⟨_, rfl, _, _, rfl, q0s _, _, _, rfl, q3y 3, _, _, rfl, q0s _, _, _, rfl, q0s _, rfl⟩
                   · exact .inr ⟨_, rfl, _, _, rfl, q0s _, _, _, rfl, q0s _, _, _, rfl, q3y 8, _, _, rfl, q0s _, rfl⟩
                   · exact .inr ⟨_, rfl, _, _, rfl, q0s _, _, _, rfl, q0s _, _, _, rfl, q0s _, _, _, rfl, q0s _, rfl⟩
theorem ref10_Same0 (e1 e2 : Int) (v1 v2 : List Pr) (w1 w2 : List Ev) (l1 l2 : Bool) (h1 : v1.length ≤ 100000) (h2 : v2.length ≤ 100000) (h3 : w1.length ≤ 100000) (h4 : w2.length ≤ 100000) :
    PCall P 29 [.agg [i64 e1, .sl 3 (prs v1), .sl 8 (evts w1), bool l1], .agg [i64 e2, .sl 3 (prs v2), .sl 8 (evts w2), bool l2]] (fun x => x = bool (sameR ⟨e1, some v1, some w1, l1⟩ ⟨e2, some v2, some w2, l2⟩)) := by
  have hE := ref09_Same w1 w2 h3 h4
  refine q0d tyOk Tryz.func29 rfl rfl ?_
  intro K hK
  simp only [Tryz.ntmps29, List.length_cons, List.length_nil, Nat.reduceAdd, Nat.reduceSub, List.replicate, List.cons_append, List.nil_append]
  unfold sameR at hK
  simp only [Option.getD_some] at hK
  have cE : (e1 == e2) = decide (e1 = e2) := rfl
  have cl : (l1 == l2) = decide (l1 = l2) := rfl
  have nE : (e1 != e2) = !decide (e1 = e2) := rfl
  have nl : (l1 != l2) = !decide (l1 = l2) := by cases l1 <;> cases l2 <;> rfl
  by_cases c1 : e1 = e2
  · rw [decide_eq_true c1] at hK nE
    by_cases c2 : l1 = l2
    · rw [decide_eq_true c2] at hK nl
      by_cases c3 : v1.length = v2.length
      · have n3 : ((v1.length : Int) != (v2.length : Int)) = false := by rw [c3]; simp
        try simp only [seval, go_sem, nE, nl, prs_len, n3]
        (refine q02 hE rfl ?_; rintro _ rfl)
        by_cases c4 : w1 = w2
        · rw [decide_eq_true c4] at hK ⊢
          try simp only [seval, go_sem]
          refine q12 tyOk (α := Nat) 2 [2, 3, 5] (fun i => i ≤ v1.length ∧ v1.take i = v2.take i)
            (fun i => ⟨[.any, .any, .ptr 0 0, .ptr 1 0, .any, i64 i, .any, .any, .any, .any, .any, .any, .any, .any, .any, .any, .any, .any, .any, .any, .any, .any, .any, .any, .any, .any, .any, .any, .any, .any, .any, .any, .any, .any, .any, .any, .any, .any, .any, .any, .any, .any, .any, .any, .any, .any, .any, .any, .any, .any, .any, .any, .any], [.box [i64 e1, .sl 3 (prs v1), .sl 8 (evts w1), bool l1], .box [i64 e2, .sl 3 (prs v2), .sl 8 (evts w2), bool l2]]⟩)
            (fun i => v1.length - i) 0 (by simp) ⟨Nat.zero_le _, rfl⟩ rfl ?_
          rintro i ⟨hi, he⟩
          try simp only [seval, go_sem, prs_len]
          (first | refine q05 ?_ ?_ | refine q08 ?_ ?_ | refine q09 ?_ ?_ | refine q07 ?_ ?_ | refine q06 ?_ ?_) <;> intro h <;> try simp only [seval, go_sem]
          · have hlt : i < v1.length := by have := of_decide_eq_true h; omega
            have hlt2 : i < v2.length := by omega
            have eg : (prs v1).getD (Int.toNat (i : Int)) .any = .agg [i64 v1[i].st, i64 v1[i].pr, i64 v1[i].n] := q2e (f := Pr.av) hlt
            have eg2 : (prs v2).getD (Int.toNat (i : Int)) .any = .agg [i64 v2[i].st, i64 v2[i].pr, i64 v2[i].n] := q2e (f := Pr.av) hlt2
            have ew : IntKind.i64.wrap ((i : Int) + 1) = ((i + 1 : Nat) : Int) := by rw [wrap_i64 (by omega) (by omega)]; rfl
            have c1' : (0 : Int) ≤ (i : Int) ∧ Int.toNat (i : Int) < v1.length := by omega
            have c2' : (0 : Int) ≤ (i : Int) ∧ Int.toNat (i : Int) < v2.length := by omega
            have hte := take_pr hlt hlt2
            generalize v1[i] = e at *
            generalize v2[i] = f at *
            refine q0k tyOk (by rfl) (by simp only [List.length_cons, List.length_nil, Nat.reduceAdd, Nat.zero_le]) (by kernel_rfl) rfl ?_
            try simp only [seval, go_sem, eg, eg2, c1', c2', prs_len]
            refine ⟨by kernel_rfl, ?_⟩
            try simp only [seval, go_sem, pr_beq]
            (first | refine q05 ?_ ?_ | refine q08 ?_ ?_ | refine q09 ?_ ?_ | refine q07 ?_ ?_ | refine q06 ?_ ?_) <;> intro h2
            · try simp only [seval, go_sem]
              apply hK
              simp only [Tryz.results29, retK, ares, Bool.and_true, Bool.true_and, AV.ofResults, St.trunc, q00, q01, List.getD_cons_zero, List.getD_cons_succ, List.take_zero, List.map_nil, true_and, and_true, List.cons.injEq, exists_eq_left']
              have : decide (v1 = v2) = false := by
                rw [decide_eq_false_iff_not]; intro hv
                have := (hte.1 (by rw [hv])).2
                rw [this] at h2; simp at h2
              rw [this]
            · try simp only [seval, go_sem, ew]
              simp only [q0f, St.trunc, St.keep, q00, q01, AB.trunc, keepV, List.elem_cons, List.elem_nil, List.take_succ_cons, List.take_zero, List.map_cons, List.map_nil, Nat.reduceAdd, Nat.reduceBEq, Nat.reduceLeDiff, Nat.zero_add, Bool.false_eq_true, ↓reduceIte]
              exact ⟨i + 1, ⟨hlt, hte.2 ⟨he, by simpa using h2⟩⟩, by omega, rfl⟩
          · obtain rfl : i = v1.length := by have := of_decide_eq_false h; omega
            apply hK
            simp only [Tryz.results29, retK, ares, Bool.and_true, Bool.true_and, AV.ofResults, St.trunc, q00, q01, List.getD_cons_zero, List.getD_cons_succ, List.take_zero, List.map_nil, true_and, and_true, List.cons.injEq, exists_eq_left']
            rw [List.take_length, c3, List.take_length] at he
            rw [decide_eq_true he]
        · rw [decide_eq_false c4] at hK ⊢
          try simp only [seval, go_sem]
          apply hK
          simp only [Tryz.results29, retK, ares, Bool.and_true, Bool.true_and, AV.ofResults, St.trunc, q00, q01, List.getD_cons_zero, List.getD_cons_succ, List.take_zero, List.map_nil, true_and, and_true, List.cons.injEq, exists_eq_left']
          simp
      · have n3 : ((v1.length : Int) != (v2.length : Int)) = true := by rw [bne_iff_ne]; omega
        try simp only [seval, go_sem, nE, nl, prs_len, n3]
        apply hK
        simp only [Tryz.results29, retK, ares, Bool.and_true, Bool.true_and, AV.ofResults, St.trunc, q00, q01, List.getD_cons_zero, List.getD_cons_succ, List.take_zero, List.map_nil, true_and, and_true, List.cons.injEq, exists_eq_left']
        have : ¬ v1 = v2 := fun h => c3 (by rw [h])
        simp [this]
    · rw [decide_eq_false c2] at hK nl
      try simp only [seval, go_sem, nE, nl, prs_len]
      apply hK
      simp only [Tryz.results29, retK, ares, Bool.and_true, Bool.true_and, AV.ofResults, St.trunc, q00, q01, List.getD_cons_zero, List.getD_cons_succ, List.take_zero, List.map_nil, true_and, and_true, List.cons.injEq, exists_eq_left']
      simp
  · rw [decide_eq_false c1] at hK nE
    try simp only [seval, go_sem, nE, prs_len]
    apply hK
    simp only [Tryz.results29, retK, ares, Bool.and_true, Bool.true_and, AV.ofResults, St.trunc, q00, q01, List.getD_cons_zero, List.getD_cons_succ, List.take_zero, List.map_nil, true_and, and_true, List.cons.injEq, exists_eq_left']
    simp
end Go.Proofs.YtdkcpcflfnakdaaGreat
