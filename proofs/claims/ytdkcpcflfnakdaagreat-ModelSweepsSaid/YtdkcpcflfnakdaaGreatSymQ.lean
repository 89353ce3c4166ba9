/- A text of the walk that proves a law of this seat; joined by a program. -/
import Derived.Test.YtdkcpcflfnakdaaGreatSymP
set_option linter.unusedSimpArgs false
set_option linter.unusedVariables false
namespace Go.Proofs.YtdkcpcflfnakdaaGreat.Sym
open Go Go.RowKit
variable {L : Nat} {Hd : Nat → Prop}
mutual
def AV.full : AV → Bool
  | .agg xs => q2m xs
  | .tup xs => q2m xs
  | .fn _ caps => q2m caps
  | .any => false
  | _ => true
def q2m : List AV → Bool
  | [] => true
  | x :: xs => x.full && q2m xs
end
mutual
def noRef (b : Nat) : AV → Bool
  | .agg xs => noRefs b xs
  | .tup xs => noRefs b xs
  | .own b' _ _ _ => b' != b
  | .ptr b' _ => b' != b
  | .ep b' _ _ _ => b' != b
  | .fn _ caps => noRefs b caps
  | _ => true
def noRefs (b : Nat) : List AV → Bool
  | [] => true
  | x :: xs => noRef b x && noRefs b xs
end
mutual
theorem killV_full {b : Nat} : ∀ (x : AV), (killV b x).full = true → killV b x = x
  | .v _, _ => rfl
  | .agg xs, h => by simp only [killV] at h ⊢; rw [q50 xs h]
  | .tup xs, h => by simp only [killV] at h ⊢; rw [q50 xs h]
  | .sl _ _, _ => rfl
  | .rp _, _ => rfl
  | .own b' _ _ _, h => by
    simp only [killV] at h ⊢
    split at h
    · cases h
    · rename_i c; rw [if_neg c]
  | .ptr b' _, h => by
    simp only [killV] at h ⊢
    split at h
    · cases h
    · rename_i c; rw [if_neg c]
  | .ep b' _ _ _, h => by
    simp only [killV] at h ⊢
    split at h
    · cases h
    · rename_i c; rw [if_neg c]
  | .fn f caps, h => by simp only [killV] at h ⊢; rw [q50 caps h]
  | .any, _ => rfl
theorem q50 {b : Nat} : ∀ (xs : List AV), q2m (q17 b xs) = true → q17 b xs = xs
  | [], _ => rfl
  | x :: xs, h => by
    simp only [q17, q2m, Bool.and_eq_true] at h ⊢
    rw [killV_full x h.1, q50 xs h.2]
end
mutual
theorem q4u {b : Nat} : ∀ (x : AV), noRef b x = true → killV b x = x
  | .v _, _ => rfl
  | .agg xs, h => by simp only [killV]; rw [q42 xs h]
  | .tup xs, h => by simp only [killV]; rw [q42 xs h]
  | .sl _ _, _ => rfl
  | .rp _, _ => rfl
  | .own b' _ _ _, h => by
    have hne : b' ≠ b := by simpa [noRef] using h
    simp only [killV]; rw [if_neg hne]
  | .ptr b' _, h => by
    have hne : b' ≠ b := by simpa [noRef] using h
    simp only [killV]; rw [if_neg hne]
  | .ep b' _ _ _, h => by
    have hne : b' ≠ b := by simpa [noRef] using h
    simp only [killV]; rw [if_neg hne]
  | .fn f caps, h => by simp only [killV]; rw [q42 caps h]
  | .any, _ => rfl
theorem q42 {b : Nat} : ∀ (xs : List AV), noRefs b xs = true → q17 b xs = xs
  | [], _ => rfl
  | x :: xs, h => by
    simp only [noRefs, Bool.and_eq_true] at h
    simp only [q17]
    rw [q4u x h.1, q42 xs h.2]
end
mutual
theorem killV_comm {b c : Nat} : ∀ (x : AV), killV b (killV c x) = killV c (killV b x)
  | .v _ => rfl
  | .agg xs => by simp only [killV]; rw [q46 xs]
  | .tup xs => by simp only [killV]; rw [q46 xs]
  | .sl _ _ => rfl
  | .rp _ => rfl
  | .own b' sz o l => by
    by_cases h1 : b' = b <;> by_cases h2 : b' = c <;> simp [killV, h1, h2]
    all_goals (try (split <;> simp_all [killV]))
  | .ptr b' o => by
    by_cases h1 : b' = b <;> by_cases h2 : b' = c <;> simp [killV, h1, h2]
    all_goals (try (split <;> simp_all [killV]))
  | .ep b' sz i o => by
    by_cases h1 : b' = b <;> by_cases h2 : b' = c <;> simp [killV, h1, h2]
    all_goals (try (split <;> simp_all [killV]))
  | .fn f caps => by simp only [killV]; rw [q46 caps]
  | .any => rfl
theorem q46 {b c : Nat} : ∀ (xs : List AV), q17 b (q17 c xs) = q17 c (q17 b xs)
  | [] => rfl
  | x :: xs => by simp only [q17]; rw [killV_comm x, q46 xs]
end
theorem killVs_getD {b : Nat} : ∀ (l : List AV) (i : Nat), (q17 b l).getD i .any = killV b (l.getD i .any)
  | [], i => rfl
  | x :: xs, 0 => rfl
  | x :: xs, i + 1 => by simpa [q17] using killVs_getD xs i
theorem killVs_set {b : Nat} : ∀ (l : List AV) (i : Nat) (x : AV), q17 b (l.set i x) = (q17 b l).set i (killV b x)
  | [], i, x => rfl
  | y :: ys, 0, x => rfl
  | y :: ys, i + 1, x => by simp only [List.set, q17, killVs_set ys i x]
def AB.full : AB → Bool
  | .box cs => q2m cs
  | _ => true
def AB.noRef (b : Nat) : AB → Bool
  | .box cs => noRefs b cs
  | _ => true
theorem abKill_full {b : Nat} {blk : AB} (h : (AB.kill b blk).full = true) : AB.kill b blk = blk := by
  cases blk with
  | box cs => simp only [AB.kill, AB.full] at h ⊢; rw [q50 cs h]
  | _ => rfl
theorem abKill_noRef {b : Nat} {blk : AB} (h : blk.noRef b = true) : AB.kill b blk = blk := by
  cases blk with
  | box cs => simp only [AB.kill]; rw [q42 cs h]
  | _ => rfl
theorem abKill_comm {b c : Nat} {blk : AB} : AB.kill b (AB.kill c blk) = AB.kill c (AB.kill b blk) := by
  cases blk with
  | box cs => simp only [AB.kill]; rw [q46]
  | _ => rfl
structure Ent where
  i : Nat
  rd : List AV
  acc : List Nat
  accB : List (Option AB)
  x : AV
  wr : Wr
def Asks (P : Program) (L nid : Nat) (nw : Bool) (g : FuncId) (m : List AB) (argv : List AV) (x : AV) (wr : Wr) : Prop :=
  (wr = none ∧ q0r argv = true ∧ PCall P g argv (fun y => y = x)) ∨ (wr = none ∧ x.plain = true ∧ PCall P g (q00 m 0 argv) (fun y => y = x)) ∨
  (∃ b args0 blk0 blk1 x0, wr = some (b, AB.ren [b] blk1, false) ∧ x = ren [b] x0 ∧ b ∈ q03 argv ∧ argv = q0e [b] args0 ∧ m[b]? = some (AB.ren [b] blk0) ∧ (q03 args0).all (fun b => decide (b < 1)) = true ∧ AB.inR 1 blk0 = true ∧
    ACall P g [blk0] args0 (fun y m' => y = x0 ∧ m' = [blk1])) ∨
  (∃ b t sz xs ys args0 x0, wr = some (b, .row t sz ys, true) ∧ x = ren [b] x0 ∧ b ∈ q03 argv ∧ L ≤ b ∧ argv = q0e [b] args0 ∧ m[b]? = some (.row t sz xs) ∧ (q03 args0).all (fun b => decide (b < 1)) = true ∧
    q0j P (fun _ => false) g [.row t sz xs] args0 (fun y m' => y = x0 ∧ m' = [.row t sz ys])) ∨
  (nw = true ∧ ∃ blk x0, wr = some (nid, AB.ren [nid] blk, true) ∧ x = ren [nid] x0 ∧ q0r argv = true ∧ ACall P g [] argv (fun y m' => y = x0 ∧ m' = [blk])) ∨
  (wideF g = true ∧ wr = none ∧ ACall P g m argv (fun y m' => y = x ∧ m' = m))
def Act1 (P : Program) (T : TypeId → Option TI) (L nid : Nat) (o : Op) (s : St) (x : AV) (wr : Wr) : Prop :=
  (q13 o = none ∧ ∃ C, dstep P T L nid o s = some (C, x, wr) ∧ C) ∨
  (∃ f args g caps, q13 o = some (f, args) ∧ s.ev f = .fn g caps ∧ Asks P L nid (isNew o) g s.mem (evs s args.toList ++ caps) x wr)
def Ex (P : Program) (T : TypeId → Option TI) (L : Nat) (ops : Array Oper) (nids : Nat → Nat) (e : Ent) (s : St) : Prop :=
  ∃ o, ops[e.i]? = some o ∧ e.acc = accOf o.op s ∧ e.rd = (o.looksAt ops).map (fun t => s.tmps.getD t .any) ∧ e.accB = e.acc.map (fun b => s.mem[b]?) ∧
    (match o.guard with
     | none => Act1 P T L (nids e.i) o.op s e.x e.wr
     | some (j, want) => ∃ g, (ops[j]?).bind (·.dst) = some g ∧ ((∃ c, s.tmps.getD g .any = .v (.bool c) ∧ (c = want → Act1 P T L (nids e.i) o.op s e.x e.wr) ∧ (c ≠ want → e.x = .v undef ∧ e.wr = none)) ∨
         (∃ t, s.tmps.getD g .any = .v (.tuple t) ∧ e.x = .v undef ∧ e.wr = none)))
def dstOf (ops : Array Oper) (i : Nat) : Option Tmp := (ops[i]?).bind (·.dst)
def post (ops : Array Oper) (e : Ent) (s : St) : St := (s.app e.wr).put (dstOf ops e.i) e.x
def accFull (bs : List (Option AB)) : Bool := bs.all fun | some blk => blk.full | none => true
def accNoRef (b : Nat) (bs : List (Option AB)) : Bool := bs.all fun | some blk => blk.noRef b | none => true
def indepWr (e1 e2 : Ent) : Bool :=
  (match e1.wr with
   | none => true
   | some (b, blk, k) => !e2.acc.contains b && (!k || (q2m e2.rd && accFull e2.accB && noRef b e2.x)) &&
      (match e2.wr with | none => true | some (b', blk', _) => b' != b && (!k || blk'.noRef b))) &&
  (match e2.wr with
   | none => true
   | some (b, blk, k) => !e1.acc.contains b && (!k || (noRefs b e1.rd && accNoRef b e1.accB && noRef b e1.x)) &&
      (match e1.wr with | none => true | some (b', blk', _) => b' != b && (!k || blk'.noRef b)))
def apartOf (ops : Array Oper) (i j : Nat) : Bool :=
  match ops[i]?, ops[j]? with
  | some x, some y => x.apart ops y
  | _, _ => false
theorem evs_of_tmps {o : Op} {ops : Array Oper} {d : Option Tmp} {ty : TypeId} {s s2 : St} {os : Oper} (hos : os.op = o) (h : ∀ t ∈ os.looksAt ops, s2.tmps.getD t .any = s.tmps.getD t .any) : ∀ y ∈ o.operands.toList, s2.ev y = s.ev y := by
  intro y hy
  cases y with
  | tmp t =>
    refine h t ?_
    unfold Oper.looksAt
    exact List.mem_append_left _ (List.mem_filterMap.2 ⟨.tmp t, by rw [hos]; exact hy, rfl⟩)
  | const v => rfl
  | global g => rfl
  | func f => rfl
theorem q41 : ∀ xs ys : List AV, q03 (xs ++ ys) = q03 xs ++ q03 ys
  | [], ys => rfl
  | x :: xs, ys => by simp only [List.cons_append, q03, q41 xs ys, List.append_assoc]
theorem Act1.local {P : Program} {T : TypeId → Option TI} {nid : Nat} {o : Op} {s s2 : St} {x : AV} {wr : Wr} (h : ∀ y ∈ o.operands.toList, s2.ev y = s.ev y) (hm : ∀ b ∈ accOf o s, s2.mem[b]? = s.mem[b]?)
    (e : Act1 P T L nid o s x wr) : Act1 P T L nid o s2 x wr := by
  rcases e with ⟨hc, C, h1, h2⟩ | ⟨f, args, g, caps, hc, hf, hcall⟩
  · exact .inl ⟨hc, C, dstep_local h hm h1, h2⟩
  · unfold q13 at hc
    split at hc <;> try (cases hc; done)
    cases hc
    have hf' := h f (by simp [Op.operands, Call.operands])
    have ha : evs s2 args.toList = evs s args.toList := q4g (fun y hy => h y (by simp [Op.operands, Call.operands]; exact .inr (by simpa using hy)))
    have hm' : ∀ b ∈ q03 (evs s args.toList ++ caps), s2.mem[b]? = s.mem[b]? := by
      intro b hb
      refine hm b ?_
      simp only [accOf, hf, bks]
      rw [q41, List.mem_append] at hb
      rw [List.mem_append, List.mem_append]
      exact .inl hb.symm
    refine .inr ⟨f, args, g, caps, rfl, by rw [hf', hf], ?_⟩
    rw [ha]
    unfold Asks at hcall ⊢
    rw [q44 _ hm']
    rcases hcall with h | h | ⟨b, args0, blk0, blk1, x0, h1, h2, h3, h4, h5, h6⟩ | ⟨b, t, sz, xs, ys, args0, x0, h1, h2, h3, h4, h5, h6, h7⟩ | h | ⟨hw, hwr, h⟩
    · exact .inl h
    · exact .inr (.inl h)
    · exact .inr (.inr (.inl ⟨b, args0, blk0, blk1, x0, h1, h2, h3, h4, by rw [hm' b h3]; exact h5, h6⟩))
    · exact .inr (.inr (.inr (.inl ⟨b, t, sz, xs, ys, args0, x0, h1, h2, h3, h4, h5, by rw [hm' b h3]; exact h6, h7⟩)))
    · exact .inr (.inr (.inr (.inr (.inl h))))
    · have : s2.mem = s.mem := mem_of_range fun b hb => hm b (by simp only [accOf, hf]; exact List.mem_append_right _ (by unfold wideAcc; simp only; rw [if_pos hw]; exact hb))
      exact .inr (.inr (.inr (.inr (.inr ⟨hw, hwr, by rw [this]; exact h⟩))))
theorem Ex.local {P : Program} {T : TypeId → Option TI} {ops : Array Oper} {nids : Nat → Nat} {e : Ent} {s s2 : St} (h : Ex P T L ops nids e s)
    (ht : ∀ o, ops[e.i]? = some o → ∀ t ∈ o.looksAt ops, s2.tmps.getD t .any = s.tmps.getD t .any) (hm : ∀ b ∈ e.acc, s2.mem[b]? = s.mem[b]?) : Ex P T L ops nids e s2 := by
  obtain ⟨o, ho, h1, h2, h3, h4⟩ := h
  have hev : ∀ y ∈ o.op.operands.toList, s2.ev y = s.ev y := evs_of_tmps (d := none) (ty := 0) rfl (ht o ho)
  have hacc : accOf o.op s2 = accOf o.op s := accOf_local hev (by rw [← h1]; exact hm)
  refine ⟨o, ho, by rw [hacc]; exact h1, by rw [h2]; exact List.map_congr_left (fun t htm => (ht o ho t htm).symm), by rw [h3]; exact List.map_congr_left (fun b hb => (hm b hb).symm), ?_⟩
  rw [h1] at hm
  split
  · rename_i hg
    rw [hg] at h4
    exact h4.local hev hm
  · rename_i j want hg
    rw [hg] at h4
    obtain ⟨g, k1, h4⟩ := h4
    have hgl : g ∈ o.looksAt ops := by
      unfold Oper.looksAt
      refine List.mem_append_right _ ?_
      rw [hg]
      simp [k1]
    refine ⟨g, k1, ?_⟩
    rcases h4 with ⟨c, k2, k3, k4⟩ | ⟨t, k2, k3⟩
    · exact .inl ⟨c, by rw [ht o ho g hgl]; exact k2, fun hc => (k3 hc).local hev hm, k4⟩
    · exact .inr ⟨t, by rw [ht o ho g hgl]; exact k2, k3⟩
theorem app_length (s : St) (wr : Wr) : (s.app wr).mem.length = s.mem.length := by
  cases wr with
  | none => rfl
  | some w =>
    obtain ⟨b, blk, k⟩ := w
    cases k <;> simp [St.app, St.rehome]
end Go.Proofs.YtdkcpcflfnakdaaGreat.Sym
