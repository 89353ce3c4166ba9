/- A text of the walk that proves a law of this seat; joined by a program. -/
import Derived.Test.YtdkcpcflfnakdaaGreatSymP
set_option linter.unusedSimpArgs false
set_option linter.unusedVariables false
namespace Go.Proofs.YtdkcpcflfnakdaaGreat.Sym
open Go Go.RowKit
variable {L : Nat} {Hd : Nat → Prop}
variable {b c : Nat} {blk : AB} {s s2 : St}
mutual
def AV.full : AV → Bool
 | .agg xs => q4a xs
 | .tup xs => q4a xs
 | .fn _ caps => q4a caps
 | .any => false
 | _ => true
def q4a : List AV → Bool
 | [] => true
 | x :: xs => x.full && q4a xs
end
mutual
def noRef (b : Nat) : AV → Bool
 | .agg xs => q57 b xs
 | .tup xs => q57 b xs
 | .own b' _ _ _ => b' != b
 | .ptr b' _ => b' != b
 | .ep b' _ _ _ => b' != b
 | .fn _ caps => q57 b caps
 | _ => true
def q57 (b : Nat) : List AV → Bool
 | [] => true
 | x :: xs => noRef b x && q57 b xs
end
mutual
theorem ql7 : ∀ (x : AV), (q0w b x).full = true → q0w b x = x
 | .v _, _ => rfl
 | .agg xs, h => by simp only [q0w] at h ⊢; rw [q7m xs h]
 | .tup xs, h => by simp only [q0w] at h ⊢; rw [q7m xs h]
 | .sl _ _, _ => rfl
 | .rp _, _ => rfl
 | .own b' _ _ _, h => by
  simp only [q0w] at h ⊢
  split at h
  · cases h
  · rename_i c; rw [if_neg c]
 | .ptr b' _, h => by
  simp only [q0w] at h ⊢
  split at h
  · cases h
  · rename_i c; rw [if_neg c]
 | .ep b' _ _ _, h => by
  simp only [q0w] at h ⊢
  split at h
  · cases h
  · rename_i c; rw [if_neg c]
 | .fn f caps, h => by simp only [q0w] at h ⊢; rw [q7m caps h]
 | .any, _ => rfl
theorem q7m : ∀ (xs : List AV), q4a (q1d b xs) = true → q1d b xs = xs
 | [], _ => rfl
 | x :: xs, h => by
  simp only [q1d, q4a, z0d] at h ⊢
  rw [ql7 x h.1, q7m xs h.2]
end
mutual
theorem qak : ∀ (x : AV), noRef b x = true → q0w b x = x
 | .v _, _ => rfl
 | .agg xs, h => by simp only [q0w]; rw [q61 xs h]
 | .tup xs, h => by simp only [q0w]; rw [q61 xs h]
 | .sl _ _, _ => rfl
 | .rp _, _ => rfl
 | .own b' _ _ _, h => by
  have hne : b' ≠ b := by simpa [noRef] using h
  simp only [q0w]; rw [if_neg hne]
 | .ptr b' _, h => by
  have hne : b' ≠ b := by simpa [noRef] using h
  simp only [q0w]; rw [if_neg hne]
 | .ep b' _ _ _, h => by
  have hne : b' ≠ b := by simpa [noRef] using h
  simp only [q0w]; rw [if_neg hne]
 | .fn f caps, h => by simp only [q0w]; rw [q61 caps h]
 | .any, _ => rfl
theorem q61 : ∀ (xs : List AV), q57 b xs = true → q1d b xs = xs
 | [], _ => rfl
 | x :: xs, h => by
  simp only [q57, z0d] at h
  simp only [q1d]
  rw [qak x h.1, q61 xs h.2]
end
mutual
theorem qwc : ∀ (x : AV), q0w b (q0w c x) = q0w c (q0w b x)
 | .v _ => rfl
 | .agg xs => by simp only [q0w]; rw [q69 xs]
 | .tup xs => by simp only [q0w]; rw [q69 xs]
 | .sl _ _ => rfl
 | .rp _ => rfl
 | .own b' sz o l => by
  by_cases h1 : b' = b <;> by_cases h2 : b' = c <;> simp [q0w, h1, h2]
  all_goals (try (split <;> simp_all [q0w]))
 | .ptr b' o => by
  by_cases h1 : b' = b <;> by_cases h2 : b' = c <;> simp [q0w, h1, h2]
  all_goals (try (split <;> simp_all [q0w]))
 | .ep b' sz i o => by
  by_cases h1 : b' = b <;> by_cases h2 : b' = c <;> simp [q0w, h1, h2]
  all_goals (try (split <;> simp_all [q0w]))
 | .fn f caps => by simp only [q0w]; rw [q69 caps]
 | .any => rfl
theorem q69 : ∀ (xs : List AV), q1d b (q1d c xs) = q1d c (q1d b xs)
 | [] => rfl
 | x :: xs => by simp only [q1d]; rw [qwc x, q69 xs]
end
theorem qig : ∀ (l : List AV) (i : Nat), (q1d b l).getD i .any = q0w b (l.getD i .any)
 | [], i => rfl
 | x :: xs, 0 => rfl
 | x :: xs, i + 1 => by simpa [q1d] using qig xs i
theorem qlr : ∀ (l : List AV) (i : Nat) (x : AV), q1d b (l.set i x) = (q1d b l).set i (q0w b x)
 | [], i, x => rfl
 | y :: ys, 0, x => rfl
 | y :: ys, i + 1, x => by simp only [List.set, q1d, qlr ys i x]
def AB.full : AB → Bool
 | .box cs => q4a cs
 | _ => true
def AB.noRef (b : Nat) : AB → Bool
 | .box cs => q57 b cs
 | _ => true
theorem qrz (h : (AB.kill b blk).full = true) : AB.kill b blk = blk := by
 cases blk with
 | box cs => simp only [AB.kill, AB.full] at h ⊢; rw [q7m cs h]
 | _ => rfl
theorem qcg (h : blk.noRef b = true) : AB.kill b blk = blk := by
 cases blk with
 | box cs => simp only [AB.kill]; rw [q61 cs h]
 | _ => rfl
theorem qsb : AB.kill b (AB.kill c blk) = AB.kill c (AB.kill b blk) := by
 cases blk with
 | box cs => simp only [AB.kill]; rw [q69]
 | _ => rfl
structure Ent where
 i : Nat
 rd : List AV
 acc : List Nat
 accB : List (Option AB)
 x : AV
 wr : Wr
def Asks (P : Program) (L nid : Nat) (nw : Bool) (g : FuncId) (m : List AB) (argv : List AV) (x : AV) (wr : Wr) : Prop :=
 (wr = none ∧ q18 argv = true ∧ q08 P g argv (fun y => y = x)) ∨ (wr = none ∧ x.plain = true ∧ q08 P g (q06 m 0 argv) (fun y => y = x)) ∨
 (∃ b args0 blk0 blk1 x0, wr = some (b, AB.ren [b] blk1, false) ∧ x = ren [b] x0 ∧ b ∈ q03 argv ∧ argv = q0i [b] args0 ∧ m[b]? = some (AB.ren [b] blk0) ∧ (q03 args0).all (fun b => decide (b < 1)) = true ∧ AB.inR 1 blk0 = true ∧
  ACall P g [blk0] args0 (fun y m' => y = x0 ∧ m' = [blk1])) ∨
 (∃ b t sz xs ys args0 x0, wr = some (b, .row t sz ys, true) ∧ x = ren [b] x0 ∧ b ∈ q03 argv ∧ L ≤ b ∧ argv = q0i [b] args0 ∧ m[b]? = some (.row t sz xs) ∧ (q03 args0).all (fun b => decide (b < 1)) = true ∧
  q0r P (fun _ => false) g [.row t sz xs] args0 (fun y m' => y = x0 ∧ m' = [.row t sz ys])) ∨
 (nw = true ∧ ∃ blk x0, wr = some (nid, AB.ren [nid] blk, true) ∧ x = ren [nid] x0 ∧ q18 argv = true ∧ ACall P g [] argv (fun y m' => y = x0 ∧ m' = [blk])) ∨
 (wideF g = true ∧ wr = none ∧ ACall P g m argv (fun y m' => y = x ∧ m' = m))
def Act1 (P : Program) (T : TypeId → Option TI) (L nid : Nat) (o : Op) (s : St) (x : AV) (wr : Wr) : Prop :=
 (q1g o = none ∧ ∃ C, q8j P T L nid o s = some (C, x, wr) ∧ C) ∨
 (∃ f args g caps, q1g o = some (f, args) ∧ s.ev f = .fn g caps ∧ Asks P L nid (q4g o) g s.mem (evs s args.toList ++ caps) x wr)
def Ex (P : Program) (T : TypeId → Option TI) (L : Nat) (ops : Array Oper) (nids : Nat → Nat) (e : Ent) (s : St) : Prop :=
 ∃ o, ops[e.i]? = some o ∧ e.acc = q3t o.op s ∧ e.rd = (o.looksAt ops).map (fun t => s.tmps.getD t .any) ∧ e.accB = e.acc.map (fun b => s.mem[b]?) ∧
  (match o.guard with
   | none => Act1 P T L (nids e.i) o.op s e.x e.wr
   | some (j, want) => ∃ g, (ops[j]?).bind (·.dst) = some g ∧ ((∃ c, s.tmps.getD g .any = .v (.bool c) ∧ (c = want → Act1 P T L (nids e.i) o.op s e.x e.wr) ∧ (c ≠ want → e.x = .v undef ∧ e.wr = none)) ∨
    (∃ t, s.tmps.getD g .any = .v (.tuple t) ∧ e.x = .v undef ∧ e.wr = none)))
def q4f (ops : Array Oper) (i : Nat) : Option Tmp := (ops[i]?).bind (·.dst)
def post (ops : Array Oper) (e : Ent) (s : St) : St := (s.app e.wr).put (q4f ops e.i) e.x
def qe0 (bs : List (Option AB)) : Bool := bs.all fun | some blk => blk.full | none => true
def qjc (b : Nat) (bs : List (Option AB)) : Bool := bs.all fun | some blk => blk.noRef b | none => true
def q9s (e1 e2 : Ent) : Bool :=
 (match e1.wr with
  | none => true
  | some (b, blk, k) => !e2.acc.contains b && (!k || (q4a e2.rd && qe0 e2.accB && noRef b e2.x)) &&
   (match e2.wr with | none => true | some (b', blk', _) => b' != b && (!k || blk'.noRef b))) &&
 (match e2.wr with
  | none => true
  | some (b, blk, k) => !e1.acc.contains b && (!k || (q57 b e1.rd && qjc b e1.accB && noRef b e1.x)) &&
   (match e1.wr with | none => true | some (b', blk', _) => b' != b && (!k || blk'.noRef b)))
def q9v (ops : Array Oper) (i j : Nat) : Bool :=
 match ops[i]?, ops[j]? with
 | some x, some y => x.apart ops y
 | _, _ => false
theorem qsq {o : Op} {ops : Array Oper} {d : Option Tmp} {ty : TypeId} {os : Oper} (hos : os.op = o) (h : ∀ t ∈ os.looksAt ops, s2.tmps.getD t .any = s.tmps.getD t .any) : ∀ y ∈ o.operands.toList, s2.ev y = s.ev y := by
 intro y hy
 cases y with
 | tmp t =>
  refine h t ?_
  unfold Oper.looksAt
  exact List.mem_append_left _ (List.mem_filterMap.2 ⟨.tmp t, by rw [hos]; exact hy, rfl⟩)
 | const v => rfl
 | global g => rfl
 | func f => rfl
theorem q4j : ∀ xs ys : List AV, q03 (xs ++ ys) = q03 xs ++ q03 ys
 | [], ys => rfl
 | x :: xs, ys => by simp only [z1u, q03, q4j xs ys, z1r]
theorem Act1.local {P : Program} {T : TypeId → Option TI} {nid : Nat} {o : Op} {x : AV} {wr : Wr} (h : ∀ y ∈ o.operands.toList, s2.ev y = s.ev y) (hm : ∀ b ∈ q3t o s, s2.mem[b]? = s.mem[b]?) (e : Act1 P T L nid o s x wr) : Act1 P T L nid o s2 x wr := by
 rcases e with ⟨hc, C, h1, h2⟩ | ⟨f, args, g, caps, hc, hf, hcall⟩
 · exact .inl ⟨hc, C, qsx h hm h1, h2⟩
 · unfold q1g at hc
   split at hc <;> try (cases hc; done)
   cases hc
   have hf' := h f (by simp [Op.operands, Call.operands])
   have ha : evs s2 args.toList = evs s args.toList := q8d (fun y hy => h y (by simp [Op.operands, Call.operands]; exact .inr (by simpa using hy)))
   have hm' : ∀ b ∈ q03 (evs s args.toList ++ caps), s2.mem[b]? = s.mem[b]? := by
    intro b hb
    refine hm b ?_
    simp only [q3t, hf, bks]
    rw [q4j, z0q] at hb
    rw [z0q, z0q]
    exact .inl hb.symm
   refine .inr ⟨f, args, g, caps, rfl, by rw [hf', hf], ?_⟩
   rw [ha]
   unfold Asks at hcall ⊢
   rw [q5w _ hm']
   rcases hcall with h | h | ⟨b, args0, blk0, blk1, x0, h1, h2, h3, h4, h5, h6⟩ | ⟨b, t, sz, xs, ys, args0, x0, h1, h2, h3, h4, h5, h6, h7⟩ | h | ⟨hw, hwr, h⟩
   · exact .inl h
   · exact .inr (.inl h)
   · exact .inr (.inr (.inl ⟨b, args0, blk0, blk1, x0, h1, h2, h3, h4, by rw [hm' b h3]; exact h5, h6⟩))
   · exact .inr (.inr (.inr (.inl ⟨b, t, sz, xs, ys, args0, x0, h1, h2, h3, h4, h5, by rw [hm' b h3]; exact h6, h7⟩)))
   · exact .inr (.inr (.inr (.inr (.inl h))))
   · have : s2.mem = s.mem := qfo fun b hb => hm b (by simp only [q3t, hf]; exact z54 _ (by unfold qhw; simp only; rw [if_pos hw]; exact hb))
     exact .inr (.inr (.inr (.inr (.inr ⟨hw, hwr, by rw [this]; exact h⟩))))
theorem Ex.local {P : Program} {T : TypeId → Option TI} {ops : Array Oper} {nids : Nat → Nat} {e : Ent} (h : Ex P T L ops nids e s) (ht : ∀ o, ops[e.i]? = some o → ∀ t ∈ o.looksAt ops, s2.tmps.getD t .any = s.tmps.getD t .any) (hm : ∀ b ∈ e.acc, s2.mem[b]? = s.mem[b]?) : Ex P T L ops nids e s2 := by
 obtain ⟨o, ho, h1, h2, h3, h4⟩ := h
 have hev : ∀ y ∈ o.op.operands.toList, s2.ev y = s.ev y := qsq (d := none) (ty := 0) rfl (ht o ho)
 have hacc : q3t o.op s2 = q3t o.op s := qss hev (by rw [← h1]; exact hm)
 refine ⟨o, ho, by rw [hacc]; exact h1, by rw [h2]; exact z2p (fun t htm => (ht o ho t htm).symm), by rw [h3]; exact z2p (fun b hb => (hm b hb).symm), ?_⟩
 rw [h1] at hm
 split
 · rename_i hg
   rw [hg] at h4
   exact h4.local hev hm
 · rename_i j want hg
   rw [hg] at h4
   obtain ⟨g, k1, h4⟩ := h4
   have hgl : g ∈ o.looksAt ops := by
    unfold Oper.looksAt
    refine z54 _ ?_
    rw [hg]
    simp [k1]
   refine ⟨g, k1, ?_⟩
   rcases h4 with ⟨c, k2, k3, k4⟩ | ⟨t, k2, k3⟩
   · exact .inl ⟨c, by rw [ht o ho g hgl]; exact k2, fun hc => (k3 hc).local hev hm, k4⟩
   · exact .inr ⟨t, by rw [ht o ho g hgl]; exact k2, k3⟩
theorem q9g (s : St) (wr : Wr) : (s.app wr).mem.length = s.mem.length := by
 cases wr with
 | none => rfl
 | some w =>
  obtain ⟨b, blk, k⟩ := w
  cases k <;> simp [St.app, St.rehome]
