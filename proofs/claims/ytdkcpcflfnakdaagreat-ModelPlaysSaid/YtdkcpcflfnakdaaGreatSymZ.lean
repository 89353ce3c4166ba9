/- A text of the walk that proves a law of this seat; joined by a program. -/
import Derived.Test.YtdkcpcflfnakdaaGreatSymY
set_option linter.unusedSimpArgs false
set_option linter.unusedVariables false
namespace Go.Proofs.YtdkcpcflfnakdaaGreat.Sym
open Go Go.RowKit
variable {L : Nat} {P : Program} {T : TypeId → Option TI} {Γ : Type} {al : Γ → List AV → Prop} {an : Γ → List AV → Bool → Γ} {y : Value} {yl : Bool} {k : List Fr} {s : St} {g : Γ} {K : AExit → St → Γ → Prop}
variable {Inv' : List AB → Prop} {M i : Nat} {Stop : AExit → List AB → Prop} {a : Array Oper} {d : Option Tmp} {full xs : List (List AV)} {m : List AB} {o : Op} {p q : Code} {rest : List Oper} {st : Bool} {tm : List AV}
theorem condY_t : qd2 P T L al an y yl (.v (.bool true)) p q k s g K = goY P T L al an y yl (.code p :: k) s g K := by simp [qd2]
theorem condY_f : qd2 P T L al an y yl (.v (.bool false)) p q k s g K = goY P T L al an y yl (.code q :: k) s g K := by simp [qd2]
theorem qai {c : Bool} (h1 : c = true → qd2 P T L al an y yl (.v (.bool true)) p q k s g K) (h2 : c = false → qd2 P T L al an y yl (.v (.bool false)) p q k s g K) :
 qd2 P T L al an y yl (.v (.bool c)) p q k s g K := by
 cases c
 · exact h2 rfl
 · exact h1 rfl
theorem qym :
 q5x P T L al an y yl (.v (.bool true)) i true o d a rest k ⟨tm, m⟩ g K = opYK P T L al an y yl (q1g o) o d a rest k ⟨tm.set i (.v (.bool true)), m⟩ g K := by simp [q5x]
theorem qy8 :
 q5x P T L al an y yl (.v (.bool false)) i false o d a rest k ⟨tm, m⟩ g K = opYK P T L al an y yl (q1g o) o d a rest k ⟨tm.set i (.v (.bool false)), m⟩ g K := by simp [q5x]
theorem qz2 :
 q5x P T L al an y yl (.v (.bool true)) i false o d a rest k ⟨tm, m⟩ g K = goY P T L al an y yl (.ops a rest :: k) ((⟨tm.set i (.v (.bool true)), m⟩ : St).put d (.v undef)) g K := by simp [q5x]
theorem qyt :
 q5x P T L al an y yl (.v (.bool false)) i true o d a rest k ⟨tm, m⟩ g K = goY P T L al an y yl (.ops a rest :: k) ((⟨tm.set i (.v (.bool false)), m⟩ : St).put d (.v undef)) g K := by simp [q5x]
theorem qnu {N : Nat} {bd : Code} : qon P T N M bd Inv' Stop .normal s = go P T N [.code bd] s (qdx M Inv' Stop) := _root_.id rfl
theorem q3b : qdx M Inv' Stop .normal s = Inv' (s.trunc M).mem := _root_.id rfl
theorem qrq {id : Nat} : qdx M Inv' Stop (.exit id) s = Stop (.exit id) (s.trunc M).mem := _root_.id rfl
theorem qu3 : qdx M Inv' Stop .ret s = Stop .ret (s.trunc M).mem := _root_.id rfl
theorem qva {id : Nat} : stopY P T L al an y yl k tm g K (.exit id) m = q75 P T L al an y yl id k ⟨tm, m⟩ g K := _root_.id rfl
theorem qxb : stopY P T L al an y yl k tm g K .ret m = K .ret ⟨tm, m⟩ g := _root_.id rfl
theorem itAn_eq {x : List AV} {b : Bool} : itAn (xs, st) x b = (xs ++ [x], !b) := rfl
theorem itAl_eq {x : List AV} : itAl full (xs, st) x = (st = false ∧ (xs ++ [x]) <+: full ∧ q05 x = []) := rfl
theorem qbp (h : xs <+: full ∧ (st = false → xs = full)) : itK full .normal s (xs, st) := h
theorem qhq (h : xs <+: full ∧ (st = false → xs = full)) : itK full .ret s (xs, st) := h
theorem q7k {β γ : Type} {f : β → γ} {l : List β} {xs : List γ} {x : γ} (h : (xs ++ [x]) <+: l.map f) : ∃ hi : xs.length < l.length, xs = (l.take xs.length).map f ∧ x = f l[xs.length] := by
 obtain ⟨t, ht⟩ := h
 have hlen : xs.length < l.length := by
  have := congrArg List.length ht
  simp at this; omega
 refine ⟨hlen, ?_, ?_⟩
 · have := congrArg (List.take xs.length) ht
   rw [z1r, z4e] at this
   rw [z38]; exact this
 · have h2 := congrArg (fun l => l[xs.length]?) ht
   simp only [z1r, z18 (z09 _), Nat.sub_self, z53, z01, z11, z05 hlen, z19, z1d] at h2
   exact h2
theorem q12 {α : Type} {l : List α} (h : i < l.length) : l.take (i + 1) = l.take i ++ [l[i]] := by
 rw [List.take_add_one, z05 h]; rfl
