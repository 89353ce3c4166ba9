/- A text of the walk that proves a law of this seat; joined by a program. -/
import Derived.Test.YtdkcpcflfnakdaaGreatSymY
set_option linter.unusedSimpArgs false
set_option linter.unusedVariables false
namespace Go.Proofs.YtdkcpcflfnakdaaGreat.Sym
open Go Go.RowKit
variable {L : Nat} {P : Program} {T : TypeId → Option TI} {Γ : Type} {al : Γ → List AV → Prop} {an : Γ → List AV → Bool → Γ} {y : Value} {yl : Bool} {k : List Fr} {s : St} {g : Γ} {K : AExit → St → Γ → Prop}
theorem condY_t {p q : Code} : condY P T L al an y yl (.v (.bool true)) p q k s g K = goY P T L al an y yl (.code p :: k) s g K := by simp [condY]
theorem condY_f {p q : Code} : condY P T L al an y yl (.v (.bool false)) p q k s g K = goY P T L al an y yl (.code q :: k) s g K := by simp [condY]
theorem q07 {c : Bool} {p q : Code} (h1 : c = true → condY P T L al an y yl (.v (.bool true)) p q k s g K) (h2 : c = false → condY P T L al an y yl (.v (.bool false)) p q k s g K) :
    condY P T L al an y yl (.v (.bool c)) p q k s g K := by
  cases c
  · exact h2 rfl
  · exact h1 rfl
theorem guardY_tt {i : Nat} {o : Op} {d : Option Tmp} {a : Array Oper} {rest : List Oper} {tm : List AV} {m : List AB} :
    guardY P T L al an y yl (.v (.bool true)) i true o d a rest k ⟨tm, m⟩ g K = opYK P T L al an y yl (q13 o) o d a rest k ⟨tm.set i (.v (.bool true)), m⟩ g K := by simp [guardY]
theorem guardY_ff {i : Nat} {o : Op} {d : Option Tmp} {a : Array Oper} {rest : List Oper} {tm : List AV} {m : List AB} :
    guardY P T L al an y yl (.v (.bool false)) i false o d a rest k ⟨tm, m⟩ g K = opYK P T L al an y yl (q13 o) o d a rest k ⟨tm.set i (.v (.bool false)), m⟩ g K := by simp [guardY]
theorem guardY_tf {i : Nat} {o : Op} {d : Option Tmp} {a : Array Oper} {rest : List Oper} {tm : List AV} {m : List AB} :
    guardY P T L al an y yl (.v (.bool true)) i false o d a rest k ⟨tm, m⟩ g K = goY P T L al an y yl (.ops a rest :: k) ((⟨tm.set i (.v (.bool true)), m⟩ : St).put d (.v undef)) g K := by simp [guardY]
theorem guardY_ft {i : Nat} {o : Op} {d : Option Tmp} {a : Array Oper} {rest : List Oper} {tm : List AV} {m : List AB} :
    guardY P T L al an y yl (.v (.bool false)) i true o d a rest k ⟨tm, m⟩ g K = goY P T L al an y yl (.ops a rest :: k) ((⟨tm.set i (.v (.bool false)), m⟩ : St).put d (.v undef)) g K := by simp [guardY]
theorem q06 {c : Bool} {i : Nat} {want : Bool} {o : Op} {d : Option Tmp} {a : Array Oper} {rest : List Oper} {tm : List AV} {m : List AB}
    (h1 : c = true → guardY P T L al an y yl (.v (.bool true)) i want o d a rest k ⟨tm, m⟩ g K) (h2 : c = false → guardY P T L al an y yl (.v (.bool false)) i want o d a rest k ⟨tm, m⟩ g K) :
    guardY P T L al an y yl (.v (.bool c)) i want o d a rest k ⟨tm, m⟩ g K := by
  cases c
  · exact h2 rfl
  · exact h1 rfl
theorem roundA_normal {N M : Nat} {bd : Code} {Inv' : List AB → Prop} {Stop : AExit → List AB → Prop} : roundA P T N M bd Inv' Stop .normal s = go P T N [.code bd] s (roundX M Inv' Stop) := _root_.id rfl
theorem q2o {M : Nat} {Inv' : List AB → Prop} {Stop : AExit → List AB → Prop} : roundX M Inv' Stop .normal s = Inv' (s.trunc M).mem := _root_.id rfl
theorem roundX_exit {M : Nat} {Inv' : List AB → Prop} {Stop : AExit → List AB → Prop} {id : Nat} : roundX M Inv' Stop (.exit id) s = Stop (.exit id) (s.trunc M).mem := _root_.id rfl
theorem roundX_ret {M : Nat} {Inv' : List AB → Prop} {Stop : AExit → List AB → Prop} : roundX M Inv' Stop .ret s = Stop .ret (s.trunc M).mem := _root_.id rfl
theorem stopY_exit {tm : List AV} {id : Nat} {m : List AB} : stopY P T L al an y yl k tm g K (.exit id) m = exitY P T L al an y yl id k ⟨tm, m⟩ g K := _root_.id rfl
theorem stopY_ret {tm : List AV} {m : List AB} : stopY P T L al an y yl k tm g K .ret m = K .ret ⟨tm, m⟩ g := _root_.id rfl
theorem itAn_eq {xs : List (List AV)} {st : Bool} {x : List AV} {b : Bool} : itAn (xs, st) x b = (xs ++ [x], !b) := rfl
theorem itAl_eq {full xs : List (List AV)} {st : Bool} {x : List AV} : itAl full (xs, st) x = (st = false ∧ (xs ++ [x]) <+: full ∧ q04 x = []) := rfl
theorem itK_normal {full : List (List AV)} {xs : List (List AV)} {st : Bool} (h : xs <+: full ∧ (st = false → xs = full)) : itK full .normal s (xs, st) := h
theorem itK_ret {full : List (List AV)} {xs : List (List AV)} {st : Bool} (h : xs <+: full ∧ (st = false → xs = full)) : itK full .ret s (xs, st) := h
theorem q4v {β γ : Type} {f : β → γ} {l : List β} {xs : List γ} {x : γ} (h : (xs ++ [x]) <+: l.map f) : ∃ hi : xs.length < l.length, xs = (l.take xs.length).map f ∧ x = f l[xs.length] := by
  obtain ⟨t, ht⟩ := h
  have hlen : xs.length < l.length := by
    have := congrArg List.length ht
    simp at this; omega
  refine ⟨hlen, ?_, ?_⟩
  · have := congrArg (List.take xs.length) ht
    rw [List.append_assoc, List.take_left] at this
    rw [List.map_take]; exact this
  · have h2 := congrArg (fun l => l[xs.length]?) ht
    simp only [List.append_assoc, List.getElem?_append_right (Nat.le_refl _), Nat.sub_self, List.singleton_append, List.getElem?_cons_zero, List.getElem?_map, List.getElem?_eq_getElem hlen, Option.map_some, Option.some.injEq] at h2
    exact h2
theorem q1f {α : Type} {l : List α} {i : Nat} (h : i < l.length) : l.take (i + 1) = l.take i ++ [l[i]] := by
  rw [List.take_add_one, List.getElem?_eq_getElem h]; rfl
end Go.Proofs.YtdkcpcflfnakdaaGreat.Sym
