/-
  The program's values as trees, and what they are in memory. Conditions: none.
-/
import Derived.Test.YtdcpnpcmgfmenaaDoorSj
set_option linter.unusedVariables false
namespace Go.Proofs.YtdcpnpcmgfmenaaDoor
open Go Go.Proofs.YtdcpnpcmgfmenaaDoor.Lg

/-- api.Value. -/
inductive V where
  | mk (kind : Int) (flag : Bool) (neg : Bool) (digits : ByteArray) (exp : Int) (bits : Int) (text : ByteArray) (names : List ByteArray) (list : List V)

def strRows (l : List ByteArray) : List (List D) := l.map fun s => [.v (.string s)]

mutual
def V.cells : V → List D
  | .mk kind flag neg digits exp bits text names list => [.v (.int .i64 kind), .v (.bool flag), .v (.bool neg), .v (.string digits), .v (.int .i64 exp), .v (.int .u64 bits), .v (.string text), .sl true (strRows names), .sl true (V.rows list)]
def V.rows : List V → List (List D)
  | [] => []
  | x :: r => x.cells :: V.rows r
end
theorem V.rows_eq : ∀ l : List V, V.rows l = l.map V.cells
  | [] => rfl
  | x :: r => by rw [V.rows, V.rows_eq r]; rfl
/-- A value as a struct. -/
def V.d (x : V) : D := .agg x.cells

theorem V.ind {P : V → Prop} (h : ∀ kind flag neg digits exp bits text names list, (∀ x ∈ list, P x) → P (.mk kind flag neg digits exp bits text names list)) : ∀ v, P v :=
  V.rec (motive_1 := P) (motive_2 := fun l => ∀ x ∈ l, P x) (fun kind flag neg digits exp bits text names list ih => h kind flag neg digits exp bits text names list ih)
    (fun x hx => by cases hx) (fun x r h1 h2 y hy => by
      rcases List.mem_cons.1 hy with rfl | hy
      · exact h1
      · exact h2 y hy)

theorem keeps_strs (l : List ByteArray) : Keeps (.sl true (l.map fun s => [.v (.string s)])) :=
  keeps_sl fun r hr c hc => by
    obtain ⟨s, _, rfl⟩ := List.mem_map.1 hr
    simp at hc; subst hc; exact keeps_v _
theorem V.keeps : ∀ v : V, ∀ c ∈ v.cells, Keeps c := by
  apply V.ind
  intro kind flag neg digits exp bits text names list ih c hc
  simp only [V.cells, List.mem_cons, List.not_mem_nil, or_false] at hc
  rcases hc with rfl | rfl | rfl | rfl | rfl | rfl | rfl | rfl | rfl
  all_goals first | exact keeps_v _ | exact keeps_strs _ | skip
  refine keeps_sl fun r hr c hc => ?_
  rw [V.rows_eq] at hr
  obtain ⟨x, hx, rfl⟩ := List.mem_map.1 hr
  exact ih x hx c hc
theorem V.keepsD (v : V) : Keeps v.d := keeps_agg (V.keeps v)
theorem V.cells_length (v : V) : v.cells.length = 9 := by cases v; rfl

mutual
def V.depth : V → Nat
  | .mk _ _ _ _ _ _ _ _ list => V.depths list + 1
def V.depths : List V → Nat
  | [] => 0
  | x :: r => max x.depth (V.depths r)
end
end Go.Proofs.YtdcpnpcmgfmenaaDoor
