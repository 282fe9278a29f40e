/-
  The program's types as trees, and what they are in memory. Conditions: none.
-/
import Derived.Test.YtdcpnpcmgfmenaaDoorDa
set_option linter.unusedVariables false
namespace Go.Proofs.YtdcpnpcmgfmenaaDoor
open Go Go.Proofs.YtdcpnpcmgfmenaaDoor.Lg

/-- api.Type. -/
inductive T where
  | mk (kind : Int) (names : List ByteArray) (list : List T)

mutual
def T.cells : T → List D
  | .mk kind names list => [.v (.int .i64 kind), .sl true (strRows names), .sl true (T.rows list)]
def T.rows : List T → List (List D)
  | [] => []
  | x :: r => x.cells :: T.rows r
end
theorem T.rows_eq : ∀ l : List T, T.rows l = l.map T.cells
  | [] => rfl
  | x :: r => by rw [T.rows, T.rows_eq r]; rfl
def T.d (x : T) : D := .agg x.cells
def T.kind : T → Int | .mk k _ _ => k
def T.names : T → List ByteArray | .mk _ n _ => n
def T.list : T → List T | .mk _ _ l => l

theorem T.ind {P : T → Prop} (h : ∀ kind names list, (∀ x ∈ list, P x) → P (.mk kind names list)) : ∀ v, P v :=
  T.rec (motive_1 := P) (motive_2 := fun l => ∀ x ∈ l, P x) (fun kind names list ih => h kind names list ih)
    (fun x hx => by cases hx) (fun x r h1 h2 y hy => by
      rcases List.mem_cons.1 hy with rfl | hy
      · exact h1
      · exact h2 y hy)

theorem T.keeps : ∀ v : T, ∀ c ∈ v.cells, Keeps c := by
  apply T.ind
  intro kind names list ih c hc
  simp only [T.cells, List.mem_cons, List.not_mem_nil, or_false] at hc
  rcases hc with rfl | rfl | rfl
  · exact keeps_v _
  · exact keeps_strs _
  · refine keeps_sl fun r hr c hc => ?_
    rw [T.rows_eq] at hr
    obtain ⟨x, hx, rfl⟩ := List.mem_map.1 hr
    exact ih x hx c hc
theorem T.keepsD (v : T) : Keeps v.d := keeps_agg (T.keeps v)
theorem T.cells_length (v : T) : v.cells.length = 3 := by cases v; rfl
theorem T.rows_get (l : List T) (k : Nat) (h : k < l.length) : (T.rows l).getD k [] = (l[k]).cells := by simp [T.rows_eq, List.getD, h]
theorem T.rows_len (l : List T) : (T.rows l).length = l.length := by simp [T.rows_eq]
theorem T.rows_all (l : List T) : ∀ r ∈ T.rows l, r.length = 3 := by
  intro r hr; rw [T.rows_eq] at hr; obtain ⟨x, _, rfl⟩ := List.mem_map.1 hr; exact x.cells_length
theorem strRows_get (l : List ByteArray) (k : Nat) (h : k < l.length) : (strRows l).getD k [] = [.v (.string l[k])] := by simp [strRows, List.getD, h]
theorem strRows_len (l : List ByteArray) : (strRows l).length = l.length := by simp [strRows]
theorem strRows_all (l : List ByteArray) : ∀ r ∈ strRows l, r.length = 1 := by
  intro r hr; obtain ⟨x, _, rfl⟩ := List.mem_map.1 hr; rfl

theorem V.rows_get (l : List V) (k : Nat) (h : k < l.length) : (V.rows l).getD k [] = (l[k]).cells := by simp [V.rows_eq, List.getD, h]
theorem V.rows_len (l : List V) : (V.rows l).length = l.length := by simp [V.rows_eq]
theorem V.rows_all (l : List V) : ∀ r ∈ V.rows l, r.length = 9 := by
  intro r hr; rw [V.rows_eq] at hr; obtain ⟨x, _, rfl⟩ := List.mem_map.1 hr; exact x.cells_length

theorem any_take {α : Type} (p : α → Bool) (l : List α) (k : Nat) (h : k < l.length) : (l.take (k + 1)).any p = ((l.take k).any p || p l[k]) := by
  rw [List.take_add_one, List.any_append]; simp [h]
theorem all_take {α : Type} (p : α → Bool) (l : List α) (k : Nat) (h : k < l.length) : (l.take (k + 1)).all p = ((l.take k).all p && p l[k]) := by
  rw [List.take_add_one, List.all_append]; simp [h]
theorem any_get {α : Type} (p : α → Bool) (l : List α) (k : Nat) (h : k < l.length) (hp : p l[k] = true) : l.any p = true := List.any_eq_true.2 ⟨_, List.getElem_mem h, hp⟩
end Go.Proofs.YtdcpnpcmgfmenaaDoor
