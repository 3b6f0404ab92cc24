/- The methods of *items, called through the interface of the heap. -/
import Derived.Test.YtibbfihnhlgkeaaGreatCacheW
import Derived.Handy
namespace Go.Proofs.YtibbfihnhlgkeaaGreat
open Go.RowKit Go.Maps Go.Shelf
open CM (It C)

theorem load_items (a : Addr) (w : World) (v : Value) (h : w.cell? a = some v) : (loadVar 54 a).run Tryz.prog w = .ok v w := by
  simp [go_sem, h]
theorem wrapChk (t : Nat) (a : Addr) (nm : String) : Builtin.ssaWrapNilChk_ #[t] t #[.pointer (some a), strVal "", strVal nm] = pure (.pointer (some a)) := rfl
theorem asAddr_some (a : Addr) : asAddr (.pointer (some a)) = pure a := rfl
theorem method_val {P : Program} {w : World} {fuel : Nat} {t elem f : Nat} {a : Addr} {name : String}
    (hi : (P.info? t).bind (fun i => (i.methods.find? (fun m => m.name == name)).map (fun m => (m.path, m.func))) = some (#[], some (f, false))) (hu : P.underlying t = some (.pointer elem)) :
    (method (fuel + 1) t (.pointer (some a)) name).run P w = ((loadVar elem a).run P w).andThen fun v w' => .ok (f, v) w' := by
  obtain ⟨i, h1, h2⟩ := Option.bind_eq_some_iff.1 hi
  obtain ⟨m, h3, h4⟩ := Option.map_eq_some_iff.1 h2
  injection h4 with h5 h6
  simp [method, typeInfo, h1, h3, h5, h6, follow, receiverAt, run_underlying hu, Place.get, wrapChk, asAddr_some]
theorem meth_less (fuel : Nat) (a : Addr) (w : World) (v : Value) (h : w.cell? a = some v) : (method (fuel + 1) 82 (.pointer (some a)) "Less").run Tryz.prog w = .ok (123, v) w := by
  rw [method_val (f := 123) (elem := 54) (by kernel_rfl) (by kernel_rfl), load_items a w v h]
  rfl
theorem meth_swap (fuel : Nat) (a : Addr) (w : World) (v : Value) (h : w.cell? a = some v) : (method (fuel + 1) 82 (.pointer (some a)) "Swap").run Tryz.prog w = .ok (124, v) w := by
  rw [method_val (f := 124) (elem := 54) (by kernel_rfl) (by kernel_rfl), load_items a w v h]
  rfl
theorem meth_len (fuel : Nat) (a : Addr) (w : World) (v : Value) (h : w.cell? a = some v) : (method (fuel + 1) 82 (.pointer (some a)) "Len").run Tryz.prog w = .ok (122, v) w := by
  rw [method_val (f := 122) (elem := 54) (by kernel_rfl) (by kernel_rfl), load_items a w v h]
  rfl
theorem iswap2 (w : World) (G cap n : Nat) (m : List It) (hn : m.length = n) (h : Row w G cap m) (i j : Nat) (hi : i < n) (hj : j < n) (hij : i ≠ j) :
    Calls Tryz.prog 124 #[.slice (some ⟨G, 0, none⟩) n cap, .int .i64 (i : Int), .int .i64 (j : Int)] w fun e w' => (∃ v, e = .returned v) ∧ Row w' G cap (CM.swap m i j) ∧ Touch (G :: m.map It.g) w w' := by
  subst hn
  refine (iswap_any w G cap m h i j hi hj hij).mono ?_
  rintro e w' ⟨h1, h2, h3⟩
  refine ⟨h1, h2, h3.mono ?_⟩
  intro q hq
  left
  simp only [List.mem_cons, List.not_mem_nil, or_false] at hq
  rcases hq with rfl | rfl | rfl
  · exact List.mem_cons_self
  · exact List.mem_cons_of_mem _ (List.mem_map_of_mem (List.getElem_mem _))
  · exact List.mem_cons_of_mem _ (List.mem_map_of_mem (List.getElem_mem _))
theorem iless2 (w : World) (G cap n : Nat) (m : List It) (hn : m.length = n) (h : Row w G cap m) (i j : Nat) (hi : i < n) (hj : j < n) :
    Calls Tryz.prog 123 #[.slice (some ⟨G, 0, none⟩) n cap, .int .i64 (i : Int), .int .i64 (j : Int)] w fun e w' => e = .returned (.bool (CM.less m i j)) ∧ Touch [] w w' := by
  subst hn
  exact iless_any w G cap m h i j hi hj
/-- what a row's order may turn -/
theorem perm_in {G : Nat} {m l : List It} (hp : m.Perm l) {w w' w'' : World} (h : Touch (G :: l.map It.g) w w') (h' : Touch (G :: m.map It.g) w' w'') : Touch (G :: l.map It.g) w w'' :=
  h.trans h' (fun q hq => .inl (by
    rcases List.mem_cons.1 hq with rfl | hq
    · exact List.mem_cons_self
    · exact List.mem_cons_of_mem _ ((hp.map It.g).subset hq)))
end Go.Proofs.YtibbfihnhlgkeaaGreat
