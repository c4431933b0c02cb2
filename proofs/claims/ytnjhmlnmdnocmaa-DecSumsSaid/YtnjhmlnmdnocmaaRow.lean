/-
  A row of cells that the call itself has made, known whole: what becomes of it when the world grows, and behind stores. No program in sight.
-/
import Derived.Test.YtnjhmlnmdnocmaaRegM
namespace Go.Proofs.Ytnjhmlnmdnocmaa
set_option linter.unusedSimpArgs false
set_option linter.unusedVariables false
open Go.RowKit

structure Row (w : World) (b : Nat) (cs : Array Value) : Prop where
  cell : ∀ o, w.cell? ⟨b, o, none⟩ = cs[o]?
  free : ∀ o, w.frozen? ⟨b, o, none⟩ = false
  size : b < w.heap.size

theorem Row.grow {w w' : World} {b : Nat} {cs : Array Value} (h : Row w b cs) (hx : Ext w w') : Row w' b cs :=
  ⟨fun o => (hx.cell (p := ⟨b, o, none⟩) h.size).trans (h.cell o), fun o => (hx.frozen (p := ⟨b, o, none⟩) h.size).trans (h.free o), Nat.lt_of_lt_of_le h.size hx.size⟩
theorem Row.set {w : World} {b : Nat} {cs : Array Value} (h : Row w b cs) (i : Nat) (v : Value) (hi : i < cs.size) : Row (w.setCell ⟨b, i, none⟩ v) b (cs.setIfInBounds i v) := by
  refine ⟨fun o => ?_, fun o => ?_, by rw [World.size_setCell]; exact h.size⟩
  · by_cases ho : i = o
    · subst ho
      exact (World.cell?_setCell_same (w := w) (a := ⟨b, i, none⟩) (v := v) (u := cs[i]) (by rw [h.cell i]; simp [hi])).trans (by simp [hi])
    · exact (World.cell?_setCell_other (w := w) (a := ⟨b, i, none⟩) (b := ⟨b, o, none⟩) (v := v) (by simp [ho])).trans (by rw [h.cell o, Array.getElem?_setIfInBounds_ne ho])
  · have hf := h.free o
    go_simp
theorem Row.far {w : World} {b : Nat} {cs : Array Value} (h : Row w b cs) {p : Addr} (v : Value) (hp : b ≠ p.block) : Row (w.setCell p v) b cs := by
  refine ⟨fun o => ?_, fun o => ?_, by rw [World.size_setCell]; exact h.size⟩
  · exact (World.cell?_setCell_other (w := w) (a := p) (b := ⟨b, o, none⟩) (v := v) (fun e => hp (by rw [e]))).trans (h.cell o)
  · have hf := h.free o
    go_simp
theorem Row.alloc {w : World} {b : Nat} {cs : Array Value} (h : Row w b cs) (o : Obj) : Row (w.alloc o) b cs := h.grow (Ext.alloc w o)
theorem Row.new (w : World) (cs : Array Value) (T : TypeId) : Row (w.alloc (.cells cs T (0, 0))) w.heap.size cs :=
  ⟨fun o => by unfold World.cell?; rw [at_alloc]; rfl, fun o => by unfold World.frozen?; rw [at_alloc]; simp, by rw [size_alloc]; omega⟩
theorem Row.drew {w : World} {b : Nat} {cs : Array Value} (h : Row w b cs) : Row w.drew b cs := h.grow (Ext.drew w)
end Go.Proofs.Ytnjhmlnmdnocmaa
