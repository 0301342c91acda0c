/- More on blocks. -/
import Derived.Test.YtbhokalnkfdekaaDoorBase
namespace Go.Proofs.YtbhokalnkfdekaaDoor
open Go.RowKit

theorem alloc1 (w : World) (A : Obj) : (w.alloc A).heap[w.heap.size]? = some A ∧ Kept w (w.alloc A) ∧ (w.alloc A).heap.size = w.heap.size + 1 := ⟨heap_alloc_new' w A, (by repeat (first | exact Below.refl _ _ | assumption | refine Below.drewN ?_ _ | refine Below.drew ?_ | (refine Below.alloc' _ ?_ ?_; (focus ((first | omega | (simp; done) | (simp; omega))))) | (refine Below.setCell' _ ?_ ?_; (focus ((first | omega | (simp; done) | (simp; omega))))))), by simp⟩
theorem alloc3 (w : World) (A B C : Obj) : (((w.alloc A).alloc B).alloc C).heap[w.heap.size]? = some A ∧ (((w.alloc A).alloc B).alloc C).heap[w.heap.size + 1]? = some B ∧ (((w.alloc A).alloc B).alloc C).heap[w.heap.size + 1 + 1]? = some C ∧
    Kept w (((w.alloc A).alloc B).alloc C) ∧ (((w.alloc A).alloc B).alloc C).heap.size = w.heap.size + 3 := by
  refine ⟨?_, ?_, ?_, (by repeat (first | exact Below.refl _ _ | assumption | refine Below.drewN ?_ _ | refine Below.drew ?_ | (refine Below.alloc' _ ?_ ?_; (focus ((first | omega | (simp; done) | (simp; omega))))) | (refine Below.setCell' _ ?_ ?_; (focus ((first | omega | (simp; done) | (simp; omega))))))), by simp⟩
  · rw [heap_alloc_old _ _ _ (by simp; omega), heap_alloc_old _ _ _ (by simp), heap_alloc_new']
  · rw [heap_alloc_old _ _ _ (by simp)]
    have := heap_alloc_new' (w.alloc A) B
    rwa [World.size_alloc] at this
  · have := heap_alloc_new' ((w.alloc A).alloc B) C
    rwa [World.size_alloc, World.size_alloc] at this
end Go.Proofs.YtbhokalnkfdekaaDoor
