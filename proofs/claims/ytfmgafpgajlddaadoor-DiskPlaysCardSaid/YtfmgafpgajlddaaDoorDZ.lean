import Derived.Test.YtfmgafpgajlddaaDoorD6
set_option linter.unusedVariables false
set_option linter.unusedSimpArgs false
namespace Go.Proofs.YtfmgafpgajlddaaDoor
open Go.RowKit

def zerosC (n : Nat) : Array Value := (List.replicate n (.int .u8 0)).toArray
theorem Tryd.infoU8 : (Tryd.prog.info? 5).map (fun i => (i.zero, i.size, i.bytes)) = some (some (.int .u8 0), 1, 1) := by kernel_rfl
theorem make_zeros (w : World) (n : Nat) (h2 : n ≤ 1000000) : (Instr.makeSlice 48 (.int .i64 (n : Int)) (.int .i64 (n : Int))).run Tryd.prog w = .ok (.slice (some ⟨w.heap.size, 0, none⟩) n n) (w.alloc (.cells (zerosC n) 5)) := by
  obtain ⟨i0, hi, hz0, hz1, hz2⟩ := info_parts Tryd.infoU8
  have := run_make (P := Tryd.prog) w 48 5 i0 _ Tryd.underlying48 hi hz0 .i64 .i64 n n (by omega) (by omega) (by rw [hz2]; omega) (by omega)
  rw [this]
  simp only [Int.toNat_natCast, hz1, Nat.mul_one]
  have e : madeCells (Value.int .u8 0).cells n = zerosC n := by
    unfold zerosC
    apply Array.ext'
    simp [madeCells, Value.cells]
    apply List.ext_getElem
    · simp
    · intro i h1 h2
      simp [Nat.mod_one]
  rw [e]
theorem conv_zeros (W : World) (b n : Nat) (h : W.heap[b]? = some (.cells (zerosC n) 5 (0, 0))) : (convert 48 9 (.slice (some ⟨b, 0, none⟩) n n)).run Tryd.prog W = .ok (.string (zeroB n)) W := by
  have := run_convert_bytes_arg W 48 5 Tryd.underlying48 Tryd.underlying5 b 0 n n (List.replicate n 0) (by simp) (fun i hi => by
    rw [Nat.zero_add, cellAt h i]
    simp [zerosC, hi, List.getD_eq_getElem?_getD]) 9 Tryd.underlying9
  have e : strOfNums (List.replicate n 0) = zeroB n := by
    unfold zeroB
    apply ByteArray.ext
    simp [strOfNums]
  rw [this, e]

theorem save_blk {F : Nat → Prop} {w w' : World} {g : Nat} {t : TypeId} {cs : Array Value} (hs : Save F w w') (h : Blk w g t cs) (hF : ¬ F g) : Blk w' g t cs := h.save hs hF
theorem blk_new1 (w : World) (o : Obj) (t : TypeId) (cs : Array Value) : Blk ((w.alloc o).alloc (.cells cs t)) (w.heap.size + 1) t cs := by
  have h := Blk.new (w.alloc o) t cs
  have e : (w.alloc o).heap.size = w.heap.size + 1 := by simp
  rw [e] at h
  exact h

end Go.Proofs.YtfmgafpgajlddaaDoor
