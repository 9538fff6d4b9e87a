/-
  Bytes that lie in blocks of bytes: kept where blocks of other types turn; a slice of texts cut at its end.
-/
import Derived.Test.YtlljjddgbilipaaGreatDoorTxFind
import Derived.Test.YtlljjddgbilipaaGreatDoorTxTbp
namespace Go.Proofs.YtlljjddgbilipaaGreatDoor
open Go.RowKit Go.Maps

def Byt (w w' : World) : Prop := ∀ (k : Nat) (cur : Array Value) (fr : Nat × Nat), w.heap[k]? = some (.cells cur 5 fr) → w'.heap[k]? = some (.cells cur 5 fr)
theorem Byt.trans {a b c : World} (h : Byt a b) (k : Byt b c) : Byt a c := fun i cur fr hi => k i cur fr (h i cur fr hi)
theorem Byt.of_below {w w' : World} (h : Below w.heap.size w w') : Byt w w' := fun k _ _ hk => (h.block k (lt_of_heap hk)).trans hk
theorem Byt.of_fr {w w' : World} {b : Nat} {cs : Array Value} {t : TypeId} (h : Fr [b] w w') (hb : w.heap[b]? = some (.cells cs t (0, 0))) (ht : t ≠ 5) : Byt w w' := fun k cur fr hk => by
  refine (h.block k (lt_of_heap hk) fun hh => ?_).trans hk
  rw [List.mem_singleton.1 hh, hb] at hk
  cases hk
  exact ht rfl
def DatB (w : World) (v : Value) (l : List UInt8) : Prop := ∃ A c, v = .slice A l.length c ∧ Bs w A c l ∧ ∀ a, A = some a → ∃ cur fr, w.heap[a.block]? = some (.cells cur 5 fr)
theorem DatB.keep {w w' : World} {v : Value} {l : List UInt8} (h : DatB w v l) (hb : Byt w w') : DatB w' v l := by
  obtain ⟨A, c, h1, h2, h3⟩ := h
  refine ⟨A, c, h1, ⟨h2.len, h2.nil, h2.le, h2.big, fun hn => ?_⟩, fun a ha => ?_⟩
  · obtain ⟨b, o, rfl, hx⟩ := h2.cells hn
    obtain ⟨cur, fr, hk⟩ := h3 _ rfl
    have hkk : w'.heap[b]? = w.heap[b]? := (hb _ _ _ hk).trans hk.symm
    exact ⟨b, o, rfl, fun j hj => (World.cell?_of_block hkk).trans (hx j hj)⟩
  · obtain ⟨cur, fr, hk⟩ := h3 a ha
    exact ⟨cur, fr, hb _ _ _ hk⟩
theorem bytes_datB (w : World) (x : ByteArray) (hx : x.size ≤ 1048576) : ∃ v w', (convert 9 30 (.string x)).run Tryz.prog w = .ok v w' ∧ DatB w' v (toL x) ∧ Below w.heap.size w w' ∧ v.oneCell' = true := by
  refine ⟨_, _, Lib.run_convert_string_bytes w 9 30 5 x Tryz.underlying9 Tryz.underlying30 Tryz.underlying5, ⟨_, _, by rw [toL_len], ⟨by simp [u8s], by simp, ?_, ?_, fun hn => ⟨_, 0, rfl, fun j hj => ?_⟩⟩, by intro a ha; cases ha; exact ⟨_, _, Lib.bytesWorld_at_new w _ x⟩⟩, ⟨rfl, rfl, rfl, by rw [Lib.bytesWorld_size]; omega, fun j hj => Lib.bytesWorld_at_old w _ x j hj⟩, rfl⟩
  · rw [toL_len]
    exact grownCap_ge _ _ _ _
  · exact grownCap_le_maxLen _ _ _ _ (by unfold maxLen; omega)
  · rw [Nat.zero_add, Lib.bytesWorld_cell w _ x j (by rw [toL_len] at hj; omega), u8s_at (by omega)]
    rfl
theorem txs_drop (D : List ByteArray) (n : Nat) : (txs D).drop n = txs (D.drop n) := by simp [txs, List.map_drop]
theorem txs_take (D : List ByteArray) (n : Nat) : (txs D).take n = txs (D.take n) := by simp [txs, List.map_take]
theorem slice_hiS (A : Option Addr) (n c l : Nat) (h : l ≤ c) (w : World) : (Instr.slice 25 (.slice A n c) none (some (.int .i64 (l : Int))) none).run Tryz.prog w = .ok (.slice A l c) w := by
  have e : Tryz.prog.elem 25 = 9 := by kernel_rfl
  have ht : Tryz.prog.underlying 25 = some (.slice (Tryz.prog.elem 25)) := by rw [e]; exact Tryz.underlying25
  obtain ⟨i0, hi0, hz0, hz1, hz2⟩ := info_parts infoStr1
  rw [run_slice_h (w := w) (ht := ht) (kh := .i64) (h0 := by omega) (h2 := by omega), e]
  cases A <;> simp [sizeOf, typeInfo, hi0, hz1, sliced, Addr.add]
theorem wordsOf_count (s : List UInt8) : (wordsOf s).length ≤ s.length := by
  unfold wordsOf
  split
  · simp
  · split
    · simp
    · rename_i l hl
      exact (wordsF_sum _ _ _ hl).2
end Go.Proofs.YtlljjddgbilipaaGreatDoor
