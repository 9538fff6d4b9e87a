/-
  A file system, plain; where it lies in memory.
-/
import Derived.Test.YtaolddgnannojaaDoorFsOwn
import Derived.Maps.RangeWalk
import Derived.Maps.OwnOps
import Derived.Maps.OwnSet
import Derived.Maps.Ext
namespace Go.Proofs.YtaolddgnannojaaDoor
open Go.RowKit Go.Maps

/-! ### plain -/
abbrev Dm : Type := DataW Unit
def sk (s : ByteArray) : Lit := .string s.data.toList
def ik (n : Nat) : Lit := .int .i64 (n : Nat)
def nval (n : Nat) : Dm := .lit (.int .i64 (n : Nat))
def natOf : Dm → Nat
  | .lit (.int _ a) => a.toNat
  | _ => 0
/-- the number that a map has at a key; 0: none -/
def kget (D : Dm) (k : Lit) : Nat := natOf (D.atKey k (nval 0))
def nget (D : Dm) (s : ByteArray) : Nat := kget D (sk s)
/-- a map of numbers -/
def Nats (D : Dm) : Prop := IsMap D ∧ ∀ k, ∃ n : Nat, D.atKey k (nval 0) = nval n
theorem Nats.at_ {D : Dm} (h : Nats D) (k : Lit) : D.atKey k (nval 0) = nval (kget D k) := by
  obtain ⟨n, hn⟩ := h.2 k
  unfold kget
  rw [hn]
  rfl
structure FileC where
  d : List UInt8
  sy : Nat
inductive Chg where
  | put (n : ByteArray) (k : Nat)
  | move (a b : ByteArray) (k : Nat)
  | del (n : ByteArray)
def Chg.on : Chg → Dm → Dm
  | .put n k, D => D.put (sk n) (nval k)
  | .move a b k, D => (D.del (sk a)).put (sk b) (nval k)
  | .del n, D => D.del (sk n)
structure Pend where
  dir : ByteArray
  file : Nat
  chg : Chg
structure FsSt where
  quota : Nat
  files : List (Nat × FileC)
  last : Nat
  names : Dm
  dur : Dm
  size : Int
  pend : List Pend
  steps : Nat
  armed : Nat
  down : Bool
/-- the place, among the files, of the one that has a number -/
def FsSt.idx (S : FsSt) (n : Nat) : Option Nat := S.files.findIdx? (fun p => p.1 == n)
def FsSt.of (S : FsSt) (s : ByteArray) : Option Nat := S.idx (nget S.names s)
/-! ### in memory -/
structure FsMem where
  fb : Nat
  fm : Nat
  nm : Nat
  dm : Nat
  pv : Value
  fl : List (Nat × Value)
def RPtr (v : Value) : Option (Dm × List MemPlace) := match v with
  | .pointer none => some (.nil, [])
  | .pointer (some a) => if a = ⟨a.block, 0, none⟩ then some (nval a.block, []) else none
  | _ => none
theorem RPtr_none : RPtr (.pointer none) = some (.nil, []) := rfl
theorem RPtr_some (g : Nat) : RPtr (.pointer (some ⟨g, 0, none⟩)) = some (nval g, []) := by simp [RPtr]
theorem RPtr_nil {v : Value} {p : List MemPlace} (h : RPtr v = some (.nil, p)) : v = .pointer none := by
  unfold RPtr at h
  split at h
  · rfl
  · split at h
    · simp [nval] at h
    · cases h
  · cases h
theorem RPtr_nval {v : Value} {g : Nat} {p : List MemPlace} (h : RPtr v = some (nval g, p)) : v = .pointer (some ⟨g, 0, none⟩) := by
  unfold RPtr at h
  split at h
  · simp [nval] at h
  · rename_i a
    split at h
    · rename_i ha
      simp [nval] at h
      have hg : a.block = g := by have := h.1; omega
      rw [ha, hg]
    · cases h
  · cases h
/-- the map of the files: where each lies -/
def fD (fs : List (Nat × FileC)) (fl : List (Nat × Value)) : Dm := .map ((fs.zip fl).map fun p => (ik p.1.1, nval p.2.1))
/-- a slice of bytes from a block's front (its capacity may end ahead of the block) -/
def DataAt (w : World) (v : Value) (d : List UInt8) : Prop :=
  (v = .slice none 0 0 ∧ d = []) ∨ ∃ g cap cur, v = .slice (some ⟨g, 0, none⟩) d.length cap ∧ w.heap[g]? = some (.cells cur 5 (0, 0)) ∧ d.length ≤ cap ∧ cap ≤ maxLen ∧ cap ≤ cur.size ∧ cur.toList.take d.length = u8s d
/-- a file -/
def FileAt (w : World) (e : Nat × FileC) (f : Nat × Value) : Prop :=
  w.heap[f.1]? = some (.cells #[f.2, .int .i64 (e.2.sy : Nat)] 67 (0, 0)) ∧ DataAt w f.2 e.2.d
/-- what a change's function has captured -/
def ChgAt (w : World) (c : Chg) (v : Value) : Prop := match c with
  | .put n k => n.size ≤ maxLen ∧ k ≤ 9223372036854775807 ∧ ∃ a b, v = .func (.func 40) #[] #[.pointer (some ⟨b, 0, none⟩), .pointer (some ⟨a, 0, none⟩)] ∧ w.heap[a]? = some (.cells #[.string n] 9 (0, 0)) ∧ w.heap[b]? = some (.cells #[.int .i64 (k : Nat)] 3 (0, 0))
  | .move n n' k => n.size ≤ maxLen ∧ n'.size ≤ maxLen ∧ k ≤ 9223372036854775807 ∧ ∃ a b d, v = .func (.func 53) #[] #[.pointer (some ⟨a, 0, none⟩), .pointer (some ⟨d, 0, none⟩), .pointer (some ⟨b, 0, none⟩)] ∧ w.heap[a]? = some (.cells #[.string n] 9 (0, 0)) ∧ w.heap[b]? = some (.cells #[.string n'] 9 (0, 0)) ∧ w.heap[d]? = some (.cells #[.int .i64 (k : Nat)] 3 (0, 0))
  | .del n => n.size ≤ maxLen ∧ ∃ a, v = .func (.func 70) #[] #[.pointer (some ⟨a, 0, none⟩)] ∧ w.heap[a]? = some (.cells #[.string n] 9 (0, 0))
def CPend (w : World) (c : List Value) (p : Pend) : Prop := ∃ v, c = [.string p.dir, .int .i64 (p.file : Nat), v] ∧ ChgAt w p.chg v
def FsMem.own (M : FsMem) : List Nat := M.fb :: M.fm :: M.nm :: M.dm :: (M.pv.ownBlock.toList ++ M.fl.flatMap fun f => f.1 :: f.2.ownBlock.toList)
theorem strK : Keyed Tryd.prog 9 := string_keyed Tryd.underlying9
theorem intK : Keyed Tryd.prog 3 := int_keyed Tryd.underlying3
abbrev OwnN (w : World) (b : Nat) (D : Dm) : Prop := w.ownsMap Tryd.prog 9 (plainElem Tryd.prog 3) b (Maps.size D) D
structure FsAt (w : World) (M : FsMem) (S : FsSt) : Prop where
  blk : w.heap[M.fb]? = some (.cells #[.int .i64 (S.quota : Nat), .map (some M.fm), .int .i64 (S.last : Nat), .map (some M.nm), .map (some M.dm), .int .i64 S.size, M.pv, .int .i64 (S.steps : Nat), .int .i64 (S.armed : Nat), .bool S.down] 63 (0, 0))
  names : OwnN w M.nm S.names
  dur : OwnN w M.dm S.dur
  natN : Nats S.names
  natD : Nats S.dur
  files : w.ownsMap Tryd.prog 3 RPtr M.fm S.files.length (fD S.files M.fl)
  each : All2 (FileAt w) S.files M.fl
  pend : ∃ cs, All2 (CPend w) cs S.pend ∧ w.ownsRow 0 77 3 M.pv S.pend.length cs.flatten
  nodup : M.own.Nodup
end Go.Proofs.YtaolddgnannojaaDoor
