/-
  A file system, plain: its lists of files; what a crash leaves.
-/
import Derived.Test.YtaolddgnannojaaDoorFsPl
import Derived.Test.YtaolddgnannojaaDoorFsFl
namespace Go.Proofs.YtaolddgnannojaaDoor
open Go.RowKit Go.Maps

def dataNo (fs : List (Nat × FileC)) (k : Nat) : List UInt8 := match numF fs k with
  | some c => c.d
  | none => []
def durNo (fs : List (Nat × FileC)) (k : Nat) : List UInt8 := match numF fs k with
  | some c => c.d.take c.sy
  | none => []
def mkS (x : List UInt8) : ByteArray := ⟨x.toArray⟩
theorem mkS_toL (s : ByteArray) : mkS (toL s) = s := by unfold mkS toL; simp
theorem toL_mkS (x : List UInt8) : toL (mkS x) = x := by unfold mkS toL; simp
/-- a map's names, sorted -/
def keysOf (D : Dm) : List ByteArray := ((strKeys D).mergeSort leB).map mkS
def below (dir : ByteArray) (x : List UInt8) : Bool := (dir.size == 0) || Lib.hasPrefix x (dir ++ ⟨#[47]⟩ : ByteArray).data.toList
def FsSt.listed (S : FsSt) (dir : ByteArray) : List ByteArray := (((strKeys S.names).filter (below dir)).mergeSort leB).map mkS
def FsSt.filesL (S : FsSt) : List Fl := (keysOf S.names).map fun s => (s, dataNo S.files (nget S.names s))
def FsSt.durL (S : FsSt) : List Fl := (keysOf S.dur).map fun s => (s, durNo S.files (nget S.dur s))
theorem listed_all (S : FsSt) : S.listed ⟨#[]⟩ = keysOf S.names := by
  unfold FsSt.listed keysOf
  have : (strKeys S.names).filter (below ⟨#[]⟩) = strKeys S.names := List.filter_eq_self.2 fun x _ => rfl
  rw [this]
theorem mem_strKeys {D : Dm} (h : DirOk D) {x : List UInt8} : x ∈ strKeys D ↔ nget D (mkS x) ≠ 0 := by
  rw [← h.has_iff]
  obtain ⟨es, rfl, h1, h2⟩ := h.canon
  rw [has_eq, List.any_eq_true]
  show x ∈ es.map (fun p => strOf p.1) ↔ _
  rw [List.mem_map]
  constructor
  · rintro ⟨p, hp, rfl⟩
    obtain ⟨s, hs, _⟩ := h.str p.1 (List.any_eq_true.2 ⟨p, hp, WideAt.sameKey_self (h2 p hp)⟩)
    refine ⟨p, hp, ?_⟩
    rw [hs]
    have : mkS (strOf (sk s)) = s := mkS_toL s
    rw [this]
    exact WideAt.sameKey_self (sk_key s)
  · rintro ⟨p, hp, hk⟩
    refine ⟨p, hp, ?_⟩
    rw [WideAt.sameKey_eq hk]
    exact toL_mkS x
theorem mem_keysOf {D : Dm} (h : DirOk D) {s : ByteArray} : s ∈ keysOf D ↔ nget D s ≠ 0 := by
  unfold keysOf
  rw [List.mem_map]
  constructor
  · rintro ⟨x, hx, rfl⟩
    exact (mem_strKeys h).1 (List.mem_mergeSort.1 hx)
  · intro hn
    refine ⟨toL s, List.mem_mergeSort.2 ((mem_strKeys h).2 ?_), mkS_toL s⟩
    rw [mkS_toL]
    exact hn
theorem strKeys_len {D : Dm} (h : DirOk D) : (strKeys D).length = Maps.size D := by
  obtain ⟨es, rfl, h1, h2⟩ := h.canon
  show (es.map _).length = es.length
  simp
theorem keysOf_len {D : Dm} (h : DirOk D) : (keysOf D).length = Maps.size D := by
  unfold keysOf
  rw [List.length_map, List.length_mergeSort, strKeys_len h]
/-! ### a crash -/
def cutF (m : Nat) (c : FileC) : FileC := ⟨c.d.take (c.sy + min m (c.d.length - c.sy)), c.sy + min m (c.d.length - c.sy)⟩
def crashN (S : FsSt) (n : Int) : Nat := (min (max n 0) (S.pend.length : Int)).toNat
theorem crashN_le (S : FsSt) (n : Int) : crashN S n ≤ S.pend.length := by unfold crashN; omega
def FsSt.crashD (S : FsSt) (n : Int) : Dm := durOf S.dur (S.pend.take (crashN S n))
def FsSt.crash1 (S : FsSt) (n : Int) : FsSt := { S with dur := S.crashD n, pend := [], names := S.crashD n }
def FsSt.cutAll (S : FsSt) (m : Nat) : FsSt := { S with files := S.files.map fun e => (e.1, cutF m e.2) }
def sumNo (fs : List (Nat × FileC)) (D : Dm) : Nat := ((vals D).map fun k => (dataNo fs k).length).sum
def FsSt.summed (S : FsSt) : FsSt := { S with size := sumNo S.files S.names }
def FsSt.crash (S : FsSt) (n m : Int) : FsSt := { ((((S.crash1 n).settle 0).cutAll (max m 0).toNat).summed) with armed := 0, down := false }
theorem cutF_len {m : Nat} {c : FileC} (h : c.sy ≤ c.d.length) : (cutF m c).sy = (cutF m c).d.length ∧ (cutF m c).d.length ≤ c.d.length ∧ (cutF m c).d.take c.sy = c.d.take c.sy ∧ (cutF m c).d.length = c.sy + min m (c.d.length - c.sy) := by
  unfold cutF
  simp only [List.length_take, List.take_take]
  refine ⟨by omega, by omega, ?_, by omega⟩
  congr 1
  omega
theorem cutF_again {m' : Nat} {c : FileC} (h : c.sy = c.d.length) : cutF m' c = c := by
  cases c with
  | mk d sy =>
    simp only at h
    subst h
    unfold cutF
    simp
theorem good_crash1 {K : Nat} {S : FsSt} (h : FsGood K S) (n : Int) : FsGood K (S.crash1 n) := by
  obtain ⟨h1, h2⟩ := h.durs (crashN S n)
  have hr := h.room
  have hm := h.inv
  have htl : (S.pend.take (crashN S n)).length ≤ S.pend.length := by rw [List.length_take]; omega
  have hno : NamesOk (S.crash1 n) (S.crashD n) K := ⟨by unfold FsSt.crashD; omega, fun _ hs => h1.dir.short hs, fun s hs => (FsSt.idx_iff _ _).2 (h1.has s hs), h1.most⟩
  exact ⟨⟨hm.quota, hm.last, hm.ord, hm.rng, hm.many, hm.sy, hno, hno, Nat.zero_le _, fun p hp => by simp [FsSt.crash1] at hp, hm.size, hm.steps, hm.armed⟩, h1.dir, h1.dir, by show Maps.size (S.crashD n) + 0 ≤ K; unfold FsSt.crashD; omega⟩
theorem good_cutAll {K : Nat} {S : FsSt} (h : FsGood K S) (m : Nat) : FsGood K (S.cutAll m) := by
  have hm := h.inv
  have hf : (S.files.map fun e => (e.1, cutF m e.2)).map (·.1) = S.files.map (·.1) := by rw [List.map_map]; rfl
  have hs : ∀ k, k ∈ S.files.map (·.1) → k ∈ (S.files.map fun e => (e.1, cutF m e.2)).map (·.1) := fun k hk => by rw [hf]; exact hk
  refine ⟨⟨hm.quota, hm.last, by show ((S.files.map fun e => (e.1, cutF m e.2)).map (·.1)).Pairwise _; rw [hf]; exact hm.ord, ?_, ?_, ?_, hm.names.mono (Nat.le_refl _) hs, hm.dur.mono (Nat.le_refl _) hs, hm.pends, fun p hp => (hm.pend p hp).mono (Nat.le_refl _) hs, hm.size, hm.steps, hm.armed⟩, h.dn, h.dd, h.room⟩
  · intro e he
    obtain ⟨e', he', rfl⟩ := List.mem_map.1 he
    exact hm.rng e' he'
  · show (S.files.map _).length ≤ K
    rw [List.length_map]
    exact hm.many
  · intro e he
    obtain ⟨e', he', rfl⟩ := List.mem_map.1 he
    have h1 := hm.sy e' he'
    have h2 := cutF_len (m := m) h1.1
    exact ⟨by show (cutF m e'.2).sy ≤ (cutF m e'.2).d.length; omega, by show (cutF m e'.2).d.length ≤ K; omega⟩
theorem vals_len {D : Dm} (h : DirOk D) : (vals D).length = Maps.size D := by
  obtain ⟨es, rfl, h1, h2⟩ := h.canon
  show (es.map _).length = es.length
  simp
theorem dataNo_le {K : Nat} {S : FsSt} (h : FsInv K S) (k : Nat) : (dataNo S.files k).length ≤ K := by
  unfold dataNo
  split
  · rename_i c hc
    exact (h.sy _ (numF_mem hc)).2
  · exact Nat.zero_le _
theorem sum_le {l : List Nat} {f : Nat → Nat} {K : Nat} (h : ∀ k ∈ l, f k ≤ K) : (l.map f).sum ≤ l.length * K := by
  induction l with
  | nil => simp
  | cons k l ih =>
    have h1 := h k (by simp)
    have h2 := ih fun j hj => h j (by simp [hj])
    simp only [List.map_cons, List.sum_cons, List.length_cons, Nat.succ_mul]
    omega
theorem sumNo_le {K : Nat} {S : FsSt} (h : FsInv K S) {D : Dm} (hD : DirOk D) (hs : Maps.size D ≤ K) : sumNo S.files D ≤ K * K := by
  unfold sumNo
  refine Nat.le_trans (sum_le fun k _ => dataNo_le h k) ?_
  rw [vals_len hD]
  exact Nat.mul_le_mul_right K hs
theorem good_summed {K : Nat} {S : FsSt} (h : FsGood K S) : FsGood K S.summed := by
  have h1 := sumNo_le h.inv h.dn h.inv.names.size
  refine h.sized (z := (sumNo S.files S.names : Nat)) (Nat.le_refl _) ⟨?_, ?_⟩
  · have : (0 : Int) ≤ (K : Int) * K := by exact_mod_cast Nat.zero_le (K * K)
    omega
  · exact_mod_cast h1
theorem good_crash {K : Nat} {S : FsSt} (h : FsGood K S) (n m : Int) : FsGood K (S.crash n m) := by
  have h1 := good_crash1 h n
  have h2 := good_settle h1 0 (Nat.zero_le _) (Nat.le_refl K) h1.inv.dur.size
  have h3 := good_summed (good_cutAll h2 (max m 0).toNat)
  have h4 := h3.arm 0 (by omega)
  exact ⟨⟨h4.inv.quota, h4.inv.last, h4.inv.ord, h4.inv.rng, h4.inv.many, h4.inv.sy, ⟨h4.inv.names.size, h4.inv.names.short, h4.inv.names.has, h4.inv.names.most⟩, ⟨h4.inv.dur.size, h4.inv.dur.short, h4.inv.dur.has, h4.inv.dur.most⟩, h4.inv.pends, h4.inv.pend, h4.inv.size, h4.inv.steps, h4.inv.armed⟩, h4.dn, h4.dd, h4.room⟩
theorem crash_names (S : FsSt) (n m : Int) : (S.crash n m).names = S.crashD n ∧ (S.crash n m).dur = S.crashD n ∧ (S.crash n m).pend = [] ∧ (S.crash n m).down = false ∧ (S.crash n m).armed = 0 ∧ (S.crash n m).quota = S.quota ∧ (S.crash n m).steps = S.steps := ⟨rfl, rfl, rfl, rfl, rfl, rfl, rfl⟩
theorem crash_file {K : Nat} {S : FsSt} (h : FsGood K S) (n m : Int) {s : ByteArray} (hs : nget (S.crashD n) s ≠ 0) :
    ∃ c, numF S.files (nget (S.crashD n) s) = some c ∧ c.sy ≤ c.d.length ∧ numF (S.crash n m).files (nget (S.crashD n) s) = some (cutF (max m 0).toNat c) := by
  obtain ⟨h1, h2⟩ := h.durs (crashN S n)
  obtain ⟨c, hc⟩ := numF_some (h1.has s hs)
  refine ⟨c, hc, (h.inv.sy _ (numF_mem hc)).1, ?_⟩
  show numF (List.map (fun e => (e.1, cutF (max m 0).toNat e.2)) (S.files.filter fun e => (usedL (S.crashD n) (S.crashD n) []).contains e.1)) (nget (S.crashD n) s) = _
  rw [numF_map, numF_filter (q := (usedL (S.crashD n) (S.crashD n) []).contains)]
  · show Option.map _ (numF S.files (nget (durOf S.dur (S.pend.take (crashN S n))) s)) = _
    rw [hc]
    rfl
  · rw [List.contains_iff_mem]
    unfold usedL
    exact List.mem_append_left _ (List.mem_append_left _ (vals_mem h1.dir hs))
/-- behind a crash all is durable -/
theorem crash_same {K : Nat} {S : FsSt} (h : FsGood K S) (n m : Int) : (S.crash n m).filesL = (S.crash n m).durL := by
  obtain ⟨h1, _⟩ := h.durs (crashN S n)
  unfold FsSt.filesL FsSt.durL
  refine List.map_congr_left fun s hs => ?_
  have hn := (mem_keysOf h1.dir).1 hs
  obtain ⟨c, _, hsy, h2⟩ := crash_file h n m hn
  show (s, dataNo (S.crash n m).files (nget (S.crashD n) s)) = (s, durNo (S.crash n m).files (nget (S.crashD n) s))
  unfold dataNo durNo
  rw [h2]
  simp only [Prod.mk.injEq, true_and]
  rw [List.take_of_length_le (by have := (cutF_len (m := (max m 0).toNat) hsy).1; omega)]
theorem crash_least {K : Nat} {S : FsSt} (h : FsGood K S) : (S.crash 0 0).filesL = S.durL := by
  have hD : S.crashD 0 = S.dur := by
    have : crashN S 0 = 0 := by unfold crashN; omega
    unfold FsSt.crashD
    rw [this]
    simp [durOf]
  unfold FsSt.filesL FsSt.durL
  rw [(crash_names S 0 0).1, hD]
  refine List.map_congr_left fun s hs => ?_
  have hn := (mem_keysOf h.dd).1 hs
  obtain ⟨c, h1, hsy, h2⟩ := crash_file h 0 0 (s := s) (by rw [hD]; exact hn)
  rw [hD] at h1 h2
  unfold dataNo durNo
  rw [h1, h2]
  simp only [Prod.mk.injEq, true_and]
  unfold cutF
  simp
theorem crash_again {K : Nat} {S : FsSt} (h : FsGood K S) (n m a b : Int) : ((S.crash n m).crash a b).filesL = (S.crash n m).filesL := by
  have hD : (S.crash n m).crashD a = S.crashD n := by
    unfold FsSt.crashD
    rw [(crash_names S n m).2.2.1, (crash_names S n m).2.1]
    simp [durOf, FsSt.crashD]
  obtain ⟨h1, _⟩ := h.durs (crashN S n)
  unfold FsSt.filesL
  rw [(crash_names _ a b).1, hD, (crash_names S n m).1]
  refine List.map_congr_left fun s hs => ?_
  have hn := (mem_keysOf h1.dir).1 hs
  obtain ⟨c, _, hsy, h2⟩ := crash_file h n m hn
  obtain ⟨c', h3, _, h4⟩ := crash_file (good_crash h n m) a b (s := s) (by rw [hD]; exact hn)
  rw [hD, h2] at h3
  cases h3
  rw [hD] at h4
  unfold dataNo
  rw [h4, h2, cutF_again (cutF_len hsy).1]
/-- no names kept by chance: the durable ones, some bytes more -/
theorem crash_none {K : Nat} {S : FsSt} (h : FsGood K S) {n : Int} (hn : n ≤ 0) (m : Int) :
    (S.crash n m).filesL.length = S.durL.length ∧ ∀ i, i < S.durL.length → ((S.crash n m).filesL.getD i noFl).1 = (S.durL.getD i noFl).1 ∧ (S.durL.getD i noFl).2.length ≤ ((S.crash n m).filesL.getD i noFl).2.length ∧
      (((S.crash n m).filesL.getD i noFl).2.length : Int) - (S.durL.getD i noFl).2.length ≤ max m 0 ∧ ((S.crash n m).filesL.getD i noFl).2.take (S.durL.getD i noFl).2.length = (S.durL.getD i noFl).2 := by
  have hD : S.crashD n = S.dur := by
    have : crashN S n = 0 := by unfold crashN; omega
    unfold FsSt.crashD
    rw [this]
    simp [durOf]
  unfold FsSt.filesL FsSt.durL
  rw [(crash_names S n m).1, hD]
  refine ⟨by simp, fun i hi => ?_⟩
  have hi' : i < (keysOf S.dur).length := by simpa using hi
  have e1 : ((keysOf S.dur).map fun s => (s, dataNo (S.crash n m).files (nget S.dur s))).getD i noFl = ((keysOf S.dur)[i], dataNo (S.crash n m).files (nget S.dur (keysOf S.dur)[i])) := by
    rw [List.getD_eq_getElem?_getD, List.getElem?_map, List.getElem?_eq_getElem hi']; rfl
  have e2 : ((keysOf S.dur).map fun s => (s, durNo S.files (nget S.dur s))).getD i noFl = ((keysOf S.dur)[i], durNo S.files (nget S.dur (keysOf S.dur)[i])) := by
    rw [List.getD_eq_getElem?_getD, List.getElem?_map, List.getElem?_eq_getElem hi']; rfl
  rw [e1, e2]
  generalize hs : (keysOf S.dur)[i] = s
  have hn := (mem_keysOf h.dd).1 (show s ∈ keysOf S.dur by rw [← hs]; exact List.getElem_mem hi')
  obtain ⟨c, h1, hsy, h2⟩ := crash_file h n m (s := s) (by rw [hD]; exact hn)
  rw [hD] at h1 h2
  unfold dataNo durNo
  rw [h1, h2]
  obtain ⟨k1, k2, k3, k4⟩ := cutF_len (m := (max m 0).toNat) hsy
  have k5 : (c.d.take c.sy).length = c.sy := by rw [List.length_take]; omega
  refine ⟨rfl, ?_, ?_, ?_⟩
  · show (c.d.take c.sy).length ≤ (cutF _ c).d.length
    omega
  · show ((cutF _ c).d.length : Int) - (c.d.take c.sy).length ≤ max m 0
    omega
  · show (cutF _ c).d.take (c.d.take c.sy).length = c.d.take c.sy
    rw [k5]
    exact k3
end Go.Proofs.YtaolddgnannojaaDoor
