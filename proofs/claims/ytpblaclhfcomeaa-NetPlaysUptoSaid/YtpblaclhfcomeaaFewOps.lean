/-
  few, with a list of operations.
-/
import Derived.Test.YtpblaclhfcomeaaFew
namespace Go.Proofs.Ytpblaclhfcomeaa
open Go.RowKit Go.Maps

attribute [local go_sem] lt1 lt2 lt3 lt4 lt5 lt6

/-- an operation -/
structure POp where
  kind : Int
  u : ByteArray
  b : List UInt8
  f : PFault
def opCells (q : POp) (A : Option Addr) (c : Nat) (A2 : Option Addr) (c2 : Nat) : Array Value :=
  #[.int .i64 q.kind, .string q.u, .slice A q.b.length c, .string q.f.u, .int .i64 q.f.att, .int .i64 q.f.kind, .int .i64 q.f.n, .slice A2 q.f.data.length c2]
structure OpIn (w : World) (b o : Nat) (q : POp) : Prop where
  usz : q.u.size ≤ 1048575
  bsz : q.b.length ≤ 1048575
  fusz : q.f.u.size ≤ 1048575
  fdsz : q.f.data.length ≤ 1048575
  kd : -9223372036854775808 ≤ q.kind ∧ q.kind ≤ 9223372036854775807
  fatt : -9223372036854775808 ≤ q.f.att ∧ q.f.att ≤ 9223372036854775807
  fkd : -9223372036854775808 ≤ q.f.kind ∧ q.f.kind ≤ 9223372036854775807
  fn : -9223372036854775808 ≤ q.f.n ∧ q.f.n ≤ 9223372036854775807
  cells : ∃ A c A2 c2, Bs w A c q.b ∧ Bs w A2 c2 q.f.data ∧ ∀ j, j < 8 → w.cell? ⟨b, o + j, none⟩ = (opCells q A c A2 c2)[j]?
theorem OpIn.keep {w w' : World} {b o : Nat} {q : POp} (h : OpIn w b o q) (hc : Cells w w') : OpIn w' b o q := by
  obtain ⟨A, c, A2, c2, h1, h2, h3⟩ := h.cells
  refine ⟨h.usz, h.bsz, h.fusz, h.fdsz, h.kd, h.fatt, h.fkd, h.fn, A, c, A2, c2, h1.keep hc, h2.keep hc, fun j hj => ?_⟩
  have := h3 j hj
  have hs : (opCells q A c A2 c2)[j]? = some ((opCells q A c A2 c2)[j]'(by simpa [opCells] using hj)) := Array.getElem?_eq_getElem _
  rw [hs] at this ⊢
  exact hc _ _ this
/-- a slice of operations -/
structure OpAt (w : World) (A : Option Addr) (cap : Nat) (l : List POp) : Prop where
  nil : A = none → l = [] ∧ cap = 0
  le : l.length ≤ cap
  big : cap ≤ maxLen
  cells : 0 < l.length → ∃ b o, A = some ⟨b, o, none⟩ ∧ ∀ i q, l[i]? = some q → OpIn w b (o + i * 8) q
theorem OpAt.keep {w w' : World} {A : Option Addr} {cap : Nat} {l : List POp} (h : OpAt w A cap l) (hc : Cells w w') : OpAt w' A cap l :=
  ⟨h.nil, h.le, h.big, fun hp => by
    obtain ⟨b, o, rfl, hx⟩ := h.cells hp
    exact ⟨b, o, rfl, fun i q hi => (hx i q hi).keep hc⟩⟩

def FewPost (w : World) (a b c : Nat) (e : Ending) (w' : World) : Prop := ∃ r : Bool, e = .returned (.bool r) ∧ (r = true → a ≤ 100 ∧ b ≤ 100 ∧ c ≤ 200) ∧ ∃ n, w' = w.drewN n
def FewRel2 (w : World) (len top : Nat) (s i : Value) (wr : World) : Prop := ∃ (acc : Int) (k : Nat), s = .int .i64 acc ∧ 0 ≤ acc ∧ acc ≤ 40000 ∧ i = .int .i64 k ∧ k ≤ len ∧ k ≤ top ∧ ∃ n, wr = w.drewN n

set_option maxHeartbeats 4000000 in
set_option maxRecDepth 100000 in
theorem few_ops (w : World) (ps : List (ByteArray × List UInt8)) (fs : List PFault) (qs : List POp) (A A2 A3 : Option Addr) (c c2 c3 : Nat) (hp : PgAt w A c ps) (hf : FtAt w A2 c2 fs) (hq : OpAt w A3 c3 qs) :
    Calls Try.prog 7 #[.slice A ps.length c, .slice A2 fs.length c2, .slice A3 qs.length c3] w (FewPost w ps.length fs.length qs.length) := by
  have hpl : ps.length ≤ 9223372036854775807 := by have h1 := hp.le; have h2 := hp.big; unfold maxLen at h2; omega
  have hfl : fs.length ≤ 9223372036854775807 := by have h1 := hf.le; have h2 := hf.big; unfold maxLen at h2; omega
  have hql : qs.length ≤ 9223372036854775807 := by have h1 := hq.le; have h2 := hq.big; unfold maxLen at h2; omega
  have Hp := Lib.hid hp
  have Hf := Lib.hid hf
  have Hq := Lib.hid hq
  clear hp hf hq
  go_enter Try.func7, Try.ntmps7
  go_wp2
  go_loopw [7, 8] (fun s i wr => FewRel w ps.length s i wr) (fun _ i _ => ps.length - (intOf i).toNat)
  case atStart => exact ⟨0, 0, rfl, by omega, by omega, rfl, by omega, by omega, 0, rfl⟩
  case round =>
    obtain ⟨acc, k, rfl, ha, hb, rfl, hk, hkh, n, rfl⟩ := hrel
    by_cases hgo : k < ps.length ∧ k < 100
    · obtain ⟨hlt, hlt2⟩ := hgo
      obtain ⟨b, o, rfl, hx⟩ := Hp.out.cells (by omega)
      obtain ⟨p, hpk⟩ : ∃ p, ps[k]? = some p := ⟨_, List.getElem?_eq_getElem hlt⟩
      obtain ⟨g1, hul, hdl, Ai, ci, g2, hbs⟩ := hx k p hpk
      have hu63 : p.1.size ≤ 9223372036854775807 := by unfold maxLen at hul; exact hul
      clear hpk hbs hx
      go_wp2_with fail
      go_quiet (fail)
      go_wp2
      go_roundw
      case rel => exact ⟨_, k + 1, rfl, by omega, by omega, by go_num, by omega, by omega, _, rfl⟩
      case measure => simp [intOf]; omega
    · have hways : ¬ k < ps.length ∨ (k < ps.length ∧ ¬ k < 100) := by omega
      clear hgo
      rcases hways with hlt | ⟨hlt, hlt2⟩
      all_goals
        go_wp2
        go_loopw [7, 9] (fun s i wr => FewRel w fs.length s i wr) (fun _ i _ => fs.length - (intOf i).toNat)
        case atStart => exact ⟨acc, 0, rfl, ha, hb, rfl, by omega, by omega, _, rfl⟩
        case round =>
          clear ha hb hlt hk hkh
          try clear hlt2
          obtain ⟨acc, k, rfl, ha, hb, rfl, hk, hkh, n, rfl⟩ := hrel
          by_cases hgo : k < fs.length ∧ k < 100
          · obtain ⟨hlt, hlt2⟩ := hgo
            obtain ⟨b, o, rfl, hx⟩ := Hf.out.cells (by omega)
            obtain ⟨f, hpk⟩ : ∃ f, fs[k]? = some f := ⟨_, List.getElem?_eq_getElem hlt⟩
            obtain ⟨hul, hdl, _, _, _, Ai, ci, hbs, g⟩ := hx k f hpk
            have g0 := g 0 (by omega)
            have g4 := g 4 (by omega)
            simp at g0 g4
            have hu63 : f.u.size ≤ 9223372036854775807 := by unfold maxLen at hul; exact hul
            clear hpk hbs hx g
            go_wp2_with fail
            go_quiet (fail)
            go_wp2
            go_roundw
            case rel => exact ⟨_, k + 1, rfl, by omega, by omega, by go_num, by omega, by omega, _, rfl⟩
            case measure => simp [intOf]; omega
          · have hways : ¬ k < fs.length ∨ (k < fs.length ∧ ¬ k < 100) := by omega
            clear hgo
            rcases hways with hlt | ⟨hlt, hlt2⟩
            all_goals
              go_wp2
              go_loopw [7, 10] (fun s i wr => FewRel2 w qs.length 200 s i wr) (fun _ i _ => qs.length - (intOf i).toNat)
              case atStart => exact ⟨acc, 0, rfl, ha, hb, rfl, by omega, by omega, _, rfl⟩
              case round =>
                clear ha hb hlt hk hkh
                try clear hlt2
                obtain ⟨acc, k, rfl, ha, hb, rfl, hk, hkh, n, rfl⟩ := hrel
                by_cases hgo : k < qs.length ∧ k < 200
                · obtain ⟨hlt, hlt2⟩ := hgo
                  obtain ⟨b, o, rfl, hx⟩ := Hq.out.cells (by omega)
                  obtain ⟨q, hpk⟩ : ∃ q, qs[k]? = some q := ⟨_, List.getElem?_eq_getElem hlt⟩
                  have hin := hx k q hpk
                  have e1 := hin.usz
                  have e2 := hin.bsz
                  have e3 := hin.fusz
                  have e4 := hin.fdsz
                  obtain ⟨Ai, ci, Aj, cj, _, _, g⟩ := hin.cells
                  have g1 := g 1 (by omega)
                  have g2 := g 2 (by omega)
                  have g3 := g 3 (by omega)
                  have g7 := g 7 (by omega)
                  simp [opCells] at g1 g2 g3 g7
                  clear hpk hx g hin
                  go_wp2_with fail
                  go_quiet (fail)
                  go_wp2
                  go_roundw
                  case rel => exact ⟨_, k + 1, rfl, by omega, by omega, by go_num, by omega, by omega, _, rfl⟩
                  case measure => simp [intOf]; omega
                · have hways : ¬ k < qs.length ∨ (k < qs.length ∧ ¬ k < 200) := by omega
                  clear hgo
                  rcases hways with hlt | ⟨hlt, hlt2⟩
                  all_goals
                    go_wp2
                  all_goals
                    go_ret
                    exact ⟨_, rfl, fun hr => by first | omega | (revert hr; decide) | (simp at hr), _, rfl⟩
end Go.Proofs.Ytpblaclhfcomeaa
