/-
  few: it answers some bool, and reads only.
-/
import Derived.Test.YtpblaclhfcomeaaNew
namespace Go.Proofs.Ytpblaclhfcomeaa
open Go.RowKit Go.Maps

attribute [local go_sem] lt1 lt2 lt3 lt4 lt5 lt6

def SomeBool (w : World) (e : Ending) (w' : World) : Prop := ∃ b : Bool, e = .returned (.bool b) ∧ ∃ n, w' = w.drewN n
def FewRel (w : World) (len : Nat) (s i : Value) (wr : World) : Prop := ∃ (acc : Int) (k : Nat), s = .int .i64 acc ∧ 0 ≤ acc ∧ acc ≤ 40000 ∧ i = .int .i64 k ∧ k ≤ len ∧ k ≤ 100 ∧ ∃ n, wr = w.drewN n

set_option maxHeartbeats 4000000 in
set_option maxRecDepth 100000 in
theorem few_any (w : World) (ps : List (ByteArray × List UInt8)) (fs : List PFault) (A A2 : Option Addr) (c c2 : Nat) (hp : PgAt w A c ps) (hf : FtAt w A2 c2 fs) :
    Calls Try.prog 7 #[.slice A ps.length c, .slice A2 fs.length c2, .slice none 0 0] w (SomeBool w) := by
  have hpl : ps.length ≤ 9223372036854775807 := by have h1 := hp.le; have h2 := hp.big; unfold maxLen at h2; omega
  have hfl : fs.length ≤ 9223372036854775807 := by have h1 := hf.le; have h2 := hf.big; unfold maxLen at h2; omega
  have Hp := Lib.hid hp
  have Hf := Lib.hid hf
  clear hp hf
  go_enter Try.func7, Try.ntmps7
  go_wp2
  go_loopw [7, 8] (fun s i wr => FewRel w ps.length s i wr) (fun _ i _ => ps.length - (intOf i).toNat)
  case atStart => exact ⟨0, 0, rfl, by omega, by omega, rfl, by omega, by omega, 0, rfl⟩
  case round =>
    obtain ⟨acc, k, rfl, ha, hb, rfl, hk, hkh, n, rfl⟩ := hrel
    by_cases hgo : k < ps.length ∧ k < 100
    · obtain ⟨hlt, hlt2⟩ := hgo
      obtain ⟨b, o, rfl, hx⟩ := Hp.out.cells (by omega)
      obtain ⟨p, hpk⟩ : ∃ p, ps[k]? = some p := ⟨_, List.getElem?_eq_getElem hlt⟩
      obtain ⟨g1, hul, hdl, Ai, ci, g2, hbs⟩ := hx k p hpk
      have hu63 : p.1.size ≤ 9223372036854775807 := by unfold maxLen at hul; exact hul
      clear hpk hbs hx
      go_wp2_with fail
      go_quiet (fail)
      go_wp2
      go_roundw
      case rel => exact ⟨_, k + 1, rfl, by omega, by omega, by go_num, by omega, by omega, _, rfl⟩
      case measure => simp [intOf]; omega
    · have hways : ¬ k < ps.length ∨ (k < ps.length ∧ ¬ k < 100) := by omega
      clear hgo
      rcases hways with hlt | ⟨hlt, hlt2⟩
      all_goals
        go_wp2
        go_loopw [7, 9] (fun s i wr => FewRel w fs.length s i wr) (fun _ i _ => fs.length - (intOf i).toNat)
        case atStart => exact ⟨acc, 0, rfl, ha, hb, rfl, by omega, by omega, _, rfl⟩
        case round =>
          clear ha hb hlt hk hkh
          try clear hlt2
          obtain ⟨acc, k, rfl, ha, hb, rfl, hk, hkh, n, rfl⟩ := hrel
          by_cases hgo : k < fs.length ∧ k < 100
          · obtain ⟨hlt, hlt2⟩ := hgo
            obtain ⟨b, o, rfl, hx⟩ := Hf.out.cells (by omega)
            obtain ⟨f, hpk⟩ : ∃ f, fs[k]? = some f := ⟨_, List.getElem?_eq_getElem hlt⟩
            obtain ⟨hul, hdl, _, _, _, Ai, ci, hbs, g⟩ := hx k f hpk
            have g0 := g 0 (by omega)
            have g4 := g 4 (by omega)
            simp at g0 g4
            have hu63 : f.u.size ≤ 9223372036854775807 := by unfold maxLen at hul; exact hul
            clear hpk hbs hx g
            go_wp2_with fail
            go_quiet (fail)
            go_wp2
            go_roundw
            case rel => exact ⟨_, k + 1, rfl, by omega, by omega, by go_num, by omega, by omega, _, rfl⟩
            case measure => simp [intOf]; omega
          · have hways : ¬ k < fs.length ∨ (k < fs.length ∧ ¬ k < 100) := by omega
            clear hgo
            rcases hways with hlt | ⟨hlt, hlt2⟩
            all_goals
              go_wp2
              refine wp_loop_rounds 1 ?_
              rw [rounds_succ]
              go_wp2
              all_goals
                go_ret
                exact ⟨_, rfl, _, rfl⟩
end Go.Proofs.Ytpblaclhfcomeaa
