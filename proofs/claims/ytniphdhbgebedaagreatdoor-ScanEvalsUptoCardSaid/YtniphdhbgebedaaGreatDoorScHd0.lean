/-
  Plain: what is done with a token, by the table of a state; all of a text's tokens; what its front says.
-/
import Derived.Test.YtniphdhbgebedaaGreatDoorScSt
namespace Go.Proofs.YtniphdhbgebedaaGreatDoor

set_option linter.unusedSimpArgs false


def calS : Mk → St
  | .ended => .calledE
  | _ => .calledB
def doH (ok : List UInt8 → Bool) (err : List UInt8 → Int) (st : St) (d : Src) (t : Tok) : Hd → Res
  | .stay => .go st d
  | .to m => match mkSt m with
    | none => .done d
    | some s => .go s d
  | .b1 => if t.text = [112, 97, 99, 107, 97, 103, 101] then .go .pkg d else .fault t.line 11 d
  | .b2 => if d.rule ≠ [] then .fault t.line 12 d else if err t.text ≠ 0 then .fault t.line (err t.text) d else .go st { d with rule := t.text }
  | .b11 => .go .ended { d with pkg := t.text }
  | .path m => if ok t.text = true then (match mkSt m with
    | none => .done { d with imports := d.imports ++ [t.text] }
    | some s => .go s { d with imports := d.imports ++ [t.text] }) else .fault t.line 9 d
  | .called m => .go (calS m) d
theorem stepR_look (ok : List UInt8 → Bool) (err : List UInt8 → Int) (st : St) (hs : st ≠ .between) (d : Src) (t : Tok) :
    stepR ok err st d t = match look (tblS st) t.kind with
    | some h => doH ok err st d t h
    | none => .fault t.line 11 d := by
  obtain ⟨k, tx, ln⟩ := t
  have hc : ∀ j : UInt8, (j = k) = (k = j) := fun j => propext eq_comm
  cases st with
  | between => exact absurd rfl hs
  | begin_ =>
    simp only [stepR, tblS, look, hc]
    by_cases h1 : k = 59
    · simp [h1, doH]
    · by_cases h2 : k = 110
      · simp [h1, h2, doH]
      · by_cases h3 : k = 99
        · simp [h1, h2, h3, doH]
        · simp [h1, h2, h3]
  | pkg =>
    simp only [stepR, tblS, look, hc]
    by_cases h1 : k = 110
    · simp [h1, doH]
    · simp [h1]
  | ended =>
    simp only [stepR, tblS, look, hc]
    by_cases h1 : k = 59
    · simp [h1, doH, mkSt]
    · by_cases h2 : k = 69
      · simp [h1, h2, doH, mkSt]
      · by_cases h3 : k = 99
        · simp [h1, h2, h3, doH]
        · simp [h1, h2, h3]
  | imports =>
    simp only [stepR, tblS, look, hc]
    by_cases h1 : k = 40
    · simp [h1, doH, mkSt]
    · by_cases h2 : k = 115
      · simp [h1, h2, doH, mkSt]
      · by_cases h3 : k = 110
        · simp [h1, h2, h3, doH, calS]
        · by_cases h4 : k = 46
          · simp [h1, h2, h3, h4, doH, calS]
          · simp [h1, h2, h3, h4]
  | inside =>
    simp only [stepR, tblS, look, hc]
    by_cases h1 : k = 59
    · simp [h1, doH, mkSt]
    · by_cases h2 : k = 99
      · simp [h1, h2, doH, mkSt]
      · by_cases h3 : k = 41
        · simp [h1, h2, h3, doH, mkSt]
        · by_cases h4 : k = 115
          · simp [h1, h2, h3, h4, doH, mkSt]
          · by_cases h5 : k = 110
            · simp [h1, h2, h3, h4, h5, doH, calS]
            · by_cases h6 : k = 46
              · simp [h1, h2, h3, h4, h5, h6, doH, calS]
              · simp [h1, h2, h3, h4, h5, h6]
  | behind =>
    simp only [stepR, tblS, look, hc]
    by_cases h1 : k = 59
    · simp [h1, doH, mkSt]
    · by_cases h2 : k = 99
      · simp [h1, h2, doH, mkSt]
      · by_cases h3 : k = 41
        · simp [h1, h2, h3, doH, mkSt]
        · simp [h1, h2, h3]
  | calledE =>
    simp only [stepR, tblS, look, hc]
    by_cases h1 : k = 115
    · simp [h1, doH, mkSt]
    · simp [h1]
  | calledB =>
    simp only [stepR, tblS, look, hc]
    by_cases h1 : k = 115
    · simp [h1, doH, mkSt]
    · simp [h1]
/-- up to the first that is bad; whether one was -/
def cutB : List Tok → List Tok
  | [] => []
  | t :: r => if t.kind = 33 then [t] else t :: cutB r
def hasB (l : List Tok) : Bool := l.any fun t => t.kind == 33
def toksF : Nat → Lx → List Tok
  | 0, l => [⟨69, [], l.line⟩]
  | n + 1, l => if l.rest = [] then [⟨69, [], l.line⟩] else if hasB l.next.1 = true then cutB l.next.1 else l.next.1 ++ toksF n l.next.2
def toksL (s : List UInt8) : List Tok := toksF s.length ⟨s, 1, true⟩
/-- the reader over tokens -/
def rdL (ok : List UInt8 → Bool) (err : List UInt8 → Int) : St → Src → List Tok → Res
  | st, d, [] => .go st d
  | st, d, t :: r => match stepR ok err st d t with
    | .go st' d' => rdL ok err st' d' r
    | x => x
theorem rdL_snoc (ok : List UInt8 → Bool) (err : List UInt8 → Int) (l : List Tok) : ∀ (st : St) (d : Src) (t : Tok) (st' : St) (d' : Src), rdL ok err st d l = .go st' d' → rdL ok err st d (l ++ [t]) = stepR ok err st' d' t := by
  induction l with
  | nil =>
    intro st d t st' d' h
    cases h
    simp only [List.nil_append, rdL]
    cases stepR ok err st d t <;> rfl
  | cons a r ih =>
    intro st d t st' d' h
    simp only [List.cons_append, rdL] at h ⊢
    split at h
    · exact ih _ _ t _ _ h
    · rename_i h2
      exact absurd h (h2 st' d')
theorem rdL_append_end (ok : List UInt8 → Bool) (err : List UInt8 → Int) (l m : List Tok) : ∀ (st : St) (d : Src) (x : Res), rdL ok err st d l = x → (∀ st' d', x ≠ .go st' d') → rdL ok err st d (l ++ m) = x := by
  induction l with
  | nil => intro st d x h hx; exact absurd h.symm (hx _ _)
  | cons a r ih =>
    intro st d x h hx
    simp only [List.cons_append, rdL] at h ⊢
    split at h
    · exact ih _ _ x h hx
    · exact h
end Go.Proofs.YtniphdhbgebedaaGreatDoor
