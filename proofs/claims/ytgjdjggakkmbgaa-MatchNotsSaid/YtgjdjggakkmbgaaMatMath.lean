/- Phrases in lists. Plain: no program in sight. -/
import Derived.Test.YtgjdjggakkmbgaaMayMath
namespace Go.Proofs.Ytgjdjggakkmbgaa

abbrev Fd := Int × Int
/-- The places of a document in a list. -/
def plcF (V : List En) (doc : Int) : List Int := ((V.find? (fun e => decide (e.1 = doc))).map (·.2)).getD []
def offA (T : List Int) (p : Int) (k : Nat) : Int := p - T.getD 0 0 + T.getD k 0
def hitK (T : List Int) (Ls : List (List En)) (doc p : Int) (k : Nat) : Bool := decide (offA T p k ∈ plcF (Ls.getD k []) doc)
/-- Is place p one of the phrase's, as far as the first m terms tell? -/
def okM (T : List Int) (Ls : List (List En)) (doc p : Int) (m : Nat) : Bool := (List.range m).all (hitK T Ls doc p)
def timesF (T : List Int) (Ls : List (List En)) (doc : Int) : Nat := (plcF (Ls.getD 0 []) doc).countP (fun p => okM T Ls doc p T.length)
def inRange (T : List Int) : Bool := T.all fun t => decide (0 ≤ t ∧ t ≤ 65535)
def foundF (T : List Int) (Ls : List (List En)) (e : En) : Option Fd := if 0 < timesF T Ls e.1 then some (e.1, (timesF T Ls e.1 : Int)) else none
def phP (T : List Int) (Ls : List (List En)) (j : Nat) : List Fd := ((Ls.getD 0 []).take j).filterMap (foundF T Ls)
def phF (T : List Int) (Ls : List (List En)) : List Fd := if T = [] ∨ T.length ≠ Ls.length ∨ inRange T = false then [] else phP T Ls (Ls.getD 0 []).length

theorem okM_0 (T : List Int) (Ls : List (List En)) (doc p : Int) : okM T Ls doc p 0 = true := rfl
theorem okM_s (T : List Int) (Ls : List (List En)) (doc p : Int) (m : Nat) : okM T Ls doc p (m + 1) = (okM T Ls doc p m && hitK T Ls doc p m) := by
  rw [okM, okM, List.range_succ, List.all_append]
  simp
theorem okM_no {T : List Int} {Ls : List (List En)} {doc p : Int} {m k : Nat} (hk : k < m) (h : hitK T Ls doc p k = false) : okM T Ls doc p m = false := by
  rw [okM, List.all_eq_false]
  exact ⟨k, List.mem_range.2 hk, by rw [h]; simp⟩
theorem okM_all {T : List Int} {Ls : List (List En)} {doc p : Int} {m : Nat} : okM T Ls doc p m = true ↔ ∀ k, k < m → hitK T Ls doc p k = true := by
  rw [okM, List.all_eq_true]
  exact ⟨fun h k hk => h k (List.mem_range.2 hk), fun h k hk => h k (List.mem_range.1 hk)⟩
theorem fm_take {α β : Type} (f : α → Option β) (l : List α) (j : Nat) (h : j < l.length) : (l.take (j + 1)).filterMap f = (l.take j).filterMap f ++ (f l[j]).toList := by
  rw [List.take_succ_eq_append_getElem h, List.filterMap_append]
  cases hf : f l[j] <;> simp [hf]
theorem phP_s (T : List Int) (Ls : List (List En)) (j : Nat) (h : j < (Ls.getD 0 []).length) : phP T Ls (j + 1) = phP T Ls j ++ (foundF T Ls (enAt (Ls.getD 0 []) j)).toList := by
  rw [phP, phP, fm_take _ _ _ h, enAt_get _ _ h]
theorem phP_len (T : List Int) (Ls : List (List En)) (j : Nat) : (phP T Ls j).length ≤ j := by
  rw [phP]
  have h1 := List.length_filterMap_le (foundF T Ls) ((Ls.getD 0 []).take j)
  rw [List.length_take] at h1
  omega

/-! ### Lists that may be -/
theorem plc_first (V : List En) (doc : Int) (i : Nat) (hi : i < V.length) (hd : (enAt V i).1 = doc) (hn : ∀ j, j < i → (enAt V j).1 ≠ doc) : plcF V doc = (enAt V i).2 := by
  have hf : V.find? (fun e => decide (e.1 = doc)) = some V[i] := by
    rw [List.find?_eq_some_iff_getElem]
    refine ⟨by rw [← enAt_get V i hi]; simpa using hd, i, hi, rfl, fun j hj => ?_⟩
    have := hn j hj
    rw [enAt_get V j (by omega)] at this
    simpa using this
  rw [plcF, hf, enAt_get V i hi]
  rfl
theorem plc_none (V : List En) (doc : Int) (hn : ∀ j, j < V.length → (enAt V j).1 ≠ doc) : plcF V doc = [] := by
  have hf : V.find? (fun e => decide (e.1 = doc)) = none := by
    rw [List.find?_eq_none]
    intro e he
    obtain ⟨j, hj, rfl⟩ := List.getElem_of_mem he
    have := hn j hj
    rw [enAt_get V j hj] at this
    simpa using this
  rw [plcF, hf]
  rfl
theorem doc_lt {V : List En} (hm : MayP V) (i j : Nat) (hij : i < j) (hj : j < V.length) : (enAt V i).1 < (enAt V j).1 := by
  induction j with
  | zero => omega
  | succ j ih =>
    have h1 := hm.up j hj
    by_cases h : i = j
    · subst h; exact h1
    · have := ih (by omega) (by omega)
      omega
theorem plc_may {V : List En} (hm : MayP V) (doc : Int) (i : Nat) (hi : i < V.length) (hd : (enAt V i).1 = doc) : plcF V doc = (enAt V i).2 :=
  plc_first V doc i hi hd fun j hj => by
    have := doc_lt hm j i hj hi
    omega
theorem plc_cases (V : List En) (doc : Int) : plcF V doc = [] ∨ ∃ i, i < V.length ∧ (enAt V i).1 = doc ∧ plcF V doc = (enAt V i).2 := by
  cases hf : V.find? (fun e => decide (e.1 = doc)) with
  | none => left; rw [plcF, hf]; rfl
  | some e =>
    obtain ⟨h1, i, hi, h2, _⟩ := List.find?_eq_some_iff_getElem.1 hf
    refine .inr ⟨i, hi, ?_, ?_⟩
    · rw [enAt_get V i hi, h2]; simpa using h1
    · rw [plcF, hf, enAt_get V i hi, h2]; rfl
theorem plc_ok {V : List En} (hm : MayP V) (doc : Int) : (plcF V doc).length ≤ 256 ∧ (∀ x ∈ plcF V doc, 0 ≤ x ∧ x ≤ 65535) ∧ rising (plcF V doc) = true := by
  rcases plc_cases V doc with h | ⟨i, hi, _, h⟩
  · rw [h]; exact ⟨by simp, by simp, rfl⟩
  · rw [h]
    have hp := hm.pos i hi
    exact ⟨hp.2.1, fun x hx => by have := rising_all _ _ hp.2.2 x hx; omega, hp.2.2⟩
theorem range_at {T : List Int} (h : inRange T = true) (k : Nat) (hk : k < T.length) : 0 ≤ T.getD k 0 ∧ T.getD k 0 ≤ 65535 := by
  have := List.all_eq_true.1 h T[k] (List.getElem_mem hk)
  rw [List.getD, List.getElem?_eq_getElem hk]
  simpa using this
theorem count_s (p : Int → Bool) (l : List Int) (t : Nat) (h : t < l.length) : (l.take (t + 1)).countP p = (l.take t).countP p + (if p l[t] = true then 1 else 0) := by
  rw [List.take_succ_eq_append_getElem h, List.countP_append, List.countP_singleton]
theorem may_at {Ls : List (List En)} (h : ∀ V ∈ Ls, MayP V) (k : Nat) (hk : k < Ls.length) : MayP (Ls.getD k []) := by
  rw [List.getD, List.getElem?_eq_getElem hk]
  exact h _ (List.getElem_mem hk)
theorem place_lt (P : List Int) (was : Int) (h : risingF was P = true) (i j : Nat) (hij : i < j) (hj : j < P.length) : P[i] < P[j] := by
  induction j with
  | zero => omega
  | succ j ih =>
    have h1 := rising_get _ _ h j hj
    by_cases h : i = j
    · subst h; exact h1
    · have := ih (by omega) (by omega)
      omega
end Go.Proofs.Ytgjdjggakkmbgaa
