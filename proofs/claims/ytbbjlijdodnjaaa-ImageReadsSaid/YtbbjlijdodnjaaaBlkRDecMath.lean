/- What the bytes of laid entries are read as, number by number. Plain: no program in sight. -/
import Derived.Test.YtbbjlijdodnjaaaBlkDecMath
namespace Go.Proofs.Ytbbjlijdodnjaaa

def Yes (cells : List Int) (V : List En) : Prop := MayP V ∧ encL V = cells
def offD (V : List En) (i : Nat) : Nat := (bodyB V i).length
def offN (V : List En) (i : Nat) : Nat := offD V i + (putL ((enAt V i).1 - baseAt V i).toNat).length
def offP (V : List En) (i k : Nat) : Nat := offN V i + (putL (enAt V i).2.length).length + (gapsB 0 ((enAt V i).2.take k)).length
def wasP (V : List En) (i k : Nat) : Int := ((enAt V i).2.take k).getLast?.getD 0

theorem Yes.text {cells : List Int} {V : List En} (h : Yes cells V) : ∃ z, textB cells = bodyB V V.length ++ z := by
  obtain ⟨hm, rfl⟩ := h
  have hlen := encL_len V
  obtain ⟨z, hz⟩ := pad_bytes (bodyB V V.length)
  exact ⟨z, by rw [textB, enc_from, enc_drop, hlen, show 1 + (V.length + 3) / 4 + ((bodyB V V.length).length + 3) / 4 - (1 + (V.length + 3) / 4) = ((bodyB V V.length).length + 3) / 4 from by omega, hz]⟩
theorem Yes.count {cells : List Int} {V : List En} (h : Yes cells V) : cells.getD 0 0 = (V.length : Int) := by
  obtain ⟨hm, rfl⟩ := h
  exact enc_head V
theorem Yes.head {cells : List Int} {V : List En} (h : Yes cells V) : headOk cells := by
  obtain ⟨hm, rfl⟩ := h
  exact (dec_enc hm).1
theorem offP_end (V : List En) (i : Nat) : offP V i (enAt V i).2.length = offD V (i + 1) := by
  rw [offP, List.take_length, offN, offD, offD, bodyB, entB]
  simp only [List.length_append]
  omega
theorem Yes.at_ {cells : List Int} {V : List En} (h : Yes cells V) (i : Nat) (hi : i < V.length) : ∃ r, textB cells = bodyB V i ++ (putL ((enAt V i).1 - baseAt V i).toNat ++ (putL (enAt V i).2.length ++ (gapsB 0 (enAt V i).2 ++ r))) := by
  obtain ⟨z, hz⟩ := h.text
  obtain ⟨r, hr⟩ := body_split V i V.length hi
  exact ⟨r ++ z, by rw [hz, hr, entB]; simp only [List.append_assoc]⟩
theorem Yes.doc {cells : List Int} {V : List En} (h : Yes cells V) (i : Nat) (hi : i < V.length) :
    getL (textB cells) (offD V i) = ⟨((enAt V i).1 - baseAt V i).toNat, offN V i, 0⟩ ∧ ((enAt V i).1 - baseAt V i).toNat ≤ 65535 := by
  obtain ⟨r, hr⟩ := h.at_ i hi
  have h1 := base_ok h.1 i hi
  have h2 := h.1.doc i hi
  have hg := get_mid (bodyB V i) (putL (enAt V i).2.length ++ (gapsB 0 (enAt V i).2 ++ r)) ((enAt V i).1 - baseAt V i).toNat (by omega)
  rw [List.append_assoc, ← hr] at hg
  exact ⟨hg, by omega⟩
theorem Yes.many {cells : List Int} {V : List En} (h : Yes cells V) (i : Nat) (hi : i < V.length) :
    getL (textB cells) (offN V i) = ⟨(enAt V i).2.length, offP V i 0, 0⟩ ∧ (enAt V i).2.length ≤ 256 := by
  obtain ⟨r, hr⟩ := h.at_ i hi
  have h2 := h.1.pos i hi
  have e2 : textB cells = (bodyB V i ++ putL ((enAt V i).1 - baseAt V i).toNat) ++ (putL (enAt V i).2.length ++ (gapsB 0 (enAt V i).2 ++ r)) := by rw [hr]; simp only [List.append_assoc]
  have hg := get_mid (bodyB V i ++ putL ((enAt V i).1 - baseAt V i).toNat) (gapsB 0 (enAt V i).2 ++ r) (enAt V i).2.length (by omega)
  rw [List.append_assoc, ← e2, List.length_append] at hg
  exact ⟨hg, h2.2.1⟩
theorem Yes.place {cells : List Int} {V : List En} (h : Yes cells V) (i : Nat) (hi : i < V.length) (k : Nat) (hk : k < (enAt V i).2.length) :
    getL (textB cells) (offP V i k) = ⟨((enAt V i).2[k] - wasP V i k).toNat, offP V i (k + 1), 0⟩ ∧ ((enAt V i).2[k] - wasP V i k).toNat ≤ 65535 ∧ wasP V i k + (((enAt V i).2[k] - wasP V i k).toNat : Int) = (enAt V i).2[k] := by
  obtain ⟨r, hr⟩ := h.at_ i hi
  have h2 := h.1.pos i hi
  have hb : 0 ≤ wasP V i k ∧ wasP V i k ≤ (enAt V i).2[k] ∧ (enAt V i).2[k] ≤ 65535 := last_ok (enAt V i).2 h2.2.2 k hk
  have hgap : gapsB 0 (enAt V i).2 = gapsB 0 ((enAt V i).2.take k) ++ (putL ((enAt V i).2[k] - wasP V i k).toNat ++ gapsB (enAt V i).2[k] ((enAt V i).2.drop (k + 1))) := by
    conv => lhs; rw [← List.take_append_drop k (enAt V i).2, gapsB_app, List.drop_eq_getElem_cons hk, gapsB]
    rfl
  have e3 : textB cells = (bodyB V i ++ putL ((enAt V i).1 - baseAt V i).toNat ++ putL (enAt V i).2.length ++ gapsB 0 ((enAt V i).2.take k)) ++ (putL ((enAt V i).2[k] - wasP V i k).toNat ++ (gapsB (enAt V i).2[k] ((enAt V i).2.drop (k + 1)) ++ r)) := by
    rw [hr, hgap]
    simp only [List.append_assoc]
  have hg := get_mid (bodyB V i ++ putL ((enAt V i).1 - baseAt V i).toNat ++ putL (enAt V i).2.length ++ gapsB 0 ((enAt V i).2.take k)) (gapsB (enAt V i).2[k] ((enAt V i).2.drop (k + 1)) ++ r) ((enAt V i).2[k] - wasP V i k).toNat (by omega)
  rw [List.append_assoc, ← e3] at hg
  simp only [List.length_append] at hg
  have e4 : (gapsB 0 ((enAt V i).2.take (k + 1))).length = (gapsB 0 ((enAt V i).2.take k)).length + (putL ((enAt V i).2[k] - wasP V i k).toNat).length := by
    rw [List.take_succ_eq_append_getElem hk, gapsB_snoc, List.length_append]
    rfl
  refine ⟨?_, by omega, by omega⟩
  rw [offP, offP, e4]
  simp only [offN, offD, Nat.add_assoc] at hg ⊢
  exact hg

/-- Where the numbers read so far fit every list that may lie there: the reading fails, so no list does. -/
theorem no_yes {cells : List Int} (h : ∀ V, ¬ Yes cells V) : decB cells = ([], 11) := decB_no (fun ⟨V, h1, h2⟩ => h V ⟨h1, h2⟩)
theorem decB_fin {cells : List Int} {L : List En} (h : ∀ V, Yes cells V → L = V) : decB cells = if encA L = (cells, 0) then (L, 0) else ([], 11) := by
  split
  · rename_i he
    obtain ⟨h1, h2⟩ := encA_ok he
    have := decB_yes h1
    rwa [h2] at this
  · rename_i he
    refine no_yes fun V hV => he ?_
    rw [h V hV, encA, if_pos (may_of hV.1), hV.2]

/-- The entries and the place are those of every list that may lie there. -/
def Inv (cells : List Int) (k : Nat) (L : List En) (p : Nat) : Prop := ∀ V, Yes cells V → L = V.take k ∧ p = offD V k
def Inv2 (cells : List Int) (k : Nat) (L : List En) (d : Int) (m t : Nat) (Ps : List Int) (p : Nat) : Prop :=
  ∀ V, Yes cells V → L = V.take k ∧ d = (enAt V k).1 ∧ m = (enAt V k).2.length ∧ Ps = (enAt V k).2.take t ∧ p = offP V k t
section
variable {cells : List Int} {tb : List UInt8} {N k p x nx er m n2 er2 t : Nat} {L : List En} {d : Int} {Ps : List Int}
theorem Yes.num {V : List En} (h : Yes cells V) (hN : cells.getD 0 0 = (N : Int)) : V.length = N := by
  have := h.count
  omega
theorem inv_0 : Inv cells 0 [] 0 := fun _ _ => ⟨rfl, rfl⟩
theorem inv_bad (htb : textB cells = tb) (hN : cells.getD 0 0 = (N : Int)) (hI : Inv cells k L p) (hk : k < N) (h : (getL tb p).err ≠ 0 ∨ 65535 < (getL tb p).n) : decB cells = ([], 11) :=
  no_yes fun V hV => by
    obtain ⟨_, rfl⟩ := hI V hV
    obtain ⟨h1, h2⟩ := hV.doc k (by rw [hV.num hN]; exact hk)
    rw [← htb, h1] at h
    rcases h with h | h
    · exact h rfl
    · simp only at h; omega
theorem inv_bad2 (htb : textB cells = tb) (hN : cells.getD 0 0 = (N : Int)) (hI : Inv cells k L p) (hk : k < N) (hg : getL tb p = ⟨x, nx, er⟩) (h : (getL tb nx).err ≠ 0 ∨ 256 < (getL tb nx).n) : decB cells = ([], 11) :=
  no_yes fun V hV => by
    obtain ⟨_, rfl⟩ := hI V hV
    have hkl : k < V.length := by rw [hV.num hN]; exact hk
    obtain ⟨h1, _⟩ := hV.doc k hkl
    obtain ⟨h2, h3⟩ := hV.many k hkl
    rw [← htb, h1] at hg
    injection hg with _ hg _
    rw [← htb, ← hg, h2] at h
    rcases h with h | h
    · exact h rfl
    · simp only at h; omega
theorem inv2_0 (htb : textB cells = tb) (hN : cells.getD 0 0 = (N : Int)) (hI : Inv cells k L p) (hk : k < N) (hg : getL tb p = ⟨x, nx, er⟩) (hg2 : getL tb nx = ⟨m, n2, er2⟩) (hd : d = (x : Int) + (if k % 4 = 0 then 0 else (enAt L (k - 1)).1)) :
    Inv2 cells k L d m 0 [] n2 := fun V hV => by
  obtain ⟨rfl, rfl⟩ := hI V hV
  have hkl : k < V.length := by rw [hV.num hN]; exact hk
  obtain ⟨h1, _⟩ := hV.doc k hkl
  obtain ⟨h2, h3⟩ := hV.many k hkl
  have hb := base_ok hV.1 k hkl
  rw [← htb, h1] at hg
  injection hg with hx hg _
  rw [← htb, ← hg, h2] at hg2
  injection hg2 with hm hn _
  refine ⟨rfl, ?_, hm.symm, rfl, hn.symm⟩
  have he : (if k % 4 = 0 then (0 : Int) else (enAt (V.take k) (k - 1)).1) = baseAt V k := by
    rw [baseAt]
    by_cases h4 : k % 4 = 0
    · rw [if_pos h4, if_pos h4]
    · rw [if_neg h4, if_neg h4, enAt, enAt, List.getD, List.getD, List.getElem?_take_of_lt (by omega)]
  rw [hd, he, ← hx]
  omega
theorem inv2_bad (htb : textB cells = tb) (hN : cells.getD 0 0 = (N : Int)) (hJ : Inv2 cells k L d m t Ps p) (hk : k < N) (ht : t < m) (h : (getL tb p).err ≠ 0 ∨ 65535 < (getL tb p).n) : decB cells = ([], 11) :=
  no_yes fun V hV => by
    obtain ⟨_, _, rfl, _, rfl⟩ := hJ V hV
    obtain ⟨h1, h2, _⟩ := hV.place k (by rw [hV.num hN]; exact hk) t ht
    rw [← htb, h1] at h
    rcases h with h | h
    · exact h rfl
    · simp only at h; omega
theorem inv2_step (htb : textB cells = tb) (hN : cells.getD 0 0 = (N : Int)) (hJ : Inv2 cells k L d m t Ps p) (hk : k < N) (ht : t < m) (hg : getL tb p = ⟨x, nx, er⟩) (v : Int) (hv : v = (x : Int) + Ps.getLast?.getD 0) :
    Inv2 cells k L d m (t + 1) (Ps ++ [v]) nx := fun V hV => by
  obtain ⟨h1, h2, rfl, rfl, rfl⟩ := hJ V hV
  obtain ⟨h3, h4, h5⟩ := hV.place k (by rw [hV.num hN]; exact hk) t ht
  rw [← htb, h3] at hg
  injection hg with hx hn _
  refine ⟨h1, h2, rfl, ?_, hn.symm⟩
  rw [List.take_succ_eq_append_getElem ht, hv, ← hx]
  have h6 : wasP V k t = ((enAt V k).2.take t).getLast?.getD 0 := rfl
  rw [← h6]
  congr 2
  omega
theorem inv2_end (hN : cells.getD 0 0 = (N : Int)) (hJ : Inv2 cells k L d m m Ps p) (hk : k < N) : Inv cells (k + 1) (L ++ [(d, Ps)]) p := fun V hV => by
  obtain ⟨rfl, rfl, rfl, rfl, rfl⟩ := hJ V hV
  have hkl : k < V.length := by rw [hV.num hN]; exact hk
  refine ⟨?_, offP_end V k⟩
  rw [List.take_succ_eq_append_getElem hkl, List.take_length, enAt_get V k hkl]
theorem inv_fin (hN : cells.getD 0 0 = (N : Int)) (hI : Inv cells N L p) : decB cells = if encA L = (cells, 0) then (L, 0) else ([], 11) :=
  decB_fin fun V hV => by
    obtain ⟨rfl, _⟩ := hI V hV
    rw [List.take_of_length_le (by rw [hV.num hN]; exact Nat.le_refl _)]
end
end Go.Proofs.Ytbbjlijdodnjaaa
