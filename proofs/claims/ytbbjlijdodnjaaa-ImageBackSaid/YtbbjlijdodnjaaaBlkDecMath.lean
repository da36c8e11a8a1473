/- Cells read as a list of entries. Plain: no program in sight. -/
import Derived.Test.YtbbjlijdodnjaaaBlkMath
import Derived.Test.YtbbjlijdodnjaaaPackBytesA
namespace Go.Proofs.Ytbbjlijdodnjaaa

theorem word4_byte (l : List UInt8) (i : Nat) : word4 l (i / 4) / 256 ^ (i % 4) % 256 = byteD l i := by
  have h := byteD_lt l
  unfold word4
  have h0 := h (4 * (i / 4)); have h1 := h (4 * (i / 4) + 1); have h2 := h (4 * (i / 4) + 2); have h3 := h (4 * (i / 4) + 3)
  rcases (show i % 4 = 0 ∨ i % 4 = 1 ∨ i % 4 = 2 ∨ i % 4 = 3 from by omega) with e | e | e | e
  · have ei : i = 4 * (i / 4) := by omega
    rw [e, ← ei]; rw [← ei] at h0; simp; omega
  · have ei : i = 4 * (i / 4) + 1 := by omega
    rw [e, show byteD l i = byteD l (4 * (i / 4) + 1) from by rw [← ei]]; omega
  · have ei : i = 4 * (i / 4) + 2 := by omega
    rw [e, show byteD l i = byteD l (4 * (i / 4) + 2) from by rw [← ei]]; omega
  · have ei : i = 4 * (i / 4) + 3 := by omega
    rw [e, show byteD l i = byteD l (4 * (i / 4) + 3) from by rw [← ei]]; omega
theorem back_bytes (l : List UInt8) : bytesUp (cellsOf l ((l.length + 3) / 4)) l.length = l := by
  apply List.ext_getElem?
  intro i
  by_cases h : i < l.length
  · have e : byteOf (cellsOf l ((l.length + 3) / 4)) i = l[i] := by
      apply UInt8.toNat_inj.1
      rw [byteOf_nat, List.getD, List.getElem?_eq_getElem (by rw [cellsOf_length]; omega), Option.getD_some, cellsOf_get, Int.toNat_natCast, word4_byte]
      unfold byteD
      rw [List.getD, List.getElem?_eq_getElem h, Option.getD_some]
    simp [bytesUp, h, e]
  · simp [bytesUp, h]
theorem bytesUp_take (l : List Int) (n m : Nat) (h : m ≤ n) : (bytesUp l n).take m = bytesUp l m := by
  rw [bytesUp, bytesUp, ← List.map_take, List.take_range, Nat.min_eq_left h]
theorem pad_bytes (l : List UInt8) : ∃ z, bytesUp (cellsB l) (4 * ((l.length + 3) / 4)) = l ++ z := by
  refine ⟨(bytesUp (cellsB l) (4 * ((l.length + 3) / 4))).drop l.length, ?_⟩
  have h := bytesUp_take (cellsB l) (4 * ((l.length + 3) / 4)) l.length (by omega)
  rw [cellsB, back_bytes] at h
  conv => lhs; rw [← List.take_append_drop l.length (bytesUp (cellsB l) (4 * ((l.length + 3) / 4)))]
  rw [cellsB, h]

/-- The next number: 0 where one is missing or was missing. -/
def nextR (b : List UInt8) (s : Nat × Bool) : Int × (Nat × Bool) :=
  if s.2 = true ∨ (getL b s.1).err ≠ 0 then (0, (s.1, true)) else ((min (getL b s.1).n 65536 : Nat), ((getL b s.1).next, false))
/-- The places, the last one, the reader behind k numbers. -/
def posSt (b : List UInt8) (s : Nat × Bool) : Nat → List Int × Int × (Nat × Bool)
  | 0 => ([], 0, s)
  | k + 1 => ((posSt b s k).1 ++ [(posSt b s k).2.1 + (nextR b (posSt b s k).2.2).1], (posSt b s k).2.1 + (nextR b (posSt b s k).2.2).1, (nextR b (posSt b s k).2.2).2)
/-- One entry: its document's distance, how many places, the places. -/
def entR (b : List UInt8) (w0 : Int) (s : Nat × Bool) : En × (Nat × Bool) :=
  ((w0 + (nextR b s).1, (posSt b (nextR b (nextR b s).2).2 (min (nextR b (nextR b s).2).1 257).toNat).1), (posSt b (nextR b (nextR b s).2).2 (min (nextR b (nextR b s).2).1 257).toNat).2.2)
def entSt (b : List UInt8) : Nat → List En × Int × (Nat × Bool)
  | 0 => ([], 0, (0, false))
  | i + 1 => ((entSt b i).1 ++ [(entR b (if i % 4 = 0 then 0 else (entSt b i).2.1) (entSt b i).2.2).1], (entR b (if i % 4 = 0 then 0 else (entSt b i).2.1) (entSt b i).2.2).1.1, (entR b (if i % 4 = 0 then 0 else (entSt b i).2.1) (entSt b i).2.2).2)

theorem next_at (pre post : List UInt8) (n : Nat) (h : n ≤ 65535) : nextR (pre ++ (putL n ++ post)) (pre.length, false) = ((n : Int), (pre.length + (putL n).length, false)) := by
  have hg := get_mid pre post n (by omega)
  rw [List.append_assoc] at hg
  rw [nextR, hg, if_neg (by simp)]
  simp only [Nat.min_eq_left (show n ≤ 65536 by omega)]
theorem gapsB_app (l m : List Int) (a : Int) : gapsB a (l ++ m) = gapsB a l ++ gapsB (l.getLast?.getD a) m := by
  induction l generalizing a with
  | nil => rfl
  | cons x l ih =>
    rw [List.cons_append, gapsB, gapsB, ih, List.append_assoc]
    cases l with
    | nil => rfl
    | cons y l => simp [List.getLast?_cons]
theorem last_ok (P : List Int) (hr : rising P = true) (t : Nat) (h : t < P.length) : 0 ≤ (P.take t).getLast?.getD 0 ∧ (P.take t).getLast?.getD 0 ≤ P[t] ∧ P[t] ≤ 65535 := by
  have h1 := rising_all _ _ hr
  have h3 := h1 P[t] (List.getElem_mem h)
  cases t with
  | zero =>
    simp only [List.take_zero, List.getLast?_nil, Option.getD_none]
    omega
  | succ t =>
    have h2 := rising_get _ _ hr t h
    have h4 := h1 P[t] (List.getElem_mem (by omega))
    rw [List.take_succ_eq_append_getElem (show t < P.length by omega), List.getLast?_concat]
    show 0 ≤ P[t] ∧ P[t] ≤ P[t + 1] ∧ P[t + 1] ≤ 65535
    omega
theorem pos_at (pre post : List UInt8) (P : List Int) (hr : rising P = true) (k : Nat) (hk : k ≤ P.length) :
    posSt (pre ++ (gapsB 0 P ++ post)) (pre.length, false) k = (P.take k, (P.take k).getLast?.getD 0, (pre.length + (gapsB 0 (P.take k)).length, false)) := by
  induction k with
  | zero => simp [posSt, gapsB]
  | succ k ih =>
    have hb := last_ok P hr k (by omega)
    have hsplit : pre ++ (gapsB 0 P ++ post) = (pre ++ gapsB 0 (P.take k)) ++ (putL (P[k] - (P.take k).getLast?.getD 0).toNat ++ (gapsB P[k] (P.drop (k + 1)) ++ post)) := by
      conv => lhs; rw [← List.take_append_drop k P, gapsB_app, List.drop_eq_getElem_cons (show k < P.length by omega), gapsB]
      simp only [List.append_assoc]
    have hn := next_at (pre ++ gapsB 0 (P.take k)) (gapsB P[k] (P.drop (k + 1)) ++ post) (P[k] - (P.take k).getLast?.getD 0).toNat (by omega)
    rw [← hsplit, List.length_append] at hn
    have hv : (P.take k).getLast?.getD 0 + ((P[k] - (P.take k).getLast?.getD 0).toNat : Int) = P[k] := by omega
    have hg : (gapsB 0 (P.take (k + 1))).length = (gapsB 0 (P.take k)).length + (putL (P[k] - (P.take k).getLast?.getD 0).toNat).length := by
      rw [List.take_succ_eq_append_getElem (show k < P.length by omega), gapsB_snoc, List.length_append]
    rw [posSt, ih (by omega)]
    simp only [hn, hv]
    rw [List.take_succ_eq_append_getElem (show k < P.length by omega), List.getLast?_concat, ← List.take_succ_eq_append_getElem (show k < P.length by omega), hg, Nat.add_assoc]
    rfl
theorem body_split (V : List En) (i n : Nat) (h : i < n) : ∃ r, bodyB V n = bodyB V i ++ (entB V i ++ r) := by
  induction n with
  | zero => omega
  | succ n ih =>
    by_cases hi : i < n
    · obtain ⟨r, hr⟩ := ih hi
      exact ⟨r ++ entB V n, by rw [bodyB, hr]; simp only [List.append_assoc]⟩
    · obtain rfl : i = n := by omega
      exact ⟨[], by rw [bodyB, List.append_nil]⟩
def wasV (V : List En) (i : Nat) : Int := if i = 0 then 0 else (enAt V (i - 1)).1
theorem base_wasV (V : List En) (i : Nat) : (if i % 4 = 0 then 0 else wasV V i) = baseAt V i := by
  rw [baseAt]
  split
  · rfl
  · rw [wasV, if_neg (by intro e; subst e; omega)]
theorem ent_at {V : List En} (hm : MayP V) (b : List UInt8) (post : List UInt8) (hb : b = bodyB V V.length ++ post) (i : Nat) (hi : i ≤ V.length) :
    entSt b i = (V.take i, wasV V i, ((bodyB V i).length, false)) := by
  induction i with
  | zero => simp [entSt, wasV, bodyB]
  | succ i ih =>
    obtain ⟨r, hr⟩ := body_split V i V.length (by omega)
    have hbase := base_ok hm i (by omega)
    have hd := hm.doc i (by omega)
    have hp := hm.pos i (by omega)
    have he : enAt V i = V[i] := enAt_get V i (by omega)
    have e1 : b = bodyB V i ++ (putL ((enAt V i).1 - baseAt V i).toNat ++ (putL (enAt V i).2.length ++ (gapsB 0 (enAt V i).2 ++ (r ++ post)))) := by
      rw [hb, hr, entB]; simp only [List.append_assoc]
    have e2 : b = (bodyB V i ++ putL ((enAt V i).1 - baseAt V i).toNat) ++ (putL (enAt V i).2.length ++ (gapsB 0 (enAt V i).2 ++ (r ++ post))) := by rw [e1]; simp only [List.append_assoc]
    have e3 : b = (bodyB V i ++ putL ((enAt V i).1 - baseAt V i).toNat ++ putL (enAt V i).2.length) ++ (gapsB 0 (enAt V i).2 ++ (r ++ post)) := by rw [e1]; simp only [List.append_assoc]
    have n1 := next_at (bodyB V i) (putL (enAt V i).2.length ++ (gapsB 0 (enAt V i).2 ++ (r ++ post))) ((enAt V i).1 - baseAt V i).toNat (by omega)
    rw [← e1] at n1
    have n2 := next_at (bodyB V i ++ putL ((enAt V i).1 - baseAt V i).toNat) (gapsB 0 (enAt V i).2 ++ (r ++ post)) (enAt V i).2.length (by omega)
    rw [← e2, List.length_append] at n2
    have n3 := pos_at (bodyB V i ++ putL ((enAt V i).1 - baseAt V i).toNat ++ putL (enAt V i).2.length) (r ++ post) (enAt V i).2 hp.2.2 (enAt V i).2.length (Nat.le_refl _)
    rw [← e3, List.length_append, List.length_append, List.take_length] at n3
    have hmin : (min ((enAt V i).2.length : Int) 257).toNat = (enAt V i).2.length := by omega
    have hdoc : baseAt V i + (((enAt V i).1 - baseAt V i).toNat : Int) = (enAt V i).1 := by omega
    have hE : entR b (baseAt V i) ((bodyB V i).length, false) = (enAt V i, ((bodyB V (i + 1)).length, false)) := by
      rw [entR, n1]
      simp only [n2, hmin, n3, hdoc]
      rw [bodyB, entB, List.length_append, List.length_append, List.length_append]
      congr 2
      omega
    rw [entSt, ih (by omega)]
    simp only [base_wasV, hE]
    rw [List.take_succ_eq_append_getElem (show i < V.length by omega), he, wasV, if_neg (by omega), Nat.add_sub_cancel, he]

/-- How many cells stand ahead of the bytes. -/
def fromOf (cells : List Int) : Nat := 1 + ((cells.getD 0 0).toNat + 3) / 4
def textB (cells : List Int) : List UInt8 := bytesUp (cells.drop (fromOf cells)) (4 * (cells.length - fromOf cells))
def headOk (cells : List Int) : Prop := cells ≠ [] ∧ cells.getD 0 0 ≤ 64 ∧ fromOf cells ≤ cells.length
/-- What block.Decode reads. -/
def rawB (cells : List Int) : List En × Int × (Nat × Bool) := entSt (textB cells) (cells.getD 0 0).toNat
open Classical in
noncomputable def decB (cells : List Int) : List En × Int :=
  if headOk cells ∧ (rawB cells).2.2.2 = false ∧ encA (rawB cells).1 = (cells, 0) then ((rawB cells).1, 0) else ([], 11)
theorem enc_head (V : List En) : (encL V).getD 0 0 = (V.length : Int) := by
  rw [encL, List.cons_append]
  rfl
theorem enc_from (V : List En) : fromOf (encL V) = 1 + (V.length + 3) / 4 := by rw [fromOf, enc_head]; rfl
theorem enc_drop (V : List En) : (encL V).drop (1 + (V.length + 3) / 4) = cellsB (bodyB V V.length) := by
  have hl : ((V.length : Int) :: skipsB V V.length).length = 1 + (V.length + 3) / 4 := by rw [List.length_cons, skipsB_len]; omega
  rw [encL, ← hl, List.drop_left]
/-- What is laid is read as it was. -/
theorem dec_enc {V : List En} (hm : MayP V) : headOk (encL V) ∧ rawB (encL V) = (V, wasV V V.length, ((bodyB V V.length).length, false)) := by
  have hlen := encL_len V
  have hcl : (cellsB (bodyB V V.length)).length = ((bodyB V V.length).length + 3) / 4 := by simp [cellsB, cellsOf]
  refine ⟨⟨by rw [encL]; simp, by rw [enc_head]; have := hm.len; omega, by rw [enc_from, hlen]; omega⟩, ?_⟩
  obtain ⟨z, hz⟩ := pad_bytes (bodyB V V.length)
  have ht : textB (encL V) = bodyB V V.length ++ z := by
    rw [textB, enc_from, enc_drop, hlen, show 1 + (V.length + 3) / 4 + ((bodyB V V.length).length + 3) / 4 - (1 + (V.length + 3) / 4) = ((bodyB V V.length).length + 3) / 4 from by omega, hz]
  rw [rawB, enc_head, ht, show ((V.length : Int)).toNat = V.length from rfl, ent_at hm _ z rfl V.length (Nat.le_refl _), List.take_length]
/-- By what can be laid. -/
theorem decB_yes {V : List En} (hm : MayP V) : decB (encL V) = (V, 0) := by
  obtain ⟨h1, h2⟩ := dec_enc hm
  rw [decB, h2, if_pos ⟨h1, rfl, by rw [encA, if_pos (may_of hm)]⟩]
theorem encA_ok {V : List En} {cells : List Int} (h : encA V = (cells, 0)) : MayP V ∧ encL V = cells := by
  rw [encA] at h
  split at h
  · rename_i hm
    exact ⟨may_parts hm, congrArg (·.1) h⟩
  · exact absurd (congrArg (·.2) h) (by simp)
theorem decB_no {cells : List Int} (h : ¬ ∃ V, MayP V ∧ encL V = cells) : decB cells = ([], 11) := by
  rw [decB, if_neg]
  rintro ⟨_, _, h3⟩
  exact h ⟨_, encA_ok h3⟩
end Go.Proofs.Ytbbjlijdodnjaaa
