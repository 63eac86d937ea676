/- plain laws of texts: numbers, words, parts -/
import Derived.Lib.Split
import Derived.Lib.Join
import Derived.Lib.ItoaNum
import Derived.Lib.AtoiAll
namespace Go.Proofs.YtajgghifamebkaaDoor
set_option linter.unusedSimpArgs false
set_option linter.unusedVariables false
open Go
theorem dec_small {u : Nat} (h : u < 10) : Lib.decDigits u = [UInt8.ofNat (48 + u)] := by rw [Lib.decDigits, dif_pos h]
theorem dec_big {u : Nat} (h : ¬ u < 10) : Lib.decDigits u = Lib.decDigits (u / 10) ++ [UInt8.ofNat (48 + u % 10)] := by rw [Lib.decDigits, dif_neg h]
theorem dig_nat {u : Nat} (h : u < 10) : (UInt8.ofNat (48 + u)).toNat = 48 + u := by
  rw [UInt8.toNat_ofNat']; omega
theorem dec_mem (u : Nat) : ∀ b ∈ Lib.decDigits u, 48 ≤ b.toNat ∧ b.toNat ≤ 57 := by
  induction u using Nat.strongRecOn with
  | _ u ih =>
    by_cases h : u < 10
    · rw [dec_small h]
      intro b hb
      obtain rfl : b = UInt8.ofNat (48 + u) := by simpa using hb
      rw [dig_nat h]; omega
    · rw [dec_big h]
      intro b hb
      rcases List.mem_append.1 hb with hb | hb
      · exact ih (u / 10) (by omega) b hb
      · obtain rfl : b = UInt8.ofNat (48 + u % 10) := by simpa using hb
        rw [dig_nat (Nat.mod_lt _ (by omega))]; omega
theorem dec_ne (u : Nat) : Lib.decDigits u ≠ [] := by
  by_cases h : u < 10
  · rw [dec_small h]; simp
  · rw [dec_big h]; simp
theorem dec_len (k : Nat) : ∀ u : Nat, u < 10 ^ (k + 1) → (Lib.decDigits u).length ≤ k + 1 := by
  induction k with
  | zero => intro u h; rw [dec_small (by omega)]; simp
  | succ k ih =>
    intro u h
    by_cases hs : u < 10
    · rw [dec_small hs]; simp
    · rw [dec_big hs, List.length_append]
      have := ih (u / 10) (by rw [Nat.pow_succ] at h; omega)
      simp; omega
theorem dec_parse (u : Nat) (r : List UInt8) (h : u < 1000000) : Lib.parseUint10 0 (Lib.decDigits u ++ r) = Lib.parseUint10 u r := by
  induction u using Nat.strongRecOn generalizing r with
  | _ u ih =>
    by_cases hs : u < 10
    · rw [dec_small hs]
      have hd := dig_nat hs
      simp only [List.singleton_append, Lib.parseUint10, hd]
      rw [if_pos (by omega), if_neg (by omega), if_neg (by omega)]
      congr 1; omega
    · rw [dec_big hs, List.append_assoc, ih (u / 10) (by omega) _ (by omega)]
      have hd := dig_nat (Nat.mod_lt u (by omega : 0 < 10))
      simp only [List.singleton_append, Lib.parseUint10, hd]
      rw [if_pos (by omega), if_neg (by omega), if_neg (by omega)]
      congr 1; omega
/-- as the reference reads digits -/
def valL (l : List UInt8) : Nat := l.foldl (fun a b => 10 * a + (b.toNat - 48)) 0
theorem valL_snoc (l : List UInt8) (b : UInt8) : valL (l ++ [b]) = 10 * valL l + (b.toNat - 48) := by simp [valL]
theorem dec_valL (u : Nat) : valL (Lib.decDigits u) = u := by
  induction u using Nat.strongRecOn with
  | _ u ih =>
    by_cases hs : u < 10
    · rw [dec_small hs]
      have hd := dig_nat hs
      simp only [valL, List.foldl_cons, List.foldl_nil, hd]; omega
    · rw [dec_big hs, valL_snoc, ih (u / 10) (by omega), dig_nat (Nat.mod_lt u (by omega))]; omega
/-- numbers with texts -/
def NumOk (n : Int) : Prop := -100000 ≤ n ∧ n ≤ 100000
instance (n : Int) : Decidable (NumOk n) := inferInstanceAs (Decidable (_ ∧ _))
theorem itoa_neg {n : Int} (h : n < 0) : Lib.itoa n = 45 :: Lib.decDigits n.natAbs := by rw [Lib.itoa, if_pos h]
theorem itoa_pos {n : Int} (h : 0 ≤ n) : Lib.itoa n = Lib.decDigits n.toNat := by rw [Lib.itoa, if_neg (by omega)]
theorem itoa_atoi {n : Int} (h : NumOk n) : Lib.atoiAll (Lib.itoa n) = .ok n := by
  obtain ⟨h1, h2⟩ := h
  by_cases hn : n < 0
  · rw [itoa_neg hn]
    have hp : Lib.parseMag (Lib.decDigits n.natAbs) = .ok n.natAbs := by
      unfold Lib.parseMag
      rw [if_neg (dec_ne _)]
      have := dec_parse n.natAbs [] (by omega)
      rw [List.append_nil] at this
      rw [this]; rfl
    unfold Lib.atoiAll
    simp only [show (45 : UInt8).toNat = 45 from rfl]
    rw [if_pos (by simp), hp]
    simp only
    rw [if_neg (by omega), if_neg (by omega), if_pos trivial]
    congr 1; omega
  · rw [itoa_pos (by omega)]
    have hp : Lib.parseMag (Lib.decDigits n.toNat) = .ok n.toNat := by
      unfold Lib.parseMag
      rw [if_neg (dec_ne _)]
      have := dec_parse n.toNat [] (by omega)
      rw [List.append_nil] at this
      rw [this]; rfl
    cases hd : Lib.decDigits n.toNat with
    | nil => exact absurd hd (dec_ne _)
    | cons c r =>
      have hc := dec_mem n.toNat c (by rw [hd]; simp)
      rw [hd] at hp
      unfold Lib.atoiAll
      simp only
      rw [if_neg (by omega), hp]
      simp only
      rw [if_neg (by omega), if_neg (by omega), if_neg (by omega)]
      congr 1; omega
theorem itoa_inj {n m : Int} (hn : NumOk n) (hm : NumOk m) (h : Lib.itoa n = Lib.itoa m) : n = m := by
  have h1 := itoa_atoi hn
  rw [h, itoa_atoi hm] at h1
  injection h1 with h1
  exact h1.symm
theorem itoa_len {n : Int} (h : NumOk n) : 1 ≤ (Lib.itoa n).length ∧ (Lib.itoa n).length ≤ 7 := by
  obtain ⟨h1, h2⟩ := h
  have hne : ∀ u, 1 ≤ (Lib.decDigits u).length := fun u => by
    have := dec_ne u
    cases hd : Lib.decDigits u with
    | nil => exact absurd hd this
    | cons c r => simp
  by_cases hn : n < 0
  · rw [itoa_neg hn]
    have := dec_len 5 n.natAbs (by omega)
    have := hne n.natAbs
    simp; omega
  · rw [itoa_pos (by omega)]
    have := dec_len 5 n.toNat (by omega)
    exact ⟨hne _, by omega⟩
theorem itoa_mem {n : Int} : ∀ b ∈ Lib.itoa n, b.toNat = 45 ∨ (48 ≤ b.toNat ∧ b.toNat ≤ 57) := by
  intro b hb
  by_cases hn : n < 0
  · rw [itoa_neg hn] at hb
    rcases List.mem_cons.1 hb with rfl | hb
    · exact .inl rfl
    · exact .inr (dec_mem _ b hb)
  · rw [itoa_pos (by omega)] at hb
    exact .inr (dec_mem _ b hb)
/-- a word: not empty, without a space or a stroke -/
def PW (l : List UInt8) : Prop := l ≠ [] ∧ (32 : UInt8) ∉ l ∧ (47 : UInt8) ∉ l
theorem itoa_PW {n : Int} (h : NumOk n) : PW (Lib.itoa n) := by
  refine ⟨fun e => by have := (itoa_len h).1; rw [e] at this; simp at this, fun hb => ?_, fun hb => ?_⟩
  · have := itoa_mem _ hb
    have e : (32 : UInt8).toNat = 32 := rfl
    omega
  · have := itoa_mem _ hb
    have e : (47 : UInt8).toNat = 47 := rfl
    omega
/-! cutting at a separator that holds a byte which the pieces do not -/
section
variable {sep : List UInt8} {o : Nat} {c : UInt8}
theorem occ_get {s sub : List UInt8} {j i : Nat} (h : Lib.occAt s sub j = true) {x : UInt8} (hi : sub[i]? = some x) : s[j + i]? = some x := by
  unfold Lib.occAt at h
  rw [List.isPrefixOf_iff_prefix] at h
  obtain ⟨t, ht⟩ := h
  rw [← List.getElem?_drop, ← ht, List.getElem?_append_left (List.getElem?_eq_some_iff.1 hi).1]
  exact hi
theorem no_occ (ho : sep[o]? = some c) (hb : ∀ i, i < o → sep[i]? ≠ some c) {p : List UInt8} (rest : List UInt8) (hp : c ∉ p) (j : Nat) (hj : j < p.length) : Lib.occAt (p ++ (sep ++ rest)) sep j = false := by
  cases h : Lib.occAt (p ++ (sep ++ rest)) sep j with
  | false => rfl
  | true =>
    have h1 := occ_get h ho
    by_cases hjo : j + o < p.length
    · rw [List.getElem?_append_left hjo] at h1
      exact absurd (List.mem_of_getElem? h1) hp
    · rw [List.getElem?_append_right (by omega)] at h1
      have hlo := (List.getElem?_eq_some_iff.1 ho).1
      rw [List.getElem?_append_left (by omega)] at h1
      exact absurd h1 (hb _ (by omega))
theorem index_piece (ho : sep[o]? = some c) (hb : ∀ i, i < o → sep[i]? ≠ some c) {p : List UInt8} (rest : List UInt8) (hp : c ∉ p) : Lib.index (p ++ (sep ++ rest)) sep = p.length := by
  refine Lib.index_first (by simp) ?_ (fun j hj => no_occ ho hb rest hp j hj)
  unfold Lib.occAt
  rw [List.drop_left, List.isPrefixOf_iff_prefix]
  exact ⟨rest, rfl⟩
theorem index_last (ho : sep[o]? = some c) {p : List UInt8} (hp : c ∉ p) : Lib.index p sep = -1 := by
  refine Lib.index_none (fun j _ => ?_)
  cases h : Lib.occAt p sep j with
  | false => rfl
  | true => exact absurd (List.mem_of_getElem? (occ_get h ho)) hp
theorem split_last (ho : sep[o]? = some c) {p : List UInt8} (hp : c ∉ p) : Lib.split p sep = [p] := by
  unfold Lib.split
  rw [Lib.count_miss (index_last ho hp)]; rfl
theorem split_piece (ho : sep[o]? = some c) (hb : ∀ i, i < o → sep[i]? ≠ some c) {p : List UInt8} (rest : List UInt8) (hp : c ∉ p) : Lib.split (p ++ (sep ++ rest)) sep = p :: Lib.split rest sep := by
  have hsep : sep ≠ [] := fun e => by rw [e] at ho; simp at ho
  have hi := index_piece ho hb rest hp
  have hd : (p ++ (sep ++ rest)).drop (p.length + sep.length) = rest := by
    rw [← List.append_assoc, ← List.length_append, List.drop_left]
  unfold Lib.split
  rw [Lib.count_hit hsep hi, hd, Nat.add_comm 1]
  show Lib.splitK sep 0 (Lib.count rest sep + 1) _ = _
  rw [Lib.splitK, if_neg (by rw [hi]; simp), hi]
  simp only [Int.toNat_natCast, Nat.add_zero, hd, List.take_left]
theorem split_join (ho : sep[o]? = some c) (hb : ∀ i, i < o → sep[i]? ≠ some c) : ∀ (ps : List (List UInt8)), ps ≠ [] → (∀ p ∈ ps, c ∉ p) → Lib.split (Lib.join ps sep) sep = ps
  | [], h, _ => absurd rfl h
  | [p], _, h => by rw [Lib.join_one]; exact split_last ho (h p (by simp))
  | p :: q :: r, _, h => by
    have e : Lib.join (p :: q :: r) sep = p ++ (sep ++ Lib.join (q :: r) sep) := by
      rw [Lib.join_cons, Lib.join_cons]; simp [Lib.joinTail]
    rw [e, split_piece ho hb _ (h p (by simp)), split_join ho hb (q :: r) (by simp) (fun x hx => h x (List.mem_cons_of_mem _ hx))]
end
def spL : List UInt8 := [32]
def slL : List UInt8 := [32, 47, 32]
theorem split_sp (ps : List (List UInt8)) (h : ps ≠ []) (hp : ∀ p ∈ ps, (32 : UInt8) ∉ p) : Lib.split (Lib.join ps spL) spL = ps :=
  split_join (o := 0) (c := 32) rfl (fun i hi => absurd hi (Nat.not_lt_zero _)) ps h hp
theorem split_sl (ps : List (List UInt8)) (h : ps ≠ []) (hp : ∀ p ∈ ps, (47 : UInt8) ∉ p) : Lib.split (Lib.join ps slL) slL = ps :=
  split_join (o := 1) (c := 47) rfl (fun i hi => by cases i with | zero => decide | succ i => omega) ps h hp
theorem join_mem {ps : List (List UInt8)} {sep : List UInt8} {b : UInt8} (h : b ∈ Lib.join ps sep) : b ∈ sep ∨ ∃ p ∈ ps, b ∈ p := by
  cases ps with
  | nil => rw [Lib.join_nil] at h; cases h
  | cons p r =>
    rw [Lib.join_cons] at h
    rcases List.mem_append.1 h with h | h
    · exact .inr ⟨p, by simp, h⟩
    · unfold Lib.joinTail at h
      obtain ⟨l, hl, hb⟩ := List.mem_flatten.1 h
      obtain ⟨q, hq, rfl⟩ := List.mem_map.1 hl
      rcases List.mem_append.1 hb with hb | hb
      · exact .inl hb
      · exact .inr ⟨q, List.mem_cons_of_mem _ hq, hb⟩
/-! texts of rows -/
def rowT (r : List Int) : List UInt8 := Lib.join (r.map Lib.itoa) spL
def RowOk (r : List Int) : Prop := 1 ≤ r.length ∧ r.length ≤ 6 ∧ ∀ n ∈ r, NumOk n
instance (r : List Int) : Decidable (RowOk r) := inferInstanceAs (Decidable (_ ∧ _))
def rowTx (r : List Int) : List UInt8 := if RowOk r then rowT r else []
theorem rowT_words {r : List Int} (h : RowOk r) : Lib.split (rowT r) spL = r.map Lib.itoa := by
  refine split_sp _ (fun e => ?_) (fun p hp => ?_)
  · have := h.1
    rw [List.map_eq_nil_iff] at e
    rw [e] at this; simp at this
  · obtain ⟨n, hn, rfl⟩ := List.mem_map.1 hp
    exact (itoa_PW (h.2.2 n hn)).2.1
theorem rowT_stroke {r : List Int} (h : RowOk r) : (47 : UInt8) ∉ rowT r := fun hb => by
  rcases join_mem hb with hb | ⟨p, hp, hb⟩
  · revert hb; decide
  · obtain ⟨n, hn, rfl⟩ := List.mem_map.1 hp
    exact (itoa_PW (h.2.2 n hn)).2.2 hb
theorem rowT_ne {r : List Int} (h : RowOk r) : rowT r ≠ [] := fun e => by
  have h1 := rowT_words h
  rw [e] at h1
  have h2 : Lib.split [] spL = [[]] := split_last (o := 0) (c := 32) rfl (by simp)
  rw [h2] at h1
  obtain ⟨h3, h4, h5⟩ := h
  cases r with
  | nil => simp at h3
  | cons n t =>
    simp only [List.map_cons, List.cons.injEq] at h1
    exact (itoa_PW (h5 n (by simp))).1 h1.1.symm
theorem map_itoa_inj : ∀ {r r' : List Int}, (∀ n ∈ r, NumOk n) → (∀ n ∈ r', NumOk n) → r.map Lib.itoa = r'.map Lib.itoa → r = r'
  | [], [], _, _, _ => rfl
  | [], _ :: _, _, _, h => by simp at h
  | _ :: _, [], _, _, h => by simp at h
  | n :: r, m :: r', h1, h2, h => by
    simp only [List.map_cons, List.cons.injEq] at h
    rw [itoa_inj (h1 n (by simp)) (h2 m (by simp)) h.1, map_itoa_inj (fun x hx => h1 x (List.mem_cons_of_mem _ hx)) (fun x hx => h2 x (List.mem_cons_of_mem _ hx)) h.2]
theorem rowT_inj {r r' : List Int} (h : RowOk r) (h' : RowOk r') (e : rowT r = rowT r') : r = r' := by
  have h1 := rowT_words h
  rw [e, rowT_words h'] at h1
  exact map_itoa_inj h.2.2 h'.2.2 h1.symm
end Go.Proofs.YtajgghifamebkaaDoor
