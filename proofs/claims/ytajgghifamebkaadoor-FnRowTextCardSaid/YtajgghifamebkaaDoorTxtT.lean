/- plain laws of the texts of tables -/
import Derived.Test.YtajgghifamebkaaDoorTxtP
import Derived.Test.YtajgghifamebkaaDoorTabP
import Derived.Test.YtajgghifamebkaaDoorRec
namespace Go.Proofs.YtajgghifamebkaaDoor
set_option linter.unusedSimpArgs false
set_option linter.unusedVariables false
open Go
theorem name_PW {l : List UInt8} (h : nameB l = true) : PW l := by
  unfold nameB at h
  rw [Bool.and_eq_true, Bool.and_eq_true, List.all_eq_true, inB_iff] at h
  obtain ⟨h1, h2, -⟩ := h
  refine ⟨fun e => by rw [e] at h2; simp at h2, fun hb => ?_, fun hb => ?_⟩
  · have := h1 _ hb; revert this; decide
  · have := h1 _ hb; revert this; decide
theorem tabB_parts {ns : List (List UInt8)} {n : Nat} {f : Nat → List Int} (h : tabB ns n f = true) : (1 ≤ ns.length ∧ ns.length ≤ 6) ∧ n ≤ 16 ∧ (∀ s ∈ ns, PW s) ∧ ∀ i, i < n → RowOk (f i) ∧ (f i).length = ns.length := by
  unfold tabB at h
  rw [Bool.and_eq_true, Bool.and_eq_true, decide_eq_true_eq] at h
  obtain ⟨h1, h2, h3⟩ := h
  obtain ⟨-, g2, g3, g4⟩ := colB_nodup h1
  refine ⟨⟨g3, g4⟩, h2, fun s hs => name_PW (g2 s hs), fun i hi => ?_⟩
  obtain ⟨e1, e2⟩ := rowsB_at h3 hi
  refine ⟨⟨by omega, by omega, fun x hx => ?_⟩, e1⟩
  have := e2 x hx
  unfold okV at this
  rw [inB_iff] at this
  exact this
def tabT (ns : List (List UInt8)) (n : Nat) (f : Nat → List Int) : List UInt8 := Lib.join (Lib.join ns spL :: tab n fun i => rowT (f i)) slL
def tabTx (ns : List (List UInt8)) (n : Nat) (f : Nat → List Int) : List UInt8 := if tabB ns n f = true then tabT ns n f else []
theorem tab_memI {α : Type} {n : Nat} {f : Nat → α} {x : α} (h : x ∈ tab n f) : ∃ i, i < n ∧ f i = x := by
  simp only [tab, List.mem_map, List.mem_range] at h
  exact h
theorem tab_parts {ns : List (List UInt8)} {n : Nat} {f : Nat → List Int} (h : tabB ns n f = true) : Lib.split (tabT ns n f) slL = Lib.join ns spL :: tab n fun i => rowT (f i) := by
  obtain ⟨-, -, h3, h4⟩ := tabB_parts h
  refine split_sl _ (by simp) (fun p hp hb => ?_)
  rcases List.mem_cons.1 hp with rfl | hp
  · rcases join_mem hb with hb | ⟨q, hq, hb⟩
    · revert hb; decide
    · exact (h3 q hq).2.2 hb
  · obtain ⟨i, hi, rfl⟩ := tab_memI hp
    exact rowT_stroke (h4 i hi).1 hb
theorem tab_names {ns : List (List UInt8)} {n : Nat} {f : Nat → List Int} (h : tabB ns n f = true) : Lib.split (Lib.join ns spL) spL = ns := by
  obtain ⟨h1, -, h3, -⟩ := tabB_parts h
  exact split_sp _ (fun e => by rw [e] at h1; simp at h1) (fun p hp => (h3 p hp).2.1)
/-- the table that a text tells -/
def Canon (s : List UInt8) (ns : List (List UInt8)) (n : Nat) (f : Nat → List Int) : Prop := tabB ns n f = true ∧ tabT ns n f = s
theorem Canon.parts {s : List UInt8} {ns : List (List UInt8)} {n : Nat} {f : Nat → List Int} (h : Canon s ns n f) : Lib.split s slL = Lib.join ns spL :: tab n fun i => rowT (f i) := by rw [← h.2]; exact tab_parts h.1
theorem Canon.uniq {s : List UInt8} {ns ns' : List (List UInt8)} {n n' : Nat} {f f' : Nat → List Int} (h : Canon s ns n f) (h' : Canon s ns' n' f') : ns = ns' ∧ n = n' ∧ ∀ i, i < n → f i = f' i := by
  have h1 := h.parts
  rw [h'.parts] at h1
  simp only [List.cons.injEq] at h1
  obtain ⟨h1, h2⟩ := h1
  have e1 : ns = ns' := by rw [← tab_names h.1, ← h1, tab_names h'.1]
  have e2 : n = n' := by
    have := congrArg List.length h2
    simpa using this.symm
  subst e2
  refine ⟨e1, rfl, fun i hi => ?_⟩
  have := congrArg (·[i]?) h2
  simp only [tab_get _ hi, Option.some.injEq] at this
  exact rowT_inj ((tabB_parts h.1).2.2.2 i hi).1 ((tabB_parts h'.1).2.2.2 i hi).1 this.symm
/-! words, as the reference cuts them -/
def stepW (ws : List (List UInt8)) (b : UInt8) : List (List UInt8) := if b = 32 then ws ++ [[]] else ws.dropLast ++ [ws.getLast?.getD [] ++ [b]]
def wordsL (l : List UInt8) : List (List UInt8) := l.foldl stepW [[]]
theorem step_sp (A : List (List UInt8)) : stepW A 32 = A ++ [[]] := if_pos rfl
theorem step_ch (A : List (List UInt8)) (q : List UInt8) {b : UInt8} (h : b ≠ 32) : stepW (A ++ [q]) b = A ++ [q ++ [b]] := by
  unfold stepW
  rw [if_neg h]; simp
theorem words_snoc (l : List UInt8) (b : UInt8) : wordsL (l ++ [b]) = stepW (wordsL l) b := by simp [wordsL]
theorem stepW_ne (A : List (List UInt8)) (b : UInt8) : stepW A b ≠ [] := by
  unfold stepW
  split <;> simp
theorem words_ne (l : List UInt8) : wordsL l ≠ [] := by
  rcases List.eq_nil_or_concat l with rfl | ⟨l', b, rfl⟩
  · simp [wordsL]
  · rw [List.concat_eq_append, words_snoc]; exact stepW_ne _ _
theorem fold_word : ∀ (p : List UInt8) (A : List (List UInt8)) (q : List UInt8), (32 : UInt8) ∉ p → p.foldl stepW (A ++ [q]) = A ++ [q ++ p]
  | [], A, q, _ => by simp
  | b :: p, A, q, h => by
    rw [List.foldl_cons, step_ch A q (fun e => h (by rw [e]; simp)), fold_word p A (q ++ [b]) (fun hm => h (List.mem_cons_of_mem _ hm))]; simp
theorem fold_join : ∀ (ws : List (List UInt8)) (A : List (List UInt8)), ws ≠ [] → (∀ p ∈ ws, (32 : UInt8) ∉ p) → (Lib.join ws spL).foldl stepW (A ++ [[]]) = A ++ ws
  | [], _, h, _ => absurd rfl h
  | [p], A, _, h => by rw [Lib.join_one, fold_word p A [] (h p (by simp)), List.nil_append]
  | p :: q :: r, A, _, h => by
    have e : Lib.join (p :: q :: r) spL = p ++ (spL ++ Lib.join (q :: r) spL) := by
      rw [Lib.join_cons, Lib.join_cons]; simp [Lib.joinTail]
    rw [e, List.foldl_append, fold_word p A [] (h p (by simp)), List.nil_append, List.foldl_append]
    show (Lib.join (q :: r) spL).foldl stepW (stepW (A ++ [p]) 32) = _
    rw [step_sp, fold_join (q :: r) (A ++ [p]) (by simp) (fun x hx => h x (List.mem_cons_of_mem _ hx))]; simp
theorem words_join {ws : List (List UInt8)} (h : ws ≠ []) (hp : ∀ p ∈ ws, (32 : UInt8) ∉ p) : wordsL (Lib.join ws spL) = ws := fold_join ws [] h hp
/-! a table's text as words -/
def tabW (ns : List (List UInt8)) (n : Nat) (f : Nat → List Int) : List (List UInt8) := ns ++ (tab n fun i => [47] :: (f i).map Lib.itoa).flatten
theorem joinTail_append (sep : List UInt8) (A B : List (List UInt8)) : Lib.joinTail sep (A ++ B) = Lib.joinTail sep A ++ Lib.joinTail sep B := by simp [Lib.joinTail]
theorem join_append {A : List (List UInt8)} (B : List (List UInt8)) (sep : List UInt8) (h : A ≠ []) : Lib.join (A ++ B) sep = Lib.join A sep ++ Lib.joinTail sep B := by
  cases A with
  | nil => exact absurd rfl h
  | cons a A => rw [List.cons_append, Lib.join_cons, Lib.join_cons, joinTail_append, List.append_assoc]
theorem joinTail_flat (sep : List UInt8) : ∀ L : List (List (List UInt8)), Lib.joinTail sep L.flatten = (L.map (Lib.joinTail sep)).flatten
  | [] => by simp [Lib.joinTail]
  | A :: L => by rw [List.flatten_cons, joinTail_append, joinTail_flat sep L]; simp
theorem rowT_tail {r : List Int} (h : RowOk r) : slL ++ rowT r = Lib.joinTail spL ([47] :: r.map Lib.itoa) := by
  cases r with
  | nil => have := h.1; simp at this
  | cons n t =>
    unfold rowT
    rw [List.map_cons, Lib.join_cons]
    simp [Lib.joinTail, slL, spL]
theorem tab_join {ns : List (List UInt8)} {n : Nat} {f : Nat → List Int} (h : tabB ns n f = true) : tabT ns n f = Lib.join (tabW ns n f) spL := by
  obtain ⟨h1, -, -, h4⟩ := tabB_parts h
  unfold tabT tabW
  rw [Lib.join_cons, join_append _ _ (fun e => by rw [e] at h1; simp at h1), joinTail_flat]
  congr 1
  unfold Lib.joinTail
  congr 1
  simp only [tab, List.map_map]
  refine List.map_congr_left fun i hi => ?_
  exact rowT_tail (h4 i (List.mem_range.1 hi)).1
theorem tabW_word {ns : List (List UInt8)} {n : Nat} {f : Nat → List Int} (h : tabB ns n f = true) : ∀ p ∈ tabW ns n f, p ≠ [] ∧ (32 : UInt8) ∉ p := by
  obtain ⟨-, -, h3, h4⟩ := tabB_parts h
  intro p hp
  rcases List.mem_append.1 hp with hp | hp
  · exact ⟨(h3 p hp).1, (h3 p hp).2.1⟩
  · obtain ⟨l, hl, hp⟩ := List.mem_flatten.1 hp
    obtain ⟨i, hi, rfl⟩ := tab_memI hl
    rcases List.mem_cons.1 hp with rfl | hp
    · decide
    · obtain ⟨x, hx, rfl⟩ := List.mem_map.1 hp
      have := itoa_PW ((h4 i hi).1.2.2 x hx)
      exact ⟨this.1, this.2.1⟩
theorem tabW_ne {ns : List (List UInt8)} {n : Nat} {f : Nat → List Int} (h : tabB ns n f = true) : tabW ns n f ≠ [] := by
  obtain ⟨h1, -⟩ := tabB_parts h
  intro e
  have := congrArg List.length e
  simp [tabW] at this
  rw [this.1] at h1
  simp at h1
theorem Canon.words {s : List UInt8} {ns : List (List UInt8)} {n : Nat} {f : Nat → List Int} (h : Canon s ns n f) : wordsL s = tabW ns n f := by
  rw [← h.2, tab_join h.1]
  exact words_join (tabW_ne h.1) (fun p hp => (tabW_word h.1 p hp).2)
/-- no table's text ends in a space -/
theorem Canon.no_space {s : List UInt8} {ns : List (List UInt8)} {n : Nat} {f : Nat → List Int} : ¬ Canon (s ++ [32]) ns n f := fun h => by
  have h1 := h.words
  rw [words_snoc, step_sp] at h1
  exact (tabW_word h.1 [] (by rw [← h1]; simp)).1 rfl
/-! places of the words -/
theorem tabW_rowlen {ns : List (List UInt8)} {n : Nat} {f : Nat → List Int} (h : tabB ns n f = true) : ∀ c ∈ (tab n fun i => [47] :: (f i).map Lib.itoa : List (List (List UInt8))), c.length = ns.length + 1 := by
  obtain ⟨-, -, -, h4⟩ := tabB_parts h
  intro c hc
  obtain ⟨i, hi, rfl⟩ := tab_memI hc
  simp [(h4 i hi).2]
theorem tabW_len {ns : List (List UInt8)} {n : Nat} {f : Nat → List Int} (h : tabB ns n f = true) : (tabW ns n f).length = ns.length + n * (ns.length + 1) := by
  unfold tabW
  rw [List.length_append, flat_length _ (tabW_rowlen h), tab_length]
theorem tabW_name {ns : List (List UInt8)} {n : Nat} {f : Nat → List Int} {k : Nat} (hk : k < ns.length) : (tabW ns n f)[k]? = ns[k]? := by
  unfold tabW
  rw [List.getElem?_append_left hk]
theorem tabW_at {ns : List (List UInt8)} {n : Nat} {f : Nat → List Int} (h : tabB ns n f = true) {r j : Nat} (hr : r < n) (hj : j < ns.length + 1) : (tabW ns n f)[ns.length + (r * (ns.length + 1) + j)]? = ([47] :: (f r).map Lib.itoa : List (List UInt8))[j]? := by
  unfold tabW
  rw [List.getElem?_append_right (by omega), Nat.add_sub_cancel_left]
  exact flat_get _ r j _ (tabW_rowlen h) (tab_get _ hr) hj
end Go.Proofs.YtajgghifamebkaaDoor
