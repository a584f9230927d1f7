/-
  Plain law: lists of operations that leave the stack of open blocks as it was; so the programs that are drawn without a fault are valid.
-/
import Derived.Test.YtabpcbikbhbcaaaPlainProg
namespace Go.Proofs.Ytabpcbikbhbcaaa
set_option maxHeartbeats 1000000
set_option linter.unusedVariables false

theorem opAt_pre {os zs : List Int} {k : Nat} (h : k < os.length) : opAt (os ++ zs) k = opAt os k := by
  unfold opAt
  rw [List.getD, List.getD, List.getElem?_append_left h]
theorem stk_pre {os zs : List Int} (k : Nat) (h : k ≤ os.length) : stk (os ++ zs) k = stk os k := by
  induction k with
  | zero => rfl
  | succ k ih => rw [stk_s, stk_s, ih (by omega), opAt_pre (by omega)]
theorem oth_pre {os zs : List Int} (b k : Nat) (h : k ≤ os.length) : oth (os ++ zs) b k = oth os b k := by
  induction k with
  | zero => rfl
  | succ k ih => rw [oth_s, oth_s, ih (by omega), opAt_pre (by omega), stk_pre k (by omega)]
theorem elseOk_pre {os zs : List Int} (k : Nat) (h : k ≤ os.length) : elseOk (os ++ zs) k = elseOk os k := by
  unfold elseOk
  rw [stk_pre k h]
  cases hl : (stk os k).getLast? with
  | none => rfl
  | some b =>
    have := (last_lt hl).1
    simp only
    rw [opAt_pre (by omega), oth_pre b k h]
theorem stepOk_pre {os zs : List Int} (k : Nat) (h : k < os.length) : stepOk (os ++ zs) k = stepOk os k := by
  unfold stepOk
  rw [opAt_pre h, stk_pre k (by omega), elseOk_pre k (by omega)]
theorem okUpto_pre {os zs : List Int} (k : Nat) (h : k ≤ os.length) : okUpto (os ++ zs) k = okUpto os k := by
  induction k with
  | zero => rfl
  | succ k ih => unfold okUpto; rw [ih (by omega), stepOk_pre k (by omega)]
/-- the state behind a list of operations. -/
def Nst (os : List Int) (s : List Nat) (f : Nat → Int) : Prop := okUpto os os.length = true ∧ stk os os.length = s ∧ ∀ b ∈ s, oth os b os.length = f b
theorem opAt_new (os : List Int) (z : Int) : opAt (os ++ [z]) os.length = z := by
  unfold opAt
  simp [List.getD]
theorem len_one (os : List Int) (z : Int) : (os ++ [z]).length = os.length + 1 := by simp
theorem nst_step {os : List Int} {z : Int} (h : okUpto os os.length = true) (hs : stepOk (os ++ [z]) os.length = true) : okUpto (os ++ [z]) (os ++ [z]).length = true := by
  rw [len_one]
  show (okUpto (os ++ [z]) os.length && stepOk (os ++ [z]) os.length) = true
  rw [okUpto_pre os.length (Nat.le_refl _), h, hs]; rfl
theorem nst_open {os : List Int} {s : List Nat} {f : Nat → Int} {z : Int} (h : Nst os s f) (ho : opensB z = true) (hd : s.length < 3) : Nst (os ++ [z]) (s ++ [os.length]) (fun b => if b = os.length then -1 else f b) ∧ opAt (os ++ [z]) os.length = z := by
  obtain ⟨h1, h2, h3⟩ := h
  have hn := opAt_new os z
  refine ⟨⟨nst_step h1 ?_, ?_, fun b hb => ?_⟩, hn⟩
  · unfold stepOk
    rw [hn, if_pos ho, stk_pre os.length (Nat.le_refl _), h2]
    exact decide_eq_true hd
  · rw [len_one, stk_s, hn, if_pos ho, stk_pre os.length (Nat.le_refl _), h2]
  · rw [len_one, oth_s, hn, if_neg (fun e => by rw [e.1] at ho; exact absurd ho (by decide)), oth_pre b os.length (Nat.le_refl _)]
    show oth os b os.length = if b = os.length then -1 else f b
    rcases List.mem_append.1 hb with hb | hb
    · have : b < os.length := by rw [← h2] at hb; exact (stk_lt hb).1
      rw [if_neg (by omega)]
      exact h3 b hb
    · rw [List.mem_singleton] at hb
      rw [if_pos hb, hb]
      exact oth_new (by omega)
theorem nst_plain {os : List Int} {s : List Nat} {f : Nat → Int} {z : Int} (h : Nst os s f) (ho : opensB z = false) (h12 : z ≠ 12) (h14 : z ≠ 14) : Nst (os ++ [z]) s f := by
  obtain ⟨h1, h2, h3⟩ := h
  have hn := opAt_new os z
  refine ⟨nst_step h1 ?_, ?_, fun b hb => ?_⟩
  · unfold stepOk
    rw [hn, if_neg (by rw [ho]; decide), if_neg h12, if_neg h14]
  · rw [len_one, stk_s, hn, if_neg (by rw [ho]; decide), if_neg h14, stk_pre os.length (Nat.le_refl _), h2]
  · rw [len_one, oth_s, hn, if_neg (fun e => h12 e.1), oth_pre b os.length (Nat.le_refl _)]
    exact h3 b hb
theorem nst_else {os : List Int} {s : List Nat} {f : Nat → Int} {b0 : Nat} (h : Nst os (s ++ [b0]) f) (hop : opAt os b0 = 11) (hf : f b0 < 0) : Nst (os ++ [12]) (s ++ [b0]) (fun b => if b = b0 then os.length else f b) := by
  obtain ⟨h1, h2, h3⟩ := h
  have hn := opAt_new os 12
  have hl : (stk os os.length).getLast? = some b0 := by rw [h2]; simp
  have hb0 := (last_lt hl).1
  refine ⟨nst_step h1 ?_, ?_, fun b hb => ?_⟩
  · unfold stepOk
    rw [hn, if_neg (by decide), if_pos rfl]
    unfold elseOk
    rw [stk_pre os.length (Nat.le_refl _), hl]
    simp only
    rw [opAt_pre hb0, hop, oth_pre b0 os.length (Nat.le_refl _), h3 b0 (by simp), decide_eq_true hf]; rfl
  · rw [len_one, stk_s, hn, if_neg (by decide), if_neg (by decide), stk_pre os.length (Nat.le_refl _), h2]
  · rw [len_one, oth_s, hn, stk_pre os.length (Nat.le_refl _), hl, oth_pre b os.length (Nat.le_refl _)]
    show _ = if b = b0 then (os.length : Int) else f b
    by_cases e : b = b0
    · rw [if_pos ⟨rfl, by rw [e]⟩, if_pos e]
    · rw [if_neg (fun h => e (by injection h.2 with h; exact h.symm)), if_neg e]
      exact h3 b hb
theorem nst_end {os : List Int} {s : List Nat} {f : Nat → Int} {b0 : Nat} (h : Nst os (s ++ [b0]) f) : Nst (os ++ [14]) s f := by
  obtain ⟨h1, h2, h3⟩ := h
  have hn := opAt_new os 14
  refine ⟨nst_step h1 ?_, ?_, fun b hb => ?_⟩
  · unfold stepOk
    rw [hn, if_neg (by decide), if_neg (by decide), if_pos rfl, stk_pre os.length (Nat.le_refl _), h2]
    simp
  · rw [len_one, stk_s, hn, if_neg (by decide), if_pos rfl, stk_pre os.length (Nat.le_refl _), h2]
    simp
  · rw [len_one, oth_s, hn, if_neg (fun e => absurd e.1 (by decide)), oth_pre b os.length (Nat.le_refl _)]
    exact h3 b (List.mem_append_left _ hb)
/-- the list leaves the stack as it was, whatever stands ahead of it, where d blocks are open. -/
def Wf (d : Nat) (zs : List Int) : Prop := ∀ (os : List Int) (s : List Nat) (f : Nat → Int), s.length = d → Nst os s f → Nst (os ++ zs) s f
theorem wf_nil (d : Nat) : Wf d [] := fun os s f _ h => by rw [List.append_nil]; exact h
theorem wf_app {d : Nat} {xs ys : List Int} (h1 : Wf d xs) (h2 : Wf d ys) : Wf d (xs ++ ys) := fun os s f hs h => by
  rw [← List.append_assoc]
  exact h2 _ s f hs (h1 os s f hs h)
theorem wf_plain {d : Nat} {z : Int} (ho : opensB z = false) (h12 : z ≠ 12) (h14 : z ≠ 14) : Wf d [z] := fun os s f hs h => nst_plain h ho h12 h14
theorem wf_block {d : Nat} {z : Int} {xs : List Int} (hd : d < 3) (hz : opensB z = true) (h : Wf (d + 1) xs) : Wf d ([z] ++ xs ++ [14]) := fun os s f hs hn => by
  have h1 := (nst_open hn hz (by omega)).1
  have h2 := h _ _ _ (by simp [hs]) h1
  have h3 := nst_end h2
  rw [← List.append_assoc, ← List.append_assoc]
  refine ⟨h3.1, h3.2.1, fun b hb => ?_⟩
  refine (h3.2.2 b hb).trans ?_
  have := hn.2.1
  rw [← this] at hb
  have := (stk_lt hb).1
  have hne : b ≠ os.length := by omega
  simp [hne]
theorem wf_ifelse {d : Nat} {xs ys : List Int} (hd : d < 3) (h : Wf (d + 1) xs) (k : Wf (d + 1) ys) : Wf d ([11] ++ xs ++ [12] ++ ys ++ [14]) := fun os s f hs hn => by
  obtain ⟨h1, h1o⟩ := nst_open (z := 11) hn (by decide) (by omega)
  have h2 := h _ _ _ (by simp [hs]) h1
  have h3 := nst_else h2 (by rw [opAt_pre (by simp)]; exact h1o) (by simp)
  have h4 := k _ _ _ (by simp [hs]) h3
  have h5 := nst_end h4
  simp only [← List.append_assoc]
  refine ⟨h5.1, h5.2.1, fun b hb => ?_⟩
  refine (h5.2.2 b hb).trans ?_
  have := hn.2.1
  rw [← this] at hb
  have := (stk_lt hb).1
  have hne : b ≠ os.length := by omega
  simp [hne]
theorem wf_bal {zs : List Int} (h : Wf 0 zs) : balB zs = true := by
  have h1 := h [] [] (fun _ => -1) rfl ⟨rfl, rfl, fun b hb => absurd hb (by simp)⟩
  rw [List.nil_append] at h1
  unfold balB
  rw [h1.1, h1.2.1]; rfl
end Go.Proofs.Ytabpcbikbhbcaaa
