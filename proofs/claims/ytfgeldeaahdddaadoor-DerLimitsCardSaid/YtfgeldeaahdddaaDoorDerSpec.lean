/- What layer 8 means, in plain Lean: the encoding of a node, reading it back, and that what is read is what is encoded. No program in sight. -/
import Derived.Test.YtfgeldeaahdddaaDoorTree
namespace Go.Proofs.YtfgeldeaahdddaaDoor.Lx

/-- The least byts of a number, the highest one first. -/
def num (n : Nat) : List UInt8 := if n = 0 then [] else num (n / 256) ++ [UInt8.ofNat (n % 256)]
decreasing_by omega
theorem num_zero : num 0 = [] := by rw [num]; rfl
theorem num_pos (n : Nat) (h : 0 < n) : num n = num (n / 256) ++ [UInt8.ofNat (n % 256)] := by rw [num, if_neg (by omega)]
def lenEnc (l : Nat) : List UInt8 := if l < 128 then [UInt8.ofNat l] else UInt8.ofNat (128 + (num l).length) :: num l
def tagOk (t : UInt8) : Bool := decide (1 ≤ t.toNat ∧ t.toNat ≤ 254 ∧ t.toNat % 32 ≠ 31 ∧ (32 ≤ t.toNat ∨ t.toNat % 32 ≠ 0))
def comp (t : UInt8) : Bool := decide (t.toNat / 32 % 2 = 1)
/-- The number that byts say, the highest one first. -/
def big (l : List UInt8) : Nat := l.foldl (fun n b => n * 256 + b.toNat) 0
def cut (b : List UInt8) (i j : Nat) : List UInt8 := (b.drop i).take (j - i)
namespace Tre
mutual
def text : Tre → List UInt8
  | ⟨t, b, k⟩ => t :: (lenEnc (b ++ textL k).length ++ (b ++ textL k))
def textL : List Tre → List UInt8
  | [] => []
  | k :: r => text k ++ textL r
end
mutual
def count : Tre → Nat
  | ⟨_, _, k⟩ => 1 + countL k
def countL : List Tre → Nat
  | [] => 0
  | k :: r => count k + countL r
end
mutual
def weight : Tre → Nat
  | ⟨_, b, k⟩ => b.length + weightL k
def weightL : List Tre → Nat
  | [] => 0
  | k :: r => weight k + weightL r
end
mutual
def shaped : Tre → Bool
  | ⟨t, b, k⟩ => tagOk t && (if comp t then b.isEmpty else k.isEmpty) && shapedL k
def shapedL : List Tre → Bool
  | [] => true
  | k :: r => shaped k && shapedL r
end
theorem text_eq (n : Tre) : n.text = n.tag :: (lenEnc (n.bs ++ textL n.kids).length ++ (n.bs ++ textL n.kids)) := by cases n; rw [text]; rfl
theorem count_eq (n : Tre) : n.count = 1 + countL n.kids := by cases n; rw [count]; rfl
theorem weight_eq (n : Tre) : n.weight = n.bs.length + weightL n.kids := by cases n; rw [weight]; rfl
theorem shaped_eq (n : Tre) : n.shaped = (tagOk n.tag && (if comp n.tag then n.bs.isEmpty else n.kids.isEmpty) && shapedL n.kids) := by cases n; rw [shaped]; rfl
theorem textL_append (a b : List Tre) : textL (a ++ b) = textL a ++ textL b := by
  induction a with
  | nil => simp [textL]
  | cons x a ih => simp [textL, ih]
theorem countL_append (a b : List Tre) : countL (a ++ b) = countL a + countL b := by
  induction a with
  | nil => simp [countL]
  | cons x a ih => simp only [List.cons_append, countL, ih]; omega
theorem weightL_append (a b : List Tre) : weightL (a ++ b) = weightL a + weightL b := by
  induction a with
  | nil => simp [weightL]
  | cons x a ih => simp only [List.cons_append, weightL, ih]; omega
theorem shapedL_append (a b : List Tre) : shapedL (a ++ b) = (shapedL a && shapedL b) := by
  induction a with
  | nil => simp [shapedL]
  | cons x a ih => simp only [List.cons_append, shapedL, ih, Bool.and_assoc]
theorem ext_ (a b : Tre) (h1 : a.tag = b.tag) (h2 : a.bs = b.bs) (h3 : a.kids = b.kids) : a = b := by
  cases a; cases b
  simp only [tag, bs, kids] at h1 h2 h3
  subst h1 h2 h3
  rfl
end Tre

/-- What reading has led to: a node and the offset behind it, or a code and an offset. -/
structure PR where
  node : Tre
  next : Nat
  code : Nat
  at_ : Nat
def PR.err (c a : Nat) : PR := ⟨⟨0, [], []⟩, 0, c, a⟩
/-- A length in the part up to 'e', its first byte at 'i': (length, the offset behind it, code, offset). -/
structure PL where
  len : Nat
  next : Nat
  code : Nat
  at_ : Nat
def plen (b : List UInt8) (i e : Nat) : PL :=
  if e ≤ i then ⟨0, 0, 3, e⟩
  else if (b.getD i 0).toNat < 128 then ⟨(b.getD i 0).toNat, i + 1, 0, 0⟩
  else if (b.getD i 0).toNat = 128 ∨ 131 < (b.getD i 0).toNat then ⟨0, 0, 6, i⟩
  else if e < i + 1 + ((b.getD i 0).toNat - 128) then ⟨0, 0, 3, e⟩
  else if big (cut b (i + 1) (i + 1 + ((b.getD i 0).toNat - 128))) < 128 ∨ (num (big (cut b (i + 1) (i + 1 + ((b.getD i 0).toNat - 128))))).length ≠ (b.getD i 0).toNat - 128 then ⟨0, 0, 6, i⟩
  else ⟨big (cut b (i + 1) (i + 1 + ((b.getD i 0).toNat - 128))), i + 1 + ((b.getD i 0).toNat - 128), 0, 0⟩
def ploop (f : Nat → PR) (t : UInt8) (stop : Nat) : Nat → Nat → List Tre → PR
  | 0, _, _ => .err 1 0
  | k + 1, next, acc => if next < stop then (if (f next).code ≠ 0 then .err (f next).code (f next).at_ else ploop f t stop k (f next).next (acc ++ [(f next).node])) else ⟨⟨t, [], acc⟩, next, 0, 0⟩
/-- The node at an offset, d levels allowed. -/
def pread : Nat → List UInt8 → Nat → Nat → PR
  | 0, b, i, e => if e ≤ i then .err 3 e else if tagOk (b.getD i 0) then .err 2 i else .err 5 i
  | d + 1, b, i, e =>
    if e ≤ i then .err 3 e
    else if tagOk (b.getD i 0) = false then .err 5 i
    else if (plen b (i + 1) e).code ≠ 0 then .err (plen b (i + 1) e).code (plen b (i + 1) e).at_
    else if e < (plen b (i + 1) e).next + (plen b (i + 1) e).len then .err 3 e
    else if comp (b.getD i 0) = false then ⟨⟨b.getD i 0, cut b (plen b (i + 1) e).next ((plen b (i + 1) e).next + (plen b (i + 1) e).len), []⟩, (plen b (i + 1) e).next + (plen b (i + 1) e).len, 0, 0⟩
    else ploop (fun x => pread d b x ((plen b (i + 1) e).next + (plen b (i + 1) e).len)) (b.getD i 0) ((plen b (i + 1) e).next + (plen b (i + 1) e).len) ((plen b (i + 1) e).len + 1) (plen b (i + 1) e).next []
def pparse (b : List UInt8) : PR :=
  if 1048576 < b.length then .err 1 1048576
  else if (pread 8 b 0 b.length).code = 0 ∧ (pread 8 b 0 b.length).next < b.length then .err 4 (pread 8 b 0 b.length).next
  else pread 8 b 0 b.length

/-! ### pieces -/
theorem cut_length (b : List UInt8) (i j : Nat) (h : j ≤ b.length) : (cut b i j).length = j - i := by
  unfold cut; rw [List.length_take, List.length_drop]; omega
theorem cut_same (b : List UInt8) (i : Nat) : cut b i i = [] := by unfold cut; simp
theorem cut_cat (b : List UInt8) (i j k : Nat) (h1 : i ≤ j) (h2 : j ≤ k) : cut b i j ++ cut b j k = cut b i k := by
  unfold cut
  have h : k - i = (j - i) + (k - j) := by omega
  rw [h, List.take_add, List.drop_drop]
  congr 3
  omega
theorem cut_one (b : List UInt8) (i : Nat) (h : i < b.length) : cut b i (i + 1) = [b.getD i 0] := by
  unfold cut
  rw [show i + 1 - i = 1 by omega]
  rw [List.drop_eq_getElem_cons h, List.take_succ_cons, List.take_zero]
  simp [List.getD_eq_getElem?_getD, List.getElem?_eq_getElem h]
theorem cut_all (b : List UInt8) : cut b 0 b.length = b := by unfold cut; simp
theorem big_snoc (l : List UInt8) (x : UInt8) : big (l ++ [x]) = big l * 256 + x.toNat := by unfold big; rw [List.foldl_append]; rfl
theorem u8_ofNat (n : Nat) (h : n < 256) : (UInt8.ofNat n).toNat = n := by rw [UInt8.toNat_ofNat']; omega
theorem u8_eq {a b : UInt8} (h : a.toNat = b.toNat) : a = b := UInt8.toNat_inj.1 h
/-- Bytes whose number has just as many byts are that number's. -/
theorem num_big (l : List UInt8) : (num (big l)).length ≤ l.length ∧ ((num (big l)).length = l.length → num (big l) = l) := by
  generalize hn : l.length = n
  induction n generalizing l with
  | zero =>
    have : l = [] := List.eq_nil_of_length_eq_zero hn
    subst this
    simp [big, num_zero]
  | succ n ih =>
    have hne : l ≠ [] := by intro h; subst h; simp at hn
    obtain ⟨r, x, rfl⟩ : ∃ r x, l = r ++ [x] := ⟨l.dropLast, l.getLast hne, (List.dropLast_concat_getLast hne).symm⟩
    have hr : r.length = n := by simpa using hn
    obtain ⟨h1, h2⟩ := ih r hr
    rw [big_snoc]
    have hx := UInt8.toNat_lt x
    by_cases h0 : big r * 256 + x.toNat = 0
    · rw [h0, num_zero]
      exact ⟨by simp, fun h => by simp at h⟩
    · rw [num_pos _ (by omega)]
      have hd : (big r * 256 + x.toNat) / 256 = big r := by omega
      have hm : (big r * 256 + x.toNat) % 256 = x.toNat := by omega
      rw [hd, hm]
      refine ⟨by rw [List.length_append]; simp; omega, fun h => ?_⟩
      rw [List.length_append] at h
      rw [h2 (by simpa using h)]
      congr 2
      exact u8_eq (u8_ofNat _ hx)
theorem num_len3 (n : Nat) (h : n < 16777216) : (num n).length ≤ 3 := by
  by_cases h0 : n = 0
  · subst h0; rw [num_zero]; simp
  · rw [num_pos n (by omega), List.length_append]
    by_cases h1 : n / 256 = 0
    · rw [h1, num_zero]; simp
    · rw [num_pos (n / 256) (by omega), List.length_append]
      by_cases h2 : n / 256 / 256 = 0
      · rw [h2, num_zero]; simp
      · rw [num_pos (n / 256 / 256) (by omega), List.length_append]
        have h3 : n / 256 / 256 / 256 = 0 := by omega
        rw [h3, num_zero]; simp

/-! ### what is read is what is encoded -/
theorem plen_ok (b : List UInt8) (i e : Nat) (he : e ≤ b.length) (h : (plen b i e).code = 0) : i < (plen b i e).next ∧ (plen b i e).next ≤ e ∧ cut b i (plen b i e).next = lenEnc (plen b i e).len := by
  unfold plen at h ⊢
  by_cases c1 : e ≤ i
  · rw [if_pos c1] at h; simp at h
  rw [if_neg c1] at h ⊢
  by_cases c2 : (b.getD i 0).toNat < 128
  · rw [if_pos c2] at h ⊢
    refine ⟨by show i < i + 1; omega, by show i + 1 ≤ e; omega, ?_⟩
    show cut b i (i + 1) = lenEnc (b.getD i 0).toNat
    rw [cut_one b i (by omega)]
    unfold lenEnc
    rw [if_pos c2]
    congr 1
    exact u8_eq (u8_ofNat _ (by omega)).symm
  rw [if_neg c2] at h ⊢
  by_cases c3 : (b.getD i 0).toNat = 128 ∨ 131 < (b.getD i 0).toNat
  · rw [if_pos c3] at h; simp at h
  rw [if_neg c3] at h ⊢
  by_cases c4 : e < i + 1 + ((b.getD i 0).toNat - 128)
  · rw [if_pos c4] at h; simp at h
  rw [if_neg c4] at h ⊢
  generalize hl : cut b (i + 1) (i + 1 + ((b.getD i 0).toNat - 128)) = l at h ⊢
  by_cases c5 : big l < 128 ∨ (num (big l)).length ≠ (b.getD i 0).toNat - 128
  · rw [if_pos c5] at h; simp at h
  rw [if_neg c5] at h ⊢
  refine ⟨by show i < i + 1 + _; omega, by show i + 1 + _ ≤ e; omega, ?_⟩
  show cut b i (i + 1 + ((b.getD i 0).toNat - 128)) = lenEnc (big l)
  rw [← cut_cat b i (i + 1) _ (by omega) (by omega), cut_one b i (by omega), hl]
  have hll : l.length = (b.getD i 0).toNat - 128 := by rw [← hl, cut_length _ _ _ (by omega)]; omega
  have h5 : (num (big l)).length = (b.getD i 0).toNat - 128 := by
    by_cases h6 : (num (big l)).length = (b.getD i 0).toNat - 128
    · exact h6
    · exact absurd (.inr h6) c5
  unfold lenEnc
  rw [if_neg (fun h6 => c5 (.inl h6)), (num_big l).2 (by omega), hll]
  have hx := UInt8.toNat_lt (b.getD i 0)
  have hb : UInt8.ofNat (128 + ((b.getD i 0).toNat - 128)) = b.getD i 0 := u8_eq (by rw [u8_ofNat _ (by omega)]; omega)
  rw [hb]
  rfl

theorem ploop_ok (f : Nat → PR) (t : UInt8) (stop : Nat) (b : List UInt8) (d : Nat)
    (hf : ∀ x, x < stop → (f x).code = 0 → (f x).node.text = cut b x (f x).next ∧ (f x).node.shaped = true ∧ (f x).node.depth ≤ d ∧ x < (f x).next ∧ (f x).next ≤ stop) :
    ∀ (k next : Nat) (acc : List Tre), next ≤ stop → (ploop f t stop k next acc).code = 0 →
      ∃ ks, ploop f t stop k next acc = ⟨⟨t, [], acc ++ ks⟩, stop, 0, 0⟩ ∧ Tre.textL ks = cut b next stop ∧ Tre.shapedL ks = true ∧ Tre.depthL ks ≤ d := by
  intro k
  induction k with
  | zero => intro next acc hn h; simp [ploop, PR.err] at h
  | succ k ih =>
    intro next acc hn h
    rw [ploop] at h ⊢
    by_cases c1 : next < stop
    · rw [if_pos c1] at h ⊢
      by_cases c2 : (f next).code ≠ 0
      · rw [if_pos c2] at h; exact absurd h c2
      · rw [if_neg c2] at h ⊢
        obtain ⟨h1, h2, h3, h4, h5⟩ := hf next c1 (by simpa using c2)
        obtain ⟨ks, e1, e2, e3, e4⟩ := ih (f next).next (acc ++ [(f next).node]) h5 h
        refine ⟨(f next).node :: ks, by rw [e1]; simp, ?_, by simp [Tre.shapedL, h2, e3], by simp only [Tre.depthL]; omega⟩
        rw [Tre.textL, h1, e2, cut_cat b _ _ _ (by omega) h5]
    · rw [if_neg c1] at h ⊢
      have : next = stop := by omega
      subst this
      exact ⟨[], by simp, by rw [cut_same]; rfl, rfl, by simp [Tre.depthL]⟩
/-- A node that was read: its encoding is what was read. -/
theorem pread_ok : ∀ (d : Nat) (b : List UInt8) (i e : Nat), e ≤ b.length → (pread d b i e).code = 0 →
    (pread d b i e).node.text = cut b i (pread d b i e).next ∧ (pread d b i e).node.shaped = true ∧ (pread d b i e).node.depth ≤ d ∧ i < (pread d b i e).next ∧ (pread d b i e).next ≤ e ∧ (pread d b i e).at_ = 0 := by
  intro d
  induction d with
  | zero =>
    intro b i e he h
    unfold pread at h
    split at h
    · simp [PR.err] at h
    · split at h <;> simp [PR.err] at h
  | succ d ih =>
    intro b i e he h
    unfold pread at h ⊢
    by_cases c1 : e ≤ i
    · rw [if_pos c1] at h; simp [PR.err] at h
    rw [if_neg c1] at h ⊢
    by_cases c2 : tagOk (b.getD i 0) = false
    · rw [if_pos c2] at h; simp [PR.err] at h
    rw [if_neg c2] at h ⊢
    by_cases c3 : (plen b (i + 1) e).code ≠ 0
    · rw [if_pos c3] at h; exact absurd h c3
    rw [if_neg c3] at h ⊢
    obtain ⟨l1, l2, l3⟩ := plen_ok b (i + 1) e he (by simpa using c3)
    generalize plen b (i + 1) e = L at h l1 l2 l3 ⊢
    by_cases c4 : e < L.next + L.len
    · rw [if_pos c4] at h; simp [PR.err] at h
    rw [if_neg c4] at h ⊢
    have ht : ∀ c : List UInt8, c = cut b L.next (L.next + L.len) → b.getD i 0 :: (lenEnc c.length ++ c) = cut b i (L.next + L.len) := by
      intro c hc
      have hcl : c.length = L.len := by rw [hc, cut_length _ _ _ (by omega)]; omega
      rw [← cut_cat b i (i + 1) _ (by omega) (by omega), cut_one b i (by omega), ← cut_cat b (i + 1) L.next _ (by omega) (by omega), l3, hcl, hc]
      rfl
    by_cases c5 : comp (b.getD i 0) = false
    · rw [if_pos c5] at h ⊢
      refine ⟨?_, ?_, ?_, ?_, ?_, rfl⟩
      · rw [Tre.text_eq]
        show b.getD i 0 :: (lenEnc (cut b L.next (L.next + L.len) ++ Tre.textL []).length ++ (cut b L.next (L.next + L.len) ++ Tre.textL [])) = _
        rw [show Tre.textL [] = [] from rfl, List.append_nil]
        exact ht _ rfl
      · rw [Tre.shaped_eq]
        show (tagOk (b.getD i 0) && (if comp (b.getD i 0) then _ else ([] : List Tre).isEmpty) && Tre.shapedL []) = true
        rw [c5]
        simpa [Tre.shapedL] using c2
      · rw [Tre.depth_eq]; show 1 + Tre.depthL [] ≤ d + 1; simp [Tre.depthL]
      · show i < L.next + L.len; omega
      · show L.next + L.len ≤ e; omega
    · rw [if_neg c5] at h ⊢
      obtain ⟨ks, e1, e2, e3, e4⟩ := ploop_ok (fun x => pread d b x (L.next + L.len)) (b.getD i 0) (L.next + L.len) b d
        (fun x hx hc => by
          obtain ⟨a1, a2, a3, a4, a5, _⟩ := ih b x (L.next + L.len) (by omega) hc
          exact ⟨a1, a2, a3, a4, a5⟩) (L.len + 1) L.next [] (by omega) h
      rw [e1]
      refine ⟨?_, ?_, ?_, ?_, ?_, rfl⟩
      · rw [Tre.text_eq]
        show b.getD i 0 :: (lenEnc ([] ++ Tre.textL ([] ++ ks)).length ++ ([] ++ Tre.textL ([] ++ ks))) = _
        rw [List.nil_append, List.nil_append]
        exact ht _ e2
      · rw [Tre.shaped_eq]
        show (tagOk (b.getD i 0) && (if comp (b.getD i 0) then ([] : List UInt8).isEmpty else _) && Tre.shapedL ([] ++ ks)) = true
        rw [List.nil_append, e3]
        have : comp (b.getD i 0) = true := by simpa using c5
        rw [this]
        simpa using c2
      · rw [Tre.depth_eq]; show 1 + Tre.depthL ([] ++ ks) ≤ d + 1; rw [List.nil_append]; omega
      · show i < L.next + L.len; omega
      · show L.next + L.len ≤ e; omega
theorem pparse_ok (b : List UInt8) (h : (pparse b).code = 0) : (pparse b).node.text = b ∧ (pparse b).node.shaped = true ∧ (pparse b).node.depth ≤ 8 ∧ b.length ≤ 1048576 := by
  unfold pparse at h ⊢
  by_cases c1 : 1048576 < b.length
  · rw [if_pos c1] at h; simp [PR.err] at h
  rw [if_neg c1] at h ⊢
  by_cases c2 : (pread 8 b 0 b.length).code = 0 ∧ (pread 8 b 0 b.length).next < b.length
  · rw [if_pos c2] at h; simp [PR.err] at h
  rw [if_neg c2] at h ⊢
  obtain ⟨h1, h2, h3, h4, h5, _⟩ := pread_ok 8 b 0 b.length (Nat.le_refl _) h
  refine ⟨?_, h2, h3, by omega⟩
  rw [h1]
  have : (pread 8 b 0 b.length).next = b.length := by
    rcases Nat.lt_or_ge (pread 8 b 0 b.length).next b.length with h6 | h6
    · exact absurd ⟨h, h6⟩ c2
    · omega
  rw [this, cut_all]
end Go.Proofs.YtfgeldeaahdddaaDoor.Lx
namespace Go.Proofs.YtfgeldeaahdddaaDoor.Lx
namespace Tre
theorem countL_step (l : List Tre) (k : Nat) (h : k < l.length) : countL (l.take (k + 1)) = countL (l.take k) + (l[k]).count ∧ countL (l.take (k + 1)) ≤ countL l := by
  refine ⟨by rw [take_snoc l k h, countL_append]; simp [countL], ?_⟩
  have := countL_append (l.take (k + 1)) (l.drop (k + 1))
  rw [List.take_append_drop] at this
  omega
theorem weightL_step (l : List Tre) (k : Nat) (h : k < l.length) : weightL (l.take (k + 1)) = weightL (l.take k) + (l[k]).weight ∧ weightL (l.take (k + 1)) ≤ weightL l := by
  refine ⟨by rw [take_snoc l k h, weightL_append]; simp [weightL], ?_⟩
  have := weightL_append (l.take (k + 1)) (l.drop (k + 1))
  rw [List.take_append_drop] at this
  omega
theorem depthL_step (l : List Tre) (k : Nat) (h : k < l.length) : depthL (l.take (k + 1)) = max (depthL (l.take k)) (l[k]).depth ∧ depthL (l.take (k + 1)) ≤ depthL l := by
  refine ⟨by rw [take_snoc l k h, depthL_append]; simp [depthL], depthL_take l (k + 1)⟩
theorem textL_step (l : List Tre) (k : Nat) (h : k < l.length) : textL (l.take (k + 1)) = textL (l.take k) ++ (l[k]).text ∧ (textL (l.take (k + 1))).length ≤ (textL l).length := by
  refine ⟨by rw [take_snoc l k h, textL_append]; simp [textL], ?_⟩
  have := textL_append (l.take (k + 1)) (l.drop (k + 1))
  rw [List.take_append_drop] at this
  rw [this, List.length_append]
  omega
end Tre
end Go.Proofs.YtfgeldeaahdddaaDoor.Lx
namespace Go.Proofs.YtfgeldeaahdddaaDoor.Lx
theorem ploop_err (f : Nat → PR) (t : UInt8) (stop : Nat) : ∀ (k next : Nat) (acc : List Tre), (ploop f t stop k next acc).code ≠ 0 → ∃ c a, ploop f t stop k next acc = .err c a := by
  intro k
  induction k with
  | zero => intro next acc _; exact ⟨1, 0, rfl⟩
  | succ k ih =>
    intro next acc h
    rw [ploop] at h ⊢
    by_cases c1 : next < stop
    · rw [if_pos c1] at h ⊢
      by_cases c2 : (f next).code ≠ 0
      · rw [if_pos c2]; exact ⟨_, _, rfl⟩
      · rw [if_neg c2] at h ⊢; exact ih _ _ h
    · rw [if_neg c1] at h; exact absurd rfl h
/-- What has a code has nothing else but an offset. -/
theorem pread_err (d : Nat) (b : List UInt8) (i e : Nat) (h : (pread d b i e).code ≠ 0) : pread d b i e = .err (pread d b i e).code (pread d b i e).at_ := by
  suffices h2 : ∃ c a, pread d b i e = .err c a by
    obtain ⟨c, a, h2⟩ := h2
    rw [h2]; rfl
  cases d with
  | zero =>
    unfold pread
    split
    · exact ⟨_, _, rfl⟩
    · split <;> exact ⟨_, _, rfl⟩
  | succ d =>
    rw [pread] at h ⊢
    by_cases c1 : e ≤ i
    · rw [if_pos c1]; exact ⟨_, _, rfl⟩
    rw [if_neg c1] at h ⊢
    by_cases c2 : tagOk (b.getD i 0) = false
    · rw [if_pos c2]; exact ⟨_, _, rfl⟩
    rw [if_neg c2] at h ⊢
    by_cases c3 : (plen b (i + 1) e).code ≠ 0
    · rw [if_pos c3]; exact ⟨_, _, rfl⟩
    rw [if_neg c3] at h ⊢
    by_cases c4 : e < (plen b (i + 1) e).next + (plen b (i + 1) e).len
    · rw [if_pos c4]; exact ⟨_, _, rfl⟩
    rw [if_neg c4] at h ⊢
    by_cases c5 : comp (b.getD i 0) = false
    · rw [if_pos c5] at h; exact absurd rfl h
    · rw [if_neg c5] at h ⊢; exact ploop_err _ _ _ _ _ _ h
end Go.Proofs.YtfgeldeaahdddaaDoor.Lx
