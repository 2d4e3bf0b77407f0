/- Plain facts on numbers of words (layer 1): no program. · Chapters 08 and 17, plain: heads of objects, objects in a row, their words. No program. · Chapters 08 and 17, plain: objects in a row, and the words that hold them. No program. · Chapters 08 and 17, plain: the memory of a town (foundlinglaw08.Lay). No program. · Chapters 08 and 17, plain: a text among texts that rise: where the binary search finds it. No program. · Chapters 08 and 17, plain: what is found in the memory of a town. No program. · Chapters 08 and 17, plain: a set of numbers, 64 a word (package pack's Bits); the places where objects begin. No program. · Chapters 08 and 17, plain: an object's place in the list, by its pointer. No program. · Chapters 08 and 17, plain: the memory of a town while it is laid, stage by stage. No program. · Chapters 08 and 17, plain: an object more, another word of an object, another byte: what becomes of the words. No program. · Chapter 17, plain: a text laid among texts that rise, at its place. No program. · Chapters 08 and 17, plain: bits of words. No program. -/
import Derived.Laws.BitsAllLaws
import Derived.RowKit
import Derived.IntWalk
import Derived.Lib.TrailingZeros
namespace Go.Proofs.Ytojblndlchcjeaa
open Go.RowKit
namespace Sm

/-- The word of a number. -/
def wd (n : Int) : Int := (2 * n + 1) % 18446744073709551616
/-- The number of a word. -/
def vw (w : Int) : Int := wrap64 w / 2
theorem wrap_u64_eq (n : Int) : IntKind.u64.wrap n = n % 18446744073709551616 := by
  simp [IntKind.wrap, IntKind.bits, IntKind.signed]
theorem and_one (n : Int) (h0 : 0 ≤ n) (h1 : n ≤ 18446744073709551615) : bits .and .u64 n 1 = n % 2 := by
  rw [u64_and _ _ h0 (by omega) (by omega) (by omega)]
  have h1 : (1 : Int).toNat = 1 := rfl
  rw [h1, nat_mask1]; omega
theorem rvalue (w : Int) (h0 : 0 ≤ w) (h1 : w ≤ 18446744073709551615) : (if 4611686018427387904 ≤ w / 2 then w / 2 - 4611686018427387904 + -4611686018427387904 else w / 2) = vw w := by
  unfold vw wrap64; split <;> omega
end Sm
end Go.Proofs.Ytojblndlchcjeaa
set_option linter.unusedVariables false
namespace Go.Proofs.Ytojblndlchcjeaa
namespace Hp
/-- What stands ahead of an object. -/
structure Hdr where
  cls : Nat
  kind : Nat
  size : Nat
  hash : Nat
  mark : Bool
deriving DecidableEq
/-- May it be? -/
def okB (h : Hdr) : Bool := !(h.cls == 0) && h.cls % 2 == 0 && decide (h.size ≤ 1048576) && decide (h.hash < 16777216) && decide (h.kind ≤ 2)
/-- Which error: 0 none. (1 the class, 2 the size, 3 the hash, 4 the kind: the program's numbers are told in the walk.) -/
def infoL (h : Hdr) : Nat := h.size + h.kind * 4294967296 + (if h.mark then 68719476736 else 0) + h.hash * 1099511627776
/-- The head of two words. -/
def headL (a b : Nat) : Hdr := ⟨a, b / 4294967296 % 16, b % 4294967296, b / 1099511627776, b / 68719476736 % 2 == 1⟩
theorem okB_iff (h : Hdr) : okB h = true ↔ h.cls ≠ 0 ∧ h.cls % 2 = 0 ∧ h.size ≤ 1048576 ∧ h.hash < 16777216 ∧ h.kind ≤ 2 := by
  unfold okB
  simp only [Bool.and_eq_true, Bool.not_eq_true', beq_eq_false_iff_ne, beq_iff_eq, decide_eq_true_eq, ne_eq]
  constructor
  · rintro ⟨⟨⟨⟨h1, h2⟩, h3⟩, h4⟩, h5⟩; exact ⟨h1, h2, h3, h4, h5⟩
  · rintro ⟨h1, h2, h3, h4, h5⟩; exact ⟨⟨⟨⟨h1, h2⟩, h3⟩, h4⟩, h5⟩
theorem head_info (h : Hdr) (ok : okB h = true) : headL h.cls (infoL h) = h := by
  obtain ⟨h1, h2, h3, h4, h5⟩ := (okB_iff h).1 ok
  obtain ⟨c, k, s, x, m⟩ := h
  simp only at h1 h2 h3 h4 h5
  unfold headL infoL
  simp only
  cases m
  · simp only [Hdr.mk.injEq, true_and, Bool.false_eq_true, if_false]
    refine ⟨by omega, by omega, by omega, ?_⟩
    have : (s + k * 4294967296 + 0 + x * 1099511627776) / 68719476736 % 2 = 0 := by omega
    rw [this]; rfl
  · simp only [Hdr.mk.injEq, true_and, if_true]
    refine ⟨by omega, by omega, by omega, ?_⟩
    have : (s + k * 4294967296 + 68719476736 + x * 1099511627776) / 68719476736 % 2 = 1 := by omega
    rw [this]; rfl
theorem info_lt (h : Hdr) (ok : okB h = true) : infoL h < 18446744073709551616 := by
  obtain ⟨h1, h2, h3, h4, h5⟩ := (okB_iff h).1 ok
  unfold infoL
  split <;> omega
end Hp
end Go.Proofs.Ytojblndlchcjeaa
namespace Go.Proofs.Ytojblndlchcjeaa
namespace Hp
structure Ob where
  at_ : Nat
  hd : Hdr
  words : List Nat
  bytes : List UInt8
deriving DecidableEq
/-- Up to eight bytes, the first one lowest. -/
def w8 (b : List UInt8) : Nat := (b.take 8).foldr (fun c acc => c.toNat + 256 * acc) 0
def packB : Nat → List UInt8 → List Nat
  | 0, _ => []
  | n + 1, b => w8 b :: packB n (b.drop 8)
def cellsL (h : Hdr) : Nat := if h.kind = 2 then (h.size + 7) / 8 else h.size
def bodyW (o : Ob) : List Nat := if o.hd.kind = 2 then packB ((o.hd.size + 7) / 8) o.bytes else o.words
def obW (o : Ob) : List Nat := o.hd.cls :: infoL o.hd :: bodyW o
structure OkO (o : Ob) : Prop where
  hd : okB o.hd = true
  cls : o.hd.cls < 18446744073709551616
  words : o.hd.kind ≠ 2 → o.words.length = o.hd.size ∧ o.bytes = [] ∧ ∀ x ∈ o.words, x < 18446744073709551616
  bytes : o.hd.kind = 2 → o.bytes.length = o.hd.size ∧ o.words = []
/-- One behind the other. -/
def Chain : Nat → List Ob → Prop
  | _, [] => True
  | a, o :: r => o.at_ = a ∧ Chain (a + 2 + cellsL o.hd) r
def heapW (l : List Ob) : List Nat := l.flatMap obW
theorem packB_len : ∀ (n : Nat) (b : List UInt8), (packB n b).length = n
  | 0, _ => rfl
  | n + 1, b => by unfold packB; rw [List.length_cons, packB_len n]
theorem body_len {o : Ob} (h : OkO o) : (bodyW o).length = cellsL o.hd := by
  unfold bodyW cellsL
  split
  · exact packB_len _ _
  · rename_i hk; exact (h.words hk).1
theorem obW_len {o : Ob} (h : OkO o) : (obW o).length = 2 + cellsL o.hd := by
  unfold obW
  rw [List.length_cons, List.length_cons, body_len h]; omega
theorem w8_lt (b : List UInt8) : w8 b < 18446744073709551616 := by
  have h : ∀ (n : Nat) (l : List UInt8), l.length ≤ n → l.foldr (fun c acc => c.toNat + 256 * acc) 0 < 256 ^ n := by
    intro n
    induction n with
    | zero => intro l hl; have : l = [] := List.eq_nil_of_length_eq_zero (by omega); subst this; simp
    | succ n ih =>
      intro l hl
      cases l with
      | nil => exact Nat.pow_pos (by omega)
      | cons c l =>
        have := ih l (by simpa using hl)
        have hc := c.toNat_lt
        rw [List.foldr_cons, Nat.pow_succ]
        omega
  exact h 8 _ (by rw [List.length_take]; omega)
/-- A byte of a word. -/
theorem w8_byte (b : List UInt8) (i : Nat) (hi : i < 8) : w8 b / 256 ^ i % 256 = ((b[i]?).map (·.toNat)).getD 0 := by
  have h : ∀ (n : Nat) (l : List UInt8), l.foldr (fun c acc => c.toNat + 256 * acc) 0 / 256 ^ n % 256 = ((l[n]?).map (·.toNat)).getD 0 := by
    intro n
    induction n with
    | zero =>
      intro l
      cases l with
      | nil => rfl
      | cons c l =>
        have hc := c.toNat_lt
        rw [List.foldr_cons, Nat.pow_zero, Nat.div_one]
        simp only [List.getElem?_cons_zero, Option.map_some, Option.getD_some]
        omega
    | succ n ih =>
      intro l
      cases l with
      | nil => simp
      | cons c l =>
        have hc := c.toNat_lt
        have e : (c.toNat + 256 * l.foldr (fun c acc => c.toNat + 256 * acc) 0) / 256 = l.foldr (fun c acc => c.toNat + 256 * acc) 0 := by omega
        rw [List.foldr_cons, Nat.pow_succ, Nat.mul_comm (256 ^ n) 256, ← Nat.div_div_eq_div_mul, e, ih l]; rfl
  unfold w8
  rw [h i, List.getElem?_take, if_pos hi]
theorem packB_get : ∀ (n : Nat) (b : List UInt8) (i : Nat), i < n → (packB n b)[i]? = some (w8 (b.drop (8 * i)))
  | 0, _, i, h => by omega
  | n + 1, b, 0, _ => by simp [packB]
  | n + 1, b, i + 1, h => by
    show (packB n (b.drop 8))[i]? = _
    rw [packB_get n _ i (by omega), List.drop_drop]
    congr 3; omega
/-- A byte of an object, out of its words. -/
theorem body_byte {o : Ob} (h : OkO o) (hk : o.hd.kind = 2) (i : Nat) (c : UInt8) (hc : o.bytes[i]? = some c) : ∃ x, (bodyW o)[i / 8]? = some x ∧ x / 256 ^ (i % 8) % 256 = c.toNat := by
  have hl := (h.bytes hk).1
  have hi := (List.getElem?_eq_some_iff.1 hc).1
  refine ⟨w8 (o.bytes.drop (8 * (i / 8))), ?_, ?_⟩
  · unfold bodyW
    rw [if_pos hk]
    exact packB_get _ _ _ (by omega)
  · rw [w8_byte _ _ (Nat.mod_lt _ (by omega)), List.getElem?_drop, show 8 * (i / 8) + i % 8 = i by omega, hc]; rfl
theorem chain_at : ∀ (l : List Ob) (a k : Nat) (o : Ob), Chain a l → (∀ o ∈ l, OkO o) → l[k]? = some o → a ≤ o.at_ ∧ ∀ j u, (obW o)[j]? = some u → (heapW l)[o.at_ - a + j]? = some u
  | [], a, k, o, _, _, h => by simp at h
  | x :: l, a, 0, o, hc, hok, h => by
    have : x = o := by simpa using h
    subst this
    obtain ⟨h1, h2⟩ := hc
    refine ⟨by omega, fun j u hu => ?_⟩
    rw [h1, Nat.sub_self, Nat.zero_add]
    unfold heapW
    rw [List.flatMap_cons, List.getElem?_append_left (List.getElem?_eq_some_iff.1 hu).1]
    exact hu
  | x :: l, a, k + 1, o, hc, hok, h => by
    obtain ⟨h1, h2⟩ := hc
    obtain ⟨h3, h4⟩ := chain_at l _ k o h2 (fun o ho => hok o (List.mem_cons_of_mem _ ho)) (by simpa using h)
    have hx := obW_len (hok x (List.mem_cons_self ..))
    refine ⟨by omega, fun j u hu => ?_⟩
    unfold heapW
    rw [List.flatMap_cons, List.getElem?_append_right (by omega), hx]
    have := h4 j u hu
    unfold heapW at this
    rw [show o.at_ - a + j - (2 + cellsL x.hd) = o.at_ - (a + 2 + cellsL x.hd) + j by omega]
    exact this
/-- The first place behind some objects. -/
def endL : Nat → List Ob → Nat
  | a, [] => a
  | a, o :: r => endL (a + 2 + cellsL o.hd) r
theorem heapW_len : ∀ (l : List Ob) (a : Nat), (∀ o ∈ l, OkO o) → a + (heapW l).length = endL a l
  | [], a, _ => rfl
  | o :: l, a, h => by
    have h1 := obW_len (h o (List.mem_cons_self ..))
    have h2 := heapW_len l (a + 2 + cellsL o.hd) fun x hx => h x (List.mem_cons_of_mem _ hx)
    unfold heapW at h2 ⊢
    unfold endL
    rw [List.flatMap_cons, List.length_append, h1]
    omega
theorem chain_app : ∀ (l : List Ob) (a : Nat) (r : List Ob), Chain a (l ++ r) ↔ Chain a l ∧ Chain (endL a l) r
  | [], a, r => by simp [Chain, endL]
  | o :: l, a, r => by
    rw [List.cons_append]
    simp only [Chain, endL]
    rw [chain_app l _ r, and_assoc]
/-- Places rise. -/
theorem chain_lt : ∀ (l : List Ob) (a : Nat), Chain a l → ∀ (i j : Nat) (x y : Ob), l[i]? = some x → l[j]? = some y → i < j → x.at_ + 2 + cellsL x.hd ≤ y.at_
  | [], a, _, i, j, x, y, h, _, _ => by simp at h
  | o :: l, a, hc, i, j + 1, x, y, hx, hy, hij => by
    obtain ⟨h1, h2⟩ := hc
    cases i with
    | zero =>
      have : o = x := by simpa using hx
      subst this
      have hge : ∀ (l : List Ob) (b j : Nat) (y : Ob), Chain b l → l[j]? = some y → b ≤ y.at_ := by
        intro l
        induction l with
        | nil => intro b j y _ h; simp at h
        | cons z l ih =>
          intro b j y hc h
          cases j with
          | zero => have : z = y := by simpa using h
                    subst this; exact Nat.le_of_eq hc.1.symm
          | succ j => have := ih _ j y hc.2 (by simpa using h); omega
      have := hge l _ j y h2 (by simpa using hy)
      omega
    | succ i => exact chain_lt l _ h2 i j x y (by simpa using hx) (by simpa using hy) (by omega)
  | o :: l, a, hc, i, 0, x, y, hx, hy, hij => by omega
/-- An object by its pointer. -/
def findO (l : List Ob) (w : Nat) : Option Ob := l.find? (fun o => o.at_ * 2 == w)
theorem find_at {l : List Ob} {a k : Nat} {o : Ob} (hc : Chain a l) (h : l[k]? = some o) : findO l (o.at_ * 2) = some o := by
  unfold findO
  rw [List.find?_eq_some_iff_append]
  refine ⟨by simp, l.take k, l.drop (k + 1), ?_, fun x hx => ?_⟩
  · obtain ⟨h1, h2⟩ := List.getElem?_eq_some_iff.1 h
    rw [← h2, List.getElem_cons_drop, List.take_append_drop]
  · obtain ⟨i, hi⟩ := List.getElem?_of_mem hx
    rw [List.getElem?_take] at hi
    split at hi
    · rename_i hik
      have := chain_lt l a hc i k x o hi h hik
      have : x.at_ ≠ o.at_ := by omega
      simp; omega
    · cases hi
/-! ### Words put together byte by byte, from the last one on (as the reference does it) -/
def hiW (b : List UInt8) (j : Nat) : Nat := ((b.take 8).drop j).foldr (fun c acc => c.toNat + 256 * acc) 0
theorem hiW_zero (b : List UInt8) : hiW b 0 = w8 b := rfl
theorem hiW_end (b : List UInt8) : hiW b 8 = 0 := by
  unfold hiW
  rw [List.drop_eq_nil_of_le (by rw [List.length_take]; omega)]; rfl
theorem hiW_step (b : List UInt8) (j : Nat) (hj : j < 8) : hiW b j = 256 * hiW b (j + 1) + ((b[j]?).map (·.toNat)).getD 0 := by
  unfold hiW
  by_cases h : j < b.length
  · have h8 : j < (b.take 8).length := by rw [List.length_take]; omega
    rw [List.drop_eq_getElem_cons h8, List.foldr_cons, List.getElem_take, List.getElem?_eq_getElem h]
    simp only [Option.map_some, Option.getD_some]
    omega
  · rw [List.drop_eq_nil_of_le (by rw [List.length_take]; omega), List.drop_eq_nil_of_le (by rw [List.length_take]; omega), List.getElem?_eq_none (by omega)]
    rfl
/-- A word of few bytes has nothing above them. -/
theorem w8_few (b : List UInt8) (h : b.length ≤ 8) : w8 b < 256 ^ b.length := by
  unfold w8
  rw [List.take_of_length_le h]
  clear h
  induction b with
  | nil => simp
  | cons c b ih =>
    have hc := c.toNat_lt
    rw [List.foldr_cons, List.length_cons, Nat.pow_succ]
    omega
/-- The last word of a raw object has nothing above its bytes. -/
theorem body_rest {o : Ob} (h : OkO o) (hk : o.hd.kind = 2) (hr : 0 < o.hd.size % 8) : ∃ x, (bodyW o)[cellsL o.hd - 1]? = some x ∧ x < 256 ^ (o.hd.size % 8) := by
  have hl := (h.bytes hk).1
  have hc : cellsL o.hd = o.hd.size / 8 + 1 := by unfold cellsL; rw [if_pos hk]; omega
  refine ⟨w8 (o.bytes.drop (8 * (o.hd.size / 8))), ?_, ?_⟩
  · unfold bodyW
    rw [if_pos hk, hc]
    exact packB_get _ _ _ (by omega)
  · have hd : (o.bytes.drop (8 * (o.hd.size / 8))).length = o.hd.size % 8 := by rw [List.length_drop, hl]; omega
    have := w8_few (o.bytes.drop (8 * (o.hd.size / 8))) (by rw [hd]; omega)
    rw [hd] at this; exact this
/-- What stands at an object's place in memory: its class, its other word, its body. -/
theorem cells_at {l : List Ob} {k : Nat} {o : Ob} (hc : Chain 2 l) (hok : ∀ o ∈ l, OkO o) (h : l[k]? = some o) (z : List Nat) :
    ((0 : Nat) :: 0 :: (heapW l ++ z))[o.at_]? = some o.hd.cls ∧ ((0 : Nat) :: 0 :: (heapW l ++ z))[o.at_ + 1]? = some (infoL o.hd) ∧ ∀ j u, (bodyW o)[j]? = some u → ((0 : Nat) :: 0 :: (heapW l ++ z))[o.at_ + 2 + j]? = some u := by
  obtain ⟨h1, h2⟩ := chain_at l 2 k o hc hok h
  have key : ∀ j u, (obW o)[j]? = some u → ((0 : Nat) :: 0 :: (heapW l ++ z))[o.at_ + j]? = some u := fun j u hu => by
    have h3 := h2 j u hu
    have hlt := (List.getElem?_eq_some_iff.1 h3).1
    obtain ⟨m, hm⟩ : ∃ m, o.at_ + j = m + 2 := ⟨o.at_ + j - 2, by omega⟩
    rw [hm, List.getElem?_cons_succ, List.getElem?_cons_succ, List.getElem?_append_left (by omega)]
    rw [show o.at_ - 2 + j = m by omega] at h3
    exact h3
  exact ⟨key 0 _ rfl, key 1 _ rfl, fun j u hu => by have := key (j + 2) u (by unfold obW; exact hu); rw [show o.at_ + 2 + j = o.at_ + (j + 2) by omega]; exact this⟩
end Hp
end Go.Proofs.Ytojblndlchcjeaa
namespace Go.Proofs.Ytojblndlchcjeaa
open Go.RowKit
namespace Hp
abbrev Bts := List UInt8
/-- The names of the sixteen, and of those of one's own. -/
def kernelL : List Bts := [
  [79, 98, 106, 101, 99, 116], [67, 108, 97, 115, 115], [77, 101, 116, 97, 99, 108, 97, 115, 115], [85, 110, 100, 101, 102, 105, 110, 101, 100, 79, 98, 106, 101, 99, 116],
  [84, 114, 117, 101], [70, 97, 108, 115, 101], [83, 109, 97, 108, 108, 73, 110, 116, 101, 103, 101, 114], [83, 116, 114, 105, 110, 103], [83, 121, 109, 98, 111, 108], [65, 114, 114, 97, 121],
  [77, 101, 116, 104, 111, 100], [67, 111, 110, 116, 101, 120, 116], [66, 108, 111, 99, 107], [80, 114, 111, 99, 101, 115, 115], [83, 101, 109, 97, 112, 104, 111, 114, 101], [77, 101, 115, 115, 97, 103, 101]]
def ownN (i : Nat) : Bts := [79, 119, 110, UInt8.ofNat (97 + i)]
def namesL (n : Nat) : List Bts := kernelL ++ (List.range n).map ownN
def lacksL : Bts := [100, 111, 101, 115, 78, 111, 116, 85, 110, 100, 101, 114, 115, 116, 97, 110, 100, 58]
def cN (n i : Nat) : Nat := (((namesL n).getD i []).length + 7) / 8
/-- Where things lie: n classes of one's own. -/
def NN (n : Nat) : Nat := 16 + n
def clsAt (i : Nat) : Nat := 28 + 7 * i
def metaAt (n i : Nat) : Nat := 28 + 7 * NN n + 7 * i
def nilAt (n k : Nat) : Nat := 28 + 14 * NN n + 2 * k
def baseAt (n i : Nat) : Nat := 34 + 14 * NN n + ((List.range i).map (fun j => 10 + cN n j)).sum
def symAt (n i : Nat) : Nat := baseAt n i + 2
def schedAt (n : Nat) : Nat := baseAt n (NN n)
def lackAt (n : Nat) : Nat := schedAt n + 2
def globAt (n : Nat) : Nat := schedAt n + 7
def symsAt (n : Nat) : Nat := globAt n + 2 + 2 * NN n
/-- The classes in the order of their names. -/
def orderL (n : Nat) : List Nat := [9, 12, 1, 11, 5, 15, 2, 10, 0] ++ (List.range n).map (16 + ·) ++ [13, 14, 6, 7, 8, 4, 3]
/-- Whom a class stands below: by its place (of the first one: none). sup: as they came. -/
def magL (x : Int) : Nat := if x = -9223372036854775808 then 0 else x.natAbs
def upL (sup : List Int) (i : Nat) : Nat := if 16 ≤ i then magL (sup.getD (i - 16) 0) % i else if i = 8 then 7 else 0
def fmt0 (i : Nat) : Nat := if i = 1 ∨ i = 2 then 20 else if i = 7 ∨ i = 8 then 2 else if i = 9 ∨ i = 11 then 1 else 0
/-- The formats of the first k. -/
def fmtsL (sup flds : List Int) : Nat → List Nat
  | 0 => []
  | k + 1 =>
    let l := fmtsL sup flds k
    let f := if fmt0 k = 0 ∧ 0 < k ∧ upL sup k ≠ 0 then l.getD (upL sup k) 0 else fmt0 k
    l ++ [if 16 ≤ k ∧ k - 16 < flds.length ∧ f % 4 = 0 then f + 4 * (flds.getD (k - 16) 0 % 4).toNat else f]
def wordN (v : Nat) : Nat := 2 * v + 1
def hdL (cls kind size : Nat) : Hdr := ⟨cls, kind, size, 0, false⟩
def arrC : Nat := 2 * clsAt 9
def symC : Nat := 2 * clsAt 8
def listO (at_ : Nat) (ws : List Nat) : Ob := ⟨at_, hdL arrC 1 ws.length, ws, []⟩
def symO (at_ : Nat) (b : Bts) : Ob := ⟨at_, hdL symC 2 b.length, [], b⟩
def clsO (n : Nat) (sup flds : List Int) (i : Nat) : Ob :=
  ⟨clsAt i, hdL (2 * metaAt n i) 0 5, [if i = 0 then 2 * nilAt n 0 else 2 * clsAt (upL sup i), 2 * baseAt n i, wordN ((fmtsL sup flds (i + 1)).getD i 0), 2 * symAt n i, 2 * (baseAt n i + 4 + cN n i)], []⟩
def metaO (n : Nat) (sup : List Int) (i : Nat) : Ob :=
  ⟨metaAt n i, hdL (2 * clsAt 2) 0 5, [if i = 0 then 2 * clsAt 1 else 2 * metaAt n (upL sup i), 2 * (baseAt n i + 6 + cN n i), wordN 20, 2 * clsAt i, 2 * (baseAt n i + 8 + cN n i)], []⟩
def partO (n i : Nat) : List Ob := [listO (baseAt n i) [], symO (symAt n i) ((namesL n).getD i []), listO (baseAt n i + 4 + cN n i) [], listO (baseAt n i + 6 + cN n i) [], listO (baseAt n i + 8 + cN n i) []]
def rootW (n : Nat) : List Nat := [2 * nilAt n 0, 2 * nilAt n 1, 2 * nilAt n 2, 2 * globAt n, 2 * symsAt n] ++ (List.range 16).map (fun i => 2 * clsAt i) ++ [2 * schedAt n, 2 * lackAt n, 2 * nilAt n 0]
/-- All objects of a town. -/
def layL (n : Nat) (sup flds : List Int) : List Ob :=
  listO 2 (rootW n) :: ((List.range (NN n)).map (clsO n sup flds) ++ (List.range (NN n)).map (metaO n sup) ++ (List.range 3).map (fun k => (⟨nilAt n k, hdL (2 * clsAt (3 + k)) 0 0, [], []⟩ : Ob)) ++
    (List.range (NN n)).flatMap (partO n) ++
    [listO (schedAt n) [], symO (lackAt n) lacksL, listO (globAt n) ((orderL n).flatMap (fun i => [2 * symAt n i, 2 * clsAt i])), listO (symsAt n) ((orderL n).map (fun i => 2 * symAt n i) ++ [2 * lackAt n])])
/-- Is it so, by reckoning? -/
def chainB : Nat → List Ob → Bool
  | _, [] => true
  | a, o :: r => o.at_ == a && chainB (a + 2 + cellsL o.hd) r
theorem chainB_iff : ∀ (l : List Ob) (a : Nat), chainB a l = true ↔ Chain a l
  | [], a => by simp [chainB, Chain]
  | o :: l, a => by simp [chainB, Chain, chainB_iff l]
/-- All but the words' sizes, by reckoning. -/
def okOB (o : Ob) : Bool := okB o.hd && decide (o.hd.cls < 65536) && (if o.hd.kind = 2 then o.bytes.length == o.hd.size && o.words.isEmpty else o.words.length == o.hd.size && o.bytes.isEmpty)
set_option maxRecDepth 1000000 in
theorem chain_lay (n : Nat) (hn : n ≤ 6) (sup flds : List Int) : Chain 2 (layL n sup flds) := by
  rw [← chainB_iff]
  match n, hn with
  | 0, _ => exact (show chainB 2 (layL 0 sup flds) = true by kernel_rfl)
  | 1, _ => exact (show chainB 2 (layL 1 sup flds) = true by kernel_rfl)
  | 2, _ => exact (show chainB 2 (layL 2 sup flds) = true by kernel_rfl)
  | 3, _ => exact (show chainB 2 (layL 3 sup flds) = true by kernel_rfl)
  | 4, _ => exact (show chainB 2 (layL 4 sup flds) = true by kernel_rfl)
  | 5, _ => exact (show chainB 2 (layL 5 sup flds) = true by kernel_rfl)
  | 6, _ => exact (show chainB 2 (layL 6 sup flds) = true by kernel_rfl)
set_option maxRecDepth 1000000 in
theorem okOB_lay (n : Nat) (hn : n ≤ 6) (sup flds : List Int) : (layL n sup flds).all okOB = true := by
  match n, hn with
  | 0, _ => exact (show (layL 0 sup flds).all okOB = true by kernel_rfl)
  | 1, _ => exact (show (layL 1 sup flds).all okOB = true by kernel_rfl)
  | 2, _ => exact (show (layL 2 sup flds).all okOB = true by kernel_rfl)
  | 3, _ => exact (show (layL 3 sup flds).all okOB = true by kernel_rfl)
  | 4, _ => exact (show (layL 4 sup flds).all okOB = true by kernel_rfl)
  | 5, _ => exact (show (layL 5 sup flds).all okOB = true by kernel_rfl)
  | 6, _ => exact (show (layL 6 sup flds).all okOB = true by kernel_rfl)
theorem upL_lt (sup : List Int) (i : Nat) (h : 0 < i) : upL sup i < i := by
  unfold upL
  split
  · exact Nat.mod_lt _ h
  · split <;> omega
theorem fmts_len (sup flds : List Int) : ∀ k, (fmtsL sup flds k).length = k
  | 0 => rfl
  | k + 1 => by simp only [fmtsL]; rw [List.length_append, fmts_len sup flds k]; rfl
theorem fmt0_le (k : Nat) : fmt0 k ≤ 20 := by
  unfold fmt0
  split
  · omega
  · split
    · omega
    · split <;> omega
theorem fmts_le (sup flds : List Int) : ∀ k, ∀ x ∈ fmtsL sup flds k, x ≤ 20 + 12 * k
  | 0, x, h => by simp [fmtsL] at h
  | k + 1, x, h => by
    have ih := fmts_le sup flds k
    simp only [fmtsL] at h
    rcases List.mem_append.1 h with h | h
    · have := ih x h; omega
    · rw [List.mem_singleton] at h
      have hf : (if fmt0 k = 0 ∧ 0 < k ∧ upL sup k ≠ 0 then (fmtsL sup flds k).getD (upL sup k) 0 else fmt0 k) ≤ 20 + 12 * k := by
        split
        · rw [List.getD_eq_getElem?_getD]
          cases hg : (fmtsL sup flds k)[upL sup k]? with
          | none => simp
          | some y => exact ih y (List.mem_of_getElem? hg)
        · have := fmt0_le k; omega
      have hm : (flds.getD (k - 16) 0 % 4).toNat ≤ 3 := by omega
      rw [h]
      generalize (if fmt0 k = 0 ∧ 0 < k ∧ upL sup k ≠ 0 then (fmtsL sup flds k).getD (upL sup k) 0 else fmt0 k) = f at hf ⊢
      split <;> omega
theorem fmt_get (sup flds : List Int) (i : Nat) : (fmtsL sup flds (i + 1)).getD i 0 ≤ 20 + 12 * (i + 1) := by
  rw [List.getD_eq_getElem?_getD]
  cases hg : (fmtsL sup flds (i + 1))[i]? with
  | none => simp
  | some y => exact fmts_le sup flds _ y (List.mem_of_getElem? hg)
set_option maxRecDepth 1000000 in
theorem base_le : ∀ n, n ≤ 6 → (∀ i, i ≤ NN n → baseAt n i ≤ 700 ∧ cN n i ≤ 2) ∧ (rootW n).all (· < 65536) = true ∧ ((orderL n).flatMap (fun i => [2 * symAt n i, 2 * clsAt i])).all (· < 65536) = true ∧ ((orderL n).map (fun i => 2 * symAt n i) ++ [2 * lackAt n]).all (· < 65536) = true := by
  have h : ∀ n : Fin 7, (∀ i : Fin 23, i.val ≤ NN n.val → baseAt n.val i.val ≤ 700 ∧ cN n.val i.val ≤ 2) ∧ (rootW n.val).all (· < 65536) = true ∧ ((orderL n.val).flatMap (fun i => [2 * symAt n.val i, 2 * clsAt i])).all (· < 65536) = true ∧ ((orderL n.val).map (fun i => 2 * symAt n.val i) ++ [2 * lackAt n.val]).all (· < 65536) = true := by decide +kernel
  intro n hn
  obtain ⟨h1, h2⟩ := h ⟨n, by omega⟩
  exact ⟨fun i hi => h1 ⟨i, by unfold NN at hi; omega⟩ hi, h2⟩
theorem words_lay (n : Nat) (hn : n ≤ 6) (sup flds : List Int) : ∀ o ∈ layL n sup flds, ∀ x ∈ o.words, x < 65536 := by
  obtain ⟨hb, hr, hg, hs⟩ := base_le n hn
  rw [List.all_eq_true] at hr hg hs
  have hN : NN n ≤ 22 := by unfold NN; omega
  intro o ho x hx
  unfold layL at ho
  rcases List.mem_cons.1 ho with rfl | ho
  · simpa using hr x hx
  rcases List.mem_append.1 ho with ho | ho
  · rcases List.mem_append.1 ho with ho | ho
    · rcases List.mem_append.1 ho with ho | ho
      · rcases List.mem_append.1 ho with ho | ho
        · obtain ⟨i, hi, rfl⟩ := List.mem_map.1 ho
          rw [List.mem_range] at hi
          obtain ⟨b1, b2⟩ := hb i (by omega)
          have hf := fmt_get sup flds i
          have hu : i ≠ 0 → upL sup i < i := fun h => upL_lt sup i (by omega)
          unfold clsO at hx
          simp only [List.mem_cons, List.not_mem_nil, or_false] at hx
          unfold wordN clsAt nilAt symAt at hx
          rcases hx with rfl | rfl | rfl | rfl | rfl
          · split
            · omega
            · rename_i h; have := hu h; omega
          all_goals omega
        · obtain ⟨i, hi, rfl⟩ := List.mem_map.1 ho
          rw [List.mem_range] at hi
          obtain ⟨b1, b2⟩ := hb i (by omega)
          have hu : i ≠ 0 → upL sup i < i := fun h => upL_lt sup i (by omega)
          unfold metaO at hx
          simp only [List.mem_cons, List.not_mem_nil, or_false] at hx
          unfold wordN clsAt metaAt at hx
          rcases hx with rfl | rfl | rfl | rfl | rfl
          · split
            · omega
            · rename_i h; have := hu h; omega
          all_goals omega
      · obtain ⟨k, hk, rfl⟩ := List.mem_map.1 ho
        cases hx
    · obtain ⟨i, hi, ho⟩ := List.mem_flatMap.1 ho
      unfold partO at ho
      simp only [List.mem_cons, List.not_mem_nil, or_false] at ho
      rcases ho with rfl | rfl | rfl | rfl | rfl <;> cases hx
  · simp only [List.mem_cons, List.not_mem_nil, or_false] at ho
    rcases ho with rfl | rfl | rfl | rfl
    · cases hx
    · cases hx
    · simpa using hg x hx
    · simpa using hs x hx
theorem ok_lay (n : Nat) (hn : n ≤ 6) (sup flds : List Int) : ∀ o ∈ layL n sup flds, OkO o := by
  have h := okOB_lay n hn sup flds
  rw [List.all_eq_true] at h
  intro o ho
  have h1 := h o ho
  have hw := words_lay n hn sup flds o ho
  unfold okOB at h1
  simp only [Bool.and_eq_true, decide_eq_true_eq] at h1
  obtain ⟨⟨h1, h2⟩, h3⟩ := h1
  refine ⟨h1, by omega, fun hk => ?_, fun hk => ?_⟩
  · rw [if_neg hk, Bool.and_eq_true] at h3
    exact ⟨by simpa using h3.1, by simpa using h3.2, fun x hx => by have := hw x hx; omega⟩
  · rw [if_pos hk, Bool.and_eq_true] at h3
    exact ⟨by simpa using h3.1, by simpa using h3.2⟩
end Hp
end Go.Proofs.Ytojblndlchcjeaa
namespace Go.Proofs.Ytojblndlchcjeaa
open Go.RowKit
namespace Hp
/-- Texts that rise. -/
def Rises (T : List Bts) : Prop := ∀ (i j : Nat) (x y : Bts), T[i]? = some x → T[j]? = some y → i < j → x < y
def below (T : List Bts) (s : Bts) (i : Nat) : Bool := decide (T.getD i [] < s)
/-- Where a text is, or would be. -/
def spotL (T : List Bts) (s : Bts) : Nat := (List.range T.length).countP (below T s)
theorem countP_lt (p : Nat → Bool) (k : Nat) : ∀ n, k ≤ n → (∀ i, i < n → (p i = true ↔ i < k)) → (List.range n).countP p = k := by
  intro n
  induction n with
  | zero => intro hk _; have : k = 0 := by omega
            subst this; rfl
  | succ n ih =>
    intro hk hp
    rw [List.range_succ, List.countP_append]
    by_cases h : k ≤ n
    · rw [ih h fun i hi => hp i (by omega)]
      have : p n = false := by
        cases hq : p n with
        | false => rfl
        | true => have := (hp n (by omega)).1 hq; omega
      simp [this]
    · have hkn : k = n + 1 := by omega
      have h1 : (List.range n).countP p = n := by
        have : (List.range n).countP p = (List.range n).length := List.countP_eq_length.2 fun i hi => (hp i (by rw [List.mem_range] at hi; omega)).2 (by rw [List.mem_range] at hi; omega)
        rw [this, List.length_range]
      have h2 : p n = true := (hp n (by omega)).2 (by omega)
      rw [h1]; simp [h2]; omega
theorem getD_of {T : List Bts} {i : Nat} {x : Bts} (h : T[i]? = some x) : T.getD i [] = x := by rw [List.getD_eq_getElem?_getD, h]; rfl
/-- A text that is there is found at its place. -/
theorem spot_at {T : List Bts} {s : Bts} {k : Nat} (hr : Rises T) (h : T[k]? = some s) : spotL T s = k := by
  have hk := (List.getElem?_eq_some_iff.1 h).1
  refine countP_lt _ k _ (by omega) fun i hi => ?_
  obtain ⟨x, hx⟩ : ∃ x, T[i]? = some x := ⟨_, List.getElem?_eq_getElem hi⟩
  unfold below
  rw [getD_of hx, decide_eq_true_eq]
  constructor
  · intro hlt
    by_cases hik : i < k
    · exact hik
    · exfalso
      by_cases he : i = k
      · subst he
        rw [h] at hx
        cases hx
        exact List.lt_irrefl _ hlt
      · exact List.lt_asymm hlt (hr k i s x h hx (by omega))
  · exact fun hik => hr i k x s hx h hik
theorem spot_le (T : List Bts) (s : Bts) : spotL T s ≤ T.length := by
  unfold spotL
  have := List.countP_le_length (p := below T s) (l := List.range T.length)
  rw [List.length_range] at this; exact this
/-- Is it there? As the search says it, and as it is. -/
theorem spot_iff {T : List Bts} {s : Bts} (hr : Rises T) : T[spotL T s]? = some s ↔ s ∈ T := by
  constructor
  · exact fun h => List.mem_of_getElem? h
  · intro h
    obtain ⟨k, hk⟩ := List.getElem?_of_mem h
    rw [spot_at hr hk]; exact hk
/-- What the search asks for: once a text isn't below, none behind it is. -/
theorem below_mono {T : List Bts} (hr : Rises T) (s : Bts) (a b : Nat) (hab : a ≤ b) (hb : b < T.length) (h : (!below T s a) = true) : (!below T s b) = true := by
  by_cases e : a = b
  · subst e; exact h
  · obtain ⟨x, hx⟩ : ∃ x, T[a]? = some x := ⟨_, List.getElem?_eq_getElem (by omega)⟩
    obtain ⟨y, hy⟩ : ∃ y, T[b]? = some y := ⟨_, List.getElem?_eq_getElem hb⟩
    have hxy := hr a b x y hx hy (by omega)
    unfold below at h ⊢
    rw [getD_of hx] at h
    rw [getD_of hy]
    simp only [Bool.not_eq_true', decide_eq_false_iff_not] at h ⊢
    exact fun hlt => h (List.lt_trans hxy hlt)
/-- By reckoning. -/
def risB : List Bts → Bool
  | [] => true
  | [_] => true
  | a :: b :: r => decide (a < b) && risB (b :: r)
theorem ris_next : ∀ (T : List Bts), risB T = true → ∀ (i : Nat) (x y : Bts), T[i]? = some x → T[i + 1]? = some y → x < y
  | [], _, i, x, y, h, _ => by simp at h
  | [a], _, i, x, y, _, h => by simp at h
  | a :: b :: r, h, i, x, y, hx, hy => by
    unfold risB at h
    rw [Bool.and_eq_true, decide_eq_true_eq] at h
    cases i with
    | zero =>
      have h1 : a = x := by simpa using hx
      have h2 : b = y := by simpa using hy
      subst h1; subst h2; exact h.1
    | succ i => exact ris_next (b :: r) h.2 i x y (by simpa using hx) (by simpa using hy)
theorem ris_of {T : List Bts} (h : risB T = true) : Rises T := by
  intro i j x y hx hy hij
  obtain ⟨d, rfl⟩ : ∃ d, j = i + 1 + d := ⟨j - i - 1, by omega⟩
  clear hij
  induction d generalizing y with
  | zero => exact ris_next T h i x y hx hy
  | succ d ih =>
    have hl := (List.getElem?_eq_some_iff.1 hy).1
    obtain ⟨z, hz⟩ : ∃ z, T[i + 1 + d]? = some z := ⟨_, List.getElem?_eq_getElem (by omega)⟩
    exact List.lt_trans (ih z hz) (ris_next T h _ z y hz hy)
/-- The classes' names as they stand in the globals; with one more, the symbols. -/
def globT (n : Nat) : List Bts := (orderL n).map (fun i => (namesL n).getD i [])
def symT (n : Nat) : List Bts := globT n ++ [lacksL]
set_option maxRecDepth 1000000 in
theorem syms_rise (n : Nat) (hn : n ≤ 6) : Rises (symT n) := by
  refine ris_of ?_
  have h : ∀ n : Fin 7, risB (symT n.val) = true := by decide +kernel
  exact h ⟨n, by omega⟩
theorem glob_rise (n : Nat) (hn : n ≤ 6) : Rises (globT n) := by
  intro i j x y hx hy hij
  have h1 := (List.getElem?_eq_some_iff.1 hx).1
  have h2 := (List.getElem?_eq_some_iff.1 hy).1
  exact syms_rise n hn i j x y (by unfold symT; rw [List.getElem?_append_left h1]; exact hx) (by unfold symT; rw [List.getElem?_append_left h2]; exact hy) hij
end Hp
end Go.Proofs.Ytojblndlchcjeaa
namespace Go.Proofs.Ytojblndlchcjeaa
open Go.RowKit
namespace Hp
theorem find_mem {l : List Ob} {a : Nat} {o : Ob} (hc : Chain a l) (h : o ∈ l) : findO l (o.at_ * 2) = some o := by
  obtain ⟨k, hk⟩ := List.getElem?_of_mem h
  exact find_at hc hk
section
variable {n : Nat} {sup flds : List Int}
theorem mem_root : listO 2 (rootW n) ∈ layL n sup flds := List.mem_cons_self ..
theorem mem_cls {i : Nat} (hi : i < NN n) : clsO n sup flds i ∈ layL n sup flds := by
  refine List.mem_cons_of_mem _ (List.mem_append_left _ (List.mem_append_left _ (List.mem_append_left _ (List.mem_append_left _ ?_))))
  exact List.mem_map.2 ⟨i, List.mem_range.2 hi, rfl⟩
theorem mem_part {i : Nat} (hi : i < NN n) {o : Ob} (h : o ∈ partO n i) : o ∈ layL n sup flds := by
  refine List.mem_cons_of_mem _ (List.mem_append_left _ (List.mem_append_right _ ?_))
  exact List.mem_flatMap.2 ⟨i, List.mem_range.2 hi, h⟩
theorem mem_sym {i : Nat} (hi : i < NN n) : symO (symAt n i) ((namesL n).getD i []) ∈ layL n sup flds := mem_part hi (by unfold partO; simp)
theorem mem_last {o : Ob} (h : o ∈ [listO (schedAt n) [], symO (lackAt n) lacksL, listO (globAt n) ((orderL n).flatMap (fun i => [2 * symAt n i, 2 * clsAt i])), listO (symsAt n) ((orderL n).map (fun i => 2 * symAt n i) ++ [2 * lackAt n])]) : o ∈ layL n sup flds :=
  List.mem_cons_of_mem _ (List.mem_append_right _ h)
theorem mem_glob : listO (globAt n) ((orderL n).flatMap (fun i => [2 * symAt n i, 2 * clsAt i])) ∈ layL n sup flds := mem_last (by simp)
theorem mem_syms : listO (symsAt n) ((orderL n).map (fun i => 2 * symAt n i) ++ [2 * lackAt n]) ∈ layL n sup flds := mem_last (by simp)
theorem mem_lack : symO (lackAt n) lacksL ∈ layL n sup flds := mem_last (by simp)
theorem order_lt : ∀ n, n ≤ 6 → ∀ i ∈ orderL n, i < NN n := by
  have h : ∀ n : Fin 7, (orderL n.val).all (fun i => decide (i < NN n.val)) = true := by decide
  intro n hn i hi
  have := h ⟨n, by omega⟩
  rw [List.all_eq_true] at this
  simpa using this i hi
theorem order_len (n : Nat) : (orderL n).length = NN n := by unfold orderL NN; simp; omega
end
/-- The word that a name has in the globals; 0: none. -/
def globR (n : Nat) (s : Bts) : Nat := if (globT n)[spotL (globT n) s]? = some s then 2 * clsAt ((orderL n).getD (spotL (globT n) s) 0) else 0
/-- What a raw object of a symbol's class has. -/
def bytesO (l : List Ob) (w : Nat) : Bts := ((findO l w).map (·.bytes)).getD []
def wordsO (l : List Ob) (w : Nat) : List Nat := ((findO l w).map (·.words)).getD []
theorem glob_some {n : Nat} {s : Bts} (h : (globT n)[spotL (globT n) s]? = some s) : globR n s ≠ 0 := by
  unfold globR
  rw [if_pos h]
  unfold clsAt; omega
end Hp
end Go.Proofs.Ytojblndlchcjeaa
namespace Go.Proofs.Ytojblndlchcjeaa
namespace Hp
/-- The words of a set below n. -/
structure BitsOf (S : Nat → Bool) (n : Nat) (ws : List Nat) : Prop where
  len : ws.length = (n + 63) / 64
  bit : ∀ i, i < n → (ws.getD (i / 64) 0).testBit (i % 64) = S i
  out : ∀ i, n ≤ i → S i = false
  rest : ∀ i, n ≤ i → i < 64 * ws.length → (ws.getD (i / 64) 0).testBit (i % 64) = false
  lt : ∀ x ∈ ws, x < 2 ^ 64
theorem bits_none (n : Nat) : BitsOf (fun _ => false) n (List.replicate ((n + 63) / 64) 0) := by
  have h : ∀ j : Nat, (List.replicate ((n + 63) / 64) 0).getD j 0 = 0 := fun j => by
    rw [List.getD_eq_getElem?_getD, List.getElem?_replicate]; split <;> rfl
  refine ⟨List.length_replicate, fun i _ => by rw [h]; simp, fun _ _ => rfl, fun i _ _ => by rw [h]; simp, fun x hx => by rw [(List.mem_replicate.1 hx).2]; decide⟩
/-- Any bit of the words is the set's. -/
theorem BitsOf.all {S : Nat → Bool} {n : Nat} {ws : List Nat} (h : BitsOf S n ws) (i : Nat) (hi : i < 64 * ws.length) : (ws.getD (i / 64) 0).testBit (i % 64) = S i := by
  by_cases hn : i < n
  · exact h.bit i hn
  · rw [h.rest i (by omega) hi, h.out i (by omega)]
theorem and_pow_zero (x k : Nat) : (x &&& 2 ^ k = 0) ↔ x.testBit k = false := by
  constructor
  · intro h
    have := congrArg (fun y => y.testBit k) h
    simpa [Nat.testBit_and, Nat.testBit_two_pow] using this
  · intro h
    apply Nat.eq_of_testBit_eq
    intro i
    rw [Nat.testBit_and, Nat.testBit_two_pow, Nat.zero_testBit]
    by_cases e : k = i
    · subst e; rw [h]; rfl
    · simp [e]
/-- A number more in the set. -/
theorem BitsOf.set {S : Nat → Bool} {n : Nat} {ws : List Nat} (h : BitsOf S n ws) (i : Nat) (hi : i < n) (hS : S i = false) : BitsOf (fun j => S j || j == i) n (ws.set (i / 64) ((ws.getD (i / 64) 0) ^^^ 2 ^ (i % 64))) := by
  have hl := h.len
  have hil : i / 64 < ws.length := by omega
  have hg : ∀ j : Nat, (ws.set (i / 64) ((ws.getD (i / 64) 0) ^^^ 2 ^ (i % 64))).getD j 0 = if j = i / 64 then (ws.getD (i / 64) 0) ^^^ 2 ^ (i % 64) else ws.getD j 0 := fun j => by
    rw [List.getD_eq_getElem?_getD, List.getElem?_set]
    by_cases e : i / 64 = j
    · subst e; rw [if_pos rfl, if_pos hil, if_pos rfl]; rfl
    · rw [if_neg e, if_neg (fun x => e x.symm), List.getD_eq_getElem?_getD]
  have hb : ∀ j, j < 64 * ws.length → ((ws.set (i / 64) ((ws.getD (i / 64) 0) ^^^ 2 ^ (i % 64))).getD (j / 64) 0).testBit (j % 64) = (S j || j == i) := fun j hj => by
    rw [hg]
    by_cases e : j / 64 = i / 64
    · rw [if_pos e, Nat.testBit_xor, Nat.testBit_two_pow, ← e, h.all j hj]
      by_cases e2 : j = i
      · subst e2; simp [hS]
      · have : ¬ i % 64 = j % 64 := by omega
        simp [this, e2]
    · rw [if_neg e, h.all j hj]
      have : j ≠ i := fun x => e (by rw [x])
      simp [this]
  refine ⟨by rw [List.length_set]; exact hl, fun j hj => hb j (by omega), fun j hj => ?_, fun j hj hj2 => ?_, fun x hx => ?_⟩
  · rw [h.out j hj]; have : j ≠ i := by omega
    simp [this]
  · rw [List.length_set] at hj2
    rw [hb j hj2, h.out j hj]; have : j ≠ i := by omega
    simp [this]
  · rcases List.mem_or_eq_of_mem_set hx with hx | rfl
    · exact h.lt x hx
    · refine Nat.xor_lt_two_pow ?_ (Nat.pow_lt_pow_right (by omega) (Nat.mod_lt _ (by omega)))
      rw [List.getD_eq_getElem?_getD, List.getElem?_eq_getElem hil]
      exact h.lt _ (List.getElem_mem hil)
/-- The places where objects begin. -/
def startB (l : List Ob) (p : Nat) : Bool := l.any (fun o => o.at_ == p)
theorem start_iff (l : List Ob) (p : Nat) : startB l p = true ↔ ∃ (k : Nat) (o : Ob), l[k]? = some o ∧ o.at_ = p := by
  unfold startB
  rw [List.any_eq_true]
  constructor
  · rintro ⟨o, ho, h⟩
    obtain ⟨k, hk⟩ := List.getElem?_of_mem ho
    exact ⟨k, o, hk, by simpa using h⟩
  · rintro ⟨k, o, hk, h⟩
    exact ⟨o, List.mem_of_getElem? hk, by simpa using h⟩
/-! ### The search for the next one, word by word -/
end Hp
end Go.Proofs.Ytojblndlchcjeaa
namespace Go.Proofs.Ytojblndlchcjeaa
open Go.RowKit
namespace Hp
/-- Its place, or none. -/
def idxO : List Ob → Nat → Option Nat
  | [], _ => none
  | o :: l, w => if o.at_ * 2 = w then some 0 else (idxO l w).map (· + 1)
theorem idx_find : ∀ (l : List Ob) (w : Nat), (idxO l w).bind (fun k => l[k]?) = findO l w
  | [], w => rfl
  | o :: l, w => by
    unfold idxO findO
    by_cases h : o.at_ * 2 = w
    · rw [if_pos h, List.find?_cons, show (o.at_ * 2 == w) = true by simpa using h]; rfl
    · rw [if_neg h, List.find?_cons, show (o.at_ * 2 == w) = false by simpa using h]
      have := idx_find l w
      unfold findO at this
      rw [← this]
      cases idxO l w <;> simp
theorem idx_some {l : List Ob} {w k : Nat} (h : idxO l w = some k) : ∃ o, l[k]? = some o ∧ o.at_ * 2 = w ∧ findO l w = some o := by
  induction l generalizing k with
  | nil => cases h
  | cons o l ih =>
    unfold idxO at h
    unfold findO
    by_cases hc : o.at_ * 2 = w
    · rw [if_pos hc] at h
      cases h
      exact ⟨o, rfl, hc, by rw [List.find?_cons, show (o.at_ * 2 == w) = true by simpa using hc]⟩
    · rw [if_neg hc] at h
      obtain ⟨j, hj, rfl⟩ := Option.map_eq_some_iff.1 h
      obtain ⟨x, h1, h2, h3⟩ := ih hj
      refine ⟨x, by simpa using h1, h2, ?_⟩
      rw [List.find?_cons, show (o.at_ * 2 == w) = false by simpa using hc]
      exact h3
theorem idx_none {l : List Ob} {w : Nat} (h : idxO l w = none) : findO l w = none := by
  rw [← idx_find, h]; rfl
theorem idx_lt {l : List Ob} {w k : Nat} (h : idxO l w = some k) : k < l.length := by
  obtain ⟨o, h1, _⟩ := idx_some h
  exact (List.getElem?_eq_some_iff.1 h1).1
/-- In a chain an object's pointer leads to its own place. -/
theorem idx_at {l : List Ob} {a k : Nat} {o : Ob} (hc : Chain a l) (h : l[k]? = some o) : idxO l (o.at_ * 2) = some k := by
  induction l generalizing a k with
  | nil => simp at h
  | cons x l ih =>
    cases k with
    | zero =>
      have : x = o := by simpa using h
      subst this
      unfold idxO
      rw [if_pos rfl]
    | succ k =>
      have hlt := chain_lt (x :: l) a hc 0 (k + 1) x o rfl h (by omega)
      unfold idxO
      rw [if_neg (by omega), ih hc.2 (by simpa using h)]; rfl
/-- The first k are other ones. -/
def NotYet (l : List Ob) (w k : Nat) : Prop := ∀ i o, i < k → l[i]? = some o → o.at_ * 2 ≠ w
theorem idx_hit {l : List Ob} {w k : Nat} {o : Ob} (hn : NotYet l w k) (h : l[k]? = some o) (hw : o.at_ * 2 = w) : idxO l w = some k := by
  induction l generalizing k with
  | nil => simp at h
  | cons x l ih =>
    cases k with
    | zero =>
      have : x = o := by simpa using h
      subst this
      unfold idxO
      rw [if_pos hw]
    | succ k =>
      unfold idxO
      rw [if_neg (hn 0 x (by omega) rfl), ih (fun i y hi hy => hn (i + 1) y (Nat.succ_lt_succ hi) (by simpa using hy)) (by simpa using h)]; rfl
theorem idx_miss {l : List Ob} {w : Nat} (hn : NotYet l w l.length) : idxO l w = none := by
  cases h : idxO l w with
  | none => rfl
  | some k =>
    obtain ⟨o, h1, h2, _⟩ := idx_some h
    exact absurd h2 (hn k o (idx_lt h) h1)
end Hp
end Go.Proofs.Ytojblndlchcjeaa
namespace Go.Proofs.Ytojblndlchcjeaa
open Go.RowKit
namespace Hp
/-- Where an object lies, and how many cells its body has: all that a chain looks at. -/
def keyO (o : Ob) : Nat × Nat := (o.at_, cellsL o.hd)
theorem chain_keys : ∀ {l l' : List Ob} {a : Nat}, l.map keyO = l'.map keyO → Chain a l' → Chain a l
  | [], _, _, _, _ => trivial
  | o :: l, [], _, e, _ => by cases e
  | o :: l, o' :: l', a, e, h => by
    rw [List.map_cons, List.map_cons] at e
    obtain ⟨e1, e2⟩ := List.cons.inj e
    unfold keyO at e1
    obtain ⟨e3, e4⟩ := Prod.mk.inj e1
    obtain ⟨h1, h2⟩ := h
    refine ⟨e3.trans h1, ?_⟩
    rw [e4]
    exact chain_keys e2 h2
theorem end_keys : ∀ {l l' : List Ob} {a : Nat}, l.map keyO = l'.map keyO → endL a l = endL a l'
  | [], [], _, _ => rfl
  | [], _ :: _, _, e => by cases e
  | o :: l, [], _, e => by cases e
  | o :: l, o' :: l', a, e => by
    rw [List.map_cons, List.map_cons] at e
    obtain ⟨e1, e2⟩ := List.cons.inj e
    unfold keyO at e1
    obtain ⟨e3, e4⟩ := Prod.mk.inj e1
    unfold endL
    rw [e4]
    exact end_keys e2
/-- The beginning of a chain is one; behind it lies the next object. -/
theorem pre_chain {L A C : List Ob} {a : Nat} (e : L.map keyO = A.map keyO) (h : Chain a (A ++ C)) : Chain a L := chain_keys e ((chain_app A a C).1 h).1
theorem pre_end {L A C : List Ob} {o : Ob} {a : Nat} (e : L.map keyO = A.map keyO) (h : Chain a (A ++ o :: C)) : endL a L = o.at_ := by
  rw [end_keys e]
  exact (((chain_app A a (o :: C)).1 h).2.1).symm
def zer (k : Nat) : List Nat := List.replicate k 0
/-- Its class is told later: 4 till then. -/
def rw4 (o : Ob) : Ob := { o with hd := { o.hd with cls := 4 } }
def clsZ (i : Nat) : Ob := ⟨clsAt i, hdL 4 0 5, zer 5, []⟩
def metaZ (n i : Nat) : Ob := ⟨metaAt n i, hdL 4 0 5, zer 5, []⟩
def nilZ (n k : Nat) : Ob := ⟨nilAt n k, hdL 4 0 0, [], []⟩
def rootZ (ws : List Nat) : Ob := ⟨2, hdL 4 1 24, ws, []⟩
def clsS (n : Nat) (sup flds : List Int) (k i : Nat) : Ob := if i < k then clsO n sup flds i else clsZ i
def metaS (n : Nat) (sup : List Int) (k i : Nat) : Ob := if i < k then metaO n sup i else metaZ n i
def partZ (n i : Nat) : List Ob := (partO n i).map rw4
/-- The classes' objects; then their metas; then three; then k classes' own, with what they have. -/
def stB (k : Nat) : List Ob := rootZ (zer 24) :: (List.range k).map clsZ
def stC (n k : Nat) : List Ob := rootZ (zer 24) :: ((List.range (NN n)).map clsZ ++ (List.range k).map (metaZ n))
def stE (n : Nat) (sup flds : List Int) (k : Nat) : List Ob :=
  rootZ (zer 24) :: ((List.range (NN n)).map (clsS n sup flds k) ++ (List.range (NN n)).map (metaS n sup k) ++ (List.range 3).map (nilZ n) ++ (List.range k).flatMap (partZ n))
theorem range_cut {k N : Nat} (h : k ≤ N) : List.range N = List.range k ++ (List.range' k (N - k)) := by
  have e := List.range'_append_1 (s := 0) (m := k) (n := N - k)
  rw [List.range_eq_range', List.range_eq_range', ← show k + (N - k) = N by omega, ← e]
  congr 2 <;> omega
theorem range_one {k N : Nat} (h : k < N) : List.range N = List.range k ++ k :: List.range' (k + 1) (N - (k + 1)) := by
  rw [range_cut (Nat.le_of_lt h)]
  congr 1
  obtain ⟨m, hm⟩ : ∃ m, N - k = m + 1 := ⟨N - k - 1, by omega⟩
  rw [hm, List.range'_succ, show N - (k + 1) = m by omega]
def lastO (n : Nat) : List Ob := [listO (schedAt n) [], symO (lackAt n) lacksL, listO (globAt n) ((orderL n).flatMap (fun i => [2 * symAt n i, 2 * clsAt i])), listO (symsAt n) ((orderL n).map (fun i => 2 * symAt n i) ++ [2 * lackAt n])]
section
variable {n : Nat} {sup flds : List Int}
theorem key_map {α : Type} {f g : α → Ob} (h : ∀ x, keyO (f x) = keyO (g x)) (l : List α) : (l.map f).map keyO = (l.map g).map keyO := by
  rw [List.map_map, List.map_map]
  exact List.map_congr_left fun x _ => h x
theorem key_cls (i : Nat) : keyO (clsZ i) = keyO (clsO n sup flds i) := rfl
theorem key_meta (i : Nat) : keyO (metaZ n i) = keyO (metaO n sup i) := rfl
theorem key_clsS (k i : Nat) : keyO (clsS n sup flds k i) = keyO (clsO n sup flds i) := by unfold clsS; split <;> rfl
theorem key_metaS (k i : Nat) : keyO (metaS n sup k i) = keyO (metaO n sup i) := by unfold metaS; split <;> rfl
def nilO (n k : Nat) : Ob := ⟨nilAt n k, hdL (2 * clsAt (3 + k)) 0 0, [], []⟩
theorem key_nil (k : Nat) : keyO (nilZ n k) = keyO (nilO n k) := rfl
theorem key_parts (n k : Nat) : ((List.range k).flatMap (partZ n)).map keyO = ((List.range k).flatMap (partO n)).map keyO := by
  rw [List.map_flatMap, List.map_flatMap]
  congr 1
theorem lay_eq (n : Nat) (sup flds : List Int) : layL n sup flds = listO 2 (rootW n) :: ((List.range (NN n)).map (clsO n sup flds) ++ (List.range (NN n)).map (metaO n sup) ++ (List.range 3).map (nilO n) ++ (List.range (NN n)).flatMap (partO n) ++ lastO n) := rfl
/-- What a stage is a beginning of. -/
theorem stB_pre {k : Nat} (hk : k < NN n) : ∃ A C, layL n sup flds = A ++ clsO n sup flds k :: C ∧ (stB k).map keyO = A.map keyO := by
  refine ⟨listO 2 (rootW n) :: (List.range k).map (clsO n sup flds), (List.range' (k + 1) (NN n - (k + 1))).map (clsO n sup flds) ++ ((List.range (NN n)).map (metaO n sup) ++ ((List.range 3).map (nilO n) ++ ((List.range (NN n)).flatMap (partO n) ++ lastO n))), ?_, ?_⟩
  · rw [lay_eq]
    have e : (List.range (NN n)).map (clsO n sup flds) = (List.range k).map (clsO n sup flds) ++ clsO n sup flds k :: (List.range' (k + 1) (NN n - (k + 1))).map (clsO n sup flds) := by
      rw [← List.map_cons, ← List.map_append, ← range_one hk]
    rw [e]
    simp only [List.append_assoc, List.cons_append]
  · unfold stB
    rw [List.map_cons, List.map_cons, key_map (key_cls (n := n) (sup := sup) (flds := flds))]; rfl
theorem stC_pre {k : Nat} (hk : k < NN n) : ∃ A C, layL n sup flds = A ++ metaO n sup k :: C ∧ (stC n k).map keyO = A.map keyO := by
  refine ⟨listO 2 (rootW n) :: ((List.range (NN n)).map (clsO n sup flds) ++ (List.range k).map (metaO n sup)), (List.range' (k + 1) (NN n - (k + 1))).map (metaO n sup) ++ ((List.range 3).map (nilO n) ++ ((List.range (NN n)).flatMap (partO n) ++ lastO n)), ?_, ?_⟩
  rotate_left
  · unfold stC
    rw [List.map_cons, List.map_cons, List.map_append, List.map_append, key_map (key_cls (n := n) (sup := sup) (flds := flds)), key_map (key_meta (n := n) (sup := sup))]; rfl
  · rw [lay_eq]
    have e : (List.range (NN n)).map (metaO n sup) = (List.range k).map (metaO n sup) ++ metaO n sup k :: (List.range' (k + 1) (NN n - (k + 1))).map (metaO n sup) := by
      rw [← List.map_cons, ← List.map_append, ← range_one hk]
    rw [e]
    simp only [List.append_assoc, List.cons_append]
/-- The three behind the metas. -/
def stD (n k : Nat) : List Ob := rootZ (zer 24) :: ((List.range (NN n)).map clsZ ++ (List.range (NN n)).map (metaZ n) ++ (List.range k).map (nilZ n))
theorem stD_pre {k : Nat} (hk : k < 3) : ∃ A C, layL n sup flds = A ++ nilO n k :: C ∧ (stD n k).map keyO = A.map keyO := by
  refine ⟨listO 2 (rootW n) :: ((List.range (NN n)).map (clsO n sup flds) ++ (List.range (NN n)).map (metaO n sup) ++ (List.range k).map (nilO n)), (List.range' (k + 1) (3 - (k + 1))).map (nilO n) ++ ((List.range (NN n)).flatMap (partO n) ++ lastO n), ?_, ?_⟩
  rotate_left
  · unfold stD
    rw [List.map_cons, List.map_cons]
    simp only [List.map_append]
    rw [key_map (key_cls (n := n) (sup := sup) (flds := flds)), key_map (key_meta (n := n) (sup := sup)), key_map (key_nil (n := n))]; rfl
  · rw [lay_eq]
    have e : (List.range 3).map (nilO n) = (List.range k).map (nilO n) ++ nilO n k :: (List.range' (k + 1) (3 - (k + 1))).map (nilO n) := by
      rw [← List.map_cons, ← List.map_append, ← range_one hk]
    rw [e]
    simp only [List.append_assoc, List.cons_append]
theorem stD_stE : stD n 3 = stE n sup flds 0 := by
  unfold stD stE
  rw [List.range_zero, List.flatMap_nil, List.append_nil]
  congr 3
/-- While the k-th class gets its parts: the first j of five are there. -/
theorem stE_pre {k j : Nat} {o : Ob} (hk : k < NN n) (hj : (partO n k)[j]? = some o) : ∃ A C, layL n sup flds = A ++ o :: C ∧ (stE n sup flds k ++ (partZ n k).take j).map keyO = A.map keyO := by
  obtain ⟨T, D, hT, hp⟩ : ∃ T D, T = (partO n k).take j ∧ partO n k = T ++ o :: D := by
    obtain ⟨h1, h2⟩ := List.getElem?_eq_some_iff.1 hj
    exact ⟨_, (partO n k).drop (j + 1), rfl, by rw [← h2, List.getElem_cons_drop, List.take_append_drop]⟩
  refine ⟨listO 2 (rootW n) :: ((List.range (NN n)).map (clsO n sup flds) ++ (List.range (NN n)).map (metaO n sup) ++ (List.range 3).map (nilO n) ++ (List.range k).flatMap (partO n)) ++ T, D ++ ((List.range' (k + 1) (NN n - (k + 1))).flatMap (partO n) ++ lastO n), ?_, ?_⟩
  · rw [lay_eq]
    have e : (List.range (NN n)).flatMap (partO n) = (List.range k).flatMap (partO n) ++ (partO n k ++ (List.range' (k + 1) (NN n - (k + 1))).flatMap (partO n)) := by
      rw [← List.flatMap_cons, ← List.flatMap_append, ← range_one hk]
    rw [e, hp]
    simp only [List.append_assoc, List.cons_append]
  · unfold stE
    rw [List.map_append, List.map_append, List.map_cons, List.map_cons]
    simp only [List.map_append]
    rw [key_map (key_clsS (n := n) (sup := sup) (flds := flds) k), key_map (key_metaS (n := n) (sup := sup) k), key_map (key_nil (n := n)), key_parts]
    unfold partZ
    rw [← List.map_take, ← hT, show (T.map rw4).map keyO = T.map keyO by rw [List.map_map]; rfl]; rfl
/-- Behind all of them, the last four. -/
theorem stF_pre {j : Nat} {o : Ob} {L : List Ob} (hL : L.map keyO = ((lastO n).take j).map keyO) (hj : (lastO n)[j]? = some o) : ∃ A C, layL n sup flds = A ++ o :: C ∧ (stE n sup flds (NN n) ++ L).map keyO = A.map keyO := by
  obtain ⟨T, D, hT, hp⟩ : ∃ T D, T = (lastO n).take j ∧ lastO n = T ++ o :: D := by
    obtain ⟨h1, h2⟩ := List.getElem?_eq_some_iff.1 hj
    exact ⟨_, (lastO n).drop (j + 1), rfl, by rw [← h2, List.getElem_cons_drop, List.take_append_drop]⟩
  refine ⟨listO 2 (rootW n) :: ((List.range (NN n)).map (clsO n sup flds) ++ (List.range (NN n)).map (metaO n sup) ++ (List.range 3).map (nilO n) ++ (List.range (NN n)).flatMap (partO n)) ++ T, D, ?_, ?_⟩
  · rw [lay_eq, hp]
    simp only [List.append_assoc, List.cons_append]
  · unfold stE
    rw [List.map_append, List.map_append, List.map_cons, List.map_cons, hL, ← hT]
    simp only [List.map_append]
    rw [key_map (key_clsS (n := n) (sup := sup) (flds := flds) (NN n)), key_map (key_metaS (n := n) (sup := sup) (NN n)), key_map (key_nil (n := n)), key_parts]; rfl
theorem at_end {L A C : List Ob} {o : Ob} (hn : n ≤ 6) (h : layL n sup flds = A ++ o :: C) (e : L.map keyO = A.map keyO) : Chain 2 L ∧ endL 2 L = o.at_ := by
  have hc := chain_lay n hn sup flds
  rw [h] at hc
  exact ⟨pre_chain e hc, pre_end e hc⟩
theorem stB_at {k : Nat} (hn : n ≤ 6) (hk : k < NN n) : Chain 2 (stB k) ∧ endL 2 (stB k) = clsAt k := by
  obtain ⟨A, C, h, e⟩ := stB_pre (n := n) (sup := []) (flds := []) hk
  exact at_end hn h e
theorem stC_at {k : Nat} (hn : n ≤ 6) (hk : k < NN n) : Chain 2 (stC n k) ∧ endL 2 (stC n k) = metaAt n k := by
  obtain ⟨A, C, h, e⟩ := stC_pre (n := n) (sup := []) (flds := []) hk
  exact at_end hn h e
theorem stD_at {k : Nat} (hn : n ≤ 6) (hk : k < 3) : Chain 2 (stD n k) ∧ endL 2 (stD n k) = nilAt n k := by
  obtain ⟨A, C, h, e⟩ := stD_pre (n := n) (sup := []) (flds := []) hk
  exact at_end hn h e
theorem stE_at {k j : Nat} {o : Ob} (hn : n ≤ 6) (hk : k < NN n) (hj : (partO n k)[j]? = some o) : Chain 2 (stE n sup flds k ++ (partZ n k).take j) ∧ endL 2 (stE n sup flds k ++ (partZ n k).take j) = o.at_ := by
  obtain ⟨A, C, h, e⟩ := stE_pre (n := n) (sup := sup) (flds := flds) hk hj
  exact at_end hn h e
theorem stF_at {j : Nat} {o : Ob} {L : List Ob} (hn : n ≤ 6) (hL : L.map keyO = ((lastO n).take j).map keyO) (hj : (lastO n)[j]? = some o) : Chain 2 (stE n sup flds (NN n) ++ L) ∧ endL 2 (stE n sup flds (NN n) ++ L) = o.at_ := by
  obtain ⟨A, C, h, e⟩ := stF_pre (n := n) (sup := sup) (flds := flds) hL hj
  exact at_end hn h e
end
end Hp
end Go.Proofs.Ytojblndlchcjeaa
namespace Go.Proofs.Ytojblndlchcjeaa
namespace Hp
/-- Another word of the k-th object. -/
def putW (l : List Ob) (k j x : Nat) : List Ob := l.modify k (fun o => { o with words := o.words.set j x })
theorem putW_ok {l : List Ob} {k j x : Nat} (hok : ∀ o ∈ l, OkO o) (hx : x < 18446744073709551616) : ∀ o ∈ putW l k j x, OkO o := by
  intro o ho
  obtain ⟨i, hi⟩ := List.getElem?_of_mem ho
  unfold putW at hi
  rw [List.getElem?_modify] at hi
  obtain ⟨y, hy, he⟩ := Option.map_eq_some_iff.1 hi
  have hyo := hok y (List.mem_of_getElem? hy)
  split at he
  · subst he
    refine ⟨hyo.hd, hyo.cls, fun hk => ?_, fun hk => ?_⟩
    · obtain ⟨h1, h2, h3⟩ := hyo.words hk
      refine ⟨by show (y.words.set j x).length = _; rw [List.length_set]; exact h1, h2, fun z hz => ?_⟩
      rcases List.mem_or_eq_of_mem_set hz with hz | rfl
      · exact h3 z hz
      · exact hx
    · obtain ⟨h1, h2⟩ := hyo.bytes hk
      exact ⟨h1, by show y.words.set j x = []; rw [h2]; rfl⟩
  · subst he; exact hyo
theorem modify_chain (f : Ob → Ob) (h1 : ∀ o, (f o).at_ = o.at_) (h2 : ∀ o, cellsL (f o).hd = cellsL o.hd) : ∀ (l : List Ob) (a k : Nat), Chain a l → Chain a (l.modify k f)
  | [], a, k, h => by simpa using h
  | o :: l, a, 0, h => by
    rw [List.modify_zero_cons]
    exact ⟨(h1 o).trans h.1, by rw [h2]; exact h.2⟩
  | o :: l, a, k + 1, h => by
    rw [List.modify_succ_cons]
    exact ⟨h.1, modify_chain f h1 h2 l _ k h.2⟩
/-- The words behind a change of one object that leaves its place and length. -/
theorem heapW_modify (f : Ob → Ob) (h2 : ∀ o, OkO o → OkO (f o) ∧ cellsL (f o).hd = cellsL o.hd) : ∀ (l : List Ob) (a k : Nat) (o : Ob) (i x : Nat), Chain a l → (∀ o ∈ l, OkO o) → l[k]? = some o → i < (obW o).length → obW (f o) = (obW o).set i x →
    heapW (l.modify k f) = (heapW l).set (o.at_ - a + i) x
  | [], a, k, o, i, x, _, _, h, _, _ => by simp at h
  | y :: l, a, 0, o, i, x, hc, hok, h, hi, he => by
    have : y = o := by simpa using h
    subst this
    rw [List.modify_zero_cons, hc.1, Nat.sub_self, Nat.zero_add]
    unfold heapW
    rw [List.flatMap_cons, List.flatMap_cons, List.set_append_left _ _ hi, he]
  | y :: l, a, k + 1, o, i, x, hc, hok, h, hi, he => by
    have h' : l[k]? = some o := by simpa using h
    have ih := heapW_modify f h2 l _ k o i x hc.2 (fun z hz => hok z (List.mem_cons_of_mem _ hz)) h' hi he
    have hge := (chain_at l _ k o hc.2 (fun z hz => hok z (List.mem_cons_of_mem _ hz)) h').1
    have hl := obW_len (hok y (List.mem_cons_self ..))
    rw [List.modify_succ_cons]
    unfold heapW at ih ⊢
    rw [List.flatMap_cons, List.flatMap_cons, ih, List.set_append_right _ _ (by omega), hl]
    congr 2; omega
theorem heapW_put {l : List Ob} {a k j x : Nat} {o : Ob} (hc : Chain a l) (hok : ∀ o ∈ l, OkO o) (h : l[k]? = some o) (hk : o.hd.kind ≠ 2) (hj : j < o.words.length) (hx : x < 18446744073709551616) :
    heapW (putW l k j x) = (heapW l).set (o.at_ - a + (2 + j)) x := by
  have hob : obW o = o.hd.cls :: infoL o.hd :: o.words := by unfold obW bodyW; rw [if_neg hk]
  refine heapW_modify _ (fun y hy => ?_) l a k o (2 + j) x hc hok h (by rw [hob]; simp; omega) ?_
  · refine ⟨?_, rfl⟩
    have := putW_ok (l := [y]) (k := 0) (j := j) (x := x) (fun z hz => by rw [List.mem_singleton] at hz; rw [hz]; exact hy) hx
    exact this _ (by unfold putW; rw [List.modify_zero_cons]; exact List.mem_cons_self ..)
  · show obW { o with words := o.words.set j x } = _
    rw [hob]
    unfold obW bodyW
    rw [if_neg hk, Nat.add_comm 2 j]
    rfl
theorem putW_chain {l : List Ob} {a k j x : Nat} (hc : Chain a l) : Chain a (putW l k j x) := modify_chain (fun o => { o with words := o.words.set j x }) (fun _ => rfl) (fun _ => rfl) l a k hc
theorem putW_start (l : List Ob) (k j x : Nat) : startB (putW l k j x) = startB l := by
  funext p
  have key : ∀ (l : List Ob) (k : Nat), (putW l k j x).any (fun o => o.at_ == p) = l.any (fun o => o.at_ == p) := by
    intro l
    induction l with
    | nil => intro k; simp [putW]
    | cons o l ih =>
      intro k
      unfold putW at ih ⊢
      cases k with
      | zero => rw [List.modify_zero_cons]; rfl
      | succ k => rw [List.modify_succ_cons, List.any_cons, List.any_cons, ih k]
  exact key l k
/-- An object more, behind the others. -/
theorem alloc_chain {l : List Ob} {a : Nat} {o : Ob} (hc : Chain a l) (h : o.at_ = endL a l) : Chain a (l ++ [o]) := (chain_app l a [o]).2 ⟨hc, h, trivial⟩
theorem alloc_heapW (l : List Ob) (o : Ob) : heapW (l ++ [o]) = heapW l ++ obW o := by unfold heapW; rw [List.flatMap_append]; simp
theorem alloc_start (l : List Ob) (o : Ob) : startB (l ++ [o]) = fun p => startB l p || p == o.at_ := by
  funext p
  unfold startB
  rw [List.any_append]
  simp only [List.any_cons, List.any_nil, Bool.or_false]
  congr 1
  rw [Bool.eq_iff_iff]; simp; exact eq_comm
theorem alloc_end {l : List Ob} {a : Nat} (o : Ob) : endL a (l ++ [o]) = endL a l + 2 + cellsL o.hd := by
  induction l generalizing a with
  | nil => rfl
  | cons y l ih => exact ih
theorem alloc_get (l : List Ob) (o : Ob) : (l ++ [o])[l.length]? = some o := by simp
/-! ### Another byte -/
theorem fold_set : ∀ (l : List UInt8) (i : Nat) (d : UInt8), l[i]? = some d → ∃ A B, l.foldr (fun c acc => c.toNat + 256 * acc) 0 = 256 ^ i * (256 * A + d.toNat) + B ∧ B < 256 ^ i ∧
    ∀ c : UInt8, (l.set i c).foldr (fun c acc => c.toNat + 256 * acc) 0 = 256 ^ i * (256 * A + c.toNat) + B
  | [], i, d, h => by simp at h
  | e :: t, 0, d, h => by
    have : e = d := by simpa using h
    subst this
    refine ⟨t.foldr (fun c acc => c.toNat + 256 * acc) 0, 0, ?_, by simp, fun c => ?_⟩
    · rw [List.foldr_cons, Nat.pow_zero]; omega
    · rw [List.set_cons_zero, List.foldr_cons, Nat.pow_zero]; omega
  | e :: t, i + 1, d, h => by
    obtain ⟨A, B, h1, h2, h3⟩ := fold_set t i d (by simpa using h)
    have he := e.toNat_lt
    have key : ∀ v : Nat, e.toNat + 256 * (256 ^ i * v + B) = 256 ^ (i + 1) * v + (256 * B + e.toNat) := fun v => by
      rw [Nat.pow_succ, Nat.mul_add, Nat.mul_comm (256 ^ i) 256, Nat.mul_assoc]; omega
    refine ⟨A, 256 * B + e.toNat, ?_, ?_, fun c => ?_⟩
    · rw [List.foldr_cons, h1, key]
    · rw [Nat.pow_succ]; omega
    · rw [List.set_cons_succ, List.foldr_cons, h3 c, key]
/-- A word's bits behind another byte. -/
theorem w8_set_bit (b : List UInt8) (i : Nat) (c : UInt8) (hi : i < 8) (hb : i < b.length) (j : Nat) : (w8 (b.set i c)).testBit j = if 8 * i ≤ j ∧ j < 8 * i + 8 then c.toNat.testBit (j - 8 * i) else (w8 b).testBit j := by
  have hg : (b.take 8)[i]? = some (b[i]'hb) := by rw [List.getElem?_take, if_pos hi, List.getElem?_eq_getElem hb]
  obtain ⟨A, B, h1, h2, h3⟩ := fold_set (b.take 8) i _ hg
  have e1 : w8 b = 2 ^ (8 * i) * (2 ^ 8 * A + (b[i]'hb).toNat) + B := by unfold w8; rw [h1, show (256 : Nat) = 2 ^ 8 from rfl, ← Nat.pow_mul]
  have e2 : w8 (b.set i c) = 2 ^ (8 * i) * (2 ^ 8 * A + c.toNat) + B := by
    unfold w8
    rw [List.take_set, h3 c, show (256 : Nat) = 2 ^ 8 from rfl, ← Nat.pow_mul]
  have hB : B < 2 ^ (8 * i) := by rw [show (256 : Nat) = 2 ^ 8 from rfl, ← Nat.pow_mul] at h2; exact h2
  have hc : c.toNat < 2 ^ 8 := c.toNat_lt
  have hd : (b[i]'hb).toNat < 2 ^ 8 := (b[i]'hb).toNat_lt
  rw [e1, e2, Nat.testBit_two_pow_mul_add _ hB, Nat.testBit_two_pow_mul_add _ hB]
  by_cases k1 : j < 8 * i
  · rw [if_pos k1, if_pos k1, if_neg (by omega)]
  · rw [if_neg k1, if_neg k1, Nat.testBit_two_pow_mul_add _ hc, Nat.testBit_two_pow_mul_add _ hd]
    by_cases k2 : j - 8 * i < 8
    · rw [if_pos k2, if_pos ⟨by omega, by omega⟩]
    · rw [if_neg k2, if_neg k2, if_neg (by omega)]
/-- Another byte of the k-th object. -/
def putB (l : List Ob) (k j : Nat) (c : UInt8) : List Ob := l.modify k (fun o => { o with bytes := o.bytes.set j c })
theorem packB_set : ∀ (n : Nat) (b : List UInt8) (j : Nat) (c : UInt8), j < 8 * n → j < b.length → packB n (b.set j c) = (packB n b).set (j / 8) (w8 ((b.drop (8 * (j / 8))).set (j % 8) c))
  | 0, b, j, c, h, _ => by omega
  | n + 1, b, j, c, h, hb => by
    unfold packB
    by_cases h8 : j < 8
    · rw [show j / 8 = 0 by omega, show j % 8 = j by omega, Nat.mul_zero, List.drop_zero, List.set_cons_zero, List.drop_set_of_lt (by omega)]
    · have e : (b.set j c).drop 8 = (b.drop 8).set (j - 8) c := by rw [List.drop_set, if_neg (by omega)]
      have ew : w8 (b.set j c) = w8 b := by unfold w8; rw [List.take_set, List.set_eq_of_length_le (by rw [List.length_take]; omega)]
      rw [e, ew, packB_set n (b.drop 8) (j - 8) c (by omega) (by rw [List.length_drop]; omega)]
      obtain ⟨q, hq⟩ : ∃ q, j / 8 = q + 1 := ⟨j / 8 - 1, by omega⟩
      rw [hq, List.set_cons_succ, show (j - 8) / 8 = q by omega, show (j - 8) % 8 = j % 8 by omega, List.drop_drop]
      congr 5; omega
theorem putB_one {o : Ob} (h : OkO o) (j : Nat) (c : UInt8) : OkO { o with bytes := o.bytes.set j c } := by
  refine ⟨h.hd, h.cls, fun hk => ?_, fun hk => ?_⟩
  · obtain ⟨h1, h2, h3⟩ := h.words hk
    exact ⟨h1, by show o.bytes.set j c = []; rw [h2]; rfl, h3⟩
  · obtain ⟨h1, h2⟩ := h.bytes hk
    exact ⟨by show (o.bytes.set j c).length = _; rw [List.length_set]; exact h1, h2⟩
theorem putB_ok {l : List Ob} {k j : Nat} {c : UInt8} (hok : ∀ o ∈ l, OkO o) : ∀ o ∈ putB l k j c, OkO o := by
  intro o ho
  obtain ⟨i, hi⟩ := List.getElem?_of_mem ho
  unfold putB at hi
  rw [List.getElem?_modify] at hi
  obtain ⟨y, hy, he⟩ := Option.map_eq_some_iff.1 hi
  have hyo := hok y (List.mem_of_getElem? hy)
  split at he
  · subst he; exact putB_one hyo j c
  · subst he; exact hyo
theorem putB_chain {l : List Ob} {a k j : Nat} {c : UInt8} (hc : Chain a l) : Chain a (putB l k j c) := modify_chain (fun o => { o with bytes := o.bytes.set j c }) (fun _ => rfl) (fun _ => rfl) l a k hc
theorem heapW_putB {l : List Ob} {a k j : Nat} {c : UInt8} {o : Ob} (hc : Chain a l) (hok : ∀ o ∈ l, OkO o) (h : l[k]? = some o) (hk : o.hd.kind = 2) (hj : j < o.bytes.length) :
    heapW (putB l k j c) = (heapW l).set (o.at_ - a + (2 + j / 8)) (w8 ((o.bytes.drop (8 * (j / 8))).set (j % 8) c)) := by
  have ho := hok o (List.mem_of_getElem? h)
  have hl := (ho.bytes hk).1
  have hlen := obW_len ho
  have hcl : cellsL o.hd = (o.hd.size + 7) / 8 := by unfold cellsL; rw [if_pos hk]
  refine heapW_modify (fun o => { o with bytes := o.bytes.set j c }) (fun y hy => ⟨putB_one hy j c, rfl⟩) l a k o (2 + j / 8) _ hc hok h (by omega) ?_
  unfold obW bodyW
  show o.hd.cls :: infoL o.hd :: (if o.hd.kind = 2 then packB ((o.hd.size + 7) / 8) (o.bytes.set j c) else o.words) = _
  rw [if_pos hk, if_pos hk, packB_set _ _ _ _ (by omega) hj, Nat.add_comm 2 (j / 8)]
  rfl
/-- The word that a byte is in, as it stands. -/
theorem byte_word {o : Ob} (h : OkO o) (hk : o.hd.kind = 2) {j : Nat} (hj : j < o.bytes.length) : (bodyW o)[j / 8]? = some (w8 (o.bytes.drop (8 * (j / 8)))) := by
  have hl := (h.bytes hk).1
  unfold bodyW
  rw [if_pos hk]
  exact packB_get _ _ _ (by omega)
theorem putB_start (l : List Ob) (k j : Nat) (c : UInt8) : startB (putB l k j c) = startB l := by
  funext p
  have key : ∀ (l : List Ob) (k : Nat), (putB l k j c).any (fun o => o.at_ == p) = l.any (fun o => o.at_ == p) := by
    intro l
    induction l with
    | nil => intro k; simp [putB]
    | cons o l ih =>
      intro k
      unfold putB at ih ⊢
      cases k with
      | zero => rw [List.modify_zero_cons]; rfl
      | succ k => rw [List.modify_succ_cons, List.any_cons, List.any_cons, ih k]
  exact key l k
/-! ### What is found behind it -/
theorem find_put {l : List Ob} {a k j x i : Nat} {o : Ob} (hc : Chain a l) (h : l[i]? = some o) : findO (putW l k j x) (o.at_ * 2) = some (if k = i then { o with words := o.words.set j x } else o) := by
  have hc2 := putW_chain (k := k) (j := j) (x := x) hc
  have hg : (putW l k j x)[i]? = some (if k = i then { o with words := o.words.set j x } else o) := by
    unfold putW
    rw [List.getElem?_modify, h]
    by_cases e : k = i
    · simp [e]
    · simp [e]
  have := find_at hc2 hg
  by_cases e : k = i
  · rw [if_pos e] at this ⊢; exact this
  · rw [if_neg e] at this ⊢; exact this
theorem find_start {l : List Ob} {w : Nat} : (findO l w).isSome = true ↔ ∃ p, w = 2 * p ∧ startB l p = true := by
  unfold findO
  rw [List.find?_isSome]
  constructor
  · rintro ⟨o, ho, h⟩
    refine ⟨o.at_, by have : o.at_ * 2 = w := by simpa using h
                      omega, ?_⟩
    obtain ⟨i, hi⟩ := List.getElem?_of_mem ho
    exact (start_iff l _).2 ⟨i, o, hi, rfl⟩
  · rintro ⟨p, rfl, h⟩
    obtain ⟨i, o, hi, rfl⟩ := (start_iff l p).1 h
    exact ⟨o, List.mem_of_getElem? hi, by simp; omega⟩
end Hp
end Go.Proofs.Ytojblndlchcjeaa
namespace Go.Proofs.Ytojblndlchcjeaa
open Go.RowKit
namespace Hp
theorem cut_of (p : Nat → Bool) : ∀ n, (∀ a b, a ≤ b → b < n → p b = true → p a = true) → ∃ k, k ≤ n ∧ ∀ i, i < n → (p i = true ↔ i < k)
  | 0, _ => ⟨0, Nat.le_refl _, fun i h => by omega⟩
  | n + 1, h => by
    obtain ⟨k, hk, hp⟩ := cut_of p n fun a b h1 h2 => h a b h1 (by omega)
    cases hn : p n with
    | true =>
      refine ⟨n + 1, Nat.le_refl _, fun i hi => ⟨fun _ => hi, fun _ => h i n (by omega) (by omega) hn⟩⟩
    | false =>
      refine ⟨k, by omega, fun i hi => ?_⟩
      by_cases e : i = n
      · subst e; rw [hn]; simp; omega
      · exact hp i (by omega)
/-- What is below a text stands ahead of its place. -/
theorem below_iff {T : List Bts} (hr : Rises T) (s : Bts) (i : Nat) (hi : i < T.length) : below T s i = true ↔ i < spotL T s := by
  obtain ⟨k, hk, hp⟩ := cut_of (below T s) T.length fun a b h1 h2 h3 => by
    cases hb : below T s a with
    | true => rfl
    | false => have := below_mono hr s a b h1 h2 (by rw [hb]; rfl); rw [h3] at this; cases this
  have : spotL T s = k := countP_lt _ k _ hk hp
  rw [this]; exact hp i hi
theorem lt_total (x y : Bts) (h : ¬ x < y) (hne : x ≠ y) : y < x := by
  rcases List.le_iff_lt_or_eq.1 (List.not_lt.1 h) with h | h
  · exact h
  · exact absurd h.symm hne
def insL (T : List Bts) (s : Bts) : List Bts := T.take (spotL T s) ++ s :: T.drop (spotL T s)
theorem ins_rises {T : List Bts} (hr : Rises T) (s : Bts) (hn : s ∉ T) : Rises (insL T s) := by
  have hle := spot_le T s
  have hlow : ∀ i x, T[i]? = some x → i < spotL T s → x < s := fun i x hx hi => by
    have hl := (List.getElem?_eq_some_iff.1 hx).1
    have := (below_iff hr s i hl).2 hi
    unfold below at this
    rw [getD_of hx] at this
    simpa using this
  have hhigh : ∀ i x, T[i]? = some x → spotL T s ≤ i → s < x := fun i x hx hi => by
    have hl := (List.getElem?_eq_some_iff.1 hx).1
    refine lt_total x s (fun hlt => ?_) (fun e => hn (by rw [← e]; exact List.mem_of_getElem? hx))
    have : below T s i = true := by unfold below; rw [getD_of hx]; simpa using hlt
    have := (below_iff hr s i hl).1 this
    omega
  have hlen : (T.take (spotL T s)).length = spotL T s := by rw [List.length_take]; omega
  have hget : ∀ i x, (insL T s)[i]? = some x → (i < spotL T s ∧ T[i]? = some x) ∨ (i = spotL T s ∧ x = s) ∨ (spotL T s < i ∧ T[i - 1]? = some x) := fun i x hx => by
    unfold insL at hx
    by_cases h1 : i < spotL T s
    · rw [List.getElem?_append_left (by omega), List.getElem?_take, if_pos h1] at hx
      exact .inl ⟨h1, hx⟩
    · rw [List.getElem?_append_right (by omega), hlen] at hx
      by_cases h2 : i = spotL T s
      · subst h2
        rw [Nat.sub_self] at hx
        exact .inr (.inl ⟨rfl, by simpa using hx.symm⟩)
      · obtain ⟨m, hm⟩ : ∃ m, i - spotL T s = m + 1 := ⟨i - spotL T s - 1, by omega⟩
        rw [hm, List.getElem?_cons_succ, List.getElem?_drop] at hx
        exact .inr (.inr ⟨by omega, by rw [show i - 1 = spotL T s + m by omega]; exact hx⟩)
  intro i j x y hx hy hij
  rcases hget i x hx with ⟨a1, a2⟩ | ⟨rfl, rfl⟩ | ⟨a1, a2⟩
  · rcases hget j y hy with ⟨b1, b2⟩ | ⟨rfl, rfl⟩ | ⟨b1, b2⟩
    · exact hr i j x y a2 b2 hij
    · exact hlow i x a2 a1
    · exact hr i (j - 1) x y a2 b2 (by omega)
  · rcases hget j y hy with ⟨b1, b2⟩ | ⟨e, _⟩ | ⟨b1, b2⟩
    · omega
    · omega
    · exact hhigh (j - 1) y b2 (by omega)
  · rcases hget j y hy with ⟨b1, b2⟩ | ⟨rfl, rfl⟩ | ⟨b1, b2⟩
    · omega
    · omega
    · exact hr (i - 1) (j - 1) x y a2 b2 (by omega)
theorem ins_mem {T : List Bts} (s x : Bts) : x ∈ insL T s ↔ x = s ∨ x ∈ T := by
  unfold insL
  rw [List.mem_append, List.mem_cons]
  constructor
  · rintro (h | h | h)
    · exact .inr (List.mem_of_mem_take h)
    · exact .inl h
    · exact .inr (List.mem_of_mem_drop h)
  · rintro (h | h)
    · exact .inr (.inl h)
    · rw [← List.take_append_drop (spotL T s) T] at h
      rcases List.mem_append.1 h with h | h
      · exact .inl h
      · exact .inr (.inr h)
end Hp
end Go.Proofs.Ytojblndlchcjeaa
namespace Go.Proofs.Ytojblndlchcjeaa
open Go.RowKit
namespace Hp
open Sm
theorem or_hi (i a q : Nat) (h : a < 2 ^ i) : a ||| (q * 2 ^ i) = q * 2 ^ i + a := by
  rw [Nat.or_comm, Nat.mul_comm q, ← Nat.two_pow_add_eq_or_of_lt h]
theorem u64or (a b : Nat) (ha : a < 2 ^ 64) (hb : b < 2 ^ 64) : bits .or .u64 (a : Int) (b : Int) = ((a ||| b : Nat) : Int) := by
  rw [u64_or _ _ (by omega) (by omega) (by omega) (by omega)]; rfl
theorem u64and (a b : Nat) (ha : a < 2 ^ 64) (hb : b < 2 ^ 64) : bits .and .u64 (a : Int) (b : Int) = ((a &&& b : Nat) : Int) := by
  rw [u64_and _ _ (by omega) (by omega) (by omega) (by omega)]; rfl
theorem info_or (s k x : Nat) (hs : s ≤ 1048576) (hk : k ≤ 2) (hx : x < 16777216) :
    bits .or .u64 (bits .or .u64 (s : Int) ((k : Int) * 4294967296)) ((x : Int) * 1099511627776) = ((s + k * 4294967296 + x * 1099511627776 : Nat) : Int) := by
  have e1 : bits .or .u64 (s : Int) ((k : Int) * 4294967296) = ((s + k * 4294967296 : Nat) : Int) := by
    have := u64or s (k * 4294967296) (by omega) (by omega)
    rw [show ((k * 4294967296 : Nat) : Int) = (k : Int) * 4294967296 by omega] at this
    rw [this]
    have h := or_hi 32 s k (by omega)
    rw [show (2 : Nat) ^ 32 = 4294967296 by rfl] at h
    rw [h]; omega
  rw [e1]
  have := u64or (s + k * 4294967296) (x * 1099511627776) (by omega) (by omega)
  rw [show ((x * 1099511627776 : Nat) : Int) = (x : Int) * 1099511627776 by omega] at this
  rw [this]
  have h := or_hi 40 (s + k * 4294967296) x (by omega)
  rw [show (2 : Nat) ^ 40 = 1099511627776 by rfl] at h
  rw [h]; omega
theorem info_mark (s k x : Nat) (hs : s ≤ 1048576) (hk : k ≤ 2) (hx : x < 16777216) :
    bits .or .u64 ((s + k * 4294967296 + x * 1099511627776 : Nat) : Int) 68719476736 = ((s + k * 4294967296 + 68719476736 + x * 1099511627776 : Nat) : Int) := by
  have := u64or (s + k * 4294967296 + x * 1099511627776) 68719476736 (by omega) (by omega)
  rw [show ((68719476736 : Nat) : Int) = 68719476736 by rfl] at this
  rw [this]
  have h := or_hi 40 (s + k * 4294967296) x (by omega)
  have h1 := or_hi 36 (s + k * 4294967296) 1 (by omega)
  have h2 := or_hi 40 (68719476736 + (s + k * 4294967296)) x (by omega)
  rw [show (2 : Nat) ^ 40 = 1099511627776 by rfl] at h h2
  rw [show (2 : Nat) ^ 36 = 68719476736 by rfl, Nat.one_mul] at h1
  have e : s + k * 4294967296 + x * 1099511627776 = (s + k * 4294967296) ||| x * 1099511627776 := by rw [h]; omega
  rw [e, Nat.or_assoc, Nat.or_comm (x * 1099511627776), ← Nat.or_assoc, h1, h2]; omega
theorem and_mask (i a : Nat) (h : a < 2 ^ 64) (hi : i ≤ 64) : a &&& (2 ^ i - 1) = a % 2 ^ i := Nat.and_two_pow_sub_one_eq_mod a i
theorem i64_and63 (n : Int) : bits .and .i64 n 63 = n % 64 := by
  have h63 : (BitVec.ofInt 64 63).toNat = 2 ^ 6 - 1 := by decide
  have key : (BitVec.ofInt 64 n &&& BitVec.ofInt 64 63).toNat = (n % ((2 ^ 64 : Nat) : Int)).toNat % 2 ^ 6 := by
    rw [BitVec.toNat_and, BitVec.toNat_ofInt, h63, Nat.and_two_pow_sub_one_eq_mod]
  show IntKind.i64.wrap ((BitVec.ofInt 64 n &&& BitVec.ofInt 64 63).toNat : Nat) = n % 64
  rw [key, IntKind.wrap_i64]
  omega
theorem u64xor (a b : Nat) (ha : a < 2 ^ 64) (hb : b < 2 ^ 64) : bits .xor .u64 (a : Int) (b : Int) = ((a ^^^ b : Nat) : Int) := by
  rw [u64_xor _ _ (by omega) (by omega) (by omega) (by omega)]; rfl
end Hp
end Go.Proofs.Ytojblndlchcjeaa
