/- Package parse: what it makes of a list of tokens. Plain; no program. · Package parse: where reading stops, how many nodes come of it. Plain; no program. · Package parse: the bounds, step by step. Plain; no program. · Package parse: what scan makes of a text; what Method answers. Plain; no program. -/
import Derived.Test.YtmmgfifpjifjnaaGreatDoorTrA
import Derived.Test.YtmmgfifpjifjnaaGreatDoorLxE3
set_option linter.unusedVariables false
namespace Go.Proofs.YtmmgfifpjifjnaaGreatDoor
namespace Pa
open Lx Tr
structure Pt where
 kind : Int
 word : Bytes
 num : Int
 at_ : Int
abbrev PE (α : Type) := Except (Int × Int) α
def pt0 : Pt := ⟨0, [], 0, 0⟩
section
variable (L : List Pt) (bad : Int)
def now (a : Nat) : Pt := L.getD a pt0
def ahead (a : Nat) : Pt := L.getD (min (a + 1) (L.length - 1)) pt0
def stopE (a : Nat) : Int × Int := ((now L a).at_, if (now L a).kind < 0 then bad else 3)
def deepE (a : Nat) : Int × Int := if (now L a).kind < 0 then stopE L bad a else ((now L a).at_, 10)
def isK (k : Int) (a : Nat) : Bool := (now L a).kind == k
def opB (w : Bytes) (a : Nat) : Bool := isK L 6 a && (now L a).word == w
def takeP (k : Int) (a : Nat) : PE Nat := if isK L k a then .ok (a + 1) else .error (stopE L bad a)
def takeOpP (w : Bytes) (a : Nat) : PE Nat := if opB L w a then .ok (a + 1) else .error (stopE L bad a)
def sendN (t : Pt) (name : Bytes) (kids : List Nd) : Nd := .mk 7 name 0 kids [] t.at_
def namesP : Nat → Nat → List Bytes → PE (List Bytes × Nat)
 | 0, a, out => .error (stopE L bad a)
 | f + 1, a, out => if opB L [124] a then .ok (out, a + 1) else do
  let a1 ← takeP L bad 1 a
  namesP f a1 (out ++ [(now L a).word])
def varsP (f a : Nat) : PE (List Bytes × Nat) := if opB L [124] a then namesP L bad f (a + 1) [] else .ok ([], a)
def simpleP (a : Nat) : Option (Nd × Nat) :=
 let t := now L a
 if opB L [45] a && (ahead L a).kind == 3 && (ahead L a).at_ == t.at_ + 1 then some (.mk 1 [] (-(now L (a + 1)).num) [] [] t.at_, a + 2)
 else if t.kind = 3 then some (.mk 1 t.word t.num [] [] t.at_, a + 1)
 else if t.kind = 4 then some (.mk 2 t.word t.num [] [] t.at_, a + 1)
 else if t.kind = 5 then some (.mk 3 t.word t.num [] [] t.at_, a + 1)
 else none
def unLoop : Nat → Nd → Bool → Nat → Nd × Bool × Nat
 | 0, n, s, a => (n, s, a)
 | f + 1, n, s, a => if isK L 1 a then unLoop f (sendN (now L a) (now L a).word [n]) true (a + 1) else (n, s, a)
def symP : Nat → Int → Bytes → Nat → Bytes × Nat
 | 0, _, b, a => (b, a)
 | f + 1, p, b, a => if isK L 2 a && (now L a).at_ == p + b.length then symP f p (b ++ (now L a).word) (a + 1) else (b, a)
def colonsP : Nat → List Bytes → Nat → PE (List Bytes × Nat)
 | 0, out, a => .error (stopE L bad a)
 | f + 1, out, a => if isK L 16 a then do
  let a1 ← takeP L bad 1 (a + 1)
  colonsP f (out ++ [(now L (a + 1)).word]) a1
  else .ok (out, a)
def endP (e : Int) (a : Nat) (out : List Nd) : PE (List Nd × Nat) := if isK L e a then .ok (out, a) else .error (stopE L bad a)
mutual
def exprP : Nat → Nat → Nat → PE (Nd × Nat)
 | 0, d, a => .error (stopE L bad a)
 | f + 1, d, a => if 40 < d + 1 then .error (deepE L bad a)
  else if isK L 1 a && (ahead L a).kind == 7 then do
   let (n, a1) ← exprP f (d + 1) (a + 2)
   .ok (.mk 6 (now L a).word 0 [n] [] (now L a).at_, a1)
  else cascP f (d + 1) a
def cascP : Nat → Nat → Nat → PE (Nd × Nat)
 | 0, d, a => .error (stopE L bad a)
 | f + 1, d, a => do
  let (n, s, a1) ← kwdP f d a
  if isK L 10 a1 then
   if s then do
    let (ks, a2) ← semiP f d a1 [n]
    .ok (.mk 8 [] 0 ks [] n.at_, a2)
   else .error (stopE L bad a1)
  else .ok (n, a1)
def semiP : Nat → Nat → Nat → List Nd → PE (List Nd × Nat)
 | 0, d, a, out => .error (stopE L bad a)
 | f + 1, d, a, out => if isK L 10 a then do
   let (m, a1) ← msgP f d (a + 1) (.mk 11 [] 0 [] [] (now L a).at_)
   semiP f d a1 (out ++ [m])
  else .ok (out, a)
def msgP : Nat → Nat → Nat → Nd → PE (Nd × Nat)
 | 0, d, a, rcv => .error (stopE L bad a)
 | f + 1, d, a, rcv => if isK L 1 a then .ok (sendN (now L a) (now L a).word [rcv], a + 1)
  else if isK L 6 a then do
   let (n, _, a1) ← unP f d (a + 1)
   .ok (sendN (now L a) (now L a).word [rcv, n], a1)
  else if isK L 2 a then kwsP f d a (now L a) [] [rcv]
  else .error (stopE L bad a)
def kwsP : Nat → Nat → Nat → Pt → Bytes → List Nd → PE (Nd × Nat)
 | 0, d, a, t, name, kids => .error (stopE L bad a)
 | f + 1, d, a, t, name, kids => if isK L 2 a then do
   let (n, _, a1) ← binP f d (a + 1)
   kwsP f d a1 t (name ++ (now L a).word) (kids ++ [n])
  else .ok (sendN t name kids, a)
def kwdP : Nat → Nat → Nat → PE (Nd × Bool × Nat)
 | 0, d, a => .error (stopE L bad a)
 | f + 1, d, a => do
  let (n, s, a1) ← binP f d a
  if isK L 2 a1 then do
   let (m, a2) ← kwsP f d a1 (now L a1) [] [n]
   .ok (m, true, a2)
  else .ok (n, s, a1)
def binP : Nat → Nat → Nat → PE (Nd × Bool × Nat)
 | 0, d, a => .error (stopE L bad a)
 | f + 1, d, a => do
  let (n, s, a1) ← unP f d a
  binLoop f d n s a1
def binLoop : Nat → Nat → Nd → Bool → Nat → PE (Nd × Bool × Nat)
 | 0, d, n, s, a => .error (stopE L bad a)
 | f + 1, d, n, s, a => if isK L 6 a then do
   let (x, _, a1) ← unP f d (a + 1)
   binLoop f d (sendN (now L a) (now L a).word [n, x]) true a1
  else .ok (n, s, a)
def unP : Nat → Nat → Nat → PE (Nd × Bool × Nat)
 | 0, d, a => .error (stopE L bad a)
 | f + 1, d, a => do
  let (n, a1) ← primP f d a
  .ok (unLoop L (L.length + 1) n false a1)
def primP : Nat → Nat → Nat → PE (Nd × Nat)
 | 0, d, a => .error (stopE L bad a)
 | f + 1, d, a => match simpleP L a with
  | some x => .ok x
  | none => if isK L 1 a then .ok (.mk 5 (now L a).word 0 [] [] (now L a).at_, a + 1)
   else if isK L 11 a then do
    let (n, a1) ← exprP f d (a + 1)
    let a2 ← takeP L bad 12 a1
    .ok (n, a2)
   else if isK L 13 a then blockP f d a
   else if isK L 15 a then listP f d a
   else .error (stopE L bad a)
def blockP : Nat → Nat → Nat → PE (Nd × Nat)
 | 0, d, a => .error (stopE L bad a)
 | f + 1, d, a => do
  let (ps, a1) ← colonsP L bad (L.length + 1) [] (a + 1)
  let a2 ← if !ps.isEmpty && !isK L 14 a1 then takeOpP L bad [124] a1 else .ok a1
  let (vs, a3) ← varsP L bad (L.length + 1) a2
  let (ks, a4) ← stmtsP f d 14 a3 []
  .ok (.mk 9 [] ps.length ks (ps ++ vs) (now L a).at_, a4 + 1)
def stmtsP : Nat → Nat → Int → Nat → List Nd → PE (List Nd × Nat)
 | 0, d, e, a, out => .error (stopE L bad a)
 | f + 1, d, e, a, out => if isK L e a then .ok (out, a) else do
  let (n, last, a1) ← stmtP f d a
  if isK L 9 a1 then (if last then endP L bad e (a1 + 1) (out ++ [n]) else stmtsP f d e (a1 + 1) (out ++ [n]))
  else endP L bad e a1 (out ++ [n])
def stmtP : Nat → Nat → Nat → PE (Nd × Bool × Nat)
 | 0, d, a => .error (stopE L bad a)
 | f + 1, d, a => if isK L 8 a then do
   let (n, a1) ← exprP f d (a + 1)
   .ok (.mk 10 [] 0 [n] [] (now L a).at_, true, a1)
  else do
   let (n, a1) ← exprP f d a
   .ok (n, false, a1)
def listP : Nat → Nat → Nat → PE (Nd × Nat)
 | 0, d, a => .error (stopE L bad a)
 | f + 1, d, a => if 40 < d + 1 then .error (deepE L bad a) else do
  let (ks, a1) ← elemsP f (d + 1) (a + 1) []
  .ok (.mk 4 [] 0 ks [] (now L a).at_, a1 + 1)
def elemsP : Nat → Nat → Nat → List Nd → PE (List Nd × Nat)
 | 0, d, a, out => .error (stopE L bad a)
 | f + 1, d, a, out => if isK L 12 a then .ok (out, a) else do
  let (n, a1) ← elemP f d a
  elemsP f d a1 (out ++ [n])
def elemP : Nat → Nat → Nat → PE (Nd × Nat)
 | 0, d, a => .error (stopE L bad a)
 | f + 1, d, a => match simpleP L a with
  | some x => .ok x
  | none =>
   let t := now L a
   if t.kind = 1 then .ok (.mk (if t.word = [116, 114, 117, 101] ∨ t.word = [102, 97, 108, 115, 101] ∨ t.word = [110, 105, 108] then 5 else 3) t.word 0 [] [] t.at_, a + 1)
   else if t.kind = 6 then .ok (.mk 3 t.word 0 [] [] t.at_, a + 1)
   else if t.kind = 2 then
    let (w, a1) := symP L (L.length + 1) t.at_ [] a
    .ok (.mk 3 w 0 [] [] t.at_, a1)
   else if t.kind = 11 ∨ t.kind = 15 then listP f d a
   else .error (stopE L bad a)
end
def kwPatP : Nat → Bytes → List Bytes → Nat → PE (Bytes × List Bytes × Nat)
 | 0, name, ps, a => .error (stopE L bad a)
 | f + 1, name, ps, a => if isK L 2 a then do
   let a1 ← takeP L bad 1 (a + 1)
   kwPatP f (name ++ (now L a).word) (ps ++ [(now L (a + 1)).word]) a1
  else .ok (name, ps, a)
def patP : PE (Bytes × List Bytes × Nat) :=
 if isK L 1 0 then .ok ((now L 0).word, [], 1)
 else if isK L 6 0 then do
  let a1 ← takeP L bad 1 1
  .ok ((now L 0).word, [(now L 1).word], a1)
 else if isK L 2 0 then kwPatP L bad (L.length + 1) [] [] 0
 else .error (stopE L bad 0)
def primNP (a : Nat) : PE (Int × Nat) :=
 if opB L [60] a then
  if (now L (a + 1)).word = [112, 114, 105, 109, 105, 116, 105, 118, 101, 58] then do
   let a1 ← takeP L bad 2 (a + 1)
   if (now L a1).num < 1 ∨ 999 < (now L a1).num then .error (stopE L bad a1)
   else do
    let a2 ← takeP L bad 3 a1
    let a3 ← takeOpP L bad [62] a2
    .ok ((now L a1).num, a3)
  else .error (stopE L bad (a + 1))
 else .ok (0, a)
def methP (F : Nat) : PE Mt := do
 let (name, ps, a1) ← patP L bad
 let (pr, a2) ← primNP L bad a1
 let (vs, a3) ← varsP L bad (L.length + 1) a2
 let (b, a4) ← stmtsP L bad F 0 0 a3 []
 .ok ⟨name, ps, vs, pr, b, (now L 0).at_⟩
end
end Pa
end Go.Proofs.YtmmgfifpjifjnaaGreatDoor
namespace Go.Proofs.YtmmgfifpjifjnaaGreatDoor
namespace Pa
open Lx Tr
def PlT (L : List Pt) : Prop := isK L 2 0 = true ∧ ∀ i, i < L.length → isK L 10 i = false ∧ isK L 11 i = false ∧ isK L 15 i = false ∧ opB L [60] i = false ∧ opB L [45] i = false
structure LOk (L : List Pt) : Prop where
 pos : 0 < L.length
 len : L.length ≤ 1100000
 mid : ∀ i, i + 1 < L.length → 0 < (now L i).kind
 last : ∀ i, i + 1 = L.length → (now L i).kind ≤ 0
 kind : ∀ i, i < L.length → -1 ≤ (now L i).kind ∧ (now L i).kind ≤ 16
 word : ∀ i, i < L.length → (now L i).word.length ≤ 4096
 num : ∀ i, i < L.length → 0 ≤ (now L i).num ∧ (now L i).num ≤ 4611686018427387904
 at_ : ∀ i, i < L.length → 0 ≤ (now L i).at_ ∧ (now L i).at_ ≤ 1100000
 pl0 : isK L 2 0 = true
 pl : ∀ i, i < L.length → isK L 10 i = false ∧ isK L 11 i = false ∧ isK L 15 i = false ∧ opB L [60] i = false ∧ opB L [45] i = false
def InL (l : List Nd) : Prop := ∀ x ∈ allL l, InI x
theorem InL.nil : InL [] := fun x hx => by rw [allL_nil] at hx; cases hx
theorem InL.append {a b : List Nd} (h : InL a) (k : InL b) : InL (a ++ b) := fun x hx => by
 rw [allL_append] at hx
 rcases List.mem_append.1 hx with hx | hx
 · exact h x hx
 exact k x hx
theorem InL.one {x : Nd} (h : InI x) (k : InL x.kids) : InL [x] := fun y hy => by
 rw [allL_cons, allL_nil, List.append_nil] at hy
 rcases List.mem_cons.1 hy with rfl | hy
 · exact h
 exact k y hy
theorem cnt_one (x : Nd) : cntL [x] = 1 + cntL x.kids := by rw [cntL_cons, cntL_nil]; omega
section
variable {L : List Pt} {bad : Int}
def Flt (L : List Pt) (bad : Int) (E : Int × Int) : Prop := ∃ i, i < L.length ∧ E.1 = (now L i).at_ ∧ (E.2 = 3 ∨ E.2 = 10 ∨ ((now L i).kind < 0 ∧ E.2 = bad))
theorem Flt.stop {a : Nat} (h : a < L.length) : Flt L bad (stopE L bad a) := by
 refine ⟨a, h, rfl, ?_⟩
 unfold stopE
 by_cases hk : (now L a).kind < 0
 · exact .inr (.inr ⟨hk, by simp [hk]⟩)
 exact .inl (by simp [hk])
theorem Flt.deep {a : Nat} (h : a < L.length) : Flt L bad (deepE L bad a) := by
 unfold deepE
 by_cases hk : (now L a).kind < 0
 · rw [if_pos hk]; exact Flt.stop h
 rw [if_neg hk]; exact ⟨a, h, rfl, .inr (.inl rfl)⟩
def Res {α : Type} (L : List Pt) (bad : Int) (ks : α → List Nd) (pl : α → Nat) (lo u c : Nat) (x : PE α) : Prop :=
 match x with
 | .ok r => lo ≤ pl r ∧ pl r < L.length ∧ cntL (ks r) + u ≤ c + 3 * pl r ∧ InL (ks r)
 | .error E => Flt L bad E
theorem Res.bind {α β : Type} {ks : α → List Nd} {pl : α → Nat} {ks' : β → List Nd} {pl' : β → Nat} {lo u c lo' u' c' : Nat} {x : PE α} {g : α → PE β} (h : Res L bad ks pl lo u c x)
  (k : ∀ r, x = .ok r → lo ≤ pl r → pl r < L.length → cntL (ks r) + u ≤ c + 3 * pl r → InL (ks r) → Res L bad ks' pl' lo' u' c' (g r)) : Res L bad ks' pl' lo' u' c' (x >>= g) := by
 cases x with
 | error E => exact h
 | ok r => obtain ⟨h1, h2, h3, h4⟩ := h; exact k r rfl h1 h2 h3 h4
theorem LOk.next (hL : LOk L) {k : Int} {a : Nat} (h : isK L k a = true) (hk : 0 < k) (ha : a < L.length) : a + 1 < L.length := by
 have h : (now L a).kind = k := by simpa [isK] using h
 rcases Nat.lt_or_ge (a + 1) L.length with h1 | h1
 · exact h1
 have := hL.last a (by omega); omega
theorem opB_k {w : Bytes} {a : Nat} (h : opB L w a = true) : isK L 6 a = true := by
 unfold opB at h; rw [Bool.and_eq_true] at h; exact h.1
def Pl (L : List Pt) (bad : Int) (lo : Nat) (x : PE Nat) : Prop :=
 match x with
 | .ok a => a = lo ∧ a < L.length
 | .error E => Flt L bad E
theorem take_pl (hL : LOk L) (k : Int) (a : Nat) (ha : a < L.length) (hk : 0 < k) : Pl L bad (a + 1) (takeP L bad k a) := by
 unfold takeP
 by_cases h : isK L k a = true
 · rw [if_pos h]; exact ⟨rfl, hL.next h hk ha⟩
 rw [if_neg h]; exact Flt.stop ha
theorem takeOp_pl (hL : LOk L) (w : Bytes) (a : Nat) (ha : a < L.length) : Pl L bad (a + 1) (takeOpP L bad w a) := by
 unfold takeOpP
 by_cases h : opB L w a = true
 · rw [if_pos h]; exact ⟨rfl, hL.next (opB_k h) (by omega) ha⟩
 rw [if_neg h]; exact Flt.stop ha
theorem Pl.bind {β : Type} {ks' : β → List Nd} {pl' : β → Nat} {lo lo' u' c' : Nat} {x : PE Nat} {g : Nat → PE β} (h : Pl L bad lo x)
  (k : lo < L.length → Res L bad ks' pl' lo' u' c' (g lo)) : Res L bad ks' pl' lo' u' c' (x >>= g) := by
 cases x with
 | error E => exact h
 | ok r => obtain ⟨rfl, h2⟩ := h; exact k h2
theorem Res.mono {α : Type} {ks : α → List Nd} {pl : α → Nat} {lo u c lo' u' c' : Nat} {x : PE α} (h : Res L bad ks pl lo u c x) (h1 : lo' ≤ lo) (h2 : u' + c ≤ u + c') : Res L bad ks pl lo' u' c' x := by
 cases x with
 | error E => exact h
 | ok r => obtain ⟨a, b, c, d⟩ := h; exact ⟨by omega, b, by omega, d⟩
theorem names_res (hL : LOk L) : ∀ (f a : Nat) (out : List Bytes), a < L.length → Res L bad (fun (_ : List Bytes × Nat) => []) (·.2) (a + 1) 0 0 (namesP L bad f a out)
 | 0, a, out, ha => Flt.stop ha
 | f + 1, a, out, ha => by
  unfold namesP
  by_cases h : opB L [124] a = true
  · rw [if_pos h]; exact ⟨Nat.le_refl _, hL.next (opB_k h) (by omega) ha, by rw [cntL_nil]; omega, InL.nil⟩
  rw [if_neg h]
  refine Pl.bind (take_pl hL 1 a ha (by omega)) (fun h1 => ?_)
  exact (names_res hL f (a + 1) _ h1).mono (by omega) (by omega)
theorem vars_res (hL : LOk L) (f a : Nat) (ha : a < L.length) : Res L bad (fun (_ : List Bytes × Nat) => []) (·.2) a 0 0 (varsP L bad f a) := by
 unfold varsP
 by_cases h : opB L [124] a = true
 · rw [if_pos h]; exact (names_res hL f _ _ (hL.next (opB_k h) (by omega) ha)).mono (by omega) (by omega)
 rw [if_neg h]; exact ⟨Nat.le_refl _, ha, by rw [cntL_nil]; omega, InL.nil⟩
theorem colons_res (hL : LOk L) : ∀ (f : Nat) (out : List Bytes) (a : Nat), a < L.length → Res L bad (fun (_ : List Bytes × Nat) => []) (·.2) a 0 0 (colonsP L bad f out a)
 | 0, out, a, ha => Flt.stop ha
 | f + 1, out, a, ha => by
  unfold colonsP
  by_cases h : isK L 16 a = true
  · rw [if_pos h]
    have h1 := hL.next h (by omega) ha
    refine Pl.bind (take_pl hL 1 (a + 1) h1 (by omega)) (fun h2 => ?_)
    exact (colons_res hL f _ (a + 1 + 1) h2).mono (by omega) (by omega)
  rw [if_neg h]; exact ⟨Nat.le_refl _, ha, by rw [cntL_nil]; omega, InL.nil⟩
theorem kwPat_res (hL : LOk L) : ∀ (f : Nat) (nm : Bytes) (ps : List Bytes) (a : Nat), a < L.length → Res L bad (fun (_ : Bytes × List Bytes × Nat) => []) (·.2.2) a 0 0 (kwPatP L bad f nm ps a)
 | 0, nm, ps, a, ha => Flt.stop ha
 | f + 1, nm, ps, a, ha => by
  unfold kwPatP
  by_cases h : isK L 2 a = true
  · rw [if_pos h]
    have h1 := hL.next h (by omega) ha
    refine Pl.bind (take_pl hL 1 (a + 1) h1 (by omega)) (fun h2 => ?_)
    exact (kwPat_res hL f _ _ (a + 1 + 1) h2).mono (by omega) (by omega)
  rw [if_neg h]; exact ⟨Nat.le_refl _, ha, by rw [cntL_nil]; omega, InL.nil⟩
theorem end_res (e : Int) (a : Nat) (out : List Nd) (ha : a < L.length) (ho : InL out) : Res L bad (fun (r : List Nd × Nat) => r.1) (·.2) a (3 * a) (cntL out) (endP L bad e a out) := by
 unfold endP
 by_cases h : isK L e a = true
 · rw [if_pos h]; exact ⟨Nat.le_refl _, ha, by show cntL out + _ ≤ _ + 3 * a; omega, ho⟩
 rw [if_neg h]; exact Flt.stop ha
theorem inI {k : Int} {nm : Bytes} {ks : List Nd} {ns : List Bytes} {a n : Int} (h0 : -9223372036854775808 ≤ n) (h1 : n ≤ 9223372036854775807) : InI (.mk k nm n ks ns a) := ⟨h0, h1⟩
theorem send_in {t : Pt} {nm : Bytes} {ks : List Nd} (h : InL ks) : InL [sendN t nm ks] := InL.one (inI (by omega) (by omega)) h
theorem send_cnt (t : Pt) (nm : Bytes) (ks : List Nd) : cntL [sendN t nm ks] = 1 + cntL ks := cnt_one _
theorem leaf_in {k : Int} {nm : Bytes} {ns : List Bytes} {a n : Int} (h0 : -9223372036854775808 ≤ n) (h1 : n ≤ 9223372036854775807) : InL [.mk k nm n [] ns a] := InL.one (inI h0 h1) InL.nil
theorem leaf_cnt (k : Int) (nm : Bytes) (ns : List Bytes) (a n : Int) : cntL [.mk k nm n [] ns a] = 1 := by rw [cnt_one]; show 1 + cntL [] = 1; rw [cntL_nil]
theorem simple_res (hL : LOk L) (a : Nat) (ha : a < L.length) (x : Nd × Nat) (h : simpleP L a = some x) : a + 1 ≤ x.2 ∧ x.2 < L.length ∧ cntL [x.1] = 1 ∧ InL [x.1] := by
 unfold simpleP at h
 simp only at h
 have hn := hL.num a ha
 split at h
 · rename_i h1
   cases h
   rw [Bool.and_eq_true, Bool.and_eq_true] at h1
   have h2 := hL.next (opB_k h1.1.1) (by omega) ha
   have h3 : isK L 3 (a + 1) = true := by
    have := h1.1.2
    unfold ahead at this
    rw [Nat.min_eq_left (by omega)] at this
    exact this
   have h4 := hL.next h3 (by omega) h2
   have hn1 := hL.num (a + 1) h2
   exact ⟨by omega, h4, leaf_cnt _ _ _ _ _, leaf_in (by omega) (by omega)⟩
 split at h
 · rename_i h1
   cases h
   exact ⟨Nat.le_refl _, hL.next (k := 3) (by simpa [isK] using h1) (by omega) ha, leaf_cnt _ _ _ _ _, leaf_in (by omega) (by omega)⟩
 split at h
 · rename_i h1
   cases h
   exact ⟨Nat.le_refl _, hL.next (k := 4) (by simpa [isK] using h1) (by omega) ha, leaf_cnt _ _ _ _ _, leaf_in (by omega) (by omega)⟩
 split at h
 · rename_i h1
   cases h
   exact ⟨Nat.le_refl _, hL.next (k := 5) (by simpa [isK] using h1) (by omega) ha, leaf_cnt _ _ _ _ _, leaf_in (by omega) (by omega)⟩
 cases h
theorem unLoop_res (hL : LOk L) : ∀ (f : Nat) (n : Nd) (s : Bool) (a : Nat), a < L.length → InL [n] → Res L bad (fun (r : Nd × Bool × Nat) => [r.1]) (·.2.2) a (3 * a) (cntL [n]) (.ok (unLoop L f n s a))
 | 0, n, s, a, ha, hn => ⟨Nat.le_refl _, ha, by show cntL [n] + _ ≤ _ + 3 * a; omega, hn⟩
 | f + 1, n, s, a, ha, hn => by
  unfold unLoop
  by_cases h : isK L 1 a = true
  · rw [if_pos h]
    have h1 := hL.next h (by omega) ha
    exact (unLoop_res hL f _ true (a + 1) h1 (send_in hn)).mono (by omega) (by rw [send_cnt]; omega)
  rw [if_neg h]; exact ⟨Nat.le_refl _, ha, by show cntL [n] + _ ≤ _ + 3 * a; omega, hn⟩
theorem sym_res (hL : LOk L) : ∀ (f : Nat) (p : Int) (b : Bytes) (a : Nat), a < L.length → a ≤ (symP L f p b a).2 ∧ (symP L f p b a).2 < L.length
 | 0, p, b, a, ha => ⟨Nat.le_refl _, ha⟩
 | f + 1, p, b, a, ha => by
  unfold symP
  by_cases h : (isK L 2 a && (now L a).at_ == p + b.length) = true
  · rw [if_pos h]
    rw [Bool.and_eq_true] at h
    have := sym_res hL f p (b ++ (now L a).word) (a + 1) (hL.next h.1 (by omega) ha)
    exact ⟨by omega, this.2⟩
  rw [if_neg h]; exact ⟨Nat.le_refl _, ha⟩
end
structure PB (L : List Pt) (bad : Int) (f : Nat) : Prop where
 expr : ∀ d a, a < L.length → Res L bad (fun (r : Nd × Nat) => [r.1]) (·.2) (a + 1) (3 * a) 0 (exprP L bad f d a)
 casc : ∀ d a, a < L.length → Res L bad (fun (r : Nd × Nat) => [r.1]) (·.2) (a + 1) (3 * a) 0 (cascP L bad f d a)
 semi : ∀ d a out, a < L.length → InL out → Res L bad (fun (r : List Nd × Nat) => r.1) (·.2) a (3 * a + if isK L 10 a then 1 else 0) (cntL out) (semiP L bad f d a out)
 msg : ∀ d a rcv, a < L.length → InL [rcv] → Res L bad (fun (r : Nd × Nat) => [r.1]) (·.2) (a + 1) (3 * a) (cntL [rcv]) (msgP L bad f d a rcv)
 kws : ∀ d a t nm kids, a < L.length → InL kids → Res L bad (fun (r : Nd × Nat) => [r.1]) (·.2) (a + if isK L 2 a then 1 else 0) (3 * a + if isK L 2 a then 3 else 0) (1 + cntL kids) (kwsP L bad f d a t nm kids)
 kwd : ∀ d a, a < L.length → Res L bad (fun (r : Nd × Bool × Nat) => [r.1]) (·.2.2) (a + 1) (3 * a) 0 (kwdP L bad f d a)
 bin : ∀ d a, a < L.length → Res L bad (fun (r : Nd × Bool × Nat) => [r.1]) (·.2.2) (a + 1) (3 * a) 0 (binP L bad f d a)
 binL : ∀ d n s a, a < L.length → InL [n] → Res L bad (fun (r : Nd × Bool × Nat) => [r.1]) (·.2.2) a (3 * a) (cntL [n]) (binLoop L bad f d n s a)
 un : ∀ d a, a < L.length → Res L bad (fun (r : Nd × Bool × Nat) => [r.1]) (·.2.2) (a + 1) (3 * a) 0 (unP L bad f d a)
 prim : ∀ d a, a < L.length → Res L bad (fun (r : Nd × Nat) => [r.1]) (·.2) (a + 1) (3 * a) 0 (primP L bad f d a)
 block : ∀ d a, a < L.length → isK L 13 a = true → Res L bad (fun (r : Nd × Nat) => [r.1]) (·.2) (a + 1) (3 * a) 0 (blockP L bad f d a)
 stmts : ∀ d e a out, (e = 0 ∨ e = 14) → a < L.length → InL out → Res L bad (fun (r : List Nd × Nat) => r.1) (·.2) a (3 * a) (cntL out) (stmtsP L bad f d e a out)
 stmt : ∀ d a, a < L.length → Res L bad (fun (r : Nd × Bool × Nat) => [r.1]) (·.2.2) (a + 1) (3 * a) 0 (stmtP L bad f d a)
 list : ∀ d a, a < L.length → (isK L 11 a = true ∨ isK L 15 a = true) → Res L bad (fun (r : Nd × Nat) => [r.1]) (·.2) (a + 1) (3 * a) 0 (listP L bad f d a)
 elems : ∀ d a out, a < L.length → InL out → Res L bad (fun (r : List Nd × Nat) => r.1) (·.2) a (3 * a) (cntL out) (elemsP L bad f d a out)
 elem : ∀ d a, a < L.length → Res L bad (fun (r : Nd × Nat) => [r.1]) (·.2) (a + 1) (3 * a) 0 (elemP L bad f d a)
end Pa
end Go.Proofs.YtmmgfifpjifjnaaGreatDoor
namespace Go.Proofs.YtmmgfifpjifjnaaGreatDoor
namespace Pa
open Lx Tr
section
variable {L : List Pt} {bad : Int}
theorem bind_ok {α β : Type} {x : PE α} {g : α → PE β} {r : β} (h : (x >>= g) = .ok r) : ∃ y, x = .ok y ∧ g y = .ok r := by
 cases x with
 | error E => cases h
 | ok y => exact ⟨y, rfl, h⟩
theorem end_end {e : Int} {a : Nat} {out : List Nd} {r : List Nd × Nat} (h : endP L bad e a out = .ok r) : isK L e r.2 = true := by
 unfold endP at h
 split at h
 · cases h; assumption
 cases h
theorem stmts_end : ∀ (f d : Nat) (e : Int) (a : Nat) (out : List Nd) (r : List Nd × Nat), stmtsP L bad f d e a out = .ok r → isK L e r.2 = true
 | 0, d, e, a, out, r, h => by rw [stmtsP] at h; cases h
 | f + 1, d, e, a, out, r, h => by
  rw [stmtsP] at h
  split at h
  · cases h; assumption
  obtain ⟨⟨n, l, a1⟩, -, h⟩ := bind_ok h
  simp only at h
  split at h
  · split at h
    · exact end_end h
    exact stmts_end f d e _ _ r h
  exact end_end h
theorem elems_end : ∀ (f d : Nat) (a : Nat) (out : List Nd) (r : List Nd × Nat), elemsP L bad f d a out = .ok r → isK L 12 r.2 = true
 | 0, d, a, out, r, h => by rw [elemsP] at h; cases h
 | f + 1, d, a, out, r, h => by
  rw [elemsP] at h
  split at h
  · cases h; assumption
  obtain ⟨⟨n, a1⟩, -, h⟩ := bind_ok h
  exact elems_end f d _ _ r h
theorem ahead_now {a : Nat} (h : a + 1 < L.length) : ahead L a = now L (a + 1) := by unfold ahead now; rw [Nat.min_eq_left (by omega)]
theorem LOk.assign (hL : LOk L) {a : Nat} (ha : a < L.length) (hk : (isK L 1 a && (ahead L a).kind == 7) = true) : a + 1 < L.length ∧ a + 1 + 1 < L.length := by
 rw [Bool.and_eq_true] at hk
 have h1 := hL.next hk.1 (by omega) ha
 have h2 : isK L 7 (a + 1) = true := by have := hk.2; rwa [ahead_now h1] at this
 exact ⟨h1, hL.next h2 (by omega) h1⟩
theorem PB.zero : PB L bad 0 where
 expr d a ha := by rw [exprP]; exact Flt.stop ha
 casc d a ha := by rw [cascP]; exact Flt.stop ha
 semi d a out ha ho := by rw [semiP]; exact Flt.stop ha
 msg d a rcv ha ho := by rw [msgP]; exact Flt.stop ha
 kws d a t nm kids ha hk := by rw [kwsP]; exact Flt.stop ha
 kwd d a ha := by rw [kwdP]; exact Flt.stop ha
 bin d a ha := by rw [binP]; exact Flt.stop ha
 binL d n s a ha hn := by rw [binLoop]; exact Flt.stop ha
 un d a ha := by rw [unP]; exact Flt.stop ha
 prim d a ha := by rw [primP]; exact Flt.stop ha
 block d a ha hk := by rw [blockP]; exact Flt.stop ha
 stmts d e a out he ha ho := by rw [stmtsP]; exact Flt.stop ha
 stmt d a ha := by rw [stmtP]; exact Flt.stop ha
 list d a ha hk := by rw [listP]; exact Flt.stop ha
 elems d a out ha ho := by rw [elemsP]; exact Flt.stop ha
 elem d a ha := by rw [elemP]; exact Flt.stop ha
variable {f : Nat}
theorem PB.s_expr (hL : LOk L) (h : PB L bad f) (d a : Nat) (ha : a < L.length) : Res L bad (fun (r : Nd × Nat) => [r.1]) (·.2) (a + 1) (3 * a) 0 (exprP L bad (f + 1) d a) := by
 rw [exprP]
 by_cases hd : 40 < d + 1
 · rw [if_pos hd]; exact Flt.deep ha
 rw [if_neg hd]
 by_cases hk : (isK L 1 a && (ahead L a).kind == 7) = true
 · rw [if_pos hk]
   have h1 := hL.assign ha hk
   refine (h.expr (d + 1) (a + 2) h1.2).bind (fun r e l1 l2 l3 l4 => ?_)
   obtain ⟨n, a1⟩ := r
   refine ⟨by show a + 1 ≤ a1; simp only at l1; omega, l2, ?_, InL.one (inI (by omega) (by omega)) l4⟩
   rw [cnt_one]
   show 1 + cntL [n] + _ ≤ _ + 3 * a1
   simp only at l3
   omega
 rw [if_neg hk]
 exact h.casc (d + 1) a ha
theorem PB.s_casc (hL : LOk L) (h : PB L bad f) (d a : Nat) (ha : a < L.length) : Res L bad (fun (r : Nd × Nat) => [r.1]) (·.2) (a + 1) (3 * a) 0 (cascP L bad (f + 1) d a) := by
 rw [cascP]
 refine (h.kwd d a ha).bind (fun r e l1 l2 l3 l4 => ?_)
 obtain ⟨n, s, a1⟩ := r
 simp only at l1 l2 l3 l4 ⊢
 by_cases hk : isK L 10 a1 = true
 · rw [if_pos hk]
   by_cases hs : s = true
   · rw [if_pos hs]
     refine (h.semi d a1 [n] l2 l4).bind (fun r e m1 m2 m3 m4 => ?_)
     obtain ⟨ks, a2⟩ := r
     simp only [hk, if_true] at m1 m2 m3 m4
     refine ⟨by show a + 1 ≤ a2; omega, m2, ?_, InL.one (inI (by omega) (by omega)) m4⟩
     rw [cnt_one]
     show 1 + cntL ks + _ ≤ _ + 3 * a2
     omega
   rw [if_neg hs]; exact Flt.stop l2
 rw [if_neg hk]
 exact ⟨l1, l2, l3, l4⟩
theorem PB.s_semi (hL : LOk L) (h : PB L bad f) (d a : Nat) (out : List Nd) (ha : a < L.length) (ho : InL out) : Res L bad (fun (r : List Nd × Nat) => r.1) (·.2) a (3 * a + if isK L 10 a then 1 else 0) (cntL out) (semiP L bad (f + 1) d a out) := by
 rw [semiP]
 by_cases hk : isK L 10 a = true
 · rw [if_pos hk, if_pos hk]
   have h1 := hL.next hk (by omega) ha
   refine (h.msg d (a + 1) _ h1 (leaf_in (by omega) (by omega))).bind (fun r e l1 l2 l3 l4 => ?_)
   obtain ⟨m, a1⟩ := r
   simp only at l1 l2 l3 l4 ⊢
   refine (h.semi d a1 _ l2 (ho.append l4)).mono (by omega) ?_
   rw [leaf_cnt] at l3
   rw [cntL_append]
   omega
 rw [if_neg hk, if_neg hk]
 exact ⟨Nat.le_refl _, ha, by show cntL out + _ ≤ _ + 3 * a; omega, ho⟩
theorem PB.s_msg (hL : LOk L) (h : PB L bad f) (d a : Nat) (rcv : Nd) (ha : a < L.length) (ho : InL [rcv]) : Res L bad (fun (r : Nd × Nat) => [r.1]) (·.2) (a + 1) (3 * a) (cntL [rcv]) (msgP L bad (f + 1) d a rcv) := by
 rw [msgP]
 by_cases h1 : isK L 1 a = true
 · rw [if_pos h1]
   exact ⟨Nat.le_refl _, hL.next h1 (by omega) ha, by show cntL [sendN _ _ _] + _ ≤ _ + 3 * (a + 1); rw [send_cnt]; omega, send_in ho⟩
 rw [if_neg h1]
 by_cases h6 : isK L 6 a = true
 · rw [if_pos h6]
   refine (h.un d (a + 1) (hL.next h6 (by omega) ha)).bind (fun r e l1 l2 l3 l4 => ?_)
   obtain ⟨n, s, a1⟩ := r
   simp only at l1 l2 l3 l4 ⊢
   refine ⟨by show a + 1 ≤ a1; omega, l2, ?_, send_in (ho.append l4)⟩
   show cntL [sendN _ _ ([rcv] ++ [n])] + _ ≤ _ + 3 * a1
   rw [send_cnt, cntL_append]
   omega
 rw [if_neg h6]
 by_cases h2 : isK L 2 a = true
 · rw [if_pos h2]
   have := h.kws d a (now L a) [] [rcv] ha ho
   rw [if_pos h2, if_pos h2] at this
   exact this.mono (Nat.le_refl _) (by omega)
 rw [if_neg h2]; exact Flt.stop ha
theorem PB.s_kws (hL : LOk L) (h : PB L bad f) (d a : Nat) (t : Pt) (nm : Bytes) (kids : List Nd) (ha : a < L.length) (hk : InL kids) :
  Res L bad (fun (r : Nd × Nat) => [r.1]) (·.2) (a + if isK L 2 a then 1 else 0) (3 * a + if isK L 2 a then 3 else 0) (1 + cntL kids) (kwsP L bad (f + 1) d a t nm kids) := by
 rw [kwsP]
 by_cases h2 : isK L 2 a = true
 · rw [if_pos h2, if_pos h2, if_pos h2]
   refine (h.bin d (a + 1) (hL.next h2 (by omega) ha)).bind (fun r e l1 l2 l3 l4 => ?_)
   obtain ⟨n, s, a1⟩ := r
   simp only at l1 l2 l3 l4 ⊢
   refine (h.kws d a1 t _ _ l2 (hk.append l4)).mono (by omega) ?_
   rw [cntL_append]
   omega
 rw [if_neg h2, if_neg h2, if_neg h2]
 refine ⟨Nat.le_refl _, ha, ?_, send_in hk⟩
 show cntL [sendN _ _ _] + _ ≤ _ + 3 * a
 rw [send_cnt]
 omega
theorem PB.s_kwd (hL : LOk L) (h : PB L bad f) (d a : Nat) (ha : a < L.length) : Res L bad (fun (r : Nd × Bool × Nat) => [r.1]) (·.2.2) (a + 1) (3 * a) 0 (kwdP L bad (f + 1) d a) := by
 rw [kwdP]
 refine (h.bin d a ha).bind (fun r e l1 l2 l3 l4 => ?_)
 obtain ⟨n, s, a1⟩ := r
 simp only at l1 l2 l3 l4 ⊢
 by_cases h2 : isK L 2 a1 = true
 · rw [if_pos h2]
   refine (h.kws d a1 (now L a1) [] [n] l2 l4).bind (fun r e m1 m2 m3 m4 => ?_)
   obtain ⟨m, a2⟩ := r
   simp only [h2, if_true] at m1 m2 m3 m4
   exact ⟨by show a + 1 ≤ a2; omega, m2, by show cntL [m] + _ ≤ _ + 3 * a2; omega, m4⟩
 rw [if_neg h2]
 exact ⟨l1, l2, l3, l4⟩
theorem PB.s_bin (hL : LOk L) (h : PB L bad f) (d a : Nat) (ha : a < L.length) : Res L bad (fun (r : Nd × Bool × Nat) => [r.1]) (·.2.2) (a + 1) (3 * a) 0 (binP L bad (f + 1) d a) := by
 rw [binP]
 refine (h.un d a ha).bind (fun r e l1 l2 l3 l4 => ?_)
 obtain ⟨n, s, a1⟩ := r
 simp only at l1 l2 l3 l4 ⊢
 exact (h.binL d n s a1 l2 l4).mono (by omega) (by omega)
theorem PB.s_binL (hL : LOk L) (h : PB L bad f) (d : Nat) (n : Nd) (s : Bool) (a : Nat) (ha : a < L.length) (hn : InL [n]) : Res L bad (fun (r : Nd × Bool × Nat) => [r.1]) (·.2.2) a (3 * a) (cntL [n]) (binLoop L bad (f + 1) d n s a) := by
 rw [binLoop]
 by_cases h6 : isK L 6 a = true
 · rw [if_pos h6]
   refine (h.un d (a + 1) (hL.next h6 (by omega) ha)).bind (fun r e l1 l2 l3 l4 => ?_)
   obtain ⟨x, s', a1⟩ := r
   simp only at l1 l2 l3 l4 ⊢
   refine (h.binL d _ true a1 l2 (send_in (hn.append l4))).mono (by omega) ?_
   rw [send_cnt, cntL_append]
   omega
 rw [if_neg h6]
 exact ⟨Nat.le_refl _, ha, by show cntL [n] + _ ≤ _ + 3 * a; omega, hn⟩
theorem PB.s_un (hL : LOk L) (h : PB L bad f) (d a : Nat) (ha : a < L.length) : Res L bad (fun (r : Nd × Bool × Nat) => [r.1]) (·.2.2) (a + 1) (3 * a) 0 (unP L bad (f + 1) d a) := by
 rw [unP]
 refine (h.prim d a ha).bind (fun r e l1 l2 l3 l4 => ?_)
 obtain ⟨n, a1⟩ := r
 simp only at l1 l2 l3 l4 ⊢
 exact (unLoop_res hL _ n false a1 l2 l4).mono (by omega) (by omega)
theorem PB.s_prim (hL : LOk L) (h : PB L bad f) (d a : Nat) (ha : a < L.length) : Res L bad (fun (r : Nd × Nat) => [r.1]) (·.2) (a + 1) (3 * a) 0 (primP L bad (f + 1) d a) := by
 rw [primP]
 cases hs : simpleP L a with
 | some x =>
  have := simple_res hL a ha x hs
  exact ⟨this.1, this.2.1, by show cntL [x.1] + _ ≤ _ + 3 * x.2; omega, this.2.2.2⟩
 | none =>
  simp only
  by_cases h1 : isK L 1 a = true
  · rw [if_pos h1]
    exact ⟨Nat.le_refl _, hL.next h1 (by omega) ha, by show cntL [Nd.mk _ _ _ _ _ _] + _ ≤ _ + 3 * (a + 1); rw [leaf_cnt]; omega, leaf_in (by omega) (by omega)⟩
  rw [if_neg h1]
  by_cases h11 : isK L 11 a = true
  · rw [if_pos h11]
    refine (h.expr d (a + 1) (hL.next h11 (by omega) ha)).bind (fun r e l1 l2 l3 l4 => ?_)
    obtain ⟨n, a1⟩ := r
    simp only at l1 l2 l3 l4 ⊢
    refine Pl.bind (take_pl hL 12 a1 l2 (by omega)) (fun m1 => ?_)
    exact ⟨by show a + 1 ≤ a1 + 1; omega, m1, by show cntL [n] + _ ≤ _ + 3 * (a1 + 1); omega, l4⟩
  rw [if_neg h11]
  by_cases h13 : isK L 13 a = true
  · rw [if_pos h13]; exact h.block d a ha h13
  rw [if_neg h13]
  by_cases h15 : isK L 15 a = true
  · rw [if_pos h15]; exact h.list d a ha (.inr h15)
  rw [if_neg h15]; exact Flt.stop ha
theorem PB.s_block (hL : LOk L) (h : PB L bad f) (d a : Nat) (ha : a < L.length) (hk : isK L 13 a = true) : Res L bad (fun (r : Nd × Nat) => [r.1]) (·.2) (a + 1) (3 * a) 0 (blockP L bad (f + 1) d a) := by
 rw [blockP]
 have h1 := hL.next hk (by omega) ha
 obtain ⟨C, hC⟩ : ∃ C, colonsP L bad (L.length + 1) [] (a + 1) = C := ⟨_, rfl⟩
 have hcol := colons_res (bad := bad) hL (L.length + 1) [] (a + 1) h1
 have hpl : ∀ r : List Bytes × Nat, C = .ok r → r.1.length ≤ L.length + 1 := by
  intro r hr
  have key : ∀ (f : Nat) (out : List Bytes) (a : Nat) (r : List Bytes × Nat), colonsP L bad f out a = .ok r → r.1.length ≤ out.length + f := by
   intro f
   induction f with
   | zero => intro out a r h; unfold colonsP at h; cases h
   | succ f ih =>
    intro out a r h
    unfold colonsP at h
    split at h
    · obtain ⟨y, -, h⟩ := bind_ok h
      have := ih _ _ r h
      rw [List.length_append, List.length_singleton] at this
      omega
    cases h; simp
  have := key (L.length + 1) [] (a + 1) r (hC.trans hr)
  simpa using this
 rw [hC] at hcol ⊢
 refine hcol.bind (fun r e l1 l2 l3 l4 => ?_)
 obtain ⟨ps, a1⟩ := r
 have hpl := hpl _ e
 simp only at l1 l2 l3 l4 hpl ⊢
 have hlen := hL.len
 have rest : ∀ a2, a1 ≤ a2 → a2 < L.length → Res L bad (fun (r : Nd × Nat) => [r.1]) (·.2) (a + 1) (3 * a) 0 (do
   let (vs, a3) ← varsP L bad (L.length + 1) a2
   let (ks, a4) ← stmtsP L bad f d 14 a3 []
   (.ok (Nd.mk 9 [] ps.length ks (ps ++ vs) (now L a).at_, a4 + 1) : PE (Nd × Nat))) := by
  intro a2 g1 g2
  refine (vars_res hL _ a2 g2).bind (fun r e m1 m2 m3 m4 => ?_)
  obtain ⟨vs, a3⟩ := r
  simp only at m1 m2 m3 m4 ⊢
  refine (h.stmts d 14 a3 [] (.inr rfl) m2 InL.nil).bind (fun r e k1 k2 k3 k4 => ?_)
  have he := stmts_end _ _ _ _ _ _ e
  obtain ⟨ks, a4⟩ := r
  simp only at k1 k2 k3 k4 he ⊢
  refine ⟨by show a + 1 ≤ a4 + 1; omega, hL.next he (by omega) k2, ?_, InL.one (inI (by omega) (by omega)) k4⟩
  rw [cnt_one]
  show 1 + cntL ks + _ ≤ _ + 3 * (a4 + 1)
  rw [cntL_nil] at k3
  omega
 by_cases hp : (!ps.isEmpty && !isK L 14 a1) = true
 · rw [if_pos hp]
   exact Pl.bind (takeOp_pl hL _ a1 l2) (fun m1 => rest (a1 + 1) (by omega) m1)
 rw [if_neg hp]
 exact rest a1 (Nat.le_refl _) l2
theorem PB.s_stmts (hL : LOk L) (h : PB L bad f) (d : Nat) (e : Int) (a : Nat) (out : List Nd) (he : e = 0 ∨ e = 14) (ha : a < L.length) (ho : InL out) : Res L bad (fun (r : List Nd × Nat) => r.1) (·.2) a (3 * a) (cntL out) (stmtsP L bad (f + 1) d e a out) := by
 rw [stmtsP]
 by_cases hk : isK L e a = true
 · rw [if_pos hk]; exact ⟨Nat.le_refl _, ha, by show cntL out + _ ≤ _ + 3 * a; omega, ho⟩
 rw [if_neg hk]
 refine (h.stmt d a ha).bind (fun r e' l1 l2 l3 l4 => ?_)
 obtain ⟨n, l, a1⟩ := r
 simp only at l1 l2 l3 l4 ⊢
 have hc := cntL_append out [n]
 by_cases h9 : isK L 9 a1 = true
 · rw [if_pos h9]
   have h1 := hL.next h9 (by omega) l2
   by_cases hl : l = true
   · rw [if_pos hl]
     exact (end_res e (a1 + 1) _ h1 (ho.append l4)).mono (by omega) (by omega)
   rw [if_neg hl]
   exact (h.stmts d e (a1 + 1) _ he h1 (ho.append l4)).mono (by omega) (by omega)
 rw [if_neg h9]
 exact (end_res e a1 _ l2 (ho.append l4)).mono (by omega) (by omega)
theorem PB.s_stmt (hL : LOk L) (h : PB L bad f) (d a : Nat) (ha : a < L.length) : Res L bad (fun (r : Nd × Bool × Nat) => [r.1]) (·.2.2) (a + 1) (3 * a) 0 (stmtP L bad (f + 1) d a) := by
 rw [stmtP]
 by_cases h8 : isK L 8 a = true
 · rw [if_pos h8]
   refine (h.expr d (a + 1) (hL.next h8 (by omega) ha)).bind (fun r e l1 l2 l3 l4 => ?_)
   obtain ⟨n, a1⟩ := r
   simp only at l1 l2 l3 l4 ⊢
   refine ⟨by show a + 1 ≤ a1; omega, l2, ?_, InL.one (inI (by omega) (by omega)) l4⟩
   rw [cnt_one]
   show 1 + cntL [n] + _ ≤ _ + 3 * a1
   omega
 rw [if_neg h8]
 refine (h.expr d a ha).bind (fun r e l1 l2 l3 l4 => ?_)
 obtain ⟨n, a1⟩ := r
 exact ⟨l1, l2, l3, l4⟩
theorem PB.s_list (hL : LOk L) (h : PB L bad f) (d a : Nat) (ha : a < L.length) (hk : isK L 11 a = true ∨ isK L 15 a = true) : Res L bad (fun (r : Nd × Nat) => [r.1]) (·.2) (a + 1) (3 * a) 0 (listP L bad (f + 1) d a) := by
 rw [listP]
 by_cases hd : 40 < d + 1
 · rw [if_pos hd]; exact Flt.deep ha
 rw [if_neg hd]
 have h1 : a + 1 < L.length := by rcases hk with hk | hk <;> exact hL.next hk (by omega) ha
 refine (h.elems (d + 1) (a + 1) [] h1 InL.nil).bind (fun r e l1 l2 l3 l4 => ?_)
 have he := elems_end _ _ _ _ _ e
 obtain ⟨ks, a1⟩ := r
 simp only at l1 l2 l3 l4 he ⊢
 refine ⟨by show a + 1 ≤ a1 + 1; omega, hL.next he (by omega) l2, ?_, InL.one (inI (by omega) (by omega)) l4⟩
 rw [cnt_one]
 show 1 + cntL ks + _ ≤ _ + 3 * (a1 + 1)
 rw [cntL_nil] at l3
 omega
theorem PB.s_elems (hL : LOk L) (h : PB L bad f) (d a : Nat) (out : List Nd) (ha : a < L.length) (ho : InL out) : Res L bad (fun (r : List Nd × Nat) => r.1) (·.2) a (3 * a) (cntL out) (elemsP L bad (f + 1) d a out) := by
 rw [elemsP]
 by_cases hk : isK L 12 a = true
 · rw [if_pos hk]; exact ⟨Nat.le_refl _, ha, by show cntL out + _ ≤ _ + 3 * a; omega, ho⟩
 rw [if_neg hk]
 refine (h.elem d a ha).bind (fun r e l1 l2 l3 l4 => ?_)
 obtain ⟨n, a1⟩ := r
 simp only at l1 l2 l3 l4 ⊢
 refine (h.elems d a1 _ l2 (ho.append l4)).mono (by omega) ?_
 rw [cntL_append]
 omega
theorem PB.s_elem (hL : LOk L) (h : PB L bad f) (d a : Nat) (ha : a < L.length) : Res L bad (fun (r : Nd × Nat) => [r.1]) (·.2) (a + 1) (3 * a) 0 (elemP L bad (f + 1) d a) := by
 rw [elemP]
 cases hs : simpleP L a with
 | some x =>
  have := simple_res hL a ha x hs
  exact ⟨this.1, this.2.1, by show cntL [x.1] + _ ≤ _ + 3 * x.2; omega, this.2.2.2⟩
 | none =>
  simp only
  by_cases h1 : (now L a).kind = 1
  · rw [if_pos h1]
    exact ⟨Nat.le_refl _, hL.next (k := 1) (by simpa [isK] using h1) (by omega) ha, by show cntL [Nd.mk _ _ _ _ _ _] + _ ≤ _ + 3 * (a + 1); rw [leaf_cnt]; omega, leaf_in (by omega) (by omega)⟩
  rw [if_neg h1]
  by_cases h6 : (now L a).kind = 6
  · rw [if_pos h6]
    exact ⟨Nat.le_refl _, hL.next (k := 6) (by simpa [isK] using h6) (by omega) ha, by show cntL [Nd.mk _ _ _ _ _ _] + _ ≤ _ + 3 * (a + 1); rw [leaf_cnt]; omega, leaf_in (by omega) (by omega)⟩
  rw [if_neg h6]
  by_cases h2 : (now L a).kind = 2
  · rw [if_pos h2]
    have hk : isK L 2 a = true := by simpa [isK] using h2
    have h3 := hL.next hk (by omega) ha
    have hs := sym_res hL L.length (now L a).at_ ([] ++ (now L a).word) (a + 1) h3
    have hu : symP L (L.length + 1) (now L a).at_ [] a = symP L L.length (now L a).at_ ([] ++ (now L a).word) (a + 1) := by
     rw [symP, if_pos]
     rw [hk]; simp
    rw [hu]
    exact ⟨hs.1, hs.2, by show cntL [Nd.mk _ _ _ _ _ _] + _ ≤ _ + 3 * (symP L L.length (now L a).at_ ([] ++ (now L a).word) (a + 1)).2; rw [leaf_cnt]; have := hs.1; omega, leaf_in (by omega) (by omega)⟩
  rw [if_neg h2]
  by_cases h5 : (now L a).kind = 11 ∨ (now L a).kind = 15
  · rw [if_pos h5]
    exact h.list d a ha (by rcases h5 with h5 | h5 <;> simp [isK, h5])
  rw [if_neg h5]; exact Flt.stop ha
theorem PB.succ (hL : LOk L) (h : PB L bad f) : PB L bad (f + 1) := ⟨h.s_expr hL, h.s_casc hL, h.s_semi hL, h.s_msg hL, h.s_kws hL, h.s_kwd hL, h.s_bin hL, h.s_binL hL, h.s_un hL, h.s_prim hL, h.s_block hL, h.s_stmts hL, h.s_stmt hL, h.s_list hL, h.s_elems hL, h.s_elem hL⟩
theorem PB.all (hL : LOk L) : ∀ f, PB L bad f
 | 0 => PB.zero
 | f + 1 => (PB.all hL f).succ hL
end
end Pa
end Go.Proofs.YtmmgfifpjifjnaaGreatDoor
namespace Go.Proofs.YtmmgfifpjifjnaaGreatDoor
namespace Pa
open Lx Tr
def ptOf (base : Nat) (t : Tok) : Pt := ⟨(t.kind : Int), t.word, t.num, ((base + t.at_ : Nat) : Int)⟩
def scanF : Nat → Nat → Bytes → List Pt × Int
 | 0, _, _ => ([], 0)
 | f + 1, base, r =>
  match nextR r with
  | .error (p, e) => ([⟨-1, [], 0, ((base + p : Nat) : Int)⟩], e)
  | .ok (t, n) => if t.kind = 0 then ([ptOf base t], 0) else (ptOf base t :: (scanF f (base + n) (r.drop n)).1, (scanF f (base + n) (r.drop n)).2)
def scanR (s : Bytes) : List Pt × Int := scanF (s.length + 1) 0 s
theorem nextR_small (r : Bytes) (t : Tok) (n : Nat) (h : nextR r = .ok (t, n)) : Small t := by
 obtain ⟨k, m, u, -, hu, rfl, -, -⟩ := nextR_parts r t n h
 exact tokR_in _ u m hu
def PtOk (lo hi : Nat) (t : Pt) : Prop := -1 ≤ t.kind ∧ t.kind ≤ 16 ∧ t.word.length ≤ 4096 ∧ 0 ≤ t.num ∧ t.num ≤ 4611686018427387903 ∧ (lo : Int) ≤ t.at_ ∧ t.at_ ≤ (hi : Int)
theorem scanF_ok : ∀ (f base : Nat) (r : Bytes), r.length < f → (scanF f base r).1.length ≤ r.length + 1 ∧ (∀ t ∈ (scanF f base r).1, PtOk base (base + r.length) t) ∧
  ∃ l t, (scanF f base r).1 = l ++ [t] ∧ t.kind ≤ 0 ∧ (∀ u ∈ l, 0 < u.kind) ∧ (t.kind < 0 → (scanF f base r).2 ≠ 0)
 | 0, _, _, h => by omega
 | f + 1, base, r, h => by
  unfold scanF
  cases hx : nextR r with
  | error x =>
   obtain ⟨p, e⟩ := x
   have h1 := nextR_errle _ _ _ hx
   have h2 := nextR_err _ _ _ hx
   refine ⟨by simp, fun t ht => ?_, [], _, rfl, by simp, fun u hu => (by cases hu), fun _ => h2⟩
   obtain rfl := List.mem_singleton.1 ht
   exact ⟨by simp, by simp, by simp, by simp, by simp, by show (base : Int) ≤ ((base + p : Nat) : Int); omega, by show ((base + p : Nat) : Int) ≤ ((base + r.length : Nat) : Int); omega⟩
  | ok y =>
   obtain ⟨t, n⟩ := y
   simp only
   obtain ⟨s1, s2, s3, s4⟩ := nextR_small _ _ _ hx
   have hat := nextR_at _ _ _ hx
   have hpt : PtOk base (base + r.length) (ptOf base t) := ⟨by show (-1 : Int) ≤ (t.kind : Int); omega, by show (t.kind : Int) ≤ 16; omega, s4, s2, s3, by show (base : Int) ≤ ((base + t.at_ : Nat) : Int); omega, by show ((base + t.at_ : Nat) : Int) ≤ ((base + r.length : Nat) : Int); omega⟩
   by_cases hk : t.kind = 0
   · rw [if_pos hk]
     refine ⟨by simp, fun u hu => ?_, [], _, rfl, by show (t.kind : Int) ≤ 0; omega, fun u hu => (by cases hu), fun h => by have h : (t.kind : Int) < 0 := h; omega⟩
     obtain rfl := List.mem_singleton.1 hu
     exact hpt
   rw [if_neg hk]
   obtain ⟨n1, n2⟩ := (nextR_ok _ _ _ hx).2 hk
   obtain ⟨k1, k2, l, u, k3, k4, k5, k6⟩ := scanF_ok f (base + n) (r.drop n) (by rw [List.length_drop]; omega)
   rw [List.length_drop] at k1 k2
   refine ⟨by simp only [List.length_cons]; omega, fun v hv => ?_, ptOf base t :: l, u, by simp only [k3]; rfl, k4, fun v hv => ?_, k6⟩
   · rcases List.mem_cons.1 hv with rfl | hv
     · exact hpt
     obtain ⟨a1, a2, a3, a4, a5, a6, a7⟩ := k2 v hv
     exact ⟨a1, a2, a3, a4, a5, by omega, by omega⟩
   rcases List.mem_cons.1 hv with rfl | hv
   · show 0 < (t.kind : Int); omega
   exact k5 v hv
theorem now_mem {L : List Pt} {i : Nat} (h : i < L.length) : now L i ∈ L := by
 unfold now
 rw [List.getD_eq_getElem?_getD, List.getElem?_eq_getElem h]
 exact List.getElem_mem h
theorem now_app {l : List Pt} {t : Pt} : now (l ++ [t]) l.length = t := by unfold now; simp [List.getD_eq_getElem?_getD]
theorem now_left {l : List Pt} {t : Pt} {i : Nat} (h : i < l.length) : now (l ++ [t]) i ∈ l := by
 have : now (l ++ [t]) i = now l i := by unfold now; simp [List.getD_eq_getElem?_getD, List.getElem?_append_left h]
 rw [this]; exact now_mem h
theorem scan_LOk (s : Bytes) (h : s.length ≤ 1048576) (hpl : PlT (scanR s).1) : LOk (scanR s).1 := by
 obtain ⟨h1, h2, l, t, h3, h4, h5, h6⟩ := scanF_ok (s.length + 1) 0 s (by omega)
 have e : (scanR s).1 = l ++ [t] := h3
 have hp : ∀ i, i < (scanR s).1.length → PtOk 0 s.length (now (scanR s).1 i) := fun i hi => by
  have := h2 _ (now_mem hi)
  rwa [Nat.zero_add] at this
 refine ⟨by rw [e]; simp, by show (scanF _ _ _).1.length ≤ _; omega, fun i hi => ?_, fun i hi => ?_, fun i hi => ⟨(hp i hi).1, (hp i hi).2.1⟩, fun i hi => (hp i hi).2.2.1, fun i hi => ?_, fun i hi => ?_, hpl.1, hpl.2⟩
 · rw [e] at hi ⊢
   rw [List.length_append, List.length_singleton] at hi
   exact h5 _ (now_left (by omega))
 · rw [e] at hi ⊢
   rw [List.length_append, List.length_singleton] at hi
   obtain rfl : i = l.length := by omega
   rw [now_app]; exact h4
 · obtain ⟨a1, a2, a3, a4, a5, a6, a7⟩ := hp i hi
   exact ⟨a4, by omega⟩
 obtain ⟨a1, a2, a3, a4, a5, a6, a7⟩ := hp i hi
 exact ⟨by omega, by omega⟩
def fuelP (L : List Pt) : Nat := 16 * L.length + 32
def methR (s : Bytes) : PE Mt :=
 match methP (scanR s).1 (scanR s).2 (fuelP (scanR s).1) with
 | .error E => .error E
 | .ok m => if checkM m = 0 then .ok m else .error (m.at_, checkM m)
end Pa
end Go.Proofs.YtmmgfifpjifjnaaGreatDoor
