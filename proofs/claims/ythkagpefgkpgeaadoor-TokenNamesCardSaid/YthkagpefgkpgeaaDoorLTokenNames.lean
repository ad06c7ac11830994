/- The law TokenNames is walked: a name is one token, whatever stands about it, and escaped. The map of texts and tokens is gone through in whatever order. -/
import Derived.Test.YthkagpefgkpgeaaDoorB01
import Derived.Maps.RangeWalk
import Derived.RegionTactic
import Derived.Test.YthkagpefgkpgeaaDoorB10
import Derived.Deep.DeepCutAuto
import Derived.StringKeys
/- A statement that fills a map of five entries in whatever order: what holds behind each entry, whichever comes next, holds behind all. -/
set_option linter.unusedVariables false
set_option linter.unusedSimpArgs false
namespace Go.Proofs.YthkagpefgkpgeaaDoor
open Go.RowKit
theorem wpAny_listed {P : Program} {md : Region.Mode} {ops : Array Oper} {Q : Exit → Act → World → Prop} {f : Nat} {L L' : Array Bool} {a : Act} {w : World} (h : L = L') (hh : wpAny P md ops Q f L' a w) : wpAny P md ops Q f L a w := h ▸ hh
/-- what has been done of the five entries -/
def fl (b0 b1 b2 b3 b4 : Bool) : Array Bool := #[true, true, true, true, b0, true, true, true, true, b1, true, true, true, true, b2, true, true, true, true, b3, true, true, true, b4, false, false]
def rs (b0 b1 b2 b3 b4 : Bool) : List Nat := (if b0 = true then [] else [4]) ++ (if b1 = true then [] else [9]) ++ (if b2 = true then [] else [14]) ++ (if b3 = true then [] else [19]) ++ (if b4 = true then [] else [23])
theorem rs_mem {b0 b1 b2 b3 b4 : Bool} {i : Nat} (h : i ∈ rs b0 b1 b2 b3 b4) : (i = 4 ∧ b0 = false) ∨ (i = 9 ∧ b1 = false) ∨ (i = 14 ∧ b2 = false) ∨ (i = 19 ∧ b3 = false) ∨ (i = 23 ∧ b4 = false) := by
  cases b0 <;> cases b1 <;> cases b2 <;> cases b3 <;> cases b4 <;> simp [rs] at h <;> simp <;> omega
theorem any_five {P : Program} {md : Region.Mode} {ops : Array Oper} {Q : Exit → Act → World → Prop} {a : Act} (f : Nat) (J : Nat → World → Prop)
    (hr : ∀ b0 b1 b2 b3 b4, (b0 && b1 && b2 && b3 && b4) = false → Region.ready md ops (fl b0 b1 b2 b3 b4) = rs b0 b1 b2 b3 b4)
    (hs : ∀ i, (i = 4 ∨ i = 9 ∨ i = 14 ∨ i = 19 ∨ i = 23) → ∀ n w, n < 5 → J n w → ∀ K : Act → World → Prop, (∀ w', J (n + 1) w' → K a w') → wpOp P ops Q i K a w)
    (hend : ∀ w, J 5 w → wpAny P md ops Q f (fl true true true true true) a w) :
    ∀ w, J 0 w → wpAny P md ops Q (f + 5) (fl false false false false false) a w := by
  have key : ∀ m, ∀ b0 b1 b2 b3 b4 : Bool, b0.toNat + b1.toNat + b2.toNat + b3.toNat + b4.toNat + m = 5 → ∀ w, J (5 - m) w → wpAny P md ops Q (f + m) (fl b0 b1 b2 b3 b4) a w := by
    intro m
    induction m with
    | zero =>
      intro b0 b1 b2 b3 b4 hc w hJ
      have h0 := Bool.toNat_le b0
      have h1 := Bool.toNat_le b1
      have h2 := Bool.toNat_le b2
      have h3 := Bool.toNat_le b3
      have h4 := Bool.toNat_le b4
      have e : ∀ b : Bool, b.toNat = 1 → b = true := fun b h => by cases b <;> simp_all
      rw [e b0 (by omega), e b1 (by omega), e b2 (by omega), e b3 (by omega), e b4 (by omega)]
      exact hend w hJ
    | succ m ih =>
      intro b0 b1 b2 b3 b4 hc w hJ
      have hnot : (b0 && b1 && b2 && b3 && b4) = false := by
        cases b0 <;> cases b1 <;> cases b2 <;> cases b3 <;> cases b4 <;> simp at hc ⊢
      have hrd := hr b0 b1 b2 b3 b4 hnot
      have hidx : 5 - (m + 1) < 5 := by omega
      have hnx : m + 1 ≤ 5 := by omega
      have hJ' : ∀ w', J (5 - (m + 1) + 1) w' → J (5 - m) w' := fun w' h => by rwa [show 5 - (m + 1) + 1 = 5 - m by omega] at h
      show (Region.ready md ops (fl b0 b1 b2 b3 b4) = [] → Q .normal a w) ∧ ∀ i ∈ Region.ready md ops (fl b0 b1 b2 b3 b4), wpOp P ops Q i (wpAny P md ops Q (f + m) ((fl b0 b1 b2 b3 b4).setIfInBounds i true)) a w
      rw [hrd]
      refine ⟨fun h => ?_, fun i hi => ?_⟩
      · exfalso
        cases b0 <;> cases b1 <;> cases b2 <;> cases b3 <;> cases b4 <;> simp [rs] at h hnot
      · rcases rs_mem hi with ⟨rfl, rfl⟩ | ⟨rfl, rfl⟩ | ⟨rfl, rfl⟩ | ⟨rfl, rfl⟩ | ⟨rfl, rfl⟩
        · exact hs 4 (by simp) _ w hidx hJ _ (fun w' h => ih true b1 b2 b3 b4 (by simp at hc ⊢; omega) w' (hJ' w' h))
        · exact hs 9 (by simp) _ w hidx hJ _ (fun w' h => ih b0 true b2 b3 b4 (by simp at hc ⊢; omega) w' (hJ' w' h))
        · exact hs 14 (by simp) _ w hidx hJ _ (fun w' h => ih b0 b1 true b3 b4 (by simp at hc ⊢; omega) w' (hJ' w' h))
        · exact hs 19 (by simp) _ w hidx hJ _ (fun w' h => ih b0 b1 b2 true b4 (by simp at hc ⊢; omega) w' (hJ' w' h))
        · exact hs 23 (by simp) _ w hidx hJ _ (fun w' h => ih b0 b1 b2 b3 true (by simp at hc ⊢; omega) w' (hJ' w' h))
  intro w hJ
  exact key 5 false false false false false (by simp) w hJ
section
variable {H : Type} {P : Program} {ops : Array Oper} {Q : Exit → Act → World → Prop} {o : Oper} {a : Act} {Kc : Act → World → Prop}
/-- an entry of a map's literal -/
theorem wpOp_insert (i : Nat) (w : World) (ho : ops[i]? = some o) (hg : o.guard = none) (hd : o.dst = none) (m x v : Operand) (t : TypeId) (hop : o.op = Op.insert t m x v)
    (k e : TypeId) (K : Maps.Keyed P k) (ht : P.underlying t = some (.map k e)) (R : Value → Option (DataW H × List MemPlace)) (b n : Nat) (D : DataW H)
    (hm : a.eval m = .map (some b)) (hown : w.ownsMap P k R b n D) (hn : n < maxLen) (key val : Value) (kl : Lit) (hx : a.eval x = key) (hv : a.eval v = val) (hkey : keyOf P k key = some kl)
    (d : DataW H) (ps : List MemPlace) (hval : R val = some (d, ps))
    (hK : ∀ w', w'.ownsMap P k R b (n + 1) (D.put kl d) → w.grownBy w' (some b) → Kc a w') : wpOp P ops Q i Kc a w := by
  refine wpOp_step ho (fun K' hK' => ?_)
  obtain ⟨w', hrun, r1, r2⟩ := hown.update K ht hn hkey hval
  rw [if_pos (by simp [Region.wanted, hg])]
  unfold Oper.wp
  simp [execOp, hop, hm, hx, hv, hrun, Result.andThen]
  have := hK' _ _ (hK w' r1 r2)
  show K' (a.put o.dst undef) w'
  rw [hd]; exact this
/-- the range over it -/
theorem wpOp_range (i : Nat) (w : World) (ho : ops[i]? = some o) (hg : o.guard = none) (m : Operand) (t : TypeId) (hop : o.op = Op.range t m) (k e : TypeId) (K : Maps.Keyed P k) (ht : P.underlying t = some (.map k e)) (R : Value → Option (DataW H × List MemPlace)) (b n : Nat) (D : DataW H)
    (hm : a.eval m = .map (some b)) (hown : w.ownsMap P k R b n D)
    (hK : ∀ w', w'.ranges P k R b w.heap.size n D (Maps.has D) (Maps.size D) → w.grownBy w' none → Kc (a.put o.dst (.pointer (some ⟨w.heap.size, 0, none⟩))) w') : wpOp P ops Q i Kc a w := by
  refine wpOp_step ho (fun K' hK' => ?_)
  obtain ⟨w', hrun, r1, r2, r3⟩ := hown.range K ht
  rw [if_pos (by simp [Region.wanted, hg])]
  unfold Oper.wp
  simp [execOp, hop, hm, hrun, Result.andThen]
  exact hK' _ _ (hK w' r1 r2)
end
end Go.Proofs.YthkagpefgkpgeaaDoor
set_option linter.unusedVariables false
set_option linter.unusedSimpArgs false
namespace Go.Proofs.YthkagpefgkpgeaaDoor
open Go.RowKit Rn Tk
def hexD (k : Nat) : UInt8 := UInt8.ofNat (if k < 10 then 48 + k else 87 + k)
/-- a text, each byte escaped -/
def escB (bs : List UInt8) : List UInt8 := bs.flatMap (fun b => [92, hexD (b.toNat / 16), hexD (b.toNat % 16), 32])
theorem hexD_facts : ∀ k : Fin 16, hexI ((hexD k.val).toNat : Int) = (k.val : Int) ∧ (hexD k.val).toNat < 128 ∧ 48 ≤ (hexD k.val).toNat := by decide
theorem escB_cons (b : UInt8) (bs : List UInt8) : escB (b :: bs) = 92 :: hexD (b.toNat / 16) :: hexD (b.toNat % 16) :: 32 :: escB bs := rfl
theorem escB_app (a b : List UInt8) : escB (a ++ b) = escB a ++ escB b := by simp [escB]
theorem escB_len (bs : List UInt8) : (escB bs).length = 4 * bs.length := by
  induction bs with
  | nil => rfl
  | cons b bs ih => rw [escB_cons]; simp only [List.length_cons, ih]; omega
/-- a byte of a name -/
def NameB (b : UInt8) : Prop := (97 ≤ b.toNat ∧ b.toNat ≤ 122) ∨ (65 ≤ b.toNat ∧ b.toNat ≤ 90) ∨ (48 ≤ b.toNat ∧ b.toNat ≤ 57) ∨ b.toNat = 45 ∨ b.toNat = 95
instance (b : UInt8) : Decidable (NameB b) := by unfold NameB; infer_instance
theorem nameB_within {b : UInt8} (h : NameB b) : withinB (b.toNat : Int) = true := by
  unfold NameB at h
  unfold withinB beginsB letterB digitB
  simp; omega
theorem nameB_low {b : UInt8} (h : NameB b) : b.toNat < 128 ∧ b.toNat ≠ 0 ∧ b.toNat ≠ 12 ∧ b.toNat ≠ 13 := by unfold NameB at h; omega
theorem esc_low {bs : List UInt8} (h : ∀ b ∈ bs, NameB b) : ∀ x ∈ escB bs, x.toNat < 128 ∧ x.toNat ≠ 0 ∧ x.toNat ≠ 12 ∧ x.toNat ≠ 13 := by
  induction bs with
  | nil => intro x hx; simp [escB] at hx
  | cons b bs ih =>
    intro x hx
    rw [escB_cons] at hx
    have hb := nameB_low (h b (by simp))
    have h1 := hexD_facts ⟨b.toNat / 16, by omega⟩
    have h2 := hexD_facts ⟨b.toNat % 16, by omega⟩
    simp only at h1 h2
    rcases List.mem_cons.1 hx with rfl | hx
    · decide
    rcases List.mem_cons.1 hx with rfl | hx
    · omega
    rcases List.mem_cons.1 hx with rfl | hx
    · omega
    rcases List.mem_cons.1 hx with rfl | hx
    · decide
    exact ih (fun y hy => h y (by simp [hy])) x hx
theorem meant_esc {b : UInt8} (h : NameB b) (rest : List Int) : meantT (((hexD (b.toNat / 16)).toNat : Int) :: ((hexD (b.toNat % 16)).toNat : Int) :: 32 :: rest) = ((b.toNat : Int), rest) := by
  have hb := nameB_low h
  have h1 := hexD_facts ⟨b.toNat / 16, by omega⟩
  have h2 := hexD_facts ⟨b.toNat % 16, by omega⟩
  simp only at h1 h2
  have hx : hexes 6 0 (((hexD (b.toNat / 16)).toNat : Int) :: ((hexD (b.toNat % 16)).toNat : Int) :: 32 :: rest) = (b.toNat, 32 :: rest) := by
    rw [hexes_yes (by rw [pk_cons0, h1.1]; omega), List.tail_cons, hexes_yes (by rw [pk_cons0, h2.1]; omega), List.tail_cons, hexes_no (r := 32 :: rest) (by rw [pk_cons0]; decide)]
    rw [pk_cons0, pk_cons0, h1.1, h2.1, Int.toNat_natCast, Int.toNat_natCast]
    congr 1; omega
  have hn : numC' b.toNat = (b.toNat : Int) := by
    unfold numC'
    rw [if_neg]
    rintro (h | h)
    · omega
    · unfold isB at h; simp at h; omega
  unfold meantT
  rw [pk_cons0, if_neg (by rw [h1.1]; omega)]
  simp only []
  rw [hx]
  show (numC' b.toNat, if whiteB 32 = true then rest else 32 :: rest) = _
  rw [hn, if_pos (by decide)]
theorem name_esc : ∀ (bs : List UInt8), (∀ b ∈ bs, NameB b) → nameT (chr (escB bs)) = (chr bs, [])
  | [], _ => by show nameT [] = _; rw [nameT_end esc_nil (by rw [pk_nil]; decide)]; rfl
  | b :: bs, h => by
    have hb := h b (by simp)
    have h1 := hexD_facts ⟨b.toNat / 16, by have := b.toNat_lt; omega⟩
    simp only at h1
    have e : chr (escB (b :: bs)) = 92 :: ((hexD (b.toNat / 16)).toNat : Int) :: ((hexD (b.toNat % 16)).toNat : Int) :: 32 :: chr (escB bs) := rfl
    rw [e, nameT_esc (by unfold esc; rw [pk_cons0, pk_cons, pk_cons0]; simp; omega), List.tail_cons, meant_esc hb, name_esc bs (fun y hy => h y (by simp [hy]))]
    rfl
theorem chr_nn (nl : List UInt8) : ∀ c ∈ chr nl, 0 ≤ c := fun c hc => by
  obtain ⟨b, _, rfl⟩ := List.mem_map.1 hc
  omega
theorem scan_esc {bs : List UInt8} (hne : bs ≠ []) (h : ∀ b ∈ bs, NameB b) : scanT (readP (escB bs)) = [⟨2, bs, 0⟩] := by
  rw [read_chr _ (esc_low h)]
  have hn := name_esc bs h
  have hnn := chr_nn (escB bs)
  have hw : writeP (chr bs) = bs := write_chr bs (fun b hb => (nameB_low (h b hb)).1)
  obtain ⟨b, r, rfl⟩ := List.exists_cons_of_ne_nil hne
  have h1 := hexD_facts ⟨b.toNat / 16, by have := b.toNat_lt; omega⟩
  simp only at h1
  have e : chr (escB (b :: r)) = 92 :: ((hexD (b.toNat / 16)).toNat : Int) :: ((hexD (b.toNat % 16)).toNat : Int) :: 32 :: chr (escB r) := rfl
  have he : esc (chr (escB (b :: r))) = true := by rw [e]; unfold esc; rw [pk_cons0, pk_cons, pk_cons0]; simp; omega
  rw [e] at hn hnn he ⊢
  generalize ((hexD (b.toNat / 16)).toNat : Int) :: ((hexD (b.toNat % 16)).toNat : Int) :: 32 :: chr (escB r) = t at *
  have hb : beg (92 :: t) = true := by unfold beg may; rw [he]; simp
  have hnum : numberT (92 :: t) = none := Np.number_none (Np.num_none hnn (show Np.numStart 92 = false by decide))
  have ex : nextT (92 :: t) = (⟨2, b :: r, 0⟩, []) := by
    unfold nextT
    simp only []
    rw [if_neg (by rw [pk_cons0]; omega), if_neg (by rw [pk_cons0]; intro h; exact absurd h.1 (by decide)), hnum]
    simp only []
    rw [if_neg (by rw [pk_cons0]; intro h; exact absurd h.1 (by decide)), if_pos hb, hn, hw, pk_nil, if_neg (by decide)]
  rw [scan_next (by decide) (by decide), ex, scanT_nil]
/-- the map's entries -/
def tokD (t : Tok) : DataW Unit := .agg [.lit (.int .i64 t.kind), .lit (.string t.text), .lit (.int .i64 t.n)]
def tokR (v : Value) : Option (DataW Unit × List MemPlace) :=
  match v with
  | .agg cs => match cs.toList with
    | [.int .i64 k, .string s, .int .i64 n] => some (.agg [.lit (.int .i64 k), .lit (.string s.data.toList), .lit (.int .i64 n)], [])
    | _ => none
  | _ => none
theorem tokR_of (t : Tok) : tokR (.agg #[.int .i64 (t.kind : Int), .string (bytesOf t.text), .int .i64 t.n]) = some (tokD t, []) := by
  unfold tokR tokD; simp [bytesOf_list]
theorem tokR_inv {v : Value} {y : DataW Unit × List MemPlace} (h : tokR v = some y) : ∃ c : Int × List UInt8 × Int, v = .agg #[.int .i64 c.1, .string (bytesOf c.2.1), .int .i64 c.2.2] ∧ y.1 = .agg [.lit (.int .i64 c.1), .lit (.string c.2.1), .lit (.int .i64 c.2.2)] := by
  unfold tokR at h
  split at h
  · rename_i cs
    split at h
    · rename_i k s n hc
      refine ⟨(k, s.data.toList, n), ?_, ?_⟩
      · congr 1
        apply Array.toList_inj.1
        rw [hc]; simp [bytesOf_eta]
      · injection h with h; rw [← h]
    · cases h
  · cases h
def GoodE (p : Lit × DataW Unit) : Prop := ∃ (x : List UInt8) (t : Tok), p.1 = .string x ∧ p.2 = tokD t ∧ scanT (readP x) = [t] ∧ x.length ≤ 1000
def AllGood (D : DataW Unit) : Prop := ∃ es, D = .map es ∧ ∀ p ∈ es, GoodE p
theorem good_nil : AllGood (.map []) := ⟨[], rfl, by simp⟩
theorem mem_ins {H : Type} (p q : Lit × DataW H) : ∀ l : List (Lit × DataW H), q ∈ DataW.insert p l → q = p ∨ q ∈ l
  | [], h => by simp [DataW.insert] at h; exact .inl h
  | x :: l, h => by
    unfold DataW.insert at h
    split at h
    · rcases List.mem_cons.1 h with h | h
      · exact .inl h
      · exact .inr h
    · rcases List.mem_cons.1 h with h | h
      · exact .inr (by rw [h]; simp)
      · rcases mem_ins p q l h with h | h
        · exact .inl h
        · exact .inr (by simp [h])
theorem good_put {D : DataW Unit} (h : AllGood D) {kl : Lit} {d : DataW Unit} (hp : GoodE (kl, d)) : AllGood (D.put kl d) := by
  obtain ⟨es, rfl, hes⟩ := h
  refine ⟨_, rfl, fun q hq => ?_⟩
  rcases mem_ins _ _ _ hq with rfl | hq
  · exact hp
  · exact hes q (List.mem_filter.1 hq).1
theorem good_at {D : DataW Unit} (h : AllGood D) {x : List UInt8} {y : DataW Unit} (hhas : Maps.has D (.string x) = true) (hat : ∀ zd, D.atKey (.string x) zd = y) : ∃ t, y = tokD t ∧ scanT (readP x) = [t] ∧ x.length ≤ 1000 := by
  obtain ⟨es, rfl, hes⟩ := h
  have h1 := hat y
  unfold DataW.atKey at h1
  simp only at h1
  unfold Maps.has at hhas
  simp only at hhas
  cases hf : List.find? (fun p => p.fst.sameKey (.string x)) es with
  | none =>
    obtain ⟨q, hq, hs⟩ := List.any_eq_true.1 hhas
    have := List.find?_eq_none.1 hf q hq
    exact absurd hs this
  | some p =>
    rw [hf] at h1
    obtain ⟨x', t, e1, e2, e3, e4⟩ := hes p (List.mem_of_find?_eq_some hf)
    have hs := List.find?_some hf
    simp only [e1] at hs
    have hxx : x' = x := by simpa [Lit.sameKey] using hs
    subst hxx
    exact ⟨t, h1.symm.trans e2, e3, e4⟩
theorem tokD_inj {c : Int × List UInt8 × Int} {t : Tok} (h : (.agg [.lit (.int .i64 c.1), .lit (.string c.2.1), .lit (.int .i64 c.2.2)] : DataW Unit) = tokD t) : c = ((t.kind : Int), t.text, t.n) := by
  unfold tokD at h
  obtain ⟨a, b, d⟩ := c
  injection h with h
  simp at h
  simp [h]
theorem good_tok {x : List UInt8} {t : Tok} (h : scanT (readP x) = [t]) (hl : x.length ≤ 1000) : GoodE (.string x, tokD t) := ⟨x, t, rfl, rfl, h, hl⟩
theorem five_scan {nl : List UInt8} (hne : nl ≠ []) (hl : nl.length ≤ 200) (hfirst : letterB ((nl[0]?.getD 0).toNat : Int) = true) (h : ∀ b ∈ nl, NameB b) :
    GoodE (.string nl, tokD ⟨2, nl, 0⟩) ∧ GoodE (.string (64 :: nl), tokD ⟨4, nl, 0⟩) ∧ GoodE (.string (35 :: nl), tokD ⟨5, nl, 0⟩) ∧ GoodE (.string (nl ++ [40]), tokD ⟨3, nl, 0⟩) ∧ GoodE (.string (escB nl), tokD ⟨2, nl, 0⟩) := by
  have hw : writeP (chr nl) = nl := write_chr nl (fun b hb => (nameB_low (h b hb)).1)
  have hr : readP nl = chr nl := read_chr nl (fun b hb => nameB_low (h b hb))
  have h64 : readP (64 :: nl) = 64 :: chr nl := by rw [read_cons (by decide) (by decide) (by decide) (by decide), hr]; rfl
  have h35 : readP (35 :: nl) = 35 :: chr nl := by rw [read_cons (by decide) (by decide) (by decide) (by decide), hr]; rfl
  have h40 : readP (nl ++ [40]) = chr nl ++ [40] := by
    rw [read_chr _ (fun b hb => by
      rcases List.mem_append.1 hb with hb | hb
      · exact nameB_low (h b hb)
      · obtain rfl : b = 40 := by simpa using hb
        decide), chr_app]; rfl
  have h5 := scan_esc hne h
  obtain ⟨b, r, rfl⟩ := List.exists_cons_of_ne_nil hne
  have hb : letterB (b.toNat : Int) = true := hfirst
  have hin : ∀ d ∈ chr r, withinB d = true := fun d hd => by
    obtain ⟨x, hx, rfl⟩ := List.mem_map.1 hd
    exact nameB_within (h x (by simp [hx]))
  have e : chr (b :: r) = (b.toNat : Int) :: chr r := rfl
  rw [e] at hw hr h64 h35 h40
  have hlen : (b :: r).length ≤ 200 := hl
  refine ⟨good_tok ?_ (by omega), good_tok ?_ (by simp at hlen ⊢; omega), good_tok ?_ (by simp at hlen ⊢; omega), good_tok ?_ (by simp at hlen ⊢; omega), good_tok h5 (by rw [escB_len]; omega)⟩
  · rw [hr, scan_ident hb hin, hw]
  · rw [h64, scan_at hb hin, hw]
  · rw [h35, scan_hash hb hin, hw]
  · rw [h40, scan_func hb hin, hw]
def digS : ByteArray := ⟨#[48, 49, 50, 51, 52, 53, 54, 55, 56, 57, 97, 98, 99, 100, 101, 102]⟩
def digL : List UInt8 := [48, 49, 50, 51, 52, 53, 54, 55, 56, 57, 97, 98, 99, 100, 101, 102]
theorem dig_at : ∀ k : Fin 16, digL[k.val]? = some (hexD k.val) := by decide
set_option maxRecDepth 100000 in
set_option maxHeartbeats 20000000 in
theorem walk_TokenNames (s : ByteArray) (w : World) (hs : s.size ≤ maxLen) (hT : Tabs w) (hE : Env w) :
    Calls Tryd.prog 6 #[.string s] w fun e w' => e = .returned (.bool true) ∧ Below w.heap.size w w' := by
  obtain ⟨nl, rfl⟩ : ∃ nl, s = bytesOf nl := ⟨s.data.toList, (bytesOf_eta s).symm⟩
  have hz1 := bytesOf_size nl
  unfold maxLen at hs
  obtain ⟨g0, hg0⟩ : ∃ g, decide (1 ≤ nl.length ∧ nl.length ≤ 200 ∧ letterB ((nl[0]?.getD 0).toNat : Int) = true) = g := ⟨_, rfl⟩
  have Hg0 := Lib.hid hg0
  clear hg0
  go_enter Tryd.func6, Tryd.ntmps6
  go_upto_region 1 with (fail)
  go_cut [38] (fun x wx => x = .bool (!g0) ∧ w = wx)
  case first =>
    have hun : (undef : Value) = .tuple #[] := rfl
    by_cases h0 : nl.length < 1
    · have q0 : decide ((nl.length : Int) < 1) = true := by simp; omega
      obtain rfl : false = g0 := by rw [← Hg0.out]; simp; omega
      clear Hg0 h0
      go_wp2_with fail
      all_goals go_meet
      all_goals exact ⟨rfl, rfl⟩
    have q0 : decide ((nl.length : Int) < 1) = false := by simp; omega
    by_cases h1 : 200 < nl.length
    · have q1 : decide ((200 : Int) < (nl.length : Int)) = true := by simp; omega
      obtain rfl : false = g0 := by rw [← Hg0.out]; simp; omega
      clear Hg0 h0 h1
      go_wp2_with fail
      all_goals go_meet
      all_goals exact ⟨rfl, rfl⟩
    have q1 : decide ((200 : Int) < (nl.length : Int)) = false := by simp; omega
    obtain ⟨b, hb⟩ : ∃ b, nl[0]? = some b := ⟨_, List.getElem?_eq_getElem (by omega)⟩
    have hix := str_at (P := Tryd.prog) (T := 9) Tryd.underlying9 nl .i64 0 b hb
    have hix' : ∀ W, (Instr.index 9 (.string (bytesOf nl)) (.int .i64 0)).run Tryd.prog W = .ok (.int .u8 (b.toNat : Int)) W := hix
    have hpos : 0 < (bytesOf nl).size := by rw [hz1]; omega
    have hb0 : (bytesOf nl)[0]'hpos = b := by
      have h2 : some ((bytesOf nl)[0]'hpos) = some b := by rw [← hb, List.getElem?_eq_getElem (by omega)]; rfl
      injection h2
    have hg1 : g0 = letterB (b.toNat : Int) := by
      have a1 : 1 ≤ nl.length := by omega
      have a2 : nl.length ≤ 200 := by omega
      rw [← Hg0.out, hb]; simp [a1, a2]
    have hreg : (97 ≤ b.toNat ∧ b.toNat ≤ 122) ∨ (122 < b.toNat) ∨ (91 ≤ b.toNat ∧ b.toNat ≤ 96) ∨ (65 ≤ b.toNat ∧ b.toNat ≤ 90) ∨ (b.toNat < 65) := by omega
    clear Hg0 h0 h1 hb hix
    rcases hreg with h | h | h | h | h
    · obtain rfl : true = g0 := by rw [hg1]; unfold letterB; simp; omega
      have r0 : decide ((97 : Int) ≤ (b.toNat : Int)) = true := by simp; omega
      have r1 : decide ((b.toNat : Int) ≤ 122) = true := by simp; omega
      have r2 : decide ((65 : Int) ≤ (b.toNat : Int)) = true := by simp; omega
      have r3 : decide ((b.toNat : Int) ≤ 90) = false := by simp; omega
      clear h hg1
      go_wp2_with fail
      all_goals go_meet
      all_goals exact ⟨rfl, rfl⟩
    · obtain rfl : false = g0 := by rw [hg1]; unfold letterB; simp; omega
      have r0 : decide ((97 : Int) ≤ (b.toNat : Int)) = true := by simp; omega
      have r1 : decide ((b.toNat : Int) ≤ 122) = false := by simp; omega
      have r2 : decide ((65 : Int) ≤ (b.toNat : Int)) = true := by simp; omega
      have r3 : decide ((b.toNat : Int) ≤ 90) = false := by simp; omega
      clear h hg1
      go_wp2_with fail
      all_goals go_meet
      all_goals exact ⟨rfl, rfl⟩
    · obtain rfl : false = g0 := by rw [hg1]; unfold letterB; simp; omega
      have r0 : decide ((97 : Int) ≤ (b.toNat : Int)) = false := by simp; omega
      have r1 : decide ((b.toNat : Int) ≤ 122) = true := by simp; omega
      have r2 : decide ((65 : Int) ≤ (b.toNat : Int)) = true := by simp; omega
      have r3 : decide ((b.toNat : Int) ≤ 90) = false := by simp; omega
      clear h hg1
      go_wp2_with fail
      all_goals go_meet
      all_goals exact ⟨rfl, rfl⟩
    · obtain rfl : true = g0 := by rw [hg1]; unfold letterB; simp; omega
      have r0 : decide ((97 : Int) ≤ (b.toNat : Int)) = false := by simp; omega
      have r1 : decide ((b.toNat : Int) ≤ 122) = true := by simp; omega
      have r2 : decide ((65 : Int) ≤ (b.toNat : Int)) = true := by simp; omega
      have r3 : decide ((b.toNat : Int) ≤ 90) = true := by simp; omega
      clear h hg1
      go_wp2_with fail
      all_goals go_meet
      all_goals exact ⟨rfl, rfl⟩
    · obtain rfl : false = g0 := by rw [hg1]; unfold letterB; simp; omega
      have r0 : decide ((97 : Int) ≤ (b.toNat : Int)) = false := by simp; omega
      have r1 : decide ((b.toNat : Int) ≤ 122) = true := by simp; omega
      have r2 : decide ((65 : Int) ≤ (b.toNat : Int)) = false := by simp; omega
      have r3 : decide ((b.toNat : Int) ≤ 90) = true := by simp; omega
      clear h hg1
      go_wp2_with fail
      all_goals go_meet
      all_goals exact ⟨rfl, rfl⟩
  case rest =>
    obtain ⟨rfl, rfl⟩ := hcut
    cases g0 with
    | false =>
      clear Hg0
      go_wp2_with fail
      refine (tk_awake w hT hE).mono ?_
      rintro e w4 ⟨rfl, hb4⟩
      go_wp2
      go_ret
      exact ⟨rfl, hb4⟩
    | true =>
      obtain ⟨hl1, hl2, hl3⟩ := of_decide_eq_true Hg0.out
      have Hl3 := Lib.hid hl3
      clear Hg0 hl3
      go_wp2_with fail
      go_loopw [3, 42] (fun x i wr => ∃ k : Nat, k ≤ nl.length ∧ i = .int .i64 k ∧ x = .string (bytesOf (escB (nl.take k))) ∧ Hid (∀ b ∈ nl.take k, NameB b) ∧ Below w.heap.size w wr) (fun _ i _ => nl.length - (intOf i).toNat)
      case atStart => exact ⟨0, by omega, rfl, rfl, (by show ∀ x ∈ _, _; simp), Below.refl _ _⟩
      case round =>
        obtain ⟨k, hk, rfl, rfl, hx, hb⟩ := hrel
        by_cases hlt : k < nl.length
        · obtain ⟨b, hbk⟩ : ∃ b, nl[k]? = some b := ⟨_, List.getElem?_eq_getElem hlt⟩
          have hix := str_at (P := Tryd.prog) (T := 9) Tryd.underlying9 nl .i64 k b hbk
          have dk : decide ((k : Int) < ((bytesOf nl).size : Int)) = true := by rw [hz1]; simp; omega
          have b256 := b.toNat_lt
          obtain ⟨g, hg⟩ : ∃ g, decide (NameB b) = g := ⟨_, rfl⟩
          have Hbk := Lib.hid hbk
          have Hg := Lib.hid hg
          have hun : (undef : Value) = .tuple #[] := rfl
          clear hbk hg
          go_upto_region 8 with (fail)
          go_cut [78] (fun x wx => x = .bool (!g) ∧ wr = wx)
          case first =>
            have hreg : (97 ≤ b.toNat ∧ b.toNat ≤ 122) ∨ (122 < b.toNat) ∨ (91 ≤ b.toNat ∧ b.toNat ≤ 96 ∧ b.toNat ≠ 95) ∨ (b.toNat = 95) ∨ (65 ≤ b.toNat ∧ b.toNat ≤ 90) ∨ (58 ≤ b.toNat ∧ b.toNat ≤ 64) ∨ (48 ≤ b.toNat ∧ b.toNat ≤ 57) ∨ (b.toNat < 48 ∧ b.toNat ≠ 45) ∨ (b.toNat = 45) := by omega
            rcases hreg with h | h | h | h | h | h | h | h | h
            · obtain rfl : true = g := by rw [← Hg.out, eq_comm, decide_eq_true_iff]; unfold NameB; omega
              have r0 : decide ((97 : Int) ≤ (b.toNat : Int)) = true := by simp; omega
              have r1 : decide ((b.toNat : Int) ≤ 122) = true := by simp; omega
              have r2 : decide ((65 : Int) ≤ (b.toNat : Int)) = true := by simp; omega
              have r3 : decide ((b.toNat : Int) ≤ 90) = false := by simp; omega
              have r4 : decide ((48 : Int) ≤ (b.toNat : Int)) = true := by simp; omega
              have r5 : decide ((b.toNat : Int) ≤ 57) = false := by simp; omega
              have r6 : ((b.toNat : Int) == 45) = false := by simp; omega
              have r7 : ((b.toNat : Int) == 95) = false := by simp; omega
              clear h Hg hx Hbk
              go_wp2_with fail
              all_goals go_meet
              all_goals exact ⟨rfl, rfl⟩
            · obtain rfl : false = g := by rw [← Hg.out, eq_comm, decide_eq_false_iff_not]; unfold NameB; omega
              have r0 : decide ((97 : Int) ≤ (b.toNat : Int)) = true := by simp; omega
              have r1 : decide ((b.toNat : Int) ≤ 122) = false := by simp; omega
              have r2 : decide ((65 : Int) ≤ (b.toNat : Int)) = true := by simp; omega
              have r3 : decide ((b.toNat : Int) ≤ 90) = false := by simp; omega
              have r4 : decide ((48 : Int) ≤ (b.toNat : Int)) = true := by simp; omega
              have r5 : decide ((b.toNat : Int) ≤ 57) = false := by simp; omega
              have r6 : ((b.toNat : Int) == 45) = false := by simp; omega
              have r7 : ((b.toNat : Int) == 95) = false := by simp; omega
              clear h Hg hx Hbk
              go_wp2_with fail
              all_goals go_meet
              all_goals exact ⟨rfl, rfl⟩
            · obtain rfl : false = g := by rw [← Hg.out, eq_comm, decide_eq_false_iff_not]; unfold NameB; omega
              have r0 : decide ((97 : Int) ≤ (b.toNat : Int)) = false := by simp; omega
              have r1 : decide ((b.toNat : Int) ≤ 122) = true := by simp; omega
              have r2 : decide ((65 : Int) ≤ (b.toNat : Int)) = true := by simp; omega
              have r3 : decide ((b.toNat : Int) ≤ 90) = false := by simp; omega
              have r4 : decide ((48 : Int) ≤ (b.toNat : Int)) = true := by simp; omega
              have r5 : decide ((b.toNat : Int) ≤ 57) = false := by simp; omega
              have r6 : ((b.toNat : Int) == 45) = false := by simp; omega
              have r7 : ((b.toNat : Int) == 95) = false := by simp; omega
              clear h Hg hx Hbk
              go_wp2_with fail
              all_goals go_meet
              all_goals exact ⟨rfl, rfl⟩
            · obtain rfl : true = g := by rw [← Hg.out, eq_comm, decide_eq_true_iff]; unfold NameB; omega
              have r0 : decide ((97 : Int) ≤ (b.toNat : Int)) = false := by simp; omega
              have r1 : decide ((b.toNat : Int) ≤ 122) = true := by simp; omega
              have r2 : decide ((65 : Int) ≤ (b.toNat : Int)) = true := by simp; omega
              have r3 : decide ((b.toNat : Int) ≤ 90) = false := by simp; omega
              have r4 : decide ((48 : Int) ≤ (b.toNat : Int)) = true := by simp; omega
              have r5 : decide ((b.toNat : Int) ≤ 57) = false := by simp; omega
              have r6 : ((b.toNat : Int) == 45) = false := by simp; omega
              have r7 : ((b.toNat : Int) == 95) = true := by simp; omega
              clear h Hg hx Hbk
              go_wp2_with fail
              all_goals go_meet
              all_goals exact ⟨rfl, rfl⟩
            · obtain rfl : true = g := by rw [← Hg.out, eq_comm, decide_eq_true_iff]; unfold NameB; omega
              have r0 : decide ((97 : Int) ≤ (b.toNat : Int)) = false := by simp; omega
              have r1 : decide ((b.toNat : Int) ≤ 122) = true := by simp; omega
              have r2 : decide ((65 : Int) ≤ (b.toNat : Int)) = true := by simp; omega
              have r3 : decide ((b.toNat : Int) ≤ 90) = true := by simp; omega
              have r4 : decide ((48 : Int) ≤ (b.toNat : Int)) = true := by simp; omega
              have r5 : decide ((b.toNat : Int) ≤ 57) = false := by simp; omega
              have r6 : ((b.toNat : Int) == 45) = false := by simp; omega
              have r7 : ((b.toNat : Int) == 95) = false := by simp; omega
              clear h Hg hx Hbk
              go_wp2_with fail
              all_goals go_meet
              all_goals exact ⟨rfl, rfl⟩
            · obtain rfl : false = g := by rw [← Hg.out, eq_comm, decide_eq_false_iff_not]; unfold NameB; omega
              have r0 : decide ((97 : Int) ≤ (b.toNat : Int)) = false := by simp; omega
              have r1 : decide ((b.toNat : Int) ≤ 122) = true := by simp; omega
              have r2 : decide ((65 : Int) ≤ (b.toNat : Int)) = false := by simp; omega
              have r3 : decide ((b.toNat : Int) ≤ 90) = true := by simp; omega
              have r4 : decide ((48 : Int) ≤ (b.toNat : Int)) = true := by simp; omega
              have r5 : decide ((b.toNat : Int) ≤ 57) = false := by simp; omega
              have r6 : ((b.toNat : Int) == 45) = false := by simp; omega
              have r7 : ((b.toNat : Int) == 95) = false := by simp; omega
              clear h Hg hx Hbk
              go_wp2_with fail
              all_goals go_meet
              all_goals exact ⟨rfl, rfl⟩
            · obtain rfl : true = g := by rw [← Hg.out, eq_comm, decide_eq_true_iff]; unfold NameB; omega
              have r0 : decide ((97 : Int) ≤ (b.toNat : Int)) = false := by simp; omega
              have r1 : decide ((b.toNat : Int) ≤ 122) = true := by simp; omega
              have r2 : decide ((65 : Int) ≤ (b.toNat : Int)) = false := by simp; omega
              have r3 : decide ((b.toNat : Int) ≤ 90) = true := by simp; omega
              have r4 : decide ((48 : Int) ≤ (b.toNat : Int)) = true := by simp; omega
              have r5 : decide ((b.toNat : Int) ≤ 57) = true := by simp; omega
              have r6 : ((b.toNat : Int) == 45) = false := by simp; omega
              have r7 : ((b.toNat : Int) == 95) = false := by simp; omega
              clear h Hg hx Hbk
              go_wp2_with fail
              all_goals go_meet
              all_goals exact ⟨rfl, rfl⟩
            · obtain rfl : false = g := by rw [← Hg.out, eq_comm, decide_eq_false_iff_not]; unfold NameB; omega
              have r0 : decide ((97 : Int) ≤ (b.toNat : Int)) = false := by simp; omega
              have r1 : decide ((b.toNat : Int) ≤ 122) = true := by simp; omega
              have r2 : decide ((65 : Int) ≤ (b.toNat : Int)) = false := by simp; omega
              have r3 : decide ((b.toNat : Int) ≤ 90) = true := by simp; omega
              have r4 : decide ((48 : Int) ≤ (b.toNat : Int)) = false := by simp; omega
              have r5 : decide ((b.toNat : Int) ≤ 57) = true := by simp; omega
              have r6 : ((b.toNat : Int) == 45) = false := by simp; omega
              have r7 : ((b.toNat : Int) == 95) = false := by simp; omega
              clear h Hg hx Hbk
              go_wp2_with fail
              all_goals go_meet
              all_goals exact ⟨rfl, rfl⟩
            · obtain rfl : true = g := by rw [← Hg.out, eq_comm, decide_eq_true_iff]; unfold NameB; omega
              have r0 : decide ((97 : Int) ≤ (b.toNat : Int)) = false := by simp; omega
              have r1 : decide ((b.toNat : Int) ≤ 122) = true := by simp; omega
              have r2 : decide ((65 : Int) ≤ (b.toNat : Int)) = false := by simp; omega
              have r3 : decide ((b.toNat : Int) ≤ 90) = true := by simp; omega
              have r4 : decide ((48 : Int) ≤ (b.toNat : Int)) = false := by simp; omega
              have r5 : decide ((b.toNat : Int) ≤ 57) = true := by simp; omega
              have r6 : ((b.toNat : Int) == 45) = true := by simp; omega
              have r7 : ((b.toNat : Int) == 95) = false := by simp; omega
              clear h Hg hx Hbk
              go_wp2_with fail
              all_goals go_meet
              all_goals exact ⟨rfl, rfl⟩
          case rest =>
            obtain ⟨rfl, rfl⟩ := hcut
            clear hun
            cases g with
            | false =>
              clear Hg hx Hbk
              go_wp2_with fail
              refine (tk_awake wr (hT.below hb) (hE.below hb)).mono ?_
              rintro e w4 ⟨rfl, hb4⟩
              go_wp2
              go_ret
              exact ⟨rfl, hb.trans (hb4.mono hb.size)⟩
            | true =>
              have hnb : NameB b := of_decide_eq_true Hg.out
              have hnew : Hid (∀ x ∈ nl.take (k + 1), NameB x) := by
                show ∀ x ∈ _, _
                rw [take_snoc _ _ _ Hbk.out]
                intro x hx2
                rcases List.mem_append.1 hx2 with h | h
                · exact hx.out x h
                · obtain rfl : x = b := by simpa using h
                  exact hnb
              have hesc : escB (nl.take (k + 1)) = escB (nl.take k) ++ [92, hexD (b.toNat / 16), hexD (b.toNat % 16), 32] := by
                rw [take_snoc _ _ _ Hbk.out, escB_app]; rfl
              have Hesc := Lib.hid hesc
              clear hesc hx Hg
              have hd : ∀ (z : Nat), z < 16 → ∀ W, (Instr.index 9 (.string ⟨#[48, 49, 50, 51, 52, 53, 54, 55, 56, 57, 97, 98, 99, 100, 101, 102]⟩) (.int .u8 (z : Int))).run Tryd.prog W = .ok (.int .u8 ((hexD z).toNat : Int)) W := fun z hz W =>
                str_at (P := Tryd.prog) (T := 9) Tryd.underlying9 digL .u8 z (hexD z) (dig_at ⟨z, hz⟩) W
              have hd1 : ∀ W, (Instr.index 9 (.string ⟨#[48, 49, 50, 51, 52, 53, 54, 55, 56, 57, 97, 98, 99, 100, 101, 102]⟩) (.int .u8 ((b.toNat : Int) / 16))).run Tryd.prog W = .ok (.int .u8 ((hexD (b.toNat / 16)).toNat : Int)) W := fun W => by
                have := hd (b.toNat / 16) (by omega) W
                rwa [show ((b.toNat / 16 : Nat) : Int) = (b.toNat : Int) / 16 by omega] at this
              have hd2 : ∀ W, (Instr.index 9 (.string ⟨#[48, 49, 50, 51, 52, 53, 54, 55, 56, 57, 97, 98, 99, 100, 101, 102]⟩) (.int .u8 ((b.toNat : Int) % 16))).run Tryd.prog W = .ok (.int .u8 ((hexD (b.toNat % 16)).toNat : Int)) W := fun W => by
                have := hd (b.toNat % 16) (by omega) W
                rwa [show ((b.toNat % 16 : Nat) : Int) = (b.toNat : Int) % 16 by omega] at this
              clear hd
              obtain ⟨h1, hh1⟩ : ∃ h, hexD (b.toNat / 16) = h := ⟨_, rfl⟩
              obtain ⟨h2, hh2⟩ : ∃ h, hexD (b.toNat % 16) = h := ⟨_, rfl⟩
              rw [hh1] at hd1
              rw [hh2] at hd2
              have Hh1 := Lib.hid hh1
              have Hh2 := Lib.hid hh2
              clear hh1 hh2
              have hcell : ∀ j (hj : j < [h1, h2].length), (wr.alloc (.cells #[.int .u8 (h1.toNat : Int), .int .u8 (h2.toNat : Int)] 5)).drew.cell? ((⟨wr.heap.size, 0, none⟩ : Addr).add j) = some (.int .u8 ([h1, h2][j].toNat : Int)) := by
                intro j hj
                have r := RowAt.new wr 5 #[.int .u8 (h1.toNat : Int), .int .u8 (h2.toNat : Int)]
                have hj2 : j = 0 ∨ j = 1 := by simp at hj; omega
                rcases hj2 with rfl | rfl
                · exact (r.2 0 _ rfl).1
                · exact (r.2 1 _ rfl).1
              have hcv : (convert 22 9 (.slice (some ⟨wr.heap.size, 0, none⟩) 2 2)).run Tryd.prog (wr.alloc (.cells #[.int .u8 (h1.toNat : Int), .int .u8 (h2.toNat : Int)] 5)).drew = .ok (.string (bytesOf [h1, h2])) (wr.alloc (.cells #[.int .u8 (h1.toNat : Int), .int .u8 (h2.toNat : Int)] 5)).drew :=
                run_convert_bytes_back (P := Tryd.prog) (wr.alloc (.cells #[.int .u8 (h1.toNat : Int), .int .u8 (h2.toNat : Int)] 5)).drew 22 9 5 ⟨wr.heap.size, 0, none⟩ 2 [h1, h2] Tryd.underlying22 Tryd.underlying5 Tryd.underlying9 hcell
              clear hcell
              have hle : (escB (nl.take k)).length ≤ 800 := by rw [escB_len, List.length_take]; omega
              have z1 : (bytesOf [h1, h2]).size = 2 := rfl
              obtain ⟨E, hE1⟩ : ∃ E, bytesOf (escB (nl.take k)) = E := ⟨_, rfl⟩
              have z2 : E.size ≤ 800 := by rw [← hE1, bytesOf_size]; exact hle
              have hfin : E ++ (⟨#[92]⟩ ++ bytesOf [h1, h2] ++ ⟨#[32]⟩) = bytesOf (escB (nl.take (k + 1))) := by
                rw [Hesc.out, Hh1.out, Hh2.out, ← hE1, show (⟨#[92]⟩ : ByteArray) = bytesOf [92] from rfl, show (⟨#[32]⟩ : ByteArray) = bytesOf [32] from rfl, bytesOf_append, bytesOf_append, bytesOf_append]; rfl
              have Hfin := Lib.hid hfin
              rw [hE1]
              clear hfin hE1 hle
              go_upto_region 10 with (fail)
              go_region
              go_wp2_with fail
              go_roundw
              case rel => exact ⟨k + 1, by omega, by go_num, by rw [Hfin.out], hnew, (hb.alloc hb.size _).drew⟩
              case measure => simp [intOf]; omega
        · obtain rfl : k = nl.length := by omega
          have dk : decide ((nl.length : Int) < (nl.length : Int)) = false := by simp
          have hx1 := hx.out
          rw [List.take_length] at hx1
          rw [List.take_length]
          have hne : nl ≠ [] := by intro h; rw [h] at hl1; simp at hl1
          obtain ⟨e1, e2, e3, e4, e5⟩ := five_scan hne hl2 Hl3.out hx1
          have E1 := Lib.hid e1
          have E2 := Lib.hid e2
          have E3 := Lib.hid e3
          have E4 := Lib.hid e4
          have E5 := Lib.hid e5
          clear hx hx1 hne e1 e2 e3 e4 e5 hlt hk dk
          go_upto_region 12 with (fail)
          go_cut [113] (fun x wx => ∃ (r b cnt : Nat) (D : DataW Unit) (left : Lit → Bool), x = .pointer (some ⟨r, 0, none⟩) ∧ wx.ranges Tryd.prog 9 tokR b r 5 D left cnt ∧ AllGood D ∧ (∀ kl, left kl = true → Maps.has D kl = true) ∧ Below w.heap.size w wx ∧ w.heap.size ≤ b ∧ w.heap.size ≤ r)
          case first =>
            have hsz5 : (bytesOf nl).size ≤ 200 := by rw [hz1]; exact hl2
            refine wp_region_any (by kernel_rfl) ?_
            try (change wpAny _ _ _ _ _ _ _ (World.drew _))
            refine wpAny_take (i := 1) (v := .string (bytesOf nl)) rfl (by kernel_rfl) (by kernel_rfl) (by kernel_rfl) (fun _ _ _ h => h) (Or.inl ⟨by rfl, fun w => by first | (go_simp; done) | (go_simp; omega) | (go_simp; rfl)⟩) ?_
            refine wpAny_take (i := 2) (v := .string (bytesOf nl)) rfl (by kernel_rfl) (by kernel_rfl) (by kernel_rfl) (fun _ _ _ h => h) (Or.inl ⟨by rfl, fun w => by first | (go_simp; done) | (go_simp; omega) | (go_simp; rfl)⟩) ?_
            refine wpAny_take (i := 3) (v := .agg #[.int .i64 2, .string (bytesOf nl), .int .i64 0]) rfl (by kernel_rfl) (by kernel_rfl) (by kernel_rfl) (fun _ _ _ h => h) (Or.inl ⟨by rfl, fun w => by first | (go_simp; done) | (go_simp; omega) | (go_simp; rfl)⟩) ?_
            refine wpAny_take (i := 5) (v := .string (bytesOf nl)) rfl (by kernel_rfl) (by kernel_rfl) (by kernel_rfl) (fun _ _ _ h => h) (Or.inl ⟨by rfl, fun w => by first | (go_simp; done) | (go_simp; omega) | (go_simp; rfl)⟩) ?_
            refine wpAny_take (i := 6) (v := .string (⟨#[64]⟩ ++ bytesOf nl)) rfl (by kernel_rfl) (by kernel_rfl) (by kernel_rfl) (fun _ _ _ h => h) (Or.inl ⟨by rfl, fun w => by first | (go_simp; done) | (go_simp; omega) | (go_simp; rfl)⟩) ?_
            refine wpAny_take (i := 7) (v := .string (bytesOf nl)) rfl (by kernel_rfl) (by kernel_rfl) (by kernel_rfl) (fun _ _ _ h => h) (Or.inl ⟨by rfl, fun w => by first | (go_simp; done) | (go_simp; omega) | (go_simp; rfl)⟩) ?_
            refine wpAny_take (i := 8) (v := .agg #[.int .i64 4, .string (bytesOf nl), .int .i64 0]) rfl (by kernel_rfl) (by kernel_rfl) (by kernel_rfl) (fun _ _ _ h => h) (Or.inl ⟨by rfl, fun w => by first | (go_simp; done) | (go_simp; omega) | (go_simp; rfl)⟩) ?_
            refine wpAny_take (i := 10) (v := .string (bytesOf nl)) rfl (by kernel_rfl) (by kernel_rfl) (by kernel_rfl) (fun _ _ _ h => h) (Or.inl ⟨by rfl, fun w => by first | (go_simp; done) | (go_simp; omega) | (go_simp; rfl)⟩) ?_
            refine wpAny_take (i := 11) (v := .string (⟨#[35]⟩ ++ bytesOf nl)) rfl (by kernel_rfl) (by kernel_rfl) (by kernel_rfl) (fun _ _ _ h => h) (Or.inl ⟨by rfl, fun w => by first | (go_simp; done) | (go_simp; omega) | (go_simp; rfl)⟩) ?_
            refine wpAny_take (i := 12) (v := .string (bytesOf nl)) rfl (by kernel_rfl) (by kernel_rfl) (by kernel_rfl) (fun _ _ _ h => h) (Or.inl ⟨by rfl, fun w => by first | (go_simp; done) | (go_simp; omega) | (go_simp; rfl)⟩) ?_
            refine wpAny_take (i := 13) (v := .agg #[.int .i64 5, .string (bytesOf nl), .int .i64 0]) rfl (by kernel_rfl) (by kernel_rfl) (by kernel_rfl) (fun _ _ _ h => h) (Or.inl ⟨by rfl, fun w => by first | (go_simp; done) | (go_simp; omega) | (go_simp; rfl)⟩) ?_
            refine wpAny_take (i := 15) (v := .string (bytesOf nl)) rfl (by kernel_rfl) (by kernel_rfl) (by kernel_rfl) (fun _ _ _ h => h) (Or.inl ⟨by rfl, fun w => by first | (go_simp; done) | (go_simp; omega) | (go_simp; rfl)⟩) ?_
            refine wpAny_take (i := 16) (v := .string (bytesOf nl ++ ⟨#[40]⟩)) rfl (by kernel_rfl) (by kernel_rfl) (by kernel_rfl) (fun _ _ _ h => h) (Or.inl ⟨by rfl, fun w => by first | (go_simp; done) | (go_simp; omega) | (go_simp; rfl)⟩) ?_
            refine wpAny_take (i := 17) (v := .string (bytesOf nl)) rfl (by kernel_rfl) (by kernel_rfl) (by kernel_rfl) (fun _ _ _ h => h) (Or.inl ⟨by rfl, fun w => by first | (go_simp; done) | (go_simp; omega) | (go_simp; rfl)⟩) ?_
            refine wpAny_take (i := 18) (v := .agg #[.int .i64 3, .string (bytesOf nl), .int .i64 0]) rfl (by kernel_rfl) (by kernel_rfl) (by kernel_rfl) (fun _ _ _ h => h) (Or.inl ⟨by rfl, fun w => by first | (go_simp; done) | (go_simp; omega) | (go_simp; rfl)⟩) ?_
            refine wpAny_take (i := 20) (v := .string (bytesOf (escB nl))) rfl (by kernel_rfl) (by kernel_rfl) (by kernel_rfl) (fun _ _ _ h => h) (Or.inl ⟨by rfl, fun w => by first | (go_simp; done) | (go_simp; omega) | (go_simp; rfl)⟩) ?_
            refine wpAny_take (i := 21) (v := .string (bytesOf nl)) rfl (by kernel_rfl) (by kernel_rfl) (by kernel_rfl) (fun _ _ _ h => h) (Or.inl ⟨by rfl, fun w => by first | (go_simp; done) | (go_simp; omega) | (go_simp; rfl)⟩) ?_
            refine wpAny_take (i := 22) (v := .agg #[.int .i64 2, .string (bytesOf nl), .int .i64 0]) rfl (by kernel_rfl) (by kernel_rfl) (by kernel_rfl) (fun _ _ _ h => h) (Or.inl ⟨by rfl, fun w => by first | (go_simp; done) | (go_simp; omega) | (go_simp; rfl)⟩) ?_
            refine wpAny_ready (rs := [0]) (by kernel_rfl) (by simp) ?_
            refine AllReady.cons rfl (fun K hK => ?_) AllReady.nil
            go_simp
            refine hK _ _ ?_
            clear hK K
            refine wpAny_listed (L' := fl false false false false false) (by kernel_rfl) ?_
            have hm0 : (wr.drew.alloc (.map #[] 0)).ownsMap (H := Unit) Tryd.prog 9 tokR wr.heap.size 0 (.map []) := World.ownsMap_made _ _ _ _
            have hb0 : Below w.heap.size w (wr.drew.alloc (.map #[] 0)) := hb.drew.alloc hb.size _
            refine any_five (f := 2) (J := fun n wx => ∃ D, wx.ownsMap Tryd.prog 9 tokR wr.heap.size n D ∧ AllGood D ∧ Below w.heap.size w wx)
              (by intro b0 b1 b2 b3 b4 h; cases b0 <;> cases b1 <;> cases b2 <;> cases b3 <;> cases b4 <;> first | exact absurd h (by decide) | kernel_rfl) ?hs ?hend (wr.drew.alloc (.map #[] 0)) ⟨.map [], hm0, good_nil, hb0⟩
            case hs =>
              have hkeys : ∀ (x : List UInt8), x.length ≤ 1000 → keyOf Tryd.prog 9 (.string (bytesOf x)) = some (.string x) := fun x hx => by
                have := WideMaps.keyOf_string_mk (P := Tryd.prog) (k := 9) Tryd.underlying9 (s := bytesOf x) (by rw [bytesOf_size]; unfold maxLen; omega)
                rwa [bytesOf_list] at this
              have hel := escB_len nl
              rintro i hi n wx hn ⟨D, hown, hgood, hbel⟩ K hK
              have hgrow : ∀ w', wx.grownBy w' (some wr.heap.size) → Below w.heap.size w w' := fun w' hg => hbel.grown hg hbel.size (fun g hgr => by injection hgr with hgr; rw [← hgr]; exact hb.size)
              rcases hi with rfl | rfl | rfl | rfl | rfl
              · exact wpOp_insert 4 wx rfl rfl rfl (.tmp 93) (.tmp 94) (.tmp 96) 36 rfl 9 29 (Maps.string_keyed Tryd.underlying9) Tryd.underlying36 tokR wr.heap.size n D rfl hown (by unfold maxLen; omega) (.string (bytesOf nl)) _ (.string nl) rfl rfl (hkeys nl (by omega)) (tokD ⟨2, nl, 0⟩) [] (tokR_of ⟨2, nl, 0⟩) (fun w' h1 h2 => hK w' ⟨_, h1, good_put hgood E1.out, hgrow w' h2⟩)
              · exact wpOp_insert 9 wx rfl rfl rfl (.tmp 93) (.tmp 98) (.tmp 100) 36 rfl 9 29 (Maps.string_keyed Tryd.underlying9) Tryd.underlying36 tokR wr.heap.size n D rfl hown (by unfold maxLen; omega) (.string (⟨#[64]⟩ ++ bytesOf nl)) _ (.string (64 :: nl)) rfl rfl (by rw [show (⟨#[64]⟩ : ByteArray) = bytesOf [64] from rfl, bytesOf_append]; exact hkeys (64 :: nl) (by simp; omega)) (tokD ⟨4, nl, 0⟩) [] (tokR_of ⟨4, nl, 0⟩) (fun w' h1 h2 => hK w' ⟨_, h1, good_put hgood E2.out, hgrow w' h2⟩)
              · exact wpOp_insert 14 wx rfl rfl rfl (.tmp 93) (.tmp 102) (.tmp 104) 36 rfl 9 29 (Maps.string_keyed Tryd.underlying9) Tryd.underlying36 tokR wr.heap.size n D rfl hown (by unfold maxLen; omega) (.string (⟨#[35]⟩ ++ bytesOf nl)) _ (.string (35 :: nl)) rfl rfl (by rw [show (⟨#[35]⟩ : ByteArray) = bytesOf [35] from rfl, bytesOf_append]; exact hkeys (35 :: nl) (by simp; omega)) (tokD ⟨5, nl, 0⟩) [] (tokR_of ⟨5, nl, 0⟩) (fun w' h1 h2 => hK w' ⟨_, h1, good_put hgood E3.out, hgrow w' h2⟩)
              · exact wpOp_insert 19 wx rfl rfl rfl (.tmp 93) (.tmp 106) (.tmp 108) 36 rfl 9 29 (Maps.string_keyed Tryd.underlying9) Tryd.underlying36 tokR wr.heap.size n D rfl hown (by unfold maxLen; omega) (.string (bytesOf nl ++ ⟨#[40]⟩)) _ (.string (nl ++ [40])) rfl rfl (by rw [show (⟨#[40]⟩ : ByteArray) = bytesOf [40] from rfl, bytesOf_append]; exact hkeys (nl ++ [40]) (by simp; omega)) (tokD ⟨3, nl, 0⟩) [] (tokR_of ⟨3, nl, 0⟩) (fun w' h1 h2 => hK w' ⟨_, h1, good_put hgood E4.out, hgrow w' h2⟩)
              · exact wpOp_insert 23 wx rfl rfl rfl (.tmp 93) (.tmp 109) (.tmp 111) 36 rfl 9 29 (Maps.string_keyed Tryd.underlying9) Tryd.underlying36 tokR wr.heap.size n D rfl hown (by unfold maxLen; omega) (.string (bytesOf (escB nl))) _ (.string (escB nl)) rfl rfl (hkeys (escB nl) (by omega)) (tokD ⟨2, nl, 0⟩) [] (tokR_of ⟨2, nl, 0⟩) (fun w' h1 h2 => hK w' ⟨_, h1, good_put hgood E5.out, hgrow w' h2⟩)
            case hend =>
              rintro wx ⟨D, hown, hgood, hbel⟩
              refine wpAny_take (i := 24) (v := .map (some wr.heap.size)) rfl (by kernel_rfl) (by kernel_rfl) (by kernel_rfl) (fun _ _ _ h => h) (Or.inl ⟨by rfl, fun w => by first | (go_simp; done) | (go_simp; rfl)⟩) ?_
              refine wpAny_ready (rs := [25]) (by kernel_rfl) (by simp) ?_
              intro i hi
              obtain rfl : i = 25 := by simpa using hi
              refine wpOp_range 25 wx rfl rfl (.tmp 112) 36 rfl 9 29 (Maps.string_keyed Tryd.underlying9) Tryd.underlying36 tokR wr.heap.size 5 D rfl hown (fun w' hrg hg => ?_)
              refine wpAny_done (by kernel_rfl) ?_ _
              have hbel' := hbel.grown hg hbel.size (fun g hgr => by cases hgr)
              have hbs := hb.size
              have hxs := hbel.size
              generalize wx.heap.size = r at *
              go_wp2_with fail
              go_meet
              exact ⟨r, wr.heap.size, _, D, _, rfl, hrg, hgood, fun kl h => h, hbel', hbs, hxs⟩
          case rest =>
            obtain ⟨r, b, cnt0, D, left0, rfl, hrg0, hgood, hhas0, hbel0, hbb, hbr⟩ := hcut
            clear E1 E2 E3 E4 E5 hb
            go_wp2_with fail
            go_loopw [6] (fun _ wx => ∃ (cnt : Nat) (left : Lit → Bool), wx.ranges Tryd.prog 9 tokR b r 5 D left cnt ∧ (∀ kl, left kl = true → Maps.has D kl = true) ∧ Below w.heap.size w wx) (fun _ wx => wx.rangeLeft b r)
            case atStart => exact ⟨cnt0, left0, hrg0, hhas0, hbel0⟩
            case round =>
              obtain ⟨cnt, left, hrg, hhas, hbel⟩ := hrel
              go_wp2_with (at_next; refine wpList_next_ranges _ rfl (.tmp 113) rfl 9 (Maps.string_keyed Tryd.underlying9) tokR (fun l : List UInt8 => .string (bytesOf l)) (fun c : Int × List UInt8 × Int => .agg #[.int .i64 c.1, .string (bytesOf c.2.1), .int .i64 c.2.2]) ?invK ?invV b r 5 D left cnt rfl hrg ?_ ?_)
              case invK =>
                intro key kl h
                obtain ⟨s, rfl, _, _⟩ := WideMaps.string_of_keyOf Tryd.underlying9 h
                exact ⟨s.data.toList, by rw [bytesOf_eta]⟩
              case invV =>
                intro v y hv
                obtain ⟨c, h1, _⟩ := tokR_inv hv
                exact ⟨c, h1⟩
              · intro _ hl0
                go_wp2_with fail
                refine (tk_awake wr (hT.below hbel) (hE.below hbel)).mono ?_
                rintro e w4 ⟨rfl, hb4⟩
                go_wp2
                go_ret
                exact ⟨rfl, hbel.trans (hb4.mono hbel.size)⟩
              · intro x ck ct cn kl yd yp w2 cnt2 hkey hlk hv hat hrg2 hlt hg2 hs2 hen
                obtain rfl : kl = .string x := by
                  obtain ⟨s, hs1, h3, _⟩ := WideMaps.string_of_keyOf Tryd.underlying9 hkey
                  injection hs1 with hs1
                  rw [h3, ← hs1, bytesOf_list]
                obtain ⟨⟨kd, tx, N⟩, ht1, ht2, ht3⟩ := good_at hgood (hhas _ hlk) hat
                have hyd : yd = .agg [.lit (.int .i64 ck), .lit (.string ct), .lit (.int .i64 cn)] := by
                  have : tokR (.agg #[.int .i64 ck, .string (bytesOf ct), .int .i64 cn]) = some (.agg [.lit (.int .i64 ck), .lit (.string ct), .lit (.int .i64 cn)], []) := by unfold tokR; simp [bytesOf_list]
                  rw [this] at hv
                  injection hv with hv
                  injection hv with hv _
                  exact hv.symm
                have hinj := tokD_inj (c := (ck, ct, cn)) (hyd.symm.trans ht1)
                simp only [Prod.mk.injEq] at hinj
                obtain ⟨rfl, rfl, rfl⟩ := hinj
                have hhas2 : ∀ kl, (left kl && !kl.sameKey (.string x)) = true → Maps.has D kl = true := fun kl h => hhas kl (by simp at h; exact h.1)
                have hbel2 : Below w.heap.size w w2 := hbel.grown hg2 hbel.size (fun g hgr => by injection hgr with hgr; rw [← hgr]; exact hbr)
                clear hkey hlk hv hat hyd ht1 hs2 hg2 hhas
                have hno : ¬ (65536 < x.length ∨ 16384 < ([⟨kd, ct, cn⟩] : List Tok).length) := by
                  rintro (h | h)
                  · exact absurd (Nat.lt_of_lt_of_le h ht3) (by decide)
                  · exact absurd h (show ¬ 16384 < 1 by decide)
                have hno := Lib.hid hno
                have hrow := RowAt.new w2 29 #[.int .i64 (kd : Int), .string (bytesOf ct), .int .i64 cn]
                have hB3 : Below w.heap.size w (w2.alloc (.cells #[.int .i64 (kd : Int), .string (bytesOf ct), .int .i64 cn] 29)) := hbel2.alloc hbel2.size _
                have hrg3 := hrg2.alloc (.cells #[.int .i64 (kd : Int), .string (bytesOf ct), .int .i64 cn] 29)
                obtain ⟨cc, W4, hconv, hc1, hc2, hb4, hrd⟩ := conv_text (P := Tryd.prog) Tryd.underlying9 Tryd.underlying22 Tryd.underlying5 (w2.alloc (.cells #[.int .i64 (kd : Int), .string (bytesOf ct), .int .i64 cn] 29)) (bytesOf x) x rfl (by unfold maxLen; omega)
                have hB4 := hB3.trans (hb4.mono hB3.size)
                have hct := tk_scan x _ _ cc W4 hrd hc1 hc2 (hT.below hB4) (hE.below hB4)
                rw [ht2] at hct
                have hsz3 : (w2.alloc (.cells #[.int .i64 (kd : Int), .string (bytesOf ct), .int .i64 cn] 29)).heap.size = w2.heap.size + 1 := by simp
                rw [hsz3] at hct
                clear hsz3
                have hrg4 := hrg3.kept (below_grown hb4) (by simp) (by simp)
                have hzx := bytesOf_size x
                clear hrd hc1 hc2 ht2 hrg3 hrg2
                go_wp2_with fail
                refine hct.mono ?_
                rintro e w5 ⟨hb5, hret⟩
                unfold ScanRet at hret
                rw [if_neg hno.out] at hret
                obtain ⟨v, rfl, hown⟩ := hret
                obtain ⟨A5, c5, rfl, hr5⟩ := toks_reads hown
                have hlt5 : w2.heap.size < W4.heap.size := Nat.lt_of_lt_of_le hrow.1 hb4.size
                have k0 : w5.cell? ⟨w2.heap.size, 0, none⟩ = some (.int .i64 (kd : Int)) := (hb5.cell (p := ⟨w2.heap.size, 0, none⟩) hlt5).trans ((hb4.cell (p := ⟨w2.heap.size, 0, none⟩) hrow.1).trans (hrow.2 0 _ rfl).1)
                have k1 : w5.cell? ⟨w2.heap.size, 1, none⟩ = some (.string (bytesOf ct)) := (hb5.cell (p := ⟨w2.heap.size, 1, none⟩) hlt5).trans ((hb4.cell (p := ⟨w2.heap.size, 1, none⟩) hrow.1).trans (hrow.2 1 _ rfl).1)
                have k2 : w5.cell? ⟨w2.heap.size, 2, none⟩ = some (.int .i64 cn) := (hb5.cell (p := ⟨w2.heap.size, 2, none⟩) hlt5).trans ((hb4.cell (p := ⟨w2.heap.size, 2, none⟩) hrow.1).trans (hrow.2 2 _ rfl).1)
                have hB5 := hB4.trans (hb5.mono hB4.size)
                have hrg5 := hrg4.kept (below_grown hb5) (by simp) (by simp)
                have hrg6 := hrg5.alloc (.cells #[.int .i64 (kd : Int), .string (bytesOf ct), .int .i64 cn] 29)
                have hB6 := hB5.alloc hB5.size (.cells #[.int .i64 (kd : Int), .string (bytesOf ct), .int .i64 cn] 29)
                have hr6 := hr5.below ((Below.refl _ _).alloc (Nat.le_refl _) (.cells #[.int .i64 (kd : Int), .string (bytesOf ct), .int .i64 cn] 29))
                have hl6 := lit_tok w5 ⟨kd, ct, cn⟩ #[.int .i64 (kd : Int), .string (bytesOf ct), .int .i64 cn] 29 rfl
                clear hown hct hrg4 hrg5 hr5 hb4 hconv hrow hlt5 hB3 hB4
                go_wp2_with fail
                refine (toks_same _ _ _ _ _ _ _ _ _ hr6 hl6 (by simp)).mono ?_
                rintro e w7 ⟨rfl, hb7⟩
                rw [show decide ([(⟨kd, ct, cn⟩ : Tok)].map Tok.g = [⟨kd, ct, cn⟩]) = true by rw [decide_eq_true_iff]; rfl]
                have hB7 := hB6.trans (hb7.mono hB6.size)
                have hrg7 := hrg6.kept (below_grown hb7) (by simp) (by simp)
                clear hrg6 hr6 hl6 hb7 k0 k1 k2
                go_wp2_with fail
                go_roundw
                case rel => exact ⟨cnt2, _, hrg7, hhas2, hB7⟩
                case measure => rw [hrg7.left_eq, hrg.left_eq]; exact hlt
end Go.Proofs.YthkagpefgkpgeaaDoor
