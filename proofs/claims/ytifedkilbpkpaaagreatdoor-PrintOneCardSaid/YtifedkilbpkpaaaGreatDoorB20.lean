/- What the walks of layer 3's laws have in common. -/
import Derived.Test.YtifedkilbpkpaaaGreatDoorB18
import Derived.Test.YtifedkilbpkpaaaGreatDoorB19
import Derived.Test.YtifedkilbpkpaaaGreatDoorB13
import Derived.Test.YtifedkilbpkpaaaGreatDoorB06
import Derived.Test.YtifedkilbpkpaaaGreatDoorB12
import Derived.Lib.SlBytesConst
import Derived.Test.YtifedkilbpkpaaaGreatDoorB15
/- Layer 4: tokens as text: the program's Print is walked. -/
set_option linter.unusedVariables false
set_option linter.unusedSimpArgs false
namespace Go.Proofs.YtifedkilbpkpaaaGreatDoor
open Go.RowKit Rn Tp Fx
theorem tokenP_len {t : GTok} (hl : t.text.length ≤ 1000000) : (tokenP t).length ≤ 10000100 := by
  cases hO : oneB t with
  | false => unfold tokenP; rw [if_neg (by rw [hO]; decide)]; simp
  | true =>
    obtain ⟨e1, e2, e3, e4, e5⟩ := one_facts hO
    obtain ⟨k1, k2⟩ := kind_range hO
    have hv : ∀ c ∈ textC t, isB c = true := fun c hc => (e2 c hc).1
    have hcl : (textC t).length ≤ 1000000 := by
      have := posU_ge (textC t) (textC t).length (Nat.le_refl _)
      rw [posU_end, e3] at this; omega
    have hx : (utfP t.text).getD [] = textC t := rfl
    have hN := nameP_len (l := textC t) false hv
    have hM := nameP_len (l := textC t) true hv
    have hQ := quotedP_len (l := textC t) hv
    have hF := printP_len t.n
    unfold tokenP
    rw [if_pos hO]
    simp only [hx]
    generalize t.kind = k at *
    have hK : k = 1 ∨ k = 2 ∨ k = 3 ∨ k = 4 ∨ k = 5 ∨ k = 6 ∨ k = 7 ∨ k = 8 ∨ k = 9 ∨ k = 10 ∨ k = 11 ∨ k = 12 ∨ k = 13 ∨ k = 14 ∨ k = 15 ∨ k = 16 := by omega
    rcases hK with rfl | rfl | rfl | rfl | rfl | rfl | rfl | rfl | rfl | rfl | rfl | rfl | rfl | rfl | rfl | rfl <;> simp <;> omega
/-- what is printed of tokens, one behind the other: what stands ahead of one, by the kind of the token ahead -/
def gapP (p : Option GTok) (t : GTok) : List UInt8 := match p with
  | none => []
  | some s => if apartB s.kind t.kind = true then [47, 42, 42, 47] else []
def runP : Option GTok → List GTok → List UInt8
  | _, [] => []
  | p, t :: l => gapP p t ++ (tokenP t ++ runP (some t) l)
theorem run_join : ∀ (l : List GTok) (p : GTok), runP (some p) l = match l with
    | [] => []
    | t :: r => gapP (some p) t ++ joinP (t :: r)
  | [], p => rfl
  | [t], p => by simp [runP, joinP]
  | t :: u :: r, p => by
    have := run_join (u :: r) t
    rw [runP, this]
    rfl
theorem run_all (l : List GTok) : runP none l = joinP l := by
  cases l with
  | nil => rfl
  | cons t r =>
    rw [runP]
    show [] ++ (tokenP t ++ runP (some t) r) = _
    rw [run_join]
    cases r with
    | nil => simp [joinP]
    | cons u r => rfl
def prevT (l : List GTok) (k : Nat) : Option GTok := if k = 0 then none else l[k - 1]?
theorem run_step {l : List GTok} {k : Nat} {t : GTok} (h : l[k]? = some t) : runP (prevT l k) (l.drop k) = gapP (prevT l k) t ++ (tokenP t ++ runP (prevT l (k + 1)) (l.drop (k + 1))) := by
  have hk : k < l.length := (List.getElem?_eq_some_iff.1 h).1
  have hd : l.drop k = t :: l.drop (k + 1) := by
    rw [List.drop_eq_getElem_cons hk]
    rw [List.getElem?_eq_getElem hk] at h
    injection h with h
    rw [h]
  have hp : prevT l (k + 1) = some t := by unfold prevT; rw [if_neg (by omega)]; exact h
  rw [hd, hp]; rfl
theorem isB_below {T e : TypeId} {B b : Nat} {bs : List Value} {w w' : World} (h : Lib.IsBuilder T e B b bs w) (hb : Below w.heap.size w w') : Lib.IsBuilder T e B b bs w' := by
  rcases h with h | h
  · have hlt := h.lt
    obtain ⟨h1, v, h2, h3, h4⟩ := h
    exact .inl ⟨h1, v, (hb.block b hlt).trans h2, own_below h3 hb, h4⟩
  · have hlt := h.lt
    obtain ⟨h1, v, h2, h3, h4⟩ := h
    exact .inr ⟨h1, v, (hb.block b hlt).trans h2, own_below h3 hb, h4⟩
set_option maxRecDepth 100000 in
set_option maxHeartbeats 8000000 in
theorem tp_print (l : List GTok) (A : Option Addr) (n cap : Nat) (w : World) (hr : TokRow w w.heap.size A n l) (hT : Tabs w) (hE : Env w) (hD : Db w) :
    Calls Tryz.prog 12 #[.slice A n cap] w fun e w' => e = .returned (.string (bytesOf (printL l))) ∧ Below w.heap.size w w' := by
  have hlen : l.length = n := hr.rd.len
  have hn := hr.hn
  have Hlen := Lib.hid hlen
  clear hlen
  have hRt := tp_rights l A n cap w hr hT
  cases hO : rightB l with
  | false =>
    rw [hO] at hRt
    have hfin : printL l = [] := by unfold printL; rw [if_neg (by rw [hO]; decide)]
    have HF := Lib.hid hfin
    clear hfin hO
    go_enter Tryz.func12, Tryz.ntmps12
    go_wp2_with fail
    refine hRt.mono ?_
    rintro e w1 ⟨rfl, hb⟩
    go_wp2
    go_ret
    exact ⟨by rw [HF.out]; rfl, hb⟩
  | true =>
    rw [hO] at hRt
    have hfin : printL l = runP none l := by unfold printL; rw [if_pos hO, run_all]
    have HF := Lib.hid hfin
    clear hfin hO
    go_enter Tryz.func12, Tryz.ntmps12
    go_wp2_with fail
    refine hRt.mono ?_
    rintro e w1 ⟨rfl, hb1⟩
    have hs1 := hb1.size
    go_wp2_with fail
    obtain ⟨W0, hW0⟩ : ∃ W0, w1.alloc (.cells #[.pointer none, .slice none 0 0] 59) = W0 := ⟨_, rfl⟩
    have I0 : IsB w1.heap.size w1.heap.size [] W0 := by rw [← hW0]; exact Lib.fresh_isBuilder _ _ _
    have b0 : Below w1.heap.size w1 W0 := by rw [← hW0]; exact (Below.refl _ _).alloc (Nat.le_refl _) _
    rw [hW0]
    clear hW0
    go_loopw [11] (fun i wr => ∃ (k : Nat) (acc : List UInt8), k ≤ n ∧ i = .int .i64 k ∧ Hid (acc ++ runP (prevT l k) (l.drop k) = runP none l) ∧ acc.length ≤ 10000104 * k ∧ IsB w1.heap.size w1.heap.size acc wr ∧ Below w1.heap.size w1 wr) (fun i _ => n - (intOf i).toNat)
    case atStart => exact ⟨0, [], by omega, rfl, rfl, by simp, I0, b0⟩
    case round =>
      obtain ⟨k, acc, hk, rfl, hrun, hal, hI, hb⟩ := hrel
      have hbw : Below w.heap.size w wr := hb1.trans (hb.mono hs1)
      have hrw := hr.below hbw
      have hbs := hb.size
      have hws := hbw.size
      by_cases hlt : k < n
      · obtain ⟨b, off, t, hA, hbl, ht, c0, c1, c2⟩ := hrw.rd.at_ hlt
        subst hA
        have hsm := hr.small t (List.mem_of_getElem? ht)
        have hstep := run_step ht
        have dk : decide ((k : Int) < (n : Int)) = true := by simp; omega
        obtain ⟨WA, hWA⟩ : ∃ WA, wr.alloc (.cells #[.int .i64 t.kind, .string (bytesOf t.text), .int .i64 t.n] 23) = WA := ⟨_, rfl⟩
        have bA : Below wr.heap.size wr WA := by rw [← hWA]; exact (Below.refl _ _).alloc (Nat.le_refl _) _
        have rA : RowAt WA wr.heap.size [.int .i64 t.kind, .string (bytesOf t.text), .int .i64 t.n] := by rw [← hWA]; exact RowAt.new _ _ _
        have xA : WA.heap[wr.heap.size]? = some (.cells #[.int .i64 t.kind, .string (bytesOf t.text), .int .i64 t.n] 23) := by rw [← hWA]; exact heap_alloc_new _ _
        have hTl := tokenP_len (t := t) hsm.1
        have hbA : Below w.heap.size w WA := hbw.trans (bA.mono hws)
        obtain ⟨a0, _⟩ := rA.2 0 _ rfl
        obtain ⟨a1, _⟩ := rA.2 1 _ rfl
        obtain ⟨a2, _⟩ := rA.2 2 _ rfl
        obtain ⟨ap, hap⟩ : ∃ ap : Bool, (gapP (prevT l k) t = if ap = true then [47, 42, 42, 47] else []) ∧ ((k = 0 ∧ ap = false) ∨ ∃ (j : Nat) (u : GTok), k = j + 1 ∧ ap = apartB u.kind t.kind ∧ wr.cell? ⟨b, off + j * 3, none⟩ = some (.int .i64 u.kind)) := by
          cases k with
          | zero => exact ⟨false, rfl, .inl ⟨rfl, rfl⟩⟩
          | succ j =>
            obtain ⟨b', off', u, hA', _, hu, d0, _, _⟩ := hrw.rd.at_ (show j < n by omega)
            injection hA' with hA'
            injection hA' with e1 e2
            subst e1 e2
            refine ⟨apartB u.kind t.kind, ?_, .inr ⟨j, u, rfl, rfl, d0⟩⟩
            have : prevT l (j + 1) = some u := by unfold prevT; rw [if_neg (by omega)]; exact hu
            rw [this]; rfl
        obtain ⟨hgap, hap2⟩ := hap
        have hnew : Hid ((acc ++ (if ap = true then [47, 42, 42, 47] else [])) ++ tokenP t ++ runP (prevT l (k + 1)) (l.drop (k + 1)) = runP none l) := by
          show _ = _
          rw [← hrun.out, hstep, hgap]; simp
        have HAP := Lib.hid hap2
        have hz47 := bytesOf_size (tokenP t)
        have hTA : Tabs WA := hT.below hbA
        have hEA : Env WA := hE.below hbA
        have hDA : Db WA := hD.below hbA
        have hIA : IsB w1.heap.size w1.heap.size acc WA := isB_below hI bA
        clear hrun hstep hgap hap2
        go_upto_region 7 with (fail)
        go_cut [28] (fun x wx => x = .bool ap ∧ Below WA.heap.size WA wx)
        case first =>
          rcases HAP.out with ⟨hk0, hap⟩ | ⟨j, u, hkj, hap, d0⟩
          · have tk : decide ((0 : Int) < (k : Int)) = false := by simp; omega
            have tk2 : decide (0 < k) = false := by simp; omega
            have HN := Lib.hid hap
            clear hk0 hap HAP hnew
            refine wp_region_bw WA.heap.size (by kernel_rfl) (by kernel_rfl) ?_
            repeat (go_big_quiet_step (fail))
            refine wpQuiet_nil ?_
            intro _ hw'
            obtain ⟨W, rfl⟩ := hw'
            go_wp2_with fail
            go_meet
            exact ⟨by rw [HN.out], W.is⟩
          · have tk : decide ((0 : Int) < (k : Int)) = true := by simp; omega
            have tk2 : decide (0 < k) = true := by simp; omega
            have HN := Lib.hid hap
            have hwj : IntKind.i64.wrap ((k : Int) - 1) = (j : Int) := by rw [IntKind.wrap_i64]; omega
            have hj1 : (k : Int) - 1 = (j : Int) := by omega
            have hjn : (j : Int) < (n : Int) := by omega
            have hblA : b < WA.heap.size := Nat.lt_of_lt_of_le hbl hbA.size
            have z0 := bw_cell (B := WA.heap.size) a0 rA.1
            have z1 := bw_cell (B := WA.heap.size) ((bA.cell (p := ⟨b, off + j * 3, none⟩) (Nat.lt_of_lt_of_le hbl hws)).trans d0) hblA
            have cA := fun W => tp_apart u.kind t.kind W
            clear hkj hap HAP hnew d0
            refine wp_region_bw WA.heap.size (by kernel_rfl) (by kernel_rfl) ?_
            repeat (go_big_quiet_step (first | (go_at_call 27; exact calls_bw_same (cA _))))
            refine wpQuiet_nil ?_
            intro _ hw'
            obtain ⟨W, rfl⟩ := hw'
            go_wp2_with fail
            go_meet
            exact ⟨by rw [HN.out], W.is⟩
        case rest =>
          obtain ⟨rfl, hbc⟩ := hcut
          have hI1 := isB_below hIA hbc
          have e0 := (hbc.cell (p := ⟨wr.heap.size, 0, none⟩) rA.1).trans a0
          have e1 := (hbc.cell (p := ⟨wr.heap.size, 1, none⟩) rA.1).trans a1
          have e2 := (hbc.cell (p := ⟨wr.heap.size, 2, none⟩) rA.1).trans a2
          have hbA1 : Below w1.heap.size w1 WA := hb.trans (bA.mono hbs)
          have hb3 : Below w1.heap.size w1 wc := hbA1.trans (hbc.mono hbA1.size)
          have hB3 : w1.heap.size ≤ wc.heap.size := hb3.size
          have hltr : wr.heap.size < wc.heap.size := Nat.lt_of_lt_of_le rA.1 hbc.size
          clear HAP hWA a0 a1 a2 c0 c1 c2 hrw
          cases ap with
          | true =>
            rw [if_pos rfl] at hnew
            go_wp2_with fail
            refine (tp_wstr w1.heap.size w1.heap.size acc [47, 42, 42, 47] wc hI1 (by simp; omega) hB3).mono ?_
            rintro e w4 ⟨rfl, hI2, hb4, ko4⟩
            have hblt : w1.heap.size < wr.heap.size := by rcases hI with h | h <;> exact h.lt
            have x4 := ko4 wr.heap.size _ ((hbc.block wr.heap.size rA.1).trans xA) (by intro e; injection e; omega) (by intro c fz e; injection e with _ e _; exact absurd e (by decide))
            have e0 : w4.cell? ⟨wr.heap.size, 0, none⟩ = some (.int .i64 t.kind) := by simp [World.cell?, x4]
            have e1 : w4.cell? ⟨wr.heap.size, 1, none⟩ = some (.string (bytesOf t.text)) := by simp [World.cell?, x4]
            have e2 : w4.cell? ⟨wr.heap.size, 2, none⟩ = some (.int .i64 t.n) := by simp [World.cell?, x4]
            have hb2 : Below w1.heap.size w1 w4 := hb3.trans hb4
            have hbw2 : Below w.heap.size w w4 := hb1.trans (hb2.mono hs1)
            have hTw : Tabs w4 := hT.below hbw2
            have hEw : Env w4 := hE.below hbw2
            have hDw : Db w4 := hD.below hbw2
            have hB2 : w1.heap.size ≤ w4.heap.size := hb2.size
            have cT := tp_token t w4 hsm.1 ⟨hsm.2.1, hsm.2.2⟩ hTw hEw hDw
            go_wp2_with fail
            refine cT.mono ?_
            rintro e w5 ⟨rfl, hb5⟩
            have hI5 := isB_below hI2 hb5
            have hB5 : w1.heap.size ≤ w5.heap.size := Nat.le_trans hB2 hb5.size
            go_wp2_with fail
            refine (tp_wstr w1.heap.size w1.heap.size _ (tokenP t) w5 hI5 (by simp; omega) hB5).mono ?_
            rintro e w6 ⟨rfl, hI6, hb6, _⟩
            go_wp2_with fail
            go_roundw
            case rel => exact ⟨k + 1, _, by omega, by go_num, hnew, (by simp; omega), hI6, hb2.trans ((hb5.mono hB2).trans hb6)⟩
            case measure => simp [intOf]; omega
          | false =>
            rw [if_neg (by decide), List.append_nil] at hnew
            have hI2 := hI1
            have hb2 := hb3
            have hbw2 : Below w.heap.size w wc := hb1.trans (hb2.mono hs1)
            have hTw : Tabs wc := hT.below hbw2
            have hEw : Env wc := hE.below hbw2
            have hDw : Db wc := hD.below hbw2
            have hB2 : w1.heap.size ≤ wc.heap.size := hb2.size
            have cT := tp_token t wc hsm.1 ⟨hsm.2.1, hsm.2.2⟩ hTw hEw hDw
            go_wp2_with fail
            refine cT.mono ?_
            rintro e w5 ⟨rfl, hb5⟩
            have hI5 := isB_below hI2 hb5
            have hB5 : w1.heap.size ≤ w5.heap.size := Nat.le_trans hB2 hb5.size
            go_wp2_with fail
            refine (tp_wstr w1.heap.size w1.heap.size _ (tokenP t) w5 hI5 (by omega) hB5).mono ?_
            rintro e w6 ⟨rfl, hI6, hb6, _⟩
            go_wp2_with fail
            go_roundw
            case rel => exact ⟨k + 1, _, by omega, by go_num, hnew, (by simp; omega), hI6, hb2.trans ((hb5.mono hB2).trans hb6)⟩
            case measure => simp [intOf]; omega
      · obtain rfl : k = n := by omega
        have dk : decide ((k : Int) < (k : Int)) = false := by simp
        have hfin : acc = printL l := by
          rw [HF.out, ← hrun.out, ← Hlen.out, List.drop_length]
          simp [runP]
        have HB := Lib.hid hfin
        have hS := Tryz.Builder_String_any w1.heap.size w1.heap.size acc wr hI (Nat.le_trans (Nat.le_refl _) hbs)
        clear hfin hrun hlt hk hRt hr hrw
        go_wp2_with fail
        refine hS.mono ?_
        rintro e w4 ⟨rfl, hb4⟩
        go_wp2
        go_ret
        exact ⟨congrArg (fun x => Ending.returned (Value.string (bytesOf x))) HB.out, hb1.trans ((hb.trans hb4).mono hs1)⟩
end Go.Proofs.YtifedkilbpkpaaaGreatDoor
/- Layer 3: the model's scanner with a bound on its rounds: so that the kernel can run it. -/
set_option linter.unusedVariables false
set_option linter.unusedSimpArgs false
namespace Go.Proofs.YtifedkilbpkpaaaGreatDoor
open Go.RowKit Rn Tk
namespace Tk
def spF : Nat → List Int → Bool × List Int
  | 0, r => (false, r)
  | f + 1, r => if whiteB (pk r 0) = true then (true, (spF f r.tail).2) else if pk r 0 = 47 ∧ pk r 1 = 42 then spF f (skipC r.tail.tail) else (false, r)
def nmF : Nat → List Int → List Int × List Int
  | 0, r => ([], r)
  | f + 1, r => if esc r = true then ((meantT r.tail).1 :: (nmF f (meantT r.tail).2).1, (nmF f (meantT r.tail).2).2)
    else if withinB (pk r 0) = true then (pk r 0 :: (nmF f r.tail).1, (nmF f r.tail).2) else ([], r)
def qtF : Nat → Int → List Int → List Int × Bool × List Int
  | 0, _, r => ([], false, r)
  | f + 1, e, r =>
    match r with
    | [] => ([], false, [])
    | c :: t =>
      if c = 10 then ([], true, c :: t)
      else if c = e then ([], false, t)
      else if esc (c :: t) = true then ((meantT t).1 :: (qtF f e (meantT t).2).1, (qtF f e (meantT t).2).2)
      else if c = 92 then qtF f e t.tail
      else (c :: (qtF f e t).1, (qtF f e t).2)
def numberF (f : Nat) (r : List Int) : Option (Tok × List Int) :=
  let x := numText r
  let n := Fx.lenP x
  if n = 0 then none else
  let v := Fx.parseP (x.take n)
  let s := r.drop n
  if beg s = true then some (⟨10, writeP (nmF f s).1, v⟩, (nmF f s).2)
  else if pk s 0 = 37 then some (⟨9, [], v⟩, s.tail)
  else some (⟨8, [], v⟩, s)
def nextF (f : Nat) (r : List Int) : Tok × List Int :=
  let c := pk r 0
  if c = 34 ∨ c = 39 then (⟨if (qtF f c r.tail).2.1 = true then 7 else 6, writeP (qtF f c r.tail).1, 0⟩, (qtF f c r.tail).2.2)
  else if c = 35 ∧ (withinB (pk r 1) || esc r.tail) = true then (⟨5, writeP (nmF f r.tail).1, 0⟩, (nmF f r.tail).2)
  else match numberF f r with
    | some x => x
    | none =>
      if c = 64 ∧ beg r.tail = true then (⟨4, writeP (nmF f r.tail).1, 0⟩, (nmF f r.tail).2)
      else if beg r = true then
        if pk (nmF f r).2 0 = 40 then (⟨3, writeP (nmF f r).1, 0⟩, (nmF f r).2.tail) else (⟨2, writeP (nmF f r).1, 0⟩, (nmF f r).2)
      else (signT c, r.tail)
def scF : Nat → Nat → List Int → List Tok
  | 0, _, _ => []
  | g + 1, f, r =>
    if (spF f r).2 = [] then (if (spF f r).1 = true then [⟨1, [], 0⟩] else [])
    else (if (spF f r).1 = true then [⟨1, [], 0⟩] else []) ++ (nextF f (spF f r).2).1 :: scF g f (nextF f (spF f r).2).2
end Tk
theorem spF_eq : ∀ (f : Nat) (r : List Int), r.length ≤ f → spF f r = spacesT r := by
  intro f
  induction f with
  | zero =>
    intro r h
    have : r = [] := List.eq_nil_of_length_eq_zero (by omega)
    subst this; rw [spacesT_nil]; rfl
  | succ f ih =>
    intro r h
    unfold spF
    by_cases h1 : whiteB (pk r 0) = true
    · have := tail_lt (white_ne h1)
      rw [if_pos h1, spacesT_white h1, ih _ (by omega)]
    · rw [if_neg h1]
      by_cases h2 : pk r 0 = 47 ∧ pk r 1 = 42
      · have hne : r ≠ [] := by rintro rfl; rw [pk_nil] at h2; omega
        have h3 := skipC_len r.tail.tail
        have h4 := tail_lt hne
        have h5 : r.tail.tail.length ≤ r.tail.length := by simp
        rw [if_pos h2, spacesT_comment (by simpa using h1) h2, ih _ (by omega)]
      · rw [if_neg h2, spacesT_end (by simpa using h1) h2]
theorem nmF_eq : ∀ (f : Nat) (r : List Int), r.length ≤ f → nmF f r = nameT r := by
  intro f
  induction f with
  | zero =>
    intro r h
    have : r = [] := List.eq_nil_of_length_eq_zero (by omega)
    subst this; rw [nameT_end (by decide) (by rw [pk_nil]; decide)]; rfl
  | succ f ih =>
    intro r h
    unfold nmF
    by_cases h1 : esc r = true
    · have := meant_lt (esc_ne h1)
      rw [if_pos h1, nameT_esc h1, ih _ (by omega)]
    · rw [if_neg h1]
      by_cases h2 : withinB (pk r 0) = true
      · have := tail_lt (within_ne h2)
        rw [if_pos h2, nameT_in (by simpa using h1) h2, ih _ (by omega)]
      · rw [if_neg h2, nameT_end (by simpa using h1) (by simpa using h2)]
theorem qtF_eq (e : Int) : ∀ (f : Nat) (r : List Int), r.length ≤ f → qtF f e r = quoteT e r := by
  intro f
  induction f with
  | zero =>
    intro r h
    have : r = [] := List.eq_nil_of_length_eq_zero (by omega)
    subst this; rw [quoteT_nil]; rfl
  | succ f ih =>
    intro r h
    cases r with
    | nil => rw [quoteT_nil]; rfl
    | cons c t =>
      rw [List.length_cons] at h
      have h5 : t.tail.length ≤ t.length := by simp
      have h6 := meant_len t
      rw [quoteT]
      unfold qtF
      simp only [ih t (by omega), ih t.tail (by omega), ih (meantT t).2 (by omega)]
theorem numberF_eq (f : Nat) (r : List Int) (h : r.length ≤ f) : numberF f r = numberT r := by
  unfold numberF numberT
  have h1 : (r.drop (Fx.lenP (numText r))).length ≤ f := by rw [List.length_drop]; omega
  simp only [nmF_eq f _ h1]
theorem nextF_eq (f : Nat) (r : List Int) (h : r.length ≤ f) : nextF f r = nextT r := by
  have h5 : r.tail.length ≤ r.length := by simp
  unfold nextF nextT
  simp only [numberF_eq f r h, nmF_eq f r h, nmF_eq f r.tail (by omega), qtF_eq _ f r.tail (by omega)]
  rfl
theorem scF_eq (f : Nat) : ∀ (g : Nat) (r : List Int), r.length ≤ f → r.length < g → scF g f r = scanT r := by
  intro g
  induction g with
  | zero => intro r _ h; omega
  | succ g ih =>
    intro r hf hg
    have h1 := spF_eq f r hf
    have h2 := spaces_len r
    unfold scF
    rw [h1]
    by_cases he : (spacesT r).2 = []
    · rw [if_pos he, scanT_end he]
    · have h3 := next_lt he
      rw [if_neg he, scanT_step he, nextF_eq f _ (by omega), ih _ (by omega) (by omega)]
theorem scan_run (r : List Int) : scanT r = scF (r.length + 1) r.length r := (scF_eq _ _ _ (Nat.le_refl _) (Nat.lt_succ_self _)).symm
theorem awake_scan : scanT (readP [97, 58, 49, 46, 53, 101, 109, 47, 42, 42, 47, 98]) = [⟨2, [97], 0⟩, ⟨14, [], 0⟩, ⟨10, [101, 109], 1500⟩, ⟨2, [98], 0⟩] := by
  rw [scan_run]; decide +kernel
end Go.Proofs.YtifedkilbpkpaaaGreatDoor
/- The laws' own helpers of layer 2 are walked: ints, same, awake. -/
set_option linter.unusedVariables false
set_option linter.unusedSimpArgs false
namespace Go.Proofs.YtifedkilbpkpaaaGreatDoor
open Go.RowKit Rn

theorem RowAt.mark (w : World) (e : TypeId) (cs : Array Value) (k : Nat) (hk : cs.size ≤ k) : RowAt (w.alloc (.cells cs e (k, k + 1))) w.heap.size cs.toList := by
  refine ⟨by simp, fun j u hu => ?_⟩
  have hj : j < cs.size := by
    have := (List.getElem?_eq_some_iff.1 hu).1
    simpa using this
  have h := heap_alloc_new w (.cells cs e (k, k + 1))
  constructor
  · unfold World.cell?
    rw [h]
    simpa using hu
  · unfold World.frozen?
    rw [h]
    simp
    omega
theorem own_open {w : World} {base : Nat} {e : TypeId} {v : Value} {n : Nat} {xs : List Value} (h : w.ownsRow base e 1 v n xs) (hn : 0 < n) :
    ∃ g c, v = .slice (some ⟨g, 0, none⟩) n c ∧ base ≤ g ∧ g < w.heap.size ∧ n ≤ c ∧ c ≤ maxLen ∧ ∀ j u, xs[j]? = some u → w.cell? ⟨g, j, none⟩ = some u := by
  have hrd : ∀ A c, v = .slice A n c → Reads w w.heap.size 1 A n xs := fun A c e => Reads.of_own (c := c) (by rw [← e]; exact h)
  obtain ⟨h0, ⟨rfl, rfl⟩ | ⟨g, cap, cur, rfl, h1, h2, h3, h4, _⟩⟩ := id h
  · omega
  · obtain ⟨b, off, e, hb, hc⟩ := (hrd _ _ rfl).open_ hn
    injection e with e
    injection e with e1 e2
    subst e1 e2
    exact ⟨_, _, rfl, h1, hb, h3, h4, fun j u hu => by have := hc j u hu; rwa [Nat.zero_add] at this⟩
theorem awake_read : readP [240, 159, 152, 65, 13, 10] = [65533, 65, 10] := by decide +kernel
theorem awake_hex : hexI 102 = 15 := by decide
theorem awake_begins : beginsB 95 = true := by decide
end Go.Proofs.YtifedkilbpkpaaaGreatDoor
/- Layer 3: what the laws ask of one sheet. -/
set_option linter.unusedVariables false
set_option linter.unusedSimpArgs false
namespace Go.Proofs.YtifedkilbpkpaaaGreatDoor
open Go.RowKit Rn Tk
theorem awake_len : (scanT (readP [97, 58, 49, 46, 53, 101, 109, 47, 42, 42, 47, 98])).length = 4 := by rw [awake_scan]; rfl
end Go.Proofs.YtifedkilbpkpaaaGreatDoor
set_option linter.unusedVariables false
set_option linter.unusedSimpArgs false
namespace Go.Proofs.YtifedkilbpkpaaaGreatDoor
open Go.RowKit Rn Tk
theorem toks_reads {w : World} {b n : Nat} {v : Value} {l : List Tok} (h : w.ownsRow b 23 3 v n (toksV l)) : ∃ A c, v = .slice A n c ∧ ReadsT w w.heap.size A n (l.map Tok.g) := by
  obtain ⟨A, c, rfl, _, _⟩ := own_form h
  exact ⟨A, c, rfl, Reads.of_own h⟩
theorem ReadsT.below {w w' : World} {A : Option Addr} {n : Nat} {l : List GTok} (h : ReadsT w w.heap.size A n l) (hb : Below w.heap.size w w') : ReadsT w' w'.heap.size A n l := (Reads.below h hb).more hb.size
/-- []byte(s): a new block that reads as the text. -/
theorem conv_text {P : Program} {src dst e : TypeId} (hs : P.underlying src = some .string) (hd : P.underlying dst = some (.slice e)) (he : P.underlying e = some (.int .u8)) (w : World) (s : ByteArray) (l : List UInt8) (h : s = bytesOf l) (hl : l.length ≤ maxLen) :
    ∃ c W1, (convert src dst (.string s)).run P w = .ok (.slice (some ⟨w.heap.size, 0, none⟩) l.length c) W1 ∧ l.length ≤ c ∧ c ≤ maxLen ∧ Below w.heap.size w W1 ∧ Reads W1 W1.heap.size 1 (some ⟨w.heap.size, 0, none⟩) l.length (l.map b8) := by
  subst h
  have hsz := bytesOf_size l
  obtain ⟨c, W1, h1, h2, h3, h4⟩ := conv_bytes hs hd he w (bytesOf l)
  have hc : c ≤ maxLen := by
    have h5 := run_bytes_of_string w src dst e (bytesOf l) hs hd he
    rw [h1] at h5
    injection h5 with h5 _
    injection h5 with _ _ h5
    rw [h5]; exact grownCap_le_maxLen _ _ _ _ (by rw [hsz]; exact hl)
  rw [hsz] at h1 h2
  rw [bytesOf_list] at h4
  have := h4.reads (B := W1.heap.size) h4.1
  rw [List.length_map] at this
  exact ⟨c, W1, h1, h2, hc, h3, this⟩
/-- tokens of a literal -/
theorem lit_tok (w : World) (t : GTok) (cs : Array Value) (e : TypeId) (h : cs.toList = cells1 t) : ReadsT (w.alloc (.cells cs e)) (w.alloc (.cells cs e)).heap.size (some ⟨w.heap.size, 0, none⟩) 1 [t] := by
  have r := RowAt.new w e cs
  rw [h] at r
  refine ⟨by rw [cellsG_len]; rfl, fun _ => ⟨w.heap.size, 0, rfl, r.1, fun j u hu => ?_⟩⟩
  have hu' : (cells1 t)[j]? = some u := by simpa [cellsG] using hu
  rw [Nat.zero_add]; exact (r.2 j u hu').1
end Go.Proofs.YtifedkilbpkpaaaGreatDoor
