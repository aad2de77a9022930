import PyProof.Rows.All
import Wide.All
import OpenK.AllK
import Wide.FinOn
import PySem.Challenge.RW_rg0177_01
open PySem PySem.W PySem.Calls PyProof.Rows
set_option Elab.async true
namespace Mine

/-- every sign of the text is c -/
def AllIs (c : Nat) (x : Str) : Prop := ∀ d ∈ x.cps.toList, d = c

theorem reps_all {c : Nat} : ∀ (k : Nat) (acc : Array Nat), (∀ d ∈ acc.toList, d = c) → ∀ d ∈ ((List.replicate k #[c]).foldl (· ++ ·) acc).toList, d = c
  | 0, acc, h => by simpa using h
  | k + 1, acc, h => by
    rw [List.replicate_succ, List.foldl_cons]
    refine reps_all k _ ?_
    intro d hd
    rw [Array.toList_append, List.mem_append] at hd
    rcases hd with hd | hd
    · exact h d hd
    · simpa using hd

theorem mul_all (c : Nat) (n : Int) : AllIs c (Txt.mul ⟨#[c]⟩ n) := by
  unfold Txt.mul
  split
  · intro d hd
    simp [Str.empty] at hd
  · split
    · intro d hd
      simpa using hd
    · exact reps_all _ _ (by simp)

section
variable {prog : Program} {w : World} {A : Around} {E : Value → Shared → Prop} {s : Shared} {t u : Tok} {Q : Value → Shared → Prop}

theorem mul_letter {a : Str} {c lo hi : Nat} {i : Int} (ha : a = ⟨#[c]⟩) (h0 : (lo : Int) ≤ i) (h1 : i ≤ (hi : Int)) (hh : hi ≤ 1048576)
    (h : ∀ (X : Str) t' k, AllIs c X → lo ≤ X.length → X.length ≤ hi → Q (.str X t') { s with toks := k }) :
    wpAny (model prog w) A (binaryOp .Mult (.str a t) (.int i u)) Q E s := by
  subst ha
  refine KXi.mul (n := 1) rfl (by decide) (by omega) (by omega) ?_
  intro t' k _ hn
  have e := hn (by omega)
  exact h _ t' k (mul_all c i) (by omega) (by omega)

theorem mul_a {e : Int}
    (h : ∀ (X : Str) t' k, AllIs 97 X → 500 ≤ X.length → X.length ≤ 502 → Q (.str X t') { s with toks := k }) :
    wpAny (model prog w) A (binaryOp .Mult (.str (Str.ofString "a") t) (.int (500 + e.fmod 3) u)) Q E s := by
  have g0 := fmod_lo e (n := 3) (by decide)
  have g1 := fmod_hi e (n := 3) (by decide)
  exact mul_letter (c := 97) (lo := 500) (hi := 502) (by decide +kernel) (by omega) (by omega) (by decide) h

theorem mul_b {e : Int}
    (h : ∀ (X : Str) t' k, AllIs 98 X → X.length ≤ 502 → Q (.str X t') { s with toks := k }) :
    wpAny (model prog w) A (binaryOp .Mult (.str (Str.ofString "b") t) (.int (e.fmod 503) u)) Q E s := by
  have g0 := fmod_lo e (n := 503) (by decide)
  have g1 := fmod_hi e (n := 503) (by decide)
  exact mul_letter (c := 98) (lo := 0) (hi := 502) (by decide +kernel) (by omega) (by omega) (by decide) (fun X t' k hx _ h1 => h X t' k hx h1)
end

theorem apart {X Y : Str} (hX : AllIs 97 X) (hY : AllIs 98 Y) (h : 500 ≤ X.length) : X ≠ Y := by
  intro e
  subst e
  have hl : X.cps.toList.length = X.length := Array.length_toList
  cases hx : X.cps.toList with
  | nil => rw [hx] at hl; simp at hl; omega
  | cons d r =>
    have a := hX d (by rw [hx]; exact List.mem_cons_self)
    have b := hY d (by rw [hx]; exact List.mem_cons_self)
    omega

theorem isn_str {prog : Program} {w : World} {A : Around} {E : Value → Shared → Prop} {s : Shared} {Q : Value → Shared → Prop} {K : Frag} {C : Addr} {x : Str} {t : Tok}
    {h₀ : Heap} {L : Addr} {m : Str → Option Value} (X : K.In h₀) (F : Fr h₀ L s.heap m) (e : isNotIn K "str" C = true)
    (h : Q (.bool false) { s with toks := s.toks + 1 }) :
    wpAny (model prog w) A (call (.builtin "isinstance") [.str x t, .ref C]) Q E s :=
  isn_call (P := fun _ => True) (Frag.In.keeps X (Fr.keep F)) (fun _ => Looks.of_pure rfl) e (by intro e; cases e) trivial str_cls h
section
variable {prog : Program} {w : World} {A : Around} {E : Value → Shared → Prop} {s : Shared} {t u : Tok} {Q : Value → Shared → Prop}

theorem le_yes {a b : Int} (hab : a ≤ b) (h : Q (.bool true) s) : wpAny (model prog w) A (compareOp .LtE (.int a t) (.int b u)) Q E s :=
  PyProof.Rows.le_int (by rw [decide_eq_true hab]; exact h)
theorem le_yes_turned {a b c : Int} (hab : b + a ≤ c) (h : Q (.bool true) s) : wpAny (model prog w) A (compareOp .LtE (.int (a + b) t) (.int c u)) Q E s :=
  le_yes (by omega) h
theorem le_no {a b : Int} (hab : ¬ a ≤ b) (h : Q (.bool false) s) : wpAny (model prog w) A (compareOp .LtE (.int a t) (.int b u)) Q E s :=
  PyProof.Rows.le_int (by rw [decide_eq_false hab]; exact h)
theorem le_no_turned {a b c : Int} (hab : ¬ b + a ≤ c) (h : Q (.bool false) s) : wpAny (model prog w) A (compareOp .LtE (.int (a + b) t) (.int c u)) Q E s :=
  le_no (by omega) h
theorem eq_yes {x : Str} (h : Q (.bool true) s) : wpAny (model prog w) A (compareOp .Eq (.str x t) (.str x u)) Q E s :=
  PyProof.Rows.eq_str (by rw [show (x == x) = true from beq_self_eq_true x]; exact h)
theorem eq_no {x y : Str} (hx : AllIs 97 x) (hy : AllIs 98 y) (hl : 500 ≤ x.length) (h : Q (.bool false) s) :
    wpAny (model prog w) A (compareOp .Eq (.str x t) (.str y u)) Q E s :=
  PyProof.Rows.eq_str (by rw [show (x == y) = false from beq_eq_false_iff_ne.mpr (apart hx hy hl)]; exact h)
end
theorem ok_of {c : Nat} {x : Str} (hc : c < 0x110000) (h : AllIs c x) : PyData.strOk x = true := by
  unfold PyData.strOk
  rw [← Array.all_toList, List.all_eq_true]
  intro d hd
  rw [h d hd]
  exact decide_eq_true hc
theorem ok_both {x y : Str} (hx : PyData.strOk x = true) (hy : PyData.strOk y = true) : PyData.strOk (x ++ y) = true := by
  unfold PyData.strOk at hx hy ⊢
  rw [← Array.all_toList] at hx hy ⊢
  rw [Str.cps_append, Array.toList_append, List.all_append, hx, hy]
  rfl
theorem ok_ab {x y : Str} (hx : AllIs 97 x) (hy : AllIs 98 y) : PyData.strOk (x ++ y) = true := ok_both (ok_of (by decide) hx) (ok_of (by decide) hy)
theorem ok_ba {x y : Str} (hy : AllIs 98 y) (hx : AllIs 97 x) : PyData.strOk (y ++ x) = true := ok_both (ok_of (by decide) hy) (ok_of (by decide) hx)
theorem ne_pair {prog : Program} {w : World} {A : Around} {E : Value → Shared → Prop} {s : Shared} {Q : Value → Shared → Prop} {a b : Value} {x : Str} {as bs : List Addr}
    (ra : Reads s.heap a (.tuple [.bool true, .str x]) as) (rb : Reads s.heap b (.tuple [.bool true, .str x]) bs) (hx : PyData.strOk x = true) (hu : A.units + 64 < cLine)
    (h : Q (.bool false) s) : wpAny (model prog w) A (compareOp .NotEq a b) Q E s := by
  have sh : SeqAt.shaped (.tuple [.bool true, .str x]) = true := by
    simp [SeqAt.shaped, PyData.canLay0, PyData.canLayAll0, PyData.depth, PyData.depthAll, hx]
  refine ne_dataH ra rb sh sh hu ?_
  simpa [PyData.eqv, PyData.eqvAll] using h

/-! Two names held. The head would lay an own reading («tw..», with its equation «te..») of each of the two large tables of objects that it
writes out; the two equations alone are some 11 MB of the compiled file, whose lid is 32. Where the name stands already the head goes on
without that reading. Nothing else asks for these two. -/
def main.tw1158898438091847759 : Unit := ()
def main.tw11156056980113079860 : Unit := ()
end Mine

local macro_rules | `(tactic| walk_at "binaryOp Mult str int") => `(tactic| (k_here; first
  | ((with_reducible refine Mine.mul_a ?_); intro _ _ _ _ _ _)
  | ((with_reducible refine Mine.mul_b ?_); intro _ _ _ _ _)))
local macro_rules | `(tactic| walk_at "call builtin:isinstance") => `(tactic| (k_here; (with_reducible show wpAny _ _ (call _ [Value.str _ _, Value.ref _]) _ _ _); k_dflt (refine' Mine.isn_str ?k1 ?k2 ?k3 ?_; (case k1 => with_reducible assumption); (case k2 => with_reducible assumption); (case k3 => k_not); k_whole)))
local macro_rules | `(tactic| walk_at "compareOp LtE int int") => `(tactic| (k_here; first
  | with_reducible refine Mine.le_yes (by with_reducible assumption) ?_
  | with_reducible refine Mine.le_yes_turned (by with_reducible assumption) ?_
  | with_reducible refine Mine.le_no (by with_reducible assumption) ?_
  | with_reducible refine Mine.le_no_turned (by with_reducible assumption) ?_))
local macro_rules | `(tactic| walk_at "compareOp Eq str str") => `(tactic| (k_here; first
  | with_reducible refine Mine.eq_yes ?_
  | with_reducible refine Mine.eq_no (by with_reducible assumption) (by with_reducible assumption) (by with_reducible assumption) ?_))
local macro_rules | `(tactic| walk_at "subscriptTail List cons Slice ref ref") => `(tactic| (k_here; k_dflt (refine kba_turn (value' := PySem.Expr.Name (PySem.Str.ofString "_") ⟨0, 0, 0, 0⟩) (fun _ => rfl) ?_)))
local macro_rules | `(tactic| walk_at "subscriptTail Name Slice ref ref") => `(tactic| (k_here; (with_reducible show wpAny _ _ (subscriptTail _ (PySem.Expr.Slice (some _) none none _) (Value.ref _) (Value.ref _)) _ _ _); k_dflt (refine' kmk_slice_ints (ns := [500, 500]) ?F ?N ?l ?p ?q ?i ?m ?c ?_ ?s ?t ?z; (case F => k_asm); (case N => k_asm); (case l => kmk_list); (case p => exact IsPart.int _ _); (case q => exact IsPart.none); (case i => l_ints); (case m => exact kmk_from (by l_ints) (Int.natCast_nonneg _)); (case c => kmk_len); (case s => with_unfolding_all rfl); (case t => kmk_pure); (case z => kmk_size)); intro D' ws' h' F' N' l1 hI' hC' hL'; (try k_lt l1); (try k_sweep)))
local macro_rules | `(tactic| walk_at "compareOp NotEq ref ref") => `(tactic| (k_here; (with_reducible show wpAny _ _ (compareOp CmpOp.NotEq (Value.ref _) (Value.ref _)) _ _ _); k_dflt (first
  | refine Mine.ne_pair (by ked_read) (by ked_read) (Mine.ok_ab (by with_reducible assumption) (by with_reducible assumption)) (by ke_room) ?_
  | refine Mine.ne_pair (by ked_read) (by ked_read) (Mine.ok_ba (by with_reducible assumption) (by with_reducible assumption)) (by ke_room) ?_)))

set_option maxRecDepth 100000 in
set_option maxHeartbeats 8000000 in
theorem Mine.main : PySem.Challenge.rw_rg0177_01.Holds := by
  open_k

theorem PySem.Challenge.cw_rg0177_01_holds : PySem.Challenge.rw_rg0177_01.Holds := by
  exact Mine.main
