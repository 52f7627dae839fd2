/- Parts of a proof that share one text: StPlain, StSize, StWalk, StWalk2, StWalk3, AlPtr, StWalk4, StWalk5, StWalk6, StWalk7, StWalk8. -/
import Derived.Test.YthiknhmoefbanaaCLb
import Derived.Test.YthiknhmoefbanaaChecked
import Derived.Laws.Pointers

namespace Go.Hp
open Go.AL Go.Ch
section
variable {n : Nat} {p : Pg} {g : Gr} {r x dest : Int} {v : V} {d : Df} {args : List V}
theorem mem_at {α : Type} {l : List α} {q : Nat} {f : α} (h : l[q]? = some f) : f ∈ l := List.mem_of_getElem? h
theorem bdG_gr0 : BdG n gr0 := ⟨Nat.zero_le _, fun f hf => by simp [gr0] at hf⟩
theorem bdF_newF (hp : POK p) (h0 : 0 ≤ x) (h1 : x < (p.funcs.length : Int)) (ha : (args.length : Int) = (pfn p x).params) (h64 : 64 ≤ n) : BdF n (newF p x args dest) := by
  have h := hp.at_ h0 h1
  refine ⟨?_, Nat.zero_le _, fun e he => by simp [newF] at he⟩
  show (regsF args (pfn p x).regs.toNat).length ≤ n
  rw [regs_len (by omega)]
  omega
theorem bdG_enterF (hp : POK p) (hb : BdG n g) (h64 : 64 ≤ n) : BdG (n + 1) (enterF p g x args dest).1 := by
  unfold enterF
  split
  · exact bdG_gr0
  · rename_i h
    split
    · exact bdG_gr0
    · refine ⟨?_, fun f hf => ?_⟩
      · have := hb.frames; simp; omega
      · rcases List.mem_append.1 hf with hf | hf
        · exact (hb.each f hf).mono (Nat.le_succ n)
        · rw [List.mem_singleton] at hf
          subst hf
          exact bdF_newF hp (by omega) (by omega) (by omega) (by omega)
def OutBd (n k : Nat) : Out → Prop
  | .stop rs => rs.length ≤ k ∧ ∀ h ∈ rs, BdF n h
  | .call rs d => rs.length ≤ k ∧ (∀ h ∈ rs, BdF n h) ∧ d.args.length ≤ n
theorem out_bd : ∀ (m : Nat) (l : List Fm) (f : Fm), l.length = m → (∀ h ∈ l, BdF n h) → BdF n f → OutBd n (m + 1) (leaveG l f) := by
  intro m
  induction m with
  | zero =>
    intro l f hl hb hf
    rw [List.eq_nil_of_length_eq_zero hl, leaveG]
    split
    · exact ⟨Nat.le_refl _, fun h hh => by rw [List.mem_singleton] at hh; subst hh; exact hf⟩
    · split
      · rename_i d hd
        exact ⟨Nat.le_refl _, fun h hh => by rw [List.mem_singleton] at hh; subst hh; exact bdF_drop hf, hf.args d (mem_at hd)⟩
      · exact ⟨Nat.zero_le _, fun h hh => by simp at hh⟩
  | succ m ih =>
    intro l f hl hb hf
    match l, hl with
    | a :: t, hl =>
      have ht : t.length = m := by simpa using hl
      have hc : ∀ h ∈ a :: t, BdF n h := hb
      rw [leaveG]
      split
      · refine ⟨by simp; omega, fun h hh => ?_⟩
        rcases List.mem_cons.1 hh with rfl | hh
        · exact hf
        · exact hb h hh
      · split
        · rename_i d hd
          refine ⟨by simp; omega, fun h hh => ?_, hf.args d (mem_at hd)⟩
          rcases List.mem_cons.1 hh with rfl | hh
          · exact bdF_drop hf
          · exact hb h hh
        · have := ih t (ret1 f a) ht (fun h hh => hb h (List.mem_cons_of_mem _ hh)) (bdF_ret (hb a (List.mem_cons_self ..)))
          revert this
          cases leaveG t (ret1 f a) with
          | stop rs => exact fun h => ⟨by have := h.1; omega, h.2⟩
          | call rs d => exact fun h => ⟨by have := h.1; omega, h.2⟩
theorem bdG_leaveF (hp : POK p) (hb : BdG n g) (h64 : 64 ≤ n) : BdG (n + 1) (leaveF p g v) := by
  have hb' := hb.mono (Nat.le_succ n)
  unfold leaveF
  cases ht : topF g.frames with
  | none => exact hb'
  | some f =>
    have hf := hb.each f (mem_at (show g.frames[g.frames.length - 1]? = some f from ht))
    have h0 : g.frames.length - 1 < g.frames.length := (List.getElem?_eq_some_iff.1 (show g.frames[g.frames.length - 1]? = some f from ht)).1
    have ho := out_bd (n := n) _ (g.frames.take (g.frames.length - 1)).reverse (topL f v) rfl (fun h hh => hb.each h (List.mem_of_mem_take (List.mem_reverse.1 hh))) (bdF_topL hf)
    have hbf := hb.frames
    simp only
    revert ho
    cases leaveG (g.frames.take (g.frames.length - 1)).reverse (topL f v) with
    | stop rs =>
      intro ho
      obtain ⟨h1, h2⟩ := ho
      simp only [List.length_reverse, List.length_take] at h1
      exact ⟨by simp; omega, fun h hh => (h2 h (List.mem_reverse.1 hh)).mono (Nat.le_succ n)⟩
    | call rs d =>
      intro ho
      obtain ⟨h1, h2, h3⟩ := ho
      simp only [List.length_reverse, List.length_take] at h1
      have hg : BdG n { g with frames := rs.reverse } := ⟨by simp; omega, fun h hh => h2 h (List.mem_reverse.1 hh)⟩
      simp only
      split
      · exact bdG_enterF hp hg h64
      · exact ⟨(hg.mono (Nat.le_succ n)).frames, (hg.mono (Nat.le_succ n)).each⟩
end
end Go.Hp


namespace Go.Hp
open Go.AL Go.Ch
def szFm (f : Fm) : Nat := szL szV f.regs + szL szD f.defers + 9
def szGr (g : Gr) : Nat := szL szFm g.frames
def szIn (_ : In) : Nat := 1
def szFu (f : Fu) : Nat := szL szIn f.code
def szGl (_ : Gl) : Nat := 1
def szP (p : Pg) : Nat := szL szFu p.funcs + szL szGl p.globals + szL (szL szI) p.layouts
theorem many_le {α : Type} {sz : α → Nat} {k : Nat} (h : ∀ x, k ≤ sz x) : ∀ (l : List α), k * l.length ≤ (l.map sz).sum
  | [] => Nat.le_refl _
  | y :: l => by
    rw [List.map_cons, List.sum_cons, List.length_cons, Nat.mul_add, Nat.mul_one]
    have := h y
    have := many_le h l
    omega
theorem szFm_ge (f : Fm) : 11 ≤ szFm f := by unfold szFm szL; omega
theorem bdGr_of {n : Nat} {g : Gr} (h : szGr g ≤ n) : BdG n g := by
  have h2 := len_le (sz := szFm) (fun x => by have := szFm_ge x; omega) g.frames
  unfold szGr szL at h
  refine ⟨by omega, fun f hf => bdF_of ?_⟩
  have h3 := mem_le (sz := szFm) hf
  have h5 : szFm f = szF f + 9 := rfl
  omega
theorem frames_of {n : Nat} {g : Gr} (h : szGr g ≤ n) (hn : n ≤ 1048576) : g.frames.length ≤ 100000 := by
  have h2 := many_le szFm_ge g.frames
  unfold szGr szL at h
  omega
theorem bdP_of {n : Nat} {p : Pg} (h : szP p ≤ n) : BdPg n p := by
  have h1 := len_le (sz := szFu) (fun _ => by unfold szFu szL; omega) p.funcs
  have h2 := len_le (sz := szGl) (fun _ => Nat.le_refl _) p.globals
  have h3 := len_le (sz := szL szI) (fun _ => by unfold szL; omega) p.layouts
  unfold szP at h
  rw [szL, szL, szL.eq_1 (szL szI)] at h
  refine ⟨by omega, by omega, by omega, fun l hl => ?_, fun f hf => ?_⟩
  · have h4 := mem_le (sz := szL szI) hl
    have h5 := len_le (sz := szI) (fun _ => Nat.le_refl _) l
    unfold szL at h4
    unfold szL at h
    omega
  · have h4 := mem_le (sz := szFu) hf
    have h5 := len_le (sz := szIn) (fun _ => Nat.le_refl _) f.code
    have h6 : f.code.length ≤ szFu f := by unfold szFu szL; omega
    omega
theorem args_of {n : Nat} {l : List V} (h : szL szV l ≤ n) : l.length ≤ n := by
  have h1 := len_le (sz := szV) (fun _ => by unfold szV; omega) l
  unfold szL at h
  omega
end Go.Hp


set_option linter.unusedVariables false
set_option linter.unusedSimpArgs false
namespace Go.Proofs.Ythiknhmoefbanaa
open Go.AL Go.Ch Go.Hp Go.RowKit
theorem ag3 : aggB Try.prog 3 = some false := by kernel_rfl
theorem ag4 : aggB Try.prog 4 = some false := by kernel_rfl
theorem ag27 : aggB Try.prog 27 = some false := by kernel_rfl
theorem ag33 : aggB Try.prog 33 = some false := by kernel_rfl
theorem ag43 : aggB Try.prog 43 = some true := by kernel_rfl
theorem ag58 : aggB Try.prog 58 = some false := by kernel_rfl
theorem ag60 : aggB Try.prog 60 = some true := by kernel_rfl
theorem bo4 : Try.prog.underlying 4 = some .bool := by kernel_rfl
theorem by43 : bytesB Try.prog 43 = some 24 := by kernel_rfl
theorem by47 : bytesB Try.prog 47 = some 32 := by kernel_rfl
theorem by60 : bytesB Try.prog 60 = some 104 := by kernel_rfl
theorem el27 : elemB Try.prog 27 = some 60 := by kernel_rfl
theorem el33 : elemB Try.prog 33 = some 43 := by kernel_rfl
theorem el58 : elemB Try.prog 58 = some 47 := by kernel_rfl
theorem fl29_0 : fldB Try.prog 29 0 = some (0, 3) := by kernel_rfl
theorem fl29_1 : fldB Try.prog 29 1 = some (1, 3) := by kernel_rfl
theorem fl29_2 : fldB Try.prog 29 2 = some (2, 3) := by kernel_rfl
theorem fl29_3 : fldB Try.prog 29 3 = some (3, 27) := by kernel_rfl
theorem fl47_0 : fldB Try.prog 47 0 = some (0, 3) := by kernel_rfl
theorem fl47_1 : fldB Try.prog 47 1 = some (1, 33) := by kernel_rfl
theorem fl60_0 : fldB Try.prog 60 0 = some (0, 3) := by kernel_rfl
theorem fl60_1 : fldB Try.prog 60 1 = some (1, 3) := by kernel_rfl
theorem fl60_2 : fldB Try.prog 60 2 = some (2, 33) := by kernel_rfl
theorem fl60_3 : fldB Try.prog 60 3 = some (3, 3) := by kernel_rfl
theorem fl60_4 : fldB Try.prog 60 4 = some (4, 58) := by kernel_rfl
theorem fl60_5 : fldB Try.prog 60 5 = some (5, 4) := by kernel_rfl
theorem fl60_6 : fldB Try.prog 60 6 = some (6, 43) := by kernel_rfl
theorem fn39 : fnB Try.prog 39 = true := by kernel_rfl
theorem fn47 : fnB Try.prog 47 = true := by kernel_rfl
theorem mixed : Try.prog.follows .mixedOrders = true := by kernel_rfl
theorem sz3 : sizeB Try.prog 3 = some 1 := by kernel_rfl
theorem sz4 : sizeB Try.prog 4 = some 1 := by kernel_rfl
theorem sz27 : sizeB Try.prog 27 = some 1 := by kernel_rfl
theorem sz33 : sizeB Try.prog 33 = some 1 := by kernel_rfl
theorem sz43 : sizeB Try.prog 43 = some 3 := by kernel_rfl
theorem sz47 : sizeB Try.prog 47 = some 2 := by kernel_rfl
theorem sz58 : sizeB Try.prog 58 = some 1 := by kernel_rfl
theorem sz60 : sizeB Try.prog 60 = some 9 := by kernel_rfl
theorem ze43 : zeroB Try.prog 43 = some (some (.agg #[.int .i64 0, .int .i64 0, .int .i64 0])) := by kernel_rfl
theorem ze47 : zeroB Try.prog 47 = some (some (.agg #[.int .i64 0, .slice none 0 0])) := by kernel_rfl
theorem ze60 : zeroB Try.prog 60 = some (some (.agg #[.int .i64 0, .int .i64 0, .slice none 0 0, .int .i64 0, .slice none 0 0, .bool false, .int .i64 0, .int .i64 0, .int .i64 0])) := by kernel_rfl
theorem eqV (a b : V) : EqLaw Try.prog 43 (vv a) (vv b) (decide (a = b)) := (eqLaw_flat (ls := [.i .i64, .i .i64, .i .i64]) (by kernel_rfl) (by kernel_rfl) (by kernel_rfl) rfl rfl).to (decide_eq_decide.mpr (by
 obtain ⟨a1, a2, a3⟩ := a
 obtain ⟨b1, b2, b3⟩ := b
 simp [vv]))
theorem sameV_ok (xs ys : List V) (hx : xs.length ≤ 4000000) : FnP Try.prog 47 [slP vp 3 xs, slP vp 3 ys] (eqP (.bool (decide (xs = ys)))) := by
 refine fn_pure' Try.func47 rfl Try.ntmps47 rfl ?_
 intro σ0 M ex Rf R hC hO
 simp only [frameOf, tokOf]
 refine tr_seq ?_
 refine tr_region (fun N0 hN => ?_)
 refine lx (op_assign rfl) rfl ?_
 refine lx_end ⟨by kernel_rfl, ?_⟩
 refine pe_then_normal ?_
 refine tr_sub hC (.cons (t := 0) rfl (.cons (t := 1) rfl .nil)) .nil rfl ?_
 refine tr_seq ?_
 refine tr_seq ?_
 refine tr_region (fun N1 hN => ?_)
 refine lx (op_move rfl) rfl ?_
 first | refine lx (op_len rfl el33) rfl ?_ | refine lx (op_len_row rfl el33) rfl ?_ | refine lx (op_len_mv rfl el33) rfl ?_ | refine lx (op_len_nil rfl el33) rfl ?_
 refine lx (op_move rfl) rfl ?_
 first | refine lx (op_len rfl el33) rfl ?_ | refine lx (op_len_row rfl el33) rfl ?_ | refine lx (op_len_mv rfl el33) rfl ?_ | refine lx (op_len_nil rfl el33) rfl ?_
 refine lx (op_neq rfl rfl) rfl ?_
 refine lx_end ⟨by kernel_rfl, ?_⟩
 refine pe_then_normal ?_
 refine tr_sub hC (.cons (t := 0) rfl (.cons (t := 1) rfl (.cons (t := 10) rfl .nil))) .nil rfl ?_
 refine tr_cond rfl (fun h10 => ?_) (fun h10 => ?_)
 ·(try simp only [cq1, cq2, cq3, cq4, cq5, cq6, cq7, cq8, cq9, cq10, cq11, cq12, cq13] at h10)
  have hne : xs ≠ ys := fun e => h10 (by rw [e])
  refine tr_seq ?_
  refine tr_region (fun N2 hN => ?_)
  refine lx (op_assign rfl) rfl ?_
  refine lx_end ⟨by kernel_rfl, ?_⟩
  refine pe_then_normal ?_
  refine tr_sub hC (.cons (t := 4) rfl .nil) .nil rfl ?_
  refine tr_ret ?_
  refine pe_then_ret ?_
  refine pe_ret1 rfl hO rfl (.tmp rfl .nil) ?_
  exact entB (decide_eq_false hne).symm
 ·(try simp only [cq1, cq2, cq3, cq4, cq5, cq6, cq7, cq8, cq9, cq10, cq11, cq12, cq13] at h10)
  have hlen : xs.length = ys.length := by omega
  refine tr_skip ?_
  refine pe_then_normal ?_
  refine tr_sub hC (.cons (t := 0) rfl (.cons (t := 1) rfl .nil)) .nil rfl ?_
  refine tr_seq ?_
  refine tr_seq ?_
  refine tr_region (fun N3 hN => ?_)
  refine lx (op_assign rfl) rfl ?_
  refine lx_end ⟨by kernel_rfl, ?_⟩
  refine pe_then_normal ?_
  refine tr_sub hC (.cons (t := 0) rfl (.cons (t := 1) rfl (.cons (t := 5) rfl .nil))) .nil rfl ?_
  refine tr_block ?_
  refine tr_loopK (α := {zz : Nat // zz ≤ xs.length ∧ xs.take zz = ys.take zz}) (⟨(0), Nat.zero_le _, by simp⟩) (fun zz => [(5, eqP (.int .i64 (zz.1 : Int)))]) (fun zz => []) (fun zz => xs.length - zz.1) hC (.cons (t := 0) rfl (.cons (t := 1) rfl .nil)) .nil rfl ?_ ?_ (fun zz => ?_)
  ·try dsimp only [List.cons_append, List.nil_append]
   first | refine SubF.cons rfl ?_ | (refine SubF.ent rfl ?_ ?_; · exact ent_auto)
   exact SubF.nil
  ·try dsimp only [List.cons_append, List.nil_append]
   repeat (first | exact SubL.nil | refine SubL.cons rfl ?_)
  ·obtain ⟨k, hk1, hk2⟩ := zz
   dsimp only [List.cons_append, List.nil_append]
   refine tr_seq ?_
   refine tr_seq ?_
   refine tr_region (fun N4 hN => ?_)
   refine lx (op_move rfl) rfl ?_
   refine lx (op_move rfl) rfl ?_
   first | refine lx (op_len rfl el33) rfl ?_ | refine lx (op_len_row rfl el33) rfl ?_ | refine lx (op_len_mv rfl el33) rfl ?_ | refine lx (op_len_nil rfl el33) rfl ?_
   refine lx (op_lss rfl rfl) rfl ?_
   refine lx_end ⟨by kernel_rfl, ?_⟩
   refine pe_then_normal ?_
   refine tr_sub hC (.cons (t := 0) rfl (.cons (t := 1) rfl (.cons (t := 5) rfl (.cons (t := 14) rfl .nil)))) .nil rfl ?_
   refine tr_cond rfl (fun h14 => ?_) (fun h14 => ?_)
   ·(try simp only [cq1, cq2, cq3, cq4, cq5, cq6, cq7, cq8, cq9, cq10, cq11, cq12, cq13] at h14)
    refine tr_skip ?_
    refine pe_then_normal ?_
    refine tr_sub hC (.cons (t := 0) rfl (.cons (t := 1) rfl (.cons (t := 5) rfl .nil))) .nil rfl ?_
    refine tr_seq ?_
    refine tr_block ?_
    refine tr_seq ?_
    refine tr_drawn mixed (fun N6 hN => ?_)
    refine lx (op_move rfl) rfl ?_
    refine lx (op_move rfl) rfl ?_
    refine lx (op_index rfl rfl el33 sz43 rfl (List.getElem?_eq_getElem (by omega : k < xs.length))) rfl ?_
    first | refine lx (op_load_all rfl ag43 sz43) rfl ?_ | refine lx (op_load_agg rfl ag43 sz43 rfl) rfl ?_
    refine lx (op_move rfl) rfl ?_
    refine lx (op_move rfl) rfl ?_
    refine lx (op_index rfl rfl el33 sz43 rfl (List.getElem?_eq_getElem (by omega : k < ys.length))) rfl ?_
    first | refine lx (op_load_all rfl ag43 sz43) rfl ?_ | refine lx (op_load_agg rfl ag43 sz43 rfl) rfl ?_
    refine lx (op_neq_agg rfl rfl (eqV _ _)) rfl ?_
    refine lx_end ⟨by kernel_rfl, ?_⟩
    refine pe_then_normal ?_
    refine tr_sub hC (.cons (t := 0) rfl (.cons (t := 1) rfl (.cons (t := 5) rfl (.cons (t := 25) rfl .nil)))) .nil rfl ?_
    refine tr_cond rfl (fun h25 => ?_) (fun h25 => ?_)
    ·(try simp only [cq1, cq2, cq3, cq4, cq5, cq6, cq7, cq8, cq9, cq10, cq11, cq12, cq13] at h25)
     have hne : decide (xs = ys) = false := ne_at (by omega) (by omega) h25
     refine tr_seq ?_
     refine tr_region (fun N7 hN => ?_)
     refine lx (op_assign rfl) rfl ?_
     refine lx_end ⟨by kernel_rfl, ?_⟩
     refine pe_then_normal ?_
     refine tr_sub hC (.cons (t := 4) rfl .nil) .nil rfl ?_
     refine tr_ret ?_
     refine pe_block_ret ?_
     refine pe_then_ret ?_
     refine pe_then_ret ?_
     refine pe_block_ret ?_
     refine pe_then_ret ?_
     refine pe_ret1 rfl hO rfl (.tmp rfl .nil) ?_
     exact entB hne.symm
    ·(try simp only [cq1, cq2, cq3, cq4, cq5, cq6, cq7, cq8, cq9, cq10, cq11, cq12, cq13] at h25)
     refine tr_skip ?_
     refine pe_block_normal ?_
     refine pe_then_normal ?_
     refine tr_sub hC (.cons (t := 0) rfl (.cons (t := 1) rfl (.cons (t := 5) rfl .nil))) .nil rfl ?_
     refine tr_region (fun N5 hN => ?_)
     refine lx (op_move rfl) rfl ?_
     refine lx (op_add rfl rfl (by omega)) rfl ?_
     refine lx (op_assign rfl) rfl ?_
     refine lx_end ⟨by kernel_rfl, ?_⟩
     refine pe_round (⟨(k + 1), by omega, take_step hk2 (by omega) (by omega) (by simpa using h25)⟩) (by dsimp only; omega) (pe_st hC ?_ ?_ rfl)
     ·try dsimp only [List.cons_append, List.nil_append]
      first | refine SubF.cons rfl ?_ | (refine SubF.ent rfl ?_ ?_; · exact ent_auto)
      first | refine SubF.cons rfl ?_ | (refine SubF.ent rfl ?_ ?_; · exact ent_auto)
      first | refine SubF.cons rfl ?_ | (refine SubF.ent rfl ?_ ?_; · exact ent_auto)
      exact SubF.nil
     ·try dsimp only [List.cons_append, List.nil_append]
      repeat (first | exact SubL.nil | refine SubL.cons rfl ?_)
   ·(try simp only [cq1, cq2, cq3, cq4, cq5, cq6, cq7, cq8, cq9, cq10, cq11, cq12, cq13] at h14)
    have hk3 : k = xs.length := by omega
    refine tr_exit ?_
    refine pe_then_exit ?_
    refine pe_then_exit ?_
    refine pe_block_eq ?_
    refine pe_then_normal ?_
    refine tr_sub hC .nil .nil rfl ?_
    refine tr_seq ?_
    refine tr_region (fun N8 hN => ?_)
    refine lx (op_assign rfl) rfl ?_
    refine lx_end ⟨by kernel_rfl, ?_⟩
    refine pe_then_normal ?_
    refine tr_sub hC (.cons (t := 4) rfl .nil) .nil rfl ?_
    refine tr_ret ?_
    refine pe_ret1 rfl hO rfl (.tmp rfl .nil) ?_
    exact entB (decide_eq_true (take_end hk2 (by omega) (by omega))).symm
theorem sameF_ok (xs ys : List Fm) (hx : xs.length ≤ 4000000) (hb : ∀ f ∈ xs, BdF 4000000 f) : FnP Try.prog 39 [slP Fm.ps 9 xs, slP Fm.ps 9 ys] (eqP (.bool (decide (xs = ys)))) := by
 refine fn_pure' Try.func39 rfl Try.ntmps39 rfl ?_
 intro σ0 M ex Rf R hC hO
 simp only [frameOf, tokOf]
 refine tr_seq ?_
 refine tr_region (fun N0 hN => ?_)
 refine lx (op_assign rfl) rfl ?_
 refine lx_end ⟨by kernel_rfl, ?_⟩
 refine pe_then_normal ?_
 refine tr_sub hC (.cons (t := 0) rfl (.cons (t := 1) rfl .nil)) .nil rfl ?_
 refine tr_seq ?_
 refine tr_seq ?_
 refine tr_region (fun N1 hN => ?_)
 refine lx (op_move rfl) rfl ?_
 first | refine lx (op_len rfl el27) rfl ?_ | refine lx (op_len_row rfl el27) rfl ?_ | refine lx (op_len_mv rfl el27) rfl ?_ | refine lx (op_len_nil rfl el27) rfl ?_
 refine lx (op_move rfl) rfl ?_
 first | refine lx (op_len rfl el27) rfl ?_ | refine lx (op_len_row rfl el27) rfl ?_ | refine lx (op_len_mv rfl el27) rfl ?_ | refine lx (op_len_nil rfl el27) rfl ?_
 refine lx (op_neq rfl rfl) rfl ?_
 refine lx_end ⟨by kernel_rfl, ?_⟩
 refine pe_then_normal ?_
 refine tr_sub hC (.cons (t := 0) rfl (.cons (t := 1) rfl (.cons (t := 13) rfl .nil))) .nil rfl ?_
 refine tr_cond rfl (fun h13 => ?_) (fun h13 => ?_)
 ·(try simp only [cq1, cq2, cq3, cq4, cq5, cq6, cq7, cq8, cq9, cq10, cq11, cq12, cq13] at h13)
  have hne : xs ≠ ys := fun e => h13 (by rw [e])
  refine tr_seq ?_
  refine tr_region (fun N2 hN => ?_)
  refine lx (op_assign rfl) rfl ?_
  refine lx_end ⟨by kernel_rfl, ?_⟩
  refine pe_then_normal ?_
  refine tr_sub hC (.cons (t := 4) rfl .nil) .nil rfl ?_
  refine tr_ret ?_
  refine pe_then_ret ?_
  refine pe_ret1 rfl hO rfl (.tmp rfl .nil) ?_
  exact entB (decide_eq_false hne).symm
 ·(try simp only [cq1, cq2, cq3, cq4, cq5, cq6, cq7, cq8, cq9, cq10, cq11, cq12, cq13] at h13)
  have hlen : xs.length = ys.length := by omega
  refine tr_skip ?_
  refine pe_then_normal ?_
  refine tr_sub hC (.cons (t := 0) rfl (.cons (t := 1) rfl .nil)) .nil rfl ?_
  refine tr_seq ?_
  refine tr_seq ?_
  refine tr_region (fun N3 hN => ?_)
  refine lx (op_assign rfl) rfl ?_
  refine lx_end ⟨by kernel_rfl, ?_⟩
  refine pe_then_normal ?_
  refine tr_sub hC (.cons (t := 0) rfl (.cons (t := 1) rfl (.cons (t := 5) rfl .nil))) .nil rfl ?_
  refine tr_block ?_
  refine tr_loopK (α := {zz : Nat // zz ≤ xs.length ∧ xs.take zz = ys.take zz}) (⟨(0), Nat.zero_le _, by simp⟩) (fun zz => [(5, eqP (.int .i64 (zz.1 : Int)))]) (fun zz => []) (fun zz => xs.length - zz.1) hC (.cons (t := 0) rfl (.cons (t := 1) rfl .nil)) .nil rfl ?_ ?_ (fun zz => ?_)
  ·try dsimp only [List.cons_append, List.nil_append]
   first | refine SubF.cons rfl ?_ | (refine SubF.ent rfl ?_ ?_; · exact ent_auto)
   exact SubF.nil
  ·try dsimp only [List.cons_append, List.nil_append]
   repeat (first | exact SubL.nil | refine SubL.cons rfl ?_)
  ·obtain ⟨k, hk1, hk2⟩ := zz
   dsimp only [List.cons_append, List.nil_append]
   refine tr_seq ?_
   refine tr_seq ?_
   refine tr_region (fun N4 hN => ?_)
   refine lx (op_move rfl) rfl ?_
   refine lx (op_move rfl) rfl ?_
   first | refine lx (op_len rfl el27) rfl ?_ | refine lx (op_len_row rfl el27) rfl ?_ | refine lx (op_len_mv rfl el27) rfl ?_ | refine lx (op_len_nil rfl el27) rfl ?_
   refine lx (op_lss rfl rfl) rfl ?_
   refine lx_end ⟨by kernel_rfl, ?_⟩
   refine pe_then_normal ?_
   refine tr_sub hC (.cons (t := 0) rfl (.cons (t := 1) rfl (.cons (t := 5) rfl (.cons (t := 17) rfl .nil)))) .nil rfl ?_
   refine tr_cond rfl (fun h17 => ?_) (fun h17 => ?_)
   ·(try simp only [cq1, cq2, cq3, cq4, cq5, cq6, cq7, cq8, cq9, cq10, cq11, cq12, cq13] at h17)
    have hbk := hb _ (List.getElem_mem (by omega : k < xs.length))
    refine tr_skip ?_
    refine pe_then_normal ?_
    refine tr_sub hC (.cons (t := 0) rfl (.cons (t := 1) rfl (.cons (t := 5) rfl .nil))) .nil rfl ?_
    refine tr_seq ?_
    refine tr_block ?_
    refine tr_seq ?_
    refine tr_drawn mixed (fun N6 hN => ?_)
    refine lx (op_move rfl) rfl ?_
    refine lx (op_move rfl) rfl ?_
    refine lx (op_index rfl rfl el27 sz60 rfl (List.getElem?_eq_getElem (by omega : k < xs.length))) rfl ?_
    first | refine lx (op_load_all rfl ag60 sz60) rfl ?_ | refine lx (op_load_agg rfl ag60 sz60 rfl) rfl ?_
    refine lx (op_move rfl) rfl ?_
    refine lx (op_move rfl) rfl ?_
    refine lx (op_index rfl rfl el27 sz60 rfl (List.getElem?_eq_getElem (by omega : k < ys.length))) rfl ?_
    first | refine lx (op_load_all rfl ag60 sz60) rfl ?_ | refine lx (op_load_agg rfl ag60 sz60 rfl) rfl ?_
    refine lxn (op_alloc (m := 6) (k := 6) (ps := [eqP (.int .i64 0), eqP (.int .i64 0), eqP (.slice none 0 0), eqP (.int .i64 0), eqP (.slice none 0 0), eqP (.bool false), eqP (.int .i64 0), eqP (.int .i64 0), eqP (.int .i64 0)]) ze60 rfl rfl (by first | exact hC.low _ (by decide) | rfl)) rfl ?_
    refine lxn (op_alloc (m := 7) (k := 7) (ps := [eqP (.int .i64 0), eqP (.int .i64 0), eqP (.slice none 0 0), eqP (.int .i64 0), eqP (.slice none 0 0), eqP (.bool false), eqP (.int .i64 0), eqP (.int .i64 0), eqP (.int .i64 0)]) ze60 rfl rfl (by first | exact hC.low _ (by decide) | rfl)) rfl ?_
    refine lxr (op_store_all (m := 6) rfl rfl rfl (.agg rfl) sz60 rfl) rfl ?_
    refine lxr (op_store_all (m := 7) rfl rfl rfl (.agg rfl) sz60 rfl) rfl ?_
    refine lx_end ⟨by kernel_rfl, ?_⟩
    refine pe_then_normal ?_
    refine tr_sub hC (.cons (t := 0) rfl (.cons (t := 1) rfl (.cons (t := 5) rfl (.cons (t := 6) rfl (.cons (t := 7) rfl .nil))))) (.cons (t := 6) rfl (.cons (t := 7) rfl .nil)) rfl ?_
    refine tr_seq ?_
    refine tr_seq ?_
    refine tr_region (fun N7 hN => ?_)
    refine lx (op_fieldAddr rfl fl60_0 sz3) rfl ?_
    refine lx (op_bload_one (m := 6) rfl rfl ag3 rfl) rfl ?_
    refine lx (op_fieldAddr rfl fl60_0 sz3) rfl ?_
    refine lx (op_bload_one (m := 7) rfl rfl ag3 rfl) rfl ?_
    refine lx (op_neq rfl rfl) rfl ?_
    refine lx (op_move rfl) rfl ?_
    refine lxs rfl rfl rfl guard_eq (.cons (t := 6) rfl (fun _ => Ent.refl _) .nil) (op_fieldAddr rfl fl60_1 sz3) rfl ?_
    refine lxs rfl rfl rfl guard_eq (.cons (t := 34) rfl (fun h => entW h) .nil) (op_bload_one (m := 6) rfl rfl ag3 rfl) rfl ?_
    refine lxs rfl rfl rfl guard_eq (.cons (t := 7) rfl (fun _ => Ent.refl _) .nil) (op_fieldAddr rfl fl60_1 sz3) rfl ?_
    refine lxs rfl rfl rfl guard_eq (.cons (t := 36) rfl (fun h => entW h) .nil) (op_bload_one (m := 7) rfl rfl ag3 rfl) rfl ?_
    refine lxs rfl rfl rfl guard_eq (.cons (t := 35) rfl (fun h => entW h) (.cons (t := 37) rfl (fun h => entW h) .nil)) (op_neq rfl rfl) rfl ?_
    refine lx (op_pick_or rfl rfl) rfl ?_
    refine lx (op_move rfl) rfl ?_
    refine lxs rfl rfl rfl guard_eq (.cons (t := 6) rfl (fun _ => Ent.refl _) .nil) (op_fieldAddr rfl fl60_3 sz3) rfl ?_
    refine lxs rfl rfl rfl guard_eq (.cons (t := 41) rfl (fun h => entW h) .nil) (op_bload_one (m := 6) rfl rfl ag3 rfl) rfl ?_
    refine lxs rfl rfl rfl guard_eq (.cons (t := 7) rfl (fun _ => Ent.refl _) .nil) (op_fieldAddr rfl fl60_3 sz3) rfl ?_
    refine lxs rfl rfl rfl guard_eq (.cons (t := 43) rfl (fun h => entW h) .nil) (op_bload_one (m := 7) rfl rfl ag3 rfl) rfl ?_
    refine lxs rfl rfl rfl guard_eq (.cons (t := 42) rfl (fun h => entW h) (.cons (t := 44) rfl (fun h => entW h) .nil)) (op_neq rfl rfl) rfl ?_
    refine lx (op_pick_or rfl rfl) rfl ?_
    refine lx (op_move rfl) rfl ?_
    refine lxs rfl rfl rfl guard_eq (.cons (t := 6) rfl (fun _ => Ent.refl _) .nil) (op_fieldAddr rfl fl60_5 sz4) rfl ?_
    refine lxs rfl rfl rfl guard_eq (.cons (t := 48) rfl (fun h => entW h) .nil) (op_bload_one (m := 6) rfl rfl ag4 rfl) rfl ?_
    refine lxs rfl rfl rfl guard_eq (.cons (t := 7) rfl (fun _ => Ent.refl _) .nil) (op_fieldAddr rfl fl60_5 sz4) rfl ?_
    refine lxs rfl rfl rfl guard_eq (.cons (t := 50) rfl (fun h => entW h) .nil) (op_bload_one (m := 7) rfl rfl ag4 rfl) rfl ?_
    refine lxs rfl rfl rfl guard_eq (.cons (t := 49) rfl (fun h => entW h) (.cons (t := 51) rfl (fun h => entW h) .nil)) (op_neq_bool bo4 rfl rfl) rfl ?_
    refine lx (op_pick_or rfl rfl) rfl ?_
    refine lx (op_move rfl) rfl ?_
    refine lxs rfl rfl rfl guard_eq (.cons (t := 6) rfl (fun _ => Ent.refl _) .nil) (op_fieldAddr rfl fl60_6 sz43) rfl ?_
    refine lxs rfl rfl rfl guard_eq (.cons (t := 55) rfl (fun h => entW h) .nil) (op_bload_part (m := 6) (qs := [_, _, _]) rfl rfl ag43 sz43 rfl rfl) rfl ?_
    refine lxs rfl rfl rfl guard_eq (.cons (t := 7) rfl (fun _ => Ent.refl _) .nil) (op_fieldAddr rfl fl60_6 sz43) rfl ?_
    refine lxs rfl rfl rfl guard_eq (.cons (t := 57) rfl (fun h => entW h) .nil) (op_bload_part (m := 7) (qs := [_, _, _]) rfl rfl ag43 sz43 rfl rfl) rfl ?_
    refine lxs rfl rfl rfl guard_eq (.cons (t := 56) rfl (fun h => entW h) (.cons (t := 58) rfl (fun h => entW h) .nil)) (op_neq_agg rfl rfl (eqV xs[k].result (ys[k]'(by omega)).result)) rfl ?_
    refine lx (op_pick_or rfl rfl) rfl ?_
    refine lx (op_move rfl) rfl ?_
    refine lxs rfl rfl rfl guard_eq (.cons (t := 6) rfl (fun _ => Ent.refl _) .nil) (op_fieldAddr rfl fl60_2 sz33) rfl ?_
    refine lxs rfl rfl rfl guard_eq (.cons (t := 62) rfl (fun h => entW h) .nil) (op_bload_one (m := 6) rfl rfl ag33 rfl) rfl ?_
    refine lxs rfl rfl rfl guard_eq (.cons (t := 7) rfl (fun _ => Ent.refl _) .nil) (op_fieldAddr rfl fl60_2 sz33) rfl ?_
    refine lxs rfl rfl rfl guard_eq (.cons (t := 64) rfl (fun h => entW h) .nil) (op_bload_one (m := 7) rfl rfl ag33 rfl) rfl ?_
    first | refine lxs rfl rfl rfl guard_eq (.cons (t := 63) rfl (fun h => entW h) (.cons (t := 65) rfl (fun h => entW h) .nil)) (op_call (l := [(Go.Operand.tmp 63), (Go.Operand.tmp 65)]) (sameV_ok xs[k].regs (ys[k]'(by omega)).regs hbk.regs) (.cons rfl (.cons rfl .nil)) fn47) rfl ?_ | refine lxs rfl rfl rfl guard_eq (.cons (t := 63) rfl (fun h => entW h) (.cons (t := 65) rfl (fun h => entW h) .nil)) (op_call (l := [(Go.Operand.tmp 63), (Go.Operand.tmp 65)]) (sameV_ok xs[k].regs (ys[k]'(by omega)).regs hbk.regs) (.ent rfl (by exact ent_auto) (.ent rfl (by exact ent_auto) .nil)) fn47) rfl ?_
    first | refine lxs rfl rfl rfl guard_eq (.cons (t := 66) rfl (fun h => entW h) .nil) (op_not rfl) rfl ?_ | refine lxs rfl rfl rfl guard_eq (.cons (t := 66) rfl (fun h => entW h) .nil) (op_not_b rfl) rfl ?_
    refine lx (op_pick_or rfl rfl) rfl ?_
    refine lx (op_move rfl) rfl ?_
    refine lxs rfl rfl rfl guard_eq (.cons (t := 6) rfl (fun _ => Ent.refl _) .nil) (op_fieldAddr rfl fl60_4 sz58) rfl ?_
    refine lxs rfl rfl rfl guard_eq (.cons (t := 70) rfl (fun h => entW h) .nil) (op_bload_one (m := 6) rfl rfl ag58 rfl) rfl ?_
    first | refine lxs rfl rfl rfl guard_eq (.cons (t := 71) rfl (fun h => entW h) .nil) (op_len rfl el58) rfl ?_ | refine lxs rfl rfl rfl guard_eq (.cons (t := 71) rfl (fun h => entW h) .nil) (op_len_row rfl el58) rfl ?_ | refine lxs rfl rfl rfl guard_eq (.cons (t := 71) rfl (fun h => entW h) .nil) (op_len_mv rfl el58) rfl ?_ | refine lxs rfl rfl rfl guard_eq (.cons (t := 71) rfl (fun h => entW h) .nil) (op_len_nil rfl el58) rfl ?_
    refine lxs rfl rfl rfl guard_eq (.cons (t := 7) rfl (fun _ => Ent.refl _) .nil) (op_fieldAddr rfl fl60_4 sz58) rfl ?_
    refine lxs rfl rfl rfl guard_eq (.cons (t := 73) rfl (fun h => entW h) .nil) (op_bload_one (m := 7) rfl rfl ag58 rfl) rfl ?_
    first | refine lxs rfl rfl rfl guard_eq (.cons (t := 74) rfl (fun h => entW h) .nil) (op_len rfl el58) rfl ?_ | refine lxs rfl rfl rfl guard_eq (.cons (t := 74) rfl (fun h => entW h) .nil) (op_len_row rfl el58) rfl ?_ | refine lxs rfl rfl rfl guard_eq (.cons (t := 74) rfl (fun h => entW h) .nil) (op_len_mv rfl el58) rfl ?_ | refine lxs rfl rfl rfl guard_eq (.cons (t := 74) rfl (fun h => entW h) .nil) (op_len_nil rfl el58) rfl ?_
    refine lxs rfl rfl rfl guard_eq (.cons (t := 72) rfl (fun h => entW h) (.cons (t := 75) rfl (fun h => entW h) .nil)) (op_neq rfl rfl) rfl ?_
    refine lx (op_pick_or rfl rfl) rfl ?_
    refine lx_end ⟨by kernel_rfl, ?_⟩
    refine pe_then_normal ?_
    refine tr_sub hC (.cons (t := 0) rfl (.cons (t := 1) rfl (.cons (t := 5) rfl (.cons (t := 6) rfl (.cons (t := 7) rfl (.cons (t := 77) rfl .nil)))))) (.cons (t := 6) rfl (.cons (t := 7) rfl .nil)) rfl ?_
    refine tr_cond rfl (fun h77 => ?_) (fun h77 => ?_)
    ·have hne : decide (xs = ys) = false := ne_at (by omega) (by omega) (fm_ne1 h77)
     refine tr_seq ?_
     refine tr_region (fun N8 hN => ?_)
     refine lx (op_assign rfl) rfl ?_
     refine lx_end ⟨by kernel_rfl, ?_⟩
     refine pe_then_normal ?_
     refine tr_sub hC (.cons (t := 4) rfl .nil) .nil rfl ?_
     refine tr_ret ?_
     refine pe_then_ret ?_
     refine pe_block_ret ?_
     refine pe_then_ret ?_
     refine pe_then_ret ?_
     refine pe_block_ret ?_
     refine pe_then_ret ?_
     refine pe_ret1 rfl hO rfl (.tmp rfl .nil) ?_
     exact entB hne.symm
    ·have hhd := fm_ne2 h77
     have hdl : xs[k].defers.length = (ys[k]'(by omega)).defers.length := hhd.2
     have hbd := hbk.defers
     refine tr_skip ?_
     refine pe_then_normal ?_
     refine tr_sub hC (.cons (t := 0) rfl (.cons (t := 1) rfl (.cons (t := 5) rfl (.cons (t := 6) rfl (.cons (t := 7) rfl .nil))))) (.cons (t := 6) rfl (.cons (t := 7) rfl .nil)) rfl ?_
     refine tr_seq ?_
     refine tr_region (fun N9 hN => ?_)
     refine lx (op_assign rfl) rfl ?_
     refine lx_end ⟨by kernel_rfl, ?_⟩
     refine pe_then_normal ?_
     refine tr_sub hC (.cons (t := 0) rfl (.cons (t := 1) rfl (.cons (t := 5) rfl (.cons (t := 6) rfl (.cons (t := 7) rfl (.cons (t := 8) rfl .nil)))))) (.cons (t := 6) rfl (.cons (t := 7) rfl .nil)) rfl ?_
     refine tr_block ?_
     refine tr_loopK (α := {zz : Nat // zz ≤ xs[k].defers.length ∧ xs[k].defers.take zz = (ys[k]'(by omega)).defers.take zz}) (⟨(0), Nat.zero_le _, by simp⟩) (fun zz => [(8, eqP (.int .i64 (zz.1 : Int)))]) (fun zz => []) (fun zz => xs[k].defers.length - zz.1) hC (.cons (t := 0) rfl (.cons (t := 1) rfl (.cons (t := 5) rfl (.cons (t := 6) rfl (.cons (t := 7) rfl .nil))))) (.cons (t := 6) rfl (.cons (t := 7) rfl .nil)) rfl ?_ ?_ (fun zz => ?_)
     ·try dsimp only [List.cons_append, List.nil_append]
      first | refine SubF.cons rfl ?_ | (refine SubF.ent rfl ?_ ?_; · exact ent_auto)
      exact SubF.nil
     ·try dsimp only [List.cons_append, List.nil_append]
      repeat (first | exact SubL.nil | refine SubL.cons rfl ?_)
     ·obtain ⟨j, hj1, hj2⟩ := zz
      dsimp only [List.cons_append, List.nil_append]
      refine tr_seq ?_
      refine tr_seq ?_
      refine tr_region (fun N10 hN => ?_)
      refine lx (op_move rfl) rfl ?_
      refine lx (op_fieldAddr rfl fl60_4 sz58) rfl ?_
      refine lx (op_bload_one (m := 6) rfl rfl ag58 rfl) rfl ?_
      first | refine lx (op_len rfl el58) rfl ?_ | refine lx (op_len_row rfl el58) rfl ?_ | refine lx (op_len_mv rfl el58) rfl ?_ | refine lx (op_len_nil rfl el58) rfl ?_
      refine lx (op_lss rfl rfl) rfl ?_
      refine lx_end ⟨by kernel_rfl, ?_⟩
      refine pe_then_normal ?_
      refine tr_sub hC (.cons (t := 0) rfl (.cons (t := 1) rfl (.cons (t := 5) rfl (.cons (t := 6) rfl (.cons (t := 7) rfl (.cons (t := 8) rfl (.cons (t := 82) rfl .nil))))))) (.cons (t := 6) rfl (.cons (t := 7) rfl .nil)) rfl ?_
      refine tr_cond rfl (fun h82 => ?_) (fun h82 => ?_)
      ·(try simp only [cq1, cq2, cq3, cq4, cq5, cq6, cq7, cq8, cq9, cq10, cq11, cq12, cq13] at h82)
       refine tr_skip ?_
       refine pe_then_normal ?_
       refine tr_sub hC (.cons (t := 0) rfl (.cons (t := 1) rfl (.cons (t := 5) rfl (.cons (t := 6) rfl (.cons (t := 7) rfl (.cons (t := 8) rfl .nil)))))) (.cons (t := 6) rfl (.cons (t := 7) rfl .nil)) rfl ?_
       refine tr_seq ?_
       refine tr_block ?_
       refine tr_seq ?_
       refine tr_drawn mixed (fun N12 hN => ?_)
       refine lx (op_fieldAddr rfl fl60_4 sz58) rfl ?_
       refine lx (op_bload_one (m := 6) rfl rfl ag58 rfl) rfl ?_
       refine lx (op_move rfl) rfl ?_
       refine lx (op_index rfl rfl el58 sz47 rfl (List.getElem?_eq_getElem (by omega : j < xs[k].defers.length))) rfl ?_
       first | refine lx (op_fieldAddr rfl fl47_0 sz3) rfl ?_ | refine lx (op_fieldCells rfl fl47_0 sz3) rfl ?_
       first | refine lx (op_load_one rfl ag3 rfl) rfl ?_ | refine lx (op_bload_one (m := 6) rfl rfl ag3 rfl) rfl ?_ | refine lx (op_bload_one (m := 7) rfl rfl ag3 rfl) rfl ?_
       refine lx (op_fieldAddr rfl fl60_4 sz58) rfl ?_
       refine lx (op_bload_one (m := 7) rfl rfl ag58 rfl) rfl ?_
       refine lx (op_move rfl) rfl ?_
       refine lx (op_index rfl rfl el58 sz47 rfl (List.getElem?_eq_getElem (by omega : j < (ys[k]'(by omega)).defers.length))) rfl ?_
       first | refine lx (op_fieldAddr rfl fl47_0 sz3) rfl ?_ | refine lx (op_fieldCells rfl fl47_0 sz3) rfl ?_
       first | refine lx (op_load_one rfl ag3 rfl) rfl ?_ | refine lx (op_bload_one (m := 6) rfl rfl ag3 rfl) rfl ?_ | refine lx (op_bload_one (m := 7) rfl rfl ag3 rfl) rfl ?_
       refine lx (op_neq rfl rfl) rfl ?_
       refine lx (op_move rfl) rfl ?_
       refine lxs rfl rfl rfl guard_eq (.cons (t := 6) rfl (fun _ => Ent.refl _) .nil) (op_fieldAddr rfl fl60_4 sz58) rfl ?_
       refine lxs rfl rfl rfl guard_eq (.cons (t := 99) rfl (fun h => entW h) .nil) (op_bload_one (m := 6) rfl rfl ag58 rfl) rfl ?_
       refine lxs rfl rfl rfl guard_eq (.cons (t := 8) rfl (fun _ => Ent.refl _) .nil) (op_move rfl) rfl ?_
       refine lxs rfl rfl rfl guard_eq (.cons (t := 100) rfl (fun h => entW h) (.cons (t := 101) rfl (fun h => entW h) .nil)) (op_index rfl rfl el58 sz47 rfl (List.getElem?_eq_getElem (by omega : j < xs[k].defers.length))) rfl ?_
       first | refine lxs rfl rfl rfl guard_eq (.cons (t := 102) rfl (fun h => entW h) .nil) (op_fieldAddr rfl fl47_1 sz33) rfl ?_ | refine lxs rfl rfl rfl guard_eq (.cons (t := 102) rfl (fun h => entW h) .nil) (op_fieldCells rfl fl47_1 sz33) rfl ?_
       first | refine lxs rfl rfl rfl guard_eq (.cons (t := 103) rfl (fun h => entW h) .nil) (op_load_one rfl ag33 rfl) rfl ?_ | refine lxs rfl rfl rfl guard_eq (.cons (t := 103) rfl (fun h => entW h) .nil) (op_bload_one (m := 6) rfl rfl ag33 rfl) rfl ?_ | refine lxs rfl rfl rfl guard_eq (.cons (t := 103) rfl (fun h => entW h) .nil) (op_bload_one (m := 7) rfl rfl ag33 rfl) rfl ?_
       refine lxs rfl rfl rfl guard_eq (.cons (t := 7) rfl (fun _ => Ent.refl _) .nil) (op_fieldAddr rfl fl60_4 sz58) rfl ?_
       refine lxs rfl rfl rfl guard_eq (.cons (t := 105) rfl (fun h => entW h) .nil) (op_bload_one (m := 7) rfl rfl ag58 rfl) rfl ?_
       refine lxs rfl rfl rfl guard_eq (.cons (t := 8) rfl (fun _ => Ent.refl _) .nil) (op_move rfl) rfl ?_
       refine lxs rfl rfl rfl guard_eq (.cons (t := 106) rfl (fun h => entW h) (.cons (t := 107) rfl (fun h => entW h) .nil)) (op_index rfl rfl el58 sz47 rfl (List.getElem?_eq_getElem (by omega : j < (ys[k]'(by omega)).defers.length))) rfl ?_
       first | refine lxs rfl rfl rfl guard_eq (.cons (t := 108) rfl (fun h => entW h) .nil) (op_fieldAddr rfl fl47_1 sz33) rfl ?_ | refine lxs rfl rfl rfl guard_eq (.cons (t := 108) rfl (fun h => entW h) .nil) (op_fieldCells rfl fl47_1 sz33) rfl ?_
       first | refine lxs rfl rfl rfl guard_eq (.cons (t := 109) rfl (fun h => entW h) .nil) (op_load_one rfl ag33 rfl) rfl ?_ | refine lxs rfl rfl rfl guard_eq (.cons (t := 109) rfl (fun h => entW h) .nil) (op_bload_one (m := 6) rfl rfl ag33 rfl) rfl ?_ | refine lxs rfl rfl rfl guard_eq (.cons (t := 109) rfl (fun h => entW h) .nil) (op_bload_one (m := 7) rfl rfl ag33 rfl) rfl ?_
       first | refine lxs rfl rfl rfl guard_eq (.cons (t := 104) rfl (fun h => entW h) (.cons (t := 110) rfl (fun h => entW h) .nil)) (op_call (l := [(Go.Operand.tmp 104), (Go.Operand.tmp 110)]) (sameV_ok (xs[k].defers[j]'(by omega)).args ((ys[k]'(by omega)).defers[j]'(by omega)).args (hbk.args _ (List.getElem_mem ..))) (.cons rfl (.cons rfl .nil)) fn47) rfl ?_ | refine lxs rfl rfl rfl guard_eq (.cons (t := 104) rfl (fun h => entW h) (.cons (t := 110) rfl (fun h => entW h) .nil)) (op_call (l := [(Go.Operand.tmp 104), (Go.Operand.tmp 110)]) (sameV_ok (xs[k].defers[j]'(by omega)).args ((ys[k]'(by omega)).defers[j]'(by omega)).args (hbk.args _ (List.getElem_mem ..))) (.ent rfl (by exact ent_auto) (.ent rfl (by exact ent_auto) .nil)) fn47) rfl ?_
       first | refine lxs rfl rfl rfl guard_eq (.cons (t := 111) rfl (fun h => entW h) .nil) (op_not rfl) rfl ?_ | refine lxs rfl rfl rfl guard_eq (.cons (t := 111) rfl (fun h => entW h) .nil) (op_not_b rfl) rfl ?_
       refine lx (op_pick_or rfl rfl) rfl ?_
       refine lx_end ⟨by kernel_rfl, ?_⟩
       refine pe_then_normal ?_
       refine tr_sub hC (.cons (t := 0) rfl (.cons (t := 1) rfl (.cons (t := 5) rfl (.cons (t := 6) rfl (.cons (t := 7) rfl (.cons (t := 8) rfl (.cons (t := 113) rfl .nil))))))) (.cons (t := 6) rfl (.cons (t := 7) rfl .nil)) rfl ?_
       refine tr_cond rfl (fun h113 => ?_) (fun h113 => ?_)
       ·rw [df_ne] at h113
        have hdd : decide (xs[k].defers = (ys[k]'(by omega)).defers) = false := ne_at (by omega) (by omega) (of_decide_eq_true h113)
        have hkk : ¬ xs[k] = (ys[k]'(by omega)) := fun e => of_decide_eq_false hdd (congrArg Fm.defers e)
        have hne : decide (xs = ys) = false := ne_at (by omega) (by omega) hkk
        refine tr_seq ?_
        refine tr_region (fun N13 hN => ?_)
        refine lx (op_assign rfl) rfl ?_
        refine lx_end ⟨by kernel_rfl, ?_⟩
        refine pe_then_normal ?_
        refine tr_sub hC (.cons (t := 4) rfl .nil) .nil rfl ?_
        refine tr_ret ?_
        refine pe_block_ret ?_
        refine pe_then_ret ?_
        refine pe_then_ret ?_
        refine pe_block_ret ?_
        refine pe_block_ret ?_
        refine pe_then_ret ?_
        refine pe_then_ret ?_
        refine pe_block_ret ?_
        refine pe_then_ret ?_
        refine pe_ret1 rfl hO rfl (.tmp rfl .nil) ?_
        exact entB hne.symm
       ·rw [df_ne] at h113
        have hd : xs[k].defers[j]'(by omega) = (ys[k]'(by omega)).defers[j]'(by omega) := Decidable.not_not.1 (of_decide_eq_false h113)
        refine tr_skip ?_
        refine pe_block_normal ?_
        refine pe_then_normal ?_
        refine tr_sub hC (.cons (t := 0) rfl (.cons (t := 1) rfl (.cons (t := 5) rfl (.cons (t := 6) rfl (.cons (t := 7) rfl (.cons (t := 8) rfl .nil)))))) (.cons (t := 6) rfl (.cons (t := 7) rfl .nil)) rfl ?_
        refine tr_region (fun N11 hN => ?_)
        refine lx (op_move rfl) rfl ?_
        refine lx (op_add rfl rfl (by omega)) rfl ?_
        refine lx (op_assign rfl) rfl ?_
        refine lx_end ⟨by kernel_rfl, ?_⟩
        refine pe_round (⟨(j + 1), by omega, take_step hj2 (by omega) (by omega) hd⟩) (by dsimp only; omega) (pe_st hC ?_ ?_ rfl)
        ·try dsimp only [List.cons_append, List.nil_append]
         first | refine SubF.cons rfl ?_ | (refine SubF.ent rfl ?_ ?_; · exact ent_auto)
         first | refine SubF.cons rfl ?_ | (refine SubF.ent rfl ?_ ?_; · exact ent_auto)
         first | refine SubF.cons rfl ?_ | (refine SubF.ent rfl ?_ ?_; · exact ent_auto)
         first | refine SubF.cons rfl ?_ | (refine SubF.ent rfl ?_ ?_; · exact ent_auto)
         first | refine SubF.cons rfl ?_ | (refine SubF.ent rfl ?_ ?_; · exact ent_auto)
         first | refine SubF.cons rfl ?_ | (refine SubF.ent rfl ?_ ?_; · exact ent_auto)
         exact SubF.nil
        ·try dsimp only [List.cons_append, List.nil_append]
         repeat (first | exact SubL.nil | refine SubL.cons rfl ?_)
      ·(try simp only [cq1, cq2, cq3, cq4, cq5, cq6, cq7, cq8, cq9, cq10, cq11, cq12, cq13] at h82)
       have he : xs[k] = (ys[k]'(by omega)) := fm_of hhd.1 (take_end hj2 (by omega) (by omega))
       refine tr_exit ?_
       refine pe_then_exit ?_
       refine pe_then_exit ?_
       refine pe_block_eq ?_
       refine pe_block_normal ?_
       refine pe_then_normal ?_
       refine tr_sub hC (.cons (t := 0) rfl (.cons (t := 1) rfl (.cons (t := 5) rfl .nil))) .nil rfl ?_
       refine tr_region (fun N5 hN => ?_)
       refine lx (op_move rfl) rfl ?_
       refine lx (op_add rfl rfl (by omega)) rfl ?_
       refine lx (op_assign rfl) rfl ?_
       refine lx_end ⟨by kernel_rfl, ?_⟩
       refine pe_round (⟨(k + 1), by omega, take_step hk2 (by omega) (by omega) he⟩) (by dsimp only; omega) (pe_st hC ?_ ?_ rfl)
       ·try dsimp only [List.cons_append, List.nil_append]
        first | refine SubF.cons rfl ?_ | (refine SubF.ent rfl ?_ ?_; · exact ent_auto)
        first | refine SubF.cons rfl ?_ | (refine SubF.ent rfl ?_ ?_; · exact ent_auto)
        first | refine SubF.cons rfl ?_ | (refine SubF.ent rfl ?_ ?_; · exact ent_auto)
        exact SubF.nil
       ·try dsimp only [List.cons_append, List.nil_append]
        repeat (first | exact SubL.nil | refine SubL.cons rfl ?_)
   ·(try simp only [cq1, cq2, cq3, cq4, cq5, cq6, cq7, cq8, cq9, cq10, cq11, cq12, cq13] at h17)
    have hk3 : k = xs.length := by omega
    refine tr_exit ?_
    refine pe_then_exit ?_
    refine pe_then_exit ?_
    refine pe_block_eq ?_
    refine pe_then_normal ?_
    refine tr_sub hC .nil .nil rfl ?_
    refine tr_seq ?_
    refine tr_region (fun N14 hN => ?_)
    refine lx (op_assign rfl) rfl ?_
    refine lx_end ⟨by kernel_rfl, ?_⟩
    refine pe_then_normal ?_
    refine tr_sub hC (.cons (t := 4) rfl .nil) .nil rfl ?_
    refine tr_ret ?_
    refine pe_ret1 rfl hO rfl (.tmp rfl .nil) ?_
    exact entB (decide_eq_true (take_end hk2 (by omega) (by omega))).symm
theorem sameG_ok (a b : Gr) (hb : BdG 4000000 a) : FnP Try.prog 19 [aggP a.ps, aggP b.ps] (eqP (.bool (decide (a = b)))) := by
 refine fn_pure' Try.func19 rfl Try.ntmps19 rfl ?_
 intro σ0 M ex Rf R hC hO
 simp only [frameOf, tokOf]
 refine tr_seq ?_
 refine tr_region (fun N0 hN => ?_)
 refine lxn (op_box (m := 2) (k := 2) rfl (.agg rfl) (by first | exact hC.low _ (by decide) | rfl)) rfl ?_
 refine lxn (op_box (m := 3) (k := 3) rfl (.agg rfl) (by first | exact hC.low _ (by decide) | rfl)) rfl ?_
 refine lx (op_assign rfl) rfl ?_
 refine lx_end ⟨by kernel_rfl, ?_⟩
 refine pe_then_normal ?_
 refine tr_sub hC (.cons (t := 2) rfl (.cons (t := 3) rfl .nil)) (.cons (t := 2) rfl (.cons (t := 3) rfl .nil)) rfl ?_
 refine tr_seq ?_
 refine tr_region (fun N1 hN => ?_)
 refine lx (op_fieldAddr rfl fl29_0 sz3) rfl ?_
 refine lx (op_bload_one (m := 2) rfl rfl ag3 rfl) rfl ?_
 refine lx (op_fieldAddr rfl fl29_0 sz3) rfl ?_
 refine lx (op_bload_one (m := 3) rfl rfl ag3 rfl) rfl ?_
 refine lx (op_eql rfl rfl) rfl ?_
 refine lx (op_move rfl) rfl ?_
 refine lxs rfl rfl rfl guard_eq (.cons (t := 2) rfl (fun _ => Ent.refl _) .nil) (op_fieldAddr rfl fl29_1 sz3) rfl ?_
 refine lxs rfl rfl rfl guard_eq (.cons (t := 11) rfl (fun h => entW h) .nil) (op_bload_one (m := 2) rfl rfl ag3 rfl) rfl ?_
 refine lxs rfl rfl rfl guard_eq (.cons (t := 3) rfl (fun _ => Ent.refl _) .nil) (op_fieldAddr rfl fl29_1 sz3) rfl ?_
 refine lxs rfl rfl rfl guard_eq (.cons (t := 13) rfl (fun h => entW h) .nil) (op_bload_one (m := 3) rfl rfl ag3 rfl) rfl ?_
 refine lxs rfl rfl rfl guard_eq (.cons (t := 12) rfl (fun h => entW h) (.cons (t := 14) rfl (fun h => entW h) .nil)) (op_eql rfl rfl) rfl ?_
 refine lx (op_pick_and rfl rfl) rfl ?_
 refine lx (op_move rfl) rfl ?_
 refine lxs rfl rfl rfl guard_eq (.cons (t := 2) rfl (fun _ => Ent.refl _) .nil) (op_fieldAddr rfl fl29_2 sz3) rfl ?_
 refine lxs rfl rfl rfl guard_eq (.cons (t := 18) rfl (fun h => entW h) .nil) (op_bload_one (m := 2) rfl rfl ag3 rfl) rfl ?_
 refine lxs rfl rfl rfl guard_eq (.cons (t := 3) rfl (fun _ => Ent.refl _) .nil) (op_fieldAddr rfl fl29_2 sz3) rfl ?_
 refine lxs rfl rfl rfl guard_eq (.cons (t := 20) rfl (fun h => entW h) .nil) (op_bload_one (m := 3) rfl rfl ag3 rfl) rfl ?_
 refine lxs rfl rfl rfl guard_eq (.cons (t := 19) rfl (fun h => entW h) (.cons (t := 21) rfl (fun h => entW h) .nil)) (op_eql rfl rfl) rfl ?_
 refine lx (op_pick_and rfl rfl) rfl ?_
 refine lx (op_move rfl) rfl ?_
 refine lxs rfl rfl rfl guard_eq (.cons (t := 2) rfl (fun _ => Ent.refl _) .nil) (op_fieldAddr rfl fl29_3 sz27) rfl ?_
 refine lxs rfl rfl rfl guard_eq (.cons (t := 25) rfl (fun h => entW h) .nil) (op_bload_one (m := 2) rfl rfl ag27 rfl) rfl ?_
 refine lxs rfl rfl rfl guard_eq (.cons (t := 3) rfl (fun _ => Ent.refl _) .nil) (op_fieldAddr rfl fl29_3 sz27) rfl ?_
 refine lxs rfl rfl rfl guard_eq (.cons (t := 27) rfl (fun h => entW h) .nil) (op_bload_one (m := 3) rfl rfl ag27 rfl) rfl ?_
 first | refine lxs rfl rfl rfl guard_eq (.cons (t := 26) rfl (fun h => entW h) (.cons (t := 28) rfl (fun h => entW h) .nil)) (op_call (l := [(Go.Operand.tmp 26), (Go.Operand.tmp 28)]) (sameF_ok a.frames b.frames hb.frames hb.each) (.cons rfl (.cons rfl .nil)) fn39) rfl ?_ | refine lxs rfl rfl rfl guard_eq (.cons (t := 26) rfl (fun h => entW h) (.cons (t := 28) rfl (fun h => entW h) .nil)) (op_call (l := [(Go.Operand.tmp 26), (Go.Operand.tmp 28)]) (sameF_ok a.frames b.frames hb.frames hb.each) (.ent rfl (by exact ent_auto) (.ent rfl (by exact ent_auto) .nil)) fn39) rfl ?_
 refine lx (op_pick_and rfl rfl) rfl ?_
 refine lx (op_assign rfl) rfl ?_
 refine lx_end ⟨by kernel_rfl, ?_⟩
 refine pe_then_normal ?_
 refine tr_sub hC (.cons (t := 4) rfl .nil) .nil rfl ?_
 refine tr_ret ?_
 refine pe_ret1 rfl hO rfl (.tmp rfl .nil) ?_
 exact entB (gr_eq a b)
theorem vcl (xs : List V) (hx : xs.length ≤ 4000000) : FnP Try.prog 42 [slP vp 3 xs] (slP vp 3 xs) := by
 refine fn_pure' Try.func42 rfl Try.ntmps42 rfl ?_
 intro σ0 M ex Rf R hC hO
 simp only [frameOf, tokOf]
 refine tr_seq ?_
 refine tr_region (fun N0 hN => ?_)
 refine lx (op_assign rfl) rfl ?_
 refine lx_end ⟨by kernel_rfl, ?_⟩
 refine pe_then_normal ?_
 refine tr_sub hC (.cons (t := 0) rfl .nil) .nil rfl ?_
 refine tr_seq ?_
 refine tr_seq ?_
 refine tr_region (fun N1 hN => ?_)
 refine lx (op_move rfl) rfl ?_
 refine lx (op_eqnil rfl el33) rfl ?_
 refine lx_end ⟨by kernel_rfl, ?_⟩
 refine pe_then_normal ?_
 refine tr_sub hC (.cons (t := 0) rfl (.cons (t := 4) rfl .nil)) .nil rfl ?_
 refine tr_cond_b rfl (fun h4 => ?_) (fun h4 => ?_)
 ·(try simp only [cq1, cq2, cq3, cq4, cq5, cq6, cq7, cq8, cq9, cq10, cq11, cq12, cq13] at h4)
  have hxs : xs = [] := by first | exact h4 rfl | exact h4 trivial
  subst hxs
  refine tr_seq ?_
  refine tr_region (fun N2 hN => ?_)
  refine lx (op_assign rfl) rfl ?_
  refine lx_end ⟨by kernel_rfl, ?_⟩
  refine pe_then_normal ?_
  refine tr_sub hC (.cons (t := 2) rfl .nil) .nil rfl ?_
  refine tr_ret ?_
  refine pe_then_ret ?_
  refine pe_ret1 rfl hO rfl (.tmp rfl .nil) ?_
  exact ent_auto
 ·(try simp only [cq1, cq2, cq3, cq4, cq5, cq6, cq7, cq8, cq9, cq10, cq11, cq12, cq13] at h4)
  refine tr_skip ?_
  refine pe_then_normal ?_
  refine tr_sub hC (.cons (t := 0) rfl .nil) .nil rfl ?_
  refine tr_seq ?_
  refine tr_region (fun N3 hN => ?_)
  refine lxn (op_buildEmpty (m' := 5) (kk := 5) (f := vp) el33 sz43 (by first | exact hC.low _ (by decide) | rfl)) rfl ?_
  refine lx (op_move rfl) rfl ?_
  refine lxr (op_append (m := 5) (m' := 7) (kk := 7) rfl rfl rfl (.inr (by first | exact hC.low _ (by decide) | rfl)) el33 ze43 sz43 by43 rfl vp_len (by simp; omega) (by simp; omega)) rfl ?_
  refine lx (op_assign rfl) rfl ?_
  refine lx_end ⟨by kernel_rfl, ?_⟩
  refine pe_then_normal ?_
  refine tr_sub hC (.cons (t := 2) rfl .nil) (.cons (t := 7) rfl .nil) rfl ?_
  refine tr_ret ?_
  refine pe_ret1 rfl hO rfl (.tmp rfl .nil) ?_
  exact ent_auto
theorem fcl (xs : List Fm) (hx : xs.length ≤ 4000000) : FnOK Try.prog 45 [slP Fm.ps 9 xs] [] 1 (fun ι => mvP (ι 0) 9 0 xs.length xs.length) (fun ι => [(ι 0, blkX 9 60 (xs.flatMap Fm.ps))]) := by
 refine fn_ownN Try.func45 rfl Try.ntmps45 rfl ?_
 intro σ0 M Rf R hC hO
 simp only [frameOf, tokOf]
 refine tr_seq ?_
 refine tr_region (fun N0 hN => ?_)
 refine lx (op_assign rfl) rfl ?_
 refine lx_end ⟨by kernel_rfl, ?_⟩
 refine pe_then_normal ?_
 refine tr_sub hC (.cons (t := 0) rfl .nil) .nil rfl ?_
 refine tr_seq ?_
 refine tr_seq ?_
 refine tr_region (fun N1 hN => ?_)
 refine lx (op_move rfl) rfl ?_
 refine lx (op_eqnil rfl el27) rfl ?_
 refine lx_end ⟨by kernel_rfl, ?_⟩
 refine pe_then_normal ?_
 refine tr_sub hC (.cons (t := 0) rfl (.cons (t := 4) rfl .nil)) .nil rfl ?_
 refine tr_cond_b rfl (fun h4 => ?_) (fun h4 => ?_)
 ·(try simp only [cq1, cq2, cq3, cq4, cq5, cq6, cq7, cq8, cq9, cq10, cq11, cq12, cq13] at h4)
  have hxs : xs = [] := by first | exact h4 rfl | exact h4 trivial
  subst hxs
  refine tr_seq ?_
  refine tr_region (fun N2 hN => ?_)
  refine lx (op_assign rfl) rfl ?_
  refine lx_end ⟨by kernel_rfl, ?_⟩
  refine pe_then_normal ?_
  refine tr_sub hC (.cons (t := 2) rfl .nil) .nil rfl ?_
  refine tr_nilmv 9 60 2 600 rfl (by first | exact hC.low _ (by decide) | rfl) (fun idN => ?_)
  refine tr_ret ?_
  refine pe_then_ret ?_
  refine pe_ownS' [600] rfl hO rfl (.tmp rfl .nil) (.cons (m := 600) rfl (RenR.blk _ _ _) .nil) rfl rfl rfl ?_
  intro τ ι hs'
  refine ⟨?_, ?_⟩
  ·exact mv_ren (hs' 0 _ rfl).1 (hs' 0 _ rfl).2
  ·exact (.moved rfl (fun b o h => h) .nil)
 ·(try simp only [cq1, cq2, cq3, cq4, cq5, cq6, cq7, cq8, cq9, cq10, cq11, cq12, cq13] at h4)
  refine tr_skip ?_
  refine pe_then_normal ?_
  refine tr_sub hC (.cons (t := 0) rfl .nil) .nil rfl ?_
  refine tr_seq ?_
  refine tr_region (fun N3 hN => ?_)
  refine lxn (op_buildEmptyM (m' := 5) (kk := 5) el27 sz60 (by first | exact hC.low _ (by decide) | rfl)) rfl ?_
  refine lx (op_move rfl) rfl ?_
  refine lxr (op_append_t (m := 5) (m' := 5) (kk := 7) (f := Fm.ps) (xs := []) rfl rfl rfl (.inl rfl) el27 ze60 sz60 by60 rfl (by decide) Fm.len (by simp; omega) (by simp; omega)) rfl ?_
  refine lx (op_assign rfl) rfl ?_
  refine lx_end ⟨by kernel_rfl, ?_⟩
  refine pe_then_normal ?_
  refine tr_sub hC (.cons (t := 2) rfl .nil) (.cons (t := 5) rfl .nil) rfl ?_
  refine tr_ret ?_
  refine pe_ownS' [5] rfl hO rfl (.tmp rfl .nil) (.cons (m := 5) rfl (RenR.blk _ _ _) .nil) rfl rfl rfl ?_
  intro τ ι hs'
  refine ⟨?_, ?_⟩
  ·exact mv_ren (hs' 0 _ rfl).1 (hs' 0 _ rfl).2
  ·exact (.moved rfl (fun b o h => h) .nil)
theorem dcl (xs : List Df) (hx : xs.length ≤ 4000000) : FnOK Try.prog 46 [slP Df.ps 2 xs] [] 1 (fun ι => mvP (ι 0) 2 0 xs.length xs.length) (fun ι => [(ι 0, blkX 2 47 (xs.flatMap Df.ps))]) := by
 refine fn_ownN Try.func46 rfl Try.ntmps46 rfl ?_
 intro σ0 M Rf R hC hO
 simp only [frameOf, tokOf]
 refine tr_seq ?_
 refine tr_region (fun N0 hN => ?_)
 refine lx (op_assign rfl) rfl ?_
 refine lx_end ⟨by kernel_rfl, ?_⟩
 refine pe_then_normal ?_
 refine tr_sub hC (.cons (t := 0) rfl .nil) .nil rfl ?_
 refine tr_seq ?_
 refine tr_seq ?_
 refine tr_region (fun N1 hN => ?_)
 refine lx (op_move rfl) rfl ?_
 refine lx (op_eqnil rfl el58) rfl ?_
 refine lx_end ⟨by kernel_rfl, ?_⟩
 refine pe_then_normal ?_
 refine tr_sub hC (.cons (t := 0) rfl (.cons (t := 4) rfl .nil)) .nil rfl ?_
 refine tr_cond_b rfl (fun h4 => ?_) (fun h4 => ?_)
 ·(try simp only [cq1, cq2, cq3, cq4, cq5, cq6, cq7, cq8, cq9, cq10, cq11, cq12, cq13] at h4)
  have hxs : xs = [] := by first | exact h4 rfl | exact h4 trivial
  subst hxs
  refine tr_seq ?_
  refine tr_region (fun N2 hN => ?_)
  refine lx (op_assign rfl) rfl ?_
  refine lx_end ⟨by kernel_rfl, ?_⟩
  refine pe_then_normal ?_
  refine tr_sub hC (.cons (t := 2) rfl .nil) .nil rfl ?_
  refine tr_nilmv 2 47 2 600 rfl (by first | exact hC.low _ (by decide) | rfl) (fun idN => ?_)
  refine tr_ret ?_
  refine pe_then_ret ?_
  refine pe_ownS' [600] rfl hO rfl (.tmp rfl .nil) (.cons (m := 600) rfl (RenR.blk _ _ _) .nil) rfl rfl rfl ?_
  intro τ ι hs'
  refine ⟨?_, ?_⟩
  ·exact mv_ren (hs' 0 _ rfl).1 (hs' 0 _ rfl).2
  ·exact (.moved rfl (fun b o h => h) .nil)
 ·(try simp only [cq1, cq2, cq3, cq4, cq5, cq6, cq7, cq8, cq9, cq10, cq11, cq12, cq13] at h4)
  refine tr_skip ?_
  refine pe_then_normal ?_
  refine tr_sub hC (.cons (t := 0) rfl .nil) .nil rfl ?_
  refine tr_seq ?_
  refine tr_region (fun N3 hN => ?_)
  refine lxn (op_buildEmptyM (m' := 5) (kk := 5) el58 sz47 (by first | exact hC.low _ (by decide) | rfl)) rfl ?_
  refine lx (op_move rfl) rfl ?_
  refine lxr (op_append_t (m := 5) (m' := 5) (kk := 7) (f := Df.ps) (xs := []) rfl rfl rfl (.inl rfl) el58 ze47 sz47 by47 rfl (by decide) Df.len (by simp; omega) (by simp; omega)) rfl ?_
  refine lx (op_assign rfl) rfl ?_
  refine lx_end ⟨by kernel_rfl, ?_⟩
  refine pe_then_normal ?_
  refine tr_sub hC (.cons (t := 2) rfl .nil) (.cons (t := 5) rfl .nil) rfl ?_
  refine tr_ret ?_
  refine pe_ownS' [5] rfl hO rfl (.tmp rfl .nil) (.cons (m := 5) rfl (RenR.blk _ _ _) .nil) rfl rfl rfl ?_
  intro τ ι hs'
  refine ⟨?_, ?_⟩
  ·exact mv_ren (hs' 0 _ rfl).1 (hs' 0 _ rfl).2
  ·exact (.moved rfl (fun b o h => h) .nil)
theorem vcl_own (xs : List V) (hx : xs.length ≤ 4000000) : FnOK Try.prog 42 [slP vp 3 xs] [] 1 (fun ι => mvP (ι 0) 3 0 xs.length xs.length) (fun ι => [(ι 0, blkX 3 43 (xs.flatMap vp))]) := by
 refine fn_ownN Try.func42 rfl Try.ntmps42 rfl ?_
 intro σ0 M Rf R hC hO
 simp only [frameOf, tokOf]
 refine tr_seq ?_
 refine tr_region (fun N0 hN => ?_)
 refine lx (op_assign rfl) rfl ?_
 refine lx_end ⟨by kernel_rfl, ?_⟩
 refine pe_then_normal ?_
 refine tr_sub hC (.cons (t := 0) rfl .nil) .nil rfl ?_
 refine tr_seq ?_
 refine tr_seq ?_
 refine tr_region (fun N1 hN => ?_)
 refine lx (op_move rfl) rfl ?_
 refine lx (op_eqnil rfl el33) rfl ?_
 refine lx_end ⟨by kernel_rfl, ?_⟩
 refine pe_then_normal ?_
 refine tr_sub hC (.cons (t := 0) rfl (.cons (t := 4) rfl .nil)) .nil rfl ?_
 refine tr_cond_b rfl (fun h4 => ?_) (fun h4 => ?_)
 ·(try simp only [cq1, cq2, cq3, cq4, cq5, cq6, cq7, cq8, cq9, cq10, cq11, cq12, cq13] at h4)
  have hxs : xs = [] := by first | exact h4 rfl | exact h4 trivial
  subst hxs
  refine tr_seq ?_
  refine tr_region (fun N2 hN => ?_)
  refine lx (op_assign rfl) rfl ?_
  refine lx_end ⟨by kernel_rfl, ?_⟩
  refine pe_then_normal ?_
  refine tr_sub hC (.cons (t := 2) rfl .nil) .nil rfl ?_
  refine tr_nilmv 3 43 2 600 rfl (by first | exact hC.low _ (by decide) | rfl) (fun idN => ?_)
  refine tr_ret ?_
  refine pe_then_ret ?_
  refine pe_ownS' [600] rfl hO rfl (.tmp rfl .nil) (.cons (m := 600) rfl (RenR.blk _ _ _) .nil) rfl rfl rfl ?_
  intro τ ι hs'
  refine ⟨?_, ?_⟩
  ·exact mv_ren (hs' 0 _ rfl).1 (hs' 0 _ rfl).2
  ·exact (.moved rfl (fun b o h => h) .nil)
 ·(try simp only [cq1, cq2, cq3, cq4, cq5, cq6, cq7, cq8, cq9, cq10, cq11, cq12, cq13] at h4)
  refine tr_skip ?_
  refine pe_then_normal ?_
  refine tr_sub hC (.cons (t := 0) rfl .nil) .nil rfl ?_
  refine tr_seq ?_
  refine tr_region (fun N3 hN => ?_)
  refine lxn (op_buildEmptyM (m' := 5) (kk := 5) el33 sz43 (by first | exact hC.low _ (by decide) | rfl)) rfl ?_
  refine lx (op_move rfl) rfl ?_
  refine lxr (op_append_t (m := 5) (m' := 5) (kk := 7) (f := vp) (xs := []) rfl rfl rfl (.inl rfl) el33 ze43 sz43 by43 rfl (by decide) vp_len (by simp; omega) (by simp; omega)) rfl ?_
  refine lx (op_assign rfl) rfl ?_
  refine lx_end ⟨by kernel_rfl, ?_⟩
  refine pe_then_normal ?_
  refine tr_sub hC (.cons (t := 2) rfl .nil) (.cons (t := 5) rfl .nil) rfl ?_
  refine tr_ret ?_
  refine pe_ownS' [5] rfl hO rfl (.tmp rfl .nil) (.cons (m := 5) rfl (RenR.blk _ _ _) .nil) rfl rfl rfl ?_
  intro τ ι hs'
  refine ⟨?_, ?_⟩
  ·exact mv_ren (hs' 0 _ rfl).1 (hs' 0 _ rfl).2
  ·exact (.moved rfl (fun b o h => h) .nil)
end Go.Proofs.Ythiknhmoefbanaa


set_option linter.unusedVariables false
set_option linter.unusedSimpArgs false
namespace Go.Proofs.Ythiknhmoefbanaa
open Go.AL Go.Ch Go.Hp Go.RowKit
theorem ag29 : aggB Try.prog 29 = some true := by kernel_rfl
theorem ag47 : aggB Try.prog 47 = some true := by kernel_rfl
theorem fn42 : fnB Try.prog 42 = true := by kernel_rfl
theorem fn45 : fnB Try.prog 45 = true := by kernel_rfl
theorem fn46 : fnB Try.prog 46 = true := by kernel_rfl
theorem sz29 : sizeB Try.prog 29 = some 4 := by kernel_rfl
theorem ze29 : zeroB Try.prog 29 = some (some (.agg #[.int .i64 0, .int .i64 0, .int .i64 0, .slice none 0 0])) := by kernel_rfl
theorem set_same {α : Type} {xs : List α} {j : Nat} {z : α} (h : xs[j]? = some z) : xs.set j z = xs := by
 obtain ⟨hj, rfl⟩ := List.getElem?_eq_some_iff.1 h
 exact List.set_getElem_self hj
theorem set_at {α : Type} {xs : List α} {j : Nat} {z : α} (h : j < xs.length) : (xs.set j z)[j]? = some z := by simp [h]
section
variable {P : Program} {n N : Nat} {F : Fr} {R : Toks} {T Ty B : TypeId} {pos : String} {after : Array Edge} {m κ k : Nat} {id : AL.Id} {α : Type} {xs : List α} {f : α → List Pred}
/-- a store of what was there -/
theorem op_tstore_id {x y : Operand} {off j fo w : Nat} {z : α} {p : Pred} {qs : List Pred} (hx : opd F x = some (ptrP id off)) (hy : opd F y = some p) (hR : R m = some (id, blkX κ B (xs.flatMap f))) (hv : Val p qs) (hs : sizeB P Ty = some w) (hl : Nat.beq qs.length w = true)
  (hk : ∀ z, (f z).length = k) (hoff : off = j * k + fo) (hz : xs[j]? = some z) (hw : Nat.ble (fo + w) k = true) (hq : splice (f z) fo qs = f z) :
  OpJ P n N F R ⟨none, .store Ty x y, T, pos, after, none⟩ ⟨rdo x (ptrP id off) ++ rdo y p, [], [(m, id, blkX κ B (xs.flatMap f))], [(m, id, blkX κ B (xs.flatMap f))], [], eqP undef⟩ := by
 have h := op_tstore (P := P) (n := n) (N := N) (T := T) (pos := pos) (after := after) (z' := z) hx hy hR hv hs hl hk hoff hz hw hq
 rwa [set_same hz] at h
end
set_option maxHeartbeats 1000000 in
theorem own_fam (g : Gr) (hb : BdG 4000000 g) (hn : g.frames.length ≤ 100000) : FnOK Try.prog 38 [aggP g.ps] [] (2 * g.frames.length + 1) (fun ι => aggP (grM g g.frames.length (ι 0))) (fun ι => famProd 60 43 47 g ι) := by
 refine fn_ownN Try.func38 rfl Try.ntmps38 rfl ?_
 intro σ0 M Rf R hC hO
 have hC0 := hC
 simp only [frameOf, tokOf]
 refine tr_seq ?_
 refine tr_region (fun N0 hN => ?_)
 refine lxn (op_box (m := 1) (k := 1) rfl (.agg rfl) (by first | exact hC.low _ (by decide) | rfl)) rfl ?_
 refine lxn (op_alloc (m := 2) (k := 2) (ps := [eqP (.int .i64 0), eqP (.int .i64 0), eqP (.int .i64 0), eqP (.slice none 0 0)]) ze29 rfl rfl (by first | exact hC.low _ (by decide) | rfl)) rfl ?_
 refine lx_end ⟨by kernel_rfl, ?_⟩
 refine pe_then_normal ?_
 refine tr_sub hC (.cons (t := 1) rfl (.cons (t := 2) rfl .nil)) (.cons (t := 1) rfl (.cons (t := 2) rfl .nil)) rfl ?_
 refine tr_seq ?_
 refine tr_region (fun N1 hN => ?_)
 refine lx (op_fieldAddr rfl fl29_3 sz27) rfl ?_
 refine lx (op_bload_one (m := 1) rfl rfl ag27 rfl) rfl ?_
 first | refine lx_any rfl (op_callG2 (l := [(Go.Operand.tmp 8)]) (add := [(602, ((N1, 100090), blkX 9 60 (g.frames.flatMap Fm.ps)))]) (ks := [100090]) (φ := mvP (N1, 100090) 9 0 g.frames.length g.frames.length) .nil (fcl g.frames hb.frames) (.cons rfl .nil) fn45 rfl rfl rfl (.new (by first | exact hC.low _ (by decide) | rfl) .nil) rfl) (dOK_spec rfl) ?_ | refine lx_any rfl (op_callG2 (l := [(Go.Operand.tmp 8)]) (add := [(602, ((N1, 100090), blkX 9 60 (g.frames.flatMap Fm.ps)))]) (ks := [100090]) (φ := mvP (N1, 100090) 9 0 g.frames.length g.frames.length) .nil (fcl g.frames hb.frames) (.ent rfl (by exact ent_auto) .nil) fn45 rfl rfl rfl (.new (by first | exact hC.low _ (by decide) | rfl) .nil) rfl) (dOK_spec rfl) ?_
 refine lx (op_assign rfl) rfl ?_
 refine lx_end ⟨by kernel_rfl, ?_⟩
 refine pe_then_normal ?_
 refine tr_sub hC (.cons (t := 1) rfl (.cons (t := 2) rfl (.cons (t := 3) rfl .nil))) (.cons (t := 1) rfl (.cons (t := 2) rfl (.cons (t := 602) rfl .nil))) rfl ?_
 refine tr_seq ?_
 refine tr_seq ?_
 refine tr_region (fun N2 hN => ?_)
 refine lx (op_move rfl) rfl ?_
 first | refine lx (op_len rfl el27) rfl ?_ | refine lx (op_len_row rfl el27) rfl ?_ | refine lx (op_len_mv rfl el27) rfl ?_ | refine lx (op_len_nil rfl el27) rfl ?_
 refine lx (op_move rfl) rfl ?_
 refine lx_end ⟨by kernel_rfl, ?_⟩
 refine pe_then_normal ?_
 refine tr_sub hC (.cons (t := 1) rfl (.cons (t := 2) rfl (.cons (t := 3) rfl (.cons (t := 11) rfl (.cons (t := 12) rfl .nil))))) (.cons (t := 1) rfl (.cons (t := 2) rfl (.cons (t := 602) rfl .nil))) rfl ?_
 refine tr_block ?_
 refine tr_post (fun X hX => post_rowPs (n := 602) rfl ((famE_0 (ids := fun _ => (0, 0))).symm) hX) ?_
 refine tr_post (fun X hX => post_fam0 hC (fun _ => (0, 0)) (famR 43 47 g.frames) rfl hX) ?_
 have hC : CxOK (famC ⟨σ0, M, [], Rf, 62⟩ (0) (fun _ => (0, 0)) (famR 43 47 g.frames)) := famC_ok
 refine tr_loopKC (α := {zz : Nat × (Nat → AL.Id) // zz.1 ≤ g.frames.length}) (⟨(0, (fun _ => (0, 0))), Nat.zero_le _⟩) (fun zz => famC ⟨σ0, M, [], Rf, 62⟩ (2 * zz.1.1) (zz.1.2) (famR 43 47 g.frames)) (fun zz => [(12, eqP (.int .i64 (zz.1.1 : Int)))]) (fun zz => [(602, some ((N1, 100090), blkX 9 60 ((famE g.frames zz.1.2 (2 * zz.1.1)).flatMap fmE)))]) (fun zz => g.frames.length - zz.1.1) hC rfl (.cons (t := 1) rfl (.cons (t := 2) rfl (.cons (t := 3) rfl (.cons (t := 11) rfl .nil)))) (.cons (t := 1) rfl (.cons (t := 2) rfl .nil)) rfl ?_ ?_ (fun zz => ?_)
 ·try dsimp only [List.cons_append, List.nil_append]
  first | refine SubF.cons rfl ?_ | (refine SubF.ent rfl ?_ ?_; · exact ent_auto)
  exact SubF.nil
 ·try dsimp only [List.cons_append, List.nil_append]
  repeat (first | exact SubL.nil | refine SubL.cons rfl ?_)
 ·obtain ⟨⟨i, ids⟩, hi1⟩ := zz
  try dsimp only at hi1
  dsimp only [List.cons_append, List.nil_append]
  have hC : CxOK (famC ⟨σ0, M, [], Rf, 62⟩ (2 * i) (ids) (famR 43 47 g.frames)) := famC_ok
  refine tr_seq ?_
  refine tr_region (fun N3 hN => ?_)
  refine lx (op_lss rfl rfl) rfl ?_
  refine lx_end ⟨by kernel_rfl, ?_⟩
  refine pe_then_normal ?_
  refine tr_sub hC (.cons (t := 1) rfl (.cons (t := 2) rfl (.cons (t := 3) rfl (.cons (t := 11) rfl (.cons (t := 12) rfl (.cons (t := 13) rfl .nil)))))) (.cons (t := 602) rfl (.cons (t := 1) rfl (.cons (t := 2) rfl .nil))) rfl ?_
  refine tr_seq ?_
  refine tr_cond rfl (fun h13 => ?_) (fun h13 => ?_)
  ·(try simp only [cq1, cq2, cq3, cq4, cq5, cq6, cq7, cq8, cq9, cq10, cq11, cq12, cq13] at h13)
   have hfi := (List.getElem?_eq_getElem (by omega : i < g.frames.length))
   have hf0 := famE_at (ids := ids) hfi (Nat.le_refl (2 * i))
   have hbf := hb.each _ (List.getElem_mem (by omega : i < g.frames.length))
   have hbd := hbf.defers
   refine tr_skip ?_
   refine pe_then_normal ?_
   refine tr_sub hC (.cons (t := 1) rfl (.cons (t := 2) rfl (.cons (t := 3) rfl (.cons (t := 11) rfl (.cons (t := 12) rfl .nil))))) (.cons (t := 602) rfl (.cons (t := 1) rfl (.cons (t := 2) rfl .nil))) rfl ?_
   refine tr_seq ?_
   refine tr_block ?_
   refine tr_seq ?_
   refine tr_region (fun N4 hN => ?_)
   refine lx (op_move rfl) rfl ?_
   refine lx (op_assign rfl) rfl ?_
   refine lx_end ⟨by kernel_rfl, ?_⟩
   refine pe_then_normal ?_
   refine tr_sub hC (.cons (t := 1) rfl (.cons (t := 2) rfl (.cons (t := 3) rfl (.cons (t := 4) rfl (.cons (t := 11) rfl (.cons (t := 12) rfl .nil)))))) (.cons (t := 602) rfl (.cons (t := 1) rfl (.cons (t := 2) rfl .nil))) rfl ?_
   refine tr_seq ?_
   refine tr_region (fun N5 hN => ?_)
   refine lx (op_move rfl) rfl ?_
   refine lx (op_move rfl) rfl ?_
   refine lx (op_move rfl) rfl ?_
   refine lx (op_move rfl) rfl ?_
   refine lx (op_index_mv rfl rfl el27 sz60 rfl (by omega)) rfl ?_
   refine lx (op_fieldAddr rfl fl60_2 sz33) rfl ?_
   refine lx (op_tload_one (m := 602) (j := i) (fo := 2) rfl rfl ag33 fmE_len (by omega) hf0 rfl) rfl ?_
   first | refine lx_any rfl (op_callG2 (l := [(Go.Operand.tmp 21)]) (add := [(605, ((N5, 100220), blkX 3 43 (g.frames[i].regs.flatMap vp)))]) (ks := [100220]) (φ := mvP (N5, 100220) 3 0 g.frames[i].regs.length g.frames[i].regs.length) .nil (vcl_own g.frames[i].regs hbf.regs) (.cons rfl .nil) fn42 rfl rfl rfl (.new (by first | exact hC.low _ (by decide) | rfl) .nil) rfl) (dOK_spec rfl) ?_ | refine lx_any rfl (op_callG2 (l := [(Go.Operand.tmp 21)]) (add := [(605, ((N5, 100220), blkX 3 43 (g.frames[i].regs.flatMap vp)))]) (ks := [100220]) (φ := mvP (N5, 100220) 3 0 g.frames[i].regs.length g.frames[i].regs.length) .nil (vcl_own g.frames[i].regs hbf.regs) (.ent rfl (by exact ent_auto) .nil) fn42 rfl rfl rfl (.new (by first | exact hC.low _ (by decide) | rfl) .nil) rfl) (dOK_spec rfl) ?_
   refine lx (op_index_mv rfl rfl el27 sz60 rfl (by omega)) rfl ?_
   refine lx (op_fieldAddr rfl fl60_2 sz33) rfl ?_
   refine lxr (op_tstore (m := 602) (j := i) (fo := 2) (z' := ⟨g.frames[i], some (N5, 100220), none⟩) rfl rfl rfl (.one (by (first | exact One.eq rfl | exact One.mv _ _ _ _ _ | exact One.cl _ _ _ | exact One.map _ | exact One.sl _ _ _ | exact One.row _ _ _ _ | exact One.msl _ _ _ _ | exact One.ptr _ _ | exact One.b _ | exact One.cells _))) sz33 rfl fmE_len (by omega) hf0 rfl rfl) rfl ?_
   refine lx_end ⟨by kernel_rfl, ?_⟩
   refine pe_then_normal ?_
   refine tr_sub hC (.cons (t := 1) rfl (.cons (t := 2) rfl (.cons (t := 3) rfl (.cons (t := 4) rfl (.cons (t := 11) rfl (.cons (t := 12) rfl .nil)))))) (.cons (t := 602) rfl (.cons (t := 1) rfl (.cons (t := 2) rfl (.cons (t := 605) rfl .nil)))) rfl ?_
   refine tr_seq ?_
   refine tr_region (fun N6 hN => ?_)
   refine lx (op_move rfl) rfl ?_
   refine lx (op_move rfl) rfl ?_
   refine lx (op_move rfl) rfl ?_
   refine lx (op_move rfl) rfl ?_
   refine lx (op_index_mv rfl rfl el27 sz60 rfl (by omega)) rfl ?_
   refine lx (op_fieldAddr rfl fl60_4 sz58) rfl ?_
   refine lx (op_tload_one (m := 602) (j := i) (fo := 4) rfl rfl ag58 fmE_len (by omega) (set_at (by rw [famE_len]; omega)) rfl) rfl ?_
   first | refine lx_any rfl (op_callG2 (l := [(Go.Operand.tmp 31)]) (add := [(606, ((N6, 100320), blkX 2 47 (g.frames[i].defers.flatMap Df.ps)))]) (ks := [100320]) (φ := mvP (N6, 100320) 2 0 g.frames[i].defers.length g.frames[i].defers.length) .nil (dcl g.frames[i].defers hbf.defers) (.cons rfl .nil) fn46 rfl rfl rfl (.new (by first | exact hC.low _ (by decide) | rfl) .nil) rfl) (dOK_spec rfl) ?_ | refine lx_any rfl (op_callG2 (l := [(Go.Operand.tmp 31)]) (add := [(606, ((N6, 100320), blkX 2 47 (g.frames[i].defers.flatMap Df.ps)))]) (ks := [100320]) (φ := mvP (N6, 100320) 2 0 g.frames[i].defers.length g.frames[i].defers.length) .nil (dcl g.frames[i].defers hbf.defers) (.ent rfl (by exact ent_auto) .nil) fn46 rfl rfl rfl (.new (by first | exact hC.low _ (by decide) | rfl) .nil) rfl) (dOK_spec rfl) ?_
   refine lx (op_index_mv rfl rfl el27 sz60 rfl (by omega)) rfl ?_
   refine lx (op_fieldAddr rfl fl60_4 sz58) rfl ?_
   refine lxr (op_tstore (m := 602) (j := i) (fo := 4) (z' := ⟨g.frames[i], some (N5, 100220), some (N6, 100320)⟩) rfl rfl rfl (.one (by (first | exact One.eq rfl | exact One.mv _ _ _ _ _ | exact One.cl _ _ _ | exact One.map _ | exact One.sl _ _ _ | exact One.row _ _ _ _ | exact One.msl _ _ _ _ | exact One.ptr _ _ | exact One.b _ | exact One.cells _))) sz58 rfl fmE_len (by omega) (set_at (by rw [famE_len]; omega)) rfl rfl) rfl ?_
   refine lx_end ⟨by kernel_rfl, ?_⟩
   refine pe_then_normal ?_
   refine tr_sub hC (.cons (t := 1) rfl (.cons (t := 2) rfl (.cons (t := 3) rfl (.cons (t := 4) rfl (.cons (t := 11) rfl (.cons (t := 12) rfl .nil)))))) (.cons (t := 602) rfl (.cons (t := 1) rfl (.cons (t := 2) rfl (.cons (t := 605) rfl (.cons (t := 606) rfl .nil))))) rfl ?_
   refine tr_seq ?_
   refine tr_region (fun N7 hN => ?_)
   refine lx (op_move rfl) rfl ?_
   refine lx (op_move rfl) rfl ?_
   refine lx (op_index_mv rfl rfl el27 sz60 rfl (by omega)) rfl ?_
   refine lx (op_fieldAddr rfl fl60_4 sz58) rfl ?_
   refine lx (op_tload_one (m := 602) (j := i) (fo := 4) rfl rfl ag58 fmE_len (by omega) (set_at (by rw [List.length_set, famE_len]; omega)) rfl) rfl ?_
   first | refine lx (op_len rfl el58) rfl ?_ | refine lx (op_len_row rfl el58) rfl ?_ | refine lx (op_len_mv rfl el58) rfl ?_ | refine lx (op_len_nil rfl el58) rfl ?_
   refine lx (op_move rfl) rfl ?_
   refine lx_end ⟨by kernel_rfl, ?_⟩
   refine pe_then_normal ?_
   refine tr_sub hC (.cons (t := 1) rfl (.cons (t := 2) rfl (.cons (t := 3) rfl (.cons (t := 4) rfl (.cons (t := 11) rfl (.cons (t := 12) rfl (.cons (t := 39) rfl (.cons (t := 40) rfl (.cons (t := 41) rfl .nil))))))))) (.cons (t := 602) rfl (.cons (t := 1) rfl (.cons (t := 2) rfl (.cons (t := 605) rfl (.cons (t := 606) rfl .nil))))) rfl ?_
   refine tr_block ?_
   refine tr_loopK (α := {zz : Nat // zz ≤ g.frames[i].defers.length}) (⟨(0), Nat.zero_le _⟩) (fun zz => [(41, eqP (.int .i64 (zz.1 : Int)))]) (fun zz => []) (fun zz => g.frames[i].defers.length - zz.1) hC (.cons (t := 1) rfl (.cons (t := 2) rfl (.cons (t := 3) rfl (.cons (t := 4) rfl (.cons (t := 11) rfl (.cons (t := 12) rfl (.cons (t := 39) rfl (.cons (t := 40) rfl .nil)))))))) (.cons (t := 602) rfl (.cons (t := 1) rfl (.cons (t := 2) rfl (.cons (t := 605) rfl (.cons (t := 606) rfl .nil))))) rfl ?_ ?_ (fun zz => ?_)
   ·try dsimp only [List.cons_append, List.nil_append]
    first | refine SubF.cons rfl ?_ | (refine SubF.ent rfl ?_ ?_; · exact ent_auto)
    exact SubF.nil
   ·try dsimp only [List.cons_append, List.nil_append]
    repeat (first | exact SubL.nil | refine SubL.cons rfl ?_)
   ·obtain ⟨q, hq1⟩ := zz
    dsimp only [List.cons_append, List.nil_append]
    refine tr_seq ?_
    refine tr_region (fun N8 hN => ?_)
    refine lx (op_lss rfl rfl) rfl ?_
    refine lx_end ⟨by kernel_rfl, ?_⟩
    refine pe_then_normal ?_
    refine tr_sub hC (.cons (t := 1) rfl (.cons (t := 2) rfl (.cons (t := 3) rfl (.cons (t := 4) rfl (.cons (t := 11) rfl (.cons (t := 12) rfl (.cons (t := 39) rfl (.cons (t := 40) rfl (.cons (t := 41) rfl (.cons (t := 42) rfl .nil)))))))))) (.cons (t := 602) rfl (.cons (t := 1) rfl (.cons (t := 2) rfl (.cons (t := 605) rfl (.cons (t := 606) rfl .nil))))) rfl ?_
    refine tr_seq ?_
    refine tr_cond rfl (fun h42 => ?_) (fun h42 => ?_)
    ·(try simp only [cq1, cq2, cq3, cq4, cq5, cq6, cq7, cq8, cq9, cq10, cq11, cq12, cq13] at h42)
     refine tr_skip ?_
     refine pe_then_normal ?_
     refine tr_sub hC (.cons (t := 1) rfl (.cons (t := 2) rfl (.cons (t := 3) rfl (.cons (t := 4) rfl (.cons (t := 11) rfl (.cons (t := 12) rfl (.cons (t := 39) rfl (.cons (t := 40) rfl (.cons (t := 41) rfl .nil))))))))) (.cons (t := 602) rfl (.cons (t := 1) rfl (.cons (t := 2) rfl (.cons (t := 605) rfl (.cons (t := 606) rfl .nil))))) rfl ?_
     refine tr_seq ?_
     refine tr_block ?_
     refine tr_seq ?_
     refine tr_region (fun N9 hN => ?_)
     refine lx (op_move rfl) rfl ?_
     refine lx (op_index_mv rfl rfl el58 sz47 rfl (show q < g.frames[i].defers.length by omega)) rfl ?_
     refine lx (op_tload (m := 606) (j := q) (fo := 0) rfl rfl ag47 sz47 Df.len (by omega) (List.getElem?_eq_getElem (by omega : q < g.frames[i].defers.length)) rfl rfl) rfl ?_
     refine lxn (op_alloc (m := 6) (k := 6) (ps := [eqP (.int .i64 0), eqP (.slice none 0 0)]) ze47 rfl rfl (by first | exact hC.low _ (by decide) | rfl)) rfl ?_
     refine lx (op_assign rfl) rfl ?_
     refine lxr (op_store_all (m := 6) rfl rfl rfl (.agg rfl) sz47 rfl) rfl ?_
     refine lx_end ⟨by kernel_rfl, ?_⟩
     refine pe_then_normal ?_
     refine tr_sub hC (.cons (t := 1) rfl (.cons (t := 2) rfl (.cons (t := 3) rfl (.cons (t := 4) rfl (.cons (t := 5) rfl (.cons (t := 6) rfl (.cons (t := 11) rfl (.cons (t := 12) rfl (.cons (t := 39) rfl (.cons (t := 40) rfl (.cons (t := 41) rfl .nil))))))))))) (.cons (t := 602) rfl (.cons (t := 1) rfl (.cons (t := 2) rfl (.cons (t := 605) rfl (.cons (t := 606) rfl (.cons (t := 6) rfl .nil)))))) rfl ?_
     refine tr_drawn mixed (fun N10 hN => ?_)
     refine lx (op_move rfl) rfl ?_
     refine lx (op_move rfl) rfl ?_
     refine lx (op_index_mv rfl rfl el27 sz60 rfl (by omega)) rfl ?_
     refine lx (op_fieldAddr rfl fl60_4 sz58) rfl ?_
     refine lx (op_tload_one (m := 602) (j := i) (fo := 4) rfl rfl ag58 fmE_len (by omega) (set_at (by rw [List.length_set, famE_len]; omega)) rfl) rfl ?_
     refine lx (op_move rfl) rfl ?_
     refine lx (op_fieldAddr rfl fl47_1 sz33) rfl ?_
     refine lx (op_bload_one (m := 6) rfl rfl ag33 rfl) rfl ?_
     first | refine lx (op_call (l := [(Go.Operand.tmp 53)]) (vcl g.frames[i].defers[q].args (hbf.args _ (List.getElem_mem ..))) (.cons rfl .nil) fn42) rfl ?_ | refine lx (op_call (l := [(Go.Operand.tmp 53)]) (vcl g.frames[i].defers[q].args (hbf.args _ (List.getElem_mem ..))) (.ent rfl (by exact ent_auto) .nil) fn42) rfl ?_
     refine lx (op_index_mv rfl rfl el58 sz47 rfl (show q < g.frames[i].defers.length by omega)) rfl ?_
     refine lx (op_fieldAddr rfl fl47_1 sz33) rfl ?_
     refine lxr (op_tstore_id (m := 606) (j := q) (fo := 1) (z := g.frames[i].defers[q]) rfl rfl rfl (.one (by (first | exact One.eq rfl | exact One.mv _ _ _ _ _ | exact One.cl _ _ _ | exact One.map _ | exact One.sl _ _ _ | exact One.row _ _ _ _ | exact One.msl _ _ _ _ | exact One.ptr _ _ | exact One.b _ | exact One.cells _))) sz33 rfl Df.len (by omega) (List.getElem?_eq_getElem (by omega : q < g.frames[i].defers.length)) rfl rfl) rfl ?_
     refine lx_end ⟨by kernel_rfl, ?_⟩
     refine pe_block_normal ?_
     refine pe_then_normal ?_
     refine tr_sub hC (.cons (t := 1) rfl (.cons (t := 2) rfl (.cons (t := 3) rfl (.cons (t := 4) rfl (.cons (t := 11) rfl (.cons (t := 12) rfl (.cons (t := 39) rfl (.cons (t := 40) rfl (.cons (t := 41) rfl .nil))))))))) (.cons (t := 602) rfl (.cons (t := 1) rfl (.cons (t := 2) rfl (.cons (t := 605) rfl (.cons (t := 606) rfl .nil))))) rfl ?_
     refine tr_region (fun N11 hN => ?_)
     refine lx (op_add rfl rfl (by omega)) rfl ?_
     refine lx (op_move rfl) rfl ?_
     refine lx_end ⟨by kernel_rfl, ?_⟩
     refine pe_round (⟨(q + 1), by omega⟩) (by dsimp only; omega) (pe_st hC ?_ ?_ rfl)
     ·try dsimp only [List.cons_append, List.nil_append]
      first | refine SubF.cons rfl ?_ | (refine SubF.ent rfl ?_ ?_; · exact ent_auto)
      first | refine SubF.cons rfl ?_ | (refine SubF.ent rfl ?_ ?_; · exact ent_auto)
      first | refine SubF.cons rfl ?_ | (refine SubF.ent rfl ?_ ?_; · exact ent_auto)
      first | refine SubF.cons rfl ?_ | (refine SubF.ent rfl ?_ ?_; · exact ent_auto)
      first | refine SubF.cons rfl ?_ | (refine SubF.ent rfl ?_ ?_; · exact ent_auto)
      first | refine SubF.cons rfl ?_ | (refine SubF.ent rfl ?_ ?_; · exact ent_auto)
      first | refine SubF.cons rfl ?_ | (refine SubF.ent rfl ?_ ?_; · exact ent_auto)
      first | refine SubF.cons rfl ?_ | (refine SubF.ent rfl ?_ ?_; · exact ent_auto)
      first | refine SubF.cons rfl ?_ | (refine SubF.ent rfl ?_ ?_; · exact ent_auto)
      exact SubF.nil
     ·try dsimp only [List.cons_append, List.nil_append]
      repeat (first | exact SubL.nil | refine SubL.cons rfl ?_)
    ·(try simp only [cq1, cq2, cq3, cq4, cq5, cq6, cq7, cq8, cq9, cq10, cq11, cq12, cq13] at h42)
     refine tr_exit ?_
     refine pe_then_exit ?_
     refine pe_then_exit ?_
     refine pe_block_eq ?_
     refine pe_block_normal ?_
     refine pe_then_normal ?_
     refine tr_sub hC (.cons (t := 1) rfl (.cons (t := 2) rfl (.cons (t := 3) rfl (.cons (t := 11) rfl (.cons (t := 12) rfl .nil))))) (.cons (t := 602) rfl (.cons (t := 1) rfl (.cons (t := 2) rfl (.cons (t := 605) rfl (.cons (t := 606) rfl .nil))))) rfl ?_
     refine tr_post (fun X hX => post_push 605 (by omega) rfl rfl ((famR_even hfi).symm) ((fun m => if m < 2 * i then ids m else if m = 2 * i then (N5, 100220) else (N6, 100320))) ((by rw [if_neg (by omega), if_pos rfl])) (fun j hj => by rw [if_pos hj]) hX) ?_
     have hC : CxOK (famC ⟨σ0, M, [], Rf, 62⟩ (2 * i + 1) ((fun m => if m < 2 * i then ids m else if m = 2 * i then (N5, 100220) else (N6, 100320))) (famR 43 47 g.frames)) := famC_ok
     refine tr_post (fun X hX => post_push 606 (by omega) rfl rfl ((famR_odd hfi).symm) ((fun m => if m < 2 * i then ids m else if m = 2 * i then (N5, 100220) else (N6, 100320))) ((by rw [if_neg (by omega), if_neg (by omega)])) (fun j hj => rfl) hX) ?_
     have hC : CxOK (famC ⟨σ0, M, [], Rf, 62⟩ (2 * i + 1 + 1) ((fun m => if m < 2 * i then ids m else if m = 2 * i then (N5, 100220) else (N6, 100320))) (famR 43 47 g.frames)) := famC_ok
     refine tr_post (fun X hX => post_famK (show 2 * i + 1 + 1 = 2 * (i + 1) by omega) hX) ?_
     have hC : CxOK (famC ⟨σ0, M, [], Rf, 62⟩ (2 * (i + 1)) ((fun m => if m < 2 * i then ids m else if m = 2 * i then (N5, 100220) else (N6, 100320))) (famR 43 47 g.frames)) := famC_ok
     refine tr_region (fun N12 hN => ?_)
     refine lx (op_add rfl rfl (by omega)) rfl ?_
     refine lx (op_move rfl) rfl ?_
     refine lx_end ⟨by kernel_rfl, ?_⟩
     refine pe_roundC (⟨(i + 1, (fun m => if m < 2 * i then ids m else if m = 2 * i then (N5, 100220) else (N6, 100320))), by dsimp only; omega⟩) (by dsimp only; omega) (pe_st hC ?_ ?_ rfl)
     ·try dsimp only [List.cons_append, List.nil_append]
      first | refine SubF.cons rfl ?_ | (refine SubF.ent rfl ?_ ?_; · exact ent_auto)
      first | refine SubF.cons rfl ?_ | (refine SubF.ent rfl ?_ ?_; · exact ent_auto)
      first | refine SubF.cons rfl ?_ | (refine SubF.ent rfl ?_ ?_; · exact ent_auto)
      first | refine SubF.cons rfl ?_ | (refine SubF.ent rfl ?_ ?_; · exact ent_auto)
      first | refine SubF.cons rfl ?_ | (refine SubF.ent rfl ?_ ?_; · exact ent_auto)
      exact SubF.nil
     ·try rw [famE_push hfi (by rw [if_neg (by omega), if_pos rfl]) (by rw [if_neg (by omega), if_neg (by omega)]) (fun j hj => if_pos hj)]
      try dsimp only [List.cons_append, List.nil_append]
      repeat (first | exact SubL.nil | refine SubL.cons rfl ?_)
  ·(try simp only [cq1, cq2, cq3, cq4, cq5, cq6, cq7, cq8, cq9, cq10, cq11, cq12, cq13] at h13)
   obtain rfl : i = g.frames.length := by omega
   refine tr_exit ?_
   refine pe_then_exit ?_
   refine pe_then_exit ?_
   refine pe_block_eq ?_
   refine pe_then_normal ?_
   refine tr_sub hC (.cons (t := 1) rfl (.cons (t := 2) rfl (.cons (t := 3) rfl .nil))) (.cons (t := 602) rfl (.cons (t := 1) rfl (.cons (t := 2) rfl .nil))) rfl ?_
   refine tr_seq ?_
   refine tr_region (fun N13 hN => ?_)
   refine lx (op_move rfl) rfl ?_
   refine lx (op_fieldAddr rfl fl29_3 sz27) rfl ?_
   refine lxr (op_store (m := 1) (rs := [_, _, _, _]) rfl rfl rfl (.one (by (first | exact One.eq rfl | exact One.mv _ _ _ _ _ | exact One.cl _ _ _ | exact One.map _ | exact One.sl _ _ _ | exact One.row _ _ _ _ | exact One.msl _ _ _ _ | exact One.ptr _ _ | exact One.b _ | exact One.cells _))) sz27 rfl rfl rfl) rfl ?_
   refine lx_end ⟨by kernel_rfl, ?_⟩
   refine pe_then_normal ?_
   refine tr_sub hC (.cons (t := 1) rfl (.cons (t := 2) rfl .nil)) (.cons (t := 602) rfl (.cons (t := 1) rfl (.cons (t := 2) rfl .nil))) rfl ?_
   refine tr_seq ?_
   refine tr_region (fun N14 hN => ?_)
   refine lx (op_bload (m := 1) rfl rfl ag29 sz29) rfl ?_
   refine lxr (op_store_all (m := 2) rfl rfl rfl (.agg rfl) sz29 rfl) rfl ?_
   refine lx_end ⟨by kernel_rfl, ?_⟩
   refine pe_then_normal ?_
   refine tr_sub hC (.cons (t := 2) rfl .nil) (.cons (t := 602) rfl (.cons (t := 2) rfl .nil)) rfl ?_
   refine tr_ret ?_
   refine pe_ownFam (K := 2 * g.frames.length) (r := famR 43 47 g.frames) (m := 602) hC0 rfl hO rfl rfl (by omega) (.cell (m := 2) rfl rfl ag29 sz29 .nil) rfl (RenR.blk _ _ _) (fun _ => famR_ren) (fun ι => rfl) ?_
   intro τ ι hs0 hsf
   exact ⟨aggP_at (.cons (ent_at (Ent.refl _)) (.cons (ent_at (Ent.refl _)) (.cons (ent_at (Ent.refl _)) (.cons (mv_ren hs0.1 hs0.2) .nil)))), fun b o h => blk_ents (famE_ren hsf) b o h⟩
end Go.Proofs.Ythiknhmoefbanaa


set_option linter.unusedVariables false
set_option linter.unusedSimpArgs false
namespace Go.Proofs.Ythiknhmoefbanaa
open Go.AL Go.Ch Go.Hp Go.RowKit
theorem fs47 : sizesB Try.prog 47 = true := by kernel_rfl
set_option maxHeartbeats 1000000 in
theorem copyG_fam (g : Gr) (hb : BdG 4000000 g) (hn : g.frames.length ≤ 100000) : FnOK Try.prog 16 [aggP g.ps] [] (2 * g.frames.length + 1) (fun ι => aggP (grM g g.frames.length (ι 0))) (fun ι => famProd 60 43 47 g ι) := by
 refine fn_ownN Try.func16 rfl Try.ntmps16 rfl ?_
 intro σ0 M Rf R hC hO
 have hC0 := hC
 simp only [frameOf, tokOf]
 refine tr_seq ?_
 refine tr_region (fun N0 hN => ?_)
 refine lxn (op_box (m := 1) (k := 1) rfl (.agg rfl) (by first | exact hC.low _ (by decide) | rfl)) rfl ?_
 refine lxn (op_alloc (m := 2) (k := 2) (ps := [eqP (.int .i64 0), eqP (.int .i64 0), eqP (.int .i64 0), eqP (.slice none 0 0)]) ze29 rfl rfl (by first | exact hC.low _ (by decide) | rfl)) rfl ?_
 refine lx_end ⟨by kernel_rfl, ?_⟩
 refine pe_then_normal ?_
 refine tr_sub hC (.cons (t := 1) rfl (.cons (t := 2) rfl .nil)) (.cons (t := 1) rfl (.cons (t := 2) rfl .nil)) rfl ?_
 refine tr_seq ?_
 refine tr_region (fun N1 hN => ?_)
 refine lx (op_assign rfl) rfl ?_
 refine lx_end ⟨by kernel_rfl, ?_⟩
 refine pe_then_normal ?_
 refine tr_sub hC (.cons (t := 1) rfl (.cons (t := 2) rfl (.cons (t := 3) rfl .nil))) (.cons (t := 1) rfl (.cons (t := 2) rfl .nil)) rfl ?_
 refine tr_seq ?_
 refine tr_seq ?_
 refine tr_region (fun N2 hN => ?_)
 refine lx (op_assign rfl) rfl ?_
 refine lx_end ⟨by kernel_rfl, ?_⟩
 refine pe_then_normal ?_
 refine tr_sub hC (.cons (t := 1) rfl (.cons (t := 2) rfl (.cons (t := 3) rfl (.cons (t := 4) rfl .nil)))) (.cons (t := 1) rfl (.cons (t := 2) rfl .nil)) rfl ?_
 refine tr_block ?_
 refine tr_nilmv 9 60 3 604 rfl (by first | exact hC.low _ (by decide) | rfl) (fun idN => ?_)
 refine tr_post (fun X hX => post_fam0 hC (fun _ => (0, 0)) (famR 43 47 g.frames) rfl hX) ?_
 have hC : CxOK (famC ⟨σ0, M, [], Rf, 59⟩ (0) (fun _ => (0, 0)) (famR 43 47 g.frames)) := famC_ok
 refine tr_loopKC (α := {zz : Nat × (List FmE) × AL.Id × (Nat → AL.Id) // zz.1 ≤ g.frames.length ∧ zz.2.1 = (famE g.frames zz.2.2.2 (2 * zz.1)).take zz.1}) (⟨(0, [], idN, (fun _ => (0, 0))), Nat.zero_le _, rfl⟩) (fun zz => famC ⟨σ0, M, [], Rf, 59⟩ (2 * zz.1.1) (zz.1.2.2.2) (famR 43 47 g.frames)) (fun zz => [(3, mvP zz.1.2.2.1 9 0 zz.1.2.1.length zz.1.2.1.length), (4, eqP (.int .i64 (zz.1.1 : Int)))]) (fun zz => [(604, some (zz.1.2.2.1, blkX 9 60 (zz.1.2.1.flatMap fmE)))]) (fun zz => g.frames.length - zz.1.1) hC rfl (.cons (t := 1) rfl (.cons (t := 2) rfl .nil)) (.cons (t := 1) rfl (.cons (t := 2) rfl .nil)) rfl ?_ ?_ (fun zz => ?_)
 ·try dsimp only [List.cons_append, List.nil_append]
  first | refine SubF.cons rfl ?_ | (refine SubF.ent rfl ?_ ?_; · exact ent_auto)
  first | refine SubF.cons rfl ?_ | (refine SubF.ent rfl ?_ ?_; · exact ent_auto)
  exact SubF.nil
 ·try dsimp only [List.cons_append, List.nil_append]
  repeat (first | exact SubL.nil | refine SubL.cons rfl ?_)
 ·obtain ⟨⟨k, xs, io, ids⟩, hk1, hxs⟩ := zz
  try dsimp only at hk1
  try dsimp only at hxs
  dsimp only [List.cons_append, List.nil_append]
  have hC : CxOK (famC ⟨σ0, M, [], Rf, 59⟩ (2 * k) (ids) (famR 43 47 g.frames)) := famC_ok
  refine tr_seq ?_
  refine tr_seq ?_
  refine tr_region (fun N3 hN => ?_)
  refine lx (op_move rfl) rfl ?_
  refine lx (op_fieldAddr rfl fl29_3 sz27) rfl ?_
  refine lx (op_bload_one (m := 1) rfl rfl ag27 rfl) rfl ?_
  first | refine lx (op_len rfl el27) rfl ?_ | refine lx (op_len_row rfl el27) rfl ?_ | refine lx (op_len_mv rfl el27) rfl ?_ | refine lx (op_len_nil rfl el27) rfl ?_
  refine lx (op_lss rfl rfl) rfl ?_
  refine lx_end ⟨by kernel_rfl, ?_⟩
  refine pe_then_normal ?_
  refine tr_sub hC (.cons (t := 1) rfl (.cons (t := 2) rfl (.cons (t := 3) rfl (.cons (t := 4) rfl (.cons (t := 12) rfl .nil))))) (.cons (t := 604) rfl (.cons (t := 1) rfl (.cons (t := 2) rfl .nil))) rfl ?_
  refine tr_cond rfl (fun h12 => ?_) (fun h12 => ?_)
  ·(try simp only [cq1, cq2, cq3, cq4, cq5, cq6, cq7, cq8, cq9, cq10, cq11, cq12, cq13] at h12)
   have hfk := (List.getElem?_eq_getElem (by omega : k < g.frames.length))
   have hbk := hb.each _ (List.getElem_mem (by omega : k < g.frames.length))
   have hbr := hbk.regs
   have hbd := hbk.defers
   have hxl : xs.length ≤ k := by rw [hxs, List.length_take]; omega
   have hbf := hb.frames
   refine tr_skip ?_
   refine pe_then_normal ?_
   refine tr_sub hC (.cons (t := 1) rfl (.cons (t := 2) rfl (.cons (t := 3) rfl (.cons (t := 4) rfl .nil)))) (.cons (t := 604) rfl (.cons (t := 1) rfl (.cons (t := 2) rfl .nil))) rfl ?_
   refine tr_seq ?_
   refine tr_block ?_
   refine tr_seq ?_
   refine tr_region (fun N5 hN => ?_)
   refine lx (op_fieldAddr rfl fl29_3 sz27) rfl ?_
   refine lx (op_bload_one (m := 1) rfl rfl ag27 rfl) rfl ?_
   refine lx (op_move rfl) rfl ?_
   refine lx (op_index rfl rfl el27 sz60 rfl (List.getElem?_eq_getElem (by omega : k < g.frames.length))) rfl ?_
   first | refine lx (op_load_all rfl ag60 sz60) rfl ?_ | refine lx (op_load_agg rfl ag60 sz60 rfl) rfl ?_ | refine lx (op_bload (m := 604) rfl rfl ag60 sz60) rfl ?_ | refine lx (op_bload (m := 1) rfl rfl ag60 sz60) rfl ?_ | refine lx (op_bload (m := 2) rfl rfl ag60 sz60) rfl ?_ | refine lx (op_bload_part (m := 604) (qs := [_, _, _, _, _, _, _, _, _]) rfl rfl ag60 sz60 rfl rfl) rfl ?_ | refine lx (op_bload_part (m := 1) (qs := [_, _, _, _, _, _, _, _, _]) rfl rfl ag60 sz60 rfl rfl) rfl ?_ | refine lx (op_bload_part (m := 2) (qs := [_, _, _, _, _, _, _, _, _]) rfl rfl ag60 sz60 rfl rfl) rfl ?_
   refine lxn (op_alloc (m := 5) (k := 5) (ps := [eqP (.int .i64 0), eqP (.int .i64 0), eqP (.slice none 0 0), eqP (.int .i64 0), eqP (.slice none 0 0), eqP (.bool false), eqP (.int .i64 0), eqP (.int .i64 0), eqP (.int .i64 0)]) ze60 rfl rfl (by first | exact hC.low _ (by decide) | rfl)) rfl ?_
   refine lxr (op_store_all (m := 5) rfl rfl rfl (.agg rfl) sz60 rfl) rfl ?_
   refine lx_end ⟨by kernel_rfl, ?_⟩
   refine pe_then_normal ?_
   refine tr_sub hC (.cons (t := 1) rfl (.cons (t := 2) rfl (.cons (t := 3) rfl (.cons (t := 4) rfl (.cons (t := 5) rfl .nil))))) (.cons (t := 604) rfl (.cons (t := 1) rfl (.cons (t := 2) rfl (.cons (t := 5) rfl .nil)))) rfl ?_
   refine tr_seq ?_
   refine tr_region (fun N6 hN => ?_)
   refine lxn (op_buildEmptyM (m' := 20) (kk := 20) el33 sz43 (by first | exact hC.low _ (by decide) | rfl)) rfl ?_
   refine lx (op_fieldAddr rfl fl60_2 sz33) rfl ?_
   refine lx (op_bload_one (m := 5) rfl rfl ag33 rfl) rfl ?_
   refine lxr (op_append_t (m := 20) (m' := 20) (kk := 23) (f := vp) (xs := []) rfl rfl rfl (.inl rfl) el33 ze43 sz43 by43 rfl (by decide) vp_len (by simp; omega) (by simp; omega)) rfl ?_
   refine lx (op_fieldAddr rfl fl60_2 sz33) rfl ?_
   refine lxr (op_store (m := 5) (rs := [_, _, _, _, _, _, _, _, _]) rfl rfl rfl (.one (by (first | exact One.eq rfl | exact One.mv _ _ _ _ _ | exact One.cl _ _ _ | exact One.map _ | exact One.sl _ _ _ | exact One.row _ _ _ _ | exact One.msl _ _ _ _ | exact One.ptr _ _ | exact One.b _ | exact One.cells _))) sz33 rfl rfl rfl) rfl ?_
   refine lx_end ⟨by kernel_rfl, ?_⟩
   refine pe_then_normal ?_
   refine tr_sub hC (.cons (t := 1) rfl (.cons (t := 2) rfl (.cons (t := 3) rfl (.cons (t := 4) rfl (.cons (t := 5) rfl .nil))))) (.cons (t := 604) rfl (.cons (t := 1) rfl (.cons (t := 2) rfl (.cons (t := 5) rfl (.cons (t := 20) rfl .nil))))) rfl ?_
   refine tr_seq ?_
   refine tr_region (fun N7 hN => ?_)
   refine lx (op_assign rfl) rfl ?_
   refine lx_end ⟨by kernel_rfl, ?_⟩
   refine pe_then_normal ?_
   refine tr_sub hC (.cons (t := 1) rfl (.cons (t := 2) rfl (.cons (t := 3) rfl (.cons (t := 4) rfl (.cons (t := 5) rfl (.cons (t := 6) rfl .nil)))))) (.cons (t := 604) rfl (.cons (t := 1) rfl (.cons (t := 2) rfl (.cons (t := 5) rfl (.cons (t := 20) rfl .nil))))) rfl ?_
   refine tr_seq ?_
   refine tr_seq ?_
   refine tr_region (fun N8 hN => ?_)
   refine lx (op_assign rfl) rfl ?_
   refine lx_end ⟨by kernel_rfl, ?_⟩
   refine pe_then_normal ?_
   refine tr_sub hC (.cons (t := 1) rfl (.cons (t := 2) rfl (.cons (t := 3) rfl (.cons (t := 4) rfl (.cons (t := 5) rfl (.cons (t := 6) rfl (.cons (t := 7) rfl .nil))))))) (.cons (t := 604) rfl (.cons (t := 1) rfl (.cons (t := 2) rfl (.cons (t := 5) rfl (.cons (t := 20) rfl .nil))))) rfl ?_
   refine tr_block ?_
   refine tr_nilmv 2 47 6 607 rfl (by first | exact hC.low _ (by decide) | rfl) (fun idN => ?_)
   refine tr_loopK (α := {zz : Nat × (List Df) × AL.Id // zz.1 ≤ g.frames[k].defers.length ∧ zz.2.1 = g.frames[k].defers.take zz.1}) (⟨(0, [], idN), Nat.zero_le _, rfl⟩) (fun zz => [(6, mvP zz.1.2.2 2 0 zz.1.2.1.length zz.1.2.1.length), (7, eqP (.int .i64 (zz.1.1 : Int)))]) (fun zz => [(607, some (zz.1.2.2, blkX 2 47 (zz.1.2.1.flatMap Df.ps)))]) (fun zz => g.frames[k].defers.length - zz.1.1) hC (.cons (t := 1) rfl (.cons (t := 2) rfl (.cons (t := 3) rfl (.cons (t := 4) rfl (.cons (t := 5) rfl .nil))))) (.cons (t := 604) rfl (.cons (t := 1) rfl (.cons (t := 2) rfl (.cons (t := 5) rfl (.cons (t := 20) rfl .nil))))) rfl ?_ ?_ (fun zz => ?_)
   ·try dsimp only [List.cons_append, List.nil_append]
    first | refine SubF.cons rfl ?_ | (refine SubF.ent rfl ?_ ?_; · exact ent_auto)
    first | refine SubF.cons rfl ?_ | (refine SubF.ent rfl ?_ ?_; · exact ent_auto)
    exact SubF.nil
   ·try dsimp only [List.cons_append, List.nil_append]
    repeat (first | exact SubL.nil | refine SubL.cons rfl ?_)
   ·obtain ⟨⟨j, ds, i2⟩, hj1, hds⟩ := zz
    try dsimp only at hj1
    try dsimp only at hds
    dsimp only [List.cons_append, List.nil_append]
    refine tr_seq ?_
    refine tr_seq ?_
    refine tr_region (fun N9 hN => ?_)
    refine lx (op_move rfl) rfl ?_
    refine lx (op_fieldAddr rfl fl60_4 sz58) rfl ?_
    refine lx (op_bload_one (m := 5) rfl rfl ag58 rfl) rfl ?_
    first | refine lx (op_len rfl el58) rfl ?_ | refine lx (op_len_row rfl el58) rfl ?_ | refine lx (op_len_mv rfl el58) rfl ?_ | refine lx (op_len_nil rfl el58) rfl ?_
    refine lx (op_lss rfl rfl) rfl ?_
    refine lx_end ⟨by kernel_rfl, ?_⟩
    refine pe_then_normal ?_
    refine tr_sub hC (.cons (t := 1) rfl (.cons (t := 2) rfl (.cons (t := 3) rfl (.cons (t := 4) rfl (.cons (t := 5) rfl (.cons (t := 6) rfl (.cons (t := 7) rfl (.cons (t := 29) rfl .nil)))))))) (.cons (t := 607) rfl (.cons (t := 604) rfl (.cons (t := 1) rfl (.cons (t := 2) rfl (.cons (t := 5) rfl (.cons (t := 20) rfl .nil)))))) rfl ?_
    refine tr_cond rfl (fun h29 => ?_) (fun h29 => ?_)
    ·(try simp only [cq1, cq2, cq3, cq4, cq5, cq6, cq7, cq8, cq9, cq10, cq11, cq12, cq13] at h29)
     have hba := hbk.args _ (List.getElem_mem (by omega : j < g.frames[k].defers.length))
     have hdl : ds.length ≤ j := by rw [hds, List.length_take]; omega
     refine tr_skip ?_
     refine pe_then_normal ?_
     refine tr_sub hC (.cons (t := 1) rfl (.cons (t := 2) rfl (.cons (t := 3) rfl (.cons (t := 4) rfl (.cons (t := 5) rfl (.cons (t := 6) rfl (.cons (t := 7) rfl .nil))))))) (.cons (t := 607) rfl (.cons (t := 604) rfl (.cons (t := 1) rfl (.cons (t := 2) rfl (.cons (t := 5) rfl (.cons (t := 20) rfl .nil)))))) rfl ?_
     refine tr_seq ?_
     refine tr_block ?_
     refine tr_drawn mixed (fun N11 hN => ?_)
     refine lx (op_move rfl) rfl ?_
     refine lx (op_fieldAddr rfl fl60_4 sz58) rfl ?_
     refine lx (op_bload_one (m := 5) rfl rfl ag58 rfl) rfl ?_
     refine lx (op_move rfl) rfl ?_
     refine lx (op_index rfl rfl el58 sz47 rfl (List.getElem?_eq_getElem (by omega : j < g.frames[k].defers.length))) rfl ?_
     first | refine lx (op_fieldAddr rfl fl47_0 sz3) rfl ?_ | refine lx (op_fieldCells rfl fl47_0 sz3) rfl ?_
     first | refine lx (op_load_one rfl ag3 rfl) rfl ?_ | refine lx (op_bload_one (m := 607) rfl rfl ag3 rfl) rfl ?_ | refine lx (op_bload_one (m := 604) rfl rfl ag3 rfl) rfl ?_ | refine lx (op_bload_one (m := 1) rfl rfl ag3 rfl) rfl ?_ | refine lx (op_bload_one (m := 2) rfl rfl ag3 rfl) rfl ?_ | refine lx (op_bload_one (m := 5) rfl rfl ag3 rfl) rfl ?_ | refine lx (op_bload_one (m := 20) rfl rfl ag3 rfl) rfl ?_
     refine lxn (op_buildEmpty (m' := 39) (kk := 39) (f := vp) el33 sz43 (by first | exact hC.low _ (by decide) | rfl)) rfl ?_
     refine lx (op_fieldAddr rfl fl60_4 sz58) rfl ?_
     refine lx (op_bload_one (m := 5) rfl rfl ag58 rfl) rfl ?_
     refine lx (op_move rfl) rfl ?_
     refine lx (op_index rfl rfl el58 sz47 rfl (List.getElem?_eq_getElem (by omega : j < g.frames[k].defers.length))) rfl ?_
     first | refine lx (op_fieldAddr rfl fl47_1 sz33) rfl ?_ | refine lx (op_fieldCells rfl fl47_1 sz33) rfl ?_
     first | refine lx (op_load_one rfl ag33 rfl) rfl ?_ | refine lx (op_bload_one (m := 607) rfl rfl ag33 rfl) rfl ?_ | refine lx (op_bload_one (m := 604) rfl rfl ag33 rfl) rfl ?_ | refine lx (op_bload_one (m := 1) rfl rfl ag33 rfl) rfl ?_ | refine lx (op_bload_one (m := 2) rfl rfl ag33 rfl) rfl ?_ | refine lx (op_bload_one (m := 5) rfl rfl ag33 rfl) rfl ?_ | refine lx (op_bload_one (m := 20) rfl rfl ag33 rfl) rfl ?_ | refine lx (op_bload_one (m := 39) rfl rfl ag33 rfl) rfl ?_
     refine lxr (OpJ.ent (op_append (m := 39) (m' := 46) (kk := 46) rfl rfl rfl (.inr (by first | exact hC.low _ (by decide) | rfl)) el33 ze43 sz43 by43 rfl vp_len (by simp; omega) (by simp; omega)) (Ent.row _ _ _ _)) rfl ?_
     refine lx (op_build (qs := [_, _]) (parts := [(0, (Go.Operand.tmp 38)), (1, (Go.Operand.tmp 46))]) ze47 rfl rfl fs47 (.cons rfl (.one (by (first | exact One.eq rfl | exact One.mv _ _ _ _ _ | exact One.cl _ _ _ | exact One.map _ | exact One.sl _ _ _ | exact One.row _ _ _ _ | exact One.msl _ _ _ _ | exact One.ptr _ _ | exact One.b _ | exact One.cells _))) fl47_0 sz3 rfl (.cons rfl (.one (by (first | exact One.eq rfl | exact One.mv _ _ _ _ _ | exact One.cl _ _ _ | exact One.map _ | exact One.sl _ _ _ | exact One.row _ _ _ _ | exact One.msl _ _ _ _ | exact One.ptr _ _ | exact One.b _ | exact One.cells _))) fl47_1 sz33 rfl .nil)) rfl rfl) rfl ?_
     refine lx (op_buildSlice (f := Df.ps) (xs := [g.frames[k].defers[j]]) (l := [(0, (Go.Operand.tmp 47))]) ze47 rfl rfl (by decide) el58 sz47 Df.len (.cons rfl (.agg rfl) .nil) rfl (by decide)) rfl ?_
     refine lxr (op_append_t (m := 607) (m' := 607) (kk := 49) (f := Df.ps) rfl rfl rfl (.inl rfl) el58 ze47 sz47 by47 rfl (by decide) Df.len (by rw [List.length_singleton]; omega) (by rw [List.length_singleton]; omega)) rfl ?_
     refine lx (op_assign rfl) rfl ?_
     refine lx_end ⟨by kernel_rfl, ?_⟩
     refine pe_block_normal ?_
     refine pe_then_normal ?_
     refine tr_sub hC (.cons (t := 1) rfl (.cons (t := 2) rfl (.cons (t := 3) rfl (.cons (t := 4) rfl (.cons (t := 5) rfl (.cons (t := 6) rfl (.cons (t := 7) rfl .nil))))))) (.cons (t := 604) rfl (.cons (t := 1) rfl (.cons (t := 2) rfl (.cons (t := 5) rfl (.cons (t := 20) rfl (.cons (t := 607) rfl .nil)))))) rfl ?_
     refine tr_region (fun N10 hN => ?_)
     refine lx (op_move rfl) rfl ?_
     refine lx (op_add rfl rfl (by omega)) rfl ?_
     refine lx (op_assign rfl) rfl ?_
     refine lx_end ⟨by kernel_rfl, ?_⟩
     refine pe_round (⟨(j + 1, ds ++ [g.frames[k].defers[j]], (N11, 49)), by dsimp only; omega, by dsimp only; rw [hds, take_at (by omega : j < g.frames[k].defers.length)]⟩) (by dsimp only; omega) (pe_st hC ?_ ?_ rfl)
     ·try dsimp only [List.cons_append, List.nil_append]
      first | refine SubF.cons rfl ?_ | (refine SubF.ent rfl ?_ ?_; · exact ent_auto)
      first | refine SubF.cons rfl ?_ | (refine SubF.ent rfl ?_ ?_; · exact ent_auto)
      first | refine SubF.cons rfl ?_ | (refine SubF.ent rfl ?_ ?_; · exact ent_auto)
      first | refine SubF.cons rfl ?_ | (refine SubF.ent rfl ?_ ?_; · exact ent_auto)
      first | refine SubF.cons rfl ?_ | (refine SubF.ent rfl ?_ ?_; · exact ent_auto)
      first | refine SubF.cons rfl ?_ | (refine SubF.ent rfl ?_ ?_; · exact ent_auto)
      first | refine SubF.cons rfl ?_ | (refine SubF.ent rfl ?_ ?_; · exact ent_auto)
      exact SubF.nil
     ·try dsimp only [List.cons_append, List.nil_append]
      repeat (first | exact SubL.nil | refine SubL.cons rfl ?_)
    ·(try simp only [cq1, cq2, cq3, cq4, cq5, cq6, cq7, cq8, cq9, cq10, cq11, cq12, cq13] at h29)
     have hdf : ds = g.frames[k].defers := by rw [hds, List.take_of_length_le (by omega)]
     subst hdf
     refine tr_exit ?_
     refine pe_then_exit ?_
     refine pe_then_exit ?_
     refine pe_block_eq ?_
     refine pe_then_normal ?_
     refine tr_sub hC (.cons (t := 1) rfl (.cons (t := 2) rfl (.cons (t := 3) rfl (.cons (t := 4) rfl (.cons (t := 5) rfl (.cons (t := 6) rfl .nil)))))) (.cons (t := 607) rfl (.cons (t := 604) rfl (.cons (t := 1) rfl (.cons (t := 2) rfl (.cons (t := 5) rfl (.cons (t := 20) rfl .nil)))))) rfl ?_
     refine tr_seq ?_
     refine tr_region (fun N12 hN => ?_)
     refine lx (op_move rfl) rfl ?_
     refine lx (op_fieldAddr rfl fl60_4 sz58) rfl ?_
     refine lxr (op_store (m := 5) (rs := [_, _, _, _, _, _, _, _, _]) rfl rfl rfl (.one (by (first | exact One.eq rfl | exact One.mv _ _ _ _ _ | exact One.cl _ _ _ | exact One.map _ | exact One.sl _ _ _ | exact One.row _ _ _ _ | exact One.msl _ _ _ _ | exact One.ptr _ _ | exact One.b _ | exact One.cells _))) sz58 rfl rfl rfl) rfl ?_
     refine lx_end ⟨by kernel_rfl, ?_⟩
     refine pe_then_normal ?_
     refine tr_sub hC (.cons (t := 1) rfl (.cons (t := 2) rfl (.cons (t := 3) rfl (.cons (t := 4) rfl (.cons (t := 5) rfl .nil))))) (.cons (t := 607) rfl (.cons (t := 604) rfl (.cons (t := 1) rfl (.cons (t := 2) rfl (.cons (t := 5) rfl (.cons (t := 20) rfl .nil)))))) rfl ?_
     refine tr_region (fun N13 hN => ?_)
     refine lx (op_move rfl) rfl ?_
     refine lx (op_bload (m := 5) rfl rfl ag60 sz60) rfl ?_
     refine lx (op_buildSlice (f := fmE) (xs := [⟨g.frames[k], some (N6, 23), some i2⟩]) (l := [(0, (Go.Operand.tmp 53))]) ze60 rfl rfl (by decide) el27 sz60 fmE_len (.cons rfl (.agg rfl) .nil) rfl (by decide)) rfl ?_
     refine lxr (op_append_t (m := 604) (m' := 604) (kk := 55) (f := fmE) rfl rfl rfl (.inl rfl) el27 ze60 sz60 by60 rfl (by decide) fmE_len (by rw [List.length_singleton]; omega) (by rw [List.length_singleton]; omega)) rfl ?_
     refine lx (op_assign rfl) rfl ?_
     refine lx_end ⟨by kernel_rfl, ?_⟩
     refine pe_block_normal ?_
     refine pe_then_normal ?_
     refine tr_sub hC (.cons (t := 1) rfl (.cons (t := 2) rfl (.cons (t := 3) rfl (.cons (t := 4) rfl .nil)))) (.cons (t := 607) rfl (.cons (t := 1) rfl (.cons (t := 2) rfl (.cons (t := 20) rfl (.cons (t := 604) rfl .nil))))) rfl ?_
     refine tr_post (fun X hX => post_push 20 (by omega) rfl rfl ((famR_even hfk).symm) ((fun m => if m < 2 * k then ids m else if m = 2 * k then (N6, 23) else i2)) ((by rw [if_neg (by omega), if_pos rfl])) (fun j hj => by rw [if_pos hj]) hX) ?_
     have hC : CxOK (famC ⟨σ0, M, [], Rf, 59⟩ (2 * k + 1) ((fun m => if m < 2 * k then ids m else if m = 2 * k then (N6, 23) else i2)) (famR 43 47 g.frames)) := famC_ok
     refine tr_post (fun X hX => post_push 607 (by omega) rfl rfl ((famR_odd hfk).symm) ((fun m => if m < 2 * k then ids m else if m = 2 * k then (N6, 23) else i2)) ((by rw [if_neg (by omega), if_neg (by omega)])) (fun j hj => rfl) hX) ?_
     have hC : CxOK (famC ⟨σ0, M, [], Rf, 59⟩ (2 * k + 1 + 1) ((fun m => if m < 2 * k then ids m else if m = 2 * k then (N6, 23) else i2)) (famR 43 47 g.frames)) := famC_ok
     refine tr_post (fun X hX => post_famK (show 2 * k + 1 + 1 = 2 * (k + 1) by omega) hX) ?_
     have hC : CxOK (famC ⟨σ0, M, [], Rf, 59⟩ (2 * (k + 1)) ((fun m => if m < 2 * k then ids m else if m = 2 * k then (N6, 23) else i2)) (famR 43 47 g.frames)) := famC_ok
     refine tr_region (fun N4 hN => ?_)
     refine lx (op_move rfl) rfl ?_
     refine lx (op_add rfl rfl (by omega)) rfl ?_
     refine lx (op_assign rfl) rfl ?_
     refine lx_end ⟨by kernel_rfl, ?_⟩
     refine pe_roundC (⟨(k + 1, xs ++ [⟨g.frames[k], some (N6, 23), some i2⟩], (N13, 55), (fun m => if m < 2 * k then ids m else if m = 2 * k then (N6, 23) else i2)), by dsimp only; omega, by dsimp only; rw [hxs]; exact (famE_grow hfk (by rw [if_neg (by omega), if_pos rfl]) (by rw [if_neg (by omega), if_neg (by omega)]) (fun j hj => if_pos hj)).symm⟩) (by dsimp only; omega) (pe_st hC ?_ ?_ rfl)
     ·try dsimp only [List.cons_append, List.nil_append]
      first | refine SubF.cons rfl ?_ | (refine SubF.ent rfl ?_ ?_; · exact ent_auto)
      first | refine SubF.cons rfl ?_ | (refine SubF.ent rfl ?_ ?_; · exact ent_auto)
      first | refine SubF.cons rfl ?_ | (refine SubF.ent rfl ?_ ?_; · exact ent_auto)
      first | refine SubF.cons rfl ?_ | (refine SubF.ent rfl ?_ ?_; · exact ent_auto)
      exact SubF.nil
     ·try dsimp only [List.cons_append, List.nil_append]
      repeat (first | exact SubL.nil | refine SubL.cons rfl ?_)
  ·(try simp only [cq1, cq2, cq3, cq4, cq5, cq6, cq7, cq8, cq9, cq10, cq11, cq12, cq13] at h12)
   obtain rfl : k = g.frames.length := by omega
   have hfin : xs = famE g.frames ids (2 * g.frames.length) := by rw [hxs, List.take_of_length_le (by rw [famE_len]; exact Nat.le_refl _)]
   have hxf : xs.length = g.frames.length := by rw [hfin, famE_len]
   subst hfin
   rw [hxf]
   refine tr_exit ?_
   refine pe_then_exit ?_
   refine pe_then_exit ?_
   refine pe_block_eq ?_
   refine pe_then_normal ?_
   refine tr_sub hC (.cons (t := 1) rfl (.cons (t := 2) rfl (.cons (t := 3) rfl .nil))) (.cons (t := 604) rfl (.cons (t := 1) rfl (.cons (t := 2) rfl .nil))) rfl ?_
   refine tr_seq ?_
   refine tr_region (fun N14 hN => ?_)
   refine lx (op_move rfl) rfl ?_
   refine lx (op_fieldAddr rfl fl29_3 sz27) rfl ?_
   refine lxr (op_store (m := 1) (rs := [_, _, _, _]) rfl rfl rfl (.one (by (first | exact One.eq rfl | exact One.mv _ _ _ _ _ | exact One.cl _ _ _ | exact One.map _ | exact One.sl _ _ _ | exact One.row _ _ _ _ | exact One.msl _ _ _ _ | exact One.ptr _ _ | exact One.b _ | exact One.cells _))) sz27 rfl rfl rfl) rfl ?_
   refine lx_end ⟨by kernel_rfl, ?_⟩
   refine pe_then_normal ?_
   refine tr_sub hC (.cons (t := 1) rfl (.cons (t := 2) rfl .nil)) (.cons (t := 604) rfl (.cons (t := 1) rfl (.cons (t := 2) rfl .nil))) rfl ?_
   refine tr_seq ?_
   refine tr_region (fun N15 hN => ?_)
   refine lx (op_bload (m := 1) rfl rfl ag29 sz29) rfl ?_
   refine lxr (op_store_all (m := 2) rfl rfl rfl (.agg rfl) sz29 rfl) rfl ?_
   refine lx_end ⟨by kernel_rfl, ?_⟩
   refine pe_then_normal ?_
   refine tr_sub hC (.cons (t := 2) rfl .nil) (.cons (t := 604) rfl (.cons (t := 2) rfl .nil)) rfl ?_
   refine tr_ret ?_
   refine pe_ownFam (K := 2 * g.frames.length) (r := famR 43 47 g.frames) (m := 604) hC0 rfl hO rfl rfl (by omega) (.cell (m := 2) rfl rfl ag29 sz29 .nil) rfl (RenR.blk _ _ _) (fun _ => famR_ren) (fun ι => rfl) ?_
   intro τ ι hs0 hsf
   exact ⟨aggP_at (.cons (ent_at (Ent.refl _)) (.cons (ent_at (Ent.refl _)) (.cons (ent_at (Ent.refl _)) (.cons (mv_ren hs0.1 hs0.2) .nil)))), fun b o h => blk_ents (famE_ren hsf) b o h⟩
end Go.Proofs.Ythiknhmoefbanaa


namespace Go.AL
open Go.RowKit
def IsPtr (p : Pred) (b : Bool) : Prop := ∀ σ v, p.h σ v → ∃ a, v = .pointer a ∧ a.isNone = b
theorem IsPtr.own (id : Id) (off : Nat) : IsPtr (ptrP id off) false := fun _ _ ⟨_, _, h⟩ => ⟨_, h, rfl⟩
theorem IsPtr.cells (ps : List Pred) : IsPtr (cellsP ps) false := fun _ _ ⟨_, _, h, _⟩ => ⟨_, h, rfl⟩
theorem IsPtr.nil : IsPtr (eqP (.pointer none)) true := fun _ _ h => ⟨none, h, rfl⟩
section
variable {P : Program} {n N : Nat} {F : Fr} {R : Toks} {d : Option Nat} {T T' t e : TypeId} {pos : String} {after : Array Edge} {x y : Operand}
theorem pointee_of (h : P.underlying t = some (.pointer e)) : P.underlying t = some (.pointer (P.pointee t)) := by
  unfold Program.pointee
  rw [h]
theorem op_eql_ptr {p : Pred} {b : Bool} (ht : P.underlying t = some (.pointer e)) (hx : opd F x = some p) (hp : IsPtr p b) :
    OpJ P n N F R ⟨d, .binOp .eql t x (.const (.pointer none)) T', T, pos, after, none⟩ ⟨rdo x p, [], [], [], [], eqP (.bool b)⟩ :=
  opj1 hx fun σ W a h => by
    obtain ⟨q, hv, hb⟩ := hp σ _ h
    refine ⟨.bool b, ?_, rfl⟩
    have hc : a.eval (.const (.pointer none)) = .pointer none := rfl
    have hr := run_eql_pointer_nil (P := P) W t q (pointee_of ht)
    have hg : (eqGuard .eql t x (.const (.pointer none)) (.pointer q) (.pointer none)).run P W = .ok () W := by simp [eqGuard]
    simp only [execOp, hv, hc, Sem.run_bind, hg, Sem.run_pure, Result.andThen_ok, hr, hb]
theorem op_neq_ptr {p : Pred} {b : Bool} (ht : P.underlying t = some (.pointer e)) (hx : opd F x = some p) (hp : IsPtr p b) :
    OpJ P n N F R ⟨d, .binOp .neq t x (.const (.pointer none)) T', T, pos, after, none⟩ ⟨rdo x p, [], [], [], [], eqP (.bool (!b))⟩ :=
  opj1 hx fun σ W a h => by
    obtain ⟨q, hv, hb⟩ := hp σ _ h
    refine ⟨.bool (!b), ?_, rfl⟩
    have hc : a.eval (.const (.pointer none)) = .pointer none := rfl
    have hr := run_neq_pointer_nil (P := P) W t q (pointee_of ht)
    have hg : (eqGuard .neq t x (.const (.pointer none)) (.pointer q) (.pointer none)).run P W = .ok () W := by simp [eqGuard]
    simp only [execOp, hv, hc, Sem.run_bind, hg, Sem.run_pure, Result.andThen_ok, hr, hb]
theorem op_eql_str {a b : ByteArray} (ht : P.underlying t = some .string) (hx : opd F x = some (eqP (.string a))) (hy : opd F y = some (eqP (.string b))) :
    OpJ P n N F R ⟨d, .binOp .eql t x y T', T, pos, after, none⟩ ⟨rdo x (eqP (.string a)) ++ rdo y (eqP (.string b)), [], [], [], [], eqP (.bool (a.toList == b.toList))⟩ :=
  opj2 hx hy fun σ W c h1 h2 => ⟨.bool (a.toList == b.toList), by
    have e1 : c.eval x = .string a := h1
    have e2 : c.eval y = .string b := h2
    simp [execOp, e1, e2, eqGuard, binOp, Op.stringOp], rfl⟩
theorem op_index_str {a : ByteArray} {i : Int} {k : IntKind} {j : Nat} {u : UInt8} (hx : opd F x = some (eqP (.string a))) (hy : opd F y = some (eqP (.int k i))) (hi : i = (j : Int)) (hj : a[j]? = some u) (ht : P.underlying t = some .string) :
    OpJ P n N F R ⟨d, .index t x y, T, pos, after, none⟩ ⟨rdo x (eqP (.string a)) ++ rdo y (eqP (.int k i)), [], [], [], [], eqP (.int .u8 u.toNat)⟩ :=
  opj2 hx hy fun σ W c h1 h2 => ⟨.int .u8 u.toNat, by
    have e1 : c.eval x = .string a := h1
    have e2 : c.eval y = .int k i := h2
    subst hi
    simp [execOp, e1, e2, run_underlying ht, Instr.index, asIntOf, hj], rfl⟩
end
end Go.AL


set_option linter.unusedVariables false
set_option linter.unusedSimpArgs false
namespace Go.Proofs.Ythiknhmoefbanaa
open Go.AL Go.Ch Go.Hp Go.RowKit
theorem by56 : bytesB Try.prog 56 = some 16 := by kernel_rfl
theorem el53 : elemB Try.prog 53 = some 56 := by kernel_rfl
theorem fl56_0 : fldB Try.prog 56 0 = some (0, 3) := by kernel_rfl
theorem fl56_1 : fldB Try.prog 56 1 = some (1, 3) := by kernel_rfl
theorem fn40 : fnB Try.prog 40 = true := by kernel_rfl
theorem fs43 : sizesB Try.prog 43 = true := by kernel_rfl
theorem fs56 : sizesB Try.prog 56 = true := by kernel_rfl
theorem pt73 : Try.prog.underlying 73 = some (.pointer 60) := by kernel_rfl
theorem sz56 : sizeB Try.prog 56 = some 2 := by kernel_rfl
theorem ze56 : zeroB Try.prog 56 = some (some (.agg #[.int .i64 0, .int .i64 0])) := by kernel_rfl
theorem cur_some (s f a : Int) (id : AL.Id) (q c : Nat) (hq : q ≤ 200000) : FnP Try.prog 40 [aggP [eqP (.int .i64 s), eqP (.int .i64 f), eqP (.int .i64 a), mvP id 9 0 (q + 1) c]] (ptrP id (q * 9)) := by
 refine fn_pure' Try.func40 rfl Try.ntmps40 rfl ?_
 intro σ0 M ex Rf R hC hO
 simp only [frameOf, tokOf]
 refine tr_seq ?_
 refine tr_region (fun N0 hN => ?_)
 refine lxn (op_box (m := 1) (k := 1) rfl (.agg rfl) (by first | exact hC.low _ (by decide) | rfl)) rfl ?_
 refine lx (op_assign rfl) rfl ?_
 refine lx_end ⟨by kernel_rfl, ?_⟩
 refine pe_then_normal ?_
 refine tr_sub hC (.cons (t := 1) rfl .nil) (.cons (t := 1) rfl .nil) rfl ?_
 refine tr_seq ?_
 refine tr_seq ?_
 refine tr_region (fun N1 hN => ?_)
 refine lx (op_fieldAddr rfl fl29_3 sz27) rfl ?_
 refine lx (op_bload_one (m := 1) rfl rfl ag27 rfl) rfl ?_
 first | refine lx (op_len rfl el27) rfl ?_ | refine lx (op_len_row rfl el27) rfl ?_ | refine lx (op_len_mv rfl el27) rfl ?_ | refine lx (op_len_nil rfl el27) rfl ?_
 refine lx (op_eql rfl rfl) rfl ?_
 refine lx_end ⟨by kernel_rfl, ?_⟩
 refine pe_then_normal ?_
 refine tr_sub hC (.cons (t := 1) rfl (.cons (t := 6) rfl .nil)) (.cons (t := 1) rfl .nil) rfl ?_
 refine tr_cond rfl (fun h6 => ?_) (fun h6 => ?_)
 ·(try simp only [cq1, cq2, cq3, cq4, cq5, cq6, cq7, cq8, cq9, cq10, cq11, cq12, cq13] at h6)
  omega
 ·(try simp only [cq1, cq2, cq3, cq4, cq5, cq6, cq7, cq8, cq9, cq10, cq11, cq12, cq13] at h6)
  refine tr_skip ?_
  refine pe_then_normal ?_
  refine tr_sub hC (.cons (t := 1) rfl .nil) (.cons (t := 1) rfl .nil) rfl ?_
  refine tr_seq ?_
  refine tr_region (fun N3 hN => ?_)
  refine lx (op_fieldAddr rfl fl29_3 sz27) rfl ?_
  refine lx (op_bload_one (m := 1) rfl rfl ag27 rfl) rfl ?_
  refine lx (op_fieldAddr rfl fl29_3 sz27) rfl ?_
  refine lx (op_bload_one (m := 1) rfl rfl ag27 rfl) rfl ?_
  first | refine lx (op_len rfl el27) rfl ?_ | refine lx (op_len_row rfl el27) rfl ?_ | refine lx (op_len_mv rfl el27) rfl ?_ | refine lx (op_len_nil rfl el27) rfl ?_
  refine lx (op_sub rfl rfl (by omega)) rfl ?_
  refine lx (op_index_mv rfl rfl el27 sz60 (by omega : ((q + 1 : Nat) : Int) - 1 = ((q : Nat) : Int)) (by omega)) rfl ?_
  refine lx (op_assign rfl) rfl ?_
  refine lx_end ⟨by kernel_rfl, ?_⟩
  refine pe_then_normal ?_
  refine tr_sub hC (.cons (t := 2) rfl .nil) .nil rfl ?_
  refine tr_ret ?_
  refine pe_ret1 rfl hO rfl (.tmp rfl .nil) ?_
  exact Ent.of_eq (by rw [Nat.zero_mul, Nat.zero_add])
theorem cur_none (s f a : Int) (id : AL.Id) (c : Nat) : FnP Try.prog 40 [aggP [eqP (.int .i64 s), eqP (.int .i64 f), eqP (.int .i64 a), mvP id 9 0 0 c]] (eqP (.pointer none)) := by
 refine fn_pure' Try.func40 rfl Try.ntmps40 rfl ?_
 intro σ0 M ex Rf R hC hO
 simp only [frameOf, tokOf]
 refine tr_seq ?_
 refine tr_region (fun N0 hN => ?_)
 refine lxn (op_box (m := 1) (k := 1) rfl (.agg rfl) (by first | exact hC.low _ (by decide) | rfl)) rfl ?_
 refine lx (op_assign rfl) rfl ?_
 refine lx_end ⟨by kernel_rfl, ?_⟩
 refine pe_then_normal ?_
 refine tr_sub hC (.cons (t := 1) rfl .nil) (.cons (t := 1) rfl .nil) rfl ?_
 refine tr_seq ?_
 refine tr_seq ?_
 refine tr_region (fun N1 hN => ?_)
 refine lx (op_fieldAddr rfl fl29_3 sz27) rfl ?_
 refine lx (op_bload_one (m := 1) rfl rfl ag27 rfl) rfl ?_
 first | refine lx (op_len rfl el27) rfl ?_ | refine lx (op_len_row rfl el27) rfl ?_ | refine lx (op_len_mv rfl el27) rfl ?_ | refine lx (op_len_nil rfl el27) rfl ?_
 refine lx (op_eql rfl rfl) rfl ?_
 refine lx_end ⟨by kernel_rfl, ?_⟩
 refine pe_then_normal ?_
 refine tr_sub hC (.cons (t := 1) rfl (.cons (t := 6) rfl .nil)) (.cons (t := 1) rfl .nil) rfl ?_
 refine tr_cond rfl (fun h6 => ?_) (fun h6 => ?_)
 ·(try simp only [cq1, cq2, cq3, cq4, cq5, cq6, cq7, cq8, cq9, cq10, cq11, cq12, cq13] at h6)
  refine tr_seq ?_
  refine tr_region (fun N2 hN => ?_)
  refine lx (op_assign rfl) rfl ?_
  refine lx_end ⟨by kernel_rfl, ?_⟩
  refine pe_then_normal ?_
  refine tr_sub hC (.cons (t := 2) rfl .nil) .nil rfl ?_
  refine tr_ret ?_
  refine pe_then_ret ?_
  refine pe_ret1 rfl hO rfl (.tmp rfl .nil) ?_
  exact ent_auto
 ·(try simp only [cq1, cq2, cq3, cq4, cq5, cq6, cq7, cq8, cq9, cq10, cq11, cq12, cq13] at h6)
  exact absurd rfl h6
theorem cur_pure (g : Gr) (f : Fm) (q : Nat) (hq : g.frames[q]? = some f) (hl : g.frames.length = q + 1) (hn : q ≤ 200000) : FnP Try.prog 40 [aggP g.ps] (cellsP f.ps) := by
 refine fn_pure' Try.func40 rfl Try.ntmps40 rfl ?_
 intro σ0 M ex Rf R hC hO
 simp only [frameOf, tokOf]
 refine tr_seq ?_
 refine tr_region (fun N0 hN => ?_)
 refine lxn (op_box (m := 1) (k := 1) rfl (.agg rfl) (by first | exact hC.low _ (by decide) | rfl)) rfl ?_
 refine lx (op_assign rfl) rfl ?_
 refine lx_end ⟨by kernel_rfl, ?_⟩
 refine pe_then_normal ?_
 refine tr_sub hC (.cons (t := 1) rfl .nil) (.cons (t := 1) rfl .nil) rfl ?_
 refine tr_seq ?_
 refine tr_seq ?_
 refine tr_region (fun N1 hN => ?_)
 refine lx (op_fieldAddr rfl fl29_3 sz27) rfl ?_
 refine lx (op_bload_one (m := 1) rfl rfl ag27 rfl) rfl ?_
 first | refine lx (op_len rfl el27) rfl ?_ | refine lx (op_len_row rfl el27) rfl ?_ | refine lx (op_len_mv rfl el27) rfl ?_ | refine lx (op_len_nil rfl el27) rfl ?_
 refine lx (op_eql rfl rfl) rfl ?_
 refine lx_end ⟨by kernel_rfl, ?_⟩
 refine pe_then_normal ?_
 refine tr_sub hC (.cons (t := 1) rfl (.cons (t := 6) rfl .nil)) (.cons (t := 1) rfl .nil) rfl ?_
 refine tr_cond rfl (fun h6 => ?_) (fun h6 => ?_)
 ·(try simp only [cq1, cq2, cq3, cq4, cq5, cq6, cq7, cq8, cq9, cq10, cq11, cq12, cq13] at h6)
  omega
 ·(try simp only [cq1, cq2, cq3, cq4, cq5, cq6, cq7, cq8, cq9, cq10, cq11, cq12, cq13] at h6)
  refine tr_skip ?_
  refine pe_then_normal ?_
  refine tr_sub hC (.cons (t := 1) rfl .nil) (.cons (t := 1) rfl .nil) rfl ?_
  refine tr_seq ?_
  refine tr_region (fun N3 hN => ?_)
  refine lx (op_fieldAddr rfl fl29_3 sz27) rfl ?_
  refine lx (op_bload_one (m := 1) rfl rfl ag27 rfl) rfl ?_
  refine lx (op_fieldAddr rfl fl29_3 sz27) rfl ?_
  refine lx (op_bload_one (m := 1) rfl rfl ag27 rfl) rfl ?_
  first | refine lx (op_len rfl el27) rfl ?_ | refine lx (op_len_row rfl el27) rfl ?_ | refine lx (op_len_mv rfl el27) rfl ?_ | refine lx (op_len_nil rfl el27) rfl ?_
  refine lx (op_sub rfl rfl (by omega)) rfl ?_
  refine lx (op_index rfl rfl el27 sz60 (by omega : ((g.frames.length : Nat) : Int) - 1 = ((q : Nat) : Int)) hq) rfl ?_
  refine lx (op_assign rfl) rfl ?_
  refine lx_end ⟨by kernel_rfl, ?_⟩
  refine pe_then_normal ?_
  refine tr_sub hC (.cons (t := 2) rfl .nil) .nil rfl ?_
  refine tr_ret ?_
  refine pe_ret1 rfl hO rfl (.tmp rfl .nil) ?_
  exact ent_auto
theorem cur_pure0 (g : Gr) (hl : g.frames.length = 0) : FnP Try.prog 40 [aggP g.ps] (eqP (.pointer none)) := by
 refine fn_pure' Try.func40 rfl Try.ntmps40 rfl ?_
 intro σ0 M ex Rf R hC hO
 simp only [frameOf, tokOf]
 refine tr_seq ?_
 refine tr_region (fun N0 hN => ?_)
 refine lxn (op_box (m := 1) (k := 1) rfl (.agg rfl) (by first | exact hC.low _ (by decide) | rfl)) rfl ?_
 refine lx (op_assign rfl) rfl ?_
 refine lx_end ⟨by kernel_rfl, ?_⟩
 refine pe_then_normal ?_
 refine tr_sub hC (.cons (t := 1) rfl .nil) (.cons (t := 1) rfl .nil) rfl ?_
 refine tr_seq ?_
 refine tr_seq ?_
 refine tr_region (fun N1 hN => ?_)
 refine lx (op_fieldAddr rfl fl29_3 sz27) rfl ?_
 refine lx (op_bload_one (m := 1) rfl rfl ag27 rfl) rfl ?_
 first | refine lx (op_len rfl el27) rfl ?_ | refine lx (op_len_row rfl el27) rfl ?_ | refine lx (op_len_mv rfl el27) rfl ?_ | refine lx (op_len_nil rfl el27) rfl ?_
 refine lx (op_eql rfl rfl) rfl ?_
 refine lx_end ⟨by kernel_rfl, ?_⟩
 refine pe_then_normal ?_
 refine tr_sub hC (.cons (t := 1) rfl (.cons (t := 6) rfl .nil)) (.cons (t := 1) rfl .nil) rfl ?_
 refine tr_cond rfl (fun h6 => ?_) (fun h6 => ?_)
 ·(try simp only [cq1, cq2, cq3, cq4, cq5, cq6, cq7, cq8, cq9, cq10, cq11, cq12, cq13] at h6)
  refine tr_seq ?_
  refine tr_region (fun N2 hN => ?_)
  refine lx (op_assign rfl) rfl ?_
  refine lx_end ⟨by kernel_rfl, ?_⟩
  refine pe_then_normal ?_
  refine tr_sub hC (.cons (t := 2) rfl .nil) .nil rfl ?_
  refine tr_ret ?_
  refine pe_then_ret ?_
  refine pe_ret1 rfl hO rfl (.tmp rfl .nil) ?_
  exact ent_auto
 ·(try simp only [cq1, cq2, cq3, cq4, cq5, cq6, cq7, cq8, cq9, cq10, cq11, cq12, cq13] at h6)
  omega
theorem Reg_some (g : Gr) (hb : BdG 1048576 g) (hn : g.frames.length ≤ 100000) (f : Fm) (q : Nat) (hq : g.frames[q]? = some f) (hl : g.frames.length = q + 1) (r : Int) : FnP Try.prog 27 [aggP g.ps, eqP (.int .i64 r)] (aggP (vp (regF g r))) := by
 refine fn_pure' Try.func27 rfl Try.ntmps27 rfl ?_
 intro σ0 M ex Rf R hC hO
 simp only [frameOf, tokOf]
 refine tr_seq ?_
 refine tr_region (fun N0 hN => ?_)
 refine lxn (op_box (m := 2) (k := 2) rfl (.agg rfl) (by first | exact hC.low _ (by decide) | rfl)) rfl ?_
 refine lxn (op_alloc (m := 4) (k := 4) (ps := [eqP (.int .i64 0), eqP (.int .i64 0), eqP (.int .i64 0)]) ze43 rfl rfl (by first | exact hC.low _ (by decide) | rfl)) rfl ?_
 refine lx_end ⟨by kernel_rfl, ?_⟩
 refine pe_then_normal ?_
 refine tr_sub hC (.cons (t := 1) rfl (.cons (t := 2) rfl (.cons (t := 4) rfl .nil))) (.cons (t := 2) rfl (.cons (t := 4) rfl .nil)) rfl ?_
 refine tr_seq ?_
 refine tr_region (fun N1 hN => ?_)
 refine lx (op_bload (m := 2) rfl rfl ag29 sz29) rfl ?_
 first | refine lx (op_call (l := [(Go.Operand.tmp 6)]) (cur_pure g f q hq hl (by omega)) (.cons rfl .nil) fn40) rfl ?_ | refine lx (op_call (l := [(Go.Operand.tmp 6)]) (cur_pure g f q hq hl (by omega)) (.ent rfl (by exact ent_auto) .nil) fn40) rfl ?_
 refine lx (op_assign rfl) rfl ?_
 refine lx_end ⟨by kernel_rfl, ?_⟩
 refine pe_then_normal ?_
 refine tr_sub hC (.cons (t := 1) rfl (.cons (t := 4) rfl (.cons (t := 5) rfl .nil))) (.cons (t := 4) rfl .nil) rfl ?_
 refine tr_seq ?_
 refine tr_seq ?_
 refine tr_region (fun N2 hN => ?_)
 refine lx (op_move rfl) rfl ?_
 first | refine lxk (op_eql_ptr pt73 rfl (IsPtr.own _ _)) (rfl) rfl ?_ | refine lxk (op_eql_ptr pt73 rfl (IsPtr.cells _)) (rfl) rfl ?_ | refine lxk (op_eql_ptr pt73 rfl (IsPtr.nil)) (rfl) rfl ?_
 refine lx (op_move rfl) rfl ?_
 refine lxg rfl rfl rfl (op_move rfl) rfl ?_
 refine lxg rfl rfl rfl (op_lss rfl rfl) rfl ?_
 refine lx (op_pick_f rfl rfl) rfl ?_
 refine lx (op_move rfl) rfl ?_
 refine lxs rfl rfl rfl guard_eq (.cons (t := 1) rfl (fun _ => Ent.refl _) .nil) (op_move rfl) rfl ?_
 refine lxs rfl rfl rfl guard_eq (.cons (t := 5) rfl (fun _ => Ent.refl _) .nil) (op_move rfl) rfl ?_
 first | refine lxs rfl rfl rfl guard_eq (.cons (t := 16) rfl (fun h => entW h) .nil) (op_nilCheck rfl) rfl ?_ | refine lxs rfl rfl rfl guard_eq (.cons (t := 16) rfl (fun h => entW h) .nil) (op_nilCheckC rfl) rfl ?_
 first | refine lxs rfl rfl rfl guard_eq (.cons (t := 17) rfl (fun h => entW h) .nil) (op_fieldAddr rfl fl60_2 sz33) rfl ?_ | refine lxs rfl rfl rfl guard_eq (.cons (t := 17) rfl (fun h => entW h) .nil) (op_fieldCells rfl fl60_2 sz33) rfl ?_
 first | refine lxs rfl rfl rfl guard_eq (.cons (t := 18) rfl (fun h => entW h) .nil) (op_load_one rfl ag33 rfl) rfl ?_ | refine lxs rfl rfl rfl guard_eq (.cons (t := 18) rfl (fun h => entW h) .nil) (op_bload_one (m := 4) rfl rfl ag33 rfl) rfl ?_
 first | refine lxs rfl rfl rfl guard_eq (.cons (t := 19) rfl (fun h => entW h) .nil) (op_len rfl el33) rfl ?_ | refine lxs rfl rfl rfl guard_eq (.cons (t := 19) rfl (fun h => entW h) .nil) (op_len_row rfl el33) rfl ?_ | refine lxs rfl rfl rfl guard_eq (.cons (t := 19) rfl (fun h => entW h) .nil) (op_len_mv rfl el33) rfl ?_ | refine lxs rfl rfl rfl guard_eq (.cons (t := 19) rfl (fun h => entW h) .nil) (op_len_nil rfl el33) rfl ?_
 refine lxs rfl rfl rfl guard_eq (.cons (t := 15) rfl (fun h => entW h) (.cons (t := 20) rfl (fun h => entW h) .nil)) (op_geq rfl rfl) rfl ?_
 refine lx (op_pick_or rfl rfl) rfl ?_
 refine lx_end ⟨by kernel_rfl, ?_⟩
 refine pe_then_normal ?_
 refine tr_sub hC (.cons (t := 1) rfl (.cons (t := 4) rfl (.cons (t := 5) rfl (.cons (t := 22) rfl .nil)))) (.cons (t := 4) rfl .nil) rfl ?_
 refine tr_cond rfl (fun h22 => ?_) (fun h22 => ?_)
 ·(try simp only [cq1, cq2, cq3, cq4, cq5, cq6, cq7, cq8, cq9, cq10, cq11, cq12, cq13] at h22)
  have h : regF g r = v0 := by rw [reg_some hq hl, if_neg (by omega)]
  refine tr_seq ?_
  refine tr_region (fun N3 hN => ?_)
  refine lx (op_build (qs := [_, _, _]) (parts := []) ze43 rfl rfl fs43 .nil rfl rfl) rfl ?_
  refine lxr (op_store_all (m := 4) rfl rfl rfl (.agg rfl) sz43 rfl) rfl ?_
  refine lx_end ⟨by kernel_rfl, ?_⟩
  refine pe_then_normal ?_
  refine tr_sub hC (.cons (t := 4) rfl .nil) (.cons (t := 4) rfl .nil) rfl ?_
  refine tr_ret ?_
  refine pe_then_ret ?_
  refine pe_ret1 rfl hO rfl (.cell (m := 4) rfl rfl ag43 sz43 .nil) ?_
  rw [h]
  exact ent_auto
 ·(try simp only [cq1, cq2, cq3, cq4, cq5, cq6, cq7, cq8, cq9, cq10, cq11, cq12, cq13] at h22)
  have h : regF g r = f.regs[r.toNat]'(by omega) := by rw [reg_some hq hl, if_pos (by omega), List.getElem?_eq_getElem (by omega)]; rfl
  refine tr_skip ?_
  refine pe_then_normal ?_
  refine tr_sub hC (.cons (t := 1) rfl (.cons (t := 4) rfl (.cons (t := 5) rfl .nil))) (.cons (t := 4) rfl .nil) rfl ?_
  refine tr_seq ?_
  refine tr_region (fun N4 hN => ?_)
  refine lx (op_move rfl) rfl ?_
  first | refine lx (op_nilCheck rfl) rfl ?_ | refine lx (op_nilCheckC rfl) rfl ?_
  first | refine lx (op_fieldAddr rfl fl60_2 sz33) rfl ?_ | refine lx (op_fieldCells rfl fl60_2 sz33) rfl ?_
  first | refine lx (op_load_one rfl ag33 rfl) rfl ?_ | refine lx (op_bload_one (m := 4) rfl rfl ag33 rfl) rfl ?_
  refine lx (op_move rfl) rfl ?_
  refine lx (op_index rfl rfl el33 sz43 (by omega : r = ((r.toNat : Nat) : Int)) (List.getElem?_eq_getElem (by omega : r.toNat < f.regs.length))) rfl ?_
  first | refine lx (op_load_all rfl ag43 sz43) rfl ?_ | refine lx (op_load_agg rfl ag43 sz43 rfl) rfl ?_ | refine lx (op_bload (m := 4) rfl rfl ag43 sz43) rfl ?_ | refine lx (op_bload_part (m := 4) (qs := [_, _, _]) rfl rfl ag43 sz43 rfl rfl) rfl ?_
  refine lxr (op_store_all (m := 4) rfl rfl rfl (.agg rfl) sz43 rfl) rfl ?_
  refine lx_end ⟨by kernel_rfl, ?_⟩
  refine pe_then_normal ?_
  refine tr_sub hC (.cons (t := 4) rfl .nil) (.cons (t := 4) rfl .nil) rfl ?_
  refine tr_ret ?_
  refine pe_ret1 rfl hO rfl (.cell (m := 4) rfl rfl ag43 sz43 .nil) ?_
  rw [h]
  exact ent_auto
theorem Reg_none (g : Gr) (hb : BdG 1048576 g) (hn : g.frames.length ≤ 100000) (hl : g.frames.length = 0) (r : Int) : FnP Try.prog 27 [aggP g.ps, eqP (.int .i64 r)] (aggP (vp (regF g r))) := by
 refine fn_pure' Try.func27 rfl Try.ntmps27 rfl ?_
 intro σ0 M ex Rf R hC hO
 simp only [frameOf, tokOf]
 refine tr_seq ?_
 refine tr_region (fun N0 hN => ?_)
 refine lxn (op_box (m := 2) (k := 2) rfl (.agg rfl) (by first | exact hC.low _ (by decide) | rfl)) rfl ?_
 refine lxn (op_alloc (m := 4) (k := 4) (ps := [eqP (.int .i64 0), eqP (.int .i64 0), eqP (.int .i64 0)]) ze43 rfl rfl (by first | exact hC.low _ (by decide) | rfl)) rfl ?_
 refine lx_end ⟨by kernel_rfl, ?_⟩
 refine pe_then_normal ?_
 refine tr_sub hC (.cons (t := 1) rfl (.cons (t := 2) rfl (.cons (t := 4) rfl .nil))) (.cons (t := 2) rfl (.cons (t := 4) rfl .nil)) rfl ?_
 refine tr_seq ?_
 refine tr_region (fun N1 hN => ?_)
 refine lx (op_bload (m := 2) rfl rfl ag29 sz29) rfl ?_
 first | refine lx (op_call (l := [(Go.Operand.tmp 6)]) (cur_pure0 g hl) (.cons rfl .nil) fn40) rfl ?_ | refine lx (op_call (l := [(Go.Operand.tmp 6)]) (cur_pure0 g hl) (.ent rfl (by exact ent_auto) .nil) fn40) rfl ?_
 refine lx (op_assign rfl) rfl ?_
 refine lx_end ⟨by kernel_rfl, ?_⟩
 refine pe_then_normal ?_
 refine tr_sub hC (.cons (t := 1) rfl (.cons (t := 4) rfl (.cons (t := 5) rfl .nil))) (.cons (t := 4) rfl .nil) rfl ?_
 refine tr_seq ?_
 refine tr_seq ?_
 refine tr_region (fun N2 hN => ?_)
 refine lx (op_move rfl) rfl ?_
 first | refine lxk (op_eql_ptr pt73 rfl (IsPtr.own _ _)) (rfl) rfl ?_ | refine lxk (op_eql_ptr pt73 rfl (IsPtr.cells _)) (rfl) rfl ?_ | refine lxk (op_eql_ptr pt73 rfl (IsPtr.nil)) (rfl) rfl ?_
 refine lx (op_move rfl) rfl ?_
 refine lx_skip rfl rfl rfl (by first | exact notThe_bool rfl | exact notThe_undef) rfl ?_
 refine lx_skip rfl rfl rfl (by first | exact notThe_bool rfl | exact notThe_undef) rfl ?_
 refine lx (op_pick_t rfl rfl) rfl ?_
 refine lx (op_move rfl) rfl ?_
 refine lx_skip rfl rfl rfl (by first | exact notThe_bool rfl | exact notThe_undef) rfl ?_
 refine lx_skip rfl rfl rfl (by first | exact notThe_bool rfl | exact notThe_undef) rfl ?_
 refine lx_skip rfl rfl rfl (by first | exact notThe_bool rfl | exact notThe_undef) rfl ?_
 refine lx_skip rfl rfl rfl (by first | exact notThe_bool rfl | exact notThe_undef) rfl ?_
 refine lx_skip rfl rfl rfl (by first | exact notThe_bool rfl | exact notThe_undef) rfl ?_
 refine lx_skip rfl rfl rfl (by first | exact notThe_bool rfl | exact notThe_undef) rfl ?_
 refine lx_skip rfl rfl rfl (by first | exact notThe_bool rfl | exact notThe_undef) rfl ?_
 refine lx (op_pick_t rfl rfl) rfl ?_
 refine lx_end ⟨by kernel_rfl, ?_⟩
 refine pe_then_normal ?_
 refine tr_sub hC (.cons (t := 1) rfl (.cons (t := 4) rfl (.cons (t := 5) rfl (.cons (t := 22) rfl .nil)))) (.cons (t := 4) rfl .nil) rfl ?_
 refine tr_cond_t rfl ?_
 refine tr_seq ?_
 refine tr_region (fun N3 hN => ?_)
 refine lx (op_build (qs := [_, _, _]) (parts := []) ze43 rfl rfl fs43 .nil rfl rfl) rfl ?_
 refine lxr (op_store_all (m := 4) rfl rfl rfl (.agg rfl) sz43 rfl) rfl ?_
 refine lx_end ⟨by kernel_rfl, ?_⟩
 refine pe_then_normal ?_
 refine tr_sub hC (.cons (t := 4) rfl .nil) (.cons (t := 4) rfl .nil) rfl ?_
 refine tr_ret ?_
 refine pe_then_ret ?_
 refine pe_ret1 rfl hO rfl (.cell (m := 4) rfl rfl ag43 sz43 .nil) ?_
 rw [reg_none hl rfl]
 exact ent_auto
theorem Reg_ok (g : Gr) (hb : BdG 1048576 g) (hn : g.frames.length ≤ 100000) (r : Int) : FnP Try.prog 27 [aggP g.ps, eqP (.int .i64 r)] (aggP (vp (regF g r))) := by
 rcases hl : g.frames.length with _ | q
 ·exact Reg_none g hb hn hl r
 ·exact Reg_some g hb hn _ q (List.getElem?_eq_getElem (by omega)) hl r
theorem Sites_ok (g : Gr) (hn : g.frames.length ≤ 4000000) : FnP Try.prog 29 [aggP g.ps] (slP sip 2 (sitesF g.frames)) := by
 refine fn_pure' Try.func29 rfl Try.ntmps29 rfl ?_
 intro σ0 M ex Rf R hC hO
 simp only [frameOf, tokOf]
 refine tr_seq ?_
 refine tr_region (fun N0 hN => ?_)
 refine lxn (op_box (m := 1) (k := 1) rfl (.agg rfl) (by first | exact hC.low _ (by decide) | rfl)) rfl ?_
 refine lx (op_assign rfl) rfl ?_
 refine lx_end ⟨by kernel_rfl, ?_⟩
 refine pe_then_normal ?_
 refine tr_sub hC (.cons (t := 1) rfl .nil) (.cons (t := 1) rfl .nil) rfl ?_
 refine tr_seq ?_
 refine tr_region (fun N1 hN => ?_)
 refine lx (op_assign rfl) rfl ?_
 refine lx_end ⟨by kernel_rfl, ?_⟩
 refine pe_then_normal ?_
 refine tr_sub hC (.cons (t := 1) rfl (.cons (t := 3) rfl .nil)) (.cons (t := 1) rfl .nil) rfl ?_
 refine tr_seq ?_
 refine tr_seq ?_
 refine tr_region (fun N2 hN => ?_)
 refine lx (op_fieldAddr rfl fl29_3 sz27) rfl ?_
 refine lx (op_bload_one (m := 1) rfl rfl ag27 rfl) rfl ?_
 first | refine lx (op_len rfl el27) rfl ?_ | refine lx (op_len_row rfl el27) rfl ?_ | refine lx (op_len_mv rfl el27) rfl ?_ | refine lx (op_len_nil rfl el27) rfl ?_
 refine lx (op_move rfl) rfl ?_
 refine lx_end ⟨by kernel_rfl, ?_⟩
 refine pe_then_normal ?_
 refine tr_sub hC (.cons (t := 1) rfl (.cons (t := 3) rfl (.cons (t := 8) rfl (.cons (t := 9) rfl (.cons (t := 10) rfl .nil))))) (.cons (t := 1) rfl .nil) rfl ?_
 refine tr_block ?_
 refine tr_nilrow sip 2 56 3 600 rfl (by first | exact hC.low _ (by decide) | rfl) (fun idN => ?_)
 refine tr_loopK (α := {zz : Nat × (List (Int × Int)) × AL.Id // zz.1 ≤ g.frames.length ∧ zz.2.1 = (sitesF g.frames).take zz.1}) (⟨(0, [], idN), Nat.zero_le _, rfl⟩) (fun zz => [(3, rowP zz.1.2.2 sip 2 zz.1.2.1), (10, eqP (.int .i64 (zz.1.1 : Int)))]) (fun zz => [(600, some (zz.1.2.2, tail 56 2 (zz.1.2.1.length * 2)))]) (fun zz => g.frames.length - zz.1.1) hC (.cons (t := 1) rfl (.cons (t := 8) rfl (.cons (t := 9) rfl .nil))) (.cons (t := 1) rfl .nil) rfl ?_ ?_ (fun zz => ?_)
 ·try dsimp only [List.cons_append, List.nil_append]
  first | refine SubF.cons rfl ?_ | (refine SubF.ent rfl ?_ ?_; · exact ent_auto)
  first | refine SubF.cons rfl ?_ | (refine SubF.ent rfl ?_ ?_; · exact ent_auto)
  exact SubF.nil
 ·try dsimp only [List.cons_append, List.nil_append]
  repeat (first | exact SubL.nil | refine SubL.cons rfl ?_)
 ·obtain ⟨⟨k, ss, i⟩, hk1, hss⟩ := zz
  try dsimp only at hk1
  try dsimp only at hss
  dsimp only [List.cons_append, List.nil_append]
  refine tr_seq ?_
  refine tr_region (fun N3 hN => ?_)
  refine lx (op_lss rfl rfl) rfl ?_
  refine lx_end ⟨by kernel_rfl, ?_⟩
  refine pe_then_normal ?_
  refine tr_sub hC (.cons (t := 1) rfl (.cons (t := 3) rfl (.cons (t := 8) rfl (.cons (t := 9) rfl (.cons (t := 10) rfl (.cons (t := 11) rfl .nil)))))) (.cons (t := 600) rfl (.cons (t := 1) rfl .nil)) rfl ?_
  refine tr_seq ?_
  refine tr_cond rfl (fun h11 => ?_) (fun h11 => ?_)
  ·(try simp only [cq1, cq2, cq3, cq4, cq5, cq6, cq7, cq8, cq9, cq10, cq11, cq12, cq13] at h11)
   have hsl : ss.length ≤ k := by rw [hss, List.length_take]; omega
   refine tr_skip ?_
   refine pe_then_normal ?_
   refine tr_sub hC (.cons (t := 1) rfl (.cons (t := 3) rfl (.cons (t := 8) rfl (.cons (t := 9) rfl (.cons (t := 10) rfl .nil))))) (.cons (t := 600) rfl (.cons (t := 1) rfl .nil)) rfl ?_
   refine tr_seq ?_
   refine tr_block ?_
   refine tr_seq ?_
   refine tr_region (fun N4 hN => ?_)
   refine lx (op_move rfl) rfl ?_
   refine lx (op_index rfl rfl el27 sz60 rfl (List.getElem?_eq_getElem (by omega : k < g.frames.length))) rfl ?_
   first | refine lx (op_load_all rfl ag60 sz60) rfl ?_ | refine lx (op_load_agg rfl ag60 sz60 rfl) rfl ?_ | refine lx (op_bload (m := 600) rfl rfl ag60 sz60) rfl ?_ | refine lx (op_bload (m := 1) rfl rfl ag60 sz60) rfl ?_ | refine lx (op_bload_part (m := 600) (qs := [_, _, _, _, _, _, _, _, _]) rfl rfl ag60 sz60 rfl rfl) rfl ?_ | refine lx (op_bload_part (m := 1) (qs := [_, _, _, _, _, _, _, _, _]) rfl rfl ag60 sz60 rfl rfl) rfl ?_
   refine lxn (op_alloc (m := 5) (k := 5) (ps := [eqP (.int .i64 0), eqP (.int .i64 0), eqP (.slice none 0 0), eqP (.int .i64 0), eqP (.slice none 0 0), eqP (.bool false), eqP (.int .i64 0), eqP (.int .i64 0), eqP (.int .i64 0)]) ze60 rfl rfl (by first | exact hC.low _ (by decide) | rfl)) rfl ?_
   refine lx (op_assign rfl) rfl ?_
   refine lxr (op_store_all (m := 5) rfl rfl rfl (.agg rfl) sz60 rfl) rfl ?_
   refine lx_end ⟨by kernel_rfl, ?_⟩
   refine pe_then_normal ?_
   refine tr_sub hC (.cons (t := 1) rfl (.cons (t := 3) rfl (.cons (t := 4) rfl (.cons (t := 5) rfl (.cons (t := 8) rfl (.cons (t := 9) rfl (.cons (t := 10) rfl .nil))))))) (.cons (t := 600) rfl (.cons (t := 1) rfl (.cons (t := 5) rfl .nil))) rfl ?_
   refine tr_seq ?_
   refine tr_region (fun N5 hN => ?_)
   refine lx (op_fieldAddr rfl fl60_1 sz3) rfl ?_
   refine lx (op_bload_one (m := 5) rfl rfl ag3 rfl) rfl ?_
   refine lx (op_assign rfl) rfl ?_
   refine lx_end ⟨by kernel_rfl, ?_⟩
   refine pe_then_normal ?_
   refine tr_sub hC (.cons (t := 1) rfl (.cons (t := 3) rfl (.cons (t := 4) rfl (.cons (t := 5) rfl (.cons (t := 6) rfl (.cons (t := 8) rfl (.cons (t := 9) rfl (.cons (t := 10) rfl .nil)))))))) (.cons (t := 600) rfl (.cons (t := 1) rfl (.cons (t := 5) rfl .nil))) rfl ?_
   refine tr_seq ?_
   refine tr_seq ?_
   refine tr_region (fun N6 hN => ?_)
   refine lx (op_move rfl) rfl ?_
   refine lx (op_add rfl rfl (by omega)) rfl ?_
   refine lx (op_fieldAddr rfl fl29_3 sz27) rfl ?_
   refine lx (op_bload_one (m := 1) rfl rfl ag27 rfl) rfl ?_
   first | refine lx (op_len rfl el27) rfl ?_ | refine lx (op_len_row rfl el27) rfl ?_ | refine lx (op_len_mv rfl el27) rfl ?_ | refine lx (op_len_nil rfl el27) rfl ?_
   refine lx (op_lss rfl rfl) rfl ?_
   refine lx (op_move rfl) rfl ?_
   refine lxs rfl rfl rfl guard_eq (.cons (t := 5) rfl (fun _ => Ent.refl _) .nil) (op_fieldAddr rfl fl60_5 sz4) rfl ?_
   refine lxs rfl rfl rfl guard_eq (.cons (t := 24) rfl (fun h => entW h) .nil) (op_bload_one (m := 5) rfl rfl ag4 rfl) rfl ?_
   first | refine lxs rfl rfl rfl guard_eq (.cons (t := 25) rfl (fun h => entW h) .nil) (op_not rfl) rfl ?_ | refine lxs rfl rfl rfl guard_eq (.cons (t := 25) rfl (fun h => entW h) .nil) (op_not_b rfl) rfl ?_
   refine lx (op_pick_and rfl rfl) rfl ?_
   refine lx_end ⟨by kernel_rfl, ?_⟩
   refine pe_then_normal ?_
   refine tr_sub hC (.cons (t := 1) rfl (.cons (t := 3) rfl (.cons (t := 5) rfl (.cons (t := 6) rfl (.cons (t := 8) rfl (.cons (t := 9) rfl (.cons (t := 10) rfl (.cons (t := 27) rfl .nil)))))))) (.cons (t := 600) rfl (.cons (t := 1) rfl (.cons (t := 5) rfl .nil))) rfl ?_
   refine tr_cond rfl (fun h27 => ?_) (fun h27 => ?_)
   ·(try simp only [cq1, cq2, cq3, cq4, cq5, cq6, cq7, cq8, cq9, cq10, cq11, cq12, cq13] at h27)
    have hs : siteF g.frames.length k g.frames[k] = (g.frames[k].fn, IntKind.i64.wrap (g.frames[k].pc - 1)) := by unfold siteF; rw [if_pos h27]
    refine tr_region (fun N7 hN => ?_)
    refine lx (op_move rfl) rfl ?_
    refine lx (op_sub_w rfl rfl) rfl ?_
    refine lx (op_assign rfl) rfl ?_
    refine lx_end ⟨by kernel_rfl, ?_⟩
    refine pe_then_normal ?_
    refine tr_sub hC (.cons (t := 1) rfl (.cons (t := 3) rfl (.cons (t := 5) rfl (.cons (t := 6) rfl (.cons (t := 8) rfl (.cons (t := 9) rfl (.cons (t := 10) rfl .nil))))))) (.cons (t := 600) rfl (.cons (t := 1) rfl (.cons (t := 5) rfl .nil))) rfl ?_
    refine tr_region (fun N8 hN => ?_)
    refine lx (op_move rfl) rfl ?_
    refine lx (op_fieldAddr rfl fl60_0 sz3) rfl ?_
    refine lx (op_bload_one (m := 5) rfl rfl ag3 rfl) rfl ?_
    refine lx (op_move rfl) rfl ?_
    refine lx (OpJ.ent (op_build (qs := [_, _]) (parts := [(0, (Go.Operand.tmp 32)), (1, (Go.Operand.tmp 33))]) ze56 rfl rfl fs56 (.cons rfl (.one (by (first | exact One.eq rfl | exact One.mv _ _ _ _ _ | exact One.cl _ _ _ | exact One.map _ | exact One.sl _ _ _ | exact One.row _ _ _ _ | exact One.msl _ _ _ _ | exact One.ptr _ _ | exact One.b _ | exact One.cells _))) fl56_0 sz3 rfl (.cons rfl (.one (by (first | exact One.eq rfl | exact One.mv _ _ _ _ _ | exact One.cl _ _ _ | exact One.map _ | exact One.sl _ _ _ | exact One.row _ _ _ _ | exact One.msl _ _ _ _ | exact One.ptr _ _ | exact One.b _ | exact One.cells _))) fl56_1 sz3 rfl .nil)) rfl rfl) (show Ent _ (aggP (sip (siteF g.frames.length k g.frames[k]))) from (by rw [hs]; exact ent_auto))) rfl ?_
    refine lx (op_buildSlice (f := sip) (xs := [siteF g.frames.length k g.frames[k]]) (l := [(0, (Go.Operand.tmp 34))]) ze56 rfl rfl (by decide) el53 sz56 sip_len (.cons rfl (.agg rfl) .nil) rfl (by decide)) rfl ?_
    refine lxr (op_append (m := 600) (m' := 600) (kk := 36) rfl rfl rfl (.inl rfl) el53 ze56 sz56 by56 rfl sip_len (by rw [List.length_singleton]; omega) (by rw [List.length_singleton]; omega)) rfl ?_
    refine lx (op_assign rfl) rfl ?_
    refine lx_end ⟨by kernel_rfl, ?_⟩
    refine pe_block_normal ?_
    refine pe_then_normal ?_
    refine tr_sub hC (.cons (t := 1) rfl (.cons (t := 3) rfl (.cons (t := 8) rfl (.cons (t := 9) rfl (.cons (t := 10) rfl .nil))))) (.cons (t := 1) rfl (.cons (t := 600) rfl .nil)) rfl ?_
    refine tr_region (fun N9 hN => ?_)
    refine lx (op_add rfl rfl (by omega)) rfl ?_
    refine lx (op_move rfl) rfl ?_
    refine lx_end ⟨by kernel_rfl, ?_⟩
    refine pe_round (⟨(k + 1, ss ++ [siteF g.frames.length k g.frames[k]], (N8, 36)), by dsimp only; omega, by dsimp only; rw [hss, sites_step (by omega : k < g.frames.length)]⟩) (by dsimp only; omega) (pe_st hC ?_ ?_ rfl)
    ·try dsimp only [List.cons_append, List.nil_append]
     first | refine SubF.cons rfl ?_ | (refine SubF.ent rfl ?_ ?_; · exact ent_auto)
     first | refine SubF.cons rfl ?_ | (refine SubF.ent rfl ?_ ?_; · exact ent_auto)
     first | refine SubF.cons rfl ?_ | (refine SubF.ent rfl ?_ ?_; · exact ent_auto)
     first | refine SubF.cons rfl ?_ | (refine SubF.ent rfl ?_ ?_; · exact ent_auto)
     first | refine SubF.cons rfl ?_ | (refine SubF.ent rfl ?_ ?_; · exact ent_auto)
     exact SubF.nil
    ·try dsimp only [List.cons_append, List.nil_append]
     repeat (first | exact SubL.nil | refine SubL.cons rfl ?_)
   ·(try simp only [cq1, cq2, cq3, cq4, cq5, cq6, cq7, cq8, cq9, cq10, cq11, cq12, cq13] at h27)
    have hs : siteF g.frames.length k g.frames[k] = (g.frames[k].fn, g.frames[k].pc) := by unfold siteF; rw [if_neg (by rintro ⟨h1, h2⟩; rcases h27 with h | h; exact absurd h1 (by omega); rw [h2] at h; cases h)]
    refine tr_skip ?_
    refine pe_then_normal ?_
    refine tr_sub hC (.cons (t := 1) rfl (.cons (t := 3) rfl (.cons (t := 5) rfl (.cons (t := 6) rfl (.cons (t := 8) rfl (.cons (t := 9) rfl (.cons (t := 10) rfl .nil))))))) (.cons (t := 600) rfl (.cons (t := 1) rfl (.cons (t := 5) rfl .nil))) rfl ?_
    refine tr_region (fun N8 hN => ?_)
    refine lx (op_move rfl) rfl ?_
    refine lx (op_fieldAddr rfl fl60_0 sz3) rfl ?_
    refine lx (op_bload_one (m := 5) rfl rfl ag3 rfl) rfl ?_
    refine lx (op_move rfl) rfl ?_
    refine lx (OpJ.ent (op_build (qs := [_, _]) (parts := [(0, (Go.Operand.tmp 32)), (1, (Go.Operand.tmp 33))]) ze56 rfl rfl fs56 (.cons rfl (.one (by (first | exact One.eq rfl | exact One.mv _ _ _ _ _ | exact One.cl _ _ _ | exact One.map _ | exact One.sl _ _ _ | exact One.row _ _ _ _ | exact One.msl _ _ _ _ | exact One.ptr _ _ | exact One.b _ | exact One.cells _))) fl56_0 sz3 rfl (.cons rfl (.one (by (first | exact One.eq rfl | exact One.mv _ _ _ _ _ | exact One.cl _ _ _ | exact One.map _ | exact One.sl _ _ _ | exact One.row _ _ _ _ | exact One.msl _ _ _ _ | exact One.ptr _ _ | exact One.b _ | exact One.cells _))) fl56_1 sz3 rfl .nil)) rfl rfl) (show Ent _ (aggP (sip (siteF g.frames.length k g.frames[k]))) from (by rw [hs]; exact ent_auto))) rfl ?_
    refine lx (op_buildSlice (f := sip) (xs := [siteF g.frames.length k g.frames[k]]) (l := [(0, (Go.Operand.tmp 34))]) ze56 rfl rfl (by decide) el53 sz56 sip_len (.cons rfl (.agg rfl) .nil) rfl (by decide)) rfl ?_
    refine lxr (op_append (m := 600) (m' := 600) (kk := 36) rfl rfl rfl (.inl rfl) el53 ze56 sz56 by56 rfl sip_len (by rw [List.length_singleton]; omega) (by rw [List.length_singleton]; omega)) rfl ?_
    refine lx (op_assign rfl) rfl ?_
    refine lx_end ⟨by kernel_rfl, ?_⟩
    refine pe_block_normal ?_
    refine pe_then_normal ?_
    refine tr_sub hC (.cons (t := 1) rfl (.cons (t := 3) rfl (.cons (t := 8) rfl (.cons (t := 9) rfl (.cons (t := 10) rfl .nil))))) (.cons (t := 1) rfl (.cons (t := 600) rfl .nil)) rfl ?_
    refine tr_region (fun N9 hN => ?_)
    refine lx (op_add rfl rfl (by omega)) rfl ?_
    refine lx (op_move rfl) rfl ?_
    refine lx_end ⟨by kernel_rfl, ?_⟩
    refine pe_round (⟨(k + 1, ss ++ [siteF g.frames.length k g.frames[k]], (N8, 36)), by dsimp only; omega, by dsimp only; rw [hss, sites_step (by omega : k < g.frames.length)]⟩) (by dsimp only; omega) (pe_st hC ?_ ?_ rfl)
    ·try dsimp only [List.cons_append, List.nil_append]
     first | refine SubF.cons rfl ?_ | (refine SubF.ent rfl ?_ ?_; · exact ent_auto)
     first | refine SubF.cons rfl ?_ | (refine SubF.ent rfl ?_ ?_; · exact ent_auto)
     first | refine SubF.cons rfl ?_ | (refine SubF.ent rfl ?_ ?_; · exact ent_auto)
     first | refine SubF.cons rfl ?_ | (refine SubF.ent rfl ?_ ?_; · exact ent_auto)
     first | refine SubF.cons rfl ?_ | (refine SubF.ent rfl ?_ ?_; · exact ent_auto)
     exact SubF.nil
    ·try dsimp only [List.cons_append, List.nil_append]
     repeat (first | exact SubL.nil | refine SubL.cons rfl ?_)
  ·(try simp only [cq1, cq2, cq3, cq4, cq5, cq6, cq7, cq8, cq9, cq10, cq11, cq12, cq13] at h11)
   have hfin : ss = sitesF g.frames := by rw [hss, sites_all (by omega)]
   refine tr_exit ?_
   refine pe_then_exit ?_
   refine pe_then_exit ?_
   refine pe_block_eq ?_
   refine pe_then_normal ?_
   refine tr_sub hC (.cons (t := 3) rfl .nil) (.cons (t := 600) rfl .nil) rfl ?_
   refine tr_seq ?_
   refine tr_region (fun N10 hN => ?_)
   refine lx (op_move rfl) rfl ?_
   refine lx (op_assign rfl) rfl ?_
   refine lx_end ⟨by kernel_rfl, ?_⟩
   refine pe_then_normal ?_
   refine tr_sub hC (.cons (t := 2) rfl .nil) (.cons (t := 600) rfl .nil) rfl ?_
   refine tr_ret ?_
   refine pe_ret1 rfl hO rfl (.tmp rfl .nil) ?_
   exact Ent.trans (Ent.row _ _ _ _) (Ent.of_eq (by rw [hfin]))
end Go.Proofs.Ythiknhmoefbanaa


set_option linter.unusedVariables false
set_option linter.unusedSimpArgs false
namespace Go.Proofs.Ythiknhmoefbanaa
open Go.AL Go.Ch Go.Hp Go.RowKit
theorem fn38 : fnB Try.prog 38 = true := by kernel_rfl
set_option maxHeartbeats 1000000 in
theorem Set_ok (g : Gr) (hb : BdG 1048576 g) (hn : g.frames.length ≤ 100000) (r : Int) (v : V) : FnP Try.prog 25 [aggP g.ps, eqP (.int .i64 r), aggP (vp v)] (aggP (setF g r v).ps) := by
 have hb4 : BdG 4000000 g := hb.mono (by decide)
 refine fn_pure' Try.func25 rfl Try.ntmps25 rfl ?_
 intro σ0 M ex Rf R hC hO
 have hC0 := hC
 simp only [frameOf, tokOf]
 refine tr_seq ?_
 refine tr_region (fun N0 hN => ?_)
 refine lxn (op_box (m := 3) (k := 3) rfl (.agg rfl) (by first | exact hC.low _ (by decide) | rfl)) rfl ?_
 refine lxn (op_box (m := 5) (k := 5) rfl (.agg rfl) (by first | exact hC.low _ (by decide) | rfl)) rfl ?_
 refine lxn (op_alloc (m := 6) (k := 6) (ps := [eqP (.int .i64 0), eqP (.int .i64 0), eqP (.int .i64 0), eqP (.slice none 0 0)]) ze29 rfl rfl (by first | exact hC.low _ (by decide) | rfl)) rfl ?_
 refine lx_end ⟨by kernel_rfl, ?_⟩
 refine pe_then_normal ?_
 refine tr_sub hC (.cons (t := 1) rfl (.cons (t := 3) rfl (.cons (t := 5) rfl (.cons (t := 6) rfl .nil)))) (.cons (t := 3) rfl (.cons (t := 5) rfl (.cons (t := 6) rfl .nil))) rfl ?_
 refine tr_seq ?_
 refine tr_region (fun N1 hN => ?_)
 refine lx (op_bload (m := 3) rfl rfl ag29 sz29) rfl ?_
 first | refine lx_any rfl (op_callFam (l := [(Go.Operand.tmp 8)]) (K := 2 * g.frames.length) 602 200 (own_fam g hb4 hn) (fun ι => rfl) (.cons rfl .nil) fn38 (by omega) rfl (by first | exact hC.low _ (by decide) | rfl) (fam_free hC (by omega) rfl)) (dOK_spec rfl) ?_ | refine lx_any rfl (op_callFam (l := [(Go.Operand.tmp 8)]) (K := 2 * g.frames.length) 602 200 (own_fam g hb4 hn) (fun ι => rfl) (.ent rfl (by exact ent_auto) .nil) fn38 (by omega) rfl (by first | exact hC.low _ (by decide) | rfl) (fam_free hC (by omega) rfl)) (dOK_spec rfl) ?_
 refine lx_tail _ (fam_upd rfl) (fun _ _ _ _ e h => ⟨h.1, post_congr e h.2⟩) ?_
 refine lxr (op_store_all (m := 3) rfl rfl rfl (.agg rfl) sz29 rfl) rfl ?_
 refine lx_end ⟨nodup_one _ _, ?_⟩
 refine pe_then_normal ?_
 refine tr_post (fun X hX => post_famIn2 (K := 2 * g.frames.length) (ids := fun j => fid N1 (200) (2 * g.frames.length) (j + 1)) (r := famR 43 47 g.frames) hC (by omega) (.cons (t := 3) rfl (.cons (t := 5) rfl (.cons (t := 6) rfl (.cons (t := 602) rfl .nil)))) rfl (fun j hj => by simp only [updL, addL, delL, List.cons_append, List.nil_append, lk_cons]; (repeat (rw [if_neg (by omega)])); exact lk_famT_at hj) (fun n hn => by simp only [updL, addL, delL, List.cons_append, List.nil_append, lk_cons]; (repeat (rw [if_neg (by omega)])); exact lk_famT_none (fun j hj => by omega)) hX) ?_
 have hC : CxOK (famC ⟨σ0, M, ex, Rf, 35⟩ (2 * g.frames.length) (fun j => fid N1 (200) (2 * g.frames.length) (j + 1)) (famR 43 47 g.frames)) := famC_ok
 refine tr_sub hC (.cons (t := 1) rfl (.cons (t := 3) rfl (.cons (t := 5) rfl (.cons (t := 6) rfl .nil)))) (.cons (t := 3) rfl (.cons (t := 5) rfl (.cons (t := 6) rfl (.cons (t := 602) rfl .nil)))) rfl ?_
 rcases hl : g.frames.length with _ | q
 ·have hC : CxOK (famC ⟨σ0, M, ex, Rf, 35⟩ (2 * 0) (fun j => fid N1 (200) (2 * 0) (j + 1)) (famR 43 47 g.frames)) := famC_ok
  refine tr_post (fun X hX => post_rowEq (n := 602) rfl ((rowE_full (m := 0) (by omega)).symm) hX) ?_
  refine tr_post (fun X hX => post_sealFm (n := 602) (t := 699) hC0 rfl (by omega) (by omega) rfl (.inl rfl) rfl hX) ?_
  have hC := hC0
  refine tr_post (fun X hX => post_rowPs (n := 602) rfl (rowPure0 hl) hX) ?_
  refine tr_bound 698 (m := 602) rfl ?_
  refine tr_freeze (m := 602) rfl (.cons (t := 1) rfl (.cons (t := 3) rfl (.cons (t := 5) rfl (.cons (t := 6) rfl (.ent (t := 698) rfl FEnt.frz_bound .nil))))) ?_
  refine tr_thaw (t := 698) (n := 3) (qs' := _) rfl (.cons (t := 1) rfl (.cons (t := 3) rfl (.cons (t := 5) rfl (.cons (t := 6) rfl .nil)))) rfl (.cons (.of (Ent.refl _)) (.cons (.of (Ent.refl _)) (.cons (.of (Ent.refl _)) (.cons (fment_row Fm.len hl.symm) .nil)))) ?_
  refine tr_seq ?_
  refine tr_seq ?_
  refine tr_region (fun N2 hN => ?_)
  refine lx (op_bload (m := 3) rfl rfl ag29 sz29) rfl ?_
  first | refine lx (op_call (l := [(Go.Operand.tmp 10)]) (cur_pure0 g hl) (.cons rfl .nil) fn40) rfl ?_ | refine lx (op_call (l := [(Go.Operand.tmp 10)]) (cur_pure0 g hl) (.ent rfl (by exact ent_auto) .nil) fn40) rfl ?_
  refine lx (op_assign rfl) rfl ?_
  refine lx_end ⟨by kernel_rfl, ?_⟩
  refine pe_then_normal ?_
  refine tr_sub hC (.cons (t := 1) rfl (.cons (t := 3) rfl (.cons (t := 5) rfl (.cons (t := 6) rfl (.cons (t := 7) rfl .nil))))) (.cons (t := 3) rfl (.cons (t := 5) rfl (.cons (t := 6) rfl .nil))) rfl ?_
  refine tr_seq ?_
  refine tr_region (fun N3 hN => ?_)
  refine lx (op_move rfl) rfl ?_
  first | refine lxk (op_neq_ptr pt73 rfl (IsPtr.own _ _)) (rfl) rfl ?_ | refine lxk (op_neq_ptr pt73 rfl (IsPtr.cells _)) (rfl) rfl ?_ | refine lxk (op_neq_ptr pt73 rfl (IsPtr.nil)) (rfl) rfl ?_
  refine lx (op_move rfl) rfl ?_
  refine lx_skip rfl rfl rfl (by first | exact notThe_bool rfl | exact notThe_undef) rfl ?_
  refine lx_skip rfl rfl rfl (by first | exact notThe_bool rfl | exact notThe_undef) rfl ?_
  refine lx (op_pick_f rfl rfl) rfl ?_
  refine lx (op_move rfl) rfl ?_
  refine lx_skip rfl rfl rfl (by first | exact notThe_bool rfl | exact notThe_undef) rfl ?_
  refine lx_skip rfl rfl rfl (by first | exact notThe_bool rfl | exact notThe_undef) rfl ?_
  refine lx_skip rfl rfl rfl (by first | exact notThe_bool rfl | exact notThe_undef) rfl ?_
  refine lx_skip rfl rfl rfl (by first | exact notThe_bool rfl | exact notThe_undef) rfl ?_
  refine lx_skip rfl rfl rfl (by first | exact notThe_bool rfl | exact notThe_undef) rfl ?_
  refine lx_skip rfl rfl rfl (by first | exact notThe_bool rfl | exact notThe_undef) rfl ?_
  refine lx_skip rfl rfl rfl (by first | exact notThe_bool rfl | exact notThe_undef) rfl ?_
  refine lx (op_pick_f rfl rfl) rfl ?_
  refine lx_end ⟨by kernel_rfl, ?_⟩
  refine pe_then_normal ?_
  refine tr_sub hC (.cons (t := 1) rfl (.cons (t := 3) rfl (.cons (t := 5) rfl (.cons (t := 6) rfl (.cons (t := 7) rfl (.cons (t := 26) rfl .nil)))))) (.cons (t := 3) rfl (.cons (t := 5) rfl (.cons (t := 6) rfl .nil))) rfl ?_
  refine tr_cond_f rfl ?_
  refine tr_skip ?_
  refine pe_then_normal ?_
  refine tr_sub hC (.cons (t := 3) rfl (.cons (t := 6) rfl .nil)) (.cons (t := 3) rfl (.cons (t := 6) rfl .nil)) rfl ?_
  refine tr_seq ?_
  refine tr_region (fun N5 hN => ?_)
  refine lx (op_bload (m := 3) rfl rfl ag29 sz29) rfl ?_
  refine lxr (op_store_all (m := 6) rfl rfl rfl (.agg rfl) sz29 rfl) rfl ?_
  refine lx_end ⟨by kernel_rfl, ?_⟩
  refine pe_then_normal ?_
  refine tr_sub hC (.cons (t := 6) rfl .nil) (.cons (t := 6) rfl .nil) rfl ?_
  refine tr_ret ?_
  refine pe_ret1 rfl hO rfl (.cell (m := 6) rfl rfl ag29 sz29 .nil) ?_
  rw [set_none hl]
  exact ent_auto
 ·have hC : CxOK (famC ⟨σ0, M, ex, Rf, 35⟩ (2 * (q + 1)) (fun j => fid N1 (200) (2 * (q + 1)) (j + 1)) (famR 43 47 g.frames)) := famC_ok
  obtain ⟨f, hq⟩ : ∃ f, g.frames[q]? = some f := ⟨_, List.getElem?_eq_getElem (by omega)⟩
  have hbf := hb.each f (List.mem_of_getElem? hq)
  have hbr := hbf.regs
  have hbd := hbf.defers
  refine tr_post (fun X hX => post_rowEq (n := 602) rfl (rowE_first hq hl) hX) ?_
  refine tr_post (fun X hX => post_famK (show 2 * (q + 1) = 2 * q + 2 by omega) hX) ?_
  have hC : CxOK (famC ⟨σ0, M, ex, Rf, 35⟩ (2 * q + 2) (fun j => fid N1 (200) (2 * (q + 1)) (j + 1)) (famR 43 47 g.frames)) := famC_ok
  refine tr_post (fun X hX => post_take2 605 606 hq rfl rfl (by omega) rfl (.inl rfl) (.inl rfl) hX) ?_
  have hC : CxOK (famC ⟨σ0, M, ex, Rf, 35⟩ (2 * q) (fun j => fid N1 (200) (2 * (q + 1)) (j + 1)) (famR 43 47 g.frames)) := famC_ok
  refine tr_seq ?_
  refine tr_seq ?_
  refine tr_region (fun N2 hN => ?_)
  refine lx (op_bload (m := 3) rfl rfl ag29 sz29) rfl ?_
  first | refine lx (op_call (l := [(Go.Operand.tmp 10)]) (cur_some _ _ _ _ q _ (by omega)) (.cons rfl .nil) fn40) rfl ?_ | refine lx (op_call (l := [(Go.Operand.tmp 10)]) (cur_some _ _ _ _ q _ (by omega)) (.ent rfl (by exact ent_auto) .nil) fn40) rfl ?_
  refine lx (op_assign rfl) rfl ?_
  refine lx_end ⟨by kernel_rfl, ?_⟩
  refine pe_then_normal ?_
  refine tr_sub hC (.cons (t := 1) rfl (.cons (t := 3) rfl (.cons (t := 5) rfl (.cons (t := 6) rfl (.cons (t := 7) rfl .nil))))) (.cons (t := 3) rfl (.cons (t := 5) rfl (.cons (t := 6) rfl (.cons (t := 602) rfl (.cons (t := 605) rfl (.cons (t := 606) rfl .nil)))))) rfl ?_
  refine tr_seq ?_
  refine tr_region (fun N3 hN => ?_)
  refine lx (op_move rfl) rfl ?_
  first | refine lxk (op_neq_ptr pt73 rfl (IsPtr.own _ _)) (rfl) rfl ?_ | refine lxk (op_neq_ptr pt73 rfl (IsPtr.cells _)) (rfl) rfl ?_ | refine lxk (op_neq_ptr pt73 rfl (IsPtr.nil)) (rfl) rfl ?_
  refine lx (op_move rfl) rfl ?_
  refine lxg rfl rfl rfl (op_move rfl) rfl ?_
  refine lxg rfl rfl rfl (op_geq rfl rfl) rfl ?_
  refine lx (op_pick_t rfl rfl) rfl ?_
  refine lx (op_move rfl) rfl ?_
  refine lxs rfl rfl rfl guard_eq (.cons (t := 1) rfl (fun _ => Ent.refl _) .nil) (op_move rfl) rfl ?_
  refine lxs rfl rfl rfl guard_eq (.cons (t := 7) rfl (fun _ => Ent.refl _) .nil) (op_move rfl) rfl ?_
  first | refine lxs rfl rfl rfl guard_eq (.cons (t := 20) rfl (fun h => entW h) .nil) (op_nilCheck rfl) rfl ?_ | refine lxs rfl rfl rfl guard_eq (.cons (t := 20) rfl (fun h => entW h) .nil) (op_nilCheckC rfl) rfl ?_
  refine lxs rfl rfl rfl guard_eq (.cons (t := 21) rfl (fun h => entW h) .nil) (op_fieldAddr rfl fl60_2 sz33) rfl ?_
  refine lxs rfl rfl rfl guard_eq (.cons (t := 22) rfl (fun h => entW h) .nil) (op_tload_one (m := 602) (j := q) (fo := 2) rfl rfl ag33 fmE_len (by omega) (rowE_top (by omega)) rfl) rfl ?_
  first | refine lxs rfl rfl rfl guard_eq (.cons (t := 23) rfl (fun h => entW h) .nil) (op_len rfl el33) rfl ?_ | refine lxs rfl rfl rfl guard_eq (.cons (t := 23) rfl (fun h => entW h) .nil) (op_len_row rfl el33) rfl ?_ | refine lxs rfl rfl rfl guard_eq (.cons (t := 23) rfl (fun h => entW h) .nil) (op_len_mv rfl el33) rfl ?_ | refine lxs rfl rfl rfl guard_eq (.cons (t := 23) rfl (fun h => entW h) .nil) (op_len_nil rfl el33) rfl ?_
  refine lxs rfl rfl rfl guard_eq (.cons (t := 19) rfl (fun h => entW h) (.cons (t := 24) rfl (fun h => entW h) .nil)) (op_lss rfl rfl) rfl ?_
  refine lx (op_pick_and rfl rfl) rfl ?_
  refine lx_end ⟨by kernel_rfl, ?_⟩
  refine pe_then_normal ?_
  refine tr_sub hC (.cons (t := 1) rfl (.cons (t := 3) rfl (.cons (t := 5) rfl (.cons (t := 6) rfl (.cons (t := 7) rfl (.cons (t := 26) rfl .nil)))))) (.cons (t := 3) rfl (.cons (t := 5) rfl (.cons (t := 6) rfl (.cons (t := 602) rfl (.cons (t := 605) rfl (.cons (t := 606) rfl .nil)))))) rfl ?_
  refine tr_cond rfl (fun h26 => ?_) (fun h26 => ?_)
  ·(try simp only [cq1, cq2, cq3, cq4, cq5, cq6, cq7, cq8, cq9, cq10, cq11, cq12, cq13] at h26)
   have hs := set_in (r := r) (v := v) hq hl (by omega)
   refine tr_drawn mixed (fun N4 hN => ?_)
   refine lx (op_move rfl) rfl ?_
   first | refine lx (op_nilCheck rfl) rfl ?_ | refine lx (op_nilCheckC rfl) rfl ?_
   refine lx (op_fieldAddr rfl fl60_2 sz33) rfl ?_
   refine lx (op_tload_one (m := 602) (j := q) (fo := 2) rfl rfl ag33 fmE_len (by omega) (rowE_top (by omega)) rfl) rfl ?_
   refine lx (op_move rfl) rfl ?_
   refine lx (op_bload (m := 5) rfl rfl ag43 sz43) rfl ?_
   refine lx (op_index_mv rfl rfl el33 sz43 (by omega : r = ((r.toNat : Nat) : Int)) (show r.toNat < f.regs.length by omega)) rfl ?_
   refine lxr (op_tstore (m := 605) (j := r.toNat) (fo := 0) (z' := v) rfl rfl rfl (.agg rfl) sz43 rfl vp_len (by omega) (List.getElem?_eq_getElem (by omega : r.toNat < f.regs.length)) rfl rfl) rfl ?_
   refine lx_end ⟨by kernel_rfl, ?_⟩
   refine pe_then_normal ?_
   refine tr_sub hC (.cons (t := 3) rfl (.cons (t := 6) rfl .nil)) (.cons (t := 3) rfl (.cons (t := 6) rfl (.cons (t := 602) rfl (.cons (t := 605) rfl (.cons (t := 606) rfl .nil))))) rfl ?_
   refine tr_post (fun X hX => post_seal (m := 605) (n := 602) rfl rfl (by decide) (seal_regs (by simp)) hX) ?_
   refine tr_post (fun X hX => post_seal (m := 606) (n := 602) rfl rfl (by decide) (seal_defs (by simp)) hX) ?_
   refine tr_post (fun X hX => post_sealFm (n := 602) (t := 699) hC0 rfl (by omega) (by omega) rfl (.inl rfl) rfl hX) ?_
   have hC := hC0
   refine tr_post (fun X hX => post_rowPs (n := 602) rfl rowPure1 hX) ?_
   refine tr_bound 698 (m := 602) rfl ?_
   refine tr_freeze (m := 602) rfl (.cons (t := 3) rfl (.cons (t := 6) rfl (.ent (t := 698) rfl FEnt.frz_bound .nil))) ?_
   refine tr_thaw (t := 698) (n := 3) (qs' := _) rfl (.cons (t := 3) rfl (.cons (t := 6) rfl .nil)) rfl (.cons (.of (Ent.refl _)) (.cons (.of (Ent.refl _)) (.cons (.of (Ent.refl _)) (.cons (fment_row Fm.len (take_app_len hl)) .nil)))) ?_
   refine tr_seq ?_
   refine tr_region (fun N5 hN => ?_)
   refine lx (op_bload (m := 3) rfl rfl ag29 sz29) rfl ?_
   refine lxr (op_store_all (m := 6) rfl rfl rfl (.agg rfl) sz29 rfl) rfl ?_
   refine lx_end ⟨by kernel_rfl, ?_⟩
   refine pe_then_normal ?_
   refine tr_sub hC (.cons (t := 6) rfl .nil) (.cons (t := 6) rfl .nil) rfl ?_
   refine tr_ret ?_
   refine pe_ret1 rfl hO rfl (.cell (m := 6) rfl rfl ag29 sz29 .nil) ?_
   rw [hs]
   exact ent_auto
  ·(try simp only [cq1, cq2, cq3, cq4, cq5, cq6, cq7, cq8, cq9, cq10, cq11, cq12, cq13] at h26)
   have hs := set_out (r := r) (v := v) hq hl (by omega)
   refine tr_skip ?_
   refine pe_then_normal ?_
   refine tr_sub hC (.cons (t := 3) rfl (.cons (t := 6) rfl .nil)) (.cons (t := 3) rfl (.cons (t := 6) rfl (.cons (t := 602) rfl (.cons (t := 605) rfl (.cons (t := 606) rfl .nil))))) rfl ?_
   refine tr_post (fun X hX => post_seal (m := 605) (n := 602) rfl rfl (by decide) (seal_regs (by simp)) hX) ?_
   refine tr_post (fun X hX => post_seal (m := 606) (n := 602) rfl rfl (by decide) (seal_defs (by simp)) hX) ?_
   refine tr_post (fun X hX => post_sealFm (n := 602) (t := 699) hC0 rfl (by omega) (by omega) rfl (.inl rfl) rfl hX) ?_
   have hC := hC0
   refine tr_post (fun X hX => post_rowPs (n := 602) rfl rowPure1 hX) ?_
   refine tr_bound 698 (m := 602) rfl ?_
   refine tr_freeze (m := 602) rfl (.cons (t := 3) rfl (.cons (t := 6) rfl (.ent (t := 698) rfl FEnt.frz_bound .nil))) ?_
   refine tr_thaw (t := 698) (n := 3) (qs' := _) rfl (.cons (t := 3) rfl (.cons (t := 6) rfl .nil)) rfl (.cons (.of (Ent.refl _)) (.cons (.of (Ent.refl _)) (.cons (.of (Ent.refl _)) (.cons (fment_row Fm.len (take_app_len hl)) .nil)))) ?_
   refine tr_seq ?_
   refine tr_region (fun N5 hN => ?_)
   refine lx (op_bload (m := 3) rfl rfl ag29 sz29) rfl ?_
   refine lxr (op_store_all (m := 6) rfl rfl rfl (.agg rfl) sz29 rfl) rfl ?_
   refine lx_end ⟨by kernel_rfl, ?_⟩
   refine pe_then_normal ?_
   refine tr_sub hC (.cons (t := 6) rfl .nil) (.cons (t := 6) rfl .nil) rfl ?_
   refine tr_ret ?_
   refine pe_ret1 rfl hO rfl (.cell (m := 6) rfl rfl ag29 sz29 .nil) ?_
   rw [hs]
   exact ent_auto
end Go.Proofs.Ythiknhmoefbanaa


set_option linter.unusedVariables false
set_option linter.unusedSimpArgs false
namespace Go.Proofs.Ythiknhmoefbanaa
open Go.AL Go.Ch Go.Hp Go.RowKit
theorem fn16 : fnB Try.prog 16 = true := by kernel_rfl
set_option maxHeartbeats 1000000 in
theorem Defer_ok (g : Gr) (hb : BdG 1048576 g) (hn : g.frames.length ≤ 100000) (d : Df) (hd : d.args.length ≤ 1048576) : FnP Try.prog 23 [aggP g.ps, aggP d.ps] (aggP (deferF g d).ps) := by
 have hb4 : BdG 4000000 g := hb.mono (by decide)
 refine fn_pure' Try.func23 rfl Try.ntmps23 rfl ?_
 intro σ0 M ex Rf R hC hO
 have hC0 := hC
 simp only [frameOf, tokOf]
 refine tr_seq ?_
 refine tr_region (fun N0 hN => ?_)
 refine lxn (op_box (m := 2) (k := 2) rfl (.agg rfl) (by first | exact hC.low _ (by decide) | rfl)) rfl ?_
 refine lxn (op_box (m := 3) (k := 3) rfl (.agg rfl) (by first | exact hC.low _ (by decide) | rfl)) rfl ?_
 refine lxn (op_alloc (m := 4) (k := 4) (ps := [eqP (.int .i64 0), eqP (.int .i64 0), eqP (.int .i64 0), eqP (.slice none 0 0)]) ze29 rfl rfl (by first | exact hC.low _ (by decide) | rfl)) rfl ?_
 refine lx_end ⟨by kernel_rfl, ?_⟩
 refine pe_then_normal ?_
 refine tr_sub hC (.cons (t := 2) rfl (.cons (t := 3) rfl (.cons (t := 4) rfl .nil))) (.cons (t := 2) rfl (.cons (t := 3) rfl (.cons (t := 4) rfl .nil))) rfl ?_
 refine tr_seq ?_
 refine tr_region (fun N1 hN => ?_)
 refine lx (op_bload (m := 2) rfl rfl ag29 sz29) rfl ?_
 first | refine lx_any rfl (op_callFam (l := [(Go.Operand.tmp 6)]) (K := 2 * g.frames.length) 602 200 (own_fam g hb4 hn) (fun ι => rfl) (.cons rfl .nil) fn38 (by omega) rfl (by first | exact hC.low _ (by decide) | rfl) (fam_free hC (by omega) rfl)) (dOK_spec rfl) ?_ | refine lx_any rfl (op_callFam (l := [(Go.Operand.tmp 6)]) (K := 2 * g.frames.length) 602 200 (own_fam g hb4 hn) (fun ι => rfl) (.ent rfl (by exact ent_auto) .nil) fn38 (by omega) rfl (by first | exact hC.low _ (by decide) | rfl) (fam_free hC (by omega) rfl)) (dOK_spec rfl) ?_
 refine lx_tail _ (fam_upd rfl) (fun _ _ _ _ e h => ⟨h.1, post_congr e h.2⟩) ?_
 refine lxr (op_store_all (m := 2) rfl rfl rfl (.agg rfl) sz29 rfl) rfl ?_
 refine lx_end ⟨nodup_one _ _, ?_⟩
 refine pe_then_normal ?_
 refine tr_post (fun X hX => post_famIn2 (K := 2 * g.frames.length) (ids := fun j => fid N1 (200) (2 * g.frames.length) (j + 1)) (r := famR 43 47 g.frames) hC (by omega) (.cons (t := 2) rfl (.cons (t := 3) rfl (.cons (t := 4) rfl (.cons (t := 602) rfl .nil)))) rfl (fun j hj => by simp only [updL, addL, delL, List.cons_append, List.nil_append, lk_cons]; (repeat (rw [if_neg (by omega)])); exact lk_famT_at hj) (fun n hn => by simp only [updL, addL, delL, List.cons_append, List.nil_append, lk_cons]; (repeat (rw [if_neg (by omega)])); exact lk_famT_none (fun j hj => by omega)) hX) ?_
 have hC : CxOK (famC ⟨σ0, M, ex, Rf, 27⟩ (2 * g.frames.length) (fun j => fid N1 (200) (2 * g.frames.length) (j + 1)) (famR 43 47 g.frames)) := famC_ok
 refine tr_sub hC (.cons (t := 2) rfl (.cons (t := 3) rfl (.cons (t := 4) rfl .nil))) (.cons (t := 2) rfl (.cons (t := 3) rfl (.cons (t := 4) rfl (.cons (t := 602) rfl .nil)))) rfl ?_
 rcases hl : g.frames.length with _ | q
 ·have hC : CxOK (famC ⟨σ0, M, ex, Rf, 27⟩ (2 * 0) (fun j => fid N1 (200) (2 * 0) (j + 1)) (famR 43 47 g.frames)) := famC_ok
  refine tr_post (fun X hX => post_rowEq (n := 602) rfl ((rowE_full (m := 0) (by omega)).symm) hX) ?_
  refine tr_post (fun X hX => post_sealFm (n := 602) (t := 699) hC0 rfl (by omega) (by omega) rfl (.inl rfl) rfl hX) ?_
  have hC := hC0
  refine tr_post (fun X hX => post_rowPs (n := 602) rfl (rowPure0 hl) hX) ?_
  refine tr_bound 698 (m := 602) rfl ?_
  refine tr_freeze (m := 602) rfl (.cons (t := 2) rfl (.cons (t := 3) rfl (.cons (t := 4) rfl (.ent (t := 698) rfl FEnt.frz_bound .nil)))) ?_
  refine tr_thaw (t := 698) (n := 2) (qs' := _) rfl (.cons (t := 2) rfl (.cons (t := 3) rfl (.cons (t := 4) rfl .nil))) rfl (.cons (.of (Ent.refl _)) (.cons (.of (Ent.refl _)) (.cons (.of (Ent.refl _)) (.cons (fment_row Fm.len hl.symm) .nil)))) ?_
  refine tr_seq ?_
  refine tr_seq ?_
  refine tr_region (fun N2 hN => ?_)
  refine lx (op_bload (m := 2) rfl rfl ag29 sz29) rfl ?_
  first | refine lx (op_call (l := [(Go.Operand.tmp 8)]) (cur_pure0 g hl) (.cons rfl .nil) fn40) rfl ?_ | refine lx (op_call (l := [(Go.Operand.tmp 8)]) (cur_pure0 g hl) (.ent rfl (by exact ent_auto) .nil) fn40) rfl ?_
  refine lx (op_assign rfl) rfl ?_
  refine lx_end ⟨by kernel_rfl, ?_⟩
  refine pe_then_normal ?_
  refine tr_sub hC (.cons (t := 2) rfl (.cons (t := 3) rfl (.cons (t := 4) rfl (.cons (t := 5) rfl .nil)))) (.cons (t := 2) rfl (.cons (t := 3) rfl (.cons (t := 4) rfl .nil))) rfl ?_
  refine tr_seq ?_
  refine tr_region (fun N3 hN => ?_)
  refine lx (op_move rfl) rfl ?_
  first | refine lxk (op_neq_ptr pt73 rfl (IsPtr.own _ _)) (rfl) rfl ?_ | refine lxk (op_neq_ptr pt73 rfl (IsPtr.cells _)) (rfl) rfl ?_ | refine lxk (op_neq_ptr pt73 rfl (IsPtr.nil)) (rfl) rfl ?_
  refine lx_end ⟨by kernel_rfl, ?_⟩
  refine pe_then_normal ?_
  refine tr_sub hC (.cons (t := 2) rfl (.cons (t := 3) rfl (.cons (t := 4) rfl (.cons (t := 5) rfl (.cons (t := 11) rfl .nil))))) (.cons (t := 2) rfl (.cons (t := 3) rfl (.cons (t := 4) rfl .nil))) rfl ?_
  refine tr_cond_f rfl ?_
  refine tr_skip ?_
  refine pe_then_normal ?_
  refine tr_sub hC (.cons (t := 2) rfl (.cons (t := 4) rfl .nil)) (.cons (t := 2) rfl (.cons (t := 4) rfl .nil)) rfl ?_
  refine tr_seq ?_
  refine tr_region (fun N6 hN => ?_)
  refine lx (op_bload (m := 2) rfl rfl ag29 sz29) rfl ?_
  refine lxr (op_store_all (m := 4) rfl rfl rfl (.agg rfl) sz29 rfl) rfl ?_
  refine lx_end ⟨by kernel_rfl, ?_⟩
  refine pe_then_normal ?_
  refine tr_sub hC (.cons (t := 4) rfl .nil) (.cons (t := 4) rfl .nil) rfl ?_
  refine tr_ret ?_
  refine pe_ret1 rfl hO rfl (.cell (m := 4) rfl rfl ag29 sz29 .nil) ?_
  rw [def_none hl]
  exact ent_auto
 ·have hC : CxOK (famC ⟨σ0, M, ex, Rf, 27⟩ (2 * (q + 1)) (fun j => fid N1 (200) (2 * (q + 1)) (j + 1)) (famR 43 47 g.frames)) := famC_ok
  obtain ⟨f, hq⟩ : ∃ f, g.frames[q]? = some f := ⟨_, List.getElem?_eq_getElem (by omega)⟩
  have hbf := hb.each f (List.mem_of_getElem? hq)
  have hbr := hbf.regs
  have hbd := hbf.defers
  refine tr_post (fun X hX => post_rowEq (n := 602) rfl (rowE_first hq hl) hX) ?_
  refine tr_post (fun X hX => post_famK (show 2 * (q + 1) = 2 * q + 2 by omega) hX) ?_
  have hC : CxOK (famC ⟨σ0, M, ex, Rf, 27⟩ (2 * q + 2) (fun j => fid N1 (200) (2 * (q + 1)) (j + 1)) (famR 43 47 g.frames)) := famC_ok
  refine tr_post (fun X hX => post_take2 605 606 hq rfl rfl (by omega) rfl (.inl rfl) (.inl rfl) hX) ?_
  have hC : CxOK (famC ⟨σ0, M, ex, Rf, 27⟩ (2 * q) (fun j => fid N1 (200) (2 * (q + 1)) (j + 1)) (famR 43 47 g.frames)) := famC_ok
  refine tr_seq ?_
  refine tr_seq ?_
  refine tr_region (fun N2 hN => ?_)
  refine lx (op_bload (m := 2) rfl rfl ag29 sz29) rfl ?_
  first | refine lx (op_call (l := [(Go.Operand.tmp 8)]) (cur_some _ _ _ _ q _ (by omega)) (.cons rfl .nil) fn40) rfl ?_ | refine lx (op_call (l := [(Go.Operand.tmp 8)]) (cur_some _ _ _ _ q _ (by omega)) (.ent rfl (by exact ent_auto) .nil) fn40) rfl ?_
  refine lx (op_assign rfl) rfl ?_
  refine lx_end ⟨by kernel_rfl, ?_⟩
  refine pe_then_normal ?_
  refine tr_sub hC (.cons (t := 2) rfl (.cons (t := 3) rfl (.cons (t := 4) rfl (.cons (t := 5) rfl .nil)))) (.cons (t := 2) rfl (.cons (t := 3) rfl (.cons (t := 4) rfl (.cons (t := 602) rfl (.cons (t := 605) rfl (.cons (t := 606) rfl .nil)))))) rfl ?_
  refine tr_seq ?_
  refine tr_region (fun N3 hN => ?_)
  refine lx (op_move rfl) rfl ?_
  first | refine lxk (op_neq_ptr pt73 rfl (IsPtr.own _ _)) (rfl) rfl ?_ | refine lxk (op_neq_ptr pt73 rfl (IsPtr.cells _)) (rfl) rfl ?_ | refine lxk (op_neq_ptr pt73 rfl (IsPtr.nil)) (rfl) rfl ?_
  refine lx_end ⟨by kernel_rfl, ?_⟩
  refine pe_then_normal ?_
  refine tr_sub hC (.cons (t := 2) rfl (.cons (t := 3) rfl (.cons (t := 4) rfl (.cons (t := 5) rfl (.cons (t := 11) rfl .nil))))) (.cons (t := 2) rfl (.cons (t := 3) rfl (.cons (t := 4) rfl (.cons (t := 602) rfl (.cons (t := 605) rfl (.cons (t := 606) rfl .nil)))))) rfl ?_
  refine tr_cond_t rfl ?_
  refine tr_seq ?_
  refine tr_region (fun N4 hN => ?_)
  refine lx (op_fieldAddr rfl fl47_1 sz33) rfl ?_
  refine lx (op_bload_one (m := 3) rfl rfl ag33 rfl) rfl ?_
  first | refine lx (op_call (l := [(Go.Operand.tmp 13)]) (vcl d.args (by omega)) (.cons rfl .nil) fn42) rfl ?_ | refine lx (op_call (l := [(Go.Operand.tmp 13)]) (vcl d.args (by omega)) (.ent rfl (by exact ent_auto) .nil) fn42) rfl ?_
  refine lx (op_fieldAddr rfl fl47_1 sz33) rfl ?_
  refine lxr (op_store (m := 3) (rs := [_, _]) rfl rfl rfl (.one (by (first | exact One.eq rfl | exact One.mv _ _ _ _ _ | exact One.cl _ _ _ | exact One.map _ | exact One.sl _ _ _ | exact One.row _ _ _ _ | exact One.msl _ _ _ _ | exact One.ptr _ _ | exact One.b _ | exact One.cells _))) sz33 rfl rfl rfl) rfl ?_
  refine lx_end ⟨by kernel_rfl, ?_⟩
  refine pe_then_normal ?_
  refine tr_sub hC (.cons (t := 2) rfl (.cons (t := 3) rfl (.cons (t := 4) rfl (.cons (t := 5) rfl .nil)))) (.cons (t := 2) rfl (.cons (t := 3) rfl (.cons (t := 4) rfl (.cons (t := 602) rfl (.cons (t := 605) rfl (.cons (t := 606) rfl .nil)))))) rfl ?_
  refine tr_drawn mixed (fun N5 hN => ?_)
  refine lx (op_move rfl) rfl ?_
  refine lx (op_move rfl) rfl ?_
  first | refine lx (op_nilCheck rfl) rfl ?_ | refine lx (op_nilCheckC rfl) rfl ?_
  refine lx (op_fieldAddr rfl fl60_4 sz58) rfl ?_
  refine lx (op_tload_one (m := 602) (j := q) (fo := 4) rfl rfl ag58 fmE_len (by omega) (rowE_top (by omega)) rfl) rfl ?_
  refine lx (op_bload (m := 3) rfl rfl ag47 sz47) rfl ?_
  refine lx (op_buildSlice (f := Df.ps) (xs := [d]) (l := [(0, (Go.Operand.tmp 21))]) ze47 rfl rfl (by decide) el58 sz47 Df.len (.cons rfl (.agg rfl) .nil) rfl (by decide)) rfl ?_
  refine lxr (op_append_t (m := 606) (m' := 606) (kk := 23) (f := Df.ps) rfl rfl rfl (.inl rfl) el58 ze47 sz47 by47 rfl (by decide) Df.len (by rw [List.length_singleton]; show f.defers.length + 1 ≤ _; omega) (by rw [List.length_singleton]; show (f.defers.length + 1) * _ ≤ _; omega)) rfl ?_
  first | refine lx (op_nilCheck rfl) rfl ?_ | refine lx (op_nilCheckC rfl) rfl ?_
  refine lx (op_fieldAddr rfl fl60_4 sz58) rfl ?_
  refine lxr (op_tstore (m := 602) (j := q) (fo := 4) (z' := ⟨{ f with defers := f.defers ++ [d] }, some ((fun j => fid N1 (200) (2 * (q + 1)) (j + 1)) (2 * q)), some (N5, 23)⟩) rfl rfl rfl (.one (by (first | exact One.eq rfl | exact One.mv _ _ _ _ _ | exact One.cl _ _ _ | exact One.map _ | exact One.sl _ _ _ | exact One.row _ _ _ _ | exact One.msl _ _ _ _ | exact One.ptr _ _ | exact One.b _ | exact One.cells _))) sz58 rfl fmE_len (by omega) (rowE_top (by omega)) rfl rfl) rfl ?_
  refine lx_end ⟨by kernel_rfl, ?_⟩
  refine pe_then_normal ?_
  refine tr_sub hC (.cons (t := 2) rfl (.cons (t := 4) rfl .nil)) (.cons (t := 2) rfl (.cons (t := 4) rfl (.cons (t := 602) rfl (.cons (t := 605) rfl (.cons (t := 606) rfl .nil))))) rfl ?_
  have hs := def_some (d := d) hq hl
  refine tr_post (fun X hX => post_rowEq (n := 602) rfl (rowE_set (by omega)) hX) ?_
  refine tr_post (fun X hX => post_seal (m := 605) (n := 602) rfl rfl (by decide) (seal_regs (by simp)) hX) ?_
  refine tr_post (fun X hX => post_seal (m := 606) (n := 602) rfl rfl (by decide) (seal_defs (by simp)) hX) ?_
  refine tr_post (fun X hX => post_sealFm (n := 602) (t := 699) hC0 rfl (by omega) (by omega) rfl (.inl rfl) rfl hX) ?_
  have hC := hC0
  refine tr_post (fun X hX => post_rowPs (n := 602) rfl rowPure1 hX) ?_
  refine tr_bound 698 (m := 602) rfl ?_
  refine tr_freeze (m := 602) rfl (.cons (t := 2) rfl (.cons (t := 4) rfl (.ent (t := 698) rfl FEnt.frz_bound .nil))) ?_
  refine tr_thaw (t := 698) (n := 2) (qs' := _) rfl (.cons (t := 2) rfl (.cons (t := 4) rfl .nil)) rfl (.cons (.of (Ent.refl _)) (.cons (.of (Ent.refl _)) (.cons (.of (Ent.refl _)) (.cons (fment_row Fm.len (take_app_len hl)) .nil)))) ?_
  refine tr_seq ?_
  refine tr_region (fun N6 hN => ?_)
  refine lx (op_bload (m := 2) rfl rfl ag29 sz29) rfl ?_
  refine lxr (op_store_all (m := 4) rfl rfl rfl (.agg rfl) sz29 rfl) rfl ?_
  refine lx_end ⟨by kernel_rfl, ?_⟩
  refine pe_then_normal ?_
  refine tr_sub hC (.cons (t := 4) rfl .nil) (.cons (t := 4) rfl .nil) rfl ?_
  refine tr_ret ?_
  refine pe_ret1 rfl hO rfl (.cell (m := 4) rfl rfl ag29 sz29 .nil) ?_
  rw [hs]
  exact ent_auto
end Go.Proofs.Ythiknhmoefbanaa


set_option linter.unusedVariables false
set_option linter.unusedSimpArgs false
namespace Go.Proofs.Ythiknhmoefbanaa
open Go.AL Go.Ch Go.Hp Go.RowKit
theorem ag22 : aggB Try.prog 22 = some false := by kernel_rfl
theorem el22 : elemB Try.prog 22 = some 66 := by kernel_rfl
theorem fl26_0 : fldB Try.prog 26 0 = some (0, 22) := by kernel_rfl
theorem fl66_1 : fldB Try.prog 66 1 = some (1, 3) := by kernel_rfl
theorem fl66_2 : fldB Try.prog 66 2 = some (2, 3) := by kernel_rfl
theorem fs29 : sizesB Try.prog 29 = true := by kernel_rfl
theorem fs60 : sizesB Try.prog 60 = true := by kernel_rfl
theorem sz22 : sizeB Try.prog 22 = some 1 := by kernel_rfl
theorem sz66 : sizeB Try.prog 66 = some 4 := by kernel_rfl
set_option maxHeartbeats 1000000 in
theorem Enter_ok (p : Pg) (hp : POK p) (g : Gr) (hb : BdG 1048576 g) (hn : g.frames.length ≤ 100000) (x : Int) (args : List V) (dest : Int) : FnP Try.prog 17 [aggP p.ps, aggP g.ps, eqP (.int .i64 x), slP vp 3 args, eqP (.int .i64 dest)] (tupP [aggP (enterF p g x args dest).1.ps, eqP (.int .i64 (enterF p g x args dest).2)]) := by
 have hb4 : BdG 4000000 g := hb.mono (by decide)
 refine fn_pure' Try.func17 rfl Try.ntmps17 rfl ?_
 intro σ0 M ex Rf R hC hO
 have hC0 := hC
 simp only [frameOf, tokOf]
 refine tr_seq ?_
 refine tr_region (fun N0 hN => ?_)
 refine lxn (op_box (m := 5) (k := 5) rfl (.agg rfl) (by first | exact hC.low _ (by decide) | rfl)) rfl ?_
 refine lxn (op_box (m := 6) (k := 6) rfl (.agg rfl) (by first | exact hC.low _ (by decide) | rfl)) rfl ?_
 refine lxn (op_alloc (m := 10) (k := 10) (ps := [eqP (.int .i64 0), eqP (.int .i64 0), eqP (.int .i64 0), eqP (.slice none 0 0)]) ze29 rfl rfl (by first | exact hC.low _ (by decide) | rfl)) rfl ?_
 refine lx (op_assign rfl) rfl ?_
 refine lx_end ⟨by kernel_rfl, ?_⟩
 refine pe_then_normal ?_
 refine tr_sub hC (.cons (t := 2) rfl (.cons (t := 3) rfl (.cons (t := 4) rfl (.cons (t := 5) rfl (.cons (t := 6) rfl (.cons (t := 10) rfl .nil)))))) (.cons (t := 5) rfl (.cons (t := 6) rfl (.cons (t := 10) rfl .nil))) rfl ?_
 refine tr_seq ?_
 refine tr_seq ?_
 refine tr_region (fun N1 hN => ?_)
 refine lx (op_move rfl) rfl ?_
 refine lx (op_lss rfl rfl) rfl ?_
 refine lx (op_move rfl) rfl ?_
 refine lxs rfl rfl rfl guard_eq (.cons (t := 2) rfl (fun _ => Ent.refl _) .nil) (op_move rfl) rfl ?_
 refine lxs rfl rfl rfl guard_eq (.cons (t := 5) rfl (fun _ => Ent.refl _) .nil) (op_fieldAddr rfl fl26_0 sz22) rfl ?_
 refine lxs rfl rfl rfl guard_eq (.cons (t := 17) rfl (fun h => entW h) .nil) (op_bload_one (m := 5) rfl rfl ag22 rfl) rfl ?_
 first | refine lxs rfl rfl rfl guard_eq (.cons (t := 18) rfl (fun h => entW h) .nil) (op_len rfl el22) rfl ?_ | refine lxs rfl rfl rfl guard_eq (.cons (t := 18) rfl (fun h => entW h) .nil) (op_len_row rfl el22) rfl ?_ | refine lxs rfl rfl rfl guard_eq (.cons (t := 18) rfl (fun h => entW h) .nil) (op_len_mv rfl el22) rfl ?_ | refine lxs rfl rfl rfl guard_eq (.cons (t := 18) rfl (fun h => entW h) .nil) (op_len_nil rfl el22) rfl ?_
 refine lxs rfl rfl rfl guard_eq (.cons (t := 16) rfl (fun h => entW h) (.cons (t := 19) rfl (fun h => entW h) .nil)) (op_geq rfl rfl) rfl ?_
 refine lx (op_pick_or rfl rfl) rfl ?_
 refine lx (op_move rfl) rfl ?_
 refine lxs rfl rfl rfl guard_eq (.cons (t := 3) rfl (fun _ => Ent.refl _) .nil) (op_move rfl) rfl ?_
 first | refine lxs rfl rfl rfl guard_eq (.cons (t := 23) rfl (fun h => entW h) .nil) (op_len rfl el33) rfl ?_ | refine lxs rfl rfl rfl guard_eq (.cons (t := 23) rfl (fun h => entW h) .nil) (op_len_row rfl el33) rfl ?_ | refine lxs rfl rfl rfl guard_eq (.cons (t := 23) rfl (fun h => entW h) .nil) (op_len_mv rfl el33) rfl ?_ | refine lxs rfl rfl rfl guard_eq (.cons (t := 23) rfl (fun h => entW h) .nil) (op_len_nil rfl el33) rfl ?_
 refine lxs rfl rfl rfl guard_eq (.cons (t := 5) rfl (fun _ => Ent.refl _) .nil) (op_fieldAddr rfl fl26_0 sz22) rfl ?_
 refine lxs rfl rfl rfl guard_eq (.cons (t := 25) rfl (fun h => entW h) .nil) (op_bload_one (m := 5) rfl rfl ag22 rfl) rfl ?_
 refine lxs rfl rfl rfl guard_eq (.cons (t := 2) rfl (fun _ => Ent.refl _) .nil) (op_move rfl) rfl ?_
 refine lxsc (rd := [(26, slP Fu.ps 4 p.funcs), (27, eqP (.int .i64 x))]) (φ := cellsP (pfn p x).ps) rfl rfl rfl guard_eq (.cons (t := 26) rfl (fun h => entW h) (.cons (t := 27) rfl (fun h => entW h) .nil)) (fun hgd => ?_) rfl rfl ?_
 ·have hx : 0 ≤ x ∧ x < (p.funcs.length : Int) := by
   simp at hgd
   omega
  exact op_index rfl rfl el22 sz66 (by omega : x = ((x.toNat : Nat) : Int)) (pfn_at (by omega) (by omega))
 first | refine lxs rfl rfl rfl guard_eq (.cons (t := 28) rfl (fun h => entW h) .nil) (op_fieldAddr rfl fl66_1 sz3) rfl ?_ | refine lxs rfl rfl rfl guard_eq (.cons (t := 28) rfl (fun h => entW h) .nil) (op_fieldCells rfl fl66_1 sz3) rfl ?_
 first | refine lxs rfl rfl rfl guard_eq (.cons (t := 29) rfl (fun h => entW h) .nil) (op_load_one rfl ag3 rfl) rfl ?_ | refine lxs rfl rfl rfl guard_eq (.cons (t := 29) rfl (fun h => entW h) .nil) (op_bload_one (m := 5) rfl rfl ag3 rfl) rfl ?_ | refine lxs rfl rfl rfl guard_eq (.cons (t := 29) rfl (fun h => entW h) .nil) (op_bload_one (m := 6) rfl rfl ag3 rfl) rfl ?_ | refine lxs rfl rfl rfl guard_eq (.cons (t := 29) rfl (fun h => entW h) .nil) (op_bload_one (m := 10) rfl rfl ag3 rfl) rfl ?_
 refine lxs rfl rfl rfl guard_eq (.cons (t := 24) rfl (fun h => entW h) (.cons (t := 30) rfl (fun h => entW h) .nil)) (op_neq rfl rfl) rfl ?_
 refine lx (op_pick_or rfl rfl) rfl ?_
 refine lx_end ⟨by kernel_rfl, ?_⟩
 refine pe_then_normal ?_
 refine tr_sub hC (.cons (t := 2) rfl (.cons (t := 3) rfl (.cons (t := 4) rfl (.cons (t := 5) rfl (.cons (t := 6) rfl (.cons (t := 10) rfl (.cons (t := 32) rfl .nil))))))) (.cons (t := 5) rfl (.cons (t := 6) rfl (.cons (t := 10) rfl .nil))) rfl ?_
 refine tr_cond rfl (fun h32 => ?_) (fun h32 => ?_)
 ·(try simp only [cq1, cq2, cq3, cq4, cq5, cq6, cq7, cq8, cq9, cq10, cq11, cq12, cq13] at h32)
  have h := enter_1 (g := g) (dest := dest) (p := p) (x := x) (args := args) (by omega)
  refine tr_seq ?_
  refine tr_region (fun N2 hN => ?_)
  refine lx (op_build (qs := [_, _, _, _]) (parts := []) ze29 rfl rfl fs29 .nil rfl rfl) rfl ?_
  refine lxr (op_store_all (m := 10) rfl rfl rfl (.agg rfl) sz29 rfl) rfl ?_
  refine lx (op_assign rfl) rfl ?_
  refine lx_end ⟨by kernel_rfl, ?_⟩
  refine pe_then_normal ?_
  refine tr_sub hC (.cons (t := 10) rfl (.cons (t := 11) rfl .nil)) (.cons (t := 10) rfl .nil) rfl ?_
  refine tr_ret ?_
  refine pe_then_ret ?_
  refine pe_retN (rs := [.cell 10 29, .tmp 11]) rfl rfl hO rfl (.cell (m := 10) rfl rfl ag29 sz29 (.tmp rfl .nil)) ?_
  rw [h]
  exact ent_auto
 ·(try simp only [cq1, cq2, cq3, cq4, cq5, cq6, cq7, cq8, cq9, cq10, cq11, cq12, cq13] at h32)
  have hx : ¬ (x < 0 ∨ (p.funcs.length : Int) ≤ x ∨ (args.length : Int) ≠ (pfn p x).params) := by omega
  have hpx := hp.at_ (x := x) (by omega) (by omega)
  refine tr_skip ?_
  refine pe_then_normal ?_
  refine tr_sub hC (.cons (t := 2) rfl (.cons (t := 3) rfl (.cons (t := 4) rfl (.cons (t := 5) rfl (.cons (t := 6) rfl (.cons (t := 10) rfl .nil)))))) (.cons (t := 5) rfl (.cons (t := 6) rfl (.cons (t := 10) rfl .nil))) rfl ?_
  refine tr_seq ?_
  refine tr_seq ?_
  refine tr_region (fun N3 hN => ?_)
  refine lx (op_fieldAddr rfl fl29_3 sz27) rfl ?_
  refine lx (op_bload_one (m := 6) rfl rfl ag27 rfl) rfl ?_
  first | refine lx (op_len rfl el27) rfl ?_ | refine lx (op_len_row rfl el27) rfl ?_ | refine lx (op_len_mv rfl el27) rfl ?_ | refine lx (op_len_nil rfl el27) rfl ?_
  refine lx (op_geq rfl rfl) rfl ?_
  refine lx_end ⟨by kernel_rfl, ?_⟩
  refine pe_then_normal ?_
  refine tr_sub hC (.cons (t := 2) rfl (.cons (t := 3) rfl (.cons (t := 4) rfl (.cons (t := 5) rfl (.cons (t := 6) rfl (.cons (t := 10) rfl (.cons (t := 37) rfl .nil))))))) (.cons (t := 5) rfl (.cons (t := 6) rfl (.cons (t := 10) rfl .nil))) rfl ?_
  refine tr_cond rfl (fun h37 => ?_) (fun h37 => ?_)
  ·(try simp only [cq1, cq2, cq3, cq4, cq5, cq6, cq7, cq8, cq9, cq10, cq11, cq12, cq13] at h37)
   have h := enter_2 (g := g) (dest := dest) hx (by omega)
   refine tr_seq ?_
   refine tr_region (fun N4 hN => ?_)
   refine lx (op_build (qs := [_, _, _, _]) (parts := []) ze29 rfl rfl fs29 .nil rfl rfl) rfl ?_
   refine lxr (op_store_all (m := 10) rfl rfl rfl (.agg rfl) sz29 rfl) rfl ?_
   refine lx (op_assign rfl) rfl ?_
   refine lx_end ⟨by kernel_rfl, ?_⟩
   refine pe_then_normal ?_
   refine tr_sub hC (.cons (t := 10) rfl (.cons (t := 11) rfl .nil)) (.cons (t := 10) rfl .nil) rfl ?_
   refine tr_ret ?_
   refine pe_then_ret ?_
   refine pe_retN (rs := [.cell 10 29, .tmp 11]) rfl rfl hO rfl (.cell (m := 10) rfl rfl ag29 sz29 (.tmp rfl .nil)) ?_
   rw [h]
   exact ent_auto
  ·(try simp only [cq1, cq2, cq3, cq4, cq5, cq6, cq7, cq8, cq9, cq10, cq11, cq12, cq13] at h37)
   have h := enter_3 (g := g) (dest := dest) hx (by omega)
   refine tr_skip ?_
   refine pe_then_normal ?_
   refine tr_sub hC (.cons (t := 2) rfl (.cons (t := 3) rfl (.cons (t := 4) rfl (.cons (t := 5) rfl (.cons (t := 6) rfl (.cons (t := 10) rfl .nil)))))) (.cons (t := 5) rfl (.cons (t := 6) rfl (.cons (t := 10) rfl .nil))) rfl ?_
   refine tr_seq ?_
   refine tr_region (fun N5 hN => ?_)
   refine lx (op_fieldAddr rfl fl26_0 sz22) rfl ?_
   refine lx (op_bload_one (m := 5) rfl rfl ag22 rfl) rfl ?_
   refine lx (op_move rfl) rfl ?_
   refine lx (op_index rfl rfl el22 sz66 (by omega : x = ((x.toNat : Nat) : Int)) (pfn_at (by omega) (by omega))) rfl ?_
   first | refine lx (op_fieldAddr rfl fl66_2 sz3) rfl ?_ | refine lx (op_fieldCells rfl fl66_2 sz3) rfl ?_
   first | refine lx (op_load_one rfl ag3 rfl) rfl ?_ | refine lx (op_bload_one (m := 5) rfl rfl ag3 rfl) rfl ?_ | refine lx (op_bload_one (m := 6) rfl rfl ag3 rfl) rfl ?_ | refine lx (op_bload_one (m := 10) rfl rfl ag3 rfl) rfl ?_
   refine lx (op_move rfl) rfl ?_
   first | refine lx (op_len rfl el33) rfl ?_ | refine lx (op_len_row rfl el33) rfl ?_ | refine lx (op_len_mv rfl el33) rfl ?_ | refine lx (op_len_nil rfl el33) rfl ?_
   refine lx (op_max rfl rfl) rfl ?_
   refine lxn (op_makeSlice_t (m' := 48) (kk := 48) (f := vp) v0 rfl rfl (by omega : max (pfn p x).regs (args.length : Int) = (((pfn p x).regs.toNat : Nat) : Int)) (by omega : max (pfn p x).regs (args.length : Int) = (((pfn p x).regs.toNat : Nat) : Int)) (by first | exact hC.low _ (by decide) | rfl) el33 ze43 sz43 by43 rfl rfl rfl rfl (by omega) (by unfold maxLen; omega)) rfl ?_
   refine lx (op_assign rfl) rfl ?_
   refine lx_end ⟨by kernel_rfl, ?_⟩
   refine pe_then_normal ?_
   refine tr_sub hC (.cons (t := 2) rfl (.cons (t := 3) rfl (.cons (t := 4) rfl (.cons (t := 6) rfl (.cons (t := 10) rfl (.cons (t := 12) rfl .nil)))))) (.cons (t := 6) rfl (.cons (t := 10) rfl (.cons (t := 48) rfl .nil))) rfl ?_
   refine tr_seq ?_
   refine tr_region (fun N6 hN => ?_)
   refine lx (op_move rfl) rfl ?_
   refine lx (op_move rfl) rfl ?_
   refine lxr (op_copy_any (m := 48) (f := vp) rfl rfl rfl el33 sz43 (by decide) vp_len (by simp; omega) (Nat.zero_le _)) rfl ?_
   refine lx_end ⟨by kernel_rfl, ?_⟩
   refine pe_then_normal ?_
   refine tr_sub hC (.cons (t := 2) rfl (.cons (t := 4) rfl (.cons (t := 6) rfl (.cons (t := 10) rfl (.cons (t := 12) rfl .nil))))) (.cons (t := 6) rfl (.cons (t := 10) rfl (.cons (t := 48) rfl .nil))) rfl ?_
   refine tr_seq ?_
   refine tr_region (fun N7 hN => ?_)
   refine lx (op_bload (m := 6) rfl rfl ag29 sz29) rfl ?_
   first | refine lx_any rfl (op_callFam (l := [(Go.Operand.tmp 52)]) (K := 2 * g.frames.length) 602 200 (own_fam g hb4 hn) (fun ι => rfl) (.cons rfl .nil) fn38 (by omega) rfl (by first | exact hC.low _ (by decide) | rfl) (fam_free hC (by omega) rfl)) (dOK_spec rfl) ?_ | refine lx_any rfl (op_callFam (l := [(Go.Operand.tmp 52)]) (K := 2 * g.frames.length) 602 200 (own_fam g hb4 hn) (fun ι => rfl) (.ent rfl (by exact ent_auto) .nil) fn38 (by omega) rfl (by first | exact hC.low _ (by decide) | rfl) (fam_free hC (by omega) rfl)) (dOK_spec rfl) ?_
   refine lx_tail _ (fam_upd rfl) (fun _ _ _ _ e h => ⟨h.1, post_congr e h.2⟩) ?_
   refine lxr (op_store_all (m := 6) rfl rfl rfl (.agg rfl) sz29 rfl) rfl ?_
   refine lx_end ⟨nodup_one _ _, ?_⟩
   refine pe_then_normal ?_
   refine tr_post (fun X hX => post_famIn2 (K := 2 * g.frames.length) (ids := fun j => fid N7 (200) (2 * g.frames.length) (j + 1)) (r := famR 43 47 g.frames) hC (by omega) (.cons (t := 6) rfl (.cons (t := 10) rfl (.cons (t := 48) rfl (.cons (t := 602) rfl .nil)))) rfl (fun j hj => by simp only [updL, addL, delL, List.cons_append, List.nil_append, lk_cons]; (repeat (rw [if_neg (by omega)])); exact lk_famT_at hj) (fun n hn => by simp only [updL, addL, delL, List.cons_append, List.nil_append, lk_cons]; (repeat (rw [if_neg (by omega)])); exact lk_famT_none (fun j hj => by omega)) hX) ?_
   have hC : CxOK (famC ⟨σ0, M, ex, Rf, 64⟩ (2 * g.frames.length) (fun j => fid N7 (200) (2 * g.frames.length) (j + 1)) (famR 43 47 g.frames)) := famC_ok
   refine tr_sub hC (.cons (t := 2) rfl (.cons (t := 4) rfl (.cons (t := 6) rfl (.cons (t := 10) rfl (.cons (t := 12) rfl .nil))))) (.cons (t := 6) rfl (.cons (t := 10) rfl (.cons (t := 48) rfl (.cons (t := 602) rfl .nil)))) rfl ?_
   refine tr_post (fun X hX => post_rowEq (n := 602) rfl ((rowE_full (m := g.frames.length) (Nat.le_refl _)).symm) hX) ?_
   refine tr_post (fun X hX => post_sealFm (n := 602) (t := 699) hC0 rfl (by omega) (by omega) rfl (.inl rfl) rfl hX) ?_
   have hC := hC0
   refine tr_post (fun X hX => post_rowPs (n := 602) rfl (rowPureAll (Nat.le_refl _)) hX) ?_
   refine tr_post (fun X hX => post_rowPs (n := 48) rfl (congrArg (fun l => l.flatMap vp) (regs_spl (n := (pfn p x).regs.toNat) (args := args) (by omega))) hX) ?_
   refine tr_freeze (m := 48) rfl (.cons (t := 2) rfl (.cons (t := 4) rfl (.cons (t := 6) rfl (.cons (t := 10) rfl (.ent (t := 12) rfl (fment_row vp_len (by rw [List.length_replicate, regs_len (by omega)])) .nil))))) ?_
   try dsimp only
   refine tr_seq ?_
   refine tr_region (fun N8 hN => ?_)
   refine lx (op_fieldAddr rfl fl29_3 sz27) rfl ?_
   refine lx (op_bload_one (m := 6) rfl rfl ag27 rfl) rfl ?_
   refine lx (op_move rfl) rfl ?_
   refine lx (op_move rfl) rfl ?_
   refine lx (op_move rfl) rfl ?_
   refine lx (OpJ.ent (op_build (qs := [_, _, _, _, _, _, _, _, _]) (parts := [(0, (Go.Operand.tmp 56)), (2, (Go.Operand.tmp 57)), (3, (Go.Operand.tmp 58))]) ze60 rfl rfl fs60 (.cons rfl (.one (by (first | exact One.eq rfl | exact One.mv _ _ _ _ _ | exact One.cl _ _ _ | exact One.map _ | exact One.sl _ _ _ | exact One.row _ _ _ _ | exact One.msl _ _ _ _ | exact One.ptr _ _ | exact One.b _ | exact One.cells _))) fl60_0 sz3 rfl (.cons rfl (.one (by (first | exact One.eq rfl | exact One.mv _ _ _ _ _ | exact One.cl _ _ _ | exact One.map _ | exact One.sl _ _ _ | exact One.row _ _ _ _ | exact One.msl _ _ _ _ | exact One.ptr _ _ | exact One.b _ | exact One.cells _))) fl60_2 sz33 rfl (.cons rfl (.one (by (first | exact One.eq rfl | exact One.mv _ _ _ _ _ | exact One.cl _ _ _ | exact One.map _ | exact One.sl _ _ _ | exact One.row _ _ _ _ | exact One.msl _ _ _ _ | exact One.ptr _ _ | exact One.b _ | exact One.cells _))) fl60_3 sz3 rfl .nil))) rfl rfl) (show Ent _ (aggP (Fm.ps (newF p x args dest))) from (by exact ent_auto))) rfl ?_
   refine lx (op_buildSlice (f := Fm.ps) (xs := [newF p x args dest]) (l := [(0, (Go.Operand.tmp 59))]) ze60 rfl rfl (by decide) el27 sz60 Fm.len (.cons rfl (.agg rfl) .nil) rfl (by decide)) rfl ?_
   refine lxr (op_append_t (m := 602) (m' := 602) (kk := 61) (f := Fm.ps) rfl rfl rfl (.inl rfl) el27 ze60 sz60 by60 rfl (by decide) Fm.len (by rw [List.length_singleton]; omega) (by rw [List.length_singleton]; omega)) rfl ?_
   refine lx (op_fieldAddr rfl fl29_3 sz27) rfl ?_
   refine lxr (op_store (m := 6) (rs := [_, _, _, _]) rfl rfl rfl (.one (by (first | exact One.eq rfl | exact One.mv _ _ _ _ _ | exact One.cl _ _ _ | exact One.map _ | exact One.sl _ _ _ | exact One.row _ _ _ _ | exact One.msl _ _ _ _ | exact One.ptr _ _ | exact One.b _ | exact One.cells _))) sz27 rfl rfl rfl) rfl ?_
   refine lx_end ⟨by kernel_rfl, ?_⟩
   refine pe_then_normal ?_
   refine tr_sub hC (.cons (t := 6) rfl (.cons (t := 10) rfl .nil)) (.cons (t := 6) rfl (.cons (t := 10) rfl (.cons (t := 602) rfl .nil))) rfl ?_
   refine tr_bound 698 (m := 602) rfl ?_
   refine tr_freeze (m := 602) rfl (.cons (t := 6) rfl (.cons (t := 10) rfl (.ent (t := 698) rfl FEnt.frz_bound .nil))) ?_
   refine tr_thaw (t := 698) (n := 6) (qs' := _) rfl (.cons (t := 6) rfl (.cons (t := 10) rfl .nil)) rfl (.cons (.of (Ent.refl _)) (.cons (.of (Ent.refl _)) (.cons (.of (Ent.refl _)) (.cons (fment_row Fm.len rfl) .nil)))) ?_
   refine tr_seq ?_
   refine tr_region (fun N9 hN => ?_)
   refine lx (op_bload (m := 6) rfl rfl ag29 sz29) rfl ?_
   refine lxr (op_store_all (m := 10) rfl rfl rfl (.agg rfl) sz29 rfl) rfl ?_
   refine lx (op_assign rfl) rfl ?_
   refine lx_end ⟨by kernel_rfl, ?_⟩
   refine pe_then_normal ?_
   refine tr_sub hC (.cons (t := 10) rfl (.cons (t := 11) rfl .nil)) (.cons (t := 10) rfl .nil) rfl ?_
   refine tr_ret ?_
   refine pe_retN (rs := [.cell 10 29, .tmp 11]) rfl rfl hO rfl (.cell (m := 10) rfl rfl ag29 sz29 (.tmp rfl .nil)) ?_
   rw [h]
   exact ent_auto
end Go.Proofs.Ythiknhmoefbanaa


set_option linter.unusedVariables false
set_option linter.unusedSimpArgs false
namespace Go.Proofs.Ythiknhmoefbanaa
open Go.AL Go.Ch Go.Hp Go.RowKit
end Go.Proofs.Ythiknhmoefbanaa
