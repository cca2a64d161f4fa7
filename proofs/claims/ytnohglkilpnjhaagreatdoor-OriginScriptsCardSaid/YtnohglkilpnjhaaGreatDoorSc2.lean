/- Lemmas that the statement of this claim leans on; their own comments are taken out, for the size of the claim. No condition beyond what each lemma states. -/
import Derived.Test.YtnohglkilpnjhaaGreatDoorSc1
import Derived.StillTail
import Derived.Deep.Quiet
import Derived.Deep.QuietTactic
import Derived.BigQuiet
import Derived.Below
import Derived.Tactics
import Derived.Test.YtnohglkilpnjhaaGreatDoorProg
import Derived.OneCell
import Derived.Laws.CopyRow
import Derived.Maps.AppendAt
import Derived.Great.BuildSlice
set_option linter.unusedVariables false
set_option linter.unusedSimpArgs false
set_option linter.unusedSectionVars false
namespace Go.Proofs.YtnohglkilpnjhaaGreatDoor
open Go.RowKit
section
variable {P:Program} {ops:Array Oper} {md:Region.Mode} {C:World→Prop}
def wpHeadQ (P:Program) (md:Region.Mode) (ops:Array Oper) (C:World→Prop) (n:Nat) (L:Array Bool→Act→Prop):Nat→Array Bool→Act→Prop
 | 0,listed,a=>L listed a
 | f + 1,listed,a=>Region.ready md ops listed ≠ []∧∀ i ∈ Region.ready md ops listed,i < n∧qOp P ops C i (wpHeadQ P md ops C n L f (listed.setIfInBounds i true)) a
theorem wpAny_of_headQ {n g:Nat} {L:Array Bool→Act→Prop} {Q':Exit→Act→World→Prop} (hL:∀ listed a w,C w→L listed a→wpAny P md ops Q' g listed a w) :
  ∀ (f:Nat) (listed:Array Bool) (a:Act) (w:World),C w→wpHeadQ P md ops C n L f listed a→wpAny P md ops Q' (f + g) listed a w:=by
 intro f
 induction f with
 | zero=>intro listed a w hw h;rw [Nat.zero_add];exact hL _ _ _ hw h
 | succ f ih=>
  intro listed a w hw h
  rw [show f + 1 + g = (f + g) + 1 by omega]
  exact ⟨fun h0=>absurd h0 h.1,fun i hi=>wpOp_of_qOp hw (fun a' w' hw' h'=>ih _ a' w' hw' h') (h.2 i hi).2⟩
theorem wpHeadQ_first {n i:Nat} {oi:Oper} {v:Value} {L:Array Bool→Act→Prop} (hi:ops[i]? = some oi) (hsel:∀ (j:Nat) (o:Oper) cs b,ops[j]? = some o→o.op ≠ .select cs b)
  (hs:Region.sinkB md ops n = true) (hc:Region.chainB md ops n = true) (hn:n < ops.size) (hin:i < n) (hdone:∀ listed a,L listed a→∀ j ∈ Region.ready md ops listed,n ≤ j) (f:Nat) :
  ∀ (listed:Array Bool) (a:Act),HeadInv md ops n listed →
   (∀ j oj,ops[j]? = some oj→j ≠ i→listed.getD j true = false→(∀ e ∈ oj.after,Region.binds md e = true→e.on ≠ i)→oi.apart ops oj = true) →
   i ∈ Region.ready md ops listed→YieldsIn P ops C oi v a →
   wpHeadQ P md ops C n L f (listed.setIfInBounds i true) (a.put oi.dst v)→wpHeadQ P md ops C n L (f + 1) listed a:=by
 induction f with
 | zero=>
  intro listed a inv _ hr hy H
  refine ⟨fun e=>(by rw [e] at hr;cases hr),fun j hj=>⟨(Nat.lt_or_ge j n).resolve_right fun h=>tail_waits hs hc hn inv _ i rfl hin (mem_ready.1 hr).1 j h hj,?_⟩⟩
  by_cases e:j = i
  ·subst e;exact hy.qOp hi H
  ·have:=hdone _ _ H j (ready_mono hj e)
   exact absurd hj (tail_waits hs hc hn inv _ i rfl hin (mem_ready.1 hr).1 j this)
 | succ f ih=>
  intro listed a inv hfree hr hy H
  refine ⟨fun e=>(by rw [e] at hr;cases hr),fun j hj=>?_⟩
  have hjn:j < n:=(Nat.lt_or_ge j n).resolve_right fun h=>tail_waits hs hc hn inv _ i rfl hin (mem_ready.1 hr).1 j h hj
  refine ⟨hjn,?_⟩
  by_cases e:j = i
  ·subst e;exact hy.qOp hi H
  ·obtain ⟨hjun,oj,hoj,hall⟩:=mem_ready.1 hj
   have step:=qOp_put hoj (hfree j oj hoj e hjun fun x hx hb q=>by
     have:=hall x hx hb
     rw [q,getD_both (mem_ready.1 hr).1] at this
     cases this) (fun cs b=>hsel i oi cs b hi) (fun cs b=>hsel j oj cs b hoj) hy (H.2 j (ready_mono hj e)).2
   refine qOp_mono (fun a' h3=>ih (listed.setIfInBounds j true) a' (inv.set hj hjn) (fun k ok hk hki hun hno=>hfree k ok hk hki ?_ hno) (ready_mono hr (Ne.symm e)) h3.1 ?_) step
   ·by_cases q:j = k
    ·subst q;exact hjun
    ·rw [getD_set_ne true q] at hun;exact hun
   ·rw [Array.setIfInBounds_comm _ _ e];exact h3.2
theorem wpHeadQ_lex {n g:Nat} {Lq:Act→Prop} (hsel:Region.noSelect ops = true) (hs:Region.sinkB md ops n = true) (hc:Region.chainB md ops n = true) (hn:n < ops.size) (l:List Oper) :
  ∀ (k:Nat) (listed:Array Bool) (a:Act),(∀ j,j < l.length→l[j]? = ops[k + j]?)→k + l.length = n→HeadInv md ops n listed →
  Region.lexHead md ops g l.length k listed = true→wpQuiet P ops C Lq l a →
  wpHeadQ P md ops C n (fun listed' a'=>Region.seqB md ops g n listed' = true∧Lq a') l.length listed a:=by
 induction l with
 | nil=>
  intro k listed a _ hk _ hB h
  obtain rfl:k = n:=by simpa using hk
  exact ⟨by simpa [Region.lexHead] using hB,h⟩
 | cons o l ih=>
  intro k listed a hl hk inv hB h
  have h0:ops[k]? = some o:=by simpa using (hl 0 (by simp)).symm
  simp only [List.length_cons,Region.lexHead,Bool.and_eq_true] at hB hk
  have hr':k ∈ Region.ready md ops listed:=by simpa using hB.1.1
  have hst:qOp P ops C k (wpQuiet P ops C Lq l) a:=by unfold qOp;simp only [h0];exact h
  obtain ⟨v,hy,hK⟩:=yieldsIn_of_qOp h0 hst
  refine wpHeadQ_first h0 (Region.noSelect_spec hsel) hs hc hn (by omega) (fun _ _ hL=>seqB_ready hL.1) l.length listed a inv (Region.free_spec h0 hB.1.2) hr' hy ?_
  exact ih (k + 1) _ _ (fun j hj=>by have:=hl (j + 1) (by simp;omega);simpa [Nat.add_assoc,Nat.add_comm 1 j] using this) (by omega) (inv.set hr' (by omega)) hB.2 hK
theorem wp_region_class {id:Nat} {Q:Exit→Act→World→Prop} {a:Act} {w:World} {l:List Oper} (n:Nat) (hm:P.follows .mixedOrders = true) (hB:Region.lexTailB .any l.toArray n = true) (hC:C { w with drawn:=w.drawn + 1 })
  (h:wpQuiet P l.toArray C (fun a'=>∀ w',C w'→wpList P l.toArray Q (l.drop n) a' w') (l.take n) a):(Code.region id l.toArray true).wp P Q a w:=by
 simp only [Region.lexTailB,Bool.and_eq_true,decide_eq_true_eq] at hB
 obtain ⟨⟨⟨⟨hsel,hn⟩,hs⟩,hc⟩,hlex⟩:=hB
 have hn':n < l.length:=by simpa using hn
 have htl:(l.take n).length = n:=by simp;omega
 have hdl:(l.drop n).length = l.toArray.size - n:=by simp
 have H:=wpHeadQ_lex (md:=.any) (C:=C) (g:=l.toArray.size - n) hsel hs hc hn (l.take n) 0 (Array.replicate l.toArray.size false) a (fun j hj=>by
  have hj':j < n:=by rw [htl] at hj;exact hj
  simp [hj']) (by simpa using htl)
  ⟨by simp,fun j oj _ hl=>(by rw [getD_replicate_false] at hl;cases hl),fun t _ ht=>getD_in (by simpa using ht) (getD_replicate_false _ _)⟩ (by rw [htl];exact hlex) h
 refine wp_region_any hm ?_
 have:=wpAny_of_headQ (Q':=Q) (g:=l.toArray.size - n) (fun listed a' w' hw' hL=>by
  have:=wpAny_of_seq (md:=.any) (Q':=Q) (l.drop n) n listed a' w' (fun j=>by simp [List.getElem?_drop]) (by rw [hdl];exact hL.1) (hL.2 w' hw')
  rwa [hdl] at this) _ _ _ _ hC H
 rw [htl,show n + (l.toArray.size - n) = l.toArray.size by omega] at this
 exact this
def sinkU (md:Region.Mode) (ops:Array Oper) (n:Nat) (listed:Array Bool):Bool:=
 (List.range n).all fun i=>listed.getD i true || (List.range (n + 1)).any fun j=>decide (i < j) && Region.waitsFor md ops j i
def invB (md:Region.Mode) (ops:Array Oper) (n:Nat) (listed:Array Bool):Bool:=
 decide (listed.size = ops.size) && ((List.range ops.size).all fun j=>match ops[j]? with
  | some oj=>!listed.getD j false || oj.after.all fun e=>!Region.binds md e || listed.getD e.on false
  | none=>true) && ((List.range ops.size).all fun t=>decide (t < n) || !listed.getD t true)
theorem invB_spec {n:Nat} {listed:Array Bool} (h:invB md ops n listed = true):HeadInv md ops n listed:=by
 simp only [invB,Bool.and_eq_true,decide_eq_true_eq] at h
 obtain ⟨⟨h1,h2⟩,h3⟩:=h
 refine ⟨h1,fun j oj hj hl e he hb=>?_,fun t ht htl=>?_⟩
 ·have:=List.all_eq_true.1 h2 j (List.mem_range.2 (Array.getElem?_eq_some_iff.1 hj).1)
  simp only [hj,hl,Bool.not_true,Bool.false_or] at this
  have:=Array.all_eq_true_iff_forall_mem.1 this e he
  simpa [hb] using this
 ·have:=List.all_eq_true.1 h3 t (List.mem_range.2 htl)
  simpa [show ¬ t < n by omega] using this
theorem tail_waitsU {n:Nat} {l0 listed:Array Bool} (hs:sinkU md ops n l0 = true) (hl0:∀ i,listed.getD i true = false→l0.getD i true = false) (hc:Region.chainB md ops n = true) (hn:n < ops.size) (inv:HeadInv md ops n listed) :
  ∀ (d i:Nat),n - i = d→i < n→listed.getD i true = false→∀ t,n ≤ t→t ∉ Region.ready md ops listed:=by
 intro d
 induction d using Nat.strongRecOn with
 | _ d ih=>
  intro i hd hi hun t ht hr
  obtain ⟨_,ot,hot,hall⟩:=mem_ready.1 hr
  have htlt:t < ops.size:=(Array.getElem?_eq_some_iff.1 hot).1
  by_cases htn:t = n
  ·subst htn
   have h1:=List.all_eq_true.1 hs i (List.mem_range.2 hi)
   rw [hl0 i hun,Bool.false_or] at h1
   obtain ⟨j,hj,hj2⟩:=List.any_eq_true.1 h1
   simp only [Bool.and_eq_true,decide_eq_true_eq] at hj2
   obtain ⟨oj,hoj,e,he,hb,hon⟩:=Region.waitsFor_spec hj2.2
   have hjle:j ≤ t:=by have:=List.mem_range.1 hj;omega
   by_cases hjt:j = t
   ·subst hjt
    obtain rfl:oj = ot:=Option.some.inj (hoj.symm.trans hot)
    have h2:=hall e he hb
    rw [hon,getD_both hun] at h2
    cases h2
   ·have hjs:j < listed.size:=by rw [inv.size];omega
    cases hl:listed.getD j false with
    | true=>
     have h2:=inv.closed j oj hoj hl e he hb
     rw [hon,getD_both hun] at h2
     cases h2
    | false=>exact ih (t - j) (by omega) j rfl (by omega) (getD_in hjs hl) t (Nat.le_refl _) hr
  ·have h1:=List.all_eq_true.1 hc t (List.mem_range.2 htlt)
   simp only [Bool.or_eq_true,decide_eq_true_eq] at h1
   rcases h1 with h1 | h1
   ·omega
   ·obtain ⟨o',ho',e,he,hb,hon⟩:=Region.waitsFor_spec h1
    obtain rfl:o' = ot:=Option.some.inj (ho'.symm.trans hot)
    have h2:=hall e he hb
    rw [hon,getD_both (inv.tail (t - 1) (by omega) (by omega))] at h2
    cases h2
theorem wpHeadQ_firstU {n i:Nat} {oi:Oper} {v:Value} {L:Array Bool→Act→Prop} {l0:Array Bool} (hi:ops[i]? = some oi) (hsel:∀ (j:Nat) (o:Oper) cs b,ops[j]? = some o→o.op ≠ .select cs b)
  (hs:sinkU md ops n l0 = true) (hc:Region.chainB md ops n = true) (hn:n < ops.size) (hin:i < n) (hdone:∀ listed a,L listed a→∀ j ∈ Region.ready md ops listed,n ≤ j) (f:Nat) :
  ∀ (listed:Array Bool) (a:Act),HeadInv md ops n listed→(∀ i,listed.getD i true = false→l0.getD i true = false) →
   (∀ j oj,ops[j]? = some oj→j ≠ i→listed.getD j true = false→(∀ e ∈ oj.after,Region.binds md e = true→e.on ≠ i)→oi.apart ops oj = true) →
   i ∈ Region.ready md ops listed→YieldsIn P ops C oi v a →
   wpHeadQ P md ops C n L f (listed.setIfInBounds i true) (a.put oi.dst v)→wpHeadQ P md ops C n L (f + 1) listed a:=by
 induction f with
 | zero=>
  intro listed a inv hl0 _ hr hy H
  refine ⟨fun e=>(by rw [e] at hr;cases hr),fun j hj=>⟨(Nat.lt_or_ge j n).resolve_right fun h=>tail_waitsU hs hl0 hc hn inv _ i rfl hin (mem_ready.1 hr).1 j h hj,?_⟩⟩
  by_cases e:j = i
  ·subst e;exact hy.qOp hi H
  ·have:=hdone _ _ H j (ready_mono hj e)
   exact absurd hj (tail_waitsU hs hl0 hc hn inv _ i rfl hin (mem_ready.1 hr).1 j this)
 | succ f ih=>
  intro listed a inv hl0 hfree hr hy H
  refine ⟨fun e=>(by rw [e] at hr;cases hr),fun j hj=>?_⟩
  have hjn:j < n:=(Nat.lt_or_ge j n).resolve_right fun h=>tail_waitsU hs hl0 hc hn inv _ i rfl hin (mem_ready.1 hr).1 j h hj
  refine ⟨hjn,?_⟩
  by_cases e:j = i
  ·subst e;exact hy.qOp hi H
  ·obtain ⟨hjun,oj,hoj,hall⟩:=mem_ready.1 hj
   have step:=qOp_put hoj (hfree j oj hoj e hjun fun x hx hb q=>by
     have:=hall x hx hb
     rw [q,getD_both (mem_ready.1 hr).1] at this
     cases this) (fun cs b=>hsel i oi cs b hi) (fun cs b=>hsel j oj cs b hoj) hy (H.2 j (ready_mono hj e)).2
   have unset:∀ k,(listed.setIfInBounds j true).getD k true = false→listed.getD k true = false:=fun k hun=>by
    by_cases q:j = k
    ·subst q;exact hjun
    ·rw [getD_set_ne true q] at hun;exact hun
   refine qOp_mono (fun a' h3=>ih (listed.setIfInBounds j true) a' (inv.set hj hjn) (fun k hk=>hl0 k (unset k hk)) (fun k ok hk hki hun hno=>hfree k ok hk hki (unset k hun) hno) (ready_mono hr (Ne.symm e)) h3.1 ?_) step
   rw [Array.setIfInBounds_comm _ _ e];exact h3.2
theorem wpHeadQ_lexU {n g:Nat} {Lq:Act→Prop} {l0:Array Bool} (hsel:Region.noSelect ops = true) (hs:sinkU md ops n l0 = true) (hc:Region.chainB md ops n = true) (hn:n < ops.size) (l:List Oper) :
  ∀ (k:Nat) (listed:Array Bool) (a:Act),(∀ j,j < l.length→l[j]? = ops[k + j]?)→k + l.length = n→HeadInv md ops n listed→(∀ i,listed.getD i true = false→l0.getD i true = false) →
  Region.lexHead md ops g l.length k listed = true→wpQuiet P ops C Lq l a →
  wpHeadQ P md ops C n (fun listed' a'=>Region.seqB md ops g n listed' = true∧Lq a') l.length listed a:=by
 induction l with
 | nil=>
  intro k listed a _ hk _ _ hB h
  obtain rfl:k = n:=by simpa using hk
  exact ⟨by simpa [Region.lexHead] using hB,h⟩
 | cons o l ih=>
  intro k listed a hl hk inv hl0 hB h
  have h0:ops[k]? = some o:=by simpa using (hl 0 (by simp)).symm
  simp only [List.length_cons,Region.lexHead,Bool.and_eq_true] at hB hk
  have hr':k ∈ Region.ready md ops listed:=by simpa using hB.1.1
  have hst:qOp P ops C k (wpQuiet P ops C Lq l) a:=by unfold qOp;simp only [h0];exact h
  obtain ⟨v,hy,hK⟩:=yieldsIn_of_qOp h0 hst
  refine wpHeadQ_firstU h0 (Region.noSelect_spec hsel) hs hc hn (by omega) (fun _ _ hL=>seqB_ready hL.1) l.length listed a inv hl0 (Region.free_spec h0 hB.1.2) hr' hy ?_
  refine ih (k + 1) _ _ (fun j hj=>by have:=hl (j + 1) (by simp;omega);simpa [Nat.add_assoc,Nat.add_comm 1 j] using this) (by omega) (inv.set hr' (by omega)) (fun i hi=>hl0 i ?_) hB.2 hK
  by_cases q:k = i
  ·subst q;exact (mem_ready.1 hr').1
  ·rw [getD_set_ne true q] at hi;exact hi
theorem wpAny_class {Q:Exit→Act→World→Prop} {a:Act} {w:World} {l:List Oper} {listed:Array Bool} {fuel:Nat} (m n:Nat)
  (hB:(Region.noSelect l.toArray && decide (n < l.length) && decide (m ≤ n) && decide (fuel = l.length - m) && invB .any l.toArray n listed && sinkU .any l.toArray n listed && Region.chainB .any l.toArray n && Region.lexHead .any l.toArray (l.length - n) (n - m) m listed) = true) (hC:C w)
  (h:wpQuiet P l.toArray C (fun a'=>∀ w',C w'→wpList P l.toArray Q (l.drop n) a' w') ((l.take n).drop m) a):wpAny P .any l.toArray Q fuel listed a w:=by
 simp only [Bool.and_eq_true,decide_eq_true_eq] at hB
 obtain ⟨⟨⟨⟨⟨⟨⟨hsel,hn⟩,hm⟩,hf⟩,hinv⟩,hs⟩,hc⟩,hlex⟩:=hB
 have hsz:l.toArray.size = l.length:=by simp
 have htl:((l.take n).drop m).length = n - m:=by simp;omega
 have hdl:(l.drop n).length = l.length - n:=by simp
 have H:=wpHeadQ_lexU (md:=.any) (C:=C) (g:=l.length - n) (l0:=listed) hsel hs hc (by rw [hsz];exact hn) ((l.take n).drop m) m listed a (fun j hj=>by
  have hj':j < n - m:=by rw [htl] at hj;exact hj
  rw [List.getElem?_drop,List.getElem?_take,if_pos (by omega)]
  simp) (by rw [htl];omega) (invB_spec hinv) (fun _ h=>h) (by rw [htl];exact hlex) h
 have:=wpAny_of_headQ (Q':=Q) (g:=l.length - n) (fun listed a' w' hw' hL=>by
  have:=wpAny_of_seq (md:=.any) (Q':=Q) (l.drop n) n listed a' w' (fun j=>by simp [List.getElem?_drop]) (by rw [hdl];exact hL.1) (hL.2 w' hw')
  rwa [hdl] at this) _ _ _ _ hC H
 rw [htl,show n - m + (l.length - n) = fuel by omega] at this
 exact this
theorem wp_region_class_move {id:Nat} {Q:Exit→Act→World→Prop} {a:Act} {w:World} {o:Oper} {l:List Oper} (n:Nat) (x:Operand) (ho:o.op = .move x) (hg:o.guard = none) (hm:P.follows .mixedOrders = true)
  (hT:(Region.noSelect (o :: l).toArray && Region.free .any (o :: l).toArray (Array.replicate (l.length + 1) false) 0 && (Region.ready .any (o :: l).toArray (Array.replicate (l.length + 1) false)).contains 0) = true)
  (hB:(Region.noSelect (o :: l).toArray && decide (n < l.length + 1) && decide (1 ≤ n) && decide (l.length = l.length + 1 - 1) && invB .any (o :: l).toArray n ((Array.replicate (l.length + 1) false).setIfInBounds 0 true) && sinkU .any (o :: l).toArray n ((Array.replicate (l.length + 1) false).setIfInBounds 0 true) && Region.chainB .any (o :: l).toArray n && Region.lexHead .any (o :: l).toArray (l.length + 1 - n) (n - 1) 1 ((Array.replicate (l.length + 1) false).setIfInBounds 0 true)) = true)
  (hC:C { w with drawn:=w.drawn + 1 }) (hQ:∀ c a' w',Q (.panic c) (a'.put o.dst (a.eval x)) w'→Q (.panic c) a' w')
  (h:wpQuiet P (o :: l).toArray C (fun a'=>∀ w',C w'→wpList P (o :: l).toArray Q ((o :: l).drop n) a' w') (((o :: l).take n).drop 1) (a.put o.dst (a.eval x))):(Code.region id (o :: l).toArray true).wp P Q a w:=by
 simp only [Bool.and_eq_true] at hT
 refine wp_region_any hm ?_
 have hsz:(o :: l).toArray.size = l.length + 1:=by simp
 rw [hsz]
 refine wpAny_take (i:=0) (oi:=o) (v:=a.eval x) (by simp) hT.1.1 hT.1.2 hT.2 hQ (Or.inl ⟨by simp [Region.wanted,hg],fun w'=>by unfold execOp;rw [ho];rfl⟩) ?_
 exact wpAny_class 1 n hB hC h
theorem quiet_val {o:Oper} {a:Act} {K:Act→Prop} {v:Value} (h:∀ w,C w→(execOp a.eval o).run P w = .ok (.value v) w) (hK:K (a.put o.dst v)):o.quiet P a C K:=
 ⟨v,fun w hw=>by unfold Oper.quietAt;rw [h w hw];exact ⟨rfl,rfl⟩,hK⟩
theorem quiet_call {o:Oper} {a:Act} {K:Act→Prop} {v:Value} {f:FuncId} {args:Array Value} (h:∀ w,C w→(execOp a.eval o).run P w = .ok (.enter f args) w)
  (hc:∀ w,C w→Calls P f args w (fun e w'=>e = .returned v∧C w')) (hK:K (a.put o.dst v)):o.quiet P a C K:=
 ⟨v,fun w hw=>by unfold Oper.quietAt;rw [h w hw];exact ⟨rfl,hc w hw⟩,hK⟩
end
theorem infoU8:(Tryz.prog.info? 5).map (fun i=>(i.zero,i.size,i.bytes)) = some (some (.int .u8 0),1,1):=by kernel_rfl
def lenV:Value→Nat
 | .slice _ n _=>n
 | _=>0
def Grew (W w:World):Prop:=Below W.heap.size W w
theorem Grew.start (W:World):Grew W { W with drawn:=W.drawn + 1 }:=(Below.refl _ _).drew
def One (w:World) (b:Nat) (v:Value) (t:TypeId):Prop:=w.heap[b]? = some (.cells #[v] t (0,0))
theorem One.cell {w:World} {b:Nat} {v:Value} {t:TypeId} (h:One w b v t):w.cell? ⟨b,0,none⟩ = some v:=cell_of_one h
theorem One.free {w:World} {b:Nat} {v:Value} {t:TypeId} (h:One w b v t):w.frozen? ⟨b,0,none⟩ = false:=free_of_one h
theorem One.lt {w:World} {b:Nat} {v:Value} {t:TypeId} (h:One w b v t):b < w.heap.size:=lt_of_block h
theorem One.set {w:World} {b:Nat} {v:Value} {t:TypeId} (h:One w b v t) (u:Value):One (w.setCell ⟨b,0,none⟩ u) b u t:=one_setCell h
theorem One.of_block {w w':World} {b:Nat} {v:Value} {t:TypeId} (h:One w b v t) (e:w'.heap[b]? = w.heap[b]?):One w' b v t:=e.trans h
theorem One.of_new {w w':World} {b:Nat} {v:Value} {t:TypeId} (h:One w b v t) (hb:Below w.heap.size w w'):One w' b v t:=h.of_block (hb.block _ h.lt)
theorem One.other {w:World} {b:Nat} {v:Value} {t:TypeId} (h:One w b v t) {p:Addr} (hp:p.block ≠ b) (u:Value):One (w.setCell p u) b v t:=h.of_block (Below.heap_setCell _ _ _ _ (Ne.symm hp))
theorem One.grown {w w':World} {b:Nat} {v:Value} {t:TypeId} {row:Option Nat} (h:One w b v t) (hg:w.grownBy w' row) (hr:some b ≠ row):One w' b v t:=h.of_block (hg.block _ h.lt hr)
theorem below_next' {B:Nat} {w w1 w2:World} (h:Below B w w1) (h2:Below w1.heap.size w1 w2) (hB:B ≤ w1.heap.size:=by omega):Below B w w2:=h.trans (h2.mono hB)
theorem wp_enter {P:Program} {o:Oper} {a:Act} {w:World} {K:Act→World→Prop} {Q:Exit→Act→World→Prop} {f:FuncId} {args:Array Value} {R:Ending→World→Prop} (h:(execOp a.eval o).run P w = .ok (.enter f args) w) (hc:Calls P f args w R)
  (hR:∀ e w',R e w'→∃ v,e = .returned v∧K (a.put o.dst v) w'):o.wp P a w K Q:=by
 unfold Oper.wp
 rw [h]
 refine hc.mono fun e w' he=>?_
 obtain ⟨v,rfl,hK⟩:=hR e w' he
 exact hK
theorem wp_val {P:Program} {o:Oper} {a:Act} {w:World} {K:Act→World→Prop} {Q:Exit→Act→World→Prop} {v:Value} (h:(execOp a.eval o).run P w = .ok (.value v) w) (hK:K (a.put o.dst v) w):o.wp P a w K Q:=by
 unfold Oper.wp
 rw [h]
 exact hK
theorem results_cell {fn:Func} {p:Tmp} {ty:TypeId} (h:fn.results = #[.cell p ty]) (tmps:Array Value) {P:Program} {w:World} {b:Nat} {v:Value} (hp:tmps.getD p undef = .pointer (some ⟨b,0,none⟩))
  (hv:(loadVar ty ⟨b,0,none⟩).run P w = .ok v w):(results fn tmps).run P w = .ok v w:=by
 simp only [results,h]
 have hp':tmps[p]?.getD undef = .pointer (some ⟨b,0,none⟩):=by simpa using hp
 simp [hp',asAddr,hv]
theorem wpList_store_row {P:Program} {ops:Array Oper} {rest:List Oper} {op:Oper} {a:Act} {w:World} {Q:Exit→Act→World→Prop} (hgd:op.guard = none) (ty:TypeId) (x y:Operand) (ho:op.op = .store ty x y)
  (g t:Nat) (old cells:Array Value) (hx:a.eval x = .pointer (some ⟨g,0,none⟩)) (hy:a.eval y = .agg cells) (hg:w.heap[g]? = some (.cells old t (0,0))) (hi:(P.info? ty).map (·.size) = some cells.size) (hs:old.size = cells.size)
  (h1:cells.all (·.oneCell') = true) (h:wpList P ops Q rest (a.put op.dst undef) (w.setRow g cells)):wpList P ops Q (op :: rest) a w:=
 wpList_plain hgd fun _ hK=>by
  unfold Oper.wp execOp
  simp only [ho,hx,hy,Instr.storeAt,Instr.sureAddr,Sem.run_bind,Sem.run_pure,Result.andThen_ok,run_storeVar_row (P:=P) w g t ty old cells hg hi hs h1]
  exact hK _ _ h
theorem below_setRow' {B:Nat} (w:World) (g:Nat) (cs:Array Value) (h:B ≤ g):Below B w (w.setRow g cs):=
 ⟨rfl,rfl,rfl,by simp [World.setRow],fun k hk=>by simp only [World.setRow,Array.getElem?_modify];rw [if_neg (by omega)]⟩
theorem grown_setRow (w:World) (g:Nat) (cs:Array Value):w.grownBy (w.setRow g cs) (some g):=
 ⟨rfl,rfl,rfl,by simp [World.setRow],fun k hk hne=>by simp only [World.setRow,Array.getElem?_modify];rw [if_neg (fun e=>hne (by rw [e]))]⟩
def Octs (w:World) (g t:Nat) (bs:List UInt8):Prop:=w.heap[g]? = some (.cells (bs.map B8).toArray t (0,0))
theorem Octs.of_block {w w':World} {g t:Nat} {bs:List UInt8} (h:Octs w g t bs) (e:w'.heap[g]? = w.heap[g]?):Octs w' g t bs:=by
 unfold Octs at *;rw [e];exact h
theorem Octs.cell {w:World} {g t:Nat} {bs:List UInt8} (h:Octs w g t bs) {j:Nat} (hj:j < bs.length):w.cell? ⟨g,j,none⟩ = some (B8 (bs.getD j 0)):=by
 unfold Octs at h
 simp [World.cell?,h,List.getElem?_eq_getElem hj,List.getD]
theorem Octs.free {w:World} {g t:Nat} {bs:List UInt8} (h:Octs w g t bs) (j:Nat):w.frozen? ⟨g,j,none⟩ = false:=by
 unfold Octs at h
 simp [World.frozen?,h]
theorem Octs.set {w:World} {g t:Nat} {bs:List UInt8} (h:Octs w g t bs) (j:Nat) (x:UInt8):Octs (w.setCell ⟨g,j,none⟩ (B8 x)) g t (bs.set j x):=by
 unfold Octs at *
 obtain ⟨hlt,hk⟩:=Array.getElem?_eq_some_iff.1 h
 show (w.heap.modify g _)[g]? = _
 rw [Array.getElem?_eq_getElem (by rw [Array.size_modify];exact hlt),Array.getElem_modify_self,hk]
 simp [List.map_set]
theorem info_dig:(Tryz.prog.info? 31).map (·.size) = some 32:=by kernel_rfl
theorem octs_one (bs:List UInt8):((bs.map B8).toArray).all (·.oneCell') = true:=
 Array.all_eq_true_iff_forall_mem.2 (fun v hv=>by
  obtain ⟨x,_,rfl⟩:=List.mem_map.1 (by simpa using hv)
  rfl)
theorem wpList_store_octs {P:Program} {ops:Array Oper} {rest:List Oper} {op:Oper} {a:Act} {w:World} {Q:Exit→Act→World→Prop} (ty:TypeId) (x y:Operand) (g t:Nat) (old ws:List UInt8) (hgd:op.guard = none) (ho:op.op = .store ty x y)
  (hx:a.eval x = .pointer (some ⟨g,0,none⟩)) (hy:a.eval y = .agg (ws.map B8).toArray) (hg:Octs w g t old) (hi:(P.info? ty).map (·.size) = some ws.length) (hs:old.length = ws.length)
  (h:wpList P ops Q rest (a.put op.dst undef) (w.setRow g (ws.map B8).toArray)):wpList P ops Q (op :: rest) a w:=
 wpList_store_row hgd ty x y ho g t _ _ hx hy hg (by rw [hi];simp) (by simp [hs]) (octs_one ws) h
theorem Grew.octs {W w:World} {g t:Nat} {bs:List UInt8} (h:Grew W w) (ho:Octs W g t bs):Octs w g t bs:=ho.of_block (h.block _ (Array.getElem?_eq_some_iff.1 ho).1)
theorem Grew.bytes {W w:World} {v:Value} {bs:List UInt8} (h:Grew W w) (ho:Bytes W v bs):Bytes w v bs:=ho.of_new h
theorem Grew.cell {W w:World} {p:Addr} {v:Value} (h:Grew W w) (ho:W.cell? p = some v):w.cell? p = some v:=(Below.cell h (World.block_lt_of_cell? _ _ ho)).trans ho
theorem Grew.call {P:Program} {f:FuncId} {args:Array Value} {W w:World} {v:Value} (h:Grew W w) (hc:Calls P f args w (fun e w'=>e = .returned v∧Below w.heap.size w w')) :
  Calls P f args w (fun e w'=>e = .returned v∧Grew W w'):=hc.mono fun _ _ ⟨he,hb⟩=>⟨he,Below.trans h (hb.mono (Below.size h))⟩
theorem Grew.same {P:Program} {f:FuncId} {args:Array Value} {W w:World} {v:Value} (h:Grew W w) (hc:Calls P f args w (fun e w'=>e = .returned v∧w = w')) :
  Calls P f args w (fun e w'=>e = .returned v∧Grew W w'):=hc.mono fun _ _ ⟨he,hb⟩=>⟨he,hb ▸ h⟩
section
variable {P:Program} {W:World}
theorem wp_region_grew {id:Nat} {Q:Exit→Act→World→Prop} {a:Act} {l:List Oper} (hm:P.follows .mixedOrders = true) (hB:Region.lexB .any l.toArray = true)
  (h:wpQuiet P l.toArray (Grew W) (fun a'=>∀ w',Grew W w'→Q .normal a' w') l a):(Code.region id l.toArray true).wp P Q a W:=
 wp_region_quiet (C:=Grew W) hm hB (Grew.start W) (by simpa using h)
theorem wp_region_grew_tail {id:Nat} {Q:Exit→Act→World→Prop} {a:Act} {l:List Oper} (n:Nat) (hm:P.follows .mixedOrders = true) (hB:Region.lexTailB .any l.toArray n = true)
  (h:wpQuiet P l.toArray (Grew W) (fun a'=>∀ w',Grew W w'→wpList P l.toArray Q (l.drop n) a' w') (l.take n) a):(Code.region id l.toArray true).wp P Q a W:=
 wp_region_class (C:=Grew W) n hm hB (Grew.start W) h
end
def flatD (l:List (List UInt8)):List Value:=l.flatMap (fun d=>d.map B8)
def Dig32 (l:List (List UInt8)):Prop:=∀ d ∈ l,d.length = 32
theorem flatD_len {l:List (List UInt8)} (h:Dig32 l):(flatD l).length = l.length * 32:=by
 induction l with
 | nil=>rfl
 | cons d l ih=>
  have:=ih (fun d hd=>h d (List.mem_cons_of_mem _ hd))
  have h0:=h d (by simp)
  simp only [flatD,List.flatMap_cons,List.length_append,List.length_map,List.length_cons] at *
  omega
theorem flatD_append (a b:List (List UInt8)):flatD (a ++ b) = flatD a ++ flatD b:=by simp [flatD]
theorem flatD_at {l:List (List UInt8)} (h:Dig32 l) {i j:Nat} (hi:i < l.length) (hj:j < 32):(flatD l)[i * 32 + j]? = ((l.getD i []).map B8)[j]?:=by
 induction l generalizing i with
 | nil=>simp at hi
 | cons d l ih=>
  have h0:=h d (by simp)
  have ht:Dig32 l:=fun d hd=>h d (List.mem_cons_of_mem _ hd)
  cases i with
  | zero=>
   simp only [flatD,List.flatMap_cons,Nat.zero_mul,Nat.zero_add,List.getD_cons_zero]
   rw [List.getElem?_append_left (by simp [h0,hj])]
  | succ i=>
   simp only [List.length_cons] at hi
   have:=ih ht (i:=i) (by omega)
   simp only [flatD,List.flatMap_cons,List.getD_cons_succ]
   rw [List.getElem?_append_right (by simp [h0];omega)]
   simp only [List.length_map,h0]
   rw [show (i + 1) * 32 + j - 32 = i * 32 + j by omega]
   exact this
def Digs (w:World) (v:Value) (l:List (List UInt8)):Prop:=Dig32 l∧Row w v l.length 32 (flatD l)
def OwnD (w:World) (base:Nat) (v:Value) (l:List (List UInt8)):Prop:=Dig32 l∧w.ownsRow base 31 32 v l.length (flatD l)
theorem OwnD.digs {w:World} {base:Nat} {v:Value} {l:List (List UInt8)} (h:OwnD w base v l):Digs w v l:=⟨h.1,Row.of_owns h.2⟩
theorem OwnD.nil (w:World) (base:Nat):OwnD w base (.slice none 0 0) []:=⟨fun _ h=>by simp at h,World.ownsRow_nil _ _ _ _⟩
theorem Digs.of_new {w w':World} {v:Value} {l:List (List UInt8)} (h:Digs w v l) (hg:Below w.heap.size w w'):Digs w' v l:=⟨h.1,h.2.of_new hg⟩
theorem Digs.len {w:World} {v:Value} {l:List (List UInt8)} (h:Digs w v l):∃ a c,v = .slice a l.length c:=h.2.shape
theorem Digs.le {w:World} {v:Value} {l:List (List UInt8)} (h:Digs w v l):l.length ≤ maxLen:=by
 obtain ⟨_,_,a,c,hv,h1,h2,_⟩:=h
 omega
theorem Digs.at_ {w:World} {v:Value} {l:List (List UInt8)} (h:Digs w v l) (h0:0 < l.length):∃ b off c,v = .slice (some ⟨b,off,none⟩) l.length c∧b < w.heap.size ∧
  ∀ i,i < l.length→∀ j,j < 32→w.cell? ⟨b,off + i * 32 + j,none⟩ = ((l.getD i []).map B8)[j]?:=by
 obtain ⟨hd,hl,a,c,rfl,_,_,_,h4⟩:=h
 obtain ⟨b,off,rfl,hb,hc⟩:=h4 (by omega)
 refine ⟨b,off,c,rfl,hb,fun i hi j hj=>?_⟩
 rw [Nat.add_assoc,hc (i * 32 + j) (by omega),flatD_at hd hi hj]
theorem Dig32.getD {l:List (List UInt8)} (h:Dig32 l) {i:Nat} (hi:i < l.length):(l.getD i []).length = 32:=by
 rw [List.getD_eq_getElem?_getD,List.getElem?_eq_getElem hi];exact h _ (List.getElem_mem hi)
theorem run_load_dig (w:World) (g off:Nat) (d:List UInt8) (hd:d.length = 32) (hc:∀ j,j < 32→w.cell? ⟨g,off + j,none⟩ = (d.map B8)[j]?) :
  (loadVar 31 ⟨g,off,none⟩).run Tryz.prog w = .ok (.agg (d.map B8).toArray) w:=by
 have hl:=run_loadCells_list (P:=Tryz.prog) w ⟨g,off,none⟩ (d.map B8) (fun j v hv=>by
  have hj:j < 32:=by
   rcases Nat.lt_or_ge j 32 with h | h
   ·exact h
   ·rw [List.getElem?_eq_none (by simp;omega)] at hv;cases hv
  have hadd:(⟨g,off,none⟩:Addr).add j = ⟨g,off + j,none⟩:=by unfold Addr.add;split <;> simp_all
  rw [hadd,hc j hj,hv])
 have hi:(Tryz.prog.info? 31).map (·.size) = some 32:=by kernel_rfl
 cases hq:Tryz.prog.info? 31 with
 | none=>rw [hq] at hi;cases hi
 | some i=>
  rw [hq] at hi
  simp only [Option.map_some,Option.some.injEq] at hi
  simp only [List.length_map,hd] at hl
  simp [loadVar,isAgg,run_underlying Tryz.underlying31,sizeOf,typeInfo,hq,hi,hl]
theorem flatD_set {l:List (List UInt8)} (h:Dig32 l) {i:Nat} (hi:i < l.length) (d:List UInt8):flatD (l.set i d) = (flatD l).take (i * 32) ++ d.map B8 ++ (flatD l).drop (i * 32 + 32):=by
 induction l generalizing i with
 | nil=>simp at hi
 | cons e l ih=>
  have h0:=h e (by simp)
  have ht:Dig32 l:=fun d hd=>h d (List.mem_cons_of_mem _ hd)
  cases i with
  | zero=>
   simp only [flatD,List.set_cons_zero,List.flatMap_cons,Nat.zero_mul,List.take_zero,List.nil_append,Nat.zero_add]
   rw [List.drop_append_of_le_length (by simp [h0]),List.drop_eq_nil_of_le (by simp [h0])]
   rfl
  | succ i=>
   simp only [List.length_cons] at hi
   have:=ih ht (i:=i) (by omega)
   simp only [flatD,List.set_cons_succ,List.flatMap_cons] at this ⊢
   rw [this,show (i + 1) * 32 = (e.map B8).length + i * 32 by simp [h0];omega,List.take_length_add_append,List.drop_append,show List.drop ((e.map B8).length + i * 32 + 32) (e.map B8) = [] from List.drop_eq_nil_of_le (by omega),show (e.map B8).length + i * 32 + 32 - (e.map B8).length = i * 32 + 32 by omega]
   simp [List.append_assoc]
theorem Dig32.set {l:List (List UInt8)} (h:Dig32 l) (i:Nat) {d:List UInt8} (hd:d.length = 32):Dig32 (l.set i d):=fun e he=>by
 rcases List.mem_or_eq_of_mem_set he with h1 | h1
 ·exact h e h1
 ·rw [h1];exact hd
theorem run_store_dig (w:World) (base g n cap:Nat) (l:List (List UInt8)) (h:OwnD w base (.slice (some ⟨g,0,none⟩) n cap) l) (i:Nat) (hi:i < l.length) (d:List UInt8) (hd:d.length = 32) :
  ∃ cs,(storeVar 31 ⟨g,i * 32,none⟩ (.agg (d.map B8).toArray)).run Tryz.prog w = .ok () (w.setRow g cs)∧OwnD (w.setRow g cs) base (.slice (some ⟨g,0,none⟩) n cap) (l.set i d):=by
 obtain ⟨h32,hlen,hown⟩:=h
 rcases hown with ⟨hv,_⟩ | ⟨g',cap',cur,hv,hb,hh,hn,hm,hs,ht⟩
 ·cases hv
 cases hv
 have hst:=run_storeCells_at (P:=Tryz.prog) g (i * 32) 31 (d.map B8) 0 cur w hh (by simp [hd,hs];omega) (fun v hv=>by
  obtain ⟨b,_,rfl⟩:=List.mem_map.1 hv;rfl)
 have hi32:(Tryz.prog.info? 31).map (·.size) = some 32:=by kernel_rfl
 simp only [Nat.add_zero,List.length_map,hd] at hst
 refine ⟨(cur.toList.take (i * 32) ++ d.map B8 ++ cur.toList.drop (i * 32 + 32)).toArray,?_,h32.set i hd,?_⟩
 ·cases hq:Tryz.prog.info? 31 with
  | none=>rw [hq] at hi32;cases hi32
  | some q=>
   rw [hq] at hi32
   simp only [Option.map_some,Option.some.injEq] at hi32
   simp [storeVar,Value.cells,sizeOf,typeInfo,hq,hi32,hd]
   simpa only [List.append_assoc] using hst
 ·have hF:=flatD_len h32
  refine ⟨by rw [flatD_len (h32.set i hd)],.inr ⟨g,cap,_,by rw [List.length_set],hb,setRow_heap _ _ _ _ _ _ hh,by rw [List.length_set];exact hn,hm,?_,?_⟩⟩
  ·simp [hs,hd];omega
  ·rw [flatD_set h32 hi,← ht,List.length_set]
   have hcl:cur.toList.length = cap * 32:=by simpa using hs
   rw [List.take_take,Nat.min_eq_left (by omega),List.drop_take]
   rw [List.append_assoc,List.append_assoc,List.take_append,List.take_append]
   simp only [List.length_take,List.length_map,hd,hcl]
   rw [Nat.min_eq_left (by omega),List.take_take,Nat.min_eq_right (by omega),List.take_of_length_le (l:=d.map B8) (by simp [hd];omega)]
   rw [show l.length * 32 - i * 32 - 32 = l.length * 32 - (i * 32 + 32) by omega]
theorem OwnD.of_new {w w':World} {base:Nat} {v:Value} {l:List (List UInt8)} (h:OwnD w base v l) (hg:Below w.heap.size w w'):OwnD w' base v l:=by
 refine ⟨h.1,h.2.1,?_⟩
 rcases h.2.2 with h | ⟨g,cap,cur,hv,hb,hh,hr⟩
 ·exact .inl h
 ·exact .inr ⟨g,cap,cur,hv,hb,(hg.block _ (Array.getElem?_eq_some_iff.1 hh).1).trans hh,hr⟩
theorem wpList_store_dig {w:World} {ops:Array Oper} {rest:List Oper} {op:Oper} {a:Act} {Q:Exit→Act→World→Prop} (x y:Operand) (base g n cap:Nat) (l:List (List UInt8)) (i:Nat) (d:List UInt8) (hgd:op.guard = none) (ho:op.op = .store 31 x y)
  (hx:a.eval x = .pointer (some ⟨g,i * 32,none⟩)) (hy:a.eval y = .agg (d.map B8).toArray) (h:OwnD w base (.slice (some ⟨g,0,none⟩) n cap) l) (hi:i < l.length) (hd:d.length = 32)
  (hQ:∀ cs,OwnD (w.setRow g cs) base (.slice (some ⟨g,0,none⟩) n cap) (l.set i d)→wpList Tryz.prog ops Q rest (a.put op.dst undef) (w.setRow g cs)):wpList Tryz.prog ops Q (op :: rest) a w:=
 wpList_plain hgd fun _ hK=>by
  obtain ⟨cs,hr,ho'⟩:=run_store_dig w base g n cap l h i hi d hd
  unfold Oper.wp execOp
  simp only [ho,hx,hy,Instr.storeAt,Instr.sureAddr,Sem.run_bind,Sem.run_pure,Result.andThen_ok,hr]
  exact hK _ _ (hQ cs ho')
theorem flatD_take {l:List (List UInt8)} (h:Dig32 l) (m:Nat):flatD (l.take m) = (flatD l).take (m * 32):=by
 induction l generalizing m with
 | nil=>simp [flatD]
 | cons d l ih=>
  have h0:=h d (by simp)
  have ht:Dig32 l:=fun d hd=>h d (List.mem_cons_of_mem _ hd)
  cases m with
  | zero=>simp [flatD]
  | succ m=>
   have:=ih ht m
   simp only [flatD,List.take_succ_cons,List.flatMap_cons] at this ⊢
   rw [this,show (m + 1) * 32 = (d.map B8).length + m * 32 by simp [h0];omega,List.take_length_add_append]
theorem flatD_drop {l:List (List UInt8)} (h:Dig32 l) (m:Nat):flatD (l.drop m) = (flatD l).drop (m * 32):=by
 induction l generalizing m with
 | nil=>simp [flatD]
 | cons d l ih=>
  have h0:=h d (by simp)
  have ht:Dig32 l:=fun d hd=>h d (List.mem_cons_of_mem _ hd)
  cases m with
  | zero=>simp
  | succ m=>
   have:=ih ht m
   simp only [flatD,List.drop_succ_cons,List.flatMap_cons] at this ⊢
   rw [this,show (m + 1) * 32 = (d.map B8).length + m * 32 by simp [h0];omega,List.drop_length_add_append]
theorem Dig32.take {l:List (List UInt8)} (h:Dig32 l) (m:Nat):Dig32 (l.take m):=fun d hd=>h d (List.mem_of_mem_take hd)
theorem OwnD.first {w:World} {base g n cap m:Nat} {l:List (List UInt8)} (h:OwnD w base (.slice (some ⟨g,0,none⟩) n cap) l) (hm:m ≤ l.length):OwnD w base (.slice (some ⟨g,0,none⟩) m cap) (l.take m):=by
 have e:(l.take m).length = m:=by rw [List.length_take];omega
 refine ⟨h.1.take m,by rw [flatD_len (h.1.take m)],?_⟩
 rcases h.2.2 with ⟨h,_⟩ | ⟨g',cap',cur,hv,hb,hh,hn,hm',hs,ht⟩
 ·cases h
 ·cases hv
  refine .inr ⟨g,cap,cur,by rw [e],hb,hh,by rw [e];omega,hm',hs,?_⟩
  rw [e,flatD_take h.1,← ht,List.take_take,Nat.min_eq_left (by omega)]
theorem wpList_load_dig {w:World} {ops:Array Oper} {rest:List Oper} {op:Oper} {a:Act} {Q:Exit→Act→World→Prop} (x:Operand) (g off:Nat) (d:List UInt8) (hgd:op.guard = none) (ho:op.op = .load 31 x)
  (hx:a.eval x = .pointer (some ⟨g,off,none⟩)) (hd:d.length = 32) (hc:∀ j,j < 32→w.cell? ⟨g,off + j,none⟩ = (d.map B8)[j]?)
  (h:wpList Tryz.prog ops Q rest (a.put op.dst (.agg (d.map B8).toArray)) w):wpList Tryz.prog ops Q (op :: rest) a w:=
 wpList_plain hgd fun _ hK=>by
  have:=run_load_dig w g off d hd hc
  unfold Oper.wp execOp
  simp only [ho,hx,Instr.loadAt,Instr.sureAddr,Sem.run_bind,Sem.run_pure,Result.andThen_ok,this]
  exact hK _ _ h
theorem infoDig:(Tryz.prog.info? 31).map (fun i=>(i.zero,i.size,i.bytes)) = some (some (.agg ((List.replicate 32 (0:UInt8)).map B8).toArray),32,32):=by kernel_rfl
theorem run_appD {w:World} (base t ty:Nat) (ht:Tryz.prog.underlying t = some (.slice 31))
  (v:Value) (l:List (List UInt8)) (hown:OwnD w base v l) (u:Value) (m:List (List UInt8)) (hm:Digs w u m) (hlen:l.length + m.length ≤ 1099511627776) (hbase:base ≤ w.heap.size) :
  ∃ v' w',(Builtin.append_ #[t,t] ty #[v,u]).run Tryz.prog w = .ok v' w'∧OwnD w' base v' (l ++ m)∧w.grownBy w' v.ownBlock∧(∀ k,v'.ownBlock = some k→v.ownBlock = some k∨w.heap.size ≤ k):=by
 obtain ⟨i,hi,hz,hsize,hby⟩:=info_parts infoDig
 obtain ⟨h32,hown⟩:=hown
 obtain ⟨hm32,hl,ad,c,rfl,hc1,hc2,hc3,hc4⟩:=hm
 have hd:Dig32 (l ++ m):=fun d hd=>(List.mem_append.1 hd).elim (h32 d) (hm32 d)
 cases ad with
 | none=>
  have hc0:=hc3 rfl
  have hm0:m = []:=List.eq_nil_of_length_eq_zero (by omega)
  subst hm0
  subst hc0
  refine ⟨v,w,run_append_owned_none (P:=Tryz.prog) (w:=w) base t ty 31 i 32 ht hi v l.length (flatD l) hown,by rw [List.append_nil];exact ⟨h32,hown⟩,World.grownBy.refl _ _,fun k hk=>.inl hk⟩
 | some ad=>
  obtain ⟨v',w',h1,h2,h3,_,h5⟩:=run_append_own_at (P:=Tryz.prog) w base t ty 31 i _ 32 32 ht hi hz hsize hby (by simp [Value.cells]) (by decide) v l.length (flatD l) hown ad m.length c (flatD m) (by rw [flatD_len hm32])
   (fun j u hj=>by
    have hjl:j < m.length * 32:=by
     rcases Nat.lt_or_ge j (m.length * 32) with h | h
     ·exact h
     ·rw [List.getElem?_eq_none (by rw [flatD_len hm32];exact h)] at hj;cases hj
    obtain ⟨b,off,hab,_,hcell⟩:=hc4 (by omega)
    cases hab
    have hplain:(⟨b,off,none⟩:Addr).add j = ⟨b,off + j,none⟩:=by unfold Addr.add;split <;> simp_all
    rw [hplain,hcell j (by omega),hj])
   (fun u hu=>by
    obtain ⟨d,_,hb⟩:=List.mem_flatMap.1 hu
    obtain ⟨b,_,rfl⟩:=List.mem_map.1 hb
    rfl) (by unfold maxLen;omega) (by omega) hbase
  refine ⟨v',w',h1,⟨hd,?_⟩,h3,?_⟩
  ·rw [flatD_append,List.length_append];exact h2
  ·intro k hk
   rcases h5 with h5 | h5
   ·exact .inl (by rw [← h5];exact hk)
   ·rw [h5] at hk;cases hk;exact .inr (Nat.le_refl _)
theorem wpList_appD {w:World} {ops:Array Oper} {rest:List Oper} {o:Oper} {a:Act} {Q:Exit→Act→World→Prop} (hgd:o.guard = Option.none) (s x:Operand) (t:TypeId)
  (ho:o.op = .call { callee:=.builtin .append,args:=#[s,x],argTypes:=#[t,t] })
  (base:Nat) (ht:Tryz.prog.underlying t = some (.slice 31))
  (v:Value) (l:List (List UInt8)) (hs:a.eval s = v) (hown:OwnD w base v l) (u:Value) (m:List (List UInt8)) (hx:a.eval x = u) (hm:Digs w u m)
  (hlen:l.length + m.length ≤ 1099511627776) (hbase:base ≤ w.heap.size)
  (h:∀ v' w',OwnD w' base v' (l ++ m)→w.grownBy w' v.ownBlock→(∀ k,v'.ownBlock = some k→v.ownBlock = some k∨w.heap.size ≤ k)→wpList Tryz.prog ops Q rest (a.put o.dst v') w'):wpList Tryz.prog ops Q (o :: rest) a w:=
 wpList_plain hgd fun K hK=>by
  obtain ⟨v',w',hr,h2,h3,h4⟩:=run_appD base t o.type ht v l hown u m hm hlen hbase
  unfold Oper.wp execOp
  simp only [ho,resolve,invoke,builtin,Sem.run_bind,Sem.run_pure,Result.andThen_ok,List.map_toArray,List.map_cons,List.map_nil,hs,hx,hr]
  exact hK _ _ (h v' w' h2 h3 h4)
theorem quiet_load_dig {W:World} {o:Oper} {a:Act} {K:Act→Prop} (x:Operand) (g off:Nat) (d:List UInt8) (ho:o.op = .load 31 x) (hx:a.eval x = .pointer (some ⟨g,off,none⟩)) (hd:d.length = 32) (hg:g < W.heap.size)
  (hc:∀ j,j < 32→W.cell? ⟨g,off + j,none⟩ = (d.map B8)[j]?) (hK:K (a.put o.dst (.agg (d.map B8).toArray))):o.quiet Tryz.prog a (Grew W) K:=by
 refine quiet_val (fun w hw=>?_) hK
 have:=run_load_dig w g off d hd (fun j hj=>(Below.cell hw (p:=⟨g,off + j,none⟩) hg).trans (hc j hj))
 unfold execOp
 simp only [ho,hx,Instr.loadAt,Instr.sureAddr,Sem.run_bind,Sem.run_pure,Result.andThen_ok,this]
theorem ownD_empty (w:World):OwnD (w.alloc (.cells #[] 31)) w.heap.size (.slice (some ⟨w.heap.size,0,none⟩) 0 0) []:=⟨fun _ h=>by simp at h,World.ownsRow_made w #[] 0 (Nat.le_refl _) (by unfold maxLen;omega) rfl⟩
def DigAt (w:World) (g off:Nat) (d:List UInt8):Prop:=d.length = 32∧∀ j,j < 32→w.cell? ⟨g,off + j,none⟩ = (d.map B8)[j]?
theorem DigAt.lt {w:World} {g off:Nat} {d:List UInt8} (h:DigAt w g off d):g < w.heap.size:=by
 have:=h.2 0 (by omega)
 rw [List.getElem?_eq_getElem (by simp [h.1])] at this
 exact World.block_lt_of_cell? _ _ this
theorem DigAt.of_new {w w':World} {g off:Nat} {d:List UInt8} (h:DigAt w g off d) (hg:Below w.heap.size w w'):DigAt w' g off d:=
 ⟨h.1,fun j hj=>(hg.cell (p:=⟨g,off + j,none⟩) h.lt).trans (h.2 j hj)⟩
theorem DigAt.of_block {w w':World} {g off:Nat} {d:List UInt8} (h:DigAt w g off d) (hg:w'.heap[g]? = w.heap[g]?):DigAt w' g off d:=
 ⟨h.1,fun j hj=>(World.cell?_of_block (a:=⟨g,off + j,none⟩) hg).trans (h.2 j hj)⟩
theorem Digs.digAt {w:World} {b off n c:Nat} {l:List (List UInt8)} (h:Digs w (.slice (some ⟨b,off,none⟩) n c) l) {i:Nat} (hi:i < l.length):DigAt w b (off + i * 32) (l.getD i []):=by
 obtain ⟨b',off',c',hv,hb,hc⟩:=h.at_ (by omega)
 cases hv
 exact ⟨h.1.getD hi,hc i hi⟩
theorem Digs.digAt0 {w:World} {b n c:Nat} {l:List (List UInt8)} (h:Digs w (.slice (some ⟨b,0,none⟩) n c) l) {i:Nat} (hi:i < l.length):DigAt w b (i * 32) (l.getD i []):=by
 have:=h.digAt hi
 rwa [Nat.zero_add] at this
theorem Octs.digAt {w:World} {g t:Nat} {d:List UInt8} (h:Octs w g t d) (hd:d.length = 32):DigAt w g 0 d:=
 ⟨hd,fun j hj=>by rw [Nat.zero_add];simp [World.cell?,show w.heap[g]? = _ from h]⟩
theorem Digs.shape {w:World} {v:Value} {l:List (List UInt8)} (h:Digs w v l) (h0:0 < l.length):∃ b off c,v = .slice (some ⟨b,off,none⟩) l.length c:=by
 obtain ⟨b,off,c,hv,_⟩:=h.at_ h0
 exact ⟨b,off,c,hv⟩
theorem OwnD.lt {w:World} {base:Nat} {v:Value} {l:List (List UInt8)} (h:OwnD w base v l):∀ k,v.ownBlock = some k→base ≤ k∧k < w.heap.size:=World.ownsRow.lt h.2
theorem OwnD.mono {w:World} {base base':Nat} {v:Value} {l:List (List UInt8)} (h:OwnD w base v l) (hb:base' ≤ base):OwnD w base' v l:=
 ⟨h.1,h.2.1,h.2.2.imp id (fun ⟨g,cap,cur,a,b,c⟩=>⟨g,cap,cur,a,Nat.le_trans hb b,c⟩)⟩
theorem OwnD.alloc {w:World} {base:Nat} {v:Value} {l:List (List UInt8)} (h:OwnD w base v l) (o:Obj):OwnD (w.alloc o) base v l:=h.of_new ((Below.refl _ _).alloc (Nat.le_refl _) o)
theorem wpList_load_at {w:World} {ops:Array Oper} {rest:List Oper} {op:Oper} {a:Act} {Q:Exit→Act→World→Prop} {ty:TypeId} {x:Operand} {g off:Nat} {d:List UInt8} (hgd:op.guard = none) (ho:op.op = .load 31 x)
  (hx:a.eval x = .pointer (some ⟨g,off,none⟩)) (hd:DigAt w g off d) (h:wpList Tryz.prog ops Q rest (a.put op.dst (.agg (d.map B8).toArray)) w):wpList Tryz.prog ops Q (op :: rest) a w:=
 wpList_load_dig x g off d hgd ho hx hd.1 hd.2 h
theorem quiet_load_at {W:World} {o:Oper} {a:Act} {K:Act→Prop} {ty:TypeId} {x:Operand} {g off:Nat} {d:List UInt8} (ho:o.op = .load 31 x) (hx:a.eval x = .pointer (some ⟨g,off,none⟩))
  (hd:DigAt W g off d) (hK:K (a.put o.dst (.agg (d.map B8).toArray))):o.quiet Tryz.prog a (Grew W) K:=
 quiet_load_dig x g off d ho hx hd.1 hd.lt hd.2 hK
theorem digs_laid (w:World) (ds:List (List UInt8)) (h32:Dig32 ds) (h1:ds.length ≤ maxLen):OwnD (w.alloc (.cells (flatD ds).toArray 31)) w.heap.size (.slice (some ⟨w.heap.size,0,none⟩) ds.length ds.length) ds:=
 ⟨h32,by rw [flatD_len h32],.inr ⟨w.heap.size,ds.length,(flatD ds).toArray,rfl,Nat.le_refl _,heap_alloc_new _ _,Nat.le_refl _,h1,by simp [flatD_len h32],by rw [← flatD_len h32];simp⟩⟩
set_option maxRecDepth 100000 in
theorem wpList_buildDigs {w:World} {ops:Array Oper} {rest:List Oper} {op:Oper} {a:Act} {Q:Exit→Act→World→Prop} (n:Nat) (parts:Array (Nat × Operand)) (ds:List (List UInt8)) (hgd:op.guard = none) (ho:op.op = .buildSlice 34 n parts)
  (hn:n = ds.length) (h0:0 < ds.length) (h1:ds.length ≤ 1000) (h32:Dig32 ds) (hp:(parts.map fun (i,x)=>(i,a.eval x)).toList = ((ds.map fun d=>Value.agg (d.map B8).toArray).zipIdx 0).map fun x=>(x.2,x.1))
  (h:∀ w',OwnD w' w.heap.size (.slice (some ⟨w.heap.size,0,none⟩) n n) ds→Below w.heap.size w w'→w'.heap.size = w.heap.size + 1→wpList Tryz.prog ops Q rest (a.put op.dst (.slice (some ⟨w.heap.size,0,none⟩) n n)) w'):wpList Tryz.prog ops Q (op :: rest) a w:=by
 obtain ⟨i,hi,hz,hsize,hby⟩:=info_parts infoDig
 subst hn
 refine wpList_buildSlice hgd 34 31 ds.length parts ho (flatD ds).toArray i _ Tryz.underlying34 hi hz (by rw [hsize];omega) (by rw [hsize];omega) ?_ (h _ (digs_laid w ds h32 (by unfold maxLen;omega)) ((Below.refl _ w).alloc (Nat.le_refl _) _) (by simp))
 rw [hp,hsize]
 rw [Great.fill_whole (by omega) _ _ (fun v hv=>by
  obtain ⟨d,hd,rfl⟩:=List.mem_map.1 hv
  simp [Value.cells,h32 d hd]) (by simp)]
 congr 1
 simp [flatD,List.flatMap_map,Value.cells]
end Go.Proofs.YtnohglkilpnjhaaGreatDoor
