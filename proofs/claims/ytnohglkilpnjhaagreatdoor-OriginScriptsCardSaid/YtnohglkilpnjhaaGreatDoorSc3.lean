/- Lemmas that the statement of this claim leans on; their own comments are taken out, for the size of the claim. No condition beyond what each lemma states. -/
import Derived.Test.YtnohglkilpnjhaaGreatDoorSc2
import Derived.OrdersIn
import Derived.RangeFuncCalls
import Derived.OwnWalkIn
import Derived.TacticsInMore
import Derived.OneCell
import Derived.Laws.StructEq
import Derived.Maps.OwnSet
import Derived.Maps.Range
import Derived.DeepKeys4
set_option linter.unusedVariables false
set_option linter.unusedSimpArgs false
set_option linter.unusedSectionVars false
namespace Go.Proofs.YtnohglkilpnjhaaGreatDoor
open Go.RowKit
def WF (ro:Option Nat):Fence:={ Fence.wide with round:=ro }
theorem wF_none:WF none = Fence.wide:=rfl
theorem wF_some (l:Nat):WF (some l) = Fence.wide.inRound l:=rfl
section
variable {ro:Option Nat} {m:Nat} {P:Program} {ops:Array Oper} {md:Region.Mode} {C:World→Prop}
theorem callsIn_wF {f:FuncId} {args:Array Value} {w:World} {R:Ending→World→Prop} (h:Calls P f args w R):CallsIn (WF ro) m P f args w R:=
 (callsIn_wide (n:=m)).2 h
theorem rowsIn_wF {row:String} {args:Array Value} {w:World} {R:Value→World→Prop} (h:Rows P row args w R):RowsIn (WF ro) m P row args w R:=fun c cs _=>by
 obtain ⟨v,w',r,s⟩:=h c cs
 exact ⟨v,w',r,(stepsIn_wide (P:=P)).2 s⟩
theorem wpIn_of_wp {o:Oper} {a:Act} {w:World} {K:Act→World→Prop} {Q:Exit→Act→World→Prop} (hd:∀ c,o.op ≠ .defer c) (h:o.wp P a w K Q):o.wpIn (WF ro) m P a w K Q:=by
 refine ⟨fun _ _=>trivial,?_⟩
 rw [Oper.semAt_eq _ _ _ hd]
 unfold Oper.wp at h
 generalize (execOp a.eval o).run P w = r at *
 cases r with
 | ok x w'=>
  cases x <;> simp only [Oper.upon] at h <;> simp only [Oper.uponIn]
  case value=>exact h
  case skip=>exact h
  case defer=>exact h
  case enter=>exact ⟨(fun h=>by simp [WF,Fence.wide] at h),callsIn_wF h⟩
  case row=>exact ⟨(fun h=>by simp [WF,Fence.wide] at h),rowsIn_wF h⟩
 | halt x w'=>cases x <;> simp only [Oper.upon] at h <;> simp only [Oper.uponIn] <;> exact h
theorem wpListIn_of_wp {ops:Array Oper} {rest:List Oper} {o:Oper} {a:Act} {w:World} {Q:Exit→Act→World→Prop} (hgd:o.guard = none) (hd:∀ c,o.op ≠ .defer c)
  (h:o.wp P a w (wpListIn (WF ro) m P ops Q rest) Q):wpListIn (WF ro) m P ops Q (o :: rest) a w:=
 wpListIn_plain hgd fun K hK=>wpIn_of_wp hd (Oper.wp_mono hK h)
def noDefer (ops:Array Oper):Bool:=ops.all fun o=>match o.op with | .defer _=>false | _=>true
theorem noDefer_spec {i:Nat} {o:Oper} (h:noDefer ops = true) (hi:ops[i]? = some o):∀ c,o.op ≠ .defer c:=by
 intro c hc
 have:=Array.all_eq_true_iff_forall_mem.1 h o (Array.mem_of_getElem? hi)
 rw [hc] at this
 cases this
theorem wpOpIn_of_qOp {i:Nat} {a:Act} {K:Act→Prop} {K':Act→World→Prop} {Q':Exit→Act→World→Prop} {w:World} (hnd:noDefer ops = true) (hC:C w) (h:∀ a w',C w'→K a→K' a w') (hh:qOp P ops C i K a) :
  wpOpIn (WF ro) m P ops Q' i K' a w:=by
 unfold qOp at hh
 unfold wpOpIn
 split
 ·rename_i ho;simp only [ho] at hh;exact h _ _ hC hh
 ·rename_i o ho
  simp only [ho] at hh
  split
  ·rename_i hw;simp only [hw,if_true] at hh;exact wpIn_of_wp (noDefer_spec hnd ho) (Oper.wp_of_quiet hC h hh)
  ·rename_i hw;simp only [hw] at hh;exact ⟨fun _ _=>trivial,h _ _ hC hh⟩
def wpAnyS (ro:Option Nat) (m:Nat) (P:Program) (md:Region.Mode) (ops:Array Oper) (C:World→Prop) (D:Nat→Bool) (Q:Exit→Act→World→Prop):Nat→Array Bool→Act→World→Prop
 | 0,listed,a,w=>Region.ready md ops listed = []∧Q .normal a w
 | fuel + 1,listed,a,w=>
  (Region.ready md ops listed = []→Q .normal a w) ∧
  ∀ i ∈ Region.ready md ops listed,wpOpIn (WF ro) m P ops Q i (fun a' w'=>(D i = false→C w')∧wpAnyS ro m P md ops C D Q fuel (listed.setIfInBounds i true) a' w') a w
variable {D:Nat→Bool} {Q:Exit→Act→World→Prop}
def StillIn (P:Program) (ops:Array Oper) (C:World→Prop) (o:Oper) (v:Value) (a:Act):Prop:=
 Region.wanted o (yielded ops a.tmps) = true∧∀ w,C w→(execOp a.eval o).run P w = .ok (.value v) w
theorem StillIn.of_same {o:Oper} {v:Value} {a a':Act} (hy:StillIn P ops C o v a) (he:execOp a'.eval o = execOp a.eval o)
  (hw:Region.wanted o (yielded ops a'.tmps) = Region.wanted o (yielded ops a.tmps)):StillIn P ops C o v a':=by
 unfold StillIn at *
 rw [he,hw]
 exact hy
theorem StillIn.wpOpIn {i:Nat} {o:Oper} {v:Value} {a:Act} {w:World} {K:Act→World→Prop} (hnd:noDefer ops = true) (hi:ops[i]? = some o) (hy:StillIn P ops C o v a) (hC:C w) (h:K (a.put o.dst v) w) :
  wpOpIn (WF ro) m P ops Q i K a w:=by
 unfold Go.wpOpIn
 simp only [hi,hy.1,if_true]
 refine wpIn_of_wp (noDefer_spec hnd hi) ?_
 unfold Oper.wp
 rw [hy.2 w hC]
 exact h
theorem wpOpIn_putS {j:Nat} {oi oj:Oper} {v:Value} (hnd:noDefer ops = true) (hj:ops[j]? = some oj) (hap:oi.apart ops oj = true)
  (hsi:∀ cs b,oi.op ≠ .select cs b) (hsj:∀ cs b,oj.op ≠ .select cs b)
  (hQ:∀ c a w,Q (.panic c) (a.put oi.dst v) w→Q (.panic c) a w) {K:Act→World→Prop} {a:Act} {w:World}
  (hy:StillIn P ops C oi v a) (h:wpOpIn (WF ro) m P ops Q j K (a.put oi.dst v) w) :
  wpOpIn (WF ro) m P ops Q j (fun a' w'=>StillIn P ops C oi v a'∧K (a'.put oi.dst v) w') a w:=by
 obtain ⟨h1,h2,h3⟩:=Oper.apart_spec hap
 have keep:∀ (a:Act),StillIn P ops C oi v a→∀ u,StillIn P ops C oi v (a.put oj.dst u):=fun a hy u=>
  hy.of_same (execOp_put oi hsi a oj.dst u h3) (wanted_put oi a oj.dst u h3)
 have hdj:=noDefer_spec hnd hj
 unfold wpOpIn at *
 simp only [hj] at *
 rw [wanted_put oj a oi.dst v h1,about_put oj w a oi.dst v h1] at h
 split
 ·rename_i hw
  simp only [hw,if_true] at h
  unfold Oper.wpIn at *
  refine ⟨fun _ _=>trivial,?_⟩
  have h:=h.2
  rw [Oper.semAt_eq _ _ _ hdj,execOp_put oj hsj a oi.dst v h1] at h
  rw [Oper.semAt_eq _ _ _ hdj]
  generalize hr:(execOp a.eval oj).run P w = r at *
  cases r with
  | ok x w'=>
   cases x <;> simp only [Oper.uponIn] at h ⊢
   case value u=>exact ⟨keep a hy u,by rw [← Act.put_comm a v u h2];exact h⟩
   case skip=>exact ⟨keep a hy _,by rw [← Act.put_comm a v undef h2];exact h⟩
   case defer d=>exact ⟨(hy.of_same rfl rfl:StillIn P ops C oi v { a with defers:=d :: a.defers }).of_same (execOp_put oi hsi _ oj.dst _ h3) (wanted_put oi _ oj.dst _ h3),by rw [← Act.put_comm _ v undef h2,← Act.put_defers];exact h⟩
   case enter f args=>
    refine ⟨h.1,CallsIn.mono h.2 fun e w'' he=>?_⟩
    cases e with
    | returned u=>exact ⟨keep a hy u,by rw [← Act.put_comm a v u h2];exact he⟩
    | panicked c=>exact hQ _ _ _ he
    | outgrown=>exact he
   case row row args=>exact ⟨h.1,RowsIn.mono h.2 fun u w'' he=>⟨keep a hy u,by rw [← Act.put_comm a v u h2];exact he⟩⟩
   case round l f tmps assign body=>
    refine ⟨h.1,RoundIn.mono h.2 fun e w'' he=>?_⟩
    cases e with
    | returned u=>exact ⟨keep a hy u,by rw [← Act.put_comm a v u h2];exact he⟩
    | panicked c=>exact hQ _ _ _ he
    | outgrown=>exact he
  | halt x w'=>
   cases x <;> simp only [Oper.uponIn] at h ⊢
   case panic u=>exact hQ _ _ _ h
 ·rename_i hw
  simp only [hw] at h
  exact ⟨fun _ _=>trivial,keep a hy _,by rw [← Act.put_comm a v undef h2];exact h.2⟩
theorem wpAnyS_any:∀ (fuel:Nat) (listed:Array Bool) (a:Act) (w:World),wpAnyS ro m P md ops C D Q fuel listed a w→wpAnyIn (WF ro) m P md ops Q fuel listed a w:=by
 intro fuel
 induction fuel with
 | zero=>intro listed a w h;exact h
 | succ fuel ih=>intro listed a w h;exact ⟨h.1,fun i hi=>wpOpIn_mono (fun a' w' h'=>ih _ a' w' h'.2) (h.2 i hi)⟩
theorem wpAnyS_first {i:Nat} {oi:Oper} {v:Value} (hnd:noDefer ops = true) (hi:ops[i]? = some oi) (hsel:∀ (j:Nat) (o:Oper) cs b,ops[j]? = some o→o.op ≠ .select cs b)
  (hQ:∀ c a w,Q (.panic c) (a.put oi.dst v) w→Q (.panic c) a w) (hDi:∀ j,D j = true→Region.waitsFor md ops j i = true) :
  ∀ (fuel:Nat) (listed:Array Bool) (a:Act) (w:World),
   (∀ j oj,ops[j]? = some oj→j ≠ i→listed.getD j true = false→(∀ e ∈ oj.after,Region.binds md e = true→e.on ≠ i)→oi.apart ops oj = true) →
   i ∈ Region.ready md ops listed→StillIn P ops C oi v a→C w →
   wpAnyS ro m P md ops C D Q fuel (listed.setIfInBounds i true) (a.put oi.dst v) w→wpAnyIn (WF ro) m P md ops Q (fuel + 1) listed a w:=by
 intro fuel
 induction fuel with
 | zero=>
  intro listed a w _ hr hy hC H
  refine ⟨fun h=>(by rw [h] at hr;cases hr),fun j hj=>?_⟩
  by_cases hji:j = i
  ·subst hji;exact hy.wpOpIn hnd hi hC H
  ·have:=ready_mono hj hji
   rw [H.1] at this
   cases this
 | succ fuel ih=>
  intro listed a w hfree hr hy hC H
  refine ⟨fun h=>(by rw [h] at hr;cases hr),fun j hj=>?_⟩
  by_cases hji:j = i
  ·subst hji;exact hy.wpOpIn hnd hi hC (wpAnyS_any _ _ _ _ H)
  ·have h1:=H.2 j (ready_mono hj hji)
   obtain ⟨hjun,oj,hoj,hall⟩:=mem_ready.1 hj
   have hnot:∀ e ∈ oj.after,Region.binds md e = true→e.on ≠ i:=fun e he hb heq=>by
    have h1:=hall e he hb
    have h0:=(mem_ready.1 hr).1
    rw [heq] at h1
    rcases Nat.lt_or_ge i listed.size with h' | h'
    ·simp [h'] at h0 h1;rw [h0] at h1;cases h1
    ·simp [Array.getElem?_eq_none h'] at h1
   have hDj:D j = false:=by
    cases hd:D j with
    | false=>rfl
    | true=>
     obtain ⟨oj',hoj',e,he,hb,hon⟩:=Region.waitsFor_spec (hDi j hd)
     rw [hoj] at hoj'
     cases hoj'
     exact absurd hon (hnot e he hb)
   have h2:=wpOpIn_putS (C:=C) hnd hoj (hfree j oj hoj hji hjun hnot) (fun cs b=>hsel i oi cs b hi) (fun cs b=>hsel j oj cs b hoj) hQ hy h1
   have hfree':∀ k ok,ops[k]? = some ok→k ≠ i→(listed.setIfInBounds j true).getD k true = false →
     (∀ e ∈ ok.after,Region.binds md e = true→e.on ≠ i)→oi.apart ops ok = true:=fun k ok hk hki hun hno=>by
    refine hfree k ok hk hki ?_ hno
    by_cases hjk:j = k
    ·subst hjk;exact hjun
    ·rw [getD_set_ne true hjk] at hun;exact hun
   refine wpOpIn_mono (fun a' w' h3=>ih (listed.setIfInBounds j true) a' w' hfree' (ready_mono hr (Ne.symm hji)) h3.1 (h3.2.1 hDj) ?_) h2
   rw [Array.setIfInBounds_comm _ _ hji]
   exact h3.2.2
theorem wpAnyS_of_headQ {n g:Nat} {L:Array Bool→Act→Prop} (hnd:noDefer ops = true) (hL:∀ listed a w,C w→L listed a→wpAnyS ro m P md ops C D Q g listed a w) :
  ∀ (f:Nat) (listed:Array Bool) (a:Act) (w:World),C w→wpHeadQ P md ops C n L f listed a→wpAnyS ro m P md ops C D Q (f + g) listed a w:=by
 intro f
 induction f with
 | zero=>intro listed a w hw h;rw [Nat.zero_add];exact hL _ _ _ hw h
 | succ f ih=>
  intro listed a w hw h
  rw [show f + 1 + g = (f + g) + 1 by omega]
  exact ⟨fun h0=>absurd h0 h.1,fun i hi=>wpOpIn_of_qOp hnd hw (fun a' w' hw' h'=>⟨fun _=>hw',ih _ a' w' hw' h'⟩) (h.2 i hi).2⟩
def wpListS (ro:Option Nat) (m:Nat) (P:Program) (ops:Array Oper) (C:World→Prop) (D:Nat→Bool) (Q:Exit→Act→World→Prop):Nat→List Oper→Act→World→Prop
 | _,[],a,w=>Q .normal a w
 | k,o :: rest,a,w=>
  if Region.wanted o (yielded ops a.tmps) then o.wpIn (WF ro) m P a w (fun a' w'=>(D k = false→C w')∧wpListS ro m P ops C D Q (k + 1) rest a' w') Q
  else (D k = false→C w)∧wpListS ro m P ops C D Q (k + 1) rest (a.put o.dst undef) w
theorem wpAnyS_of_seq:∀ (l:List Oper) (k:Nat) (listed:Array Bool) (a:Act) (w:World),(∀ j,l[j]? = ops[k + j]?) →
  Region.seqB md ops l.length k listed = true→wpListS ro m P ops C D Q k l a w→wpAnyS ro m P md ops C D Q l.length listed a w
 | [],_,_,_,_,_,hB,h=>⟨by simpa [Region.seqB] using hB,h⟩
 | o :: l,k,listed,a,w,hl,hB,h=>by
  have h0:ops[k]? = some o:=by simpa using (hl 0).symm
  simp only [List.length_cons,Region.seqB,Bool.and_eq_true,decide_eq_true_eq] at hB
  refine ⟨fun h1=>(by rw [hB.1] at h1;cases h1),fun i hi=>?_⟩
  rw [hB.1] at hi
  have hik:i = k:=by simpa using hi
  subst hik
  have hw:wpOpIn (WF ro) m P ops Q i (fun a' w'=>(D i = false→C w')∧wpListS ro m P ops C D Q (i + 1) l a' w') a w:=by
   unfold wpOpIn
   simp only [h0]
   unfold wpListS at h
   split
   ·rename_i hq;rw [if_pos hq] at h;exact h
   ·rename_i hq;rw [if_neg hq] at h;exact ⟨fun _ _=>trivial,h⟩
  exact wpOpIn_mono (fun a' w' h'=>⟨h'.1,wpAnyS_of_seq l (i + 1) _ a' w' (fun j=>by have:=hl (j + 1);simpa [Nat.add_assoc,Nat.add_comm 1 j] using this) hB.2 h'.2⟩) hw
theorem wpListS_of_list:∀ (l:List Oper) (k:Nat) (a:Act) (w:World),(∀ j,k ≤ j→j < k + l.length→D j = true)→wpListIn (WF ro) m P ops Q l a w→wpListS ro m P ops C D Q k l a w
 | [],_,_,_,_,h=>h
 | o :: l,k,a,w,hD,h=>by
  have hk:D k = true:=hD k (Nat.le_refl _) (by simp)
  unfold wpListS
  unfold wpListIn at h
  split
  ·rename_i hq
   rw [if_pos hq] at h
   exact Oper.wpIn_mono (fun a' w' h'=>⟨(fun e=>by rw [hk] at e;cases e),wpListS_of_list l (k + 1) a' w' (fun j h1 h2=>hD j (by omega) (by simp only [List.length_cons];omega)) h'⟩) h
  ·rename_i hq
   rw [if_neg hq] at h
   exact ⟨(fun e=>by rw [hk] at e;cases e),wpListS_of_list l (k + 1) _ w (fun j h1 h2=>hD j (by omega) (by simp only [List.length_cons];omega)) h.2⟩
def Late (ro:Option Nat) (m:Nat) (P:Program) (ops:Array Oper) (C:World→Prop) (Q:Exit→Act→World→Prop) (ob:Oper) (rest:List Oper) (a:Act) (w:World):Prop:=
 ob.wp P a w (fun a'' w''=>C w''∧wpListIn (WF ro) m P ops Q rest a'' w'') Q
theorem Late.mk {ro:Option Nat} {m:Nat} {P:Program} {ops:Array Oper} {C:World→Prop} {Q:Exit→Act→World→Prop} {ob:Oper} {rest:List Oper} {a:Act} {w:World} (h:ob.wp P a w (fun a'' w''=>C w''∧wpListIn (WF ro) m P ops Q rest a'' w'') Q):Late ro m P ops C Q ob rest a w:=h
theorem wpIn_region_late {id:Nat} {a:Act} {w:World} {o ob:Oper} {l:List Oper} (n:Nat) (v:Value) (hm:P.follows .mixedOrders = true) (hgo:o.guard = none) (hob:(o :: l)[n]? = some ob) (hgb:ob.guard = none)
  (hT:(Region.noSelect (o :: l).toArray && noDefer (o :: l).toArray && Region.free .any (o :: l).toArray (Array.replicate (l.length + 1) false) 0 && (Region.ready .any (o :: l).toArray (Array.replicate (l.length + 1) false)).contains 0) = true)
  (hB:(decide (n < l.length + 1) && decide (1 ≤ n) && invB .any (o :: l).toArray n ((Array.replicate (l.length + 1) false).setIfInBounds 0 true) && sinkU .any (o :: l).toArray n ((Array.replicate (l.length + 1) false).setIfInBounds 0 true) && Region.chainB .any (o :: l).toArray n && Region.lexHead .any (o :: l).toArray (l.length + 1 - n) (n - 1) 1 ((Array.replicate (l.length + 1) false).setIfInBounds 0 true)) = true)
  (hD:((List.range (l.length + 1)).all fun j=>decide (j ≤ n) || Region.waitsFor .any (o :: l).toArray j 0) = true)
  (hC:C { w with drawn:=w.drawn + 1 }) (hy:∀ w,C w→(execOp a.eval o).run P w = .ok (.value v) w) (hQ:∀ c a w,Q (.panic c) (a.put o.dst v) w→Q (.panic c) a w)
  (h:wpQuiet P (o :: l).toArray C (fun a'=>∀ w',C w'→Late ro m P (o :: l).toArray C Q ob ((o :: l).drop (n + 1)) a' w') (((o :: l).take n).drop 1) (a.put o.dst v)) :
  (Code.region id (o :: l).toArray true).wpIn (WF ro) m P Q a w:=by
 simp only [Bool.and_eq_true,decide_eq_true_eq] at hT hB
 obtain ⟨⟨⟨hsel,hnd⟩,hfree⟩,hready⟩:=hT
 obtain ⟨⟨⟨⟨⟨hn,hm1⟩,hinv⟩,hs⟩,hc⟩,hlex⟩:=hB
 have hsz:(o :: l).toArray.size = l.length + 1:=by simp
 let D:Nat→Bool:=fun j=>decide (n < j) && decide (j < l.length + 1)
 have hDi:∀ j,D j = true→Region.waitsFor .any (o :: l).toArray j 0 = true:=fun j hj=>by
  simp only [D,Bool.and_eq_true,decide_eq_true_eq] at hj
  have:=List.all_eq_true.1 hD j (List.mem_range.2 hj.2)
  simpa [show ¬ j ≤ n by omega] using this
 refine wpIn_region_any hm ?_
 rw [hsz]
 refine wpAnyS_first (C:=C) (D:=D) (i:=0) (oi:=o) (v:=v) hnd (by simp) (Region.noSelect_spec hsel) hQ hDi l.length _ a _ (Region.free_spec (by simp) hfree) (by simpa using hready)
  ⟨by simp [Region.wanted,hgo],hy⟩ hC ?_
 have htl:(((o :: l).take n).drop 1).length = n - 1:=by simp;omega
 have hdl:((o :: l).drop n).length = l.length + 1 - n:=by simp
 have H:=wpHeadQ_lexU (md:=.any) (C:=C) (g:=l.length + 1 - n) (l0:=(Array.replicate (l.length + 1) false).setIfInBounds 0 true) hsel hs hc (by rw [hsz];exact hn) (((o :: l).take n).drop 1) 1 _ _ (fun j hj=>by
  have hj':j < n - 1:=by rw [htl] at hj;exact hj
  rw [List.getElem?_drop,List.getElem?_take,if_pos (by omega)]
  simp) (by rw [htl];omega) (invB_spec hinv) (fun _ h=>h) (by rw [htl];exact hlex) h
 have:=wpAnyS_of_headQ (ro:=ro) (m:=m) (D:=D) (Q:=Q) (g:=l.length + 1 - n) hnd (fun listed a' w' hw' hL=>by
  have hdrop:(o :: l).drop n = ob :: (o :: l).drop (n + 1):=by
   rw [List.drop_eq_getElem_cons (by simpa using hn)]
   congr 1
   rw [List.getElem?_eq_getElem (by simpa using hn)] at hob
   exact Option.some.inj hob
  have hob0:(o :: l).toArray[n]? = some ob:=by simpa using hob
  have hlist:wpListS ro m P (o :: l).toArray C D Q n ((o :: l).drop n) a' w':=by
   rw [hdrop]
   unfold wpListS
   rw [if_pos (by simp [Region.wanted,hgb])]
   refine Oper.wpIn_mono (fun a'' w'' h''=>⟨fun _=>h''.1,wpListS_of_list _ _ _ _ (fun j h1 h2=>?_) h''.2⟩) (wpIn_of_wp (noDefer_spec hnd hob0) (hL.2 w' hw'))
   simp only [List.length_drop,List.length_cons] at h2
   simp only [D,Bool.and_eq_true,decide_eq_true_eq]
   omega
  have:=wpAnyS_of_seq (md:=.any) (Q:=Q) ((o :: l).drop n) n listed a' w' (fun j=>by simp [List.getElem?_drop]) (by rw [hdl];exact hL.1) hlist
  rwa [hdl] at this) _ _ _ _ hC H
 rw [htl,show n - 1 + (l.length + 1 - n) = l.length by omega] at this
 exact this
theorem wpIn_region_class {id:Nat} {a:Act} {w:World} {l:List Oper} (n:Nat) (hm:P.follows .mixedOrders = true) (hB:(Region.lexTailB .any l.toArray n && noDefer l.toArray) = true) (hC:C { w with drawn:=w.drawn + 1 })
  (h:wpQuiet P l.toArray C (fun a'=>∀ w',C w'→wpListIn (WF ro) m P l.toArray Q (l.drop n) a' w') (l.take n) a):(Code.region id l.toArray true).wpIn (WF ro) m P Q a w:=by
 simp only [Region.lexTailB,Bool.and_eq_true,decide_eq_true_eq] at hB
 obtain ⟨⟨⟨⟨⟨hsel,hn⟩,hs⟩,hc⟩,hlex⟩,hnd⟩:=hB
 have hn':n < l.length:=by simpa using hn
 have htl:(l.take n).length = n:=by simp;omega
 have hdl:(l.drop n).length = l.toArray.size - n:=by simp
 have H:=wpHeadQ_lex (md:=.any) (C:=C) (g:=l.toArray.size - n) hsel hs hc hn (l.take n) 0 (Array.replicate l.toArray.size false) a (fun j hj=>by
  have hj':j < n:=by rw [htl] at hj;exact hj
  simp [hj']) (by simpa using htl)
  ⟨by simp,fun j oj _ hl=>(by rw [getD_replicate_false] at hl;cases hl),fun t _ ht=>getD_in (by simpa using ht) (getD_replicate_false _ _)⟩ (by rw [htl];exact hlex) h
 refine wpIn_region_any hm ?_
 have:=wpAnyS_of_headQ (ro:=ro) (m:=m) (D:=fun _=>true) (Q:=Q) (g:=l.toArray.size - n) hnd (fun listed a' w' hw' hL=>by
  have:=wpAnyS_of_seq (ro:=ro) (m:=m) (C:=C) (D:=fun _=>true) (md:=.any) (Q:=Q) (l.drop n) n listed a' w' (fun j=>by simp [List.getElem?_drop]) (by rw [hdl];exact hL.1) (wpListS_of_list _ _ _ _ (fun _ _ _=>rfl) (hL.2 w' hw'))
  rwa [hdl] at this) _ _ _ _ hC H
 rw [htl,show n + (l.toArray.size - n) = l.toArray.size by omega] at this
 exact wpAnyS_any _ _ _ _ this
end
theorem wpListIn_round {l m:Nat} {P:Program} {ops:Array Oper} {rest:List Oper} {o:Oper} {a:Act} {w:World} {Q:Exit→Act→World→Prop} (hgd:o.guard = none) (hd:∀ c,o.op ≠ .defer c)
  (h:o.wp P a w (wpListIn (Fence.wide.inRound l) m P ops Q rest) Q):wpListIn (Fence.wide.inRound l) m P ops Q (o :: rest) a w:=wpListIn_of_wp (ro:=some l) hgd hd h
end Go.Proofs.YtnohglkilpnjhaaGreatDoor
namespace Go.Proofs.YtnohglkilpnjhaaGreatDoor
open Go.RowKit
set_option maxRecDepth 100000
theorem wp_load_at {w:World} {op:Oper} {a:Act} {K:Act→World→Prop} {Q:Exit→Act→World→Prop} {ty:TypeId} {x:Operand} {g off:Nat} {d:List UInt8} (ho:op.op = .load 31 x)
  (hx:a.eval x = .pointer (some ⟨g,off,none⟩)) (hd:DigAt w g off d) (h:K (a.put op.dst (.agg (d.map B8).toArray)) w):op.wp Tryz.prog a w K Q:=by
 have:=run_load_dig w g off d hd.1 hd.2
 unfold Oper.wp execOp
 simp only [ho,hx,Instr.loadAt,Instr.sureAddr,Sem.run_bind,Sem.run_pure,Result.andThen_ok,this]
 exact h
theorem wp_buildDigs {w:World} {op:Oper} {a:Act} {K:Act→World→Prop} {Q:Exit→Act→World→Prop} (n:Nat) (parts:Array (Nat × Operand)) (ds:List (List UInt8)) (ho:op.op = .buildSlice 34 n parts)
  (hn:n = ds.length) (h0:0 < ds.length) (h1:ds.length ≤ 1000) (h32:Dig32 ds) (hp:(parts.map fun (i,x)=>(i,a.eval x)).toList = ((ds.map fun d=>Value.agg (d.map B8).toArray).zipIdx 0).map fun x=>(x.2,x.1))
  (h:∀ w',OwnD w' w.heap.size (.slice (some ⟨w.heap.size,0,none⟩) n n) ds→Below w.heap.size w w'→w'.heap.size = w.heap.size + 1→K (a.put op.dst (.slice (some ⟨w.heap.size,0,none⟩) n n)) w'):op.wp Tryz.prog a w K Q:=by
 obtain ⟨i,hi,hz,hsize,hby⟩:=info_parts infoDig
 subst hn
 refine wp_buildSlice 34 31 ds.length parts ho (flatD ds).toArray i _ Tryz.underlying34 hi hz (by rw [hsize];omega) (by rw [hsize];omega) ?_ (h _ (digs_laid w ds h32 (by unfold maxLen;omega)) ((Below.refl _ w).alloc (Nat.le_refl _) _) (by simp))
 rw [hp,hsize]
 rw [Great.fill_whole (by omega) _ _ (fun v hv=>by
  obtain ⟨d,hd,rfl⟩:=List.mem_map.1 hv
  simp [Value.cells,h32 d hd]) (by simp)]
 congr 1
 simp [flatD,List.flatMap_map,Value.cells]
theorem wp_appD {w:World} {o:Oper} {a:Act} {K:Act→World→Prop} {Q:Exit→Act→World→Prop} (s x:Operand)
  (ho:o.op = .call { callee:=.builtin .append,args:=#[s,x],argTypes:=#[34,34] }) (base:Nat)
  (v:Value) (l:List (List UInt8)) (hs:a.eval s = v) (hown:OwnD w base v l) (u:Value) (m:List (List UInt8)) (hx:a.eval x = u) (hm:Digs w u m)
  (hlen:l.length + m.length ≤ 1099511627776) (hbase:base ≤ w.heap.size)
  (h:∀ v' w',OwnD w' base v' (l ++ m)→w.grownBy w' v.ownBlock→(∀ k,v'.ownBlock = some k→v.ownBlock = some k∨w.heap.size ≤ k)→K (a.put o.dst v') w'):o.wp Tryz.prog a w K Q:=by
 obtain ⟨v',w',hr,h2,h3,h4⟩:=run_appD base 34 o.type Tryz.underlying34 v l hown u m hm hlen hbase
 unfold Oper.wp execOp
 simp only [ho,resolve,invoke,builtin,Sem.run_bind,Sem.run_pure,Result.andThen_ok,List.map_toArray,List.map_cons,List.map_nil,hs,hx,hr]
 exact h v' w' h2 h3 h4
theorem OwnD.kept {w w':World} {base:Nat} {v:Value} {l:List (List UInt8)} {U:Nat→Prop} (h:OwnD w base v l) (hk:∀ k,v.ownBlock = some k→w'.heap[k]? = w.heap[k]?):OwnD w' base v l:=by
 refine ⟨h.1,h.2.1,?_⟩
 rcases h.2.2 with h | ⟨g,cap,cur,hv,hb,hh,hr⟩
 ·exact .inl h
 ·exact .inr ⟨g,cap,cur,hv,hb,(hk g (by rw [hv];rfl)).trans hh,hr⟩
theorem OwnD.grown {w w':World} {base:Nat} {v:Value} {l:List (List UInt8)} {row:Option Nat} (h:OwnD w base v l) (hg:w.grownBy w' row) (hr:∀ k,v.ownBlock = some k→some k ≠ row):OwnD w' base v l:=
 h.kept (U:=fun _=>True) (fun k hk=>hg.block _ (h.lt k hk).2 (hr k hk))
end Go.Proofs.YtnohglkilpnjhaaGreatDoor
namespace Go.Proofs.YtnohglkilpnjhaaGreatDoor
open Go.RowKit
theorem run_forIn_all {P:Program} {w:World} (g:Nat→(ForInStep (Option Bool × Unit)→Sem (ForInStep (Option Bool × Unit)))→Sem (ForInStep (Option Bool × Unit))) (f:Nat→Bool) (l:List Nat)
  (h:∀ i ∈ l,(g i pure).run P w = .ok (if f i then .yield (none,()) else .done (some false,())) w) :
  (forIn (m:=Sem) l ((none,()):Option Bool × Unit) (fun i _=>g i pure)).run P w = .ok (if l.all f then (none,()) else (some false,())) w:=by
 induction l with
 | nil=>rfl
 | cons i l ih=>
  have hi:=h i (by simp)
  simp only [List.forIn_cons,Sem.run_bind,hi,Result.andThen_ok]
  cases hfi:f i
  ·simp [hfi,Sem.run_pure]
  ·simp only [if_true,List.all_cons,hfi,Bool.true_and]
   exact ih (fun j hj=>h j (by simp [hj]))
theorem run_equalIn_array {P:Program} {w:World} (d:Nat) (t e:TypeId) (n sz:Nat) (xs ys:Array Value) (f:Nat→Bool) (ht:P.underlying t = some (.array n e)) (hsz:(sizeOf e).run P w = .ok sz w)
  (hf:∀ i,i < n→∃ a b,(part e xs (i * sz)).run P w = .ok a w∧(part e ys (i * sz)).run P w = .ok b w∧(Op.equalIn d e a b).run P w = .ok (f i) w) :
  (Op.equalIn (d + 1) t (.agg xs) (.agg ys)).run P w = .ok ((List.range n).all f) w:=by
 simp only [Op.equalIn,Sem.run_bind,run_underlying ht,Result.andThen_ok,hsz]
 simp only [Std.Legacy.Range.forIn_eq_forIn_range',Std.Legacy.Range.size,Nat.sub_zero,Nat.add_one_sub_one,Nat.div_one,← List.range_eq_range']
 have:=run_forIn_all (P:=P) (w:=w) (fun i _=>do
   let a ← part e xs (i * sz)
   let b ← part e ys (i * sz)
   let r ← Op.equalIn d e a b
   if (!r) = true then pure (ForInStep.done (some false,())) else pure (ForInStep.yield (none,()))) f (List.range n) (fun i hi=>by
  obtain ⟨a,b,h1,h2,h3⟩:=hf i (List.mem_range.1 hi)
  simp only [Sem.run_bind,h1,h2,h3,Result.andThen_ok]
  cases f i <;> simp [Sem.run_pure])
 rw [this]
 simp only [Result.andThen_ok]
 cases (List.range n).all f <;> rfl
theorem all_eq_beq (xs ys:List UInt8) (h:xs.length = ys.length):(List.range xs.length).all (fun i=>xs.getD i 0 == ys.getD i 0) = decide (xs = ys):=by
 rw [Bool.eq_iff_iff]
 simp only [List.all_eq_true,List.mem_range,beq_iff_eq,decide_eq_true_eq]
 constructor
 ·intro hh
  apply List.ext_getElem h
  intro i h1 h2
  have:=hh i h1
  simpa [List.getD_eq_getElem?_getD,List.getElem?_eq_getElem h1,List.getElem?_eq_getElem h2] using this
 ·rintro rfl i _;rfl
theorem run_equalIn_octs {P:Program} {w:World} (d:Nat) (t e:TypeId) (xs ys:List UInt8) (h:xs.length = ys.length) (ht:P.underlying t = some (.array xs.length e)) (he:P.underlying e = some (.int .u8)) (hsz:(sizeOf e).run P w = .ok 1 w) (hag:(isAgg e).run P w = .ok false w) :
  (Op.equalIn (d + 2) t (.agg (xs.map B8).toArray) (.agg (ys.map B8).toArray)).run P w = .ok (decide (xs = ys)) w:=by
 rw [← all_eq_beq xs ys h]
 have hp:∀ (l:List UInt8) i,i < l.length→(part e (l.map B8).toArray (i * 1)).run P w = .ok (B8 (l.getD i 0)) w:=fun l i hi=>by
  simp only [part,Sem.run_bind,hag,Result.andThen_ok,Bool.false_eq_true,if_false,Nat.mul_one]
  simp [List.getElem?_eq_getElem hi,Sem.run_pure,List.getD_eq_getElem?_getD]
 refine run_equalIn_array (d + 1) t e xs.length 1 _ _ _ ht hsz (fun i hi=>⟨_,_,hp xs i hi,hp ys i (by omega),?_⟩)
 unfold B8
 rw [run_equalIn_int w d e .u8 .u8 _ _ he]
 congr 1
 rw [Bool.eq_iff_iff]
 simp only [beq_iff_eq]
 constructor
 ·intro q;exact UInt8.toNat_inj.1 (by omega)
 ·intro q;rw [q]
theorem run_eql_octs {P:Program} {w:World} (t e:TypeId) (xs ys:List UInt8) (h:xs.length = ys.length) (ht:P.underlying t = some (.array xs.length e)) (he:P.underlying e = some (.int .u8)) (hsz:(sizeOf e).run P w = .ok 1 w) (hag:(isAgg e).run P w = .ok false w) :
  (binOp .eql t (.agg (xs.map B8).toArray) (.agg (ys.map B8).toArray)).run P w = .ok (.bool (decide (xs = ys))) w:=by
 rw [run_eql_struct,run_equalIn_octs 9998 t e xs ys h ht he hsz hag];rfl
theorem run_neq_octs {P:Program} {w:World} (t e:TypeId) (xs ys:List UInt8) (h:xs.length = ys.length) (ht:P.underlying t = some (.array xs.length e)) (he:P.underlying e = some (.int .u8)) (hsz:(sizeOf e).run P w = .ok 1 w) (hag:(isAgg e).run P w = .ok false w) :
  (binOp .neq t (.agg (xs.map B8).toArray) (.agg (ys.map B8).toArray)).run P w = .ok (.bool (!decide (xs = ys))) w:=by
 rw [run_neq_struct,run_equalIn_octs 9998 t e xs ys h ht he hsz hag];rfl
end Go.Proofs.YtnohglkilpnjhaaGreatDoor
namespace Go.Proofs.YtnohglkilpnjhaaGreatDoor
open Go.RowKit
set_option maxRecDepth 100000
theorem guard_dig:Tryz.prog.eqGuardType Tryz.prog.depth 31 = false:=by kernel_rfl
theorem run_eql_dig (xs ys:List UInt8) (hx:xs.length = 32) (hy:ys.length = 32) (w:World):(binOp .eql 31 (.agg (xs.map B8).toArray) (.agg (ys.map B8).toArray)).run Tryz.prog w = .ok (.bool (decide (xs = ys))) w:=
 run_eql_octs 31 5 xs ys (by omega) (by rw [hx];exact Tryz.underlying31) Tryz.underlying5 (by kernel_rfl) (by kernel_rfl)
theorem run_neq_dig (xs ys:List UInt8) (hx:xs.length = 32) (hy:ys.length = 32) (w:World):(binOp .neq 31 (.agg (xs.map B8).toArray) (.agg (ys.map B8).toArray)).run Tryz.prog w = .ok (.bool (!decide (xs = ys))) w:=
 run_neq_octs 31 5 xs ys (by omega) (by rw [hx];exact Tryz.underlying31) Tryz.underlying5 (by kernel_rfl) (by kernel_rfl)
theorem run_eql_dig_same (xs:List UInt8) (hx:xs.length = 32) (w:World):(binOp .eql 31 (.agg (xs.map B8).toArray) (.agg (xs.map B8).toArray)).run Tryz.prog w = .ok (.bool true) w:=by
 rw [run_eql_dig xs xs hx hx];simp
theorem Digs.part {w:World} {v:Value} {l:List (List UInt8)} (h:Digs w v l) (low high:Option Value) (lo hi:Nat) (h1:lo ≤ hi) (h2:hi ≤ l.length) (hlow:(low = Option.none∧lo = 0)∨∃ k,low = some (.int k (lo:Int))) (hhigh:(high = Option.none∧hi = l.length)∨∃ k,high = some (.int k (hi:Int))) :
  ∃ v',(∀ W:World,(Instr.slice 34 v low high Option.none).run Tryz.prog W = .ok v' W)∧Digs w v' ((l.drop lo).take (hi - lo))∧v'.ownBlock = v.ownBlock:=by
 obtain ⟨i,hi0,hz,hsize,hby⟩:=info_parts infoDig
 obtain ⟨v',hr,hrow,hob⟩:=Row.run_part h.2 Tryz.underlying34 hi0 hsize low high lo hi h1 h2 hlow hhigh
 refine ⟨v',hr,⟨fun d hd=>h.1 d (List.mem_of_mem_drop (List.mem_of_mem_take hd)),?_⟩,hob⟩
 have e:((l.drop lo).take (hi - lo)).length = hi - lo:=by simp;omega
 have e2:flatD ((l.drop lo).take (hi - lo)) = ((flatD l).drop (lo * 32)).take ((hi - lo) * 32):=by
  rw [flatD_take (fun d hd=>h.1 d (List.mem_of_mem_drop hd)),flatD_drop h.1]
 rw [e,e2]
 exact hrow
end Go.Proofs.YtnohglkilpnjhaaGreatDoor
namespace Go.Proofs.YtnohglkilpnjhaaGreatDoor
open Go.RowKit Go.Maps Go.ChangeMaps Go.WideShapes
set_option maxRecDepth 100000
structure KeyT (k:TypeId) (κ:Type) where
 val:κ→Value
 lit:κ→Lit
 ok:κ→Prop
 key:∀ {x},ok x→keyOf Tryz.prog k (val x) = some (lit x)
 inj:∀ {x y},ok x→ok y→lit x = lit y→x = y
 keyed:Keyed Tryz.prog k
def RV (v:Value):Option (DataW Value × List MemPlace):=some (.held v,[])
section
variable {k e t:TypeId} {κ:Type} [DecidableEq κ]
def encE (KT:KeyT k κ) (p:κ × Value):Lit × DataW Value:=(KT.lit p.1,.held p.2)
def MapL (KT:KeyT k κ) (w:World) (b:Nat) (l:List (κ × Value)):Prop:=
 ∃ es,w.ownsMap Tryz.prog k RV b l.length (.map es)∧es.Perm (l.map (encE KT))∧(∀ p ∈ l,KT.ok p.1)∧l.Pairwise (fun p q=>p.1 ≠ q.1)
def getL (l:List (κ × Value)) (x:κ):Option Value:=(l.find? (fun p=>decide (p.1 = x))).map (·.2)
def hasKey (l:List (κ × Value)) (x:κ):Bool:=l.any (fun p=>decide (p.1 = x))
def delL (l:List (κ × Value)) (x:κ):List (κ × Value):=l.filter (fun p=>!decide (p.1 = x))
def putM (l:List (κ × Value)) (x:κ) (v:Value):List (κ × Value):=(x,v) :: delL l x
variable {KT:KeyT k κ} {w:World} {b:Nat} {l:List (κ × Value)}
theorem MapL.lt (h:MapL KT w b l):b < w.heap.size:=by obtain ⟨es,h,_⟩:=h;exact h.lt
theorem MapL.ok (h:MapL KT w b l):∀ p ∈ l,KT.ok p.1:=by obtain ⟨_,_,_,h,_⟩:=h;exact h
theorem MapL.apart (h:MapL KT w b l):l.Pairwise (fun p q=>p.1 ≠ q.1):=by obtain ⟨_,_,_,_,h⟩:=h;exact h
theorem MapL.of_block {w':World} (h:MapL KT w b l) (e:w'.heap[b]? = w.heap[b]?):MapL KT w' b l:=by
 obtain ⟨es,⟨a,c,h1,h2⟩,h3⟩:=h
 exact ⟨es,⟨a,c,e.trans h1,h2⟩,h3⟩
theorem MapL.of_new {w':World} (h:MapL KT w b l) (hb:Below w.heap.size w w'):MapL KT w' b l:=h.of_block (hb.block _ h.lt)
theorem MapL.perm {l':List (κ × Value)} (h:MapL KT w b l) (hp:l.Perm l'):MapL KT w b l':=by
 obtain ⟨es,h1,h2,h3,h4⟩:=h
 refine ⟨es,by rw [← hp.length_eq];exact h1,h2.trans (hp.map _),fun p hp'=>h3 p (hp.mem_iff.2 hp'),?_⟩
 exact (hp.pairwise_iff (fun {a b} (h:a.1 ≠ b.1)=>h.symm)).1 h4
theorem mapL_made (w:World):MapL KT (w.alloc (.map #[] 0)) w.heap.size []:=
 ⟨[],World.ownsMap_made _ _ _ _,List.Perm.refl _,(fun p hp=>by cases hp),List.Pairwise.nil⟩
theorem MapL.size_eq {es:List (Lit × DataW Value)} (hp:es.Perm (l.map (encE KT))):Maps.size (.map es:DataW Value) = l.length:=by
 show es.length = l.length
 rw [hp.length_eq,List.length_map]
theorem same_lit {x y:κ} (hx:KT.ok x) (hy:KT.ok y):(KT.lit x).sameKey (KT.lit y) = decide (x = y):=by
 by_cases h:x = y
 ·subst h
  rw [WideAt.sameKey_self (KT.keyed.key (KT.key hx))];simp
 ·rw [Maps.sameKey_ne (fun e=>h (KT.inj hx hy e))];simp [h]
theorem has_eqL {es:List (Lit × DataW Value)} (hp:es.Perm (l.map (encE KT))) (hok:∀ p ∈ l,KT.ok p.1) {x:κ} (hx:KT.ok x):Maps.has (.map es:DataW Value) (KT.lit x) = hasKey l x:=by
 rw [Maps.has_eq,hp.any_eq,List.any_map]
 unfold hasKey
 rw [Bool.eq_iff_iff,List.any_eq_true,List.any_eq_true]
 constructor
 ·rintro ⟨p,hp1,hp2⟩
  exact ⟨p,hp1,by have:=same_lit (hok p hp1) hx;simp only [Function.comp,encE] at hp2;rw [← this];exact hp2⟩
 ·rintro ⟨p,hp1,hp2⟩
  exact ⟨p,hp1,by have:=same_lit (hok p hp1) hx;simp only [Function.comp,encE];rw [this];exact hp2⟩
theorem find_unique {es:List (Lit × DataW Value)} (hpw:es.Pairwise (fun p q=>p.1 ≠ q.1)) {kl:Lit} (hk:WideAt.IsKeyLit kl) {p:Lit × DataW Value} (hm:p ∈ es) (hpk:p.1 = kl):es.find? (fun p=>p.1.sameKey kl) = some p:=by
 induction es with
 | nil=>cases hm
 | cons q es ih=>
  rw [List.pairwise_cons] at hpw
  rcases List.mem_cons.1 hm with rfl | hm'
  ·rw [List.find?_cons_of_pos];rw [hpk];exact WideAt.sameKey_self hk
  ·have hne:=hpw.1 p hm'
   rw [List.find?_cons_of_neg,ih hpw.2 hm']
   rw [Maps.sameKey_ne (by rw [← hpk];exact hne)];simp
theorem perm_apart {es:List (Lit × DataW Value)} (hp:es.Perm (l.map (encE KT))) (hok:∀ p ∈ l,KT.ok p.1) (hl:l.Pairwise (fun p q=>p.1 ≠ q.1)):es.Pairwise (fun p q=>p.1 ≠ q.1):=by
 refine (hp.symm.pairwise_iff (fun {a b} (h:a.1 ≠ b.1)=>h.symm)).1 ?_
 rw [List.pairwise_map]
 refine List.Pairwise.imp_of_mem (fun {p q} hp hq hne=>?_) hl
 exact fun e=>hne (KT.inj (hok p hp) (hok q hq) e)
theorem at_eqL {es:List (Lit × DataW Value)} (hp:es.Perm (l.map (encE KT))) (hok:∀ p ∈ l,KT.ok p.1) (hl:l.Pairwise (fun p q=>p.1 ≠ q.1)) {x:κ} (hx:KT.ok x) (z:Value):(DataW.map es:DataW Value).atKey (KT.lit x) (.held z) = .held ((getL l x).getD z):=by
 have hpw:=perm_apart hp hok hl
 by_cases h:hasKey l x = true
 ·obtain ⟨p,hp1,hp2⟩:=List.any_eq_true.1 h
  obtain rfl:p.1 = x:=by simpa using hp2
  have hm:encE KT p ∈ es:=hp.mem_iff.2 (List.mem_map.2 ⟨p,hp1,rfl⟩)
  have hf:=find_unique hpw (KT.keyed.key (KT.key hx)) hm rfl
  have hg:getL l p.1 = some p.2:=by
   unfold getL
   have:l.find? (fun q=>decide (q.1 = p.1)) = some p:=by
    clear hf hm hpw hp h hp2
    induction l with
    | nil=>cases hp1
    | cons q l ih=>
     rw [List.pairwise_cons] at hl
     rcases List.mem_cons.1 hp1 with rfl | hm'
     ·rw [List.find?_cons_of_pos];simp
     ·rw [List.find?_cons_of_neg,ih (fun q hq=>hok q (by simp [hq])) hl.2 hm']
      simpa using hl.1 p hm'
   rw [this];rfl
  unfold DataW.atKey
  simp only [hf,hg]
  rfl
 ·have h':hasKey l x = false:=by simpa using h
  have hg:getL l x = none:=by
   unfold getL
   have:l.find? (fun q=>decide (q.1 = x)) = none:=by
    rw [List.find?_eq_none]
    intro q hq e
    exact h (List.any_eq_true.2 ⟨q,hq,e⟩)
   rw [this];rfl
  rw [Maps.atKey_of_not_has (by rw [has_eqL hp hok hx];exact h'),hg]
  rfl
theorem MapL.look (h:MapL KT w b l) (ht:Tryz.prog.underlying t = some (.map k e)) {z:Value} (hz:(zeroValue e).run Tryz.prog w = .ok z w) {x:κ} (hx:KT.ok x) :
  (Instr.lookup t (.map (some b)) (KT.val x) false).run Tryz.prog w = .ok ((getL l x).getD z) w:=by
 obtain ⟨es,h1,h2,h3,h4⟩:=h
 obtain ⟨v,ps,hr,hv⟩:=h1.lookup KT.keyed ht hz (zd:=.held z) (zp:=[]) rfl (KT.key hx)
 rw [at_eqL h2 h3 h4 hx z] at hv
 unfold RV at hv
 simp only [Option.some.injEq,Prod.mk.injEq,DataW.held.injEq] at hv
 rw [← hv.1];exact hr
theorem MapL.look_ok (h:MapL KT w b l) (ht:Tryz.prog.underlying t = some (.map k e)) {z:Value} (hz:(zeroValue e).run Tryz.prog w = .ok z w) {x:κ} (hx:KT.ok x) :
  (Instr.lookup t (.map (some b)) (KT.val x) true).run Tryz.prog w = .ok (.tuple #[(getL l x).getD z,.bool (hasKey l x)]) w:=by
 obtain ⟨es,h1,h2,h3,h4⟩:=h
 obtain ⟨v,ps,hr,hv⟩:=h1.look_ok KT.keyed ht hz (zd:=.held z) (zp:=[]) rfl (KT.key hx)
 rw [at_eqL h2 h3 h4 hx z] at hv
 rw [has_eqL h2 h3 hx] at hr
 unfold RV at hv
 simp only [Option.some.injEq,Prod.mk.injEq,DataW.held.injEq] at hv
 rw [← hv.1];exact hr
theorem MapL.len (h:MapL KT w b l) (ht:Tryz.prog.underlying t = some (.map k e)) (ty:TypeId):(Builtin.len_ #[t] ty #[.map (some b)]).run Tryz.prog w = .ok (.int .i64 (l.length:Int)) w:=by
 obtain ⟨es,h1,h2,h3,h4⟩:=h
 rw [h1.len ht ty,MapL.size_eq h2]
theorem filter_encE {x:κ} (hok:∀ p ∈ l,KT.ok p.1) (hx:KT.ok x):(l.map (encE KT)).filter (fun p=>!p.1.sameKey (KT.lit x)) = (delL l x).map (encE KT):=by
 unfold delL
 rw [List.filter_map]
 congr 1
 refine List.filter_congr fun p hp=>?_
 show (!(KT.lit p.1).sameKey (KT.lit x)) = _
 rw [same_lit (hok p hp) hx]
theorem delL_ok {x:κ} (h:∀ p ∈ l,KT.ok p.1):∀ p ∈ delL l x,KT.ok p.1:=fun p hp=>h p ((List.mem_filter.1 hp).1)
theorem delL_apart {x:κ} (h:l.Pairwise (fun p q=>p.1 ≠ q.1)):(delL l x).Pairwise (fun p q=>p.1 ≠ q.1):=h.sublist (List.filter_sublist)
theorem MapL.del (h:MapL KT w b l) (ht:Tryz.prog.underlying t = some (.map k e)) {x:κ} (hx:KT.ok x) (ty:TypeId) :
  ∃ w',(Builtin.delete_ #[t,k] ty #[.map (some b),KT.val x]).run Tryz.prog w = .ok (.tuple #[]) w'∧MapL KT w' b (delL l x)∧w.grownBy w' (some b)∧w'.heap.size = w.heap.size:=by
 obtain ⟨es,h1,h2,h3,h4⟩:=h
 obtain ⟨w',hr,ho,ht'⟩:=h1.drop KT.keyed ht (KT.key hx) ty
 have hp:(es.filter fun p=>!p.1.sameKey (KT.lit x)).Perm ((delL l x).map (encE KT)):=by rw [← filter_encE h3 hx];exact h2.filter _
 refine ⟨w',hr,⟨_,?_,hp,delL_ok h3,delL_apart h4⟩,ht'.grown,?_⟩
 ·obtain ⟨es',clock,g1,g2,g3,g4⟩:=ho
  refine ⟨es',clock,g1,g2,?_,g4⟩
  have h5:Maps.size (DataW.map (es.filter fun p=>!p.1.sameKey (KT.lit x)):DataW Value) = es'.size:=by
   have e2:(DataW.map (es.filter fun p=>!p.1.sameKey (KT.lit x)):DataW Value) = _:=g4
   rw [e2];simp [Maps.size,length_sorted]
  rw [← h5,MapL.size_eq hp]
  exact Nat.le_refl _
 ·obtain ⟨_,_,_,_,_,rfl⟩:=ht';simp [setBlock]
theorem MapL.put (h:MapL KT w b l) (ht:Tryz.prog.underlying t = some (.map k e)) {x:κ} (hx:KT.ok x) (v:Value) (hn:l.length ≤ 1099511627776) :
  ∃ w',(Instr.mapUpdate t (.map (some b)) (KT.val x) v).run Tryz.prog w = .ok () w'∧MapL KT w' b (putM l x v)∧w.grownBy w' (some b)∧w'.heap.size = w.heap.size:=by
 obtain ⟨es,h1,h2,h3,h4⟩:=h
 obtain ⟨w',hr,ho,ht'⟩:=h1.store KT.keyed ht (by unfold maxLen;omega) (KT.key hx) (val:=v) (d:=.held v) (ps:=[]) rfl
 have hp:(DataW.insert (KT.lit x,(.held v:DataW Value)) (es.filter fun p=>!p.1.sameKey (KT.lit x))).Perm ((putM l x v).map (encE KT)):=by
  refine (insert_perm _ _).trans ?_
  show ((KT.lit x,(.held v:DataW Value)) :: _).Perm ((KT.lit x,(.held v:DataW Value)) :: (delL l x).map (encE KT))
  refine List.Perm.cons _ ?_
  rw [← filter_encE h3 hx];exact h2.filter _
 refine ⟨w',hr,⟨_,?_,hp,?_,?_⟩,ht'.grown,?_⟩
 ·obtain ⟨es',clock,g1,g2,g3,g4⟩:=ho
  refine ⟨es',clock,g1,g2,?_,g4⟩
  have h5:Maps.size (DataW.map (DataW.insert (KT.lit x,(.held v:DataW Value)) (es.filter fun p=>!p.1.sameKey (KT.lit x))):DataW Value) = es'.size:=by
   have e2:(DataW.map (DataW.insert (KT.lit x,(.held v:DataW Value)) (es.filter fun p=>!p.1.sameKey (KT.lit x))):DataW Value) = _:=g4
   rw [e2];simp [Maps.size,length_sorted]
  rw [← h5,MapL.size_eq hp]
  exact Nat.le_refl _
 ·intro p hp'
  rcases List.mem_cons.1 hp' with rfl | hp'
  ·exact hx
  ·exact delL_ok h3 p hp'
 ·refine List.pairwise_cons.2 ⟨fun p hp' e=>?_,delL_apart h4⟩
  have:=(List.mem_filter.1 hp').2
  simp at this
  exact this e.symm
 ·obtain ⟨_,_,_,_,_,rfl⟩:=ht';simp [setBlock]
def RangeL (KT:KeyT k κ) (w:World) (b r:Nat) (l todo:List (κ × Value)):Prop:=
 ∃ es left cnt,w.ranges Tryz.prog k RV b r l.length (.map es) left cnt∧es.Perm (l.map (encE KT))∧(∀ p ∈ l,KT.ok p.1)∧l.Pairwise (fun p q=>p.1 ≠ q.1)∧todo.Nodup∧(∀ p ∈ todo,p ∈ l)∧(∀ p ∈ l,left (KT.lit p.1) = true↔p ∈ todo)
theorem RangeL.map {r:Nat} {todo:List (κ × Value)} (h:RangeL KT w b r l todo):MapL KT w b l:=by
 obtain ⟨es,left,cnt,h1,h2,h3,h4,_⟩:=h
 exact ⟨es,h1.owns,h2,h3,h4⟩
theorem RangeL.of_block {w':World} {r:Nat} {todo:List (κ × Value)} (h:RangeL KT w b r l todo) (e:w'.heap[b]? = w.heap[b]?) (e2:w'.heap[r]? = w.heap[r]?):RangeL KT w' b r l todo:=by
 obtain ⟨es,left,cnt,⟨a1,a2,a3,a4,a5,g1,g2,g3,g4,g5,g6⟩,h2⟩:=h
 exact ⟨es,left,cnt,⟨a1,a2,a3,a4,a5,e.trans g1,g2,g3,g4,e2.trans g5,g6⟩,h2⟩
theorem RangeL.lt {r:Nat} {todo:List (κ × Value)} (h:RangeL KT w b r l todo):r < w.heap.size:=by obtain ⟨es,left,cnt,h,_⟩:=h;exact h.lt
theorem RangeL.of_new {w':World} {r:Nat} {todo:List (κ × Value)} (h:RangeL KT w b r l todo) (hb:Below w.heap.size w w'):RangeL KT w' b r l todo:=h.of_block (hb.block _ h.map.lt) (hb.block _ h.lt)
theorem RangeL.nodup {r:Nat} {todo:List (κ × Value)} (h:RangeL KT w b r l todo):todo.Nodup:=by obtain ⟨_,_,_,_,_,_,_,h,_⟩:=h;exact h
theorem MapL.range (h:MapL KT w b l) (ht:Tryz.prog.underlying t = some (.map k e)) :
  ∃ w',(Instr.range t (.map (some b))).run Tryz.prog w = .ok (.pointer (some ⟨w.heap.size,0,none⟩)) w'∧RangeL KT w' b w.heap.size l l∧Below w.heap.size w w'∧w'.heap.size = w.heap.size + 1:=by
 obtain ⟨es,h1,h2,h3,h4⟩:=h
 obtain ⟨w',hr,hg,hgr,hs⟩:=h1.range KT.keyed ht
 refine ⟨w',hr,⟨es,_,_,hg,h2,h3,h4,?_,fun p hp=>hp,fun p hp=>?_⟩,(Below.refl _ w).grown hgr (Nat.le_refl _) (fun k e=>by cases e),hs⟩
 ·exact h4.imp (fun {a b} hne e=>hne (by rw [e]))
 ·rw [has_eqL h2 h3 (h3 p hp)]
  exact ⟨fun _=>hp,fun _=>List.any_eq_true.2 ⟨p,hp,by simp⟩⟩
theorem RangeL.next {r:Nat} {todo:List (κ × Value)} (h:RangeL KT w b r l todo) (ty:TypeId) :
  (todo = []∧(Instr.next (.pointer (some ⟨r,0,none⟩)) false ty).run Tryz.prog w = .ok (.tuple #[.bool false]) w) ∨
  ∃ p w',p ∈ todo∧(Instr.next (.pointer (some ⟨r,0,none⟩)) false ty).run Tryz.prog w = .ok (.tuple #[.bool true,KT.val p.1,p.2]) w'∧RangeL KT w' b r l (todo.filter (fun q=>!decide (q.1 = p.1)))∧w.grownBy w' (some r)∧w'.heap.size = w.heap.size ∧
   (Instr.entry (.pointer (some ⟨r,0,none⟩))).run Tryz.prog w' = .ok (.tuple #[KT.val p.1,p.2]) w':=by
 obtain ⟨es,left,cnt,h1,h2,h3,h4,h5,h6,h7⟩:=h
 rcases h1.next KT.keyed ty with ⟨_,hl,hr⟩ | ⟨key,v,kl,y,w',cnt',hk,hl,hy,hat,hr,hrg,_,hg,hs,hen⟩
 ·refine .inl ⟨?_,hr⟩
  cases todo with
  | nil=>rfl
  | cons p todo=>
   have:=(h7 p (h6 p (by simp))).2 (by simp)
   rw [hl] at this;cases this
 ·have hhas:=Maps.has_true_of_atKey hat
  rw [Maps.has_eq] at hhas
  obtain ⟨q,hq,hqk⟩:=List.any_eq_true.1 hhas
  obtain ⟨p,hp,hpq⟩:=List.mem_map.1 (h2.mem_iff.1 hq)
  have hkl:KT.lit p.1 = kl:=by have:=WideAt.sameKey_eq hqk;rw [← hpq] at this;exact this
  have hkv:key = KT.val p.1:=by
   refine KT.keyed.inj hk ?_
   rw [← hkl];exact KT.key (h3 p hp)
  have hv:v = p.2:=by
   unfold RV at hy
   cases hy
   have:=hat (.held v)
   have e2:=find_unique (perm_apart h2 h3 h4) (KT.keyed.key hk) hq (WideAt.sameKey_eq hqk)
   unfold DataW.atKey at this
   simp only [e2] at this
   rw [← hpq] at this
   simp only [encE,DataW.held.injEq] at this
   exact this.symm
  have hpt:p ∈ todo:=(h7 p hp).1 (by rw [hkl];exact hl)
  subst hkv hv
  refine .inr ⟨p,w',hpt,hr,⟨es,_,cnt',hrg,h2,h3,h4,h5.filter _,fun q hq=>h6 q ((List.mem_filter.1 hq).1),fun q hq=>?_⟩,hg,hs,hen⟩
  rw [← hkl]
  have e1:=same_lit (h3 q hq) (h3 p hp)
  show (left (KT.lit q.1) && !(KT.lit q.1).sameKey (KT.lit p.1)) = true↔_
  rw [e1,Bool.and_eq_true,h7 q hq,List.mem_filter]
end
theorem mapM_all {α β:Type} (f:α→Option β) (g:α→β):∀ L:List α,(∀ x ∈ L,f x = some (g x))→L.mapM f = some (L.map g)
 | [],_=>rfl
 | x :: L,h=>by rw [List.mapM_cons,h x (by simp),mapM_all f g L (fun y hy=>h y (by simp [hy]))];rfl
theorem u8_wf (x:UInt8):(Lit.int .u8 (x.toNat:Int)).wf = true:=by
 have:=x.toNat_lt
 simp [Lit.wf,IntKind.min,IntKind.max,IntKind.signed,IntKind.bits];omega
theorem keyBytes_dig (d:List UInt8):keyBytes (d.map fun x=>Lit.int .u8 (x.toNat:Int)) = d:=by
 unfold keyBytes
 rw [List.flatMap_map]
 induction d with
 | nil=>rfl
 | cons x d ih=>
  rw [List.flatMap_cons,ih]
  have:(Lit.int .u8 (x.toNat:Int)).keyBytes = [x]:=by
   have:=x.toNat_lt
   have e:((x.toNat:Int) % 256).toNat % 256 = x.toNat:=by omega
   simp only [Lit.keyBytes,IntKind.bits,bytesBE,bytesLE]
   simp [e]
  rw [this];rfl
theorem keyType_dig:Tryz.prog.keyType 31 = true:=by kernel_rfl
theorem cellsOf_dig:Tryz.prog.cellsOf 31 = 32:=by kernel_rfl
theorem cellsOf_u8:Tryz.prog.cellsOf 5 = 1:=by kernel_rfl
theorem types_size:∃ m,Tryz.prog.types.size = m + 2:=⟨Tryz.prog.types.size - 2,by kernel_rfl⟩
theorem keyOf_dig {d:List UInt8} (h:d.length = 32):keyOf Tryz.prog 31 (.agg (d.map B8).toArray) = some (.string d):=by
 obtain ⟨m,hm⟩:=types_size
 unfold keyOf
 simp only [Tryz.underlying31]
 rw [if_pos (by rw [keyType_dig];simp [Value.formed,Tryz.underlying31,cellsOf_dig,h]),hm]
 unfold Program.keyLits
 simp only [Tryz.underlying31,Value.cells]
 rw [if_pos (by rw [cellsOf_dig];simp [h])]
 rw [mapM_all _ (fun i=>[Lit.int .u8 ((d.getD i 0).toNat:Int)]) _ (fun i hi=>by
  have hi':i < 32:=List.mem_range.1 hi
  unfold Program.keyLits
  simp only [Tryz.underlying5,cellsOf_u8,Nat.mul_one]
  have e:((d.map B8).toArray.toList.drop i).take 1 = [B8 (d.getD i 0)]:=by
   simp only [List.toList_toArray]
   rw [List.drop_eq_getElem_cons (by simp;omega),List.take_succ_cons,List.take_zero]
   simp [List.getD,List.getElem?_eq_getElem (show i < d.length by omega)]
  rw [e]
  simp [B8,u8_wf])]
 simp only [Option.map_some,Option.some.injEq,Lit.string.injEq]
 have e2:((List.range 32).map fun i=>[Lit.int .u8 ((d.getD i 0).toNat:Int)]).flatten = d.map fun x=>Lit.int .u8 (x.toNat:Int):=by
  have e3:(List.range 32).map (fun i=>[Lit.int .u8 ((d.getD i 0).toNat:Int)]) = d.map fun x=>[Lit.int .u8 (x.toNat:Int)]:=by
   refine List.ext_getElem (by simp [h]) fun i h1 h2=>?_
   simp at h2
   simp [List.getD,List.getElem?_eq_getElem h2]
  rw [e3]
  clear e3 h
  induction d with
  | nil=>rfl
  | cons x d ih=>simp only [List.map_cons,List.flatten_cons,ih];rfl
 rw [e2,keyBytes_dig]
theorem laidOut_:laidOutB Tryz.prog = true:=by kernel_rfl
theorem dig_keyed:Keyed Tryz.prog 31:=Keyed.of_law (deep_law_laid laidOut_ (m:=2) (by omega) (of_decide_eq_true (by kernel_rfl)) (by kernel_rfl) (by kernel_rfl))
def KDig:KeyT 31 (List UInt8):=⟨fun d=>.agg (d.map B8).toArray,fun d=>.string d,fun d=>d.length = 32,fun h=>keyOf_dig h,fun _ _ e=>by cases e;rfl,dig_keyed⟩
theorem i64_wf {n:Int} (h:-9223372036854775808 ≤ n∧n ≤ 9223372036854775807):(Lit.int .i64 n).wf = true:=by
 simp [Lit.wf,IntKind.min,IntKind.max,IntKind.signed,IntKind.bits];omega
def KInt:KeyT 3 Int:=⟨fun n=>.int .i64 n,fun n=>.int .i64 n,fun n=>-9223372036854775808 ≤ n∧n ≤ 9223372036854775807,fun h=>keyOf_int_mk Tryz.underlying3 (i64_wf h),fun _ _ e=>by cases e;rfl,int_keyed Tryz.underlying3⟩
end Go.Proofs.YtnohglkilpnjhaaGreatDoor
