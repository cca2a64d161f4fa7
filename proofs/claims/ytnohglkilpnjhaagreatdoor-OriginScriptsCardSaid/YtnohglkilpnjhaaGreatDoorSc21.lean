/- Lemmas that the statement of this claim leans on; their own comments are taken out, for the size of the claim. No condition beyond what each lemma states. -/
import Derived.Test.YtnohglkilpnjhaaGreatDoorSc20
import Derived.Test.YtnohglkilpnjhaaGreatDoorRows
import Derived.Lib.LaidTab
set_option linter.unusedVariables false
set_option linter.unusedSimpArgs false
set_option linter.unusedSectionVars false
namespace Go.Proofs.YtnohglkilpnjhaaGreatDoor
open Go.RowKit
section
variable {ro:Option Nat} {m:Nat} {P:Program} {ops:Array Oper} {md:Region.Mode} {C:World→Prop} {D:Nat→Bool} {Q:Exit→Act→World→Prop}
def wpAnyR (ro:Option Nat) (m:Nat) (P:Program) (md:Region.Mode) (ops:Array Oper) (C:World→Prop) (D:Nat→Bool) (Q:Exit→Act→World→Prop):Nat→Array Bool→Act→World→Prop
 | 0,listed,a,w=>Region.ready md ops listed = []∧Q .normal a w
 | fuel + 1,listed,a,w=>
  (Region.ready md ops listed = []→Q .normal a w) ∧
  ∀ i ∈ Region.ready md ops listed,wpOpIn (WF ro) m P ops Q i (fun a' w'=>(D i = false→C w→C w')∧wpAnyR ro m P md ops C D Q fuel (listed.setIfInBounds i true) a' w') a w
theorem wpAnyR_any:∀ (fuel:Nat) (listed:Array Bool) (a:Act) (w:World),wpAnyR ro m P md ops C D Q fuel listed a w→wpAnyIn (WF ro) m P md ops Q fuel listed a w:=by
 intro fuel
 induction fuel with
 | zero=>intro listed a w h;exact h
 | succ fuel ih=>intro listed a w h;exact ⟨h.1,fun i hi=>wpOpIn_mono (fun a' w' h'=>ih _ a' w' h'.2) (h.2 i hi)⟩
theorem wpAnyR_take {i:Nat} {oi:Oper} {v:Value} (hnd:noDefer ops = true) (hi:ops[i]? = some oi) (hsel:∀ (j:Nat) (o:Oper) cs b,ops[j]? = some o→o.op ≠ .select cs b)
  (hQ:∀ c (a:Act) (d:Option Tmp) (v:Value) w,Q (.panic c) (a.put d v) w→Q (.panic c) a w) (hDi:∀ j,D j = true→WaitsT md ops i j) :
  ∀ (fuel:Nat) (listed:Array Bool) (a:Act) (w:World),listed.size = ops.size→ClosedL md ops listed →
   (∀ j oj,ops[j]? = some oj→j ≠ i→listed.getD j true = false→(∀ e ∈ oj.after,Region.binds md e = true→e.on ≠ i)→oi.apart ops oj = true) →
   i ∈ Region.ready md ops listed→StillIn P ops C oi v a→C w →
   wpAnyR ro m P md ops C D Q fuel (listed.setIfInBounds i true) (a.put oi.dst v) w→wpAnyR ro m P md ops C D Q (fuel + 1) listed a w:=by
 intro fuel
 induction fuel with
 | zero=>
  intro listed a w _ _ _ hr hy hC H
  refine ⟨fun h=>(by rw [h] at hr;cases hr),fun j hj=>?_⟩
  by_cases hji:j = i
  ·subst hji;exact hy.wpOpIn hnd hi hC ⟨fun _ h=>h,H⟩
  ·have:=ready_mono hj hji
   rw [H.1] at this
   cases this
 | succ fuel ih=>
  intro listed a w hsz hcl hfree hr hy hC H
  refine ⟨fun h=>(by rw [h] at hr;cases hr),fun j hj=>?_⟩
  by_cases hji:j = i
  ·subst hji;exact hy.wpOpIn hnd hi hC ⟨fun _ h=>h,H⟩
  ·have h1:=H.2 j (ready_mono hj hji)
   obtain ⟨hjun,oj,hoj,hall⟩:=mem_ready.1 hj
   have h0:=(mem_ready.1 hr).1
   have h0f:listed.getD i false = false:=getD_both h0
   have hnot:∀ e ∈ oj.after,Region.binds md e = true→e.on ≠ i:=fun e he hb heq=>by
    have h1:=hall e he hb
    rw [heq,h0f] at h1
    cases h1
   have hDj:D j = false:=by
    cases hd:D j with
    | false=>rfl
    | true=>exact absurd hj (not_ready hcl h0f (hDi j hd)).1
   have h2:=wpOpIn_putS (C:=C) hnd hoj (hfree j oj hoj hji hjun hnot) (fun cs b=>hsel i oi cs b hi) (fun cs b=>hsel j oj cs b hoj) (fun c a w h=>hQ c _ _ _ w h) hy h1
   have hfree':∀ k ok,ops[k]? = some ok→k ≠ i→(listed.setIfInBounds j true).getD k true = false →
     (∀ e ∈ ok.after,Region.binds md e = true→e.on ≠ i)→oi.apart ops ok = true:=fun k ok hk hki hun hno=>by
    refine hfree k ok hk hki ?_ hno
    by_cases hjk:j = k
    ·subst hjk;exact hjun
    ·rw [getD_set_ne true hjk] at hun;exact hun
   refine wpOpIn_mono (fun a' w' h3=>⟨h3.2.1,ih (listed.setIfInBounds j true) a' w' (by simpa using hsz) (hcl.set hj hsz) hfree' (ready_mono hr (Ne.symm hji)) h3.1 (h3.2.1 hDj hC) ?_⟩) h2
   rw [Array.setIfInBounds_comm _ _ hji]
   exact h3.2.2
theorem wpAnyR_takeP {i:Nat} {oi:Oper} {v:Value} (hnd:noDefer ops = true) (hi:ops[i]? = some oi) (hsel:∀ (j:Nat) (o:Oper) cs b,ops[j]? = some o→o.op ≠ .select cs b)
  (hQ:∀ c (a:Act) (d:Option Tmp) (v:Value) w,Q (.panic c) (a.put d v) w→Q (.panic c) a w) :
  ∀ (fuel:Nat) (listed:Array Bool) (a:Act) (w:World),
   (∀ j oj,ops[j]? = some oj→j ≠ i→listed.getD j true = false→(∀ e ∈ oj.after,Region.binds md e = true→e.on ≠ i)→oi.apart ops oj = true) →
   i ∈ Region.ready md ops listed→StillIn P ops (fun _=>True) oi v a →
   wpAnyR ro m P md ops C D Q fuel (listed.setIfInBounds i true) (a.put oi.dst v) w→wpAnyR ro m P md ops C D Q (fuel + 1) listed a w:=by
 intro fuel
 induction fuel with
 | zero=>
  intro listed a w _ hr hy H
  refine ⟨fun h=>(by rw [h] at hr;cases hr),fun j hj=>?_⟩
  by_cases hji:j = i
  ·subst hji;exact hy.wpOpIn hnd hi trivial ⟨fun _ h=>h,H⟩
  ·have:=ready_mono hj hji
   rw [H.1] at this
   cases this
 | succ fuel ih=>
  intro listed a w hfree hr hy H
  refine ⟨fun h=>(by rw [h] at hr;cases hr),fun j hj=>?_⟩
  by_cases hji:j = i
  ·subst hji;exact hy.wpOpIn hnd hi trivial ⟨fun _ h=>h,H⟩
  ·have h1:=H.2 j (ready_mono hj hji)
   obtain ⟨hjun,oj,hoj,hall⟩:=mem_ready.1 hj
   have h0:=(mem_ready.1 hr).1
   have h0f:listed.getD i false = false:=getD_both h0
   have hnot:∀ e ∈ oj.after,Region.binds md e = true→e.on ≠ i:=fun e he hb heq=>by
    have h1:=hall e he hb
    rw [heq,h0f] at h1
    cases h1
   have h2:=wpOpIn_putS (C:=fun _=>True) hnd hoj (hfree j oj hoj hji hjun hnot) (fun cs b=>hsel i oi cs b hi) (fun cs b=>hsel j oj cs b hoj) (fun c a w h=>hQ c _ _ _ w h) hy h1
   have hfree':∀ k ok,ops[k]? = some ok→k ≠ i→(listed.setIfInBounds j true).getD k true = false →
     (∀ e ∈ ok.after,Region.binds md e = true→e.on ≠ i)→oi.apart ops ok = true:=fun k ok hk hki hun hno=>by
    refine hfree k ok hk hki ?_ hno
    by_cases hjk:j = k
    ·subst hjk;exact hjun
    ·rw [getD_set_ne true hjk] at hun;exact hun
   refine wpOpIn_mono (fun a' w' h3=>⟨h3.2.1,ih (listed.setIfInBounds j true) a' w' hfree' (ready_mono hr (Ne.symm hji)) h3.1 ?_⟩) h2
   rw [Array.setIfInBounds_comm _ _ hji]
   exact h3.2.2
theorem wpAnyR_earlyI (hnd:noDefer ops = true) (hsel:Region.noSelect ops = true) (hQ:∀ c (a:Act) (d:Option Tmp) (v:Value) w,Q (.panic c) (a.put d v) w→Q (.panic c) a w) (hD:∀ j,ops.size ≤ j→D j = false) {R:Act→Prop} {g:Nat} (ps:List Nat) :
  ∀ (listed:Array Bool) (a:Act) (w:World),listed.size = ops.size→ClosedL md ops listed→C w→earlyI md ops D ps listed = true →
   wpQuiet P ops C R (opsAt ops.toList ps) a→(∀ a' w,C w→R a'→wpAnyR ro m P md ops C D Q g (listedI ps listed) a' w)→wpAnyR ro m P md ops C D Q (ps.length + g) listed a w:=by
 induction ps with
 | nil=>
  intro listed a w _ _ hC _ h hL
  rw [List.length_nil,Nat.zero_add]
  exact hL a w hC h
 | cons p ps ih=>
  intro listed a w hsz hcl hC hB h hL
  simp only [earlyI,Bool.and_eq_true] at hB
  obtain ⟨⟨⟨⟨hr,hf⟩,he⟩,hw⟩,hB⟩:=hB
  have hr':p ∈ Region.ready md ops listed:=by simpa using hr
  obtain ⟨o,h0⟩:∃ o,ops[p]? = some o:=by
   cases q:ops[p]? with
   | some o=>exact ⟨o,rfl⟩
   | none=>rw [q] at he;cases he
  rw [h0] at he
  rw [opsAt_cons (o:=o) (by simpa using h0)] at h
  have hg:o.guard = none:=by
   have:=he
   unfold earlyOp2 at this
   simp only [Bool.and_eq_true,Option.isNone_iff_eq_none] at this
   exact this.1
  have hq:o.quiet P a C (wpQuiet P ops C R (opsAt ops.toList ps)):=by
   have h':if Region.wanted o (yielded ops a.tmps) then o.quiet P a C (wpQuiet P ops C R (opsAt ops.toList ps)) else wpQuiet P ops C R (opsAt ops.toList ps) (a.put o.dst undef):=h
   rwa [if_pos (by simp [Region.wanted,hg])] at h'
  obtain ⟨v,hv,hK⟩:=hq
  have hDi:∀ j,D j = true→WaitsT md ops p j:=fun j hj=>by
   have hjs:j < ops.size:=by
    rcases Nat.lt_or_ge j ops.size with h | h
    ·exact h
    ·rw [hD j h] at hj;cases hj
   have:=List.all_eq_true.1 hw j (List.mem_range.2 hjs)
   simp only [hj,Bool.not_true,Bool.false_or] at this
   exact waitsB_spec _ _ this
  rw [List.length_cons,show ps.length + 1 + g = (ps.length + g) + 1 by omega]
  refine wpAnyR_take hnd h0 (Region.noSelect_spec hsel) hQ hDi (ps.length + g) listed a w hsz hcl (Region.free_spec h0 hf) hr' (still_of_quiet2 he hv) hC ?_
  exact ih _ _ w (by simpa using hsz) (hcl.set hr' hsz) hC hB hK hL
def freeI (md:Region.Mode) (ops:Array Oper):List Nat→Array Bool→Bool
 | [],_=>true
 | p :: ps,listed=>(Region.ready md ops listed).contains p && Region.free md ops listed p && (match ops[p]? with | some o=>earlyOp2 o | none=>false) && freeI md ops ps (listed.setIfInBounds p true)
theorem wpAnyR_pureI (hnd:noDefer ops = true) (hsel:Region.noSelect ops = true) (hQ:∀ c (a:Act) (d:Option Tmp) (v:Value) w,Q (.panic c) (a.put d v) w→Q (.panic c) a w) {R:Act→Prop} {g:Nat} (ps:List Nat) :
  ∀ (listed:Array Bool) (a:Act) (w:World),C w→freeI md ops ps listed = true →
   wpQuiet P ops (fun _=>True) R (opsAt ops.toList ps) a→(∀ a' w,C w→R a'→wpAnyR ro m P md ops C D Q g (listedI ps listed) a' w)→wpAnyR ro m P md ops C D Q (ps.length + g) listed a w:=by
 induction ps with
 | nil=>
  intro listed a w hC _ h hL
  rw [List.length_nil,Nat.zero_add]
  exact hL a w hC h
 | cons p ps ih=>
  intro listed a w hC hB h hL
  simp only [freeI,Bool.and_eq_true] at hB
  obtain ⟨⟨⟨hr,hf⟩,he⟩,hB⟩:=hB
  have hr':p ∈ Region.ready md ops listed:=by simpa using hr
  obtain ⟨o,h0⟩:∃ o,ops[p]? = some o:=by
   cases q:ops[p]? with
   | some o=>exact ⟨o,rfl⟩
   | none=>rw [q] at he;cases he
  rw [h0] at he
  rw [opsAt_cons (o:=o) (by simpa using h0)] at h
  have hg:o.guard = none:=by
   have:=he
   unfold earlyOp2 at this
   simp only [Bool.and_eq_true,Option.isNone_iff_eq_none] at this
   exact this.1
  have hq:o.quiet P a (fun _=>True) (wpQuiet P ops (fun _=>True) R (opsAt ops.toList ps)):=by
   have h':if Region.wanted o (yielded ops a.tmps) then o.quiet P a (fun _=>True) (wpQuiet P ops (fun _=>True) R (opsAt ops.toList ps)) else wpQuiet P ops (fun _=>True) R (opsAt ops.toList ps) (a.put o.dst undef):=h
   rwa [if_pos (by simp [Region.wanted,hg])] at h'
  obtain ⟨v,hv,hK⟩:=hq
  rw [List.length_cons,show ps.length + 1 + g = (ps.length + g) + 1 by omega]
  refine wpAnyR_takeP hnd h0 (Region.noSelect_spec hsel) hQ (ps.length + g) listed a w (Region.free_spec h0 hf) hr' (still_of_quiet2 he hv) ?_
  exact ih _ _ w hC hB hK hL
theorem wpAnyR_restI:∀ (rests:List Nat) (listed:Array Bool) (a:Act) (w:World),(∀ j ∈ rests,D j = true)→seqI md ops rests listed = true →
  wpListIn (WF ro) m P ops Q (opsAt ops.toList rests) a w→wpAnyR ro m P md ops C D Q rests.length listed a w
 | [],listed,a,w,_,hB,h=>⟨by simpa [seqI] using hB,h⟩
 | p :: ps,listed,a,w,hd,hB,h=>by
  simp only [seqI,Bool.and_eq_true,decide_eq_true_eq] at hB
  obtain ⟨o,h0⟩:=ready_get hB.1
  rw [opsAt_cons (o:=o) (by simpa using h0)] at h
  refine ⟨fun h1=>(by rw [hB.1] at h1;cases h1),fun i hi=>?_⟩
  rw [hB.1] at hi
  obtain rfl:i = p:=by simpa using hi
  have hdi:D i = true:=hd i (by simp)
  have hrec:=fun a' w' h'=>wpAnyR_restI ps (listed.setIfInBounds i true) a' w' (fun j hj=>hd j (by simp [hj])) hB.2 h'
  unfold wpOpIn
  simp only [h0]
  unfold wpListIn at h
  split
  ·rename_i hq
   rw [if_pos hq] at h
   exact Oper.wpIn_mono (fun a' w' h'=>⟨fun e=>(by rw [hdi] at e;cases e),hrec a' w' h'⟩) h
  ·rename_i hq
   rw [if_neg hq] at h
   exact ⟨fun _ _=>trivial,fun e=>(by rw [hdi] at e;cases e),hrec _ w h.2⟩
theorem wpAnyR_lateI (hnd:noDefer ops = true):∀ (mids rests:List Nat) (listed:Array Bool) (a:Act) (w:World),(∀ j ∈ rests,D j = true)→seqI md ops (mids ++ rests) listed = true→C w →
  LateL ro m P ops C Q (opsAt ops.toList mids) (opsAt ops.toList rests) a w→wpAnyR ro m P md ops C D Q (mids.length + rests.length) listed a w
 | [],rests,listed,a,w,hd,hB,hC,h=>by
  rw [List.length_nil,Nat.zero_add]
  exact wpAnyR_restI rests listed a w hd hB h
 | p :: ps,rests,listed,a,w,hd,hB,hC,h=>by
  simp only [List.cons_append,seqI,Bool.and_eq_true,decide_eq_true_eq] at hB
  obtain ⟨o,h0⟩:=ready_get hB.1
  rw [opsAt_cons (o:=o) (by simpa using h0)] at h
  rw [List.length_cons,show ps.length + 1 + rests.length = (ps.length + rests.length) + 1 by omega]
  refine ⟨fun h1=>(by rw [hB.1] at h1;cases h1),fun i hi=>?_⟩
  rw [hB.1] at hi
  obtain rfl:i = p:=by simpa using hi
  have hrec:=fun a' w' hC' h'=>wpAnyR_lateI hnd ps rests (listed.setIfInBounds i true) a' w' hd hB.2 hC' h'
  unfold wpOpIn
  simp only [h0]
  unfold LateL at h
  split
  ·rename_i hq
   rw [if_pos hq] at h
   exact wpIn_of_wp (noDefer_spec hnd h0) (Oper.wp_mono (fun a' w' h'=>⟨fun _ _=>h'.1,hrec a' w' h'.1 h'.2⟩) h)
  ·rename_i hq
   rw [if_neg hq] at h
   exact ⟨fun _ _=>trivial,fun _ h=>h,hrec _ w hC h⟩
def mixRB (l:List Oper) (hs hp ts1 ts2:List Nat):Bool:=
 Region.noSelect l.toArray && noDefer l.toArray && decide (hs.length + (hp.length + (ts1.length + ts2.length)) = l.length) && (ts2.all fun j=>decide (j < l.length)) &&
  earlyI .any l.toArray (fun j=>ts2.contains j) hs (Array.replicate l.length false) && freeI .any l.toArray hp (listedI hs (Array.replicate l.length false)) &&
  seqI .any l.toArray (ts1 ++ ts2) (listedI hp (listedI hs (Array.replicate l.length false)))
theorem wpIn_region_mixR {id:Nat} {a:Act} {w:World} {l:List Oper} (hs hp ts1 ts2:List Nat) (hm:P.follows .mixedOrders = true) (hB:mixRB l hs hp ts1 ts2 = true)
  (hC:C { w with drawn:=w.drawn + 1 }) (hQ:∀ c (a:Act) (d:Option Tmp) (v:Value) w,Q (.panic c) (a.put d v) w→Q (.panic c) a w)
  (h:wpQuiet P l.toArray C (fun a'=>wpQuiet P l.toArray (fun _=>True) (fun a''=>∀ w',C w'→LateL ro m P l.toArray C Q (opsAt l ts1) (opsAt l ts2) a'' w') (opsAt l hp) a') (opsAt l hs) a) :
  (Code.region id l.toArray true).wpIn (WF ro) m P Q a w:=by
 simp only [mixRB,Bool.and_eq_true,decide_eq_true_eq] at hB
 obtain ⟨⟨⟨⟨⟨⟨hsel,hnd⟩,hlen⟩,hlt⟩,hearly⟩,hpure⟩,hseq⟩:=hB
 have hsz:l.toArray.size = l.length:=by simp
 refine wpIn_region_any hm ?_
 rw [hsz,← hlen]
 refine wpAnyR_any (C:=C) (D:=fun j=>ts2.contains j) _ _ _ _ ?_
 refine wpAnyR_earlyI (R:=fun a'=>wpQuiet P l.toArray (fun _=>True) (fun a''=>∀ w',C w'→LateL ro m P l.toArray C Q (opsAt l ts1) (opsAt l ts2) a'' w') (opsAt l hp) a') hnd hsel hQ (fun j hj=>?_) hs (Array.replicate (hs.length + (hp.length + (ts1.length + ts2.length))) false) a _ (by simp [hlen]) (fun j oj _ hl=>(by rw [getD_replicate_false] at hl;cases hl)) hC (by rw [hlen];exact hearly) h (fun a' w' hw' hR=>?_)
 ·cases hc:ts2.contains j with
  | false=>rfl
  | true=>
   have:=List.all_eq_true.1 hlt j (by simpa using hc)
   simp only [decide_eq_true_eq] at this
   omega
 ·refine wpAnyR_pureI (R:=fun a''=>∀ w',C w'→LateL ro m P l.toArray C Q (opsAt l ts1) (opsAt l ts2) a'' w') hnd hsel hQ hp _ a' w' hw' (by rw [hlen];exact hpure) hR (fun a2 w2 hw2 hR2=>?_)
  exact wpAnyR_lateI hnd ts1 ts2 _ a2 w2 (fun j hj=>by simpa using hj) (by rw [hlen];exact hseq) hw2 (hR2 w2 hw2)
end
theorem str_eq (x y:List UInt8):((ByteArray.mk x.toArray) == (ByteArray.mk y.toArray)) = decide (x = y):=by
 have h:((ByteArray.mk x.toArray) == (ByteArray.mk y.toArray)) = (x.toArray == y.toArray):=rfl
 rw [h,Bool.eq_iff_iff]
 simp
theorem str_same (x:List UInt8):((ByteArray.mk x.toArray) == (ByteArray.mk x.toArray)) = true:=by rw [str_eq];simp
theorem fields_mem : (Tryz.prog.fieldsOf 113).toList.map (fun f => (f.name, f.type, f.offset)) = [("Id", 3, 0), ("Incarnation", 3, 1), ("State", 3, 2), ("Since", 3, 3)] := by kernel_rfl
def MemV (x:MemL):Value:=.agg #[.int .i64 x.id,.int .i64 x.inc,.int .i64 x.state,.int .i64 x.since]
theorem run_equalIn_mem (d:Nat) (x y:MemL) (w:World):(Op.equalIn (d + 3) 113 (MemV x) (MemV y)).run Tryz.prog w = .ok (decide (x = y)) w:=by
 unfold MemV
 rw [run_equalIn_struct w (d + 2) 113 _ _ (by kernel_rfl) (by kernel_rfl)]
 have hai:(isAgg 3).run Tryz.prog w = .ok false w:=by kernel_rfl
 have hi:∀ a b:Int,(Op.equalIn (d + 2) 3 (.int .i64 a) (.int .i64 b)).run Tryz.prog w = .ok (a == b) w:=fun a b=>run_equalIn_int w (d + 1) 3 .i64 .i64 a b Tryz.underlying3
 obtain ⟨g,hg⟩:∃ g:Nat→Bool,g = fun k=>if k = 0 then x.id == y.id else if k = 1 then x.inc == y.inc else if k = 2 then x.state == y.state else x.since == y.since:=⟨_,rfl⟩
 have hf:=fields_mem
 generalize (Tryz.prog.fieldsOf 113).toList = fs at hf
 rw [eqFields_all g fs (fun f hfm=>by
  have hm:(f.name,f.type,f.offset) ∈ fs.map (fun f=>(f.name,f.type,f.offset)):=List.mem_map.2 ⟨f,hfm,rfl⟩
  rw [hf] at hm
  simp only [List.mem_cons,Prod.mk.injEq,List.not_mem_nil,or_false] at hm
  rcases hm with ⟨h1,h2,h3⟩ | ⟨h1,h2,h3⟩ | ⟨h1,h2,h3⟩ | ⟨h1,h2,h3⟩
  all_goals
   rw [h1,h2,h3,hg]
   refine ⟨by decide,_,_,?_,?_,hi _ _⟩ <;> simp [part,Sem.run_bind,hai,Sem.run_pure])]
 have e:(fs.all fun f=>g f.offset) = (fs.map (fun f=>(f.name,f.type,f.offset))).all (fun q=>g q.2.2):=by rw [List.all_map];rfl
 rw [e,hf,hg]
 refine congrArg (fun b:Bool=>Result.ok b w) ?_
 obtain ⟨a,b,c,e⟩:=x
 obtain ⟨a',b',c',e'⟩:=y
 simp
 rw [Bool.eq_iff_iff]
 simp
theorem guard_mem:Tryz.prog.eqGuardType Tryz.prog.depth 113 = false:=by kernel_rfl
theorem run_neq_mem (x y:MemL) (w:World):(binOp .neq 113 (MemV x) (MemV y)).run Tryz.prog w = .ok (.bool (!decide (x = y))) w:=by
 have:=run_equalIn_mem 9997 x y w
 unfold MemV at this ⊢
 rw [run_neq_struct,this];rfl
theorem size_mem:(Tryz.prog.info? 113).map (·.size) = some 4:=by kernel_rfl
theorem run_load_mem {w:World} {g off:Nat} {x:MemL} (h:MemAt w g off x):(loadVar 113 ⟨g,off,none⟩).run Tryz.prog w = .ok (MemV x) w:=by
 obtain ⟨h0,h1,h2,h3⟩:=h
 have hl:=run_loadCells_list (P:=Tryz.prog) w ⟨g,off,none⟩ [.int .i64 x.id,.int .i64 x.inc,.int .i64 x.state,.int .i64 x.since] (fun j v hv=>by
  have hadd:(⟨g,off,none⟩:Addr).add j = ⟨g,off + j,none⟩:=by unfold Addr.add;split <;> simp_all
  rw [hadd]
  match j,hv with
  | 0,hv=>cases hv;exact h0
  | 1,hv=>cases hv;exact h1
  | 2,hv=>cases hv;exact h2
  | 3,hv=>cases hv;exact h3
  | n + 4,hv=>simp at hv)
 have hi:=size_mem
 cases hq:Tryz.prog.info? 113 with
 | none=>rw [hq] at hi;cases hi
 | some i=>
  rw [hq] at hi
  simp only [Option.map_some,Option.some.injEq] at hi
  simp only [List.length_cons,List.length_nil] at hl
  simp [loadVar,isAgg,run_underlying Tryz.underlying113,sizeOf,typeInfo,hq,hi,hl,MemV]
theorem quiet_load_mem {W:World} {o:Oper} {a:Act} {K:Act→Prop} {p:Operand} {g off:Nat} {x:MemL} (ho:o.op = .load 113 p) (hp:a.eval p = .pointer (some ⟨g,off,none⟩)) (h:MemAt W g off x)
  (hK:K (a.put o.dst (.agg #[.int .i64 x.id,.int .i64 x.inc,.int .i64 x.state,.int .i64 x.since]))):o.quiet Tryz.prog a (Grew W) K:=by
 refine quiet_val (fun w hw=>?_) hK
 have:=run_load_mem (h.of_new hw)
 unfold MemV at this
 unfold execOp
 simp only [ho,hp,Instr.loadAt,Instr.sureAddr,Sem.run_bind,Sem.run_pure,Result.andThen_ok,this]
theorem take_snoc_i {l:List Int} {k:Nat} (h:k < l.length):l.take (k + 1) = l.take k ++ [l.getD k 0]:=by
 rw [List.take_succ_eq_append_getElem h]
 simp [List.getD,List.getElem?_eq_getElem h]
def SameII (l m:List Int) (w:World) (iv:Value) (wr:World):Prop:=∃ k:Nat,k ≤ l.length∧iv = .int .i64 (k:Int)∧l.take k = m.take k∧Below w.heap.size w wr
set_option maxRecDepth 100000 in
set_option maxHeartbeats 1600000 in
theorem SameInts_any (v u:Value) (l m:List Int) (w:World) (hl:Ints w v l) (hm:Ints w u m) :
  Calls Tryz.prog 50 #[v,u] w fun e w'=>e = .returned (.bool (decide (l = m)))∧Below w.heap.size w w':=by
 have hle:=hl.le
 have hme:=hm.le
 obtain ⟨va,vc,hv⟩:=hl.len
 subst hv
 obtain ⟨ua,uc,hv⟩:=hm.len
 subst hv
 by_cases hlen:l.length = m.length
 ·have t1:((l.length:Int) != (m.length:Int)) = false:=by simp;omega
  have HLM:=Lib.hid hlen
  go_enter Tryz.func50,Tryz.ntmps50
  clear hlen
  go_wp2
  go_loopw [5] (SameII l m w) (fun iv _=>l.length - (intOf iv).toNat)
  case atStart=>exact ⟨0,by omega,rfl,by simp,Below.refl _ _⟩
  case round=>
   obtain ⟨k,hk,rfl,heq,hb⟩:=hrel
   have hl':=hl.of_new hb
   have hm':=hm.of_new hb
   have HQ:=Lib.hid heq
   clear heq hl hm
   by_cases hlt:k < l.length
   ·have t2:(k:Int) < (l.length:Int):=by omega
    have t3:(k:Int) < (m.length:Int):=by have:=HLM.out;omega
    obtain ⟨b,off,c,hv,hbl1,hcell1⟩:=hl'.cell (by omega)
    obtain ⟨rfl,rfl⟩:va = some ⟨b,off,none⟩∧vc = c:=by cases hv;exact ⟨rfl,rfl⟩
    clear hv
    obtain ⟨b2,off2,c2,hv,hbl2,hcell2⟩:=hm'.cell (by omega)
    obtain ⟨rfl,rfl⟩:ua = some ⟨b2,off2,none⟩∧uc = c2:=by cases hv;exact ⟨rfl,rfl⟩
    clear hv
    have h1:=fun w' (hw':Grew wr w')=>hw'.cell (hcell1 k hlt)
    have h2:=fun w' (hw':Grew wr w')=>hw'.cell (hcell2 k (show k < m.length by omega))
    have hs1:=take_snoc_i hlt
    have hs2:=take_snoc_i (show k < m.length by omega)
    have hg1:l = m→l.getD k 0 = m.getD k 0:=fun e=>by rw [e]
    have H1:=Lib.hid hs1
    have H2:=Lib.hid hs2
    have H3:=Lib.hid hg1
    have t7:(k:Int).toNat = k:=by omega
    clear hs1 hs2 hg1 hcell1 hcell2
    generalize l.getD k 0 = d1 at *
    generalize m.getD k 0 = d2 at *
    go_upto_region 6 with (fail)
    refine wp_region_grew (by kernel_rfl) (by kernel_rfl) ?_
    repeat (first
     | (go_big_quiet_want;(with_reducible apply quiet_load_at (ty:=31) (x:=.tmp _));rfl;rfl;assumption;go_simp;go_big_quiet_on)
     | (go_big_quiet_want;apply quiet_val;(intro w' hw';go_simp;first | done | rfl);go_simp;go_big_quiet_on)
     | (go_big_quiet_skip))
    refine wpQuiet_nil ?_
    intro w5 hw5
    have hB5:=below_next' hb hw5 (by have:=hb.size;omega)
    clear h1 h2
    by_cases hd:d1 = d2
    ·have t4:(d1 != d2) = false:=by simp [hd]
     have HD:=Lib.hid hd
     clear hd
     go_wp2
     exact ⟨⟨k + 1,by omega,by go_num,by rw [H1.out,H2.out,HQ.out,HD.out],hB5⟩,by simp [intOf];omega⟩
    ·have t4:(d1 != d2) = true:=by simp [hd]
     have HD:=Lib.hid hd
     clear hd
     go_wp2
     go_ret
     exact ⟨ret_bool (by simp;exact fun e=>HD.out (H3.out e)),hB5⟩
   ·obtain rfl:k = l.length:=by omega
    have t2:¬ (l.length:Int) < (l.length:Int):=by omega
    have he:l = m:=by
     have:=HQ.out
     rwa [List.take_of_length_le (Nat.le_refl _),List.take_of_length_le (by have:=HLM.out;omega)] at this
    have HE:=Lib.hid he
    clear he
    go_wp2
    go_ret
    exact ⟨ret_bool (by simp;exact HE.out),hb⟩
 ·have t1:((l.length:Int) != (m.length:Int)) = true:=by simp;omega
  have hne:l ≠ m:=fun e=>hlen (by rw [e])
  have HN:=Lib.hid hne
  clear hne hlen
  go_enter Tryz.func50,Tryz.ntmps50
  go_wp2
  go_ret
  exact ⟨ret_bool (by simp;exact HN.out),Below.refl _ _⟩
theorem take_snoc_m {l:List MemL} {k:Nat} (h:k < l.length):l.take (k + 1) = l.take k ++ [l.getD k mem0]:=by
 rw [List.take_succ_eq_append_getElem h]
 simp [List.getD,List.getElem?_eq_getElem h]
def SameMI (l m:List MemL) (w:World) (iv:Value) (wr:World):Prop:=∃ k:Nat,k ≤ l.length∧iv = .int .i64 (k:Int)∧l.take k = m.take k∧Below w.heap.size w wr
set_option maxRecDepth 100000 in
set_option maxHeartbeats 1600000 in
theorem SameMems_any (v u:Value) (l m:List MemL) (w:World) (hl:Mems w v l) (hm:Mems w u m) :
  Calls Tryz.prog 52 #[v,u] w fun e w'=>e = .returned (.bool (decide (l = m)))∧Below w.heap.size w w':=by
 have hle:=hl.le
 have hme:=hm.le
 obtain ⟨va,vc,hv⟩:=hl.len
 subst hv
 obtain ⟨ua,uc,hv⟩:=hm.len
 subst hv
 have hgd:=guard_mem
 by_cases hlen:l.length = m.length
 ·have t1:((l.length:Int) != (m.length:Int)) = false:=by simp;omega
  have HLM:=Lib.hid hlen
  go_enter Tryz.func52,Tryz.ntmps52
  clear hlen
  go_wp2
  go_loopw [5] (SameMI l m w) (fun iv _=>l.length - (intOf iv).toNat)
  case atStart=>exact ⟨0,by omega,rfl,by simp,Below.refl _ _⟩
  case round=>
   obtain ⟨k,hk,rfl,heq,hb⟩:=hrel
   have hl':=hl.of_new hb
   have hm':=hm.of_new hb
   have HQ:=Lib.hid heq
   clear heq hl hm
   by_cases hlt:k < l.length
   ·have t2:(k:Int) < (l.length:Int):=by omega
    have t3:(k:Int) < (m.length:Int):=by have:=HLM.out;omega
    obtain ⟨b,off,c,hv,hbl1,hcell1⟩:=hl'.cell (by omega)
    obtain ⟨rfl,rfl⟩:va = some ⟨b,off,none⟩∧vc = c:=by cases hv;exact ⟨rfl,rfl⟩
    clear hv
    obtain ⟨b2,off2,c2,hv,hbl2,hcell2⟩:=hm'.cell (by omega)
    obtain ⟨rfl,rfl⟩:ua = some ⟨b2,off2,none⟩∧uc = c2:=by cases hv;exact ⟨rfl,rfl⟩
    clear hv
    have h1:=hcell1 k hlt
    have h2:=hcell2 k (show k < m.length by omega)
    have hs1:=take_snoc_m hlt
    have hs2:=take_snoc_m (show k < m.length by omega)
    have hg1:l = m→l.getD k mem0 = m.getD k mem0:=fun e=>by rw [e]
    have H1:=Lib.hid hs1
    have H2:=Lib.hid hs2
    have H3:=Lib.hid hg1
    have hneq:=run_neq_mem (l.getD k mem0) (m.getD k mem0)
    unfold MemV at hneq
    have t7:(k:Int).toNat = k:=by omega
    clear hs1 hs2 hg1 hcell1 hcell2
    generalize l.getD k mem0 = d1 at *
    generalize m.getD k mem0 = d2 at *
    have H11:=Lib.hid h1
    have H12:=Lib.hid h2
    clear h1 h2
    go_upto_region 6 with (fail)
    refine wp_region_grew (by kernel_rfl) (by kernel_rfl) ?_
    repeat (first
     | (go_big_quiet_want;(with_reducible apply quiet_load_mem (x:=d2) (p:=.tmp 23));rfl;rfl;exact H12.out;go_simp;go_big_quiet_on)
     | (go_big_quiet_want;(with_reducible apply quiet_load_mem (x:=d1) (p:=.tmp 19));rfl;rfl;exact H11.out;go_simp;go_big_quiet_on)
     | (go_big_quiet_want;(with_reducible apply quiet_load_at (ty:=31) (x:=.tmp _));rfl;rfl;assumption;go_simp;go_big_quiet_on)
     | (go_big_quiet_want;apply quiet_val;(intro w' hw';go_simp;first | done | rfl);go_simp;go_big_quiet_on)
     | (go_big_quiet_skip))
    refine wpQuiet_nil ?_
    intro w5 hw5
    have hB5:=below_next' hb hw5 (by have:=hb.size;omega)
    clear hneq
    by_cases hd:d1 = d2
    ·have t4:decide (d1 = d2) = true:=by simp [hd]
     have HD:=Lib.hid hd
     clear hd
     simp only [t4,Bool.not_true]
     go_wp2
     exact ⟨⟨k + 1,by omega,by go_num,by rw [H1.out,H2.out,HQ.out,HD.out],hB5⟩,by simp [intOf];omega⟩
    ·have t4:decide (d1 = d2) = false:=by simp [hd]
     have HD:=Lib.hid hd
     clear hd
     simp only [t4,Bool.not_false]
     go_wp2
     go_ret
     exact ⟨ret_bool (by simp;exact fun e=>HD.out (H3.out e)),hB5⟩
   ·obtain rfl:k = l.length:=by omega
    have t2:¬ (l.length:Int) < (l.length:Int):=by omega
    have he:l = m:=by
     have:=HQ.out
     rwa [List.take_of_length_le (Nat.le_refl _),List.take_of_length_le (by have:=HLM.out;omega)] at this
    have HE:=Lib.hid he
    clear he
    go_wp2
    go_ret
    exact ⟨ret_bool (by simp;exact HE.out),hb⟩
 ·have t1:((l.length:Int) != (m.length:Int)) = true:=by simp;omega
  have hne:l ≠ m:=fun e=>hlen (by rw [e])
  have HN:=Lib.hid hne
  clear hne hlen
  go_enter Tryz.func52,Tryz.ntmps52
  go_wp2
  go_ret
  exact ⟨ret_bool (by simp;exact HN.out),Below.refl _ _⟩
end Go.Proofs.YtnohglkilpnjhaaGreatDoor
namespace Go.Proofs.YtnohglkilpnjhaaGreatDoor
open Go.RowKit
set_option maxRecDepth 100000
theorem msg_boxed2 (w:World) {a b:MsgL} {s u:MsgS} (h:a.hash.length = 32) (h2:b.hash.length = 32):∃ W,(w.alloc (.cells (msgCells a s).toArray 37)).alloc (.cells (msgCells b u).toArray 37) = W∧MsgO W w.heap.size a s∧MsgO W (w.heap.size + 1) b u∧Below w.heap.size w W:=by
 refine ⟨_,rfl,(msg_alloc w h).of_new ((Below.refl _ _).alloc (Nat.le_refl _) _),?_,((Below.refl _ w).alloc (Nat.le_refl _) _).alloc (by simp) _⟩
 have:=msg_alloc (w.alloc (.cells (msgCells a s).toArray 37)) (m:=b) (s:=u) h2
 rwa [World.size_alloc] at this
set_option maxHeartbeats 6400000 in
theorem SameMsg_any (a b:MsgL) (s u:MsgS) (w:World) (ha:MsgR w a s) (hb:MsgR w b u) :
  Calls Tryz.prog 16 #[MsgV a s,MsgV b u] w fun e w'=>e = .returned (.bool (decide (a = b)))∧Below w.heap.size w w':=by
 obtain ⟨W,hW,hoa,hob,hbb⟩:=msg_boxed2 w (s:=s) (u:=u) ha.hash hb.hash
 rw [show MsgV a s = .agg (msgCells a s).toArray from rfl,show MsgV b u = .agg (msgCells b u).toArray from rfl]
 have haW:=ha.of_new hbb
 have hbW:=hb.of_new hbb
 obtain ⟨va,ca,hva⟩:=haW.bytes.len
 obtain ⟨vb,cb,hvb⟩:=hbW.bytes.len
 have a4:=hoa.ids
 have a6:=hoa.proof
 have a7:=hoa.members
 have b4:=hob.ids
 have b6:=hob.proof
 have b7:=hob.members
 have hS1:=SameInts_any s.vi u.vi a.ids b.ids W haW.ids hbW.ids
 have hS2:=fun w' (h:Below W.heap.size W w')=>Same_any s.vp u.vp a.proof b.proof w' (haW.proof.of_new h) (hbW.proof.of_new h)
 have hS3:=fun w' (h:Below W.heap.size W w')=>SameMems_any s.vm u.vm a.members b.members w' (haW.members.of_new h) (hbW.members.of_new h)
 obtain ⟨x4,y4,hx4⟩:=haW.ids.len
 obtain ⟨x6,y6,hx6⟩:=haW.proof.len
 obtain ⟨x7,y7,hx7⟩:=haW.members.len
 obtain ⟨z4,t4,hz4⟩:=hbW.ids.len
 obtain ⟨z6,t6,hz6⟩:=hbW.proof.len
 obtain ⟨z7,t7,hz7⟩:=hbW.members.len
 rw [hx4] at a4 hS1
 rw [hz4] at b4 hS1
 rw [hx6] at a6 hS2
 rw [hz6] at b6 hS2
 rw [hx7] at a7 hS3
 rw [hz7] at b7 hS3
 have HA:=Lib.hid haW
 have HB:=Lib.hid hbW
 have HOA:=Lib.hid hoa
 have HOB:=Lib.hid hob
 have HW:=Lib.hid hW
 have HS1:=Lib.hid hS1
 have HS2:=Lib.hid hS2
 have HS3:=Lib.hid hS3
 have HVA:=Lib.hid hva
 have HVB:=Lib.hid hvb
 have gla:=hoa.lt
 have glb:=hob.lt
 have hne:∀ (q:Prop) [Decidable q],(a = b→q)→¬ q→decide (a = b) = false:=fun q _ h1 h2=>decide_eq_false fun e=>h2 (h1 e)
 have HNE:=Lib.hid hne
 obtain ⟨D,hD⟩:∃ D,decide (a = b) = D:=⟨_,rfl⟩
 have hdn:∀ (q:Prop),(a = b→q)→¬ q→D = false:=fun q h1 h2=>by rw [← hD];exact decide_eq_false fun e=>h2 (h1 e)
 have hdy:a.kind = b.kind→a.hash = b.hash→a.piece = b.piece→a.ids = b.ids→a.bytes = b.bytes→a.proof = b.proof→a.members = b.members→D = decide (a.seed = b.seed):=fun e1 e2 e3 e4 e5 e6 e7=>by
  rw [← hD]
  obtain ⟨k1,h1,p1,i1,b1,q1,m1,d1⟩:=a
  obtain ⟨k2,h2,p2,i2,b2,q2,m2,d2⟩:=b
  dsimp only at *
  subst e1 e2 e3 e4 e5 e6 e7
  simp
 rw [hD]
 have HDN:=Lib.hid hdn
 have HDY:=Lib.hid hdy
 clear hW ha hb haW hbW hoa hob hva hvb hS1 hS2 hS3 hx4 hx6 hx7 hz4 hz6 hz7 hne HNE hD hdn hdy
 go_enter Tryz.func16,Tryz.ntmps16
 go_upto_region 1 with (fail)
 rw [HW.out]
 go_upto_region 2 with (first | (go_at_call 50;refine HS1.out.mono ?_;rintro e w1 ⟨rfl,hb1⟩))
 have a6':=Grew.cell hb1 a6
 have b6':=Grew.cell hb1 b6
 go_upto_region 3 with (first | (go_at_call 51;refine (HS2.out _ hb1).mono ?_;rintro e w2 ⟨rfl,hb2⟩))
 have hB2:=below_next hb1 hb2
 have a7':=Grew.cell hB2 a7
 have b7':=Grew.cell hB2 b7
 go_upto_region 4 with (first | (go_at_call 52;refine (HS3.out _ hB2).mono ?_;rintro e w3 ⟨rfl,hb3⟩))
 have hB3:=below_next hB2 hb3
 have hF:=below_next hbb hB3
 have oa:=HOA.out.of_new hB3
 have ob:=HOB.out.of_new hB3
 have a0:=oa.kind
 have a1:=oa.hash
 have a3:=oa.piece
 have a5:=oa.bytes
 have a8:=oa.seed
 have b0:=ob.kind
 have b1:=ob.hash
 have b3:=ob.piece
 have b5:=ob.bytes
 have b8:=ob.seed
 rw [HVA.out] at a5
 rw [HVB.out] at b5
 have ra:=HA.out.bytes.of_new hB3
 have rb:=HB.out.bytes.of_new hB3
 rw [HVA.out] at ra
 rw [HVB.out] at rb
 have s1:=ra.string (P:=Tryz.prog) (t:=33) (d:=9) Tryz.underlying33 Tryz.underlying5 Tryz.underlying9
 have s2:=rb.string (P:=Tryz.prog) (t:=33) (d:=9) Tryz.underlying33 Tryz.underlying5 Tryz.underlying9
 have hgd:=guard_dig
 have heq:=run_eql_dig a.hash b.hash a1.1 b1.1
 have hse:=str_eq a.bytes b.bytes
 have A1:=Lib.hid a1
 have B1:=Lib.hid b1
 clear oa ob ra rb a4 b4 a6 b6 a7 b7 a6' b6' a7' b7' a1 b1 HA HB HOA HOB HW HS1 HS2 HS3
 by_cases c0:a.kind = b.kind
 case neg=>
  have t:(a.kind == b.kind) = false:=beq_eq_false_iff_ne.2 c0
  have HC:=Lib.hid (HDN.out _ (fun e=>by rw [e]) c0)
  clear c0
  go_wp2
  go_ret
  exact ⟨ret_bool HC.out.symm,hF⟩
 have t0:(a.kind == b.kind) = true:=beq_iff_eq.2 c0
 have C0:=Lib.hid c0
 clear c0
 by_cases c1:a.hash = b.hash
 case neg=>
  rw [decide_eq_false c1] at heq
  have HC:=Lib.hid (HDN.out _ (fun e=>by rw [e]) c1)
  clear c1
  go_wp2_with (first
   | ((with_reducible refine wpList_met (o:=⟨some 30,_,_,_,_,_⟩) ?_ ?_);rfl;intro K hK;refine wp_load_at (ty:=31) (x:=.tmp 29) rfl rfl A1.out (hK _ _ ?_))
   | ((with_reducible refine wpList_met (o:=⟨some 32,_,_,_,_,_⟩) ?_ ?_);rfl;intro K hK;refine wp_load_at (ty:=31) (x:=.tmp 31) rfl rfl B1.out (hK _ _ ?_)))
  go_ret
  exact ⟨ret_bool HC.out.symm,hF⟩
 rw [decide_eq_true c1] at heq
 have C1:=Lib.hid c1
 clear c1
 by_cases c3:a.piece = b.piece
 case neg=>
  have t:(a.piece == b.piece) = false:=beq_eq_false_iff_ne.2 c3
  have HC:=Lib.hid (HDN.out _ (fun e=>by rw [e]) c3)
  clear c3
  go_wp2_with (first
   | ((with_reducible refine wpList_met (o:=⟨some 30,_,_,_,_,_⟩) ?_ ?_);rfl;intro K hK;refine wp_load_at (ty:=31) (x:=.tmp 29) rfl rfl A1.out (hK _ _ ?_))
   | ((with_reducible refine wpList_met (o:=⟨some 32,_,_,_,_,_⟩) ?_ ?_);rfl;intro K hK;refine wp_load_at (ty:=31) (x:=.tmp 31) rfl rfl B1.out (hK _ _ ?_)))
  go_ret
  exact ⟨ret_bool HC.out.symm,hF⟩
 have t3:(a.piece == b.piece) = true:=beq_iff_eq.2 c3
 have C3:=Lib.hid c3
 clear c3
 by_cases c4:a.ids = b.ids
 case neg=>
  rw [decide_eq_false c4]
  have HC:=Lib.hid (HDN.out _ (fun e=>by rw [e]) c4)
  clear c4
  go_wp2_with (first
   | ((with_reducible refine wpList_met (o:=⟨some 30,_,_,_,_,_⟩) ?_ ?_);rfl;intro K hK;refine wp_load_at (ty:=31) (x:=.tmp 29) rfl rfl A1.out (hK _ _ ?_))
   | ((with_reducible refine wpList_met (o:=⟨some 32,_,_,_,_,_⟩) ?_ ?_);rfl;intro K hK;refine wp_load_at (ty:=31) (x:=.tmp 31) rfl rfl B1.out (hK _ _ ?_)))
  go_ret
  exact ⟨ret_bool HC.out.symm,hF⟩
 rw [decide_eq_true c4]
 have C4:=Lib.hid c4
 clear c4
 by_cases c5:a.bytes = b.bytes
 case neg=>
  rw [decide_eq_false c5] at hse
  have t5:decide (a.bytes = b.bytes) = false:=decide_eq_false c5
  have t6:(a.bytes == b.bytes) = false:=by simp [c5]
  have t7:(a.bytes.toArray == b.bytes.toArray) = false:=by simp [c5]
  have HC:=Lib.hid (HDN.out _ (fun e=>by rw [e]) c5)
  clear c5
  go_wp2_with (first
   | ((with_reducible refine wpList_met (o:=⟨some 30,_,_,_,_,_⟩) ?_ ?_);rfl;intro K hK;refine wp_load_at (ty:=31) (x:=.tmp 29) rfl rfl A1.out (hK _ _ ?_))
   | ((with_reducible refine wpList_met (o:=⟨some 32,_,_,_,_,_⟩) ?_ ?_);rfl;intro K hK;refine wp_load_at (ty:=31) (x:=.tmp 31) rfl rfl B1.out (hK _ _ ?_)))
  go_ret
  exact ⟨ret_bool HC.out.symm,hF⟩
 rw [decide_eq_true c5] at hse
 have t5:decide (a.bytes = b.bytes) = true:=decide_eq_true c5
 have t6:(a.bytes == b.bytes) = true:=by simp [c5]
 have t7:(a.bytes.toArray == b.bytes.toArray) = true:=by simp [c5]
 have C5:=Lib.hid c5
 clear c5
 by_cases c6:a.proof = b.proof
 case neg=>
  rw [decide_eq_false c6]
  have HC:=Lib.hid (HDN.out _ (fun e=>by rw [e]) c6)
  clear c6
  go_wp2_with (first
   | ((with_reducible refine wpList_met (o:=⟨some 30,_,_,_,_,_⟩) ?_ ?_);rfl;intro K hK;refine wp_load_at (ty:=31) (x:=.tmp 29) rfl rfl A1.out (hK _ _ ?_))
   | ((with_reducible refine wpList_met (o:=⟨some 32,_,_,_,_,_⟩) ?_ ?_);rfl;intro K hK;refine wp_load_at (ty:=31) (x:=.tmp 31) rfl rfl B1.out (hK _ _ ?_)))
  go_ret
  exact ⟨ret_bool HC.out.symm,hF⟩
 rw [decide_eq_true c6]
 have C6:=Lib.hid c6
 clear c6
 by_cases c7:a.members = b.members
 case neg=>
  rw [decide_eq_false c7]
  have HC:=Lib.hid (HDN.out _ (fun e=>by rw [e]) c7)
  clear c7
  go_wp2_with (first
   | ((with_reducible refine wpList_met (o:=⟨some 30,_,_,_,_,_⟩) ?_ ?_);rfl;intro K hK;refine wp_load_at (ty:=31) (x:=.tmp 29) rfl rfl A1.out (hK _ _ ?_))
   | ((with_reducible refine wpList_met (o:=⟨some 32,_,_,_,_,_⟩) ?_ ?_);rfl;intro K hK;refine wp_load_at (ty:=31) (x:=.tmp 31) rfl rfl B1.out (hK _ _ ?_)))
  go_ret
  exact ⟨ret_bool HC.out.symm,hF⟩
 rw [decide_eq_true c7]
 have HC:=Lib.hid (HDY.out C0.out C1.out C3.out C4.out C5.out C6.out c7)
 clear c7
 go_wp2_with (first
  | ((with_reducible refine wpList_met (o:=⟨some 30,_,_,_,_,_⟩) ?_ ?_);rfl;intro K hK;refine wp_load_at (ty:=31) (x:=.tmp 29) rfl rfl A1.out (hK _ _ ?_))
  | ((with_reducible refine wpList_met (o:=⟨some 32,_,_,_,_,_⟩) ?_ ?_);rfl;intro K hK;refine wp_load_at (ty:=31) (x:=.tmp 31) rfl rfl B1.out (hK _ _ ?_)))
 go_ret
 refine ⟨ret_bool ?_,hF⟩
 rw [HC.out,Bool.eq_iff_iff]
 simp
theorem run_neq_blob (x y:BlobL) (hx:x.ok) (hy:y.ok) (w:World):(binOp .neq 81 (BlobV x) (BlobV y)).run Tryz.prog w = .ok (.bool (!decide (x = y))) w:=by
 have:=run_equalIn_blob 9997 x y hx hy w
 unfold BlobV at this ⊢
 rw [run_neq_struct,this];rfl
theorem run_guard_nblob (x y:Operand) (a b:BlobL) (w:World):(eqGuard .neq 81 x y (BlobV a) (BlobV b)).run Tryz.prog w = .ok () w:=run_eqGuard_agg (P:=Tryz.prog) w .neq 81 x y a.cells.toArray b.cells.toArray guard_blob
def SameIM (l m:List BlobL) (W2:World) (iv:Value) (W:World):Prop:=∃ k:Nat,k ≤ l.length∧iv = .int .i64 k∧l.take k = m.take k∧Below W2.heap.size W2 W
set_option maxHeartbeats 3200000 in
theorem SameImg_any (v u:Value) (l m:List BlobL) (w:World) (hl:RBlob.Row w v l) (hm:RBlob.Row w u m) :
  Calls Tryz.prog 20 #[.agg #[v],.agg #[u]] w fun e w'=>e = .returned (.bool (decide (l = m)))∧Below w.heap.size w w':=by
 obtain ⟨va,vc,hv⟩:=hl.len
 subst hv
 obtain ⟨ua,uc,hv⟩:=hm.len
 subst hv
 have hle:=hl.le
 have hme:=hm.le
 obtain ⟨W1,hW1⟩:∃ W1,w.alloc (.cells #[.slice va l.length vc] 52) = W1:=⟨_,rfl⟩
 have ho1:One W1 w.heap.size (.slice va l.length vc) 52:=by rw [← hW1];exact heap_alloc_new w _
 have hb1:Below w.heap.size w W1:=by rw [← hW1];exact (Below.refl _ w).alloc (Nat.le_refl _) _
 obtain ⟨W2,hW2⟩:∃ W2,W1.alloc (.cells #[.slice ua m.length uc] 52) = W2:=⟨_,rfl⟩
 have ho2:One W2 (w.heap.size + 1) (.slice ua m.length uc) 52:=by
  rw [← hW2,show w.heap.size + 1 = W1.heap.size by rw [← hW1];simp]
  exact heap_alloc_new W1 _
 have hb2':Below W1.heap.size W1 W2:=by rw [← hW2];exact (Below.refl _ W1).alloc (Nat.le_refl _) _
 have hb2:Below w.heap.size w W2:=below_next hb1 hb2'
 have HO1:=Lib.hid (ho1.of_new hb2')
 have HO2:=Lib.hid ho2
 have HL:=Lib.hid (hl.of_new hb2)
 have HM:=Lib.hid (hm.of_new hb2)
 have HB2:=Lib.hid hb2
 have HW1:=Lib.hid hW1
 have HW2:=Lib.hid hW2
 have hc1:=HO1.out.cell
 have hc2:=HO2.out.cell
 have hs1:=HO1.out.lt
 have hs2:=HO2.out.lt
 clear hl hm hW1 hW2 ho1 ho2 hb1 hb2 hb2'
 by_cases hlen:l.length = m.length
 ·have t1:((l.length:Int) != (m.length:Int)) = false:=by simp;omega
  have HLM:=Lib.hid hlen
  clear hlen
  go_enter Tryz.func20,Tryz.ntmps20
  go_upto_region 1 with (fail)
  rw [HW1.out,HW2.out]
  go_wp2
  go_loopw [5] (SameIM l m W2) (fun iv _=>l.length - (intOf iv).toNat)
  case atStart=>exact ⟨0,by omega,rfl,by simp,Below.refl _ _⟩
  case round=>
   obtain ⟨k,hk,rfl,heq,hb⟩:=hrel
   have hc1:=(hb.cell (p:=⟨w.heap.size,0,none⟩) hs1).trans hc1
   have hc2:=(hb.cell (p:=⟨w.heap.size + 1,0,none⟩) hs2).trans hc2
   have HQ:=Lib.hid heq
   clear heq
   by_cases hlt:k < l.length
   ·have t2:(k:Int) < (l.length:Int):=by omega
    have t3:(k:Int) < (m.length:Int):=by have:=HLM.out;omega
    have hkm:k < m.length:=by have:=HLM.out;omega
    obtain ⟨b,off,c,hv,hbl,hat⟩:=HL.out.at_ (by omega)
    obtain ⟨rfl,rfl⟩:va = some ⟨b,off,none⟩∧vc = c:=by cases hv;exact ⟨rfl,rfl⟩
    obtain ⟨b2,off2,c2,hv2,hbl2,hat2⟩:=HM.out.at_ (by omega)
    obtain ⟨rfl,rfl⟩:ua = some ⟨b2,off2,none⟩∧uc = c2:=by cases hv2;exact ⟨rfl,rfl⟩
    obtain ⟨x,hx⟩:∃ x,l[k]? = some x:=⟨_,List.getElem?_eq_getElem hlt⟩
    obtain ⟨y,hy⟩:∃ y,m[k]? = some y:=⟨_,List.getElem?_eq_getElem hkm⟩
    have h1:=(hat k x hx).of_new hb
    have h2:=(hat2 k y hy).of_new hb
    have hneq:∀ w:World,(binOp .neq 81 (RBlob.V x) (RBlob.V y)).run Tryz.prog w = .ok (.bool (!decide (x = y))) w:=run_neq_blob x y h1.1 h2.1
    have hgd:∀ (p q:Operand) (w:World),(eqGuard .neq 81 p q (RBlob.V x) (RBlob.V y)).run Tryz.prog w = .ok () w:=fun p q w'=>run_guard_nblob p q x y w'
    have hts1:l.take (k + 1) = l.take k ++ [x]:=by rw [List.take_add_one,hx];rfl
    have hts2:m.take (k + 1) = m.take k ++ [y]:=by rw [List.take_add_one,hy];rfl
    have hne:l = m→x = y:=fun e=>by rw [e] at hx;rw [hx] at hy;cases hy;rfl
    have H1:=Lib.hid h1
    have H2:=Lib.hid h2
    have HT1:=Lib.hid hts1
    have HT2:=Lib.hid hts2
    have HNE:=Lib.hid hne
    have HBB:=Lib.hid hb
    have hr1:∀ w',Grew wr w'→w'.cell? ⟨w.heap.size,0,none⟩ = some (.slice (some ⟨b,off,none⟩) l.length vc):=fun w' h=>Grew.cell h hc1
    have hr2:∀ w',Grew wr w'→w'.cell? ⟨w.heap.size + 1,0,none⟩ = some (.slice (some ⟨b2,off2,none⟩) m.length uc):=fun w' h=>Grew.cell h hc2
    clear hv hv2 hat hat2 hx hy h1 h2 hts1 hts2 hne hb
    go_upto_region 6 with (fail)
    refine wp_region_grew (by kernel_rfl) (by kernel_rfl) ?_
    repeat (first
     | (go_big_quiet_want;(refine RecT.At.quiet (R:=RBlob) (x:=y) (p:=.tmp 28) (fun w' hw'=>H2.out.of_new hw') rfl rfl ?_);go_simp;go_big_quiet_on)
     | (go_big_quiet_want;(refine RecT.At.quiet (R:=RBlob) (x:=x) (p:=.tmp 23) (fun w' hw'=>H1.out.of_new hw') rfl rfl ?_);go_simp;go_big_quiet_on)
     | (go_big_quiet_want;(with_reducible apply quiet_load_at (ty:=31) (x:=.tmp _));rfl;rfl;assumption;go_simp;go_big_quiet_on)
     | (go_big_quiet_want;apply quiet_val;(intro w' hw';go_simp;first | done | rfl);go_simp;go_big_quiet_on)
     | (go_big_quiet_skip))
    refine wpQuiet_nil ?_
    intro w5 hw5
    have HB5:=Lib.hid (below_next HBB.out hw5)
    clear hneq hgd hw5 hr1 hr2
    by_cases hd:x = y
    ·have t4:decide (x = y) = true:=by simp [hd]
     have HTK:=Lib.hid (show l.take (k + 1) = m.take (k + 1) by rw [HT1.out,HT2.out,HQ.out,hd])
     clear hd
     simp only [t4,Bool.not_true]
     go_wp2
     exact ⟨⟨k + 1,by omega,by go_num,HTK.out,HB5.out⟩,by simp [intOf];omega⟩
    ·have t4:decide (x = y) = false:=by simp [hd]
     have HN:=Lib.hid (show l ≠ m from fun e=>hd (HNE.out e))
     have HB6:=Lib.hid (below_next HB2.out HB5.out)
     clear hd
     simp only [t4,Bool.not_false]
     go_wp2
     go_ret
     exact ⟨ret_bool5 (by simp;exact HN.out),HB6.out⟩
   ·obtain rfl:k = l.length:=by omega
    have t2:¬ (l.length:Int) < (l.length:Int):=by omega
    have he:l = m:=by
     have:=HQ.out
     rwa [List.take_of_length_le (Nat.le_refl _),List.take_of_length_le (by have:=HLM.out;omega)] at this
    have HE:=Lib.hid he
    have HBB:=Lib.hid (below_next HB2.out hb)
    clear he hb
    go_wp2
    go_ret
    exact ⟨ret_bool5 (by simp;exact HE.out),HBB.out⟩
 ·have t1:((l.length:Int) != (m.length:Int)) = true:=by simp;omega
  have HN:=Lib.hid (show l ≠ m from fun e=>hlen (by rw [e]))
  clear hlen
  go_enter Tryz.func20,Tryz.ntmps20
  go_upto_region 1 with (fail)
  rw [HW1.out,HW2.out]
  go_wp2
  go_ret
  exact ⟨ret_bool5 (by simp;exact HN.out),HB2.out⟩
end Go.Proofs.YtnohglkilpnjhaaGreatDoor
namespace Go.Proofs.YtnohglkilpnjhaaGreatDoor
open Go.RowKit
def shaZ:List Int:=[1116352408,1899447441,3049323471,3921009573,961987163,1508970993,2453635748,2870763221,3624381080,310598401,607225278,1426881987,1925078388,2162078206,2614888103,3248222580,3835390401,4022224774,264347078,604807628,770255983,1249150122,1555081692,1996064986,2554220882,2821834349,2952996808,3210313671,3336571891,3584528711,113926993,338241895,666307205,773529912,1294757372,1396182291,1695183700,1986661051,2177026350,2456956037,2730485921,2820302411,3259730800,3345764771,3516065817,3600352804,4094571909,275423344,430227734,506948616,659060556,883997877,958139571,1322822218,1537002063,1747873779,1955562222,2024104815,2227730452,2361852424,2428436474,2756734187,3204031479,3329325298]
theorem gK : Tryz.prog.globalNamed "starling/digest.constants" = some 0 := by kernel_rfl
theorem gKType:(Tryz.prog.globals[0]?).map (·.type) = some 199:=by kernel_rfl
theorem cellsK:Tryz.prog.cellsOf 199 = 64:=by kernel_rfl
theorem cellsK1:Tryz.prog.cellsOf 151 = 1:=by kernel_rfl
theorem shaZ_at:∀ j:Fin 64,shaZ.getD j.val 0 = w32 (shaK.getD j.val 0):=by decide
theorem consts_of {W : World} (h : laidMetH Tryz.prog [("starling/digest.constants", Rows.laid_starling_digest_constants)] W) : Consts W := by
 have ht : Lib.TabIs Tryz.prog W "starling/digest.constants" .u32 shaZ := Lib.tabIs_of_head (rest := []) gK gKType Tryz.underlying199 Tryz.underlying151 cellsK1 cellsK h
 intro j hj
 have:=ht.cell gK j hj
 rw [this]
 unfold W32
 rw [← shaZ_at ⟨j,hj⟩]
noncomputable def laidWorld (os:Os):World:=
 { World.holding Tryz.prog os ⟨#[],#[],[]⟩ with heap:=(World.holding Tryz.prog os ⟨#[],#[],[]⟩).heap.modify 0 fun
   | .cells _ t frozen=>.cells #[.int .u32 1116352408,.int .u32 1899447441,.int .u32 3049323471,.int .u32 3921009573,.int .u32 961987163,.int .u32 1508970993,.int .u32 2453635748,.int .u32 2870763221,.int .u32 3624381080,.int .u32 310598401,.int .u32 607225278,.int .u32 1426881987,.int .u32 1925078388,.int .u32 2162078206,.int .u32 2614888103,.int .u32 3248222580,.int .u32 3835390401,.int .u32 4022224774,.int .u32 264347078,.int .u32 604807628,.int .u32 770255983,.int .u32 1249150122,.int .u32 1555081692,.int .u32 1996064986,.int .u32 2554220882,.int .u32 2821834349,.int .u32 2952996808,.int .u32 3210313671,.int .u32 3336571891,.int .u32 3584528711,.int .u32 113926993,.int .u32 338241895,.int .u32 666307205,.int .u32 773529912,.int .u32 1294757372,.int .u32 1396182291,.int .u32 1695183700,.int .u32 1986661051,.int .u32 2177026350,.int .u32 2456956037,.int .u32 2730485921,.int .u32 2820302411,.int .u32 3259730800,.int .u32 3345764771,.int .u32 3516065817,.int .u32 3600352804,.int .u32 4094571909,.int .u32 275423344,.int .u32 430227734,.int .u32 506948616,.int .u32 659060556,.int .u32 883997877,.int .u32 958139571,.int .u32 1322822218,.int .u32 1537002063,.int .u32 1747873779,.int .u32 1955562222,.int .u32 2024104815,.int .u32 2227730452,.int .u32 2361852424,.int .u32 2428436474,.int .u32 2756734187,.int .u32 3204031479,.int .u32 3329325298] t frozen
   | o=>o }
end Go.Proofs.YtnohglkilpnjhaaGreatDoor
namespace Go.Proofs.YtnohglkilpnjhaaGreatDoor
open Go.ChangeShapes Go.WideShapes Go.ChangeAt Go.RowKit Go.Deep
section
variable {H:Type} {enc:TypeId × Value→H} {P:Program} {W:World} {base:Nat} {spare:Nat→Bool} {held:Bool}
theorem flatD_getElem {l:List (List UInt8)} (h:Dig32 l) {j:Nat} (hj:j < l.length * 32):(flatD l)[j]? = ((l.getD (j / 32) []).map B8)[j % 32]?:=by
 have:=flatD_at h (i:=j / 32) (j:=j % 32) (by omega) (by omega)
 rwa [show j / 32 * 32 + j % 32 = j by omega] at this
end
end Go.Proofs.YtnohglkilpnjhaaGreatDoor
