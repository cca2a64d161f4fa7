/- Lemmas that the statement of this claim leans on; their own comments are taken out, for the size of the claim. No condition beyond what each lemma states. -/
import Derived.Test.YtnohglkilpnjhaaGreatDoorSa16
import Derived.LoopNIn
import Derived.LoopIn
import Derived.BigFrameIn
import Derived.BigGuardIn
import Derived.Shelf.Abstract
import Derived.Shelf.RegionOpen
import Derived.Laws.EntriesVeiled
set_option linter.unusedVariables false
set_option linter.unusedSimpArgs false
set_option linter.unusedSectionVars false
namespace Go.Proofs.YtnohglkilpnjhaaGreatDoor
open Go.RowKit
section
variable {ro:Option Nat} {m:Nat} {P:Program} {ops:Array Oper} {md:Region.Mode} {C:World→Prop} {D:Nat→Bool} {Q:Exit→Act→World→Prop}
theorem wpAnyS_takeP {i:Nat} {oi:Oper} {v:Value} (hnd:noDefer ops = true) (hi:ops[i]? = some oi) (hsel:∀ (j:Nat) (o:Oper) cs b,ops[j]? = some o→o.op ≠ .select cs b)
  (hQ:∀ c (a:Act) (d:Option Tmp) (v:Value) w,Q (.panic c) (a.put d v) w→Q (.panic c) a w) (hDi:D i = true) :
  ∀ (fuel:Nat) (listed:Array Bool) (a:Act) (w:World),
   (∀ j oj,ops[j]? = some oj→j ≠ i→listed.getD j true = false→(∀ e ∈ oj.after,Region.binds md e = true→e.on ≠ i)→oi.apart ops oj = true) →
   i ∈ Region.ready md ops listed→StillIn P ops (fun _=>True) oi v a →
   wpAnyS ro m P md ops C D Q fuel (listed.setIfInBounds i true) (a.put oi.dst v) w→wpAnyS ro m P md ops C D Q (fuel + 1) listed a w:=by
 intro fuel
 induction fuel with
 | zero=>
  intro listed a w _ hr hy H
  refine ⟨fun h=>(by rw [h] at hr;cases hr),fun j hj=>?_⟩
  by_cases hji:j = i
  ·subst hji;exact hy.wpOpIn hnd hi trivial ⟨fun h=>(by rw [hDi] at h;cases h),H⟩
  ·have:=ready_mono hj hji
   rw [H.1] at this
   cases this
 | succ fuel ih=>
  intro listed a w hfree hr hy H
  refine ⟨fun h=>(by rw [h] at hr;cases hr),fun j hj=>?_⟩
  by_cases hji:j = i
  ·subst hji;exact hy.wpOpIn hnd hi trivial ⟨fun h=>(by rw [hDi] at h;cases h),H⟩
  ·have h1:=H.2 j (ready_mono hj hji)
   obtain ⟨hjun,oj,hoj,hall⟩:=mem_ready.1 hj
   have h0:=(mem_ready.1 hr).1
   have h0f:listed.getD i false = false:=getD_both h0
   have hnot:∀ e ∈ oj.after,Region.binds md e = true→e.on ≠ i:=fun e he hb heq=>by
    have h1:=hall e he hb
    rw [heq,h0f] at h1
    cases h1
   have h2:=wpOpIn_putS (C:=fun _=>True) hnd hoj (hfree j oj hoj hji hjun hnot) (fun cs b=>hsel i oi cs b hi) (fun cs b=>hsel j oj cs b hoj) (fun c a w h=>hQ c _ _ _ w h) hy h1
   have hfree':∀ k ok,ops[k]? = some ok→k ≠ i→(listed.setIfInBounds j true).getD k true = false →
     (∀ e ∈ ok.after,Region.binds md e = true→e.on ≠ i)→oi.apart ops ok = true:=fun k ok hk hki hun hno=>by
    refine hfree k ok hk hki ?_ hno
    by_cases hjk:j = k
    ·subst hjk;exact hjun
    ·rw [getD_set_ne true hjk] at hun;exact hun
   refine wpOpIn_mono (fun a' w' h3=>⟨h3.2.1,ih (listed.setIfInBounds j true) a' w' hfree' (ready_mono hr (Ne.symm hji)) h3.1 ?_⟩) h2
   rw [Array.setIfInBounds_comm _ _ hji]
   exact h3.2.2
def pureI (md:Region.Mode) (ops:Array Oper) (D:Nat→Bool):List Nat→Array Bool→Bool
 | [],_=>true
 | p :: ps,listed=>(Region.ready md ops listed).contains p && Region.free md ops listed p && (match ops[p]? with | some o=>earlyOp2 o | none=>false) && D p && pureI md ops D ps (listed.setIfInBounds p true)
theorem wpAnyS_pureI (hnd:noDefer ops = true) (hsel:Region.noSelect ops = true) (hQ:∀ c (a:Act) (d:Option Tmp) (v:Value) w,Q (.panic c) (a.put d v) w→Q (.panic c) a w) {R:Act→Prop} {g:Nat} (ps:List Nat) :
  ∀ (listed:Array Bool) (a:Act) (w:World),C w→pureI md ops D ps listed = true →
   wpQuiet P ops (fun _=>True) R (opsAt ops.toList ps) a→(∀ a' w,C w→R a'→wpAnyS ro m P md ops C D Q g (listedI ps listed) a' w)→wpAnyS ro m P md ops C D Q (ps.length + g) listed a w:=by
 induction ps with
 | nil=>
  intro listed a w hC _ h hL
  rw [List.length_nil,Nat.zero_add]
  exact hL a w hC h
 | cons p ps ih=>
  intro listed a w hC hB h hL
  simp only [pureI,Bool.and_eq_true] at hB
  obtain ⟨⟨⟨⟨hr,hf⟩,he⟩,hd⟩,hB⟩:=hB
  have hr':p ∈ Region.ready md ops listed:=by simpa using hr
  obtain ⟨o,h0⟩:∃ o,ops[p]? = some o:=by
   cases q:ops[p]? with
   | some o=>exact ⟨o,rfl⟩
   | none=>rw [q] at he;cases he
  rw [h0] at he
  rw [opsAt_cons (o:=o) (by simpa using h0)] at h
  have hg:o.guard = none:=by
   have:=he
   unfold earlyOp2 at this
   simp only [Bool.and_eq_true,Option.isNone_iff_eq_none] at this
   exact this.1
  have hq:o.quiet P a (fun _=>True) (wpQuiet P ops (fun _=>True) R (opsAt ops.toList ps)):=by
   have h':if Region.wanted o (yielded ops a.tmps) then o.quiet P a (fun _=>True) (wpQuiet P ops (fun _=>True) R (opsAt ops.toList ps)) else wpQuiet P ops (fun _=>True) R (opsAt ops.toList ps) (a.put o.dst undef):=h
   rwa [if_pos (by simp [Region.wanted,hg])] at h'
  obtain ⟨v,hv,hK⟩:=hq
  rw [List.length_cons,show ps.length + 1 + g = (ps.length + g) + 1 by omega]
  refine wpAnyS_takeP hnd h0 (Region.noSelect_spec hsel) hQ hd (ps.length + g) listed a w (Region.free_spec h0 hf) hr' (still_of_quiet2 he hv) ?_
  exact ih _ _ w hC hB hK hL
def mix2B (l:List Oper) (hs hp ts1 ts2:List Nat):Bool:=
 Region.noSelect l.toArray && noDefer l.toArray && decide (hs.length + (hp.length + (ts1.length + ts2.length)) = l.length) && ((hp ++ ts2).all fun j=>decide (j < l.length)) &&
  earlyI .any l.toArray (fun j=>(hp ++ ts2).contains j) hs (Array.replicate l.length false) && pureI .any l.toArray (fun j=>(hp ++ ts2).contains j) hp (listedI hs (Array.replicate l.length false)) &&
  seqI .any l.toArray (ts1 ++ ts2) (listedI hp (listedI hs (Array.replicate l.length false)))
theorem wpIn_region_mix2 {id:Nat} {a:Act} {w:World} {l:List Oper} (hs hp ts1 ts2:List Nat) (hm:P.follows .mixedOrders = true) (hB:mix2B l hs hp ts1 ts2 = true)
  (hC:C { w with drawn:=w.drawn + 1 }) (hQ:∀ c (a:Act) (d:Option Tmp) (v:Value) w,Q (.panic c) (a.put d v) w→Q (.panic c) a w)
  (h:wpQuiet P l.toArray C (fun a'=>wpQuiet P l.toArray (fun _=>True) (fun a''=>∀ w',C w'→LateL ro m P l.toArray C Q (opsAt l ts1) (opsAt l ts2) a'' w') (opsAt l hp) a') (opsAt l hs) a) :
  (Code.region id l.toArray true).wpIn (WF ro) m P Q a w:=by
 simp only [mix2B,Bool.and_eq_true,decide_eq_true_eq] at hB
 obtain ⟨⟨⟨⟨⟨⟨hsel,hnd⟩,hlen⟩,hlt⟩,hearly⟩,hpure⟩,hseq⟩:=hB
 have hsz:l.toArray.size = l.length:=by simp
 refine wpIn_region_any hm ?_
 rw [hsz,← hlen]
 refine wpAnyS_any (C:=C) (D:=fun j=>(hp ++ ts2).contains j) _ _ _ _ ?_
 refine wpAnyS_earlyI (R:=fun a'=>wpQuiet P l.toArray (fun _=>True) (fun a''=>∀ w',C w'→LateL ro m P l.toArray C Q (opsAt l ts1) (opsAt l ts2) a'' w') (opsAt l hp) a') hnd hsel hQ (fun j hj=>?_) hs (Array.replicate (hs.length + (hp.length + (ts1.length + ts2.length))) false) a _ (by simp [hlen]) (fun j oj _ hl=>(by rw [getD_replicate_false] at hl;cases hl)) hC (by rw [hlen];exact hearly) h (fun a' w' hw' hR=>?_)
 ·cases hc:(hp ++ ts2).contains j with
  | false=>rfl
  | true=>
   have:=List.all_eq_true.1 hlt j (by simpa using hc)
   simp only [decide_eq_true_eq] at this
   omega
 ·refine wpAnyS_pureI (R:=fun a''=>∀ w',C w'→LateL ro m P l.toArray C Q (opsAt l ts1) (opsAt l ts2) a'' w') hnd hsel hQ hp _ a' w' hw' (by rw [hlen];exact hpure) hR (fun a2 w2 hw2 hR2=>?_)
  exact wpAnyS_lateI hnd ts1 ts2 _ a2 w2 (fun j hj=>by simp [hj]) (by rw [hlen];exact hseq) hw2 (hR2 w2 hw2)
end
end Go.Proofs.YtnohglkilpnjhaaGreatDoor
namespace Go.Proofs.YtnohglkilpnjhaaGreatDoor
theorem peersT_mid {X B:TabL} {d:List UInt8} {P:List PeerL} (h:Rising kD (X ++ (d,P) :: B)):peersT d (X ++ (d,P) :: B) = P:=peersT_mem h (x:=(d,P)) (by simp)
theorem leave_mid {X B:TabL} {d:List UInt8} {C R:List PeerL} {p:PeerL} (h:Rising kD (X ++ (d,C ++ p :: R) :: B)) (hp:Rising PeerL.id (C ++ p :: R)) :
  leaveT (X ++ (d,C ++ p :: R) :: B) d p.id = (X ++ oneT d (C ++ R) ++ B,0):=by
 unfold leaveT
 rw [peersT_mid h,getK_mid hp,delK_mid hp]
 show (backT d (C ++ R) (X ++ (d,C ++ p :: R) :: B),(0:Int)) = _
 unfold backT oneT
 by_cases h0:C ++ R = []
 ·rw [if_pos h0,if_pos h0]
  have:=delK_mid (f:=kD) h
  have e:kD (d,C ++ p :: R) = (natL d:Int):=rfl
  rw [e] at this
  rw [this];simp
 ·rw [if_neg h0,if_neg h0,insK_mid (f:=kD) (x:=(d,C ++ R)) h rfl]
  simp
theorem liveT_append (now:Int):∀ (A B:TabL),liveT now (A ++ B) = liveT now A ++ liveT now B
 | [],B=>rfl
 | x :: A,B=>by simp only [List.cons_append,liveT,liveT_append now A B,List.append_assoc]
theorem goneN_append (now:Int):∀ (A B:TabL),goneN now (A ++ B) = goneN now A + goneN now B
 | [],B=>by simp [goneN]
 | x :: A,B=>by simp only [List.cons_append,goneN,goneN_append now A B];omega
theorem liveP_append (now:Int) (a b:List PeerL):liveP now (a ++ b) = liveP now a ++ liveP now b:=by simp [liveP]
theorem liveP_len (now:Int) (a:List PeerL):(liveP now a).length ≤ a.length:=List.length_filter_le _ _
def midT (now:Int) (A:TabL) (d:List UInt8) (a b:List PeerL) (B:TabL):TabL:=liveT now A ++ oneT d (liveP now a ++ b) ++ B
def midN (now:Int) (A:TabL) (a:List PeerL):Nat:=goneN now A + (a.length - (liveP now a).length)
theorem midT_cons {now:Int} {A B:TabL} {d:List UInt8} {a b:List PeerL} {p:PeerL}:midT now A d a (p :: b) B = liveT now A ++ (d,liveP now a ++ p :: b) :: B:=by
 unfold midT oneT
 rw [if_neg (by simp)]
 simp
theorem midT_gone {now:Int} {A B:TabL} {d:List UInt8} {a b:List PeerL} {p:PeerL} (h:Rising kD (midT now A d a (p :: b) B)) (hp:Rising PeerL.id (liveP now a ++ p :: b)) (ht:p.till ≤ now) :
  leaveT (midT now A d a (p :: b) B) d p.id = (midT now A d (a ++ [p]) b B,0)∧midN now A (a ++ [p]) = midN now A a + 1:=by
 have hl:liveP now (a ++ [p]) = liveP now a:=by rw [liveP_append];simp [liveP];omega
 constructor
 ·rw [midT_cons] at h ⊢
  rw [leave_mid h hp]
  unfold midT
  rw [hl]
 ·unfold midN
  rw [hl]
  have:=liveP_len now a
  simp
  omega
theorem midT_stay {now:Int} {A B:TabL} {d:List UInt8} {a b:List PeerL} {p:PeerL} (ht:now < p.till) :
  midT now A d (a ++ [p]) b B = midT now A d a (p :: b) B∧midN now A (a ++ [p]) = midN now A a:=by
 have hl:liveP now (a ++ [p]) = liveP now a ++ [p]:=by rw [liveP_append];simp [liveP];omega
 constructor
 ·unfold midT;rw [hl];simp
 ·unfold midN;rw [hl];simp
theorem midT_start {now:Int} {A B:TabL} {d:List UInt8} {P:List PeerL} (h:P ≠ []):midT now A d [] P B = liveT now A ++ (d,P) :: B∧midN now A [] = goneN now A:=by
 unfold midT midN oneT
 simp [liveP,h]
theorem midT_end {now:Int} {A B:TabL} {d:List UInt8} {P:List PeerL}:midT now A d P [] B = liveT now (A ++ [(d,P)]) ++ B∧midN now A P = goneN now (A ++ [(d,P)]):=by
 constructor
 ·unfold midT
  rw [liveT_append]
  simp [liveT]
 ·unfold midN
  rw [goneN_append]
  simp [goneN]
theorem gone_le2 (now:Int):∀ (T:TabL) (m:Nat),(∀ x ∈ T,x.2.length ≤ m)→goneN now T ≤ T.length * m
 | [],m,_=>by simp [goneN]
 | x :: T,m,h=>by
  have h1:=gone_le2 now T m (fun y hy=>h y (by simp [hy]))
  have h2:=h x (by simp)
  simp only [goneN,List.length_cons,Nat.add_mul,Nat.one_mul]
  omega
theorem goneN_take (now:Int) (T:TabL) (i:Nat):goneN now (T.take i) ≤ goneN now T:=by
 have:=goneN_append now (T.take i) (T.drop i)
 rw [List.take_append_drop] at this
 omega
end Go.Proofs.YtnohglkilpnjhaaGreatDoor
namespace Go.Proofs.YtnohglkilpnjhaaGreatDoor
open Go.RowKit
set_option maxRecDepth 100000
def MemL.cells (x:MemL):List Value:=[.int .i64 x.id,.int .i64 x.inc,.int .i64 x.state,.int .i64 x.since]
def MemL.ok (x:MemL):Prop:=inI64 x.id∧inI64 x.inc∧inI64 x.state∧inI64 x.since
def flatM (l:List MemL):List Value:=l.flatMap MemL.cells
theorem flatM_len (l:List MemL):(flatM l).length = l.length * 4:=by
 induction l with
 | nil=>rfl
 | cons x r ih=>simp only [flatM,List.flatMap_cons,List.length_append,List.length_cons] at *;rw [ih];simp [MemL.cells];omega
def mem0:MemL:=⟨0,0,0,0⟩
theorem flatM_at:∀ {l:List MemL} {i:Nat} (hi:i < l.length),(flatM l)[i * 4]? = some (.int .i64 (l.getD i mem0).id)∧(flatM l)[i * 4 + 1]? = some (.int .i64 (l.getD i mem0).inc)∧(flatM l)[i * 4 + 2]? = some (.int .i64 (l.getD i mem0).state)∧(flatM l)[i * 4 + 3]? = some (.int .i64 (l.getD i mem0).since)
 | [],i,hi=>by simp at hi
 | x :: r,0,_=>⟨rfl,rfl,rfl,rfl⟩
 | x :: r,i + 1,hi=>by
  have ih:=flatM_at (l:=r) (i:=i) (by simpa using hi)
  have e:∀ j,(flatM (x :: r))[(i + 1) * 4 + j]? = (flatM r)[i * 4 + j]?:=fun j=>by
   show (x.cells ++ flatM r)[(i + 1) * 4 + j]? = _
   rw [List.getElem?_append_right (by simp [MemL.cells];omega)]
   congr 1
   simp [MemL.cells];omega
  have e0:=e 0
  rw [Nat.add_zero,Nat.add_zero] at e0
  rw [e0,e 1,e 2,e 3]
  exact ih
def Mems (w:World) (v:Value) (l:List MemL):Prop:=Row w v l.length 4 (flatM l)
theorem Mems.len {w:World} {v:Value} {l:List MemL} (h:Mems w v l):∃ a c,v = .slice a l.length c:=h.shape
theorem Mems.le {w:World} {v:Value} {l:List MemL} (h:Mems w v l):l.length ≤ 9223372036854775807:=Row.le h
theorem Mems.of_new {w w':World} {v:Value} {l:List MemL} (h:Mems w v l) (hg:Below w.heap.size w w'):Mems w' v l:=Row.of_new h hg
def MemAt (w:World) (g off:Nat) (x:MemL):Prop:=w.cell? ⟨g,off,none⟩ = some (.int .i64 x.id)∧w.cell? ⟨g,off + 1,none⟩ = some (.int .i64 x.inc)∧w.cell? ⟨g,off + 2,none⟩ = some (.int .i64 x.state)∧w.cell? ⟨g,off + 3,none⟩ = some (.int .i64 x.since)
theorem MemAt.lt {w:World} {g off:Nat} {x:MemL} (h:MemAt w g off x):g < w.heap.size:=World.block_lt_of_cell? _ _ h.1
theorem MemAt.of_new {w w':World} {g off:Nat} {x:MemL} (h:MemAt w g off x) (hg:Below w.heap.size w w'):MemAt w' g off x:=
 ⟨(hg.cell (p:=⟨g,off,none⟩) h.lt).trans h.1,(hg.cell (p:=⟨g,off + 1,none⟩) h.lt).trans h.2.1,(hg.cell (p:=⟨g,off + 2,none⟩) h.lt).trans h.2.2.1,(hg.cell (p:=⟨g,off + 3,none⟩) h.lt).trans h.2.2.2⟩
theorem Mems.cell {w:World} {v:Value} {l:List MemL} (h:Mems w v l) (h0:0 < l.length):∃ b off c,v = .slice (some ⟨b,off,none⟩) l.length c∧b < w.heap.size∧∀ j,j < l.length→MemAt w b (off + j * 4) (l.getD j mem0):=by
 obtain ⟨_,a,c,rfl,_,_,_,h5⟩:=h
 obtain ⟨b,off,rfl,hb,hc⟩:=h5 (by omega)
 refine ⟨b,off,c,rfl,hb,fun j hj=>?_⟩
 obtain ⟨e0,e1,e2,e3⟩:=flatM_at hj
 have h0:=hc (j * 4) (by omega)
 have h1:=hc (j * 4 + 1) (by omega)
 have h2:=hc (j * 4 + 2) (by omega)
 have h3:=hc (j * 4 + 3) (by omega)
 rw [e0] at h0
 rw [e1] at h1
 rw [e2] at h2
 rw [e3] at h3
 exact ⟨h0,h1,h2,h3⟩
structure MsgS where
 vi:Value
 vb:Value
 vp:Value
 vm:Value
def msgCells (m:MsgL) (s:MsgS):List Value:=.int .i64 m.kind :: (m.hash.map B8 ++ [.int .i64 m.piece,s.vi,s.vb,s.vp,s.vm,.bool m.seed])
structure MsgR (w:World) (m:MsgL) (s:MsgS):Prop where
 hash:m.hash.length = 32
 ids:Ints w s.vi m.ids
 bytes:Bytes w s.vb m.bytes
 proof:Digs w s.vp m.proof
 members:Mems w s.vm m.members
structure MsgL.ok (m:MsgL):Prop where
 kind:inI64 m.kind
 piece:inI64 m.piece
 ids:∀ n ∈ m.ids,inI64 n
 members:∀ x ∈ m.members,x.ok
theorem MsgR.of_new {w w':World} {m:MsgL} {s:MsgS} (h:MsgR w m s) (hg:Below w.heap.size w w'):MsgR w' m s:=⟨h.hash,h.ids.of_new hg,h.bytes.of_new hg,h.proof.of_new hg,h.members.of_new hg⟩
def MsgV (m:MsgL) (s:MsgS):Value:=.agg (msgCells m s).toArray
def MsgO (w:World) (g:Nat) (m:MsgL) (s:MsgS):Prop:=w.heap[g]? = some (.cells (msgCells m s).toArray 37 (0,0))∧m.hash.length = 32
theorem MsgO.lt {w:World} {g:Nat} {m:MsgL} {s:MsgS} (h:MsgO w g m s):g < w.heap.size:=(Array.getElem?_eq_some_iff.1 h.1).1
theorem MsgO.of_new {w w':World} {g:Nat} {m:MsgL} {s:MsgS} (h:MsgO w g m s) (hb:Below w.heap.size w w'):MsgO w' g m s:=⟨(hb.block _ h.lt).trans h.1,h.2⟩
theorem MsgO.of_block {w w':World} {g:Nat} {m:MsgL} {s:MsgS} (h:MsgO w g m s) (hb:w'.heap[g]? = w.heap[g]?):MsgO w' g m s:=⟨hb.trans h.1,h.2⟩
theorem msg_alloc (w:World) {m:MsgL} {s:MsgS} (h:m.hash.length = 32):MsgO (w.alloc (.cells (msgCells m s).toArray 37)) w.heap.size m s:=⟨heap_alloc_new w _,h⟩
theorem msgCells_len {m:MsgL} {s:MsgS} (h:m.hash.length = 32):(msgCells m s).length = 39:=by simp [msgCells,h]
theorem MsgO.at_ {w:World} {g:Nat} {m:MsgL} {s:MsgS} (h:MsgO w g m s) (j:Nat):w.cell? ⟨g,j,none⟩ = (msgCells m s)[j]?:=by
 simp only [World.cell?,h.1]
 simp
theorem MsgO.kind {w:World} {g:Nat} {m:MsgL} {s:MsgS} (h:MsgO w g m s):w.cell? ⟨g,0,none⟩ = some (.int .i64 m.kind):=by rw [h.at_];rfl
theorem msgCells_tail {m:MsgL} {s:MsgS} (h:m.hash.length = 32) (j:Nat):(msgCells m s)[33 + j]? = [.int .i64 m.piece,s.vi,s.vb,s.vp,s.vm,.bool m.seed][j]?:=by
 unfold msgCells
 rw [show 33 + j = (32 + j) + 1 by omega,List.getElem?_cons_succ,List.getElem?_append_right (by simp [h])]
 simp [h]
theorem MsgO.piece {w:World} {g:Nat} {m:MsgL} {s:MsgS} (h:MsgO w g m s):w.cell? ⟨g,33,none⟩ = some (.int .i64 m.piece):=by rw [h.at_];exact msgCells_tail h.2 0
theorem MsgO.ids {w:World} {g:Nat} {m:MsgL} {s:MsgS} (h:MsgO w g m s):w.cell? ⟨g,34,none⟩ = some s.vi:=by rw [h.at_];exact msgCells_tail h.2 1
theorem MsgO.bytes {w:World} {g:Nat} {m:MsgL} {s:MsgS} (h:MsgO w g m s):w.cell? ⟨g,35,none⟩ = some s.vb:=by rw [h.at_];exact msgCells_tail h.2 2
theorem MsgO.proof {w:World} {g:Nat} {m:MsgL} {s:MsgS} (h:MsgO w g m s):w.cell? ⟨g,36,none⟩ = some s.vp:=by rw [h.at_];exact msgCells_tail h.2 3
theorem MsgO.members {w:World} {g:Nat} {m:MsgL} {s:MsgS} (h:MsgO w g m s):w.cell? ⟨g,37,none⟩ = some s.vm:=by rw [h.at_];exact msgCells_tail h.2 4
theorem MsgO.seed {w:World} {g:Nat} {m:MsgL} {s:MsgS} (h:MsgO w g m s):w.cell? ⟨g,38,none⟩ = some (.bool m.seed):=by rw [h.at_];exact msgCells_tail h.2 5
theorem MsgO.hash {w:World} {g:Nat} {m:MsgL} {s:MsgS} (h:MsgO w g m s):DigAt w g 1 m.hash:=⟨h.2,fun j hj=>by
 rw [h.at_]
 unfold msgCells
 rw [show 1 + j = j + 1 by omega,List.getElem?_cons_succ,List.getElem?_append_left (by simp [h.2,hj])]⟩
theorem size_msg:(Tryz.prog.info? 37).map (·.size) = some 39:=by kernel_rfl
theorem run_load_msg {w:World} {g:Nat} {m:MsgL} {s:MsgS} (h:MsgO w g m s):(loadVar 37 ⟨g,0,none⟩).run Tryz.prog w = .ok (MsgV m s) w:=
 run_loadVar_row (P:=Tryz.prog) w g 37 37 (msgCells m s).toArray (0,0) _ h.1 Tryz.underlying37 rfl (by rw [size_msg];simp [msgCells_len h.2])
theorem wp_load_msg {w:World} {o:Oper} {a:Act} {K:Act→World→Prop} {Q:Exit→Act→World→Prop} {p:Operand} {g:Nat} {m:MsgL} {s:MsgS} (ho:o.op = .load 37 p) (hp:a.eval p = .pointer (some ⟨g,0,none⟩)) (h:MsgO w g m s)
  (hK:K (a.put o.dst (MsgV m s)) w):o.wp Tryz.prog a w K Q:=by
 refine wp_val (v:=MsgV m s) ?_ hK
 have:=run_load_msg h
 unfold execOp
 simp only [ho,hp,Instr.loadAt,Instr.sureAddr,Sem.run_bind,Sem.run_pure,Result.andThen_ok,this]
def Off (w:World) (g:Nat) (v:Value):Prop:=∀ k,v.ownBlock = some k→k ≠ g∧k < w.heap.size
theorem Off.mono {w w':World} {g:Nat} {v:Value} (h:Off w g v) (hs:w.heap.size ≤ w'.heap.size):Off w' g v:=fun k hk=>⟨(h k hk).1,Nat.lt_of_lt_of_le (h k hk).2 hs⟩
theorem Off.nil (w:World) (g:Nat):Off w g (.slice none 0 0):=fun k h=>nomatch h
structure MsgF (w:World) (g:Nat) (m:MsgL) (s:MsgS):Prop where
 o:MsgO w g m s
 r:MsgR w m s
 vi:Off w g s.vi
 vb:Off w g s.vb
 vp:Off w g s.vp
 vm:Off w g s.vm
theorem MsgF.free {w:World} {g:Nat} {m:MsgL} {s:MsgS} (h:MsgF w g m s) (j:Nat):w.frozen? ⟨g,j,none⟩ = false:=by
 simp [World.frozen?,h.o.1]
theorem MsgF.of_new {w w':World} {g:Nat} {m:MsgL} {s:MsgS} (h:MsgF w g m s) (hb:Below w.heap.size w w'):MsgF w' g m s:=⟨h.o.of_new hb,h.r.of_new hb,h.vi.mono hb.size,h.vb.mono hb.size,h.vp.mono hb.size,h.vm.mono hb.size⟩
theorem MsgF.rows {w w':World} {g:Nat} {m:MsgL} {s:MsgS} (h:MsgF w g m s) (hg:w.grownBy w' (some g)):MsgR w' m s:=
 ⟨h.r.hash,Row.of_kept h.r.ids hg (fun k hk e=>(h.vi k hk).1 (by cases e;rfl)),Row.of_kept h.r.bytes hg (fun k hk e=>(h.vb k hk).1 (by cases e;rfl)),
  ⟨h.r.proof.1,Row.of_kept h.r.proof.2 hg (fun k hk e=>(h.vp k hk).1 (by cases e;rfl))⟩,Row.of_kept h.r.members hg (fun k hk e=>(h.vm k hk).1 (by cases e;rfl))⟩
end Go.Proofs.YtnohglkilpnjhaaGreatDoor
namespace Go.Proofs.YtnohglkilpnjhaaGreatDoor
def msgZ:MsgL:=⟨0,zero32,0,[],[],[],[],false⟩
end Go.Proofs.YtnohglkilpnjhaaGreatDoor
namespace Go.Proofs.YtnohglkilpnjhaaGreatDoor
open Go.RowKit
set_option maxRecDepth 100000
theorem MsgR.one {w:World} {m:MsgL} {s:MsgS} (h:MsgR w m s):(msgCells m s).toArray.all (·.oneCell') = true:=
 Array.all_eq_true_iff_forall_mem.2 (fun v hv=>by
  obtain ⟨ia,ic,hi⟩:=h.ids.len
  obtain ⟨ba,bc,hb⟩:=h.bytes.len
  obtain ⟨pa,pc,hp⟩:=h.proof.len
  obtain ⟨ma,mc,hm⟩:=h.members.len
  have hv':v ∈ msgCells m s:=by simpa using hv
  simp only [msgCells,hi,hb,hp,hm,List.mem_append,List.mem_cons,List.mem_map,List.not_mem_nil,or_false] at hv'
  rcases hv' with rfl | ⟨b,_,rfl⟩ | rfl | rfl | rfl | rfl | rfl | rfl <;> rfl)
theorem wp_store_msg {w:World} {op:Oper} {a:Act} {K:Act→World→Prop} {Q:Exit→Act→World→Prop} (p q:Operand) (g:Nat) (m m0:MsgL) (s s0:MsgS) (ho:op.op = .store 37 p q)
  (hp:a.eval p = .pointer (some ⟨g,0,none⟩)) (hq:a.eval q = MsgV m s) (hx:MsgR w m s) (hg:MsgO w g m0 s0)
  (h:∀ w',MsgO w' g m s→w.grownBy w' (some g)→w'.heap.size = w.heap.size→K (a.put op.dst undef) w'):op.wp Tryz.prog a w K Q:=by
 have hrun:=run_storeVar_row (P:=Tryz.prog) w g 37 37 _ (msgCells m s).toArray hg.1 (by rw [size_msg];simp [msgCells_len hx.hash]) (by simp [msgCells_len hx.hash,msgCells_len hg.2]) hx.one
 unfold MsgV at hq
 unfold Oper.wp execOp
 simp only [ho,hp,hq,Instr.storeAt,Instr.sureAddr,Sem.run_bind,Sem.run_pure,Result.andThen_ok,hrun]
 exact h _ ⟨setRow_heap _ _ _ _ _ _ hg.1,hx.hash⟩ ⟨rfl,rfl,rfl,by simp [World.setRow],fun k hk hne=>Go.setRow_other w g k _ (fun e=>hne (by rw [e]))⟩ (by simp [World.setRow])
theorem results_msg {fn:Func} {p q:Tmp} (h:fn.results = #[.cell p 37,.tmp q]) (tmps:Array Value) {w:World} {b:Nat} {m:MsgL} {s:MsgS} {u:Value} (hp:tmps.getD p undef = .pointer (some ⟨b,0,none⟩)) (hq:tmps.getD q undef = u)
  (hx:MsgO w b m s):(results fn tmps).run Tryz.prog w = .ok (.tuple #[MsgV m s,u]) w:=by
 have hp':tmps[p]?.getD undef = .pointer (some ⟨b,0,none⟩):=by simpa using hp
 have hq':tmps[q]?.getD undef = u:=by simpa using hq
 simp [results,h,hp',hq',asAddr,run_load_msg hx]
def sN:MsgS:=⟨.slice none 0 0,.slice none 0 0,.slice none 0 0,.slice none 0 0⟩
theorem msgR_zero (w:World):MsgR w msgZ sN:=⟨rfl,Row.of_nil 1,Row.of_nil 1,⟨(fun d hd=>by cases hd),Row.of_nil 32⟩,Row.of_nil 4⟩
theorem zero_msg (w:World):(zeroValue 37).run Tryz.prog w = .ok (.agg (msgCells msgZ sN).toArray) w:=by kernel_rfl
theorem build_msg (w:World):(Instr.build 37 #[]).run Tryz.prog w = .ok (MsgV msgZ sN) w:=by kernel_rfl
theorem msgF_zero (w:World):MsgF (w.alloc (.cells (msgCells msgZ sN).toArray 37)) w.heap.size msgZ sN:=
 ⟨msg_alloc w rfl,msgR_zero _,Off.nil _ _,Off.nil _ _,Off.nil _ _,Off.nil _ _⟩
theorem wp_alloc_msg {w:World} {o:Oper} {a:Act} {K:Act→World→Prop} {Q:Exit→Act→World→Prop} (ho:o.op = .alloc 37)
  (h:∀ w',MsgF w' w.heap.size msgZ sN→Below w.heap.size w w'→w'.heap.size = w.heap.size + 1→K (a.put o.dst (.pointer (some ⟨w.heap.size,0,none⟩))) w'):o.wp Tryz.prog a w K Q:=by
 unfold Oper.wp execOp
 have:=h _ (msgF_zero w) ((Below.refl _ w).alloc (Nat.le_refl _) _) (by simp)
 have hz:=zero_msg w
 simp only [ho,Instr.alloc,Sem.run_bind,hz,Result.andThen_ok,Sem.run_pure,newVar,newRow]
 exact this
end Go.Proofs.YtnohglkilpnjhaaGreatDoor
namespace Go.Proofs.YtnohglkilpnjhaaGreatDoor
open Go.RowKit Go.Shelf
attribute [local go_sem] Oper.semAt_some
set_option maxRecDepth 100000
def Hi (L:Nat) (s:MsgS):Prop:=(∀ k,s.vi.ownBlock = some k→L ≤ k)∧(∀ k,s.vb.ownBlock = some k→L ≤ k)∧(∀ k,s.vp.ownBlock = some k→L ≤ k)∧∀ k,s.vm.ownBlock = some k→L ≤ k
end Go.Proofs.YtnohglkilpnjhaaGreatDoor
namespace Go.Proofs.YtnohglkilpnjhaaGreatDoor
open Go.RowKit Go.Shelf
attribute [local go_sem] Oper.semAt_some
set_option maxRecDepth 100000 in
set_option maxHeartbeats 1600000 in
theorem Proof_no (v:Value) (l:List (List UInt8)) (i:Int) (w:World) (hl:Digs w v l) (h:¬ (0 ≤ i∧i < l.length∧l.length ≤ 1024)) (hi1:-9223372036854775808 ≤ i) (hi2:i ≤ 9223372036854775807) :
  Calls Tryz.prog 82 #[v,.int .i64 i] w (ProofPost w ([],1)):=by
 have hle:=hl.le
 unfold maxLen at hle
 obtain ⟨va,vc,hv⟩:=hl.len
 subst hv
 by_cases c1:i < 0
 all_goals by_cases c2:(l.length:Int) ≤ i
 all_goals by_cases c3:(1024:Int) < l.length
 all_goals first | (exfalso;omega) | skip
 all_goals clear h
 all_goals go_enter Tryz.func82,Tryz.ntmps82
 all_goals go_wp2
 all_goals go_ret2
 all_goals exact ⟨_,rfl,OwnD.nil _ _,(Below.refl _ _).alloc (Nat.le_refl _) _⟩
def ProofI (w:World) (i:Nat) (g:Nat) (pre:List (List (List UInt8) × Nat)) (W:World):Prop:=
 ∃ ov,One W w.heap.size (.int .i64 ((i / 2 ^ pre.length:Nat):Int)) 3∧One W (w.heap.size + 1) ov 34∧OwnD W (w.heap.size + 5) ov (proofR (pre.map (·.1)) i)∧(∀ k,ov.ownBlock = some k→k ≠ g)∧Below w.heap.size w W∧w.heap.size + 3 ≤ W.heap.size
set_option maxRecDepth 100000 in
set_option maxHeartbeats 1600000 in
theorem Proof_yes (v:Value) (l:List (List UInt8)) (i:Nat) (w:World) (hl:Digs w v l) (hi:i < l.length) (hlen:l.length ≤ 1024) (hK:Consts w) :
  Calls Tryz.prog 82 #[v,.int .i64 (i:Int)] w (ProofPost w (proofL l i,0)):=by
 obtain ⟨va,vc,hv⟩:=hl.len
 subst hv
 have c1:¬ (i:Int) < 0:=by omega
 have c2:¬ (l.length:Int) ≤ i:=by omega
 have c3:¬ (1024:Int) < l.length:=by omega
 refine (callsIn_wide (n:=3)).1 ?_
 refine callsIn_of_wp_marks Tryz.func82 rfl trivial ?_ rfl
 simp only [Tryz.ntmps82,List.size_toArray,List.length_cons,List.length_nil,Nat.reduceAdd,Nat.reduceSub,Array.replicate_succ,Array.replicate_zero,List.push_toArray,List.append_toArray,List.nil_append,List.cons_append]
 gi_wp2_with (refine ⟨trivial,?_⟩;gi_at_call 119;refine (callsIn_wide.2 (rows_any _ _ _ _)).mono ?_;rintro e w' ⟨rfl,rfl⟩)
 generalize hW0:((w.alloc _).alloc _).alloc _ = W0
 obtain ⟨hsz,hB0,o1,o2,o3⟩:W0.heap.size = w.heap.size + 3∧Below w.heap.size w W0∧W0.heap[w.heap.size]? = some (.cells #[.int .i64 (i:Int)] 3)∧W0.heap[w.heap.size + 1]? = some (.cells #[.slice none 0 0] 34)∧W0.heap[w.heap.size + 1 + 1]? = some (.cells #[.slice va l.length vc] 34):=by
  subst hW0
  refine ⟨by simp,(((Below.refl _ w).alloc (Nat.le_refl _) _).alloc (by simp) _).alloc (by simp;omega) _,?_,?_,?_⟩
  ·exact (Below.heap_alloc _ _ _ (by simp;omega)).trans ((Below.heap_alloc _ _ _ (by simp)).trans (heap_alloc_new _ _))
  ·refine (Below.heap_alloc _ _ _ (by simp)).trans ?_
   have:=heap_alloc_new (w.alloc (.cells #[.int .i64 (i:Int)] 3)) (.cells #[.slice none 0 0] 34)
   rwa [World.size_alloc] at this
  ·have:=heap_alloc_new ((w.alloc (.cells #[.int .i64 (i:Int)] 3)).alloc (.cells #[.slice none 0 0] 34)) (.cells #[.slice va l.length vc] 34)
   rwa [World.size_alloc,World.size_alloc] at this
 clear hW0
 refine wpIn_rangeFunc_block (F:=Fence.wide) (n:=3) rfl (by omega) (gf:=161) (lb:=#[.pointer (some ⟨w.heap.size + 1 + 1,0,none⟩)]) rfl trivial
  (enters_of Tryz.func161 (by kernel_rfl) rfl)
  (encs:=encR) (It:=fun g pre x W'=>(pre ++ [x]).map (·.1) <+: rowsL l∧OwnD W' (W0.heap.size + 2) (.slice (some ⟨g,0,none⟩) x.1.length x.2) x.1)
  (S:=fun xs=>xs.map (·.1) = rowsL l) (Sp:=fun _=>True) (n0:=w.heap.size) (N:=(rowsL l).length) (by omega)
  (fun W1 hb1 hs1=>by
   have e1:W1.cell? ⟨w.heap.size + 1 + 1,0,none⟩ = some (.slice va l.length vc):=by
    have:=(hb1.block (w.heap.size + 1 + 1) (by omega)).trans o3
    simp [World.cell?,this]
   have hbw:Below w.heap.size w W1:=hB0.trans (hb1.mono (by omega))
   have:=rows_seq 2 (by omega) (w.heap.size + 1 + 1) w.heap.size _ l (by omega) (by omega) W1 w hK rfl hbw e1 (hl.of_new hbw)
   rw [hs1] at this
   exact this)
  (fun _ _=>rfl)
  (ProofI w i)
  (fun _ _ _ _=>False)
  (fun g s A B hg hs hk=>by
   obtain ⟨ov,a1,a2,a3,a4,a5,a6⟩:=hs
   refine ⟨ov,a1.of_block (hk.block _ (by omega) (by constructor <;> omega)),a2.of_block (hk.block _ (by omega) (by constructor <;> omega)),a3.kept (U:=fun _=>True) (fun k hk2=>hk.block _ (a3.lt k hk2).2 ⟨a4 k hk2,by have:=(a3.lt k hk2).1;omega⟩),a4,hk.to_below a5 (by omega) (fun k hk2=>by constructor <;> omega),Nat.le_trans a6 hk.size⟩)
  (fun _ _ _ _ _ _ h _=>h)
  (fun g pre x A B hg hs hk=>⟨hs.1,hs.2.kept (U:=fun _=>True) (fun k hk2=>hk.block _ (hs.2.lt k hk2).2 (by have:=(hs.2.lt k hk2).1;omega))⟩)
  (fun g W' hg hb=>⟨.slice none 0 0,by simpa using (show One W0 _ _ _ from o1).of_block (hb.block _ (by omega)),(show One W0 _ _ _ from o2).of_block (hb.block _ (by omega)),OwnD.nil _ _,(fun k h=>by cases h),hB0.trans (hb.mono (by omega)),by have:=hb.size;omega⟩)
  (fun g x=>{ tmps:=#[.slice va l.length vc,.int .i64 (i:Int),undef,.pointer (some ⟨w.heap.size,0,none⟩),.slice none 0 0,.int .i64 0,.pointer (some ⟨w.heap.size + 1,0,none⟩),.slice (some ⟨g,0,none⟩) x.1.length x.2,undef,.int .i64 (i:Int),
   .bool false,.bool false,.int .i64 (i:Int),.slice va l.length vc,.int .i64 (l.length:Int),.bool false,.bool false,.bool false,.slice va l.length vc,.int .i64 (l.length:Int),.bool false,.bool false,.slice va l.length vc,
   .func (.func 161) #[] #[.pointer (some ⟨w.heap.size + 1 + 1,0,none⟩)],.slice (some ⟨g,0,none⟩) x.1.length x.2,undef,undef,undef,undef,undef,undef,undef,undef,undef,undef,undef,undef,undef,undef,undef,undef,undef,undef,undef,undef,undef],defers:=[] }) ?assign ?body ?done ?stop
 case assign=>
  intro l g x W K hK
  gi_wp2
  exact hK
 case body=>
  rintro l' g pre ⟨x,cap⟩ W hg ⟨ov,q1,q2,q3,q4,q5,q6⟩ ⟨hpre,ho⟩ _ hW2
  dsimp only at ho
  have hmem:x ∈ rowsL l:=hpre.subset (by simp)
  obtain ⟨p1,p2,_⟩:=rows_at l.length l i (Nat.le_refl _) hi hl.1 (pre.map (·.1)) x (by simpa using hpre)
  simp only [List.length_map] at p1
  have hlen12:(rowsL l).length ≤ 11:=rowsL_len l 10 (by simpa using hlen)
  have hpl:pre.length ≤ 11:=by have:=hpre.length_le;simp at this;omega
  have hol:=proofR_len (pre.map (·.1)) i
  simp only [List.length_map] at hol
  have hsn:=proofR_snoc (pre.map (·.1)) x i
  have hnx:i / 2 ^ (pre ++ [(x,cap)]).length = i / 2 ^ pre.length / 2:=by
   rw [List.length_append,List.length_singleton,Nat.pow_succ,Nat.div_div_eq_div_mul]
  have hmap:(pre ++ [(x,cap)]).map (·.1) = pre.map (·.1) ++ [x]:=by simp
  rw [← hmap] at hsn
  simp only [List.length_map] at hsn
  have HN:=Lib.hid hnx
  have HS:=Lib.hid hsn
  have hbl:g < W.heap.size:=by
   have:=(ho.lt g rfl).2;exact this
  clear hsn hnx hmap hpre hmem hlen12
  generalize i / 2 ^ pre.length = k at *
  generalize proofR (pre.map (·.1)) i = out at *
  have qc1:=q1.cell
  have qf1:=q1.free
  have qc2:=q2.cell
  have qf2:=q2.free
  have hx1:1 ≤ 3 - 1 - 1:=by omega
  by_cases hz:0 ≤ besideZ x.length k
  ·have hbs:=hz
   have hlt1:(1:Int) < x.length:=by
    unfold besideZ at hz
    split at hz
    ·omega
    ·split at hz <;> omega
   have hb1:besideZ x.length k < x.length:=by
    unfold besideZ
    split
    ·omega
    ·split <;> omega
   have hst:stepP x k = [x.getD (besideZ x.length k).toNat []]:=by unfold stepP;rw [if_pos hz]
   have HT:=Lib.hid hst
   have hat:=ho.digs.digAt0 (i:=(besideZ x.length k).toNat) (by omega)
   have hlx:x.length ≤ 1024:=by omega
   clear hst
   generalize x.getD (besideZ x.length k).toNat [] = d at *
   have hbd:=beside_any x.length k
   generalize besideZ x.length k = at_ at *
   gi_wp2_with (refine ⟨trivial,?_⟩;gi_at_call 110;refine (CallsIn.inRound l' (callsIn_wide.2 (hbd _ p1 (by omega)))).mono ?_;rintro e w' ⟨rfl,rfl⟩)
   have hcov:∀ w2,Grew w' w2→w2.cell? ⟨w.heap.size + 1,0,none⟩ = some ov:=fun w2 h=>(q2.of_new h).cell
   refine wpIn_region_late (ro:=some l') (C:=Grew w') 5 ov (by kernel_rfl) rfl rfl rfl (by kernel_rfl) (by kernel_rfl) (by kernel_rfl) (Grew.start _) (fun w2 h2=>?_) (fun _ _ _ h=>h) ?_
   ·have:=hcov w2 h2
    go_simp
   simp only [List.take_succ_cons,List.take_zero,List.drop_succ_cons,List.drop_zero]
   go_simp
   repeat (first
    | (go_big_quiet_want;(with_reducible apply quiet_load_at (ty:=31) (x:=.tmp _));rfl;rfl;assumption;go_simp;go_big_quiet_on)
    | (go_big_quiet_want;apply quiet_val;(intro w' hw';go_simp;first | done | rfl);go_simp;go_big_quiet_on)
    | (go_big_quiet_skip))
   refine wpQuiet_nil ?_
   intro w5 hw5
   refine Late.mk ?_
   refine wp_buildDigs 1 _ [d] rfl rfl (by simp) (by simp) (fun y hy=>by simp at hy;rw [hy];exact hat.1) (by simp only [List.map_toArray,List.map_cons,List.map_nil];rfl) ?_
   intro w7 ho7 hb7 hs7
   have hb57:Below w'.heap.size w' w7:=below_next hw5 hb7
   refine ⟨hb57,?_⟩
   have q3':=q3.of_new hb57
   refine wpListIn_of_wp rfl (fun c hc=>by cases hc) (wp_appD (.tmp 36) (.tmp 41) rfl (w.heap.size + 5) ov out rfl q3' _ [d] rfl ho7.digs (by simp;omega) (by have:=hb57.size;omega) ?_)
   intro v8 w8 ho8 hg8 hv8
   have q1':=(q1.of_new hb57).grown hg8 (fun e=>by have:=(q3'.lt _ e.symm).1;omega)
   have q2':=(q2.of_new hb57).grown hg8 (fun e=>by have:=(q3'.lt _ e.symm).1;omega)
   have qc1':=q1'.cell
   have qf1':=q1'.free
   have qc2':=q2'.cell
   have qf2':=q2'.free
   have hv8':∀ k,v8.ownBlock = some k→k ≠ g:=fun k e=>by
    rcases hv8 k e with h | h
    ·exact q4 k h
    ·have:=hb57.size;omega
   have hk8:Kept (fun k=>(k = g∨k < w.heap.size)∨k = W0.heap.size∨k = W0.heap.size + 1) w' w8:=
    ((Kept.refl _ w').below hb57).grown hg8 (fun r e=>by have:=(q3'.lt r e).1;have:=q4 r e;omega)
   have hB8:Below w.heap.size w w8:=(below_next' q5 hb57).grown hg8 (by have:=hb57.size;omega) (fun j hj=>by have:=(q3'.lt j hj).1;omega)
   have hsz8:w'.heap.size ≤ w8.heap.size:=hk8.size
   rw [wF_some]
   clear hg8 hv8 ho7 hb7 hw5 qc1 qc2 qf1 qf2 hcov q3'
   have hend:proofR ((pre ++ [(x,cap)]).map (·.1)) i = out ++ [d]:=by rw [HS.out,HT.out]
   have HE:=Lib.hid hend
   clear hend
   generalize out ++ [d] = out8 at *
   obtain ⟨sa,sc,hv⟩:=ho8.digs.len
   subst hv
   gi_wp2
   refine ⟨?_,_,?_,?_,?_,hv8',?_,?_⟩
   ·exact ((by simpa [hsz] using hk8:Kept _ _ _).setCell (p:=⟨w.heap.size + 1,0,none⟩) (by simp;omega) _).setCell (p:=⟨w.heap.size,0,none⟩) (by simp;omega) _
   ·rw [HN.out];simpa using (q1'.other (p:=⟨w.heap.size + 1,0,none⟩) (by simp) _).set _
   ·exact (q2'.set _).other (by simp) _
   ·rw [HE.out]
    exact ho8.kept (U:=fun _=>True) (fun k hk=>by have:=(ho8.lt k hk).1;rw [Below.heap_setCell _ _ _ _ (by simp;omega),Below.heap_setCell _ _ _ _ (by simp;omega)])
   ·exact (hB8.setCell (p:=⟨w.heap.size + 1,0,none⟩) (by simp) _).setCell (p:=⟨w.heap.size,0,none⟩) (Nat.le_refl _) _
   ·simp [World.setCell];omega
  ·have hst:stepP x k = []:=by unfold stepP;rw [if_neg hz]
   have HT:=Lib.hid hst
   have hlx:x.length ≤ 1024:=by omega
   clear hst
   have hbd:=beside_any x.length k
   have hz':¬ (0 ≤ besideZ x.length k):=hz
   generalize besideZ x.length k = at_ at *
   gi_wp2_with (refine ⟨trivial,?_⟩;gi_at_call 110;refine (CallsIn.inRound l' (callsIn_wide.2 (hbd _ p1 (by omega)))).mono ?_;rintro e w' ⟨rfl,rfl⟩)
   have hend:proofR ((pre ++ [(x,cap)]).map (·.1)) i = out:=by rw [HS.out,HT.out,List.append_nil]
   refine ⟨(Kept.refl _ _).setCell (p:=⟨w.heap.size,0,none⟩) (by simp;omega) _,_,?_,?_,?_,q4,?_,?_⟩
   ·rw [HN.out];simpa using q1.set _
   ·exact q2.other (by simp) _
   ·rw [hend]
    exact q3.kept (U:=fun _=>True) (fun k hk=>by have:=(q3.lt k hk).1;rw [Below.heap_setCell _ _ _ _ (by simp;omega)])
   ·exact q5.setCell (p:=⟨w.heap.size,0,none⟩) (Nat.le_refl _) _
   ·simp [World.setCell];omega
 case done=>
  rintro g xs W hg hxs ⟨ov,q1,q2,q3,q4,q5,q6⟩ hW2 hD
  have qc2:=q2.cell
  obtain ⟨sa,sc,hv⟩:=q3.digs.len
  have hend:proofR (xs.map (·.1)) i = proofL l i:=by rw [hxs];rfl
  have HE:=Lib.hid hend
  clear hend hxs
  generalize proofR (xs.map (·.1)) i = out at *
  subst hv
  gi_wp2
  refine ⟨by simp,.inl ⟨_,_,rfl,run_takeDeferred hD,?_⟩⟩
  refine ⟨_,results_tmp2 rfl _ _ _,_,rfl,?_,?_⟩
  ·rw [← HE.out]
   refine OwnD.mono (base:=w.heap.size + 5) ?_ (by omega)
   exact q3.kept (U:=fun _=>True) (fun k hk=>by have:=(q3.lt k hk).1;exact World.putObj_heap_other (by omega))
  ·exact q5.grown (grownBy_putObj' _ _ _) q5.size (fun k e=>by cases e;omega)
 case stop=>
  rintro g c pre W _ _ h _ _
  exact h.elim
theorem Proof_any (v:Value) (l:List (List UInt8)) (i:Int) (w:World) (hl:Digs w v l) (hi1:-9223372036854775808 ≤ i) (hi2:i ≤ 9223372036854775807) (hK:Consts w) :
  Calls Tryz.prog 82 #[v,.int .i64 i] w (ProofPost w (proofE l i)):=by
 unfold proofE
 by_cases h:0 ≤ i∧i < l.length∧l.length ≤ 1024
 ·rw [if_pos h]
  obtain ⟨j,rfl⟩:∃ j:Nat,i = (j:Int):=⟨i.toNat,by omega⟩
  exact Proof_yes v l j w hl (by omega) (by omega) hK
 ·rw [if_neg h]
  exact Proof_no v l i w hl h hi1 hi2
end Go.Proofs.YtnohglkilpnjhaaGreatDoor
namespace Go.Proofs.YtnohglkilpnjhaaGreatDoor
open Go.RowKit
set_option maxRecDepth 100000
theorem wwithin_any (n lo hi:Int) (w:World):Calls Tryz.prog 128 #[.int .i64 n,.int .i64 lo,.int .i64 hi] w fun e w'=>e = .returned (.bool (withinB n lo hi))∧w = w':=by
 go_enter Tryz.func128,Tryz.ntmps128
 by_cases h1:lo ≤ n
 ·have e:withinB n lo hi = decide (n ≤ hi):=by simp [withinB,h1]
  rw [e]
  clear e
  go_wp2
  go_ret
  exact ⟨rfl,rfl⟩
 ·have e:withinB n lo hi = false:=by simp [withinB,h1]
  rw [e]
  clear e
  go_wp2
  go_ret
  exact ⟨rfl,rfl⟩
theorem ints_laid (w:World) (l:List Int) (e:TypeId) (hl:l.length ≤ maxLen):Ints (w.alloc (.cells (l.map I64).toArray e)) (.slice (some ⟨w.heap.size,0,none⟩) l.length l.length) l:=by
 refine ⟨by simp,_,l.length,rfl,Nat.le_refl _,hl,(fun h=>by cases h),fun _=>⟨w.heap.size,0,rfl,by simp,fun j hj=>?_⟩⟩
 rw [Nat.zero_add]
 simp only [World.cell?,heap_alloc_new w _]
 simp
def IntsPost (w:World) (l:List Int) (e:Ending) (w':World):Prop:=∃ v,e = .returned v∧Ints w' v l∧Below w.heap.size w w'
theorem intsPost_lit (w:World) (l:List Int) (n:Nat) (cs:Array Value) (e:TypeId) (hn:l.length = n) (hl:n ≤ 8) (hc:cs = (l.map I64).toArray):IntsPost w l (.returned (.slice (some ⟨w.heap.size,0,none⟩) n n)) (w.alloc (.cells cs e)):=by
 subst hn
 subst hc
 exact ⟨_,rfl,ints_laid w l e (by unfold maxLen;omega),(Below.refl _ _).alloc (Nat.le_refl _) _⟩
set_option maxHeartbeats 3200000 in
theorem has_any (k:Int) (w:World):Calls Tryz.prog 78 #[.int .i64 k] w (IntsPost w (hasL k)):=by
 rcases kinds k with h | h | h | h | h | h | h | h | h | h | h | h
 case inr.inr.inr.inr.inr.inr.inr.inr.inr.inr.inr=>
  rw [hasL_none h]
  have t1:(k == 1) = false:=beq_eq_false_iff_ne.2 (by omega)
  have t2:(k == 2) = false:=beq_eq_false_iff_ne.2 (by omega)
  have t3:(k == 3) = false:=beq_eq_false_iff_ne.2 (by omega)
  have t4:(k == 4) = false:=beq_eq_false_iff_ne.2 (by omega)
  have t5:(k == 5) = false:=beq_eq_false_iff_ne.2 (by omega)
  have t6:(k == 6) = false:=beq_eq_false_iff_ne.2 (by omega)
  have t7:(k == 7) = false:=beq_eq_false_iff_ne.2 (by omega)
  have t8:(k == 8) = false:=beq_eq_false_iff_ne.2 (by omega)
  have t9:(k == 9) = false:=beq_eq_false_iff_ne.2 (by omega)
  have t10:(k == 10) = false:=beq_eq_false_iff_ne.2 (by omega)
  have t11:(k == 11) = false:=beq_eq_false_iff_ne.2 (by omega)
  clear h
  go_enter Tryz.func78,Tryz.ntmps78
  go_wp2
  go_ret
  exact ⟨_,rfl,Row.of_nil 1,Below.refl _ _⟩
 all_goals
  subst h
  go_enter Tryz.func78,Tryz.ntmps78
  go_wp2
  go_ret
  exact intsPost_lit w _ _ _ _ rfl (by decide) rfl
set_option maxHeartbeats 1600000 in
theorem most_any (k:Int) (w:World):Calls Tryz.prog 131 #[.int .i64 k] w fun e w'=>e = .returned (.int .i64 (mostL k))∧w = w':=by
 by_cases h1:k = 1
 ·subst h1
  go_enter Tryz.func131,Tryz.ntmps131
  go_wp2
  go_ret
  exact ⟨rfl,rfl⟩
 by_cases h4:k = 4
 ·subst h4
  go_enter Tryz.func131,Tryz.ntmps131
  go_wp2
  go_ret
  exact ⟨rfl,rfl⟩
 by_cases h10:k = 10
 ·subst h10
  go_enter Tryz.func131,Tryz.ntmps131
  go_wp2
  go_ret
  exact ⟨rfl,rfl⟩
 have e:mostL k = 0:=by simp [mostL,h1,h4,h10]
 rw [e]
 have t1:(k == 1) = false:=beq_eq_false_iff_ne.2 h1
 have t4:(k == 4) = false:=beq_eq_false_iff_ne.2 h4
 have t10:(k == 10) = false:=beq_eq_false_iff_ne.2 h10
 clear h1 h4 h10 e
 go_enter Tryz.func131,Tryz.ntmps131
 go_wp2
 go_ret
 exact ⟨rfl,rfl⟩
theorem IsId_any (n:Int) (w:World):Calls Tryz.prog 87 #[.int .i64 n] w fun e w'=>e = .returned (.bool (idB n))∧w = w':=by
 go_enter Tryz.func87,Tryz.ntmps87
 by_cases h1:1 ≤ n
 ·have e:idB n = decide (n ≤ 65536):=by simp [idB,withinB,h1]
  rw [e]
  clear e
  go_wp2
  go_ret
  exact ⟨rfl,rfl⟩
 ·have e:idB n = false:=by simp [idB,withinB,h1]
  rw [e]
  clear e
  go_wp2
  go_ret
  exact ⟨rfl,rfl⟩
def IdxPost (w:World) (b:Bool) (e:Ending) (w':World):Prop:=∃ r:Int,e = .returned (.int .i64 r)∧decide (0 ≤ r) = b∧Below w.heap.size w w'
theorem drop_int {l:List Int} {k:Nat} (h:k < l.length):l.drop k = l.getD k 0 :: l.drop (k + 1):=by
 rw [List.drop_eq_getElem_cons h];simp [List.getD,List.getElem?_eq_getElem h]
theorem drop_mem {l:List MemL} {k:Nat} (h:k < l.length):l.drop k = l.getD k mem0 :: l.drop (k + 1):=by
 rw [List.drop_eq_getElem_cons h];simp [List.getD,List.getElem?_eq_getElem h]
set_option maxHeartbeats 1600000 in
theorem Index_any (v:Value) (l:List Int) (x:Int) (w:World) (hl:Ints w v l):Calls Tryz.prog 126 #[v,.int .i64 x] w (IdxPost w (decide (x ∈ l))):=by
 obtain ⟨a,c,hv⟩:=hl.len
 subst hv
 have hle:=hl.le
 have HL:=Lib.hid hl
 clear hl
 go_enter Tryz.func126,Tryz.ntmps126
 go_wp2
 go_loop [5,8] (fun _ iv=>∃ k:Nat,k ≤ l.length∧iv = .int .i64 k∧(x ∈ l↔x ∈ l.drop k)) (fun _ iv=>l.length - (intOf iv).toNat)
 case atStart=>exact ⟨0,Nat.zero_le _,rfl,Iff.rfl⟩
 case round=>
  obtain ⟨k,hk,rfl,hm⟩:=hrel
  by_cases hlt:k < l.length
  ·obtain ⟨b,off,c',hv,hbl,hc⟩:=HL.out.cell (by omega)
   obtain ⟨rfl,rfl⟩:a = some ⟨b,off,none⟩∧c = c':=by cases hv;exact ⟨rfl,rfl⟩
   replace hc:=hc k hlt
   rw [drop_int hlt] at hm
   generalize l.getD k 0 = y at *
   have HM:=Lib.hid hm
   clear hv hm
   by_cases hy:x = y
   ·have t:(x == y) = true:=beq_iff_eq.2 hy
    have HY:=Lib.hid hy
    clear hy
    go_wp2
    go_ret
    exact ⟨(k:Int),rfl,by rw [decide_eq_true (show (0:Int) ≤ (k:Int) by omega),decide_eq_true (HM.out.2 (by rw [HY.out];exact List.mem_cons_self))],Below.refl _ _⟩
   ·have t:(x == y) = false:=beq_eq_false_iff_ne.2 hy
    have HY:=Lib.hid hy
    clear hy
    go_wp2
    go_round
    case rel=>exact ⟨k + 1,by omega,by go_num,HM.out.trans ⟨fun h=>by rcases List.mem_cons.1 h with h | h;exact absurd h HY.out;exact h,fun h=>List.mem_cons_of_mem _ h⟩⟩
    case measure=>simp [intOf];omega
  ·rw [List.drop_of_length_le (by omega)] at hm
   have HM:=Lib.hid hm
   clear hm
   go_wp2
   go_ret
   exact ⟨-1,rfl,by rw [decide_eq_false (by omega),decide_eq_false (fun h=>by have:=HM.out.1 h;simp at this)],Below.refl _ _⟩
theorem Contains_any (v:Value) (l:List Int) (x:Int) (w:World) (hl:Ints w v l):Calls Tryz.prog 79 #[v,.int .i64 x] w fun e w'=>e = .returned (.bool (decide (x ∈ l)))∧Below w.heap.size w w':=by
 obtain ⟨B,hB⟩:∃ B,decide (x ∈ l) = B:=⟨_,rfl⟩
 have hI:=Index_any v l x w hl
 rw [hB] at hI ⊢
 clear hB
 go_enter Tryz.func79,Tryz.ntmps79
 go_wp2_with fail
 refine hI.mono ?_
 rintro e w1 ⟨r,rfl,hr,hb⟩
 have HR:=Lib.hid hr
 clear hr
 go_wp2
 go_ret
 exact ⟨ret_bool HR.out,hb⟩
end Go.Proofs.YtnohglkilpnjhaaGreatDoor
