/- Lemmas that the statement of this claim leans on; their own comments are taken out, for the size of the claim. No condition beyond what each lemma states. -/
import Derived.Test.YtnohglkilpnjhaaGreatDoorSc15
import Derived.Below
import Derived.IntWalk
set_option linter.unusedVariables false
set_option linter.unusedSimpArgs false
set_option linter.unusedSectionVars false
namespace Go.Proofs.YtnohglkilpnjhaaGreatDoor
structure PlaceT (T:TabL) (d:List UInt8) (i:Nat) (is:Bool):Prop where
 le:i ≤ T.length
 low:∀ x ∈ T.take i,kD x < (natL d:Int)
 yes:is = true→∃ ps,T[i]? = some (d,ps)
 no:is = false→∀ x ∈ T.drop i,(natL d:Int) < kD x
theorem split_at {α:Type} {T:List α} {i:Nat} {x:α} (h:T[i]? = some x):T = T.take i ++ x :: T.drop (i + 1):=by
 have hlt:i < T.length:=(List.getElem?_eq_some_iff.1 h).1
 have e:T[i]'hlt = x:=(List.getElem?_eq_some_iff.1 h).2
 rw [← e,← List.drop_eq_getElem_cons,List.take_append_drop]
theorem set_split {α:Type} {T:List α} {i:Nat} {x:α} (h:T[i]? = some x) (y:α):T.set i y = T.take i ++ y :: T.drop (i + 1):=by
 have hlt:i < T.length:=(List.getElem?_eq_some_iff.1 h).1
 rw [List.set_eq_take_append_cons_drop,if_pos hlt]
theorem PlaceT.is {T:TabL} {d:List UInt8} {i:Nat} (h:PlaceT T d i true) (hr:Rising kD T) :
  ∃ ps,T[i]? = some (d,ps)∧peersT d T = ps∧(∀ q,insK kD (d,q) T = T.set i (d,q))∧delK kD (natL d) T = T.take i ++ T.drop (i + 1)∧getK kD (natL d) T = some (d,ps):=by
 obtain ⟨ps,hi⟩:=h.yes rfl
 have hs:=split_at hi
 have hr2:=hr
 rw [hs] at hr2
 have hg:getK kD (natL d) T = some (d,ps):=(getK_some hr).2 ⟨List.mem_of_getElem? hi,rfl⟩
 refine ⟨ps,hi,?_,fun q=>?_,?_,hg⟩
 ·unfold peersT;rw [hg];rfl
 ·have:=insK_mid (f:=kD) (x:=(d,q)) hr2 rfl
  rw [← hs] at this
  rw [this,set_split hi]
 ·have:=delK_mid (f:=kD) hr2
  rw [← hs] at this
  exact this
theorem PlaceT.not {T:TabL} {d:List UInt8} {i:Nat} (h:PlaceT T d i false) (hr:Rising kD T) :
  peersT d T = []∧(∀ q,insK kD (d,q) T = T.take i ++ (d,q) :: T.drop i)∧getK kD (natL d) T = none:=by
 have hno:∀ y ∈ T,kD y ≠ (natL d:Int):=fun y hy=>by
  rw [← List.take_append_drop i T] at hy
  rcases List.mem_append.1 hy with hy | hy
  ·have:=h.low y hy;omega
  ·have:=h.no rfl y hy;omega
 have hg:getK kD (natL d) T = none:=getK_none.2 hno
 refine ⟨by unfold peersT;rw [hg];rfl,fun q=>?_,hg⟩
 have hr2:Rising kD (T.take i ++ (d,q) :: T.drop i):=by
  rw [← List.take_append_drop i T] at hr
  obtain ⟨h1,h2,h3⟩:=List.pairwise_append.1 hr
  refine List.pairwise_append.2 ⟨h1,List.pairwise_cons.2 ⟨fun b hb=>h.no rfl b hb,h2⟩,fun a ha b hb=>?_⟩
  rcases List.mem_cons.1 hb with rfl | hb
  ·exact h.low a ha
  ·exact h3 a ha b hb
 refine (hr.ins _).ext hr2 fun y=>?_
 rw [mem_insK hr]
 have hm:y ∈ T↔y ∈ T.take i∨y ∈ T.drop i:=by rw [← List.mem_append,List.take_append_drop]
 simp only [List.mem_append,List.mem_cons,hm]
 constructor
 ·rintro (h1 | ⟨h1 | h1,h2⟩)
  ·exact .inr (.inl h1)
  ·exact .inl h1
  ·exact .inr (.inr h1)
 ·rintro (h1 | h1 | h1)
  ·exact .inr ⟨.inl h1,fun e=>hno y (hm.2 (.inl h1)) e⟩
  ·exact .inl h1
  ·exact .inr ⟨.inr h1,fun e=>hno y (hm.2 (.inr h1)) e⟩
def mergeP (p:PeerL) (l:List PeerL):PeerL:=l.foldl (fun p q=>if q.id = p.id then ⟨p.id,max p.till q.till,p.seed || q.seed⟩ else p) p
theorem mergeP_snoc (p:PeerL) (l:List PeerL) (q:PeerL):mergeP p (l ++ [q]) = if q.id = (mergeP p l).id then ⟨(mergeP p l).id,max (mergeP p l).till q.till,(mergeP p l).seed || q.seed⟩ else mergeP p l:=by
 unfold mergeP
 rw [List.foldl_append];rfl
theorem mergeP_none (l:List PeerL):∀ p:PeerL,(∀ q ∈ l,q.id ≠ p.id)→mergeP p l = p:=by
 induction l with
 | nil=>intro p _;rfl
 | cons q l ih=>
  intro p h
  show mergeP (if q.id = p.id then _ else p) l = p
  rw [if_neg (h q (by simp))]
  exact ih p fun z hz=>h z (by simp [hz])
theorem mergeP_old {l:List PeerL} (h:Rising PeerL.id l) {id till:Int} {seed:Bool} (ht:0 ≤ till):mergeP ⟨id,till,seed⟩ l = ⟨id,max (oldP id l).till till,seed || (oldP id l).seed⟩:=by
 cases e:getK PeerL.id id l with
 | none=>
  have hn:=getK_none.1 e
  rw [mergeP_none l _ hn]
  unfold oldP
  rw [e]
  show _ = (⟨id,max 0 till,seed || false⟩:PeerL)
  rw [Bool.or_false,show max 0 till = till by omega]
 | some y=>
  obtain ⟨h1,h2⟩:=(getK_some h).1 e
  obtain ⟨A,B,rfl⟩:=List.append_of_mem h1
  obtain ⟨g1,g2,g3,g4,g5⟩:=h.mid
  unfold oldP
  rw [e]
  unfold mergeP
  rw [List.foldl_append]
  have e1:=mergeP_none A ⟨id,till,seed⟩ (fun q hq=>by have:=g1 q hq;show q.id ≠ id;omega)
  unfold mergeP at e1
  rw [e1]
  show mergeP (if y.id = id then _ else _) B = _
  rw [if_pos h2,mergeP_none B _ (fun q hq=>by have:=g2 q hq;show q.id ≠ id;omega)]
  show (⟨id,max till y.till,seed || y.seed⟩:PeerL) = ⟨id,max y.till till,seed || y.seed⟩
  rw [Int.max_comm]
def putW (p:PeerL) (A:List PeerL):Bool:=A.any (fun x=>decide (p.id ≤ x.id))
def outW (p:PeerL) (A:List PeerL):List PeerL:=if putW p A then insK PeerL.id p A else A
theorem insK_low {p:PeerL}:∀ {A:List PeerL},(∀ x ∈ A,x.id < p.id)→insK PeerL.id p A = A ++ [p]
 | [],_=>rfl
 | y :: A,h=>by
  show (if y.id < p.id then y :: insK PeerL.id p A else _) = _
  rw [if_pos (h y (by simp)),insK_low fun x hx=>h x (by simp [hx])];rfl
theorem putW_snoc (p:PeerL) (A:List PeerL) (x:PeerL):putW p (A ++ [x]) = (putW p A || decide (p.id ≤ x.id)):=by unfold putW;rw [List.any_append];simp
theorem putW_no {p:PeerL} {A:List PeerL} (h:putW p A = false):∀ x ∈ A,x.id < p.id:=fun x hx=>by
 have:=List.any_eq_false.1 h x hx
 simp only [decide_eq_true_eq] at this
 omega
theorem outW_snoc {p:PeerL} {A:List PeerL} {x:PeerL} (h:Rising PeerL.id (A ++ [x])) :
  outW p (A ++ [x]) = (if putW p A = false∧p.id ≤ x.id then outW p A ++ [p] else outW p A) ++ (if x.id = p.id then [] else [x]):=by
 obtain ⟨h1,_,h3⟩:=List.pairwise_append.1 h
 have hlast:∀ a ∈ A,a.id < x.id:=fun a ha=>h3 a ha x (by simp)
 unfold outW
 rw [putW_snoc]
 cases hp:putW p A with
 | false=>
  have hlow:=putW_no hp
  by_cases hx:p.id ≤ x.id
  ·have e1:(insK PeerL.id p (A ++ [x])) = A ++ p :: (if x.id = p.id then [] else [x]):=by
    clear hp h h1 h3 hlast
    induction A with
    | nil=>
     show (if x.id < p.id then _ else if x.id = p.id then p :: [] else p :: x :: []) = _
     rw [if_neg (by omega)]
     split <;> rfl
    | cons y A ih=>
     show (if y.id < p.id then y :: insK PeerL.id p (A ++ [x]) else _) = _
     rw [if_pos (hlow y (by simp)),ih fun z hz=>hlow z (by simp [hz])];rfl
   simp [hx,e1]
  ·have hne:x.id ≠ p.id:=by omega
   simp [hx,hne]
 | true=>
  obtain ⟨a,ha,hpa⟩:=List.any_eq_true.1 hp
  have hpa':p.id ≤ a.id:=by simpa using hpa
  have hax:=hlast a ha
  have hne:x.id ≠ p.id:=by omega
  have e1:insK PeerL.id p (A ++ [x]) = insK PeerL.id p A ++ [x]:=by
   clear hp h h1 h3 hlast
   induction A with
   | nil=>cases ha
   | cons y A ih=>
    show (if y.id < p.id then y :: insK PeerL.id p (A ++ [x]) else if y.id = p.id then p :: (A ++ [x]) else p :: y :: (A ++ [x])) = (if y.id < p.id then y :: insK PeerL.id p A else if y.id = p.id then p :: A else p :: y :: A) ++ [x]
    by_cases h1:y.id < p.id
    ·rw [if_pos h1,if_pos h1]
     rcases List.mem_cons.1 ha with rfl | ha
     ·omega
     ·rw [ih ha];rfl
    ·rw [if_neg h1,if_neg h1]
     split <;> rfl
  simp [hne,e1]
theorem outW_end {p:PeerL} {l:List PeerL} (h:Rising PeerL.id l):(if putW p l then outW p l else outW p l ++ [p]) = insK PeerL.id p l:=by
 unfold outW
 cases hp:putW p l with
 | true=>rfl
 | false=>exact (insK_low (putW_no hp)).symm
theorem outW_len {p:PeerL} {A:List PeerL} (h:Rising PeerL.id A):(outW p A).length ≤ A.length + 1:=by
 unfold outW
 split
 ·rw [insK_len h];split <;> omega
 ·omega
theorem pickL_snoc {α:Type} (goes:α→α→Bool) (l:List α):∀ (m y:α),pickL goes (l ++ [y]) m = if goes y (pickL goes l m) then y else pickL goes l m:=by
 induction l with
 | nil=>intro m y;rfl
 | cons x l ih=>intro m y;exact ih _ y
theorem firstP_snoc {A:List PeerL} (h:A ≠ []) (y:PeerL):firstP (A ++ [y]) = if goesP y (firstP A) then y else firstP A:=by
 cases A with
 | nil=>exact absurd rfl h
 | cons x A=>exact pickL_snoc _ A x y
theorem firstT_snoc {A:TabL} (h:A ≠ []) (y:List UInt8 × List PeerL):firstT (A ++ [y]) = if goesT y (firstT A) then y else firstT A:=by
 cases A with
 | nil=>exact absurd rfl h
 | cons x A=>exact pickL_snoc _ A x y
def AtP (l:List PeerL) (k a:Nat):Prop:=a < k∧k ≤ l.length∧l[a]? = some (firstP (l.take k))
theorem AtP.start {l:List PeerL} (h:0 < l.length):AtP l 1 0:=by
 cases l with
 | nil=>simp at h
 | cons x l=>exact ⟨by decide,by simp,rfl⟩
theorem take_snoc_at {α:Type} {l:List α} {k:Nat} {y:α} (hy:l[k]? = some y):l.take (k + 1) = l.take k ++ [y]:=by rw [List.take_add_one,hy];rfl
theorem AtP.step {l:List PeerL} {k a:Nat} (h:AtP l k a) {x y:PeerL} (hx:l[a]? = some x) (hy:l[k]? = some y) :
  AtP l (k + 1) (if y.till < x.till∨(y.till = x.till∧x.id < y.id) then k else a):=by
 obtain ⟨h1,h2,h3⟩:=h
 have hk:k < l.length:=(List.getElem?_eq_some_iff.1 hy).1
 have hx2:firstP (l.take k) = x:=by rw [hx] at h3;exact (Option.some.inj h3).symm
 have hne:l.take k ≠ []:=fun e=>by have:=congrArg List.length e;rw [List.length_take,List.length_nil] at this;omega
 have hf:firstP (l.take (k + 1)) = if y.till < x.till∨(y.till = x.till∧x.id < y.id) then y else x:=by
  rw [take_snoc_at hy,firstP_snoc hne,hx2]
  by_cases hg:y.till < x.till∨(y.till = x.till∧x.id < y.id)
  ·rw [if_pos hg,if_pos (by simp [goesP,goesK,hg])]
  ·rw [if_neg hg,if_neg (by simp [goesP,goesK];omega)]
 refine ⟨?_,by omega,?_⟩
 ·split <;> omega
 ·rw [hf]
  split
  ·exact hy
  ·exact hx
theorem AtP.cut {l:List PeerL} {a:Nat} (h:AtP l l.length a) (hr:Rising PeerL.id l):l.take a ++ l.drop (a + 1) = delK PeerL.id (firstP l).id l:=by
 obtain ⟨h1,h2,h3⟩:=h
 rw [List.take_length] at h3
 have hs:=split_at h3
 have hr2:=hr
 rw [hs] at hr2
 have:=delK_mid hr2
 rw [← hs] at this
 exact this.symm
theorem lastP_take {l:List PeerL} {k:Nat} {y:PeerL} (hy:l[k]? = some y):lastP (l.take (k + 1)) = max (lastP (l.take k)) y.till:=by rw [take_snoc_at hy,lastP_snoc]
def AtT (T:TabL) (k a:Nat):Prop:=a < k∧k ≤ T.length∧T[a]? = some (firstT (T.take k))
theorem AtT.start {l:TabL} (h:0 < l.length):AtT l 1 0:=by
 cases l with
 | nil=>simp at h
 | cons x l=>exact ⟨by decide,by simp,rfl⟩
theorem AtT.step {T:TabL} (hr:Rising kD T) {k a:Nat} (h:AtT T k a) {x y:List UInt8 × List PeerL} (hx:T[a]? = some x) (hy:T[k]? = some y) :
  AtT T (k + 1) (if lastP y.2 ≤ lastP x.2 then k else a):=by
 obtain ⟨h1,h2,h3⟩:=h
 have hk:k < T.length:=(List.getElem?_eq_some_iff.1 hy).1
 have hx2:firstT (T.take k) = x:=by rw [hx] at h3;exact (Option.some.inj h3).symm
 have hne:T.take k ≠ []:=fun e=>by have:=congrArg List.length e;rw [List.length_take,List.length_nil] at this;omega
 have hxy:kD x < kD y:=by
  have hxt:x ∈ T.take k:=by
   have:(T.take k)[a]? = some x:=by rw [List.getElem?_take,if_pos h1];exact hx
   exact List.mem_of_getElem? this
  rw [split_at hy] at hr
  exact hr.mid.1 x hxt
 have hf:firstT (T.take (k + 1)) = if lastP y.2 ≤ lastP x.2 then y else x:=by
  rw [take_snoc_at hy,firstT_snoc hne,hx2]
  by_cases hg:lastP y.2 ≤ lastP x.2
  ·rw [if_pos hg,if_pos (by simp [goesT,goesK];omega)]
  ·rw [if_neg hg,if_neg (by simp [goesT,goesK];omega)]
 refine ⟨?_,by omega,?_⟩
 ·split <;> omega
 ·rw [hf]
  split
  ·exact hy
  ·exact hx
theorem AtT.cut {T:TabL} {a:Nat} (h:AtT T T.length a) (hr:Rising kD T):T.take a ++ T.drop (a + 1) = delK kD (kD (firstT T)) T:=by
 obtain ⟨h1,h2,h3⟩:=h
 rw [List.take_length] at h3
 have hs:=split_at h3
 have hr2:=hr
 rw [hs] at hr2
 have:=delK_mid hr2
 rw [← hs] at this
 exact this.symm
end Go.Proofs.YtnohglkilpnjhaaGreatDoor
namespace Go.Proofs.YtnohglkilpnjhaaGreatDoor
open Go.RowKit
set_option maxRecDepth 100000 in
set_option maxHeartbeats 800000 in
theorem RCompare_any (a b:List UInt8) (w:World) (ha:a.length = 32) (hb:b.length = 32) :
  Calls Tryz.prog 106 #[.agg (a.map B8).toArray,.agg (b.map B8).toArray] w fun e w'=>e = .returned (.int .i64 (cmpL a b))∧Below w.heap.size w w':=by
 have HA:=Lib.hid ha
 have HB:=Lib.hid hb
 clear ha hb
 go_enter Tryz.func106,Tryz.ntmps106
 go_wp2
 generalize hW1:(w.alloc _).alloc _ = W1
 obtain ⟨hX,hY,hb1,hz1⟩:Octs W1 w.heap.size 31 a∧Octs W1 (w.heap.size + 1) 31 b∧Below w.heap.size w W1∧w.heap.size + 2 = W1.heap.size:=by
  subst hW1;exact octs_pair w _ a b _ _ rfl rfl
 clear hW1 hz1
 go_loopw [5] (fun iv wr=>∃ k:Nat,k ≤ 32∧iv = .int .i64 k∧cmpL a b = cmpL (a.drop k) (b.drop k)∧Octs wr w.heap.size 31 a∧Octs wr (w.heap.size + 1) 31 b∧Below w.heap.size w wr)
  (fun iv _=>32 - (intOf iv).toNat)
 case atStart=>exact ⟨0,by omega,rfl,by simp,hX,hY,hb1⟩
 case round=>
  clear hX hY hb1
  obtain ⟨k,hk,rfl,hn,hX,hY,hb⟩:=hrel
  by_cases hlt:k < 32
  ·have cx:=hX.cell (j:=k) (by rw [HA.out];exact hlt)
   have cy:=hY.cell (j:=k) (by rw [HB.out];exact hlt)
   rw [cmpL_drop a b k (by rw [HA.out];exact hlt) (by rw [HB.out];exact hlt)] at hn
   obtain ⟨x,ex⟩:∃ x,x = a.getD k 0:=⟨_,rfl⟩
   obtain ⟨y,ey⟩:∃ x,x = b.getD k 0:=⟨_,rfl⟩
   rw [← ex,← ey] at hn
   rw [← ex] at cx
   rw [← ey] at cy
   unfold B8 at cx cy
   have HX:=Lib.hid hX
   have HY:=Lib.hid hY
   have nk:(0:Int) ≤ (k:Int):=by omega
   have jk:(k:Int) < 32:=by omega
   clear ex ey hX hY
   simp only [UInt8.lt_iff_toNat_lt] at hn
   rcases Nat.lt_trichotomy x.toNat y.toNat with q | q | q
   ·rw [if_pos q] at hn
    have t1:(x.toNat:Int) < (y.toNat:Int):=by omega
    have HN:=Lib.hid hn
    clear hn q
    go_wp2
    go_quiet (fail)
    go_wp2
    go_ret
    exact ⟨ret_int (by rw [HN.out]),hb.trans (below_drewn _)⟩
   ·rw [if_neg (by omega),if_neg (by omega)] at hn
    have t1:¬ (x.toNat:Int) < (y.toNat:Int):=by omega
    have t2:¬ (y.toNat:Int) < (x.toNat:Int):=by omega
    have HN:=Lib.hid hn
    clear hn q
    go_wp2
    go_quiet (fail)
    go_wp2
    go_quiet (fail)
    go_wp2
    go_roundw
    case rel=>
     exact ⟨k + 1,by omega,by go_num,HN.out,HX.out.of_block rfl,HY.out.of_block rfl,hb.trans (below_drewn _)⟩
    case measure=>simp [intOf];omega
   ·rw [if_neg (by omega),if_pos q] at hn
    have t1:¬ (x.toNat:Int) < (y.toNat:Int):=by omega
    have t2:(y.toNat:Int) < (x.toNat:Int):=by omega
    have HN:=Lib.hid hn
    clear hn q
    go_wp2
    go_quiet (fail)
    go_wp2
    go_quiet (fail)
    go_wp2
    go_ret
    exact ⟨ret_int (by rw [HN.out]),(hb.trans (below_drewn _)).trans (below_drewn _)⟩
  ·obtain rfl:k = 32:=by omega
   rw [show ((32:Nat):Int) = 32 from rfl]
   have hz:cmpL (a.drop 32) (b.drop 32) = 0:=by
    rw [List.drop_of_length_le (by rw [HA.out];exact Nat.le_refl _),List.drop_of_length_le (by rw [HB.out];exact Nat.le_refl _)];rfl
   rw [hz] at hn
   have HN:=Lib.hid hn
   clear hn hz
   go_wp2
   go_ret
   exact ⟨ret_int (by rw [HN.out]),hb⟩
end Go.Proofs.YtnohglkilpnjhaaGreatDoor
namespace Go.Proofs.YtnohglkilpnjhaaGreatDoor
open Go.RowKit
set_option maxRecDepth 100000
theorem ROf_dig {w:World} {g off:Nat} {x:List UInt8 × Value} (h:ROf.At w g off x):DigAt w g off x.1:=⟨h.1.1,fun j hj=>by
 have h1:=h.2.2 j (by show j < 33;omega)
 rw [h1]
 show (x.1.map B8 ++ [x.2])[j]? = _
 rw [List.getElem?_append_left (by simp [h.1.1];omega)]⟩
theorem ROf_val {w:World} {g off:Nat} {x:List UInt8 × Value} (h:ROf.At w g off x):w.cell? ⟨g,off + 32,none⟩ = some x.2:=by
 have h1:=h.2.2 32 (by show 32 < 33;omega)
 rw [h1]
 show (x.1.map B8 ++ [x.2])[32]? = _
 rw [List.getElem?_append_right (by simp [h.1.1])]
 simp [h.1.1]
theorem RTabP.fst {w:World} {r B:Nat} {many most:Int} {v:Value} {L:RefL} {T:TabL} (h:RTabP w r many most B v L T) {i:Nat} {x:List UInt8 × Value} {y:List UInt8 × List PeerL} (hx:L[i]? = some x) (hy:T[i]? = some y):x.1 = y.1:=by
 have:=congrArg (fun l=>l[i]?) h.keys
 simpa [hx,hy] using this
def PlacePost (T:TabL) (d:List UInt8) (w:World) (e:Ending) (w':World):Prop:=∃ (i:Nat) (is:Bool),e = .returned (.tuple #[.int .i64 (i:Int),.bool is])∧PlaceT T d i is∧Below w.heap.size w w'
set_option maxHeartbeats 3200000 in
theorem RPlace_any (r:Nat) (many most:Int) (B:Nat) (v:Value) (L:RefL) (T:TabL) (d:List UInt8) (w:World) (hR:RTabP w r many most B v L T) (hr:Rising kD T) (hdig:∀ x ∈ T,x.1.length = 32) (hlen:T.length ≤ 100000) (h32:d.length = 32) :
  Calls Tryz.prog 65 #[.pointer (some ⟨r,0,none⟩),.agg (d.map B8).toArray] w (PlacePost T d w):=by
 obtain ⟨W,hW⟩:∃ W,w.alloc (.cells (d.map B8).toArray 31) = W:=⟨_,rfl⟩
 have ho:DigO W w.heap.size d:=by rw [← hW];exact digO_new w h32
 have hb:Below w.heap.size w W:=by rw [← hW];exact (Below.refl _ w).alloc (Nat.le_refl _) _
 have hRW:=hR.of_new hb
 obtain ⟨a,c,hv⟩:=hR.own.row.len
 subst hv
 have hLT:=hR.len
 obtain ⟨n,hn⟩:∃ n,T.length = n:=⟨_,rfl⟩
 rw [hLT,hn] at hRW
 have hle:n ≤ 100000:=by omega
 have HW:=Lib.hid hW
 have HO:=Lib.hid ho
 have HB:=Lib.hid hb
 have HR:=Lib.hid hRW
 have HRS:=Lib.hid hr
 have HDG:=Lib.hid hdig
 have H32:=Lib.hid h32
 have HN:=Lib.hid hn
 have HLN:=Lib.hid hLT
 clear hR hr hdig hlen h32 hW ho hb hRW hLT hn
 go_enter Tryz.func65,Tryz.ntmps65
 go_upto_region 1 with (fail)
 rw [HW.out]
 obtain ⟨g,hg⟩:∃ g,w.heap.size = g:=⟨_,rfl⟩
 have HG:=Lib.hid hg
 rw [hg] at HO ⊢
 clear hg
 go_wp2
 go_loopw [6] (fun iv W'=>∃ i:Nat,i ≤ n∧iv = .int .i64 (i:Int)∧(∀ x ∈ T.take i,kD x < (natL d:Int))∧Below W.heap.size W W') (fun iv _=>n - (intOf iv).toNat)
 case atStart=>exact ⟨0,Nat.zero_le _,rfl,(fun x hx=>by cases hx),Below.refl _ _⟩
 case round=>
  obtain ⟨i,hi,rfl,hlow,hbr⟩:=hrel
  have hRr:=HR.out.of_new hbr
  have hc2:=fun w' (h:Grew wr w')=>Grew.cell h hRr.cell2
  have hdg0:DigAt wr g 0 d:=(HO.out.of_new hbr).at_
  have HLOW:=Lib.hid hlow
  have HBR:=Lib.hid hbr
  clear hlow hbr
  by_cases hlt:i < n
  ·have hii:(i:Int) < (n:Int):=by omega
   obtain ⟨y,hy⟩:∃ y,T[i]? = some y:=⟨_,List.getElem?_eq_getElem (by rw [HN.out];exact hlt)⟩
   obtain ⟨x,hx⟩:∃ x,L[i]? = some x:=⟨_,List.getElem?_eq_getElem (by rw [HLN.out,HN.out];exact hlt)⟩
   obtain ⟨b,off,c',hv,hbl,hat⟩:=hRr.own.row.at_ (by rw [HLN.out,HN.out];omega)
   obtain ⟨rfl,rfl⟩:a = some ⟨b,off,none⟩∧c = c':=by cases hv;exact ⟨rfl,rfl⟩
   have hdg1:DigAt wr b (off + i * 33) x.1:=ROf_dig (hat i x hx)
   rw [hRr.fst hx hy] at hdg1
   have hym:=List.mem_of_getElem? hy
   have hy32:=HDG.out y hym
   have hsg:=cmpL_sign y.1 d (by rw [hy32,H32.out])
   have HCC:=Lib.hid (fun w'=>RCompare_any y.1 d w' hy32 H32.out)
   obtain ⟨C,hC⟩:∃ C,cmpL y.1 d = C:=⟨_,rfl⟩
   rw [hC] at hsg HCC
   have hdn:DigAt wr b (off + i * 33) y.1:=hdg1
   have HTK:=Lib.hid (take_snoc_at hy)
   have HY:=Lib.hid hy
   have HY32:=Lib.hid hy32
   have HSG:=Lib.hid hsg
   have hgd:=guard_dig
   have heql:=run_eql_dig y.1 d hy32 H32.out
   clear hv hbl hat hx hy hym hdg1 hRr hC hsg hy32
   by_cases hC0:C < 0
   ·go_upto_region 2 with (fail)
    refine wp_region_grew (by kernel_rfl) (by kernel_rfl) ?_
    repeat (first
     | (go_big_quiet_want;(with_reducible apply quiet_load_at (ty:=31) (x:=.tmp _));rfl;rfl;assumption;go_simp;go_big_quiet_on)
     | (go_big_quiet_want;apply quiet_val;(intro w' hw';go_simp;first | done | rfl);go_simp;go_big_quiet_on)
     | (go_big_quiet_want;apply quiet_call (f:=106);(intro w' hw';go_simp;first | done | rfl);(intro w' hw';exact Grew.call hw' (HCC.out w'));go_simp;go_big_quiet_on)
     | (go_big_quiet_skip))
    refine wpQuiet_nil ?_
    intro w5 hw5
    have HB5:=Lib.hid (below_next HBR.out hw5)
    have hnl:kD y < (natL d:Int):=by
     have h:=HSG.out
     unfold kD
     split at h
     ·omega
     ·split at h <;> omega
    have HNL:=Lib.hid hnl
    clear hw5 hc2 hdg0 hdn hgd heql hnl
    go_wp2
    go_roundw
    case rel=>
     refine ⟨i + 1,by omega,by go_num,fun z hz=>?_,HB5.out⟩
     rw [HTK.out] at hz
     rcases List.mem_append.1 hz with hz | hz
     ·exact HLOW.out z hz
     ·rw [List.mem_singleton.1 hz];exact HNL.out
    case measure=>simp [intOf];omega
   ·go_upto_region 2 with (fail)
    refine wp_region_grew (by kernel_rfl) (by kernel_rfl) ?_
    repeat (first
     | (go_big_quiet_want;(with_reducible apply quiet_load_at (ty:=31) (x:=.tmp _));rfl;rfl;assumption;go_simp;go_big_quiet_on)
     | (go_big_quiet_want;apply quiet_val;(intro w' hw';go_simp;first | done | rfl);go_simp;go_big_quiet_on)
     | (go_big_quiet_want;apply quiet_call (f:=106);(intro w' hw';go_simp;first | done | rfl);(intro w' hw';exact Grew.call hw' (HCC.out w'));go_simp;go_big_quiet_on)
     | (go_big_quiet_skip))
    refine wpQuiet_nil ?_
    intro w5 hw5
    have HB5:=Lib.hid (below_next HBR.out hw5)
    replace hc2:=fun w' (h:Grew w5 w')=>hc2 w' (below_next hw5 h)
    replace hdg0:=hdg0.of_new hw5
    replace hdn:=hdn.of_new hw5
    clear hw5
    go_upto_region 4 with (fail)
    refine wp_region_grew (by kernel_rfl) (by kernel_rfl) ?_
    repeat (first
     | (go_big_quiet_want;(with_reducible apply quiet_load_at (ty:=31) (x:=.tmp _));rfl;rfl;assumption;go_simp;go_big_quiet_on)
     | (go_big_quiet_want;apply quiet_val;(intro w' hw';go_simp;first | done | rfl);go_simp;go_big_quiet_on)
     | (go_big_quiet_skip))
    refine wpQuiet_nil ?_
    intro w6 hw6
    have HB6:=Lib.hid (below_next HB.out (below_next HB5.out hw6))
    have hpl:PlaceT T d i (decide (y.1 = d)):=by
     refine ⟨by rw [HN.out];omega,HLOW.out,fun h=>⟨y.2,?_⟩,fun h z hz=>?_⟩
     ·rw [HY.out];rw [← of_decide_eq_true h]
     ·have hne:=of_decide_eq_false h
      have h1:=HSG.out
      have h2:¬ natL y.1 = natL d:=fun e=>hne (natL_inj _ _ (by rw [HY32.out,H32.out]) e)
      have h3:natL d < natL y.1:=by
       split at h1
       ·omega
       ·omega
      have hs:=split_at HY.out
      have hr2:=HRS.out
      rw [hs] at hr2
      rw [List.drop_eq_getElem_cons (by rw [HN.out];exact hlt)] at hz
      have hye:T[i]'(by rw [HN.out];exact hlt) = y:=by have:=HY.out;rw [List.getElem?_eq_getElem (by rw [HN.out];exact hlt)] at this;exact Option.some.inj this
      rw [hye] at hz
      rcases List.mem_cons.1 hz with rfl | hz
      ·unfold kD;omega
      ·have:=hr2.mid.2.1 z hz
       unfold kD at this ⊢;omega
    have HPL:=Lib.hid hpl
    clear hw6 hc2 hdg0 hdn hgd heql hpl
    go_wp2
    go_ret2
    exact ⟨i,_,rfl,HPL.out,HB6.out⟩
  ·obtain rfl:i = n:=by omega
   have hii:¬ (i:Int) < (i:Int):=by omega
   have hpl:PlaceT T d i false:=⟨by rw [HN.out];exact Nat.le_refl _,HLOW.out,(fun h=>(by cases h)),(fun _ z hz=>(by rw [List.drop_of_length_le (by rw [HN.out];exact Nat.le_refl _)] at hz;cases hz))⟩
   have HPL:=Lib.hid hpl
   clear hpl hRr
   go_upto_region 2 with (fail)
   refine wp_region_grew (by kernel_rfl) (by kernel_rfl) ?_
   repeat (first
    | (go_big_quiet_want;(with_reducible apply quiet_load_at (ty:=31) (x:=.tmp _));rfl;rfl;assumption;go_simp;go_big_quiet_on)
    | (go_big_quiet_want;apply quiet_val;(intro w' hw';go_simp;first | done | rfl);go_simp;go_big_quiet_on)
    | (go_big_quiet_skip))
   refine wpQuiet_nil ?_
   intro w5 hw5
   have HB5:=Lib.hid (below_next HBR.out hw5)
   replace hc2:=fun w' (h:Grew w5 w')=>hc2 w' (below_next hw5 h)
   clear hw5
   go_upto_region 4 with (fail)
   refine wp_region_grew (by kernel_rfl) (by kernel_rfl) ?_
   repeat (first
    | (go_big_quiet_want;(with_reducible apply quiet_load_at (ty:=31) (x:=.tmp _));rfl;rfl;assumption;go_simp;go_big_quiet_on)
    | (go_big_quiet_want;apply quiet_val;(intro w' hw';go_simp;first | done | rfl);go_simp;go_big_quiet_on)
    | (go_big_quiet_skip))
   refine wpQuiet_nil ?_
   intro w6 hw6
   have HB6:=Lib.hid (below_next HB.out (below_next HB5.out hw6))
   clear hw6 hc2 hdg0
   go_wp2
   go_ret2
   exact ⟨i,_,rfl,HPL.out,HB6.out⟩
theorem fields_peer : (Tryz.prog.fieldsOf 137).toList.map (fun f => (f.name, f.type, f.offset)) = [("Id", 3, 0), ("Until", 3, 1), ("Seed", 4, 2)] := by kernel_rfl
theorem run_equalIn_peer (d:Nat) (x y:PeerL) (w:World):(Op.equalIn (d + 3) 137 (RPeer.V x) (RPeer.V y)).run Tryz.prog w = .ok (decide (x = y)) w:=by
 show (Op.equalIn (d + 3) 137 (.agg #[.int .i64 x.id,.int .i64 x.till,.bool x.seed]) (.agg #[.int .i64 y.id,.int .i64 y.till,.bool y.seed])).run Tryz.prog w = _
 rw [run_equalIn_struct w (d + 2) 137 _ _ (by kernel_rfl) (by kernel_rfl)]
 have hai:(isAgg 3).run Tryz.prog w = .ok false w:=by kernel_rfl
 have hab:(isAgg 4).run Tryz.prog w = .ok false w:=by kernel_rfl
 have hi:∀ a b:Int,(Op.equalIn (d + 2) 3 (.int .i64 a) (.int .i64 b)).run Tryz.prog w = .ok (a == b) w:=fun a b=>run_equalIn_int w (d + 1) 3 .i64 .i64 a b Tryz.underlying3
 have hbb:∀ a b:Bool,(Op.equalIn (d + 2) 4 (.bool a) (.bool b)).run Tryz.prog w = .ok (a == b) w:=fun a b=>run_equalIn_bool w (d + 1) 4 a b Tryz.underlying4
 obtain ⟨g,hg⟩:∃ g:Nat→Bool,g = fun k=>if k = 0 then x.id == y.id else if k = 1 then x.till == y.till else x.seed == y.seed:=⟨_,rfl⟩
 have hf:=fields_peer
 generalize (Tryz.prog.fieldsOf 137).toList = fs at hf
 rw [eqFields_all g fs (fun f hfm=>by
  have hm:(f.name,f.type,f.offset) ∈ fs.map (fun f=>(f.name,f.type,f.offset)):=List.mem_map.2 ⟨f,hfm,rfl⟩
  rw [hf] at hm
  simp only [List.mem_cons,Prod.mk.injEq,List.not_mem_nil,or_false] at hm
  rcases hm with ⟨h1,h2,h3⟩ | ⟨h1,h2,h3⟩ | ⟨h1,h2,h3⟩
  ·rw [h1,h2,h3,hg];exact ⟨by decide,.int .i64 x.id,.int .i64 y.id,by simp [part,Sem.run_bind,hai,Sem.run_pure],by simp [part,Sem.run_bind,hai,Sem.run_pure],hi _ _⟩
  ·rw [h1,h2,h3,hg];exact ⟨by decide,.int .i64 x.till,.int .i64 y.till,by simp [part,Sem.run_bind,hai,Sem.run_pure],by simp [part,Sem.run_bind,hai,Sem.run_pure],hi _ _⟩
  ·rw [h1,h2,h3,hg];exact ⟨by decide,.bool x.seed,.bool y.seed,by simp [part,Sem.run_bind,hab,Sem.run_pure],by simp [part,Sem.run_bind,hab,Sem.run_pure],hbb _ _⟩)]
 have e:(fs.all fun f=>g f.offset) = (fs.map (fun f=>(f.name,f.type,f.offset))).all (fun q=>g q.2.2):=by rw [List.all_map];rfl
 rw [e,hf,hg]
 congr 1
 obtain ⟨a,b,c⟩:=x
 obtain ⟨a',b',c'⟩:=y
 rw [Bool.eq_iff_iff]
 simp
theorem run_neq_peer (x y:PeerL) (w:World):(binOp .neq 137 (RPeer.V x) (RPeer.V y)).run Tryz.prog w = .ok (.bool (!decide (x = y))) w:=by
 have:=run_equalIn_peer 9997 x y w
 show (binOp .neq 137 (.agg (RPeer.cells x).toArray) (.agg (RPeer.cells y).toArray)).run Tryz.prog w = _
 rw [run_neq_struct]
 exact congrArg (fun r=>Result.andThen r fun b w'=>.ok (Value.bool (!b)) w') this
theorem guard_peer:Tryz.prog.eqGuardType Tryz.prog.depth 137 = false:=by kernel_rfl
theorem run_guard_peer (op:BinOp) (x y:Operand) (a b:PeerL) (w:World):(eqGuard op 137 x y (RPeer.V a) (RPeer.V b)).run Tryz.prog w = .ok () w:=run_eqGuard_agg (P:=Tryz.prog) w op 137 x y (RPeer.cells a).toArray (RPeer.cells b).toArray guard_peer
theorem RIsId_any (n:Int) (w:World):Calls Tryz.prog 87 #[.int .i64 n] w fun e w'=>e = .returned (.bool (within n 1 65536))∧w' = w:=by
 by_cases h1:1 ≤ n
 ·by_cases h2:n ≤ 65536
  ·have e:within n 1 65536 = true:=decide_eq_true ⟨h1,h2⟩
   rw [e]
   clear e
   go_enter Tryz.func87,Tryz.ntmps87
   go_wp2
   go_ret
   exact ⟨rfl,rfl⟩
  ·have e:within n 1 65536 = false:=decide_eq_false (fun h=>h2 h.2)
   rw [e]
   clear e
   go_enter Tryz.func87,Tryz.ntmps87
   go_wp2
   go_ret
   exact ⟨rfl,rfl⟩
 ·have e:within n 1 65536 = false:=decide_eq_false (fun h=>h1 h.1)
  rw [e]
  clear e
  go_enter Tryz.func87,Tryz.ntmps87
  go_wp2
  go_ret
  exact ⟨rfl,rfl⟩
theorem RIsMoment_any (n:Int) (w:World):Calls Tryz.prog 97 #[.int .i64 n] w fun e w'=>e = .returned (.bool (within n 0 1099511627776))∧w' = w:=by
 by_cases h1:0 ≤ n
 ·by_cases h2:n ≤ 1099511627776
  ·have e:within n 0 1099511627776 = true:=decide_eq_true ⟨h1,h2⟩
   rw [e]
   clear e
   go_enter Tryz.func97,Tryz.ntmps97
   go_wp2
   go_ret
   exact ⟨rfl,rfl⟩
  ·have e:within n 0 1099511627776 = false:=decide_eq_false (fun h=>h2 h.2)
   rw [e]
   clear e
   go_enter Tryz.func97,Tryz.ntmps97
   go_wp2
   go_ret
   exact ⟨rfl,rfl⟩
 ·have e:within n 0 1099511627776 = false:=decide_eq_false (fun h=>h1 h.1)
  rw [e]
  clear e
  go_enter Tryz.func97,Tryz.ntmps97
  go_wp2
  go_ret
  exact ⟨rfl,rfl⟩
theorem RIsLife_any (n:Int) (w:World):Calls Tryz.prog 59 #[.int .i64 n] w fun e w'=>e = .returned (.bool (within n 1 1048576))∧w' = w:=by
 by_cases h1:1 ≤ n
 ·by_cases h2:n ≤ 1048576
  ·have e:within n 1 1048576 = true:=decide_eq_true ⟨h1,h2⟩
   rw [e]
   clear e
   go_enter Tryz.func59,Tryz.ntmps59
   go_wp2
   go_ret
   exact ⟨rfl,rfl⟩
  ·have e:within n 1 1048576 = false:=decide_eq_false (fun h=>h2 h.2)
   rw [e]
   clear e
   go_enter Tryz.func59,Tryz.ntmps59
   go_wp2
   go_ret
   exact ⟨rfl,rfl⟩
 ·have e:within n 1 1048576 = false:=decide_eq_false (fun h=>h1 h.1)
  rw [e]
  clear e
  go_enter Tryz.func59,Tryz.ntmps59
  go_wp2
  go_ret
  exact ⟨rfl,rfl⟩
theorem peer_cells {w:World} {g off:Nat} {p:PeerL} (h:RPeer.At w g off p):w.cell? ⟨g,off,none⟩ = some (.int .i64 p.id)∧w.cell? ⟨g,off + 1,none⟩ = some (.int .i64 p.till)∧w.cell? ⟨g,off + 2,none⟩ = some (.bool p.seed):=
 ⟨h.2.2 0 (by decide),h.2.2 1 (by decide),h.2.2 2 (by decide)⟩
set_option maxHeartbeats 800000 in
theorem RLast_any (v:Value) (l:List PeerL) (w:World) (hl:RPeer.Row w v l) :
  Calls Tryz.prog 152 #[v] w fun e w'=>e = .returned (.int .i64 (lastP l))∧w' = w:=by
 obtain ⟨a,c,hv⟩:=hl.len
 subst hv
 have hle:=hl.le
 have HL:=Lib.hid hl
 clear hl
 go_enter Tryz.func152,Tryz.ntmps152
 go_wp2
 go_loopw [3,4] (fun nv iv W=>∃ k:Nat,k ≤ l.length∧iv = .int .i64 (k:Int)∧nv = .int .i64 (lastP (l.take k))∧W = w) (fun _ iv _=>l.length - (intOf iv).toNat)
 case atStart=>exact ⟨0,Nat.zero_le _,rfl,rfl,rfl⟩
 case round=>
  obtain ⟨k,hk,rfl,rfl,rfl⟩:=hrel
  by_cases hlt:k < l.length
  ·obtain ⟨b,off,c',hv,hbl,hat⟩:=HL.out.at_ (by omega)
   obtain ⟨rfl,rfl⟩:a = some ⟨b,off,none⟩∧c = c':=by cases hv;exact ⟨rfl,rfl⟩
   obtain ⟨p,hp⟩:∃ p,l[k]? = some p:=⟨_,List.getElem?_eq_getElem hlt⟩
   have hc1:=(peer_cells (hat k p hp)).2.1
   replace hc1:World.cell? _ ⟨b,off + k * 3 + 1,none⟩ = some (.int .i64 p.till):=hc1
   have hst:=lastP_take hp
   have HST:=Lib.hid hst
   obtain ⟨L,hL⟩:∃ L,lastP (l.take k) = L:=⟨_,rfl⟩
   rw [hL] at hst ⊢
   have HST:=Lib.hid hst
   have hki:(k:Int) < (l.length:Int):=by omega
   clear hv hbl hat hp hst hL
   go_wp2
   all_goals
    go_roundw
    case rel=>exact ⟨k + 1,by omega,by go_num,by rw [HST.out] <;> first | rfl | (congr 1;omega),trivial⟩
    case measure=>simp [intOf];omega
  ·obtain rfl:k = l.length:=by omega
   rw [List.take_length]
   obtain ⟨L,hL⟩:∃ L,lastP l = L:=⟨_,rfl⟩
   rw [hL]
   have hki:¬ (l.length:Int) < (l.length:Int):=by omega
   have HLQ:=Lib.hid hL
   clear hL
   go_wp2
   go_ret
   exact ⟨ret_int HLQ.out.symm,rfl⟩
theorem RLastB_any (v:Value) (l:List PeerL) (w:World) (hl:RPeer.Row w v l):Calls Tryz.prog 152 #[v] w fun e w'=>e = .returned (.int .i64 (lastP l))∧Below w.heap.size w w':=
 (RLast_any v l w hl).mono fun e w' ⟨h1,h2⟩=>⟨h1,by rw [h2];exact Below.refl _ _⟩
def FirstI (w:World) (l:List PeerL) (av iv:Value) (W:World):Prop:=∃ k a:Nat,iv = .int .i64 (k:Int)∧av = .int .i64 (a:Int)∧AtP l k a∧Below w.heap.size w W
set_option maxHeartbeats 1600000 in
theorem RFirst_any (v:Value) (l:List PeerL) (w:World) (hl:RPeer.Row w v l) (h0:0 < l.length) :
  Calls Tryz.prog 151 #[v] w fun e w'=>∃ a:Nat,e = .returned (.int .i64 (a:Int))∧AtP l l.length a∧Below w.heap.size w w':=by
 obtain ⟨va,c,hv⟩:=hl.len
 subst hv
 have hle:=hl.le
 have HL:=Lib.hid hl
 clear hl
 go_enter Tryz.func151,Tryz.ntmps151
 go_wp2
 go_loopw [3,4] (fun av iv W=>FirstI w l av iv W) (fun _ iv _=>l.length - (intOf iv).toNat)
 case atStart=>exact ⟨1,0,rfl,rfl,AtP.start h0,Below.refl _ _⟩
 case round=>
  obtain ⟨k,a,rfl,rfl,hat,hb⟩:=hrel
  have hak:=hat.1
  by_cases hlt:k < l.length
  ·obtain ⟨b,off,c',hv,hbl,hc⟩:=HL.out.at_ (by omega)
   obtain ⟨rfl,rfl⟩:va = some ⟨b,off,none⟩∧c = c':=by cases hv;exact ⟨rfl,rfl⟩
   obtain ⟨y,hy⟩:∃ p,l[k]? = some p:=⟨_,List.getElem?_eq_getElem hlt⟩
   obtain ⟨x,hx⟩:∃ p,l[a]? = some p:=⟨_,List.getElem?_eq_getElem (by omega)⟩
   have hy1:=peer_cells ((hc k y hy).of_new hb)
   have hx1:=peer_cells ((hc a x hx).of_new hb)
   have c1:=fun w' (h:Grew wr w')=>(Grew.cell h hy1.1:w'.cell? ⟨b,off + k * 3,none⟩ = _)
   have c2:=fun w' (h:Grew wr w')=>(Grew.cell h hy1.2.1:w'.cell? ⟨b,off + k * 3 + 1,none⟩ = _)
   have c3:=fun w' (h:Grew wr w')=>(Grew.cell h hx1.1:w'.cell? ⟨b,off + a * 3,none⟩ = _)
   have c4:=fun w' (h:Grew wr w')=>(Grew.cell h hx1.2.1:w'.cell? ⟨b,off + a * 3 + 1,none⟩ = _)
   have hst:=hat.step hx hy
   have hki:(k:Int) < (l.length:Int):=by omega
   have hai:(a:Int) < (l.length:Int):=by omega
   have HST:=Lib.hid hst
   have HB:=Lib.hid hb
   clear hv hbl hc hx hy hy1 hx1 hst hat hb
   go_upto_region 5 with (fail)
   by_cases g1:y.till < x.till
   ·have hs2:=HST.out
    rw [if_pos (.inl g1)] at hs2
    have HS2:=Lib.hid hs2
    clear hs2
    refine wp_region_grew (by kernel_rfl) (by kernel_rfl) ?_
    repeat (first
     | (go_big_quiet_want;(with_reducible apply quiet_load_at (ty:=31) (x:=.tmp _));rfl;rfl;assumption;go_simp;go_big_quiet_on)
     | (go_big_quiet_want;apply quiet_val;(intro w' hw';go_simp;first | done | rfl);go_simp;go_big_quiet_on)
     | (go_big_quiet_skip))
    refine wpQuiet_nil ?_
    intro w5 hw5
    have HB5:=Lib.hid (below_next HB.out hw5)
    clear hw5 c1 c2 c3 c4
    go_wp2
    go_roundw
    case rel=>exact ⟨k + 1,k,by go_num,rfl,HS2.out,HB5.out⟩
    case measure=>simp [intOf];omega
   ·by_cases g2:y.till = x.till
    ·have e2:(y.till == x.till) = true:=beq_iff_eq.2 g2
     by_cases g3:x.id < y.id
     ·have hs2:=HST.out
      rw [if_pos (.inr ⟨g2,g3⟩)] at hs2
      have HS2:=Lib.hid hs2
      clear hs2 g2
      refine wp_region_grew (by kernel_rfl) (by kernel_rfl) ?_
      repeat (first
       | (go_big_quiet_want;(with_reducible apply quiet_load_at (ty:=31) (x:=.tmp _));rfl;rfl;assumption;go_simp;go_big_quiet_on)
       | (go_big_quiet_want;apply quiet_val;(intro w' hw';go_simp;first | done | rfl);go_simp;go_big_quiet_on)
       | (go_big_quiet_skip))
      refine wpQuiet_nil ?_
      intro w5 hw5
      have HB5:=Lib.hid (below_next HB.out hw5)
      clear hw5 c1 c2 c3 c4
      go_wp2
      go_roundw
      case rel=>exact ⟨k + 1,k,by go_num,rfl,HS2.out,HB5.out⟩
      case measure=>simp [intOf];omega
     ·have hs2:=HST.out
      rw [if_neg (fun h=>h.elim g1 (fun h=>g3 h.2))] at hs2
      have HS2:=Lib.hid hs2
      clear hs2 g2
      refine wp_region_grew (by kernel_rfl) (by kernel_rfl) ?_
      repeat (first
       | (go_big_quiet_want;(with_reducible apply quiet_load_at (ty:=31) (x:=.tmp _));rfl;rfl;assumption;go_simp;go_big_quiet_on)
       | (go_big_quiet_want;apply quiet_val;(intro w' hw';go_simp;first | done | rfl);go_simp;go_big_quiet_on)
       | (go_big_quiet_skip))
      refine wpQuiet_nil ?_
      intro w5 hw5
      have HB5:=Lib.hid (below_next HB.out hw5)
      clear hw5 c1 c2 c3 c4
      go_wp2
      go_roundw
      case rel=>exact ⟨k + 1,a,by go_num,rfl,HS2.out,HB5.out⟩
      case measure=>simp [intOf];omega
    ·have e2:(y.till == x.till) = false:=beq_eq_false_iff_ne.2 g2
     have hs2:=HST.out
     rw [if_neg (fun h=>h.elim g1 (fun h=>g2 h.1))] at hs2
     have HS2:=Lib.hid hs2
     clear hs2
     refine wp_region_grew (by kernel_rfl) (by kernel_rfl) ?_
     repeat (first
      | (go_big_quiet_want;(with_reducible apply quiet_load_at (ty:=31) (x:=.tmp _));rfl;rfl;assumption;go_simp;go_big_quiet_on)
      | (go_big_quiet_want;apply quiet_val;(intro w' hw';go_simp;first | done | rfl);go_simp;go_big_quiet_on)
      | (go_big_quiet_skip))
     refine wpQuiet_nil ?_
     intro w5 hw5
     have HB5:=Lib.hid (below_next HB.out hw5)
     clear hw5 c1 c2 c3 c4
     go_wp2
     go_roundw
     case rel=>exact ⟨k + 1,a,by go_num,rfl,HS2.out,HB5.out⟩
     case measure=>simp [intOf];omega
  ·obtain rfl:k = l.length:=by have:=hat.2.1;omega
   have hki:¬ (l.length:Int) < (l.length:Int):=by omega
   go_wp2
   go_ret
   exact ⟨a,rfl,hat,hb⟩
set_option maxHeartbeats 1600000 in
theorem RSameP_any (v u:Value) (l m:List PeerL) (w:World) (hl:RPeer.Row w v l) (hm:RPeer.Row w u m) :
  Calls Tryz.prog 27 #[v,u] w fun e w'=>e = .returned (.bool (decide (l = m)))∧Below w.heap.size w w':=by
 have hle:=hl.le
 have hme:=hm.le
 obtain ⟨va,vc,hv⟩:=hl.len
 subst hv
 obtain ⟨ua,uc,hv⟩:=hm.len
 subst hv
 have HL:=Lib.hid hl
 have HM:=Lib.hid hm
 clear hl hm
 by_cases hlen:l.length = m.length
 ·have t1:((l.length:Int) != (m.length:Int)) = false:=by simp;omega
  have HLM:=Lib.hid hlen
  go_enter Tryz.func27,Tryz.ntmps27
  clear hlen
  go_wp2
  go_loopw [5] (fun iv W=>∃ k:Nat,k ≤ l.length∧iv = .int .i64 (k:Int)∧l.take k = m.take k∧Below w.heap.size w W) (fun iv _=>l.length - (intOf iv).toNat)
  case atStart=>exact ⟨0,by omega,rfl,by simp,Below.refl _ _⟩
  case round=>
   obtain ⟨k,hk,rfl,heq,hb⟩:=hrel
   have HQ:=Lib.hid heq
   clear heq
   by_cases hlt:k < l.length
   ·have t2:(k:Int) < (l.length:Int):=by omega
    have t3:(k:Int) < (m.length:Int):=by have:=HLM.out;omega
    obtain ⟨b,off,c',hv,hbl,hat⟩:=HL.out.at_ (by omega)
    obtain ⟨rfl,rfl⟩:va = some ⟨b,off,none⟩∧vc = c':=by cases hv;exact ⟨rfl,rfl⟩
    clear hv
    obtain ⟨b2,off2,c2,hv,hbl2,hat2⟩:=HM.out.at_ (by omega)
    obtain ⟨rfl,rfl⟩:ua = some ⟨b2,off2,none⟩∧uc = c2:=by cases hv;exact ⟨rfl,rfl⟩
    clear hv
    obtain ⟨x,hx⟩:∃ p,l[k]? = some p:=⟨_,List.getElem?_eq_getElem hlt⟩
    obtain ⟨y,hy⟩:∃ p,m[k]? = some p:=⟨_,List.getElem?_eq_getElem (by have:=HLM.out;omega)⟩
    have hA:=(hat k x hx).of_new hb
    have hB:=(hat2 k y hy).of_new hb
    have HA:=Lib.hid (fun w' (h:Grew wr w')=>hA.of_new h)
    have HB2:=Lib.hid (fun w' (h:Grew wr w')=>hB.of_new h)
    have H1:=Lib.hid (take_snoc_at hx)
    have H2:=Lib.hid (take_snoc_at hy)
    have H3:=Lib.hid (show l = m→x = y from fun e=>by rw [e,hy] at hx;exact (Option.some.inj hx).symm)
    have HB:=Lib.hid hb
    have hgd:=fun (p q:Operand) (w':World)=>run_guard_peer .neq p q x y w'
    have hneq:=run_neq_peer x y
    clear hat hat2 hbl hbl2 hx hy hA hB hb
    go_upto_region 6 with (fail)
    refine wp_region_grew (by kernel_rfl) (by kernel_rfl) ?_
    repeat (first
     | (go_big_quiet_want;(refine RecT.At.quiet HB2.out rfl rfl ?_);go_simp;go_big_quiet_on)
     | (go_big_quiet_want;(refine RecT.At.quiet HA.out rfl rfl ?_);go_simp;go_big_quiet_on)
     | (go_big_quiet_want;(with_reducible apply quiet_load_at (ty:=31) (x:=.tmp _));rfl;rfl;assumption;go_simp;go_big_quiet_on)
     | (go_big_quiet_want;apply quiet_val;(intro w' hw';go_simp;first | done | rfl);go_simp;go_big_quiet_on)
     | (go_big_quiet_skip))
    refine wpQuiet_nil ?_
    intro w5 hw5
    have HB5:=Lib.hid (below_next HB.out hw5)
    clear hneq hgd hw5
    by_cases hd:x = y
    ·have t4:decide (x = y) = true:=by simp [hd]
     have HD:=Lib.hid hd
     clear hd
     simp only [t4,Bool.not_true]
     go_wp2
     go_roundw
     case rel=>exact ⟨k + 1,by omega,by go_num,by rw [H1.out,H2.out,HQ.out,HD.out],HB5.out⟩
     case measure=>simp [intOf];omega
    ·have t4:decide (x = y) = false:=by simp [hd]
     have HD:=Lib.hid hd
     clear hd
     simp only [t4,Bool.not_false]
     go_wp2
     go_ret
     exact ⟨ret_bool (by simp;exact fun e=>HD.out (H3.out e)),HB5.out⟩
   ·obtain rfl:k = l.length:=by omega
    have t2:¬ (l.length:Int) < (l.length:Int):=by omega
    have he:l = m:=by
     have:=HQ.out
     rwa [List.take_of_length_le (Nat.le_refl _),List.take_of_length_le (by have:=HLM.out;omega)] at this
    have HE:=Lib.hid he
    clear he
    go_wp2
    go_ret
    exact ⟨ret_bool (by simp;exact HE.out),hb⟩
 ·have t1:((l.length:Int) != (m.length:Int)) = true:=by simp;omega
  have hne:l ≠ m:=fun e=>hlen (by rw [e])
  have HN:=Lib.hid hne
  clear hne hlen
  go_enter Tryz.func27,Tryz.ntmps27
  go_wp2
  go_ret
  exact ⟨ret_bool (by simp;exact HN.out),Below.refl _ _⟩
end Go.Proofs.YtnohglkilpnjhaaGreatDoor
namespace Go.Proofs.YtnohglkilpnjhaaGreatDoor
open Go.RowKit
def earlyOp2 (o:Oper):Bool:=o.guard.isNone && match o.op with
 | .move _ | .assign _ | .load .. | .indexAddr .. | .fieldAddr .. | .convert .. | .slice .. | .extract .. | .nilCheck _ | .binOp .. | .unOp .. | .build .. | .lookup .. | .field .. | .index ..=>true
 | _=>false
theorem early_value2 {P:Program} {o:Oper} {ρ:Operand→Value} {w w':World} {r:Next} (h:earlyOp2 o = true) (hr:(execOp ρ o).run P w = .ok r w'):∃ u,r = .value u:=by
 cases ho:earlyOp o with
 | true=>exact early_value ho hr
 | false=>
  unfold earlyOp2 at h
  unfold earlyOp at ho
  unfold execOp at hr
  cases hop:o.op <;> simp [hop] at h ho <;> simp only [hop] at hr
  all_goals first
   | (rw [h] at ho;simp at ho;done)
   | exact only_value hr
   | (simp [Sem.run_pure] at hr;exact ⟨_,hr.1.symm⟩)
section
variable {ro:Option Nat} {m:Nat} {P:Program} {ops:Array Oper} {md:Region.Mode} {C:World→Prop} {D:Nat→Bool} {Q:Exit→Act→World→Prop}
theorem still_of_quiet2 {o:Oper} {v:Value} {a:Act} (he:earlyOp2 o = true) (hq:∀ w,C w→o.quietAt P a C w v):StillIn P ops C o v a:=by
 have hg:o.guard = none:=by
  unfold earlyOp2 at he
  simp only [Bool.and_eq_true,Option.isNone_iff_eq_none] at he
  exact he.1
 refine ⟨by simp [Region.wanted,hg],fun w hw=>?_⟩
 have h:=hq w hw
 unfold Oper.quietAt at h
 cases hr:(execOp a.eval o).run P w with
 | ok r w'=>
  rw [hr] at h
  obtain ⟨u,rfl⟩:=early_value2 he hr
  simp only [Oper.quietUpon] at h
  rw [h.1,h.2]
 | halt x w'=>rw [hr] at h;simp [Oper.quietUpon] at h
def opsAt (l:List Oper) (is:List Nat):List Oper:=is.flatMap fun i=>(l[i]?).toList
def listedI:List Nat→Array Bool→Array Bool
 | [],listed=>listed
 | p :: ps,listed=>listedI ps (listed.setIfInBounds p true)
def earlyI (md:Region.Mode) (ops:Array Oper) (D:Nat→Bool):List Nat→Array Bool→Bool
 | [],_=>true
 | p :: ps,listed=>(Region.ready md ops listed).contains p && Region.free md ops listed p && (match ops[p]? with | some o=>earlyOp2 o | none=>false) &&
   ((List.range ops.size).all fun j=>!D j || waitsB md ops p ops.size j) && earlyI md ops D ps (listed.setIfInBounds p true)
def seqI (md:Region.Mode) (ops:Array Oper):List Nat→Array Bool→Bool
 | [],listed=>decide (Region.ready md ops listed = [])
 | p :: ps,listed=>decide (Region.ready md ops listed = [p]) && seqI md ops ps (listed.setIfInBounds p true)
theorem opsAt_cons {l:List Oper} {p:Nat} {ps:List Nat} {o:Oper} (h:l[p]? = some o):opsAt l (p :: ps) = o :: opsAt l ps:=by
 unfold opsAt
 rw [List.flatMap_cons,h]
 rfl
theorem wpAnyS_earlyI (hnd:noDefer ops = true) (hsel:Region.noSelect ops = true) (hQ:∀ c (a:Act) (d:Option Tmp) (v:Value) w,Q (.panic c) (a.put d v) w→Q (.panic c) a w) (hD:∀ j,ops.size ≤ j→D j = false) {R:Act→Prop} {g:Nat} (ps:List Nat) :
  ∀ (listed:Array Bool) (a:Act) (w:World),listed.size = ops.size→ClosedL md ops listed→C w→earlyI md ops D ps listed = true →
   wpQuiet P ops C R (opsAt ops.toList ps) a→(∀ a' w,C w→R a'→wpAnyS ro m P md ops C D Q g (listedI ps listed) a' w)→wpAnyS ro m P md ops C D Q (ps.length + g) listed a w:=by
 induction ps with
 | nil=>
  intro listed a w _ _ hC _ h hL
  rw [List.length_nil,Nat.zero_add]
  exact hL a w hC h
 | cons p ps ih=>
  intro listed a w hsz hcl hC hB h hL
  simp only [earlyI,Bool.and_eq_true] at hB
  obtain ⟨⟨⟨⟨hr,hf⟩,he⟩,hw⟩,hB⟩:=hB
  have hr':p ∈ Region.ready md ops listed:=by simpa using hr
  obtain ⟨o,h0⟩:∃ o,ops[p]? = some o:=by
   cases q:ops[p]? with
   | some o=>exact ⟨o,rfl⟩
   | none=>rw [q] at he;cases he
  rw [h0] at he
  rw [opsAt_cons (o:=o) (by simpa using h0)] at h
  have hg:o.guard = none:=by
   have:=he
   unfold earlyOp2 at this
   simp only [Bool.and_eq_true,Option.isNone_iff_eq_none] at this
   exact this.1
  have hq:o.quiet P a C (wpQuiet P ops C R (opsAt ops.toList ps)):=by
   have h':if Region.wanted o (yielded ops a.tmps) then o.quiet P a C (wpQuiet P ops C R (opsAt ops.toList ps)) else wpQuiet P ops C R (opsAt ops.toList ps) (a.put o.dst undef):=h
   rwa [if_pos (by simp [Region.wanted,hg])] at h'
  obtain ⟨v,hv,hK⟩:=hq
  have hDi:∀ j,D j = true→WaitsT md ops p j:=fun j hj=>by
   have hjs:j < ops.size:=by
    rcases Nat.lt_or_ge j ops.size with h | h
    ·exact h
    ·rw [hD j h] at hj;cases hj
   have:=List.all_eq_true.1 hw j (List.mem_range.2 hjs)
   simp only [hj,Bool.not_true,Bool.false_or] at this
   exact waitsB_spec _ _ this
  rw [List.length_cons,show ps.length + 1 + g = (ps.length + g) + 1 by omega]
  refine wpAnyS_take hnd h0 (Region.noSelect_spec hsel) hQ hDi (ps.length + g) listed a w hsz hcl (Region.free_spec h0 hf) hr' (still_of_quiet2 he hv) hC ?_
  exact ih _ _ w (by simpa using hsz) (hcl.set hr' hsz) hC hB hK hL
theorem ready_get {p:Nat} {listed:Array Bool} (h:Region.ready md ops listed = [p]):∃ o,ops[p]? = some o:=by
 obtain ⟨_,o,ho,_⟩:=mem_ready.1 (show p ∈ Region.ready md ops listed by rw [h];simp)
 exact ⟨o,ho⟩
theorem wpAnyS_restI (hD:∀ j,D j = true→True):∀ (rests:List Nat) (listed:Array Bool) (a:Act) (w:World),(∀ j ∈ rests,D j = true)→seqI md ops rests listed = true →
  wpListIn (WF ro) m P ops Q (opsAt ops.toList rests) a w→wpAnyS ro m P md ops C D Q rests.length listed a w
 | [],listed,a,w,_,hB,h=>⟨by simpa [seqI] using hB,h⟩
 | p :: ps,listed,a,w,hd,hB,h=>by
  simp only [seqI,Bool.and_eq_true,decide_eq_true_eq] at hB
  obtain ⟨o,h0⟩:=ready_get hB.1
  rw [opsAt_cons (o:=o) (by simpa using h0)] at h
  refine ⟨fun h1=>(by rw [hB.1] at h1;cases h1),fun i hi=>?_⟩
  rw [hB.1] at hi
  obtain rfl:i = p:=by simpa using hi
  have hdi:D i = true:=hd i (by simp)
  have hrec:=fun a' w' h'=>wpAnyS_restI hD ps (listed.setIfInBounds i true) a' w' (fun j hj=>hd j (by simp [hj])) hB.2 h'
  unfold wpOpIn
  simp only [h0]
  unfold wpListIn at h
  split
  ·rename_i hq
   rw [if_pos hq] at h
   exact Oper.wpIn_mono (fun a' w' h'=>⟨fun e=>(by rw [hdi] at e;cases e),hrec a' w' h'⟩) h
  ·rename_i hq
   rw [if_neg hq] at h
   exact ⟨fun _ _=>trivial,fun e=>(by rw [hdi] at e;cases e),hrec _ w h.2⟩
theorem wpAnyS_lateI (hnd:noDefer ops = true):∀ (mids rests:List Nat) (listed:Array Bool) (a:Act) (w:World),(∀ j ∈ rests,D j = true)→seqI md ops (mids ++ rests) listed = true→C w →
  LateL ro m P ops C Q (opsAt ops.toList mids) (opsAt ops.toList rests) a w→wpAnyS ro m P md ops C D Q (mids.length + rests.length) listed a w
 | [],rests,listed,a,w,hd,hB,hC,h=>by
  rw [List.length_nil,Nat.zero_add]
  exact wpAnyS_restI (fun _ _=>trivial) rests listed a w hd hB h
 | p :: ps,rests,listed,a,w,hd,hB,hC,h=>by
  simp only [List.cons_append,seqI,Bool.and_eq_true,decide_eq_true_eq] at hB
  obtain ⟨o,h0⟩:=ready_get hB.1
  rw [opsAt_cons (o:=o) (by simpa using h0)] at h
  rw [List.length_cons,show ps.length + 1 + rests.length = (ps.length + rests.length) + 1 by omega]
  refine ⟨fun h1=>(by rw [hB.1] at h1;cases h1),fun i hi=>?_⟩
  rw [hB.1] at hi
  obtain rfl:i = p:=by simpa using hi
  have hrec:=fun a' w' hC' h'=>wpAnyS_lateI hnd ps rests (listed.setIfInBounds i true) a' w' hd hB.2 hC' h'
  unfold wpOpIn
  simp only [h0]
  unfold LateL at h
  split
  ·rename_i hq
   rw [if_pos hq] at h
   exact wpIn_of_wp (noDefer_spec hnd h0) (Oper.wp_mono (fun a' w' h'=>⟨fun _=>h'.1,hrec a' w' h'.1 h'.2⟩) h)
  ·rename_i hq
   rw [if_neg hq] at h
   exact ⟨fun _ _=>trivial,fun _=>hC,hrec _ w hC h⟩
def mixB (l:List Oper) (hs ts1 ts2:List Nat):Bool:=
 Region.noSelect l.toArray && noDefer l.toArray && decide (hs.length + (ts1.length + ts2.length) = l.length) && (ts2.all fun j=>decide (j < l.length)) &&
  earlyI .any l.toArray (fun j=>ts2.contains j) hs (Array.replicate l.length false) && seqI .any l.toArray (ts1 ++ ts2) (listedI hs (Array.replicate l.length false))
theorem wpIn_region_mix {id:Nat} {a:Act} {w:World} {l:List Oper} (hs ts1 ts2:List Nat) (hm:P.follows .mixedOrders = true) (hB:mixB l hs ts1 ts2 = true)
  (hC:C { w with drawn:=w.drawn + 1 }) (hQ:∀ c (a:Act) (d:Option Tmp) (v:Value) w,Q (.panic c) (a.put d v) w→Q (.panic c) a w)
  (h:wpQuiet P l.toArray C (fun a'=>∀ w',C w'→LateL ro m P l.toArray C Q (opsAt l ts1) (opsAt l ts2) a' w') (opsAt l hs) a) :
  (Code.region id l.toArray true).wpIn (WF ro) m P Q a w:=by
 simp only [mixB,Bool.and_eq_true,decide_eq_true_eq] at hB
 obtain ⟨⟨⟨⟨⟨hsel,hnd⟩,hlen⟩,hlt⟩,hearly⟩,hseq⟩:=hB
 have hsz:l.toArray.size = l.length:=by simp
 refine wpIn_region_any hm ?_
 rw [hsz,← hlen]
 refine wpAnyS_any (C:=C) (D:=fun j=>ts2.contains j) _ _ _ _ ?_
 refine wpAnyS_earlyI (R:=fun a'=>∀ w',C w'→LateL ro m P l.toArray C Q (opsAt l ts1) (opsAt l ts2) a' w') hnd hsel hQ (fun j hj=>?_) hs (Array.replicate (hs.length + (ts1.length + ts2.length)) false) a _ (by simp [hlen]) (fun j oj _ hl=>(by rw [getD_replicate_false] at hl;cases hl)) hC (by rw [hlen];exact hearly) h (fun a' w' hw' hR=>?_)
 ·cases hc:ts2.contains j with
  | false=>rfl
  | true=>
   have:=List.all_eq_true.1 hlt j (by simpa using hc)
   simp only [decide_eq_true_eq] at this
   omega
 ·exact wpAnyS_lateI hnd ts1 ts2 _ a' w' (fun j hj=>by simpa using hj) (by rw [hlen];exact hseq) hw' (hR w' hw')
end
end Go.Proofs.YtnohglkilpnjhaaGreatDoor
