/- Lemmas that the statement of this claim leans on; their own comments are taken out, for the size of the claim. No condition beyond what each lemma states. -/
import Derived.Test.YtnohglkilpnjhaaGreatDoorSa9
import Derived.Test.YtnohglkilpnjhaaGreatDoorProg
import Derived.LoopNIn
import Derived.LoopIn
import Derived.Shelf.Abstract
import Derived.Shelf.RegionOpen
set_option linter.unusedVariables false
set_option linter.unusedSimpArgs false
set_option linter.unusedSectionVars false
namespace Go.Proofs.YtnohglkilpnjhaaGreatDoor
open Go.RowKit
def SeqG {α:Type} (F:Fence) (n:Nat) (P:Program) (f:Nat) (lb:Array Value) (encs:Nat→α→Array Value) (It:Nat→List α→α→World→Prop) (S Sp:List α→Prop) (n0 N:Nat) (W:World):Prop:=
 ∀ (l:Nat) (J Jx:Nat→List α→World→Prop),(∀ g,W.heap.size ≤ g→AbidesC (fun k=>k = g) (J g))→(∀ g,W.heap.size ≤ g→AbidesC (fun k=>k = g) (Jx g)) →
  (∀ g pre x W1,W.heap.size ≤ g→J g pre W1→It g pre x W1→pre.length < N→YieldAt F (n - 1) P l (encs g x) W1 fun e W'=>
   (e = .returned (.bool true)∧J g (pre ++ [x]) W'∧Kept (fun k=>k = g∨k < n0) W1 W')∨(e = .returned (.bool false)∧Jx g (pre ++ [x]) W')) →
  (∀ g W',W.heap.size ≤ g→Below W.heap.size W W'→J g [] W') →
  CallsIn F n P f (#[.func (.yield l) #[] #[]] ++ lb) W fun e W'=>(∃ v,e = .returned v)∧∃ g,W.heap.size ≤ g∧((∃ xs,S xs∧J g xs W')∨(∃ pre,Sp pre∧Jx g pre W'))
variable {F:Fence} {n:Nat} {P:Program}
theorem wpIn_rangeFunc_block {α:Type} {g:Operand} {ps:Array Tmp} {assign body:Code} {Q:Exit→Act→World→Prop} {a:Act} {w:World}
  (hro:F.round = none) (h1:1 ≤ n) {gf:Nat} {lb:Array Value} (hg:a.eval g = .func (.func gf) #[] lb) (hFg:F.fn gf) (eg:∀ args w,(callFunc gf args).run P w = .ok (.enter gf args) w)
  {encs:Nat→α→Array Value} {It:Nat→List α→α→World→Prop} {S Sp:List α→Prop} {n0 N:Nat} (hn0:n0 ≤ w.heap.size)
  (hseq:∀ W1,Below w.heap.size w W1→W1.heap.size = w.heap.size + 2→SeqG F (n - 1) P gf lb encs It S Sp n0 N W1)
  (hps:∀ g x,(encs g x).size = ps.size)
  (I:Nat→List α→World→Prop) (Ix:Code→Nat→List α→World→Prop)
  (hI:∀ g s A B,w.heap.size + 2 ≤ g→I g s A→Kept (fun k=>k ≠ g∧k ≠ w.heap.size + 1) A B→I g s B) (hIx:∀ c g s A B,w.heap.size + 2 ≤ g→Ix c g s A→Kept (fun k=>k ≠ g∧k ≠ w.heap.size + 1) A B→Ix c g s B)
  (hIt:∀ g pre x A B,w.heap.size + 2 ≤ g→It g pre x A→Kept (fun k=>k ≠ w.heap.size + 1) A B→It g pre x B)
  (h0:∀ g W',w.heap.size + 2 ≤ g→Below w.heap.size w W'→I g [] W') (a₁:Nat→α→Act)
  (hassign:∀ (l:Nat) (g:Nat) (x:α) (W:World) (K:Act→World→Prop),K (a₁ g x) W →
   assign.wpIn (F.inRound l) (n - 1 - 1) P (Exit.then K (fun _ _ _=>False)) { tmps:=(ps.zip (encs g x)).foldl (fun t (p,v)=>t.setIfInBounds p v) a.tmps,defers:=[] } W)
  (hbody:∀ (l:Nat) (g:Nat) (pre:List α) (x:α) (W:World),w.heap.size + 2 ≤ g→I g pre W→It g pre x W→pre.length < N→w.heap.size + 2 ≤ W.heap.size→body.wpIn (F.inRound l) (n - 1 - 1) P (postC w.heap.size (fun k=>k = g∨k < n0) (I g) (fun c=>Ix c g) (pre ++ [x]) W) (a₁ g x) W)
  (hdone:∀ (g:Nat) (xs:List α) (W:World),w.heap.size + 2 ≤ g→S xs→I g xs W→w.heap.size + 2 ≤ W.heap.size→W.heap[w.heap.size]? = some (.deferred (some []))→Q .normal { a with defers:={ target:=.collected w.heap.size,args:=#[] } :: a.defers } W)
  (hstop:∀ (g:Nat) (c:Code) (pre:List α) (W:World),w.heap.size + 2 ≤ g→Sp pre→Ix c g pre W→w.heap.size + 2 ≤ W.heap.size→W.heap[w.heap.size]? = some (.deferred (some []))→c.wpIn F n P Q { a with defers:={ target:=.collected w.heap.size,args:=#[] } :: a.defers } W) :
  (Code.rangeFunc g ps assign body).wpIn F n P Q a w:=by
 refine wpIn_rangeFunc ?_
 intro fn hfn
 rw [hro]
 obtain ⟨rec,hrec⟩:∃ rec:LoopState→Option Code→Loop,rec = fun st pe=>{ state:=st,pending:=pe,fn,tmps:=a.tmps,params:=ps,assign,body,defers:=w.heap.size }:=⟨_,rfl⟩
 obtain ⟨W1,hW1⟩:∃ W1,(w.alloc (.deferred (some []))).alloc (.loop (rec .ready none)) = W1:=⟨_,rfl⟩
 have hL1:W1.heap[w.heap.size + 1]? = some (.loop (rec .ready none)):=by
  rw [← hW1];have:=World.alloc_heap_new (w.alloc (.deferred (some []))) (.loop (rec .ready none));rwa [World.size_alloc] at this
 have hK1:W1.heap[w.heap.size]? = some (.deferred (some [])):=by
  rw [← hW1];exact (Below.heap_alloc _ _ _ (by simp)).trans (World.alloc_heap_new w _)
 have hb1:Below w.heap.size w W1:=by
  rw [← hW1];exact ((Below.refl _ w).alloc (Nat.le_refl _) _).alloc (by simp) _
 have hs1:W1.heap.size = w.heap.size + 2:=by rw [← hW1];simp
 refine ⟨w.heap.size + 1,[{ target:=.collected w.heap.size,args:=#[] }],W1,{ target:=.fn (.func gf) lb,args:=#[.func (.yield (w.heap.size + 1)) #[] #[]] },W1,gf,
  #[.func (.yield (w.heap.size + 1)) #[] #[]] ++ lb,W1,?_,?_,?_,?_,fun _=>h1,?_⟩
 ·rw [← hW1,hrec];exact run_enterLoop_outer _ _ _ _ _
 ·simp only [resolve,hg]
  simp [go_sem]
 ·intro f' hf';simp [Target.leads] at hf';subst hf';exact hFg
 ·simp [invoke,go_sem,eg]
 ·have put:∀ (U:Nat→Prop) (W:World) (o:Obj),¬ U (w.heap.size + 1)→Kept U W (W.putObj (w.heap.size + 1) o):=fun U W o h=>(Kept.refl U W).putObj h o
  have kl:∀ {g:Nat} {A B:World} {o:Obj},W1.heap.size ≤ g→A.heap[w.heap.size + 1]? = some o→Kept (fun k=>¬ k = g) A B→B.heap[w.heap.size + 1]? = some o:=fun hg hl hk=>(hk.block _ (Array.getElem?_eq_some_iff.1 hl).1 (by omega)).trans hl
  have kd:∀ {g:Nat} {A B:World} {o:Obj},W1.heap.size ≤ g→A.heap[w.heap.size]? = some o→Kept (fun k=>¬ k = g) A B→B.heap[w.heap.size]? = some o:=fun hg hl hk=>(hk.block _ (Array.getElem?_eq_some_iff.1 hl).1 (by omega)).trans hl
  refine (hseq W1 hb1 hs1 (w.heap.size + 1)
   (fun g pre W=>I g pre W∧W.heap[w.heap.size + 1]? = some (.loop (rec .ready none))∧W.heap[w.heap.size]? = some (.deferred (some [])))
   (fun g pre W=>∃ c,Ix c g pre W∧W.heap[w.heap.size + 1]? = some (.loop (rec .done (some c)))∧W.heap[w.heap.size]? = some (.deferred (some [])))
   (fun g hg s A B hs hk=>⟨hI g s A B (by omega) hs.1 (hk.mono fun _ _ h=>h.1),kl hg hs.2.1 hk,kd hg hs.2.2 hk⟩)
   (fun g hg s A B hs hk=>by
    obtain ⟨c,hc,hl,hd⟩:=hs
    exact ⟨c,hIx c g s A B (by omega) hc (hk.mono fun _ _ h=>h.1),kl hg hl hk,kd hg hd hk⟩)
   ?_ (fun g W' hg hb=>⟨h0 g W' (by omega) (hb1.trans (hb.mono (by omega))),(hb.block _ (by omega)).trans hL1,(hb.block _ (by omega)).trans hK1⟩)).mono ?_
  ·
   rintro g pre x W hgs ⟨hi,hl,hk⟩ hit hlen
   have hg2:w.heap.size + 2 ≤ g:=by omega
   have hlt:w.heap.size + 1 < W.heap.size:=(Array.getElem?_eq_some_iff.1 hl).1
   have hy:=run_yield (P:=P) (args:=encs g x) hl (by rw [hrec];exact hps g x)
   rw [hrec] at hy
   refine ⟨fn,_,assign,body,hy,roundIn_of_wpIn hfn (hassign _ g x W _ ⟨_,run_beginRound hl (by rw [hrec]),?_⟩)⟩
   have hl2:(W.putObj (w.heap.size + 1) (.loop { rec .ready none with state:=.busy })).heap[w.heap.size + 1]? = some (.loop { rec .ready none with state:=.busy }):=World.putObj_heap_same hlt
   have hk2:(W.putObj (w.heap.size + 1) (.loop { rec .ready none with state:=.busy })).heap[w.heap.size]? = some (.deferred (some [])):=(World.putObj_heap_other (by omega)).trans hk
   refine wpIn_mono (hbody _ g pre x _ hg2 (hI _ _ _ _ hg2 hi (put _ _ _ (fun h=>h.2 rfl))) (hIt _ _ _ _ _ hg2 hit (put _ _ _ (fun h=>h rfl))) hlen (by simp;omega)) ?_
   have hsz2:(W.putObj (w.heap.size + 1) (.loop { rec .ready none with state:=.busy })).heap.size = W.heap.size:=by simp
   have fin:∀ (jump:Option Code) (W3:World),Kept (fun k=>k = w.heap.size∨k = w.heap.size + 1) (W.putObj (w.heap.size + 1) (.loop { rec .ready none with state:=.busy })) W3 →
     (Instr.endRound (w.heap.size + 1) jump).run P W3 = .ok (.bool jump.isNone) (W3.putObj (w.heap.size + 1) (.loop (rec (if jump.isNone then .ready else .done) jump))) ∧
     (W3.putObj (w.heap.size + 1) (.loop (rec (if jump.isNone then .ready else .done) jump))).heap[w.heap.size + 1]? = some (.loop (rec (if jump.isNone then .ready else .done) jump)) ∧
     (W3.putObj (w.heap.size + 1) (.loop (rec (if jump.isNone then .ready else .done) jump))).heap[w.heap.size]? = some (.deferred (some [])):=fun jump W3 hk3=>by
    have hl3:=(hk3.block (w.heap.size + 1) (by rw [hsz2];exact hlt) (.inr rfl)).trans hl2
    have hd3:=(hk3.block w.heap.size (by rw [hsz2];omega) (.inl rfl)).trans hk2
    have:=run_endRound (P:=P) jump hl3
    rw [hrec] at this ⊢
    exact ⟨this,World.putObj_heap_same (Array.getElem?_eq_some_iff.1 hl3).1,(World.putObj_heap_other (by omega)).trans hd3⟩
   rintro e a3 W3 hp
   cases e with
   | normal=>
    obtain ⟨hk3,hi3⟩:=hp
    obtain ⟨hr,hl4,hk4⟩:=fin none W3 (hk3.mono fun _ _ h=>.inr h)
    exact ⟨_,_,hr,.inl ⟨rfl,⟨hI _ _ _ _ hg2 hi3 (put _ _ _ (fun h=>h.2 rfl)),hl4,hk4⟩,((put (fun k=>k = g∨k < n0) W _ (by omega)).trans (hk3.mono fun _ _ h=>.inl h)).trans (put (fun k=>k = g∨k < n0) _ _ (by omega))⟩⟩
   | ret=>
    obtain ⟨hk3,hi3⟩:=hp
    obtain ⟨hr,hl4,hk4⟩:=fin (some .ret) W3 hk3
    exact ⟨_,_,hr,.inr ⟨rfl,.ret,hIx _ _ _ _ _ hg2 hi3 (put _ _ _ (fun h=>h.2 rfl)),hl4,hk4⟩⟩
   | exit id=>
    obtain ⟨hk3,hi3⟩:=hp
    obtain ⟨hr,hl4,hk4⟩:=fin (some (.exit id)) W3 hk3
    exact ⟨_,_,hr,.inr ⟨rfl,.exit id,hIx _ _ _ _ _ hg2 hi3 (put _ _ _ (fun h=>h.2 rfl)),hl4,hk4⟩⟩
   | goto t=>
    obtain ⟨hk3,hi3⟩:=hp
    obtain ⟨hr,hl4,hk4⟩:=fin (some (.goto t)) W3 hk3
    exact ⟨_,_,hr,.inr ⟨rfl,.goto t,hIx _ _ _ _ _ hg2 hi3 (put _ _ _ (fun h=>h.2 rfl)),hl4,hk4⟩⟩
   | panic ch=>exact hp.elim
   | outgrown=>exact hp.elim
  ·
   rintro e W2 ⟨⟨v,rfl⟩,g,hgs,(⟨xs,hS,hi,hl,hk⟩ | ⟨pre,hSp,c,hi,hl,hk⟩)⟩
   all_goals have hg2:w.heap.size + 2 ≤ g:=by omega
   ·have hlt:=(Array.getElem?_eq_some_iff.1 hl).1
    exact ⟨none,_,by have:=run_endLoop (P:=P) hl (by rw [hrec];simp);rw [hrec] at this;exact this,hdone g xs _ hg2 hS (hI _ _ _ _ hg2 hi (put _ _ _ (fun h=>h.2 rfl))) (by simp;omega) ((World.putObj_heap_other (by omega)).trans hk)⟩
   ·have hlt:=(Array.getElem?_eq_some_iff.1 hl).1
    exact ⟨some c,_,by have:=run_endLoop (P:=P) hl (by rw [hrec];simp);rw [hrec] at this;exact this,hstop g c pre _ hg2 hSp (hIx c _ _ _ _ hg2 hi (put _ _ _ (fun h=>h.2 rfl))) (by simp;omega) ((World.putObj_heap_other (by omega)).trans hk)⟩
end Go.Proofs.YtnohglkilpnjhaaGreatDoor
namespace Go.Proofs.YtnohglkilpnjhaaGreatDoor
open Go.RowKit Go.Shelf
attribute [local go_sem] Oper.semAt_some
def walkP:Nat→Nat→Nat→List (Nat × Nat)
 | 0,_,_=>[]
 | f + 1,n,i=>if n ≤ 1 then [] else (n,i) :: walkP f ((n + 1) / 2) (i / 2)
def walkN (n i:Nat):List (Nat × Nat):=walkP 1024 n i
theorem walkP_more (f g n i:Nat) (hf:n ≤ f) (hg:n ≤ g):walkP f n i = walkP g n i:=by
 induction f generalizing g n i with
 | zero=>
  cases g with
  | zero=>rfl
  | succ g=>simp only [walkP];rw [if_pos (by omega)]
 | succ f ih=>
  cases g with
  | zero=>simp only [walkP];rw [if_pos (by omega)]
  | succ g=>
   simp only [walkP]
   split
   ·rfl
   ·rw [ih g _ _ (by omega) (by omega)]
theorem walkN_step {n i:Nat} (h:1 < n) (hn:n ≤ 1024):walkN n i = (n,i) :: walkN ((n + 1) / 2) (i / 2):=by
 unfold walkN
 rw [walkP,if_neg (by omega),walkP_more 1023 1024 _ _ (by omega) (by omega)]
theorem walkN_end {n i:Nat} (h:n ≤ 1):walkN n i = []:=by
 unfold walkN
 rw [walkP,if_pos h]
end Go.Proofs.YtnohglkilpnjhaaGreatDoor
namespace Go.Proofs.YtnohglkilpnjhaaGreatDoor
open Go.RowKit
set_option maxRecDepth 100000 in
set_option maxHeartbeats 800000 in
theorem DClone_any (v:Value) (l:List (List UInt8)) (w:World) (hl:Digs w v l) (hlen:l.length ≤ 1099511627776) :
  Calls Tryz.prog 162 #[v] w fun e w'=>∃ v',e = .returned v'∧OwnD w' w.heap.size v' l∧Below w.heap.size w w':=by
 obtain ⟨a,c,hv⟩:=hl.len
 have he:=fun (w:World) (a:Option Addr) (n c:Nat)=>Lib.run_eql_slice_nil (P:=Tryz.prog) w 34 31 a n c 0 0 Tryz.underlying34
 cases a with
 | none=>
  have hl0:l = []:=by
   obtain ⟨_,_,a',c',hv',h1,_,h3,_⟩:=hl
   rw [hv'] at hv;cases hv
   have:=h3 rfl
   exact List.eq_nil_of_length_eq_zero (by omega)
  subst hl0
  have hc:c = 0:=by
   obtain ⟨_,_,a',c',hv',h1,_,h3,_⟩:=hl
   rw [hv'] at hv;cases hv
   exact h3 rfl
  subst hc
  subst hv
  go_enter Tryz.func162,Tryz.ntmps162
  go_wp2
  go_ret
  exact ⟨_,rfl,OwnD.nil _ _,Below.refl _ _⟩
 | some a=>
  subst hv
  have HO:=Lib.hid (ownD_empty w)
  have HL:=Lib.hid (hl.of_new ((Below.refl _ w).alloc (Nat.le_refl _) (.cells #[] 31)))
  clear hl
  go_enter Tryz.func162,Tryz.ntmps162
  go_wp2_with (at_builtin;refine wpList_appD rfl (.tmp 5) (.tmp 6) 34 rfl w.heap.size Tryz.underlying34 _ [] rfl HO.out _ l rfl HL.out ?c1 ?c2 ?_)
  case c1=>first | omega | (simp;omega)
  case c2=>simp
  intro v1 w1 hown1 hg1 _
  have hbA:Below w.heap.size w w1:=((Below.refl _ w).alloc (Nat.le_refl _) _).grown hg1 (by simp) (fun j hj=>by cases hj;exact Nat.le_refl _)
  clear hg1
  go_wp2
  go_ret
  exact ⟨_,rfl,by simpa using hown1,hbA⟩
end Go.Proofs.YtnohglkilpnjhaaGreatDoor
namespace Go.Proofs.YtnohglkilpnjhaaGreatDoor
open Go.RowKit Go.Shelf
attribute [local go_sem] Oper.semAt_some
theorem or_ones:(List.range 1024).all (fun k=>bits .or .i64 (((k:Nat):Int) * 2) 1 == ((k:Nat):Int) * 2 + 1 && IntKind.i64.wrap (((k:Nat):Int) * 2) == ((k:Nat):Int) * 2) = true:=by decide +kernel
theorem and_ones:(List.range 2049).all (fun k=>bits .and .i64 ((k:Nat):Int) 1 == ((k % 2:Nat):Int)) = true:=by decide +kernel
theorem and_one (k:Nat) (h:k ≤ 2048):bits .and .i64 (k:Int) 1 = ((k % 2:Nat):Int):=by
 have:=List.all_eq_true.1 and_ones k (List.mem_range.2 (by omega))
 simpa using this
theorem or_one (k:Nat) (h:k < 1024):bits .or .i64 ((k:Int) * 2) 1 = (k:Int) * 2 + 1∧IntKind.i64.wrap ((k:Int) * 2) = (k:Int) * 2:=by
 have:=List.all_eq_true.1 or_ones k (List.mem_range.2 h)
 simpa using this
abbrev encR (g:Nat) (x:List (List UInt8) × Nat):Array Value:=#[.slice (some ⟨g,0,none⟩) x.1.length x.2]
set_option maxRecDepth 100000 in
set_option maxHeartbeats 1600000 in
theorem rows_seq (n:Nat) (hn:1 ≤ n) (bl n0:Nat) (v:Value) (l0:List (List UInt8)) (h1:0 < l0.length) (hlen:l0.length ≤ 2048) (W:World) (w0:World) (hK:Consts w0) (hw0:w0.heap.size = n0) (hb0:Below n0 w0 W) (hc:W.cell? ⟨bl,0,none⟩ = some v) (hl:Digs W v l0) :
  SeqG Fence.wide n Tryz.prog 161 #[.pointer (some ⟨bl,0,none⟩)] encR (fun g pre x W'=>(pre ++ [x]).map (·.1) <+: rowsL l0∧OwnD W' W.heap.size (.slice (some ⟨g,0,none⟩) x.1.length x.2) x.1)
   (fun xs=>xs.map (·.1) = rowsL l0) (fun _=>True) n0 (rowsL l0).length W:=fun l J Jx hJ hJx hY h0=>by
 obtain ⟨va,vc,hv⟩:=hl.len
 subst hv
 have HL:=Lib.hid hl
 clear hl
 refine callsIn_of_wp Tryz.func161 rfl trivial ?_ rfl
 simp only [Tryz.ntmps161,List.size_toArray,List.length_cons,List.length_nil,Nat.reduceAdd,Nat.reduceSub,Array.replicate_succ,Array.replicate_zero,List.push_toArray,List.append_toArray,List.nil_append,List.cons_append]
 gi_wp2_with (refine ⟨trivial,?_⟩;gi_at_call 162;refine (callsIn_wide.2 (DClone_any _ l0 _ HL.out (by omega))).mono ?_;rintro e w1 ⟨v1,rfl,ho1,hb1⟩)
 obtain ⟨g,cap,rfl,hg⟩:∃ g cap,v1 = .slice (some ⟨g,0,none⟩) l0.length cap∧W.heap.size ≤ g:=by
  rcases ho1.2.2 with ⟨_,h⟩ | ⟨g,cap,cur,hv,hb,_⟩
  ·omega
  ·exact ⟨g,cap,hv,hb⟩
 have hj0:=h0 g w1 hg hb1
 have hB1:Below n0 w0 w1:=hb0.trans (hb1.mono (by have:=hb0.size;omega))
 have hn0:n0 ≤ W.heap.size:=by have:=hb0.size;omega
 clear h0 hb1 hc
 gi_loopw [3] (fun v wr=>∃ (pre:List (List (List UInt8) × Nat)) (cur:List (List UInt8)) (cap:Nat),v = .slice (some ⟨g,0,none⟩) cur.length cap∧rowsL l0 = pre.map (·.1) ++ rowsL cur∧0 < cur.length∧cur.length ≤ 2048 ∧
   OwnD wr W.heap.size (.slice (some ⟨g,0,none⟩) cur.length cap) cur∧Below n0 w0 wr∧J g pre wr)
  (fun v _=>match v with | .slice _ n _=>n | _=>0)
 case atStart=>exact ⟨[],l0,cap,rfl,rfl,h1,hlen,ho1,hB1,hj0⟩
 case round=>
  clear ho1 hj0 h1 hlen hB1
  obtain ⟨pre,cur,cap,rfl,hrow,h1,hlen,ho,hB,hj⟩:=hrel
  have HR:=Lib.hid hrow
  have HO:=Lib.hid ho
  have HB:=Lib.hid hB
  clear hrow ho hB
  by_cases hlt:1 < cur.length
  ·obtain ⟨fn,tmps,assign,body,hy,hR⟩:=hY g pre (cur,cap) wr hg hj ⟨by rw [HR.out,rowsL_step hlt];simp,HO.out⟩ (by rw [HR.out,rowsL_step hlt];simp)
   dsimp only [encR] at hy
   have ht:((1:Int) < (cur.length:Int)):=by omega
   gi_wp2
   refine hR.mono ?_
   rintro e W3 (⟨rfl,hJ3,hk3⟩ | ⟨rfl,hJx3⟩)
   ·have ho3:OwnD W3 W.heap.size (.slice (some ⟨g,0,none⟩) cur.length cap) cur:=by
     refine ⟨HO.out.1,HO.out.2.1,?_⟩
     rcases HO.out.2.2 with ⟨h,_⟩ | ⟨g',cap',cur',hv,hb,hh,hr⟩
     ·cases h
     ·cases hv
      exact .inr ⟨g,cap,cur',rfl,hb,(hk3.block g (Array.getElem?_eq_some_iff.1 hh).1 (.inl rfl)).trans hh,hr⟩
    have hB3:Below n0 w0 W3:=Kept.to_below HB.out hk3 (by have:=HB.out.size;omega) (fun k hk=>.inr hk)
    have HO3:=Lib.hid ho3
    have HB3:=Lib.hid hB3
    clear ho3 hB3
    gi_wp2
    refine wpIn_wide.2 ?_
    go_loopw [17] (fun iv wr=>∃ k:Nat,k ≤ cur.length / 2∧iv = .int .i64 (k:Int)∧OwnD wr W.heap.size (.slice (some ⟨g,0,none⟩) cur.length cap) (contL cur k)∧Below n0 w0 wr∧Kept (fun k=>¬ k = g) W3 wr)
     (fun iv _=>cur.length - (intOf iv).toNat)
    case atStart=>exact ⟨0,by omega,rfl,by simpa [contL] using HO3.out,HB3.out,Kept.refl _ _⟩
    case round=>
     obtain ⟨k,hk,rfl,ho4,hb4,hk4⟩:=hrel
     by_cases hlt2:k < cur.length / 2
     ·have t1:((k:Int) < (cur.length:Int) / 2):=by omega
      obtain ⟨e1,e2⟩:=or_one k (by omega)
      have e3:((k:Int) * 2).toNat = 2 * k:=by omega
      have e4:((k:Int) * 2 + 1).toNat = 2 * k + 1:=by omega
      have b1:(0:Int) ≤ (k:Int) * 2:=by omega
      have b2:(k:Int) * 2 < (cur.length:Int):=by omega
      have b3:(0:Int) ≤ (k:Int) * 2 + 1:=by omega
      have b4:(k:Int) * 2 + 1 < (cur.length:Int):=by omega
      have b5:k < cur.length:=by omega
      have hcl:=contL_len hk
      obtain ⟨bb,boff,bc,hbv,hbl,hat⟩:=ho4.digs.at_ (by omega)
      obtain ⟨rfl,rfl⟩:bb = g∧boff = 0:=by
       simp only [Value.slice.injEq,Option.some.injEq,Addr.mk.injEq] at hbv
       exact ⟨hbv.1.1.symm,hbv.1.2.1.symm⟩
      have hglt:bb < wr.heap.size:=hbl
      have d1:(cur.getD (2 * k) []).length = 32:=HO.out.1.getD (by omega)
      have d2:(cur.getD (2 * k + 1) []).length = 32:=HO.out.1.getD (by omega)
      have hx1:∀ j,j < 32→wr.cell? ⟨bb,2 * k * 32 + j,none⟩ = ((cur.getD (2 * k) []).map B8)[j]?:=fun j hj=>by
       have:=hat (2 * k) (by omega) j hj
       rwa [Nat.zero_add,contL_at hk (by omega)] at this
      have hx2:∀ j,j < 32→wr.cell? ⟨bb,(2 * k + 1) * 32 + j,none⟩ = ((cur.getD (2 * k + 1) []).map B8)[j]?:=fun j hj=>by
       have:=hat (2 * k + 1) (by omega) j hj
       rwa [Nat.zero_add,contL_at hk (by omega)] at this
      have HX1:=Lib.hid hx1
      have HX2:=Lib.hid hx2
      have HB4:=Lib.hid hb4
      have HO4:=Lib.hid ho4
      have D1:=Lib.hid d1
      have D2:=Lib.hid d2
      have HCL:=Lib.hid hcl
      clear hx1 hx2 hat hbv hb4 ho4 d1 d2 hcl
      go_upto_region 6 with (fail)
      refine wp_region_grew_tail 14 (by kernel_rfl) (by kernel_rfl) ?_
      simp only [List.take_succ_cons,List.take_zero,List.drop_succ_cons,List.drop_zero]
      (go_big_quiet_want;apply quiet_val;(intro w' hw';go_simp;first | done | rfl);go_simp;go_big_quiet_on)
      (go_big_quiet_want;apply quiet_val;(intro w' hw';go_simp;first | done | rfl);go_simp;go_big_quiet_on)
      (go_big_quiet_want;apply quiet_val;(intro w' hw';go_simp;first | done | rfl);go_simp;go_big_quiet_on)
      (go_big_quiet_want;apply quiet_val;(intro w' hw';go_simp;first | done | rfl);go_simp;go_big_quiet_on)
      (go_big_quiet_want;apply quiet_val;(intro w' hw';go_simp;first | done | rfl);go_simp;go_big_quiet_on)
      (go_big_quiet_want;apply quiet_val;(intro w' hw';go_simp;first | done | rfl);go_simp;go_big_quiet_on)
      (go_big_quiet_want;(with_reducible refine quiet_load_dig (.tmp 25) bb (2 * k * 32) (cur.getD (2 * k) []) ?_ ?_ ?_ ?_ ?_ ?_);rfl;rfl;exact D1.out;exact hglt;exact HX1.out;go_simp;go_big_quiet_on)
      (go_big_quiet_want;apply quiet_val;(intro w' hw';go_simp;first | done | rfl);go_simp;go_big_quiet_on)
      (go_big_quiet_want;apply quiet_val;(intro w' hw';go_simp;first | done | rfl);go_simp;go_big_quiet_on)
      (go_big_quiet_want;apply quiet_val;(intro w' hw';go_simp;first | done | rfl);go_simp;go_big_quiet_on)
      (go_big_quiet_want;apply quiet_val;(intro w' hw';go_simp;first | done | rfl);go_simp;go_big_quiet_on)
      (go_big_quiet_want;apply quiet_val;(intro w' hw';go_simp;first | done | rfl);go_simp;go_big_quiet_on)
      (go_big_quiet_want;(with_reducible refine quiet_load_dig (.tmp 31) bb ((2 * k + 1) * 32) (cur.getD (2 * k + 1) []) ?_ ?_ ?_ ?_ ?_ ?_);rfl;rfl;exact D2.out;exact hglt;exact HX2.out;go_simp;go_big_quiet_on)
      (go_big_quiet_want;apply quiet_call (f:=111);(intro w' hw';go_simp;first | done | rfl);(intro w' hw';exact Grew.call hw' (Node_any _ _ _ D1.out D2.out (hK.of_new (by rw [hw0];exact HB4.out.trans (Below.mono hw' (by have:=HB4.out.size;omega))))));go_simp;go_big_quiet_on)
      refine wpQuiet_nil ?_
      intro w5 hw5
      have HO5:=Lib.hid (OwnD.of_new HO4.out hw5)
      have HW5:=Lib.hid hw5
      clear hw5
      go_wp2_with ((with_reducible refine wpList_store_dig (op:=⟨none,Op.store 31 (.tmp 34) (.tmp 33),_,_,_,_⟩) (.tmp 34) (.tmp 33) W.heap.size bb cur.length cap (contL cur k) k (nodeL (cur.getD (2 * k) []) (cur.getD (2 * k + 1) [])) ?g ?ho ?hx ?hy ?hh ?hi ?hd ?_);(case g=>rfl);(case ho=>rfl);(case hx=>rfl);(case hy=>simp only [List.getD_eq_getElem?_getD];rfl);(case hh=>exact HO5.out);(case hi=>rw [HCL.out];exact b5);(case hd=>exact nodeL_len _ _);intro cs hcs)
      have hset:=contL_set (l:=cur) (k:=k) (by omega) hk
      rw [aboveL_at cur k (by omega)] at hset
      refine ⟨⟨k + 1,by omega,by simp,?_,?_,?_⟩,by simp [intOf];omega⟩
      ·show OwnD _ _ _ ((aboveL cur).take (k + 1) ++ cur.drop (k + 1))
       rw [← hset];exact hcs
      ·exact (HB4.out.trans (Below.mono HW5.out (by have:=HB4.out.size;omega))).trans (below_setRow' _ _ _ (by omega))
      ·exact (hk4.below HW5.out).grown (grown_setRow _ _ _) (fun r e=>by cases e;simp)
     ·obtain rfl:k = cur.length / 2:=by omega
      have t1:¬ (((cur.length / 2:Nat):Int) < (cur.length:Int) / 2):=by omega
      have HB4:=Lib.hid hb4
      have HO4:=Lib.hid ho4
      have HK4:=Lib.hid hk4
      clear hb4 ho4 hk4
      have hcap:cur.length ≤ cap:=by
       rcases HO.out.2.2 with ⟨h,_⟩ | ⟨g',cap',cur',hv,hb,hh,hn,_⟩
       ·cases h
       ·cases hv;exact hn
      have c1:((cur.length:Int) + 1) / 2 ≤ (cap:Int):=by omega
      have c0:(0:Int) ≤ ((cur.length:Int) + 1) / 2:=by omega
      have hand:=and_one cur.length hlen
      go_wp2
      refine wpIn_wide.2 ?_
      by_cases hodd:cur.length % 2 = 1
      ·rw [hodd] at hand
       have hcl:=contL_len hk
       have f1:(0:Int) ≤ (cur.length:Int) - 1:=by omega
       have f2:(cur.length:Int) - 1 < (cur.length:Int):=by omega
       have f3:((cur.length:Int) - 1).toNat = cur.length - 1:=by omega
       have f4:cur.length / 2 < cur.length:=by omega
       obtain ⟨bb,boff,bc,hbv,hbl,hat⟩:=HO4.out.digs.at_ (by omega)
       obtain ⟨rfl,rfl⟩:bb = g∧boff = 0:=by
        simp only [Value.slice.injEq,Option.some.injEq,Addr.mk.injEq] at hbv
        exact ⟨hbv.1.1.symm,hbv.1.2.1.symm⟩
       have hx1:∀ j,j < 32→wr.cell? ⟨bb,(cur.length - 1) * 32 + j,none⟩ = ((cur.getD (cur.length - 1) []).map B8)[j]?:=fun j hj=>by
        have:=hat (cur.length - 1) (by omega) j hj
        rwa [Nat.zero_add,contL_at hk (by omega)] at this
       have HX1:=Lib.hid hx1
       have D1:=Lib.hid (HO.out.1.getD (show cur.length - 1 < cur.length by omega))
       have HCL:=Lib.hid hcl
       clear hx1 hat hbv hcl
       go_upto_region 9 with (fail)
       go_wp2_with (first
        | ((with_reducible refine wpList_load_dig (op:=⟨some 49,Op.load 31 (.tmp 48),_,_,_,_⟩) (.tmp 48) bb ((cur.length - 1) * 32) (cur.getD (cur.length - 1) []) ?g ?ho ?hx ?hd ?hc ?_);(case g=>rfl);(case ho=>rfl);(case hx=>rfl);(case hd=>exact D1.out);(case hc=>exact HX1.out))
        | ((with_reducible refine wpList_store_dig (op:=⟨none,Op.store 31 (.tmp 50) (.tmp 49),_,_,_,_⟩) (.tmp 50) (.tmp 49) W.heap.size bb cur.length cap (contL cur (cur.length / 2)) (cur.length / 2) (cur.getD (cur.length - 1) []) ?g ?ho ?hx ?hy ?hh ?hi ?hd ?_);(case g=>rfl);(case ho=>rfl);(case hx=>rfl);(case hy=>simp only [List.getD_eq_getElem?_getD];rfl);(case hh=>exact HO4.out);(case hi=>rw [HCL.out];exact f4);(case hd=>exact D1.out);intro cs hcs))
       have hset:=contL_set (l:=cur) (k:=cur.length / 2) (by omega) hk
       rw [aboveL_last cur hodd,List.take_of_length_le (by rw [aboveL_len];omega)] at hset
       refine ⟨⟨pre ++ [(cur,cap)],aboveL cur,cap,by rw [aboveL_len],by rw [HR.out,rowsL_step hlt];simp,by rw [aboveL_len];omega,by rw [aboveL_len];omega,?_,
        HB4.out.trans (below_setRow' _ _ _ (by omega)),hJ bb hg _ _ _ hJ3 (HK4.out.grown (grown_setRow _ _ _) (fun r e=>by cases e;simp))⟩,by simp;omega⟩
       rw [hset] at hcs
       have:=OwnD.first (m:=(aboveL cur).length) hcs (by rw [List.length_append];omega)
       rwa [List.take_left' rfl] at this
      ·rw [show cur.length % 2 = 0 by omega] at hand
       go_wp2
       go_roundw
       case rel=>
        have hc0:contL cur (cur.length / 2) = aboveL cur ++ cur.drop (cur.length / 2):=by
         unfold contL
         rw [List.take_of_length_le (by rw [aboveL_len];omega)]
        refine ⟨pre ++ [(cur,cap)],aboveL cur,cap,by rw [aboveL_len],by rw [HR.out,rowsL_step hlt];simp,by rw [aboveL_len];omega,by rw [aboveL_len];omega,?_,HB4.out,hJ g hg _ _ _ hJ3 HK4.out⟩
        have:=OwnD.first (m:=(aboveL cur).length) HO4.out (by rw [contL_len hk,aboveL_len];omega)
        rwa [hc0,List.take_left' rfl] at this
       case measure=>simp;omega
   ·gi_wp2
    refine bodyPost_ret (results_none rfl _ _ _) rfl ?_
    exact ⟨⟨_,rfl⟩,g,hg,.inr ⟨_,trivial,hJx3⟩⟩
  ·obtain ⟨fn,tmps,assign,body,hy,hR⟩:=hY g pre (cur,cap) wr hg hj ⟨by rw [HR.out,rowsL_end (by omega)];simp,HO.out⟩ (by rw [HR.out,rowsL_end (by omega)];simp)
   dsimp only [encR] at hy
   have ht:¬ ((1:Int) < (cur.length:Int)):=by omega
   gi_wp2
   refine hR.mono ?_
   rintro e W3 (⟨rfl,hJ3,hk3⟩ | ⟨rfl,hJx3⟩)
   ·gi_wp2
    go_end0
    exact ⟨⟨_,rfl⟩,g,hg,.inl ⟨pre ++ [(cur,cap)],by rw [HR.out,rowsL_end (by omega)];simp,hJ3⟩⟩
   ·gi_wp2
    go_end0
    exact ⟨⟨_,rfl⟩,g,hg,.inr ⟨_,trivial,hJx3⟩⟩
attribute [local go_sem] Oper.semAt_some
set_option maxRecDepth 100000 in
set_option maxHeartbeats 800000 in
theorem rows_any (a:Option Addr) (n c:Nat) (w:World) :
  Calls Tryz.prog 119 #[.slice a n c] w fun e w'=>e = .returned (.func (.func 161) #[] #[.pointer (some ⟨w.heap.size,0,none⟩)])∧w' = w.alloc (.cells #[.slice a n c] 34):=by
 go_enter Tryz.func119,Tryz.ntmps119
 go_wp2
 go_ret
 exact ⟨rfl,rfl⟩
theorem wpListIn_load_dig {F:Fence} {m:Nat} {w:World} {ops:Array Oper} {rest:List Oper} {op:Oper} {a:Act} {Q:Exit→Act→World→Prop} (x:Operand) (g off:Nat) (d:List UInt8) (hgd:op.guard = none) (ho:op.op = .load 31 x)
  (hx:a.eval x = .pointer (some ⟨g,off,none⟩)) (hd:d.length = 32) (hc:∀ j,j < 32→w.cell? ⟨g,off + j,none⟩ = (d.map B8)[j]?)
  (h:wpListIn F m Tryz.prog ops Q rest (a.put op.dst (.agg (d.map B8).toArray)) w):wpListIn F m Tryz.prog ops Q (op :: rest) a w:=by
 refine wpListIn_plain hgd fun K hK'=>?_
 have hrun:=run_load_dig w g off d hd hc
 unfold Oper.wpIn
 refine ⟨?_,?_⟩
 ·simp [Oper.about,ho]
 ·rw [Oper.semAt_plain F _ _ (by rw [ho];intro c hc';cases hc')]
  simp only [execOp,ho,hx,Instr.loadAt,Instr.sureAddr,Sem.run_bind,Sem.run_pure,Result.andThen_ok,hrun]
  exact hK' _ _ h
theorem wpListIn_store_octs {F:Fence} {m:Nat} {w:World} {ops:Array Oper} {rest:List Oper} {op:Oper} {a:Act} {Q:Exit→Act→World→Prop} (x y:Operand) (g t:Nat) (old ws:List UInt8) (hgd:op.guard = none) (ho:op.op = .store 31 x y)
  (hx:a.eval x = .pointer (some ⟨g,0,none⟩)) (hy:a.eval y = .agg (ws.map B8).toArray) (hg:Octs w g t old) (hw:ws.length = 32) (hs:old.length = 32)
  (h:wpListIn F m Tryz.prog ops Q rest (a.put op.dst undef) (w.setRow g (ws.map B8).toArray)):wpListIn F m Tryz.prog ops Q (op :: rest) a w:=by
 refine wpListIn_plain hgd fun K hK'=>?_
 have hrun:=run_storeVar_row (P:=Tryz.prog) w g t 31 _ (ws.map B8).toArray hg (by rw [info_dig];simp [hw]) (by simp [hw,hs]) (octs_one ws)
 unfold Oper.wpIn
 refine ⟨?_,?_⟩
 ·simp [Oper.about,ho]
 ·rw [Oper.semAt_plain F _ _ (by rw [ho];intro c hc';cases hc')]
  simp only [execOp,ho,hx,hy,Instr.storeAt,Instr.sureAddr,Sem.run_bind,Sem.run_pure,Result.andThen_ok,hrun]
  exact hK' _ _ h
def rootL (l:List (List UInt8)):List UInt8:=if l.length = 0 then noneL else ((rowsL l).getLastD []).getD 0 []
def headP (pre:List (List (List UInt8) × Nat)):List UInt8:=match pre.getLast? with | none=>List.replicate 32 0 | some x=>x.1.getD 0 []
theorem headP_snoc (pre:List (List (List UInt8) × Nat)) (x:List (List UInt8) × Nat):headP (pre ++ [x]) = x.1.getD 0 []:=by simp [headP]
theorem rowsP_ne:∀ (f:Nat) (l:List (List UInt8)),0 < l.length→∀ r ∈ rowsP f l,0 < r.length
 | 0,l,h,r,hr=>by simp only [rowsP,List.mem_singleton] at hr;rw [hr];exact h
 | f + 1,l,h,r,hr=>by
  simp only [rowsP] at hr
  split at hr
  ·simp only [List.mem_singleton] at hr;rw [hr];exact h
  ·rcases List.mem_cons.1 hr with rfl | hr
   ·exact h
   ·exact rowsP_ne f (aboveL l) (by rw [aboveL_len];omega) r hr
theorem headP_rows {xs:List (List (List UInt8) × Nat)} (h:xs ≠ []):headP xs = ((xs.map (·.1)).getLastD []).getD 0 []:=by
 obtain ⟨ys,y,rfl⟩:∃ ys y,xs = ys ++ [y]:=⟨xs.dropLast,xs.getLast h,(List.dropLast_concat_getLast h).symm⟩
 rw [headP_snoc]
 simp
theorem parts_nil (w:World):PartsV w (.slice none 0 0) []:=⟨none,0,rfl,Nat.le_refl _,by unfold maxLen;omega,fun _=>rfl,fun h=>by simp at h⟩
set_option maxRecDepth 100000 in
set_option maxHeartbeats 800000 in
theorem Root_none (va:Option Addr) (vc:Nat) (w:World) (hK:Consts w) :
  Calls Tryz.prog 74 #[.slice va 0 vc] w fun e w'=>e = .returned (.agg (noneL.map B8).toArray)∧Below w.heap.size w w':=by
 have HDL:=Lib.hid noneL_len
 go_enter Tryz.func74,Tryz.ntmps74
 go_wp2_with fail
 generalize hW1:(w.alloc _) = W1
 obtain ⟨hR,hb1,hz⟩:Octs W1 w.heap.size 31 (List.replicate 32 0)∧Below w.heap.size w W1∧w.heap.size + 1 = W1.heap.size:=by
  subst hW1
  exact ⟨heap_alloc_new w _,(Below.refl _ w).alloc (Nat.le_refl _) _,by simp⟩
 clear hW1
 refine (Tagged_any 2 _ [] W1 (parts_nil _) (by simp) (by simp) (hK.of_new hb1)).mono ?_
 rintro e w2 ⟨rfl,hb2⟩
 have hR2:=Lib.hid (hR.of_block (hb2.block _ (by omega)))
 have hbF:=Lib.hid (below_next hb1 (hb2.mono (by omega)))
 clear hb2 hb1 hR
 go_wp2_with ((with_reducible refine wpList_store_octs (op:=⟨none,Op.store 31 (.tmp 2) (.tmp 8),_,_,_,_⟩) 31 (.tmp 2) (.tmp 8) (w.heap.size) 31 (List.replicate 32 (0:UInt8)) (sumL (partsL 2 [])) ?g ?ho ?hx ?hy ?hh ?hi ?hs ?_);(case g=>rfl);(case ho=>rfl);(case hx=>rfl);(case hy=>rfl);(case hh=>exact hR2.out);(case hi=>rw [show sumL (partsL 2 []) = noneL from rfl,HDL.out];kernel_rfl);(case hs=>rw [show sumL (partsL 2 []) = noneL from rfl,HDL.out];rfl))
 refine bodyPost_ret (results_cell rfl _ rfl (run_loadVar_row _ _ 31 _ (noneL.map B8).toArray (0,0) _ (setRow_heap _ _ _ _ _ _ hR2.out) Tryz.underlying31 rfl (by rw [info_dig];simp [noneL_len]))) rfl ⟨rfl,?_⟩
 exact hbF.out.trans (below_setRow' _ _ _ (Nat.le_refl _))
set_option maxRecDepth 100000 in
set_option maxHeartbeats 1600000 in
theorem Root_any (v:Value) (l:List (List UInt8)) (w:World) (hl:Digs w v l) (hlen:l.length ≤ 2048) (hK:Consts w) :
  Calls Tryz.prog 74 #[v] w fun e w'=>e = .returned (.agg ((rootL l).map B8).toArray)∧Below w.heap.size w w':=by
 obtain ⟨va,vc,hv⟩:=hl.len
 subst hv
 have HL:=Lib.hid hl
 clear hl
 by_cases h0:l.length = 0
 ·have:=Root_none va vc w hK
  unfold rootL
  rw [if_pos h0,h0]
  exact this
 have t0:¬ ((l.length:Int) = 0):=by omega
 refine (callsIn_wide (n:=3)).1 ?_
 refine callsIn_of_wp_marks Tryz.func74 rfl trivial ?_ rfl
 simp only [Tryz.ntmps74,List.size_toArray,List.length_cons,List.length_nil,Nat.reduceAdd,Nat.reduceSub,Array.replicate_succ,Array.replicate_zero,List.push_toArray,List.append_toArray,List.nil_append,List.cons_append]
 gi_wp2_with (refine ⟨trivial,?_⟩;gi_at_call 119;refine (callsIn_wide.2 (rows_any _ _ _ _)).mono ?_;rintro e w' ⟨rfl,rfl⟩)
 generalize hW0:((w.alloc _).alloc _).alloc _ = W0
 obtain ⟨hsz,hB0,o1,o2,o3⟩:W0.heap.size = w.heap.size + 3∧Below w.heap.size w W0∧Octs W0 w.heap.size 31 (List.replicate 32 0)∧Octs W0 (w.heap.size + 1) 31 (List.replicate 32 0)∧W0.heap[w.heap.size + 1 + 1]? = some (.cells #[.slice va l.length vc] 34):=by
  subst hW0
  refine ⟨by simp,(((Below.refl _ w).alloc (Nat.le_refl _) _).alloc (by simp) _).alloc (by simp;omega) _,?_,?_,?_⟩
  ·exact (Below.heap_alloc _ _ _ (by simp;omega)).trans ((Below.heap_alloc _ _ _ (by simp)).trans (heap_alloc_new _ _))
  ·refine (Below.heap_alloc _ _ _ (by simp)).trans ?_
   have:=heap_alloc_new (w.alloc (.cells ((List.replicate 32 (0:UInt8)).map B8).toArray 31)) (.cells ((List.replicate 32 (0:UInt8)).map B8).toArray 31)
   rwa [World.size_alloc] at this
  ·have:=heap_alloc_new ((w.alloc (.cells ((List.replicate 32 (0:UInt8)).map B8).toArray 31)).alloc (.cells ((List.replicate 32 (0:UInt8)).map B8).toArray 31)) (.cells #[.slice va l.length vc] 34)
   rwa [World.size_alloc,World.size_alloc] at this
 clear hW0
 refine wpIn_rangeFunc_block (F:=Fence.wide) (n:=3) rfl (by omega) (gf:=161) (lb:=#[.pointer (some ⟨w.heap.size + 1 + 1,0,none⟩)]) rfl trivial
  (enters_of Tryz.func161 (by kernel_rfl) rfl)
  (encs:=encR) (It:=fun g pre x W'=>(pre ++ [x]).map (·.1) <+: rowsL l∧OwnD W' (W0.heap.size + 2) (.slice (some ⟨g,0,none⟩) x.1.length x.2) x.1)
  (S:=fun xs=>xs.map (·.1) = rowsL l) (Sp:=fun _=>True) (n0:=w.heap.size) (N:=(rowsL l).length) (by omega)
  (fun W1 hb1 hs1=>by
   have e1:W1.cell? ⟨w.heap.size + 1 + 1,0,none⟩ = some (.slice va l.length vc):=by
    have:=(hb1.block (w.heap.size + 1 + 1) (by omega)).trans o3
    simp [World.cell?,this]
   have hbw:Below w.heap.size w W1:=hB0.trans (hb1.mono (by omega))
   have:=rows_seq 2 (by omega) (w.heap.size + 1 + 1) w.heap.size _ l (by omega) hlen W1 w hK rfl hbw e1 (HL.out.of_new hbw)
   rw [hs1] at this
   exact this)
  (fun _ _=>rfl)
  (fun g pre W=>Octs W (w.heap.size + 1) 31 (headP pre)∧(headP pre).length = 32∧Octs W w.heap.size 31 (List.replicate 32 0)∧Below w.heap.size w W∧w.heap.size + 2 ≤ W.heap.size)
  (fun _ _ _ _=>False)
  (fun g s A B hg hs hk=>⟨hs.1.of_block (hk.block _ (by have:=hs.2.2.2.2;omega) (by constructor <;> omega)),hs.2.1,hs.2.2.1.of_block (hk.block _ (by have:=hs.2.2.2.2;omega) (by constructor <;> omega)),
   hk.to_below hs.2.2.2.1 (by have:=hs.2.2.2.2;omega) (fun k hk2=>by constructor <;> omega),Nat.le_trans hs.2.2.2.2 hk.size⟩)
  (fun _ _ _ _ _ _ h _=>h)
  (fun g pre x A B hg hs hk=>by
   refine ⟨hs.1,hs.2.1,hs.2.2.1,?_⟩
   rcases hs.2.2.2 with ⟨h,_⟩ | ⟨g',cap',cur',hv,hb,hh,hr⟩
   ·cases h
   ·cases hv
    exact .inr ⟨g,_,cur',rfl,hb,(hk.block g (Array.getElem?_eq_some_iff.1 hh).1 (by omega)).trans hh,hr⟩)
  (fun g W' hg hb=>⟨o2.of_block (hb.block _ (by omega)),by simp [headP],o1.of_block (hb.block _ (by omega)),hB0.trans (hb.mono (by omega)),by have:=hb.size;omega⟩)
  (fun g x=>{ tmps:=#[.slice va l.length vc,undef,.pointer (some ⟨w.heap.size,0,none⟩),.pointer (some ⟨w.heap.size + 1,0,none⟩),.slice (some ⟨g,0,none⟩) x.1.length x.2,.slice va l.length vc,.int .i64 (l.length:Int),.bool false,undef,.slice va l.length vc,
   .func (.func 161) #[] #[.pointer (some ⟨w.heap.size + 1 + 1,0,none⟩)],.slice (some ⟨g,0,none⟩) x.1.length x.2,undef,undef,undef,undef],defers:=[] }) ?assign ?body ?done ?stop
 case assign=>
  intro l g x W K hK
  gi_wp2
  exact hK
 case body=>
  rintro l' g pre ⟨x,cap⟩ W hg ⟨hr,h32,hz,hb,hsz2⟩ ⟨hpre,ho⟩ _ hW2
  dsimp only at ho
  have hxm:x ∈ rowsL l:=hpre.subset (by simp)
  have hx0:0 < x.length:=rowsP_ne _ _ (by omega) _ hxm
  obtain ⟨bb,boff,bc,hbv,hbl,hat⟩:=ho.digs.at_ hx0
  obtain ⟨rfl,rfl⟩:bb = g∧boff = 0:=by
   simp only [Value.slice.injEq,Option.some.injEq,Addr.mk.injEq] at hbv
   exact ⟨hbv.1.1.symm,hbv.1.2.1.symm⟩
  have hx1:∀ j,j < 32→W.cell? ⟨bb,0 + j,none⟩ = ((x.getD 0 []).map B8)[j]?:=fun j hj=>by
   have:=hat 0 hx0 j hj
   simpa using this
  have HX1:=Lib.hid hx1
  have D1:=Lib.hid (ho.1.getD hx0)
  have HR:=Lib.hid hr
  have H32:=Lib.hid h32
  have t1:(0:Int) < (x.length:Int):=by omega
  clear hx1 hat hbv hr h32 hpre hxm ho
  gi_wp2_with (first
   | ((with_reducible refine wpListIn_load_dig (op:=⟨some 14,Op.load 31 (.tmp 13),_,_,_,_⟩) (.tmp 13) bb 0 (x.getD 0 []) ?g ?ho ?hx ?hd ?hc ?_);(case g=>rfl);(case ho=>rfl);(case hx=>rfl);(case hd=>exact D1.out);(case hc=>exact HX1.out))
   | ((with_reducible refine wpListIn_store_octs (op:=⟨none,Op.store 31 (.tmp 3) (.tmp 14),_,_,_,_⟩) (.tmp 3) (.tmp 14) (w.heap.size + 1) 31 (headP pre) (x.getD 0 []) ?g ?ho ?hx ?hy ?hh ?hw ?hs ?_);(case g=>rfl);(case ho=>rfl);(case hx=>rfl);(case hy=>simp only [List.getD_eq_getElem?_getD];rfl);(case hh=>exact HR.out);(case hw=>exact D1.out);(case hs=>exact H32.out)))
  refine ⟨(Kept.refl _ _).grown (grown_setRow _ _ _) (fun r e=>by cases e;omega),?_,?_,?_,?_,?_⟩
  ·rw [headP_snoc];exact setRow_heap _ _ _ _ _ _ HR.out
  ·rw [headP_snoc];exact D1.out
  ·exact hz.of_block (setRow_other _ _ _ _ (by omega))
  ·exact hb.trans (below_setRow' _ _ _ (by omega))
  ·have:=(grown_setRow W (w.heap.size + 1) (List.map B8 (x.getD 0 [])).toArray).size;omega
 case done=>
  rintro g xs W hg hxs ⟨hr,h32,hz,hb,hsz2⟩ hW2 hD
  have hne:xs ≠ []:=by
   rintro rfl
   have:0 < (rowsL l).length:=by
    by_cases h:1 < l.length
    ·rw [rowsL_step h];simp
    ·rw [rowsL_end (by omega)];simp
   rw [← hxs] at this
   simp at this
  have hroot:headP xs = rootL l:=by
   rw [headP_rows hne,hxs];unfold rootL;rw [if_neg h0]
  rw [hroot] at hr h32
  have hx1:∀ j,j < 32→W.cell? ⟨w.heap.size + 1,0 + j,none⟩ = ((rootL l).map B8)[j]?:=fun j hj=>by
   unfold Octs at hr
   simp [World.cell?,hr]
  have HX1:=Lib.hid hx1
  have D1:=Lib.hid h32
  have HZ:=Lib.hid hz
  have HD:=Lib.hid hD
  clear hx1 hr h32 hz hxs hD
  gi_wp2_with (first
   | ((with_reducible refine wpListIn_load_dig (op:=⟨some 15,Op.load 31 (.tmp 3),_,_,_,_⟩) (.tmp 3) (w.heap.size + 1) 0 (rootL l) ?g ?ho ?hx ?hd ?hc ?_);(case g=>rfl);(case ho=>rfl);(case hx=>rfl);(case hd=>exact D1.out);(case hc=>exact HX1.out))
   | ((with_reducible refine wpListIn_store_octs (op:=⟨none,Op.store 31 (.tmp 2) (.tmp 15),_,_,_,_⟩) (.tmp 2) (.tmp 15) w.heap.size 31 (List.replicate 32 0) (rootL l) ?g ?ho ?hx ?hy ?hh ?hw ?hs ?_);(case g=>rfl);(case ho=>rfl);(case hx=>rfl);(case hy=>rfl);(case hh=>exact HZ.out);(case hw=>exact D1.out);(case hs=>rfl)))
  obtain ⟨W2,hW2d⟩:∃ W2,W.setRow w.heap.size (List.map B8 (rootL l)).toArray = W2:=⟨_,rfl⟩
  have hd2:W2.heap[W0.heap.size]? = some (.deferred (some [])):=by rw [← hW2d];exact (setRow_other _ _ _ _ (by omega)).trans HD.out
  have hr2:Octs W2 w.heap.size 31 (rootL l):=by rw [← hW2d];exact setRow_heap _ _ _ _ _ _ HZ.out
  have hb2:Below w.heap.size w W2:=by rw [← hW2d];exact hb.trans (below_setRow' _ _ _ (Nat.le_refl _))
  rw [hW2d]
  refine ⟨by simp,.inl ⟨_,_,rfl,run_takeDeferred hd2,?_⟩⟩
  refine ⟨_,results_cell_row (g:=w.heap.size) (t:=31) (cs:=((rootL l).map B8).toArray) (fr:=(0,0)) rfl _ _ _ rfl ((World.putObj_heap_other (by omega)).trans hr2) Tryz.underlying31 rfl (by rw [info_dig];simp [D1.out]),rfl,?_⟩
  exact hb2.grown (grownBy_putObj' _ _ _) hb2.size (fun k e=>by cases e;omega)
 case stop=>
  rintro g c pre W _ _ h _ _
  exact h.elim
end Go.Proofs.YtnohglkilpnjhaaGreatDoor
namespace Go.Proofs.YtnohglkilpnjhaaGreatDoor
open Go.RowKit
set_option maxRecDepth 100000 in
set_option maxHeartbeats 1600000 in
theorem Above_any (v:Value) (l:List (List UInt8)) (w:World) (hl:Digs w v l) (hlen:l.length ≤ 1048576) :
  Calls Tryz.prog 177 #[v] w fun e w'=>∃ v',e = .returned v'∧OwnD w' w.heap.size v' (aboveL l)∧Below w.heap.size w w':=by
 obtain ⟨va,vc,hv⟩:=hl.len
 subst hv
 go_enter Tryz.func177,Tryz.ntmps177
 go_wp2
 go_loopw [3,4] (fun ov iv wr=>∃ (k:Nat),2 * k ≤ l.length + 1∧iv = .int .i64 ((2 * k:Nat):Int)∧OwnD wr w.heap.size ov ((aboveL l).take k)∧Below w.heap.size w wr)
  (fun _ iv _=>l.length + 2 - (intOf iv).toNat)
 case atStart=>exact ⟨0,by omega,rfl,OwnD.nil _ _,Below.refl _ _⟩
 case round=>
  obtain ⟨k,hk,rfl,ho,hb⟩:=hrel
  have hsz:=hb.size
  have hlw:=hl.of_new hb
  clear hl
  obtain ⟨oa,oc,ho'⟩:=ho.digs.len
  subst ho'
  have e1:(2 * (k:Int)).toNat = 2 * k:=by omega
  have e2:(2 * (k:Int) + 1).toNat = 2 * k + 1:=by omega
  by_cases hlt:2 * k < l.length
  ·obtain ⟨b,off,c,hv⟩:=hlw.shape (by omega)
   obtain ⟨rfl,rfl⟩:va = some ⟨b,off,none⟩∧vc = c:=by cases hv;exact ⟨rfl,rfl⟩
   clear hv
   have b0:(0:Int) ≤ 2 * (k:Int):=by omega
   have b1:(2 * (k:Int)) < (l.length:Int):=by omega
   have h1:=hlw.digAt (i:=2 * k) (by omega)
   have hout:∀ e,(aboveL l).getD k [] = e→(aboveL l).take k ++ [e] = (aboveL l).take (k + 1):=fun e he=>by
    rw [← he,List.take_succ_eq_append_getElem (by rw [aboveL_len];omega)]
    simp [List.getD,List.getElem?_eq_getElem (show k < (aboveL l).length by rw [aboveL_len];omega)]
   have hat:=aboveL_at l k
   have hlast:=aboveL_last l
   have hol:((aboveL l).take k).length ≤ k:=List.length_take_le _ _
   by_cases hlt2:2 * k + 1 < l.length
   ·have h2:=hlw.digAt (i:=2 * k + 1) (by omega)
    have hstep:=Lib.hid (hout _ (hat hlt2))
    have b2:(2 * (k:Int) + 1) < (l.length:Int):=by omega
    have b3:(0:Int) ≤ 2 * (k:Int) + 1:=by omega
    have s1:IntKind.i64.wrap (2 * (k:Int) + 1) = 2 * (k:Int) + 1:=IntWalk.i64_in _ (by omega)
    clear hout hat hlast
    generalize l.getD (2 * k) [] = d1 at *
    generalize l.getD (2 * k + 1) [] = d2 at *
    generalize (aboveL l).take k = out at *
    go_upto_region 6 with (fail)
    refine wp_region_class_move (C:=Grew wr) 11 (.tmp 3) rfl rfl (by kernel_rfl) (by kernel_rfl) (by kernel_rfl) (Grew.start _) (fun _ _ _ h=>h) ?_
    simp only [List.take_succ_cons,List.take_zero,List.drop_succ_cons,List.drop_zero]
    go_simp
    repeat (first
     | (go_big_quiet_want;(with_reducible apply quiet_load_at (ty:=31) (x:=.tmp _));rfl;rfl;assumption;go_simp;go_big_quiet_on)
     | (go_big_quiet_want;apply quiet_val;(intro w' hw';go_simp;first | done | rfl);go_simp;go_big_quiet_on)
     | (go_big_quiet_want;apply quiet_call (f:=188);(intro w' hw';go_simp;first | done | rfl);(intro w' hw';exact Grew.call hw' (RNode_any _ _ _ h1.1 h2.1));go_simp;go_big_quiet_on)
     | (go_big_quiet_skip))
    refine wpQuiet_nil ?_
    intro w5 hw5
    have ho5:=ho.of_new hw5
    have hb5:Below w.heap.size w w5:=below_next' hb hw5
    have hsz5:=hb5.size
    refine wpList_buildDigs 1 _ [nodeL d1 d2] rfl rfl rfl (by simp) (by simp) (fun x hx=>by simp at hx;rw [hx];exact nodeL_len _ _) (by simp only [List.map_toArray,List.map_cons,List.map_nil];rfl) ?_
    intro w7 ho7 hb7 hs7
    have hoB:=ho5.of_new hb7
    refine wpList_appD rfl (.tmp 16) (.tmp 27) 34 rfl w.heap.size Tryz.underlying34 _ _ rfl hoB _ [nodeL d1 d2] rfl ho7.digs (by simp;omega) (by omega) ?_
    intro v6 w6 ho6 hg6 _
    have hb6:Below w.heap.size w w6:=(below_next' hb5 hb7).grown hg6 (by omega) (fun j hj=>(hoB.lt j hj).1)
    rw [hstep.out] at ho6
    clear hg6 ho7 hoB
    go_wp2
    go_roundw
    case rel=>exact ⟨k + 1,by omega,by go_num,ho6,hb6⟩
    case measure=>simp [intOf];omega
   ·have hodd:l.length % 2 = 1:=by omega
    have hk2:l.length / 2 = k:=by omega
    have hk3:l.length - 1 = 2 * k:=by omega
    rw [hk2,hk3] at hlast
    have hstep:=Lib.hid (hout _ (hlast hodd))
    have b2:¬ (2 * (k:Int) + 1) < (l.length:Int):=by omega
    clear hout hat hlast hk2 hk3
    generalize l.getD (2 * k) [] = d1 at *
    generalize (aboveL l).take k = out at *
    go_wp2_with (first
     | ((with_reducible apply wpList_load_at (ty:=31) (x:=.tmp _));rfl;rfl;rfl;assumption)
     | ((with_reducible refine wpList_buildDigs (op:=⟨_,Op.buildSlice 34 1 _,_,_,_,_⟩) 1 #[(0,.tmp 33)] [d1] ?_ ?_ ?_ ?_ ?_ ?_ ?_ ?_);rfl;rfl;rfl;simp;simp;(intro x hx;simp at hx;rw [hx];exact h1.1);(simp only [List.map_toArray,List.map_cons,List.map_nil];rfl);intro w7 ho7 hb7 hs7;refine wpList_appD rfl (.tmp 29) (.tmp 34) 34 rfl w.heap.size Tryz.underlying34 _ _ rfl (ho.of_new hb7) _ [d1] rfl ho7.digs (by simp;omega) (by omega) ?_;intro v6 w6 ho6 hg6 _;have hb6:Below w.heap.size w w6:=(below_next' hb hb7).grown hg6 (by omega) (fun j hj=>((ho.of_new hb7).lt j hj).1);clear hg6 ho7 hb7))
    rw [hstep.out] at ho6
    go_roundw
    case rel=>exact ⟨k + 1,by omega,by go_num,ho6,hb6⟩
    case measure=>simp [intOf];omega
  ·have b1:¬ (2 * (k:Int)) < (l.length:Int):=by omega
   have hend:(aboveL l).take k = aboveL l:=List.take_of_length_le (by rw [aboveL_len];omega)
   generalize ((aboveL l).take k).length = q at *
   rw [hend] at ho
   go_wp2
   go_ret
   exact ⟨_,rfl,ho,hb⟩
theorem rootL_step {l:List (List UInt8)} (h:1 < l.length):rootL l = rootL (aboveL l):=by
 unfold rootL
 have h2:¬ (aboveL l).length = 0:=by rw [aboveL_len];omega
 have hne:rowsL (aboveL l) ≠ []:=by
  by_cases h3:1 < (aboveL l).length
  ·rw [rowsL_step h3];simp
  ·rw [rowsL_end (by omega)];simp
 rw [if_neg (by omega),if_neg h2,rowsL_step h]
 obtain ⟨r,rs,hr⟩:∃ r rs,rowsL (aboveL l) = r :: rs:=by
  cases hq:rowsL (aboveL l) with
  | nil=>exact absurd hq hne
  | cons r rs=>exact ⟨r,rs,rfl⟩
 rw [hr];simp
theorem rootL_one {l:List (List UInt8)} (h:l.length = 1):rootL l = l.getD 0 []:=by
 unfold rootL
 rw [if_neg (by omega),rowsL_end (by omega)]
 rfl
theorem rootL_none {l:List (List UInt8)} (h:l.length = 0):rootL l = noneL:=by unfold rootL;rw [if_pos h]
set_option maxRecDepth 100000 in
set_option maxHeartbeats 1600000 in
theorem RRoot_any (v:Value) (l:List (List UInt8)) (w:World) (hl:Digs w v l) (hlen:l.length ≤ 1048576) :
  Calls Tryz.prog 146 #[v] w fun e w'=>e = .returned (.agg ((rootL l).map B8).toArray)∧Below w.heap.size w w':=by
 obtain ⟨va,vc,hv⟩:=hl.len
 subst hv
 by_cases h0:l.length = 0
 ·have hr:=Lib.hid (rootL_none h0)
  rw [h0]
  clear hl
  go_enter Tryz.func146,Tryz.ntmps146
  go_wp2_with fail
  generalize hW1:(w.alloc _) = W1
  obtain ⟨hR,hb1,hz⟩:Octs W1 w.heap.size 31 (List.replicate 32 0)∧Below w.heap.size w W1∧w.heap.size + 1 = W1.heap.size:=by
   subst hW1
   exact ⟨heap_alloc_new w _,(Below.refl _ w).alloc (Nat.le_refl _) _,by simp⟩
  clear hW1
  refine (RTagged_any 2 _ [] W1 (parts_nil _) (by simp) (by simp)).mono ?_
  rintro e w2 ⟨rfl,hb2⟩
  have hR2:=Lib.hid (hR.of_block (hb2.block _ (by omega)))
  have hbF:=Lib.hid (below_next hb1 (hb2.mono (by omega)))
  clear hb2 hb1 hR
  go_wp2_with ((with_reducible refine wpList_store_octs (op:=⟨none,Op.store 31 (.tmp 2) (.tmp 7),_,_,_,_⟩) 31 (.tmp 2) (.tmp 7) (w.heap.size) 31 (List.replicate 32 (0:UInt8)) (sumL (partsL 2 [])) ?g ?ho ?hx ?hy ?hh ?hi ?hs ?_);(case g=>rfl);(case ho=>rfl);(case hx=>rfl);(case hy=>rfl);(case hh=>exact hR2.out);(case hi=>rw [show sumL (partsL 2 []) = noneL from rfl,noneL_len];kernel_rfl);(case hs=>rw [show sumL (partsL 2 []) = noneL from rfl,noneL_len];rfl))
  refine bodyPost_ret (results_cell rfl _ rfl (run_loadVar_row _ _ 31 _ (noneL.map B8).toArray (0,0) _ (setRow_heap _ _ _ _ _ _ hR2.out) Tryz.underlying31 rfl (by rw [info_dig];simp [noneL_len]))) rfl ⟨by rw [hr.out],?_⟩
  exact hbF.out.trans (below_setRow' _ _ _ (Nat.le_refl _))
 ·have t0:((l.length:Int) == 0) = false:=by simpa using (by omega:¬ ((l.length:Int) = 0))
  go_enter Tryz.func146,Tryz.ntmps146
  go_wp2
  generalize hW1:(w.alloc _) = W1
  obtain ⟨hR,hb1,hz⟩:Octs W1 w.heap.size 31 (List.replicate 32 0)∧Below w.heap.size w W1∧w.heap.size + 1 = W1.heap.size:=by
   subst hW1
   exact ⟨heap_alloc_new w _,(Below.refl _ w).alloc (Nat.le_refl _) _,by simp⟩
  clear hW1
  have hl1:=hl.of_new hb1
  clear hl
  go_loopw [3] (fun lv wr=>∃ (cur:List (List UInt8)),cur.length ≤ 1048576∧0 < cur.length∧Digs wr lv cur∧rootL l = rootL cur∧Octs wr w.heap.size 31 (List.replicate 32 0)∧Below w.heap.size w wr∧w.heap.size < wr.heap.size)
   (fun lv _=>lenV lv)
  case atStart=>exact ⟨l,hlen,by omega,hl1,rfl,hR,hb1,by omega⟩
  case round=>
   clear hR hb1 hl1 hz hlen h0 t0
   obtain ⟨cur,hlen,hpos,hl1,hroot,hR,hb1,hz⟩:=hrel
   have HR:=Lib.hid hroot
   clear hroot
   obtain ⟨ca,cc,hv⟩:=hl1.len
   subst hv
   by_cases hlt:1 < cur.length
   ·have t1:(1:Int) < (cur.length:Int):=by omega
    go_wp2_with fail
    refine (Above_any _ cur _ hl1 hlen).mono ?_
    rintro e w2 ⟨v2,rfl,ho2,hb2⟩
    have hR2:=hR.of_block (hb2.block _ hz)
    have hl2:=ho2.digs
    obtain ⟨ca2,cc2,hv⟩:=hl2.len
    subst hv
    have hal:=Lib.hid (aboveL_len cur)
    have hstep:=Lib.hid (rootL_step hlt)
    generalize aboveL cur = nxt at *
    clear ho2
    go_wp2
    go_roundw
    case rel=>exact ⟨nxt,by have:=hal.out;omega,by have:=hal.out;omega,hl2,HR.out.trans hstep.out,hR2,below_next' hb1 hb2,by have:=hb2.size;omega⟩
    case measure=>have:=hal.out;show nxt.length < cur.length;omega
   ·have t1:¬ (1:Int) < (cur.length:Int):=by omega
    obtain ⟨b,off,c,hv⟩:=hl1.shape hpos
    obtain ⟨rfl,rfl⟩:ca = some ⟨b,off,none⟩∧cc = c:=by cases hv;exact ⟨rfl,rfl⟩
    have t2:(0:Int) < (cur.length:Int):=by omega
    have h1:=hl1.digAt (i:=0) hpos
    have hone:=HR.out.trans (rootL_one (l:=cur) (by omega))
    rw [Nat.zero_mul,Nat.add_zero] at h1
    have HO:=Lib.hid hone
    clear hone hv
    generalize cur.getD 0 [] = d at *
    go_wp2_with (first
     | ((with_reducible apply wpList_load_at (ty:=31) (x:=.tmp _));rfl;rfl;rfl;assumption)
     | ((with_reducible refine wpList_store_octs (op:=⟨none,Op.store 31 (.tmp 2) (.tmp 16),_,_,_,_⟩) 31 (.tmp 2) (.tmp 16) (w.heap.size) 31 (List.replicate 32 (0:UInt8)) d ?_ ?_ ?_ ?_ ?_ ?_ ?_ ?_);rfl;rfl;rfl;rfl;exact hR;(rw [h1.1];kernel_rfl);(rw [h1.1];rfl)))
    refine bodyPost_ret (results_cell rfl _ rfl (run_loadVar_row _ _ 31 _ (d.map B8).toArray (0,0) _ (setRow_heap _ _ _ _ _ _ hR) Tryz.underlying31 rfl (by rw [info_dig];simp [h1.1]))) rfl ⟨by rw [HO.out],?_⟩
    exact hb1.trans (below_setRow' _ _ _ (Nat.le_refl _))
end Go.Proofs.YtnohglkilpnjhaaGreatDoor
