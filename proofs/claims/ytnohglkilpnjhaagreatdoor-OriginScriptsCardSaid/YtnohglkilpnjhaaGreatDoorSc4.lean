/- Lemmas that the statement of this claim leans on; their own comments are taken out, for the size of the claim. No condition beyond what each lemma states. -/
import Derived.Test.YtnohglkilpnjhaaGreatDoorSc3
import Derived.Great.BuildSlice
import Derived.Maps.AppendAt
import Derived.RangeFuncNested
import Derived.RangeFuncBound
import Derived.RangeFuncCalls
import Derived.RangeFuncLeaves
import Derived.TacticsInMore
import Derived.OwnWalkIn
import Derived.LoopNIn
import Derived.LoopIn
import Derived.BigFrameIn
import Derived.BigGuardIn
import Derived.Deep.DeepCutAuto
import Derived.Deep.LoopGhost
import Derived.Sort.LoopGhostIn
import Derived.Shelf.Abstract
import Derived.Shelf.RegionOpen
set_option linter.unusedVariables false
set_option linter.unusedSimpArgs false
set_option linter.unusedSectionVars false
namespace Go.Proofs.YtnohglkilpnjhaaGreatDoor
open Go.RowKit
set_option maxRecDepth 100000
structure RecT (e:TypeId) (α:Type) where
 n:Nat
 bytes:Nat
 zero:α
 cells:α→List Value
 ok:α→Prop
 pos:0 < n
 small:n ≤ 1000
 few:bytes ≤ 128
 zok:ok zero
 len:∀ {x},ok x→(cells x).length = n
 one:∀ {x},ok x→∀ v ∈ cells x,v.oneCell' = true
 agg:∃ d,Tryz.prog.underlying e = some d∧(match d with | .struct _ | .array _ _=>true | _=>false) = true
 info:(Tryz.prog.info? e).map (fun i=>(i.zero,i.size,i.bytes)) = some (some (.agg (cells zero).toArray),n,bytes)
section
variable {e se:TypeId} {α:Type} (R:RecT e α)
def RecT.V (x:α):Value:=.agg (R.cells x).toArray
def RecT.flat (l:List α):List Value:=l.flatMap R.cells
theorem RecT.flat_len {l:List α} (h:∀ x ∈ l,R.ok x):(R.flat l).length = l.length * R.n:=by
 induction l with
 | nil=>simp [RecT.flat]
 | cons x l ih=>
  have:=ih (fun y hy=>h y (by simp [hy]))
  simp only [RecT.flat,List.flatMap_cons,List.length_append,List.length_cons] at *
  rw [R.len (h x (by simp)),this,Nat.add_mul];omega
theorem RecT.flat_append (a b:List α):R.flat (a ++ b) = R.flat a ++ R.flat b:=by simp [RecT.flat]
theorem RecT.flat_at {l:List α} (h:∀ x ∈ l,R.ok x) {i j:Nat} {x:α} (hi:l[i]? = some x) (hj:j < R.n):(R.flat l)[i * R.n + j]? = (R.cells x)[j]?:=by
 induction l generalizing i with
 | nil=>simp at hi
 | cons y l ih=>
  have h0:=R.len (h y (by simp))
  cases i with
  | zero=>
   simp at hi
   subst hi
   simp only [RecT.flat,List.flatMap_cons,Nat.zero_mul,Nat.zero_add]
   rw [List.getElem?_append_left (by omega)]
  | succ i=>
   have:=ih (fun z hz=>h z (by simp [hz])) (i:=i) (by simpa using hi)
   simp only [RecT.flat,List.flatMap_cons] at this ⊢
   rw [List.getElem?_append_right (by rw [h0,Nat.add_mul];omega),h0,show (i + 1) * R.n + j - R.n = i * R.n + j by rw [Nat.add_mul];omega]
   exact this
def RecT.At (w:World) (g off:Nat) (x:α):Prop:=R.ok x∧g < w.heap.size∧∀ j,j < R.n→w.cell? ⟨g,off + j,none⟩ = (R.cells x)[j]?
def RecT.O (w:World) (g:Nat) (x:α):Prop:=w.heap[g]? = some (.cells (R.cells x).toArray e (0,0))∧R.ok x
def RecT.Row (w:World) (v:Value) (l:List α):Prop:=(∀ x ∈ l,R.ok x)∧Go.Proofs.YtnohglkilpnjhaaGreatDoor.Row w v l.length R.n (R.flat l)
def RecT.Own (w:World) (base:Nat) (v:Value) (l:List α):Prop:=(∀ x ∈ l,R.ok x)∧w.ownsRow base e R.n v l.length (R.flat l)
variable {R} {w w':World} {g off base:Nat} {v:Value} {x:α} {l:List α}
theorem RecT.At.of_new (h:R.At w g off x) (hb:Below w.heap.size w w'):R.At w' g off x:=⟨h.1,Nat.lt_of_lt_of_le h.2.1 hb.size,fun j hj=>(hb.cell (p:=⟨g,off + j,none⟩) h.2.1).trans (h.2.2 j hj)⟩
theorem RecT.At.of_block (h:R.At w g off x) (hb:w'.heap[g]? = w.heap[g]?):R.At w' g off x:=by
 have hlt:g < w'.heap.size:=by
  have h2:=h.2.1
  rcases Nat.lt_or_ge g w'.heap.size with h3 | h3
  ·exact h3
  ·rw [Array.getElem?_eq_none h3,Array.getElem?_eq_getElem h2] at hb;cases hb
 exact ⟨h.1,hlt,fun j hj=>(World.cell?_of_block (a:=⟨g,off + j,none⟩) hb).trans (h.2.2 j hj)⟩
theorem RecT.O.lt (h:R.O w g x):g < w.heap.size:=(Array.getElem?_eq_some_iff.1 h.1).1
theorem RecT.O.of_block (h:R.O w g x) (hb:w'.heap[g]? = w.heap[g]?):R.O w' g x:=⟨hb.trans h.1,h.2⟩
theorem RecT.O.of_new (h:R.O w g x) (hb:Below w.heap.size w w'):R.O w' g x:=h.of_block (hb.block _ h.lt)
theorem RecT.O.free (h:R.O w g x) (j:Nat):w.frozen? ⟨g,j,none⟩ = false:=by simp [World.frozen?,h.1]
theorem RecT.O.at_ (h:R.O w g x):R.At w g 0 x:=⟨h.2,h.lt,fun j hj=>by simp only [World.cell?,h.1,Nat.zero_add];simp⟩
theorem RecT.O.cell (h:R.O w g x) (j:Nat):w.cell? ⟨g,j,none⟩ = (R.cells x)[j]?:=by simp only [World.cell?,h.1];simp
theorem RecT.o_new (w:World) (h:R.ok x):R.O (w.alloc (.cells (R.cells x).toArray e)) w.heap.size x:=⟨heap_alloc_new w _,h⟩
theorem RecT.Row.len (h:R.Row w v l):∃ a c,v = .slice a l.length c:=h.2.shape
theorem RecT.Row.le (h:R.Row w v l):l.length ≤ 9223372036854775807:=Go.Proofs.YtnohglkilpnjhaaGreatDoor.Row.le h.2
theorem RecT.Row.of_new (h:R.Row w v l) (hb:Below w.heap.size w w'):R.Row w' v l:=⟨h.1,Go.Proofs.YtnohglkilpnjhaaGreatDoor.Row.of_new h.2 hb⟩
theorem RecT.Row.of_kept {row:Option Nat} (h:R.Row w v l) (hg:w.grownBy w' row) (hne:∀ k,v.ownBlock = some k→some k ≠ row):R.Row w' v l:=⟨h.1,Go.Proofs.YtnohglkilpnjhaaGreatDoor.Row.of_kept h.2 hg hne⟩
theorem RecT.Row.nil (w:World):R.Row w (.slice none 0 0) []:=⟨(fun x hx=>by cases hx),Go.Proofs.YtnohglkilpnjhaaGreatDoor.Row.of_nil R.n⟩
theorem RecT.Row.at_ (h:R.Row w v l) (h0:0 < l.length):∃ b off c,v = .slice (some ⟨b,off,none⟩) l.length c∧b < w.heap.size∧∀ i x,l[i]? = some x→R.At w b (off + i * R.n) x:=by
 obtain ⟨hok,_,a,c,rfl,_,_,_,h5⟩:=h
 have hp:l.length * R.n ≠ 0:=Nat.mul_ne_zero (by omega) (by have:=R.pos;omega)
 obtain ⟨b,off,rfl,hb,hc⟩:=h5 hp
 refine ⟨b,off,c,rfl,hb,fun i x hi=>?_⟩
 have hil:i < l.length:=(List.getElem?_eq_some_iff.1 hi).1
 have hx:x ∈ l:=List.mem_of_getElem? hi
 refine ⟨hok x hx,hb,fun j hj=>?_⟩
 have hm:i * R.n + j < l.length * R.n:=by
  have:=Nat.mul_le_mul_right R.n (show i + 1 ≤ l.length by omega)
  rw [Nat.add_mul] at this;omega
 rw [Nat.add_assoc,hc _ hm,R.flat_at hok hi hj]
theorem RecT.Own.row (h:R.Own w base v l):R.Row w v l:=⟨h.1,Go.Proofs.YtnohglkilpnjhaaGreatDoor.Row.of_owns h.2⟩
theorem RecT.Own.nil (w:World) (base:Nat):R.Own w base (.slice none 0 0) []:=⟨(fun x hx=>by cases hx),World.ownsRow_nil _ _ _ _⟩
theorem RecT.Own.lt (h:R.Own w base v l):∀ k,v.ownBlock = some k→base ≤ k∧k < w.heap.size:=World.ownsRow.lt h.2
theorem RecT.Own.mono {base':Nat} (h:R.Own w base v l) (hb:base' ≤ base):R.Own w base' v l:=
 ⟨h.1,h.2.1,h.2.2.imp id (fun ⟨g,cap,cur,a,b,c⟩=>⟨g,cap,cur,a,Nat.le_trans hb b,c⟩)⟩
theorem RecT.Own.kept (h:R.Own w base v l) (hk:∀ k,v.ownBlock = some k→w'.heap[k]? = w.heap[k]?):R.Own w' base v l:=by
 refine ⟨h.1,h.2.1,?_⟩
 rcases h.2.2 with h | ⟨g,cap,cur,hv,hb,hh,hr⟩
 ·exact .inl h
 ·exact .inr ⟨g,cap,cur,hv,hb,(hk g (by rw [hv];rfl)).trans hh,hr⟩
theorem RecT.Own.of_new (h:R.Own w base v l) (hb:Below w.heap.size w w'):R.Own w' base v l:=h.kept fun k hk=>hb.block _ (h.lt k hk).2
theorem RecT.isAgg (R:RecT e α) (w:World):(isAgg e).run Tryz.prog w = .ok true w:=by
 obtain ⟨d,h1,h2⟩:=R.agg
 simp only [Go.isAgg,Sem.run_bind,run_underlying h1,Result.andThen_ok]
 cases d <;> first | rfl | (cases h2)
theorem RecT.At.load (h:R.At w g off x):(loadVar e ⟨g,off,none⟩).run Tryz.prog w = .ok (R.V x) w:=by
 obtain ⟨i,hi,hz,hsize,hby⟩:=info_parts R.info
 have hl:=run_loadCells_list (P:=Tryz.prog) w ⟨g,off,none⟩ (R.cells x) (fun j v hv=>by
  have hj:j < R.n:=by rw [← R.len h.1];exact (List.getElem?_eq_some_iff.1 hv).1
  have hadd:(⟨g,off,none⟩:Addr).add j = ⟨g,off + j,none⟩:=by unfold Addr.add;split <;> simp_all
  rw [hadd,h.2.2 j hj,hv])
 rw [R.len h.1] at hl
 have ha:=R.isAgg w
 simp [loadVar,ha,sizeOf,typeInfo,hi,hsize,hl,RecT.V]
theorem RecT.At.wp {o:Oper} {a:Act} {K:Act→World→Prop} {Q:Exit→Act→World→Prop} {p:Operand} (h:R.At w g off x) (ho:o.op = .load e p) (hp:a.eval p = .pointer (some ⟨g,off,none⟩)) (hK:K (a.put o.dst (R.V x)) w):o.wp Tryz.prog a w K Q:=by
 refine wp_val (v:=R.V x) ?_ hK
 have:=h.load
 unfold execOp
 simp only [ho,hp,Instr.loadAt,Instr.sureAddr,Sem.run_bind,Sem.run_pure,Result.andThen_ok,this]
theorem RecT.At.quiet {C:World→Prop} {o:Oper} {a:Act} {K:Act→Prop} {p:Operand} (h:∀ w,C w→R.At w g off x) (ho:o.op = .load e p) (hp:a.eval p = .pointer (some ⟨g,off,none⟩)) (hK:K (a.put o.dst (R.V x))):o.quiet Tryz.prog a C K:=by
 refine quiet_val (fun w hw=>?_) hK
 have:=(h w hw).load
 unfold execOp
 simp only [ho,hp,Instr.loadAt,Instr.sureAddr,Sem.run_bind,Sem.run_pure,Result.andThen_ok,this]
theorem RecT.one' (R:RecT e α) {x:α} (h:R.ok x):(R.cells x).toArray.all (·.oneCell') = true:=Array.all_eq_true_iff_forall_mem.2 (fun v hv=>R.one h v (by simpa using hv))
theorem RecT.size' (R:RecT e α) {x:α} (h:R.ok x):(Tryz.prog.info? e).map (·.size) = some (R.cells x).toArray.size:=by
 obtain ⟨i,hi,hz,hsize,hby⟩:=info_parts R.info
 rw [hi];simp [hsize,R.len h]
theorem RecT.O.store {y:α} {o:Oper} {a:Act} {K:Act→World→Prop} {Q:Exit→Act→World→Prop} (h:R.O w g y) (p q:Operand) (ho:o.op = .store e p q) (hp:a.eval p = .pointer (some ⟨g,0,none⟩)) (hq:a.eval q = R.V x) (hx:R.ok x)
  (hK:∀ w',R.O w' g x→w.grownBy w' (some g)→w'.heap.size = w.heap.size→K (a.put o.dst undef) w'):o.wp Tryz.prog a w K Q:=by
 have hrun:=run_storeVar_row (P:=Tryz.prog) w g e e _ (R.cells x).toArray h.1 (R.size' hx) (by simp [R.len hx,R.len h.2]) (R.one' hx)
 unfold RecT.V at hq
 unfold Oper.wp execOp
 simp only [ho,hp,hq,Instr.storeAt,Instr.sureAddr,Sem.run_bind,Sem.run_pure,Result.andThen_ok,hrun]
 exact hK _ ⟨setRow_heap _ _ _ _ _ _ h.1,hx⟩ ⟨rfl,rfl,rfl,by simp [World.setRow],fun k hk hne=>Go.setRow_other w g k _ (fun e=>hne (by rw [e]))⟩ (by simp [World.setRow])
theorem RecT.zero_run (R:RecT e α) (w:World):(zeroValue e).run Tryz.prog w = .ok (R.V R.zero) w:=by
 obtain ⟨i,hi,hz,hsize,hby⟩:=info_parts R.info
 simp [zeroValue,typeInfo,hi,hz,RecT.V]
theorem RecT.wp_alloc (R:RecT e α) {o:Oper} {a:Act} {K:Act→World→Prop} {Q:Exit→Act→World→Prop} (ho:o.op = .alloc e)
  (h:∀ w',R.O w' w.heap.size R.zero→Below w.heap.size w w'→w'.heap.size = w.heap.size + 1→K (a.put o.dst (.pointer (some ⟨w.heap.size,0,none⟩))) w'):o.wp Tryz.prog a w K Q:=by
 unfold Oper.wp execOp
 have:=h _ (RecT.o_new w R.zok) ((Below.refl _ w).alloc (Nat.le_refl _) _) (by simp)
 have hz:=R.zero_run w
 simp only [ho,Instr.alloc,Sem.run_bind,hz,Result.andThen_ok,Sem.run_pure,newVar,newRow]
 exact this
theorem RecT.results1 {fn:Func} {p:Tmp} (h:fn.results = #[.cell p e]) (tmps:Array Value) (hp:tmps.getD p undef = .pointer (some ⟨g,0,none⟩)) (hx:R.O w g x):(results fn tmps).run Tryz.prog w = .ok (R.V x) w:=results_cell h tmps hp hx.at_.load
theorem RecT.results2 {fn:Func} {p q:Tmp} {u:Value} (h:fn.results = #[.cell p e,.tmp q]) (tmps:Array Value) (hp:tmps.getD p undef = .pointer (some ⟨g,0,none⟩)) (hq:tmps.getD q undef = u) (hx:R.O w g x):(results fn tmps).run Tryz.prog w = .ok (.tuple #[R.V x,u]) w:=by
 have hp':tmps[p]?.getD undef = .pointer (some ⟨g,0,none⟩):=by simpa using hp
 have hq':tmps[q]?.getD undef = u:=by simpa using hq
 simp [results,h,hp',hq',asAddr,hx.at_.load]
theorem RecT.Own.run_app (h:R.Own w base v l) (hs:Tryz.prog.underlying se = some (.slice e)) (ty:Nat) {u:Value} {m:List α} (hm:R.Row w u m) (hlen:l.length + m.length ≤ 1000000000000) (hbase:base ≤ w.heap.size) :
  ∃ v' w',(Builtin.append_ #[se,se] ty #[v,u]).run Tryz.prog w = .ok v' w'∧R.Own w' base v' (l ++ m)∧w.grownBy w' v.ownBlock∧(∀ k,v'.ownBlock = some k→v.ownBlock = some k∨w.heap.size ≤ k):=by
 obtain ⟨i,hi,hz,hsize,hby⟩:=info_parts R.info
 have hmok:=hm.1
 obtain ⟨hl,ad,c,rfl,hc1,hc2,hc3,hc4⟩:=hm.2
 have hok2:∀ x ∈ l ++ m,R.ok x:=fun x hx=>(List.mem_append.1 hx).elim (h.1 x) (hmok x)
 cases ad with
 | none=>
  have hc0:=hc3 rfl
  have hm0:m = []:=List.eq_nil_of_length_eq_zero (by omega)
  subst hm0
  subst hc0
  refine ⟨v,w,run_append_owned_none (P:=Tryz.prog) (w:=w) base se ty e i R.n hs hi v l.length (R.flat l) h.2,by simpa using h,World.grownBy.refl _ _,fun k hk=>.inl hk⟩
 | some ad=>
  obtain ⟨v',w',h1,h2,h3,_,h5⟩:=run_append_own_at (P:=Tryz.prog) w base se ty e i _ R.n R.bytes hs hi hz hsize hby (by simp [Value.cells,R.len R.zok]) R.pos v l.length (R.flat l) h.2 ad m.length c (R.flat m) (R.flat_len hmok)
   (fun j u hj=>by
    have hjl:j < m.length * R.n:=by
     rcases Nat.lt_or_ge j (m.length * R.n) with h | h
     ·exact h
     ·rw [List.getElem?_eq_none (by rw [R.flat_len hmok];exact h)] at hj;cases hj
    obtain ⟨b,off,hab,_,hcell⟩:=hc4 (by omega)
    cases hab
    have hplain:(⟨b,off,none⟩:Addr).add j = ⟨b,off + j,none⟩:=by unfold Addr.add;split <;> simp_all
    rw [hplain,hcell j hjl,hj])
   (fun u hu=>by
    obtain ⟨y,hy,hu⟩:=List.mem_flatMap.1 hu
    exact R.one (hmok y hy) u hu) (by unfold maxLen;omega) (by
     have:=R.few
     calc (l.length + m.length) * R.bytes ≤ 1000000000000 * 128:=Nat.mul_le_mul hlen this
      _ ≤ _:=by omega) hbase
  refine ⟨v',w',h1,⟨hok2,?_⟩,h3,?_⟩
  ·rw [R.flat_append,List.length_append]
   exact h2
  ·intro k hk
   rcases h5 with h5 | h5
   ·exact .inl (by rw [← h5];exact hk)
   ·rw [h5] at hk;cases hk;exact .inr (Nat.le_refl _)
theorem RecT.Own.app (h:R.Own w base v l) (hs:Tryz.prog.underlying se = some (.slice e)) {o:Oper} {a:Act} {K:Act→World→Prop} {Q:Exit→Act→World→Prop} (s y:Operand)
  (ho:o.op = .call { callee:=.builtin .append,args:=#[s,y],argTypes:=#[se,se] }) (hsv:a.eval s = v) {u:Value} {m:List α} (hy:a.eval y = u) (hm:R.Row w u m)
  (hlen:l.length + m.length ≤ 1000000000000) (hbase:base ≤ w.heap.size)
  (hK:∀ v' w',R.Own w' base v' (l ++ m)→w.grownBy w' v.ownBlock→(∀ k,v'.ownBlock = some k→v.ownBlock = some k∨w.heap.size ≤ k)→K (a.put o.dst v') w'):o.wp Tryz.prog a w K Q:=by
 obtain ⟨v',w',hr,h2,h3,h4⟩:=h.run_app hs o.type hm hlen hbase
 unfold Oper.wp execOp
 simp only [ho,resolve,invoke,builtin,Sem.run_bind,Sem.run_pure,Result.andThen_ok,List.map_toArray,List.map_cons,List.map_nil,hsv,hy,hr]
 exact hK v' w' h2 h3 h4
theorem RecT.own_one (w:World) (h:R.ok x):R.Own (w.alloc (.cells (R.cells x).toArray e)) w.heap.size (.slice (some ⟨w.heap.size,0,none⟩) 1 1) [x]:=by
 have hl:=R.len h
 refine ⟨fun y hy=>by simp at hy;rw [hy];exact h,by simp [RecT.flat,hl],.inr ⟨w.heap.size,1,(R.cells x).toArray,rfl,Nat.le_refl _,heap_alloc_new _ _,Nat.le_refl _,by unfold maxLen;omega,by simp [hl],?_⟩⟩
 simp [RecT.flat,← hl]
theorem RecT.wp_build1 (R:RecT e α) (hs:Tryz.prog.underlying se = some (.slice e)) {o:Oper} {a:Act} {K:Act→World→Prop} {Q:Exit→Act→World→Prop} (y:Operand) {x:α} (h:R.ok x) (ho:o.op = .buildSlice se 1 #[(0,y)]) (hy:a.eval y = R.V x)
  (hK:∀ w',R.Own w' w.heap.size (.slice (some ⟨w.heap.size,0,none⟩) 1 1) [x]→Below w.heap.size w w'→w'.heap.size = w.heap.size + 1→K (a.put o.dst (.slice (some ⟨w.heap.size,0,none⟩) 1 1)) w'):o.wp Tryz.prog a w K Q:=by
 obtain ⟨i,hi,hz,hsize,hby⟩:=info_parts R.info
 have hsm:=R.small
 have hp:=R.pos
 refine wp_buildSlice se e 1 #[(0,y)] ho (R.cells x).toArray i _ hs hi hz (by rw [hsize];omega) (by rw [hsize];omega) ?_ (hK _ (RecT.own_one w h) ((Below.refl _ w).alloc (Nat.le_refl _) _) (by simp))
 rw [hsize]
 simp only [List.map_toArray,List.map_cons,List.map_nil,hy]
 rw [show [((0:Nat),R.V x)] = ([R.V x].zipIdx 0).map (fun x=>(x.2,x.1)) from rfl]
 rw [Great.fill_whole R.pos _ _ (fun v hv=>by
  simp only [List.mem_cons,List.not_mem_nil,or_false] at hv
  subst hv
  simp [RecT.V,Value.cells,R.len h]) (by simp)]
 simp [RecT.V,Value.cells]
theorem RecT.flat_take {l:List α} (h:∀ x ∈ l,R.ok x) (m:Nat):R.flat (l.take m) = (R.flat l).take (m * R.n):=by
 induction l generalizing m with
 | nil=>simp [RecT.flat]
 | cons d l ih=>
  have h0:=R.len (h d (by simp))
  cases m with
  | zero=>simp [RecT.flat]
  | succ m=>
   have:=ih (fun x hx=>h x (by simp [hx])) m
   simp only [RecT.flat,List.take_succ_cons,List.flatMap_cons] at this ⊢
   rw [this,show (m + 1) * R.n = (R.cells d).length + m * R.n by rw [h0,Nat.add_mul];omega,List.take_length_add_append]
theorem RecT.flat_drop {l:List α} (h:∀ x ∈ l,R.ok x) (m:Nat):R.flat (l.drop m) = (R.flat l).drop (m * R.n):=by
 induction l generalizing m with
 | nil=>simp [RecT.flat]
 | cons d l ih=>
  have h0:=R.len (h d (by simp))
  cases m with
  | zero=>simp
  | succ m=>
   have:=ih (fun x hx=>h x (by simp [hx])) m
   simp only [RecT.flat,List.drop_succ_cons,List.flatMap_cons] at this ⊢
   rw [this,show (m + 1) * R.n = (R.cells d).length + m * R.n by rw [h0,Nat.add_mul];omega,List.drop_length_add_append]
theorem RecT.Row.part (h:R.Row w v l) (hs:Tryz.prog.underlying se = some (.slice e)) (low high:Option Value) (lo hi:Nat) (h1:lo ≤ hi) (h2:hi ≤ l.length) (hlow:(low = Option.none∧lo = 0)∨∃ k,low = some (.int k (lo:Int))) (hhigh:(high = Option.none∧hi = l.length)∨∃ k,high = some (.int k (hi:Int))) :
  ∃ v',(∀ W:World,(Instr.slice se v low high Option.none).run Tryz.prog W = .ok v' W)∧R.Row w v' ((l.drop lo).take (hi - lo))∧v'.ownBlock = v.ownBlock:=by
 obtain ⟨i,hi0,hz,hsize,hby⟩:=info_parts R.info
 obtain ⟨v',hr,hrow,hob⟩:=Row.run_part h.2 hs hi0 hsize low high lo hi h1 h2 hlow hhigh
 have hokd:∀ x ∈ l.drop lo,R.ok x:=fun x hx=>h.1 x (List.mem_of_mem_drop hx)
 refine ⟨v',hr,⟨fun x hx=>hokd x (List.mem_of_mem_take hx),?_⟩,hob⟩
 have e1:((l.drop lo).take (hi - lo)).length = hi - lo:=by simp;omega
 rw [e1,RecT.flat_take hokd,RecT.flat_drop h.1]
 exact hrow
end
end Go.Proofs.YtnohglkilpnjhaaGreatDoor
namespace Go.Proofs.YtnohglkilpnjhaaGreatDoor
open Go.RowKit
structure Kept (U:Nat→Prop) (A B:World):Prop where
 os:B.os = A.os
 tape:B.tape = A.tape
 output:B.output = A.output
 size:A.heap.size ≤ B.heap.size
 block:∀ k,k < A.heap.size→U k→B.heap[k]? = A.heap[k]?
theorem Kept.refl (U:Nat→Prop) (A:World):Kept U A A:=⟨rfl,rfl,rfl,Nat.le_refl _,fun _ _ _=>rfl⟩
theorem Kept.trans {U:Nat→Prop} {A B C:World} (h:Kept U A B) (k:Kept U B C):Kept U A C:=
 ⟨k.os.trans h.os,k.tape.trans h.tape,k.output.trans h.output,Nat.le_trans h.size k.size,fun i hi hu=>(k.block i (Nat.lt_of_lt_of_le hi h.size) hu).trans (h.block i hi hu)⟩
theorem Kept.mono {U V:Nat→Prop} {A B:World} (h:Kept U A B) (hv:∀ k,k < A.heap.size→V k→U k):Kept V A B:=
 ⟨h.os,h.tape,h.output,h.size,fun i hi hu=>h.block i hi (hv i hi hu)⟩
theorem Kept.alloc {U:Nat→Prop} {A B:World} (h:Kept U A B) (o:Obj):Kept U A (B.alloc o):=
 h.trans ⟨rfl,rfl,rfl,by simp,fun k hk _=>Below.heap_alloc _ _ _ hk⟩
theorem Kept.drew {U:Nat→Prop} {A B:World} (h:Kept U A B):Kept U A B.drew:=⟨h.os,h.tape,h.output,h.size,h.block⟩
theorem Kept.setCell {U:Nat→Prop} {A B:World} (h:Kept U A B) {p:Addr} (hp:¬ U p.block) (u:Value):Kept U A (B.setCell p u):=
 h.trans ⟨rfl,rfl,rfl,by simp [World.setCell],fun k hk hu=>Below.heap_setCell _ _ _ _ (fun e=>hp (e ▸ hu))⟩
theorem Kept.putObj {U:Nat→Prop} {A B:World} (h:Kept U A B) {l:Nat} (hl:¬ U l) (o:Obj):Kept U A (B.putObj l o):=
 h.trans ⟨rfl,rfl,rfl,by simp,fun k hk hu=>World.putObj_heap_other (fun e=>hl (e ▸ hu))⟩
theorem Kept.below {U:Nat→Prop} {A B C:World} (h:Kept U A B) (hb:Below B.heap.size B C):Kept U A C:=
 h.trans ⟨hb.os,hb.tape,hb.output,hb.size,fun k hk _=>hb.block k hk⟩
theorem Kept.grown {U:Nat→Prop} {A B C:World} {row:Option Nat} (h:Kept U A B) (hg:B.grownBy C row) (hr:∀ r,row = some r→¬ U r):Kept U A C:=
 h.trans ⟨hg.os,hg.tape,hg.output,hg.size,fun k hk hu=>hg.block k hk (fun e=>hr k e.symm hu)⟩
theorem Kept.to_below {U:Nat→Prop} {w A B:World} {n:Nat} (hb:Below n w A) (h:Kept U A B) (hn:n ≤ A.heap.size) (hu:∀ k,k < n→U k):Below n w B:=
 hb.trans ⟨h.os,h.tape,h.output,h.size,fun k hk=>h.block k (by omega) (hu k hk)⟩
theorem Kept.cell {U:Nat→Prop} {A B:World} (h:Kept U A B) {p:Addr} (hp:p.block < A.heap.size) (hu:U p.block):B.cell? p = A.cell? p:=
 World.cell?_of_block (h.block _ hp hu)
def AbidesC {β:Type} (O:Nat→Prop) (J:β→World→Prop):Prop:=∀ s A B,J s A→Kept (fun k=>¬ O k) A B→J s B
def postC {α:Type} (B:Nat) (U:Nat→Prop) (I:List α→World→Prop) (Ix:Code→List α→World→Prop) (xs:List α) (W:World):Exit→Act→World→Prop
 | .normal,_,W'=>Kept (fun k=>U k∨k = B∨k = B + 1) W W'∧I xs W'
 | .ret,_,W'=>Kept (fun k=>k = B∨k = B + 1) W W'∧Ix .ret xs W'
 | .exit id,_,W'=>Kept (fun k=>k = B∨k = B + 1) W W'∧Ix (.exit id) xs W'
 | .goto t,_,W'=>Kept (fun k=>k = B∨k = B + 1) W W'∧Ix (.goto t) xs W'
 | .panic _,_,_=>False
 | .outgrown,_,_=>False
variable {F:Fence} {n:Nat} {P:Program}
end Go.Proofs.YtnohglkilpnjhaaGreatDoor
namespace Go.Proofs.YtnohglkilpnjhaaGreatDoor
open Go.RowKit
set_option maxRecDepth 100000
def RPeer:RecT 137 PeerL where
 n:=3
 bytes:=24
 zero:=PeerL.zero
 cells:=fun p=>[.int .i64 p.id,.int .i64 p.till,.bool p.seed]
 ok:=fun _=>True
 pos:=by decide
 small:=by decide
 few:=by decide
 zok:=trivial
 len:=fun _=>rfl
 one:=fun {x} _ v hv=>by simp at hv;rcases hv with rfl | rfl | rfl <;> rfl
 agg:=⟨_,Tryz.underlying137,rfl⟩
 info:=by kernel_rfl
theorem field_id (p:PeerL) (W:World):(Instr.field 137 (.agg #[.int .i64 p.id,.int .i64 p.till,.bool p.seed]) 0).run Tryz.prog W = .ok (.int .i64 p.id) W:=by kernel_rfl
theorem RPeer_ok (p:PeerL):RPeer.ok p:=trivial
theorem RPeer_id {w:World} {g:Nat} {p:PeerL} (h:RPeer.O w g p):w.cell? ⟨g,0,none⟩ = some (.int .i64 p.id):=h.cell 0
theorem RPeer_till {w:World} {g:Nat} {p:PeerL} (h:RPeer.O w g p):w.cell? ⟨g,1,none⟩ = some (.int .i64 p.till):=h.cell 1
theorem RPeer_seed {w:World} {g:Nat} {p:PeerL} (h:RPeer.O w g p):w.cell? ⟨g,2,none⟩ = some (.bool p.seed):=h.cell 2
theorem zero_peer (w:World):(zeroValue 137).run Tryz.prog w = .ok (RPeer.V PeerL.zero) w:=RPeer.zero_run w
theorem zero_peers (w:World):(zeroValue 168).run Tryz.prog w = .ok (.map none) w:=by
 have:=Tryz.zeroValue168 w
 exact this
section
variable {k e t:TypeId} {κ:Type} [DecidableEq κ]
def MapV (KT:KeyT k κ) (w:World) (m:Value) (l:List (κ × Value)):Prop:=(∃ b,m = .map (some b)∧MapL KT w b l)∨(m = .map none∧l = [])
variable {KT:KeyT k κ} {w w':World} {b:Nat} {m:Value} {l:List (κ × Value)}
theorem MapV.of_new (h:MapV KT w m l) (hb:Below w.heap.size w w'):MapV KT w' m l:=h.imp (fun ⟨b,e,h⟩=>⟨b,e,h.of_new hb⟩) id
theorem MapV.below {B:Nat} (h:MapV KT w m l) (hs:w.heap.size ≤ B) (hb:Below B w w'):MapV KT w' m l:=h.imp (fun ⟨b,e,h⟩=>⟨b,e,h.of_block (hb.block _ (Nat.lt_of_lt_of_le h.lt hs))⟩) id
theorem MapV.look (h:MapV KT w m l) (ht:Tryz.prog.underlying t = some (.map k e)) {z:Value} (hz:(zeroValue e).run Tryz.prog w = .ok z w) {x:κ} (hx:KT.ok x) :
  (Instr.lookup t m (KT.val x) false).run Tryz.prog w = .ok ((getL l x).getD z) w:=by
 rcases h with ⟨b,rfl,h⟩ | ⟨rfl,rfl⟩
 ·exact h.look ht hz hx
 ·have:=Maps.look_nil (P:=Tryz.prog) (w:=w) (t:=t) false KT.keyed ht hz (KT.key hx)
  simpa [getL] using this
theorem MapV.look_ok (h:MapV KT w m l) (ht:Tryz.prog.underlying t = some (.map k e)) {z:Value} (hz:(zeroValue e).run Tryz.prog w = .ok z w) {x:κ} (hx:KT.ok x) :
  (Instr.lookup t m (KT.val x) true).run Tryz.prog w = .ok (.tuple #[(getL l x).getD z,.bool (hasKey l x)]) w:=by
 rcases h with ⟨b,rfl,h⟩ | ⟨rfl,rfl⟩
 ·exact h.look_ok ht hz hx
 ·have:=Maps.look_nil (P:=Tryz.prog) (w:=w) (t:=t) true KT.keyed ht hz (KT.key hx)
  simpa [getL,hasKey] using this
def IterV (KT:KeyT k κ) (w:World) (m:Value) (r:Nat) (l todo:List (κ × Value)):Prop:=
 (∃ b,m = .map (some b)∧RangeL KT w b r l todo)∨(m = .map none∧l = []∧todo = []∧w.heap[r]? = some (.mapIter none 0 #[] 0))
theorem MapV.range (h:MapV KT w m l) (ht:Tryz.prog.underlying t = some (.map k e)) :
  ∃ w',(Instr.range t m).run Tryz.prog w = .ok (.pointer (some ⟨w.heap.size,0,none⟩)) w'∧IterV KT w' m w.heap.size l l∧Below w.heap.size w w'∧w'.heap.size = w.heap.size + 1:=by
 rcases h with ⟨b,rfl,h⟩ | ⟨rfl,rfl⟩
 ·obtain ⟨w',h1,h2,h3,h4⟩:=h.range ht
  exact ⟨w',h1,.inl ⟨b,rfl,h2⟩,h3,h4⟩
 ·refine ⟨w.alloc (.mapIter none 0 #[] 0),?_,.inr ⟨rfl,rfl,rfl,World.alloc_heap_new w _⟩,(Below.refl _ w).alloc (Nat.le_refl _) _,by simp⟩
  simp [Instr.range,run_underlying ht,Sem.run_bind,Sem.run_pure,Result.andThen,go_sem]
theorem IterV.lt {r:Nat} {todo:List (κ × Value)} (h:IterV KT w m r l todo):r < w.heap.size:=by
 rcases h with ⟨b,rfl,h⟩ | ⟨rfl,rfl,rfl,h⟩
 ·exact h.lt
 ·exact (Array.getElem?_eq_some_iff.1 h).1
theorem IterV.kept {U:Nat→Prop} {r:Nat} {todo:List (κ × Value)} (h:IterV KT w m r l todo) (hk:Kept U w w') (h1:U r) (h2:∀ b,m = .map (some b)→U b):IterV KT w' m r l todo:=by
 rcases h with ⟨b,rfl,h⟩ | ⟨rfl,rfl,rfl,h⟩
 ·exact .inl ⟨b,rfl,h.of_block (hk.block _ h.map.lt (h2 b rfl)) (hk.block _ h.lt h1)⟩
 ·exact .inr ⟨rfl,rfl,rfl,(hk.block _ (Array.getElem?_eq_some_iff.1 h).1 h1).trans h⟩
theorem IterV.map {r:Nat} {todo:List (κ × Value)} (h:IterV KT w m r l todo):MapV KT w m l:=by
 rcases h with ⟨b,rfl,h⟩ | ⟨rfl,rfl,rfl,h⟩
 ·exact .inl ⟨b,rfl,h.map⟩
 ·exact .inr ⟨rfl,rfl⟩
theorem IterV.nodup {r:Nat} {todo:List (κ × Value)} (h:IterV KT w m r l todo):todo.Nodup:=by
 rcases h with ⟨b,rfl,h⟩ | ⟨rfl,rfl,rfl,h⟩
 ·exact h.nodup
 ·exact List.nodup_nil
theorem IterV.sub {r:Nat} {todo:List (κ × Value)} (h:IterV KT w m r l todo):∀ p ∈ todo,p ∈ l:=by
 rcases h with ⟨b,rfl,es,left,cnt,h1,h2,h3,h4,h5,h6,h7⟩ | ⟨rfl,rfl,rfl,h⟩
 ·exact h6
 ·exact fun p hp=>by cases hp
theorem IterV.apart {r:Nat} {todo:List (κ × Value)} (h:IterV KT w m r l todo):l.Pairwise (fun p q=>p.1 ≠ q.1):=by
 rcases h with ⟨b,rfl,h⟩ | ⟨rfl,rfl,rfl,h⟩
 ·exact h.map.apart
 ·exact List.Pairwise.nil
theorem apart_eq {p q:κ × Value}:∀ {l:List (κ × Value)},l.Pairwise (fun p q=>p.1 ≠ q.1)→p ∈ l→q ∈ l→p.1 = q.1→p = q
 | [],_,h,_,_=>by cases h
 | z :: l,ha,hp,hq,e=>by
  obtain ⟨h1,h2⟩:=List.pairwise_cons.1 ha
  rcases List.mem_cons.1 hp with p1 | p1 <;> rcases List.mem_cons.1 hq with q1 | q1
  ·rw [p1,q1]
  ·exact absurd e (by rw [p1];exact h1 _ q1)
  ·exact absurd e.symm (by rw [q1];exact h1 _ p1)
  ·exact apart_eq h2 p1 q1 e
theorem IterV.step {r:Nat} {pre todo:List (κ × Value)} {p:κ × Value} (h:IterV KT w m r l todo) (hp:p ∈ todo) (hl:(pre ++ todo).Perm l):((pre ++ [p]) ++ todo.filter (fun q=>!decide (q.1 = p.1))).Perm l:=by
 refine List.Perm.trans ?_ hl
 rw [List.append_assoc]
 refine List.Perm.append_left pre ?_
 show (p :: todo.filter (fun q=>!decide (q.1 = p.1))).Perm todo
 have hn:=h.nodup
 refine (List.perm_ext_iff_of_nodup (List.nodup_cons.2 ⟨by simp,hn.filter _⟩) hn).2 fun q=>?_
 rw [List.mem_cons,List.mem_filter]
 constructor
 ·rintro (rfl | h1)
  ·exact hp
  ·exact h1.1
 ·intro hq
  by_cases e:q.1 = p.1
  ·exact .inl (apart_eq h.apart (h.sub _ hq) (h.sub _ hp) e)
  ·exact .inr ⟨hq,by simp [e]⟩
theorem todo_lt {p:κ × Value}:∀ {todo:List (κ × Value)},p ∈ todo→(todo.filter (fun q=>!decide (q.1 = p.1))).length < todo.length:=fun {todo} hp=>by
 rcases Nat.lt_or_ge (todo.filter (fun q=>!decide (q.1 = p.1))).length todo.length with h | h
 ·exact h
 ·have h1:todo.filter (fun q=>!decide (q.1 = p.1)) = todo:=List.Sublist.eq_of_length_le List.filter_sublist h
  have h2:=List.filter_eq_self.1 h1 p hp
  simp at h2
theorem IterV.next {r:Nat} {todo:List (κ × Value)} (h:IterV KT w m r l todo) (ty:TypeId) :
  (todo = []∧(Instr.next (.pointer (some ⟨r,0,none⟩)) false ty).run Tryz.prog w = .ok (.tuple #[.bool false]) w) ∨
  ∃ p w',p ∈ todo∧(Instr.next (.pointer (some ⟨r,0,none⟩)) false ty).run Tryz.prog w = .ok (.tuple #[.bool true,KT.val p.1,p.2]) w'∧IterV KT w' m r l (todo.filter (fun q=>!decide (q.1 = p.1)))∧w.grownBy w' (some r)∧w'.heap.size = w.heap.size ∧
   (Instr.entry (.pointer (some ⟨r,0,none⟩))).run Tryz.prog w' = .ok (.tuple #[KT.val p.1,p.2]) w':=by
 rcases h with ⟨b,rfl,h⟩ | ⟨rfl,rfl,rfl,h⟩
 ·rcases h.next ty with h | ⟨p,w',h1,h2,h3,h4,h5,h6⟩
  ·exact .inl h
  ·exact .inr ⟨p,w',h1,h2,.inl ⟨b,rfl,h3⟩,h4,h5,h6⟩
 ·refine .inl ⟨rfl,?_⟩
  have hg:(getObj r).run Tryz.prog w = .ok (.mapIter none 0 #[] 0) w:=by simp [getObj,Sem.run,h]
  simp [Instr.next,hg,Sem.run_bind,Sem.run_pure,Result.andThen]
theorem IterV.next2 {r:Nat} {todo:List (κ × Value)} (h:IterV KT w m r l todo) (ty:TypeId) :
  (todo = []∧(Instr.next (.pointer (some ⟨r,0,none⟩)) false ty).run Tryz.prog w = .ok (.tuple #[.bool false]) w) ∨
  ∃ p w' todo',p ∈ todo∧p ∈ l∧(Instr.next (.pointer (some ⟨r,0,none⟩)) false ty).run Tryz.prog w = .ok (.tuple #[.bool true,KT.val p.1,p.2]) w'∧IterV KT w' m r l todo'∧w.grownBy w' (some r)∧w'.heap.size = w.heap.size ∧
   (Instr.entry (.pointer (some ⟨r,0,none⟩))).run Tryz.prog w' = .ok (.tuple #[KT.val p.1,p.2]) w'∧todo'.length < todo.length∧∀ pre:List (κ × Value),(pre ++ todo).Perm l→((pre ++ [p]) ++ todo').Perm l:=by
 rcases h.next ty with h1 | ⟨p,w',h1,h2,h3,h4,h5,h6⟩
 ·exact .inl h1
 ·exact .inr ⟨p,w',_,h1,h.sub _ h1,h2,h3,h4,h5,h6,todo_lt h1,fun pre hp=>h.step h1 hp⟩
end
abbrev EntL:=List (List UInt8 × (Nat × List PeerL))
def tabOf (E:EntL):TabL:=E.map fun x=>(x.1,x.2.2)
def outE (x:List UInt8 × (Nat × List PeerL)):List UInt8 × Value:=(x.1,.map (some x.2.1))
def inE (p:PeerL):Int × Value:=(p.id,RPeer.V p)
def decE:Int × Value→PeerL
 | (_,.agg ⟨[.int _ i,.int _ t,.bool b]⟩)=>⟨i,t,b⟩
 | _=>PeerL.zero
theorem dec_in (p:PeerL):decE (inE p) = p:=rfl
theorem dec_map (l:List PeerL):(l.map inE).map decE = l:=by
 rw [List.map_map]
 exact (List.map_congr_left fun x _=>dec_in x).trans (List.map_id _)
structure TabP (w:World) (t:Nat) (most each:Int) (mb:Nat) (E:EntL):Prop where
 tab:w.heap[t]? = some (.cells #[.int .i64 most,.int .i64 each,.map (some mb)] 157 (0,0))
 map:MapL KDig w mb (E.map outE)
 ins:∀ x ∈ E,MapL KInt w x.2.1 (x.2.2.map inE)
 apart:(t :: mb :: E.map (fun x=>x.2.1)).Nodup
def ownE (mb:Nat) (E:EntL) (k:Nat):Prop:=k = mb∨∃ x ∈ E,x.2.1 = k
variable {w w':World} {t mb:Nat} {most each:Int} {E:EntL}
theorem TabP.lt (h:TabP w t most each mb E):t < w.heap.size:=(Array.getElem?_eq_some_iff.1 h.tab).1
theorem TabP.own_lt (h:TabP w t most each mb E) {k:Nat} (hk:ownE mb E k):k < w.heap.size:=by
 rcases hk with rfl | ⟨x,hx,rfl⟩
 ·exact h.map.lt
 ·exact (h.ins x hx).lt
theorem TabP.own_ne (h:TabP w t most each mb E) {k:Nat} (hk:ownE mb E k):k ≠ t:=by
 have:=(List.nodup_cons.1 h.apart).1
 rintro rfl
 rcases hk with rfl | ⟨x,hx,rfl⟩
 ·exact this (by simp)
 ·exact this (List.mem_cons_of_mem _ (List.mem_map.2 ⟨x,hx,rfl⟩))
theorem TabP.kept {U:Nat→Prop} (h:TabP w t most each mb E) (hk:Kept U w w') (h1:U t) (h2:∀ k,ownE mb E k→U k):TabP w' t most each mb E:=
 ⟨(hk.block _ h.lt h1).trans h.tab,h.map.of_block (hk.block _ h.map.lt (h2 _ (.inl rfl))),fun x hx=>(h.ins x hx).of_block (hk.block _ (h.ins x hx).lt (h2 _ (.inr ⟨x,hx,rfl⟩))),h.apart⟩
theorem TabP.of_new (h:TabP w t most each mb E) (hb:Below w.heap.size w w'):TabP w' t most each mb E:=h.kept ((Kept.refl (fun _=>True) w).below hb) trivial fun _ _=>trivial
theorem TabP.cell0 (h:TabP w t most each mb E):w.cell? ⟨t,0,none⟩ = some (.int .i64 most):=by simp [World.cell?,h.tab]
theorem TabP.cell1 (h:TabP w t most each mb E):w.cell? ⟨t,1,none⟩ = some (.int .i64 each):=by simp [World.cell?,h.tab]
theorem TabP.cell2 (h:TabP w t most each mb E):w.cell? ⟨t,2,none⟩ = some (.map (some mb)):=by simp [World.cell?,h.tab]
def EntOk (most each:Int) (E:EntL):Prop:=TabOk most each (tabOf E)
theorem tabOf_get (d:Int):(getK kD d E).map (fun x=>(x.1,x.2.2)) = getK kD d (tabOf E):=getK_map (f:=kD) (g:=kD) (fun x:List UInt8 × (Nat × List PeerL)=>(x.1,x.2.2)) (fun _=>rfl) d E
theorem tabOf_ins (x:List UInt8 × (Nat × List PeerL)):tabOf (insK kD x E) = insK kD (x.1,x.2.2) (tabOf E):=insK_map (f:=kD) (g:=kD) (fun x:List UInt8 × (Nat × List PeerL)=>(x.1,x.2.2)) (fun _=>rfl) x E
theorem tabOf_del (d:Int):tabOf (delK kD d E) = delK kD d (tabOf E):=delK_map (f:=kD) (g:=kD) (fun x:List UInt8 × (Nat × List PeerL)=>(x.1,x.2.2)) (fun _=>rfl) d E
theorem entL_rise (h:Rising kD (tabOf E)):Rising kD E:=Rising.of_map (g:=kD) (φ:=fun x:List UInt8 × (Nat × List PeerL)=>(x.1,x.2.2)) (fun _=>rfl) h
theorem tabOf_mem {x:List UInt8 × (Nat × List PeerL)} (h:x ∈ E):(x.1,x.2.2) ∈ tabOf E:=List.mem_map.2 ⟨x,h,rfl⟩
theorem getL_out {E:EntL} (hd:∀ x ∈ E,x.1.length = 32) {d:List UInt8} (h32:d.length = 32):getL (E.map outE) d = (getK kD (natL d) E).map (fun x=>.map (some x.2.1)):=by
 unfold getL getK
 rw [List.find?_map,Option.map_map]
 congr 1
 induction E with
 | nil=>rfl
 | cons x E ih=>
  have hx:=hd x (by simp)
  have e:decide ((outE x).1 = d) = decide (kD x = (natL d:Int)):=by
   rw [decide_eq_decide]
   constructor
   ·intro e;show (natL x.1:Int) = _;rw [show x.1 = d from e]
   ·intro e;exact natL_inj x.1 d (by omega) (by unfold kD at e;omega)
  simp only [List.find?_cons,Function.comp,e]
  split
  ·rfl
  ·exact ih (fun y hy=>hd y (by simp [hy]))
theorem hasKey_get {κ:Type} [DecidableEq κ] (l:List (κ × Value)) (x:κ):hasKey l x = (getL l x).isSome:=by
 unfold hasKey getL
 rw [Option.isSome_map,Bool.eq_iff_iff,List.any_eq_true,List.find?_isSome]
theorem delL_out {E:EntL} (hd:∀ x ∈ E,x.1.length = 32) {d:List UInt8} (h32:d.length = 32):delL (E.map outE) d = (delK kD (natL d) E).map outE:=by
 unfold delL delK
 rw [List.filter_map]
 congr 1
 refine List.filter_congr fun x hx=>?_
 have:=hd x hx
 show (!decide (x.1 = d)) = (!decide (kD x = (natL d:Int)))
 congr 1
 rw [decide_eq_decide]
 constructor
 ·intro e;show (natL x.1:Int) = _;rw [e]
 ·intro e;exact natL_inj x.1 d (by omega) (by unfold kD at e;omega)
theorem getL_in (l:List PeerL) (k:Int):getL (l.map inE) k = (getK PeerL.id k l).map RPeer.V:=by
 unfold getL getK
 rw [List.find?_map,Option.map_map]
 rfl
theorem delL_in (l:List PeerL) (k:Int):delL (l.map inE) k = (delK PeerL.id k l).map inE:=by
 unfold delL delK
 rw [List.filter_map]
 rfl
variable {w w':World} {t mb b:Nat} {most each:Int} {E:EntL} {d:List UInt8} {ps ps':List PeerL}
def blkE (E:EntL):List Nat:=E.map (fun x=>x.2.1)
theorem ins_out {x y:List UInt8 × (Nat × List PeerL)} (h:Rising kD E) (hy:y ∈ E) (e1:x.1 = y.1) (e2:x.2.1 = y.2.1):(insK kD x E).map outE = E.map outE∧blkE (insK kD x E) = blkE E:=by
 have hm:=insK_map (f:=kD) (g:=kD) (fun x:List UInt8 × (Nat × List PeerL)=>(x.1,x.2.1)) (fun _=>rfl) x E
 have hr:Rising kD (E.map (fun x:List UInt8 × (Nat × List PeerL)=>(x.1,x.2.1))):=Rising.map (f:=kD) (fun _=>rfl) h
 have hx:((x.1,x.2.1):List UInt8 × Nat) ∈ E.map (fun x:List UInt8 × (Nat × List PeerL)=>(x.1,x.2.1)):=by
  rw [e1,e2];exact List.mem_map.2 ⟨y,hy,rfl⟩
 rw [insK_same hr hx] at hm
 constructor
 ·have:=congrArg (List.map (fun x:List UInt8 × Nat=>(x.1,Value.map (some x.2)))) hm
  rw [List.map_map,List.map_map] at this
  exact this
 ·have:=congrArg (List.map (fun x:List UInt8 × Nat=>x.2)) hm
  rw [List.map_map,List.map_map] at this
  exact this
theorem ownE_iff {k:Nat}:ownE mb E k↔k ∈ mb :: blkE E:=by
 unfold ownE blkE
 rw [List.mem_cons,List.mem_map]
theorem TabP.put_new (h:TabP w t most each mb E) (hr:Rising kD E) (hd:∀ x ∈ E,x.1.length = 32) (h32:d.length = 32) (hg:getK kD (natL d) E = none) (hbt:b ≠ t∧¬ ownE mb E b) (hb:MapL KInt w b [])
  (hm:MapL KDig w' mb (putM (E.map outE) d (.map (some b)))) (hgr:w.grownBy w' (some mb)):TabP w' t most each mb (insK kD (d,(b,[])) E):=by
 have hp:=insK_perm (f:=kD) (x:=(d,(b,([]:List PeerL)))) hr
 have hdel:delK kD (kD (d,(b,([]:List PeerL)))) E = E:=delK_none (getK_none.1 hg)
 rw [hdel] at hp
 have hmb:∀ k,ownE mb E k→k ≠ mb→w'.heap[k]? = w.heap[k]?:=fun k hk hne=>hgr.block k (h.own_lt hk) (fun e=>by cases e;exact hne rfl)
 have hap:=h.apart
 refine ⟨(hgr.block t h.lt (fun e=>h.own_ne (.inl rfl) (by cases e;rfl))).trans h.tab,?_,fun x hx=>?_,?_⟩
 ·refine hm.perm ?_
  unfold putM
  rw [delL_out hd h32]
  have e2:delK kD (natL d:Int) E = E:=delK_none (getK_none.1 hg)
  rw [e2]
  exact (hp.map outE).symm
 ·rcases (mem_insK hr).1 hx with rfl | ⟨h1,_⟩
  ·exact hb.of_block (hgr.block _ hb.lt (fun e=>by cases e;exact hbt.2 (.inl rfl)))
  ·refine (h.ins x h1).of_block (hmb _ (.inr ⟨x,h1,rfl⟩) (fun e=>?_))
   have:=(List.nodup_cons.1 (List.nodup_cons.1 hap).2).1
   exact this (List.mem_map.2 ⟨x,h1,e⟩)
 ·have hpb:(blkE (insK kD (d,(b,[])) E)).Perm (b :: blkE E):=hp.map (fun x:List UInt8 × (Nat × List PeerL)=>x.2.1)
  have h2:(t :: mb :: blkE (insK kD (d,(b,[])) E)).Perm (b :: t :: mb :: blkE E):=((hpb.cons mb).cons t).trans ((List.Perm.cons t (List.Perm.swap b mb _)).trans (List.Perm.swap b t _))
  refine h2.nodup_iff.2 (List.nodup_cons.2 ⟨?_,hap⟩)
  intro hm2
  rcases List.mem_cons.1 hm2 with e | e
  ·exact hbt.1 e
  ·exact hbt.2 (ownE_iff.2 e)
theorem own_put_new (hr:Rising kD E) {k:Nat} (hk:ownE mb (insK kD (d,(b,ps)) E) k):ownE mb E k∨k = b:=by
 rcases hk with rfl | ⟨x,hx,rfl⟩
 ·exact .inl (.inl rfl)
 ·rcases (mem_insK hr).1 hx with rfl | ⟨h1,_⟩
  ·exact .inr rfl
  ·exact .inl (.inr ⟨x,h1,rfl⟩)
theorem TabP.set (h:TabP w t most each mb E) (hr:Rising kD E) (hg:(d,(b,ps)) ∈ E) (hm:MapL KInt w' b (ps'.map inE)) (hgr:w.grownBy w' (some b)):TabP w' t most each mb (insK kD (d,(b,ps')) E):=by
 obtain ⟨e1,e2⟩:=ins_out (x:=(d,(b,ps'))) hr hg rfl rfl
 have hap:=h.apart
 have hnm:b ≠ mb:=fun e=>(List.nodup_cons.1 (List.nodup_cons.1 hap).2).1 (e ▸ List.mem_map.2 ⟨_,hg,rfl⟩)
 refine ⟨(hgr.block t h.lt (fun e=>h.own_ne (.inr ⟨_,hg,rfl⟩) (by cases e;rfl))).trans h.tab,?_,fun x hx=>?_,?_⟩
 ·rw [e1]
  exact h.map.of_block (hgr.block _ h.map.lt (fun e=>hnm (by cases e;rfl)))
 ·rcases (mem_insK hr).1 hx with rfl | ⟨h1,h2⟩
  ·exact hm
  ·refine (h.ins x h1).of_block (hgr.block _ (h.ins x h1).lt (fun e=>?_))
   have hbe:x.2.1 = b:=by cases e;rfl
   have hnd:=(List.nodup_cons.1 (List.nodup_cons.1 hap).2).2
   have hxx:x = (d,(b,ps)):=by
    clear hm hgr e1 e2 h hx hap
    induction E with
    | nil=>cases h1
    | cons z E ih=>
     rw [List.map_cons,List.nodup_cons] at hnd
     rcases List.mem_cons.1 h1 with q1 | q1 <;> rcases List.mem_cons.1 hg with q2 | q2
     ·rw [q1,q2]
     ·refine absurd ?_ hnd.1
      rw [← q1,hbe]
      exact List.mem_map.2 ⟨_,q2,rfl⟩
     ·refine absurd ?_ hnd.1
      rw [← q2]
      exact List.mem_map.2 ⟨_,q1,hbe⟩
     ·exact ih hr.tail q2 q1 hnd.2
   exact h2 (by rw [hxx];rfl)
 ·show (t :: mb :: blkE (insK kD (d,(b,ps')) E)).Nodup
  rw [e2];exact hap
theorem own_set (hr:Rising kD E) (hg:(d,(b,ps)) ∈ E) {k:Nat} (hk:ownE mb (insK kD (d,(b,ps')) E) k):ownE mb E k:=by
 rw [ownE_iff] at hk ⊢
 rwa [(ins_out (x:=(d,(b,ps'))) hr hg rfl rfl).2] at hk
theorem TabP.cut (h:TabP w t most each mb E) (hd:∀ x ∈ E,x.1.length = 32) (h32:d.length = 32) (hm:MapL KDig w' mb (delL (E.map outE) d)) (hgr:w.grownBy w' (some mb)):TabP w' t most each mb (delK kD (natL d) E):=by
 have hap:=h.apart
 refine ⟨(hgr.block t h.lt (fun e=>h.own_ne (.inl rfl) (by cases e;rfl))).trans h.tab,?_,fun x hx=>?_,?_⟩
 ·rwa [delL_out hd h32] at hm
 ·have h1:=(mem_delK.1 hx).1
  refine (h.ins x h1).of_block (hgr.block _ (h.ins x h1).lt (fun e=>?_))
  have:=(List.nodup_cons.1 (List.nodup_cons.1 hap).2).1
  exact this (List.mem_map.2 ⟨x,h1,by cases e;rfl⟩)
 ·refine hap.sublist (List.Sublist.cons_cons _ (List.Sublist.cons_cons _ ?_))
  exact List.filter_sublist.map _
theorem own_cut {j:Int} {k:Nat} (hk:ownE mb (delK kD j E) k):ownE mb E k:=by
 rcases hk with rfl | ⟨x,hx,rfl⟩
 ·exact .inl rfl
 ·exact .inr ⟨x,(mem_delK.1 hx).1,rfl⟩
theorem put_in {p:PeerL} (h:MapL KInt w b (putM (ps.map inE) p.id (RPeer.V p))) (hr:Rising PeerL.id ps):MapL KInt w b ((insK PeerL.id p ps).map inE):=by
 refine h.perm ?_
 unfold putM
 rw [delL_in]
 exact ((insK_perm (f:=PeerL.id) (x:=p) hr).map inE).symm
def dig0:List UInt8:=List.replicate 32 0
def DigO (w:World) (g:Nat) (d:List UInt8):Prop:=Octs w g 31 d∧d.length = 32
theorem DigO.lt {w:World} {g:Nat} {d:List UInt8} (h:DigO w g d):g < w.heap.size:=(Array.getElem?_eq_some_iff.1 h.1).1
theorem DigO.of_block {w w':World} {g:Nat} {d:List UInt8} (h:DigO w g d) (e:w'.heap[g]? = w.heap[g]?):DigO w' g d:=⟨h.1.of_block e,h.2⟩
theorem DigO.of_new {w w':World} {g:Nat} {d:List UInt8} (h:DigO w g d) (hb:Below w.heap.size w w'):DigO w' g d:=h.of_block (hb.block _ h.lt)
theorem DigO.at_ {w:World} {g:Nat} {d:List UInt8} (h:DigO w g d):DigAt w g 0 d:=h.1.digAt h.2
theorem DigO.cell {w:World} {g:Nat} {d:List UInt8} (h:DigO w g d) {j:Nat} (hj:j < 32):w.cell? ⟨g,j,none⟩ = some (B8 (d.getD j 0)):=h.1.cell (by rw [h.2];exact hj)
theorem DigO.free {w:World} {g:Nat} {d:List UInt8} (h:DigO w g d) (j:Nat):w.frozen? ⟨g,j,none⟩ = false:=h.1.free j
theorem DigO.set {w:World} {g:Nat} {d:List UInt8} (h:DigO w g d) (j:Nat) (x:UInt8):DigO (w.setCell ⟨g,j,none⟩ (B8 x)) g (d.set j x):=⟨h.1.set j x,by simp [h.2]⟩
theorem dig_zero (w:World):(zeroValue 31).run Tryz.prog w = .ok (.agg (dig0.map B8).toArray) w:=by kernel_rfl
theorem digO_new (w:World) {d:List UInt8} (h:d.length = 32):DigO (w.alloc (.cells (d.map B8).toArray 31)) w.heap.size d:=⟨heap_alloc_new w _,h⟩
theorem wp_alloc_dig {w:World} {o:Oper} {a:Act} {K:Act→World→Prop} {Q:Exit→Act→World→Prop} (ho:o.op = .alloc 31)
  (h:∀ w',DigO w' w.heap.size dig0→Below w.heap.size w w'→w'.heap.size = w.heap.size + 1→K (a.put o.dst (.pointer (some ⟨w.heap.size,0,none⟩))) w'):o.wp Tryz.prog a w K Q:=by
 unfold Oper.wp execOp
 have:=h _ (digO_new w (d:=dig0) rfl) ((Below.refl _ w).alloc (Nat.le_refl _) _) (by simp)
 have hz:=dig_zero w
 simp only [ho,Instr.alloc,Sem.run_bind,hz,Result.andThen_ok,Sem.run_pure,newVar,newRow]
 exact this
theorem wp_store_digO {w:World} {op:Oper} {a:Act} {K:Act→World→Prop} {Q:Exit→Act→World→Prop} (p q:Operand) (g:Nat) (d d0:List UInt8) (ho:op.op = .store 31 p q)
  (hp:a.eval p = .pointer (some ⟨g,0,none⟩)) (hq:a.eval q = .agg (d.map B8).toArray) (hd:d.length = 32) (hg:DigO w g d0)
  (h:∀ w',DigO w' g d→w.grownBy w' (some g)→w'.heap.size = w.heap.size→K (a.put op.dst undef) w'):op.wp Tryz.prog a w K Q:=by
 have hrun:=run_storeVar_row (P:=Tryz.prog) w g 31 31 _ (d.map B8).toArray hg.1 (by rw [info_dig];simp [hd]) (by simp [hd,hg.2]) (octs_one d)
 unfold Oper.wp execOp
 simp only [ho,hp,hq,Instr.storeAt,Instr.sureAddr,Sem.run_bind,Sem.run_pure,Result.andThen_ok,hrun]
 exact h _ ⟨setRow_heap _ _ _ _ _ _ hg.1,hd⟩ ⟨rfl,rfl,rfl,by simp [World.setRow],fun k hk hne=>Go.setRow_other w g k _ (fun e=>hne (by rw [e]))⟩ (by simp [World.setRow])
theorem run_load_digO {w:World} {g:Nat} {d:List UInt8} (h:DigO w g d):(loadVar 31 ⟨g,0,none⟩).run Tryz.prog w = .ok (.agg (d.map B8).toArray) w:=
 run_loadVar_row (P:=Tryz.prog) w g 31 31 (d.map B8).toArray (0,0) _ h.1 Tryz.underlying31 rfl (by rw [info_dig];simp [h.2])
theorem results_dig_tmp {fn:Func} {p q:Tmp} (h:fn.results = #[.cell p 31,.tmp q]) (tmps:Array Value) {w:World} {b:Nat} {d:List UInt8} {u:Value} (hp:tmps.getD p undef = .pointer (some ⟨b,0,none⟩)) (hq:tmps.getD q undef = u)
  (hx:DigO w b d):(results fn tmps).run Tryz.prog w = .ok (.tuple #[.agg (d.map B8).toArray,u]) w:=by
 have hp':tmps[p]?.getD undef = .pointer (some ⟨b,0,none⟩):=by simpa using hp
 have hq':tmps[q]?.getD undef = u:=by simpa using hq
 simp [results,h,hp',hq',asAddr,run_load_digO hx]
def RDig:RecT 31 (List UInt8) where
 n:=32
 bytes:=32
 zero:=dig0
 cells:=fun d=>d.map B8
 ok:=fun d=>d.length = 32
 pos:=by decide
 small:=by decide
 few:=by decide
 zok:=rfl
 len:=fun h=>by simp [h]
 one:=fun {x} _ v hv=>by
  obtain ⟨b,_,rfl⟩:=List.mem_map.1 hv
  rfl
 agg:=⟨_,Tryz.underlying31,rfl⟩
 info:=by kernel_rfl
def ROf:RecT 141 (List UInt8 × Value) where
 n:=33
 bytes:=56
 zero:=(dig0,.slice none 0 0)
 cells:=fun x=>x.1.map B8 ++ [x.2]
 ok:=fun x=>x.1.length = 32∧x.2.oneCell' = true
 pos:=by decide
 small:=by decide
 few:=by decide
 zok:=⟨rfl,rfl⟩
 len:=fun h=>by simp [h.1]
 one:=fun {x} h v hv=>by
  rcases List.mem_append.1 hv with hv | hv
  ·obtain ⟨b,_,rfl⟩:=List.mem_map.1 hv
   rfl
  ·simp at hv;subst hv;exact h.2
 agg:=⟨_,Tryz.underlying141,rfl⟩
 info:=by kernel_rfl
section
variable {e:TypeId} {α:Type} {R:RecT e α} {w:World} {base k:Nat} {v:Value} {l:List α}
theorem RecT.Own.block (h:R.Own w base v l) (hk:v.ownBlock = some k):∃ cur,w.heap[k]? = some (.cells cur e (0,0)):=by
 rcases h.2.2 with ⟨rfl,_⟩ | ⟨g,cap,cur,rfl,_,hh,_⟩
 ·cases hk
 ·cases hk;exact ⟨cur,hh⟩
theorem RecT.Own.one (h:R.Own w base v l):v.oneCell' = true:=by
 rcases h.2.2 with ⟨rfl,_⟩ | ⟨g,cap,cur,rfl,_⟩ <;> rfl
theorem RecT.Own.form (h:R.Own w base v l) (h0:0 < l.length):∃ g cap,v = .slice (some ⟨g,0,none⟩) l.length cap∧base ≤ g∧g < w.heap.size:=by
 have hlt:=h.lt
 rcases h.2.2 with ⟨_,h1⟩ | ⟨g,cap,cur,rfl,_⟩
 ·omega
 ·exact ⟨g,cap,rfl,hlt g rfl⟩
theorem MapL.obj {kt:TypeId} {κ:Type} [DecidableEq κ] {KT:KeyT kt κ} {b:Nat} {m:List (κ × Value)} (h:MapL KT w b m):∃ a c,w.heap[b]? = some (.map a c):=by
 obtain ⟨es,⟨a,c,h1,_⟩,_⟩:=h
 exact ⟨a,c,h1⟩
end
abbrev RefL:=List (List UInt8 × Value)
structure RTabP (w:World) (r:Nat) (many most:Int) (B:Nat) (v:Value) (L:RefL) (T:TabL):Prop where
 tab:w.heap[r]? = some (.cells #[.int .i64 many,.int .i64 most,v] 144 (0,0))
 base:B ≤ r
 own:ROf.Own w B v L
 keys:L.map (·.1) = T.map (·.1)
 rows:∀ (i:Nat) (x:List UInt8 × Value) (y:List UInt8 × List PeerL),L[i]? = some x→T[i]? = some y→RPeer.Own w B x.2 y.2
variable {w w':World} {r B t mb:Nat} {many most each:Int} {v:Value} {L:RefL} {T:TabL} {E:EntL}
theorem RTabP.lt (h:RTabP w r many most B v L T):r < w.heap.size:=(Array.getElem?_eq_some_iff.1 h.tab).1
theorem RTabP.len (h:RTabP w r many most B v L T):L.length = T.length:=by have:=congrArg List.length h.keys;simpa using this
theorem RTabP.kept {U:Nat→Prop} (h:RTabP w r many most B v L T) (hk:Kept U w w') (h1:U r) (h2:∀ k,v.ownBlock = some k→U k) (h3:∀ (i:Nat) (x:List UInt8 × Value) (y:List UInt8 × List PeerL),L[i]? = some x→T[i]? = some y→∀ k,x.2.ownBlock = some k→U k):RTabP w' r many most B v L T:=
 ⟨(hk.block _ h.lt h1).trans h.tab,h.base,h.own.kept fun k hv=>hk.block _ (h.own.lt k hv).2 (h2 k hv),h.keys,fun i x y hx hy=>(h.rows i x y hx hy).kept fun k hv=>hk.block _ ((h.rows i x y hx hy).lt k hv).2 (h3 i x y hx hy k hv)⟩
theorem RTabP.of_new (h:RTabP w r many most B v L T) (hb:Below w.heap.size w w'):RTabP w' r many most B v L T:=h.kept ((Kept.refl (fun _=>True) w).below hb) trivial (fun _ _=>trivial) (fun _ _ _ _ _ _ _=>trivial)
theorem RTabP.cell0 (h:RTabP w r many most B v L T):w.cell? ⟨r,0,none⟩ = some (.int .i64 many):=by simp [World.cell?,h.tab]
theorem RTabP.cell1 (h:RTabP w r many most B v L T):w.cell? ⟨r,1,none⟩ = some (.int .i64 most):=by simp [World.cell?,h.tab]
theorem RTabP.cell2 (h:RTabP w r many most B v L T):w.cell? ⟨r,2,none⟩ = some v:=by simp [World.cell?,h.tab]
theorem RTabP.free (h:RTabP w r many most B v L T) (j:Nat):w.frozen? ⟨r,j,none⟩ = false:=by simp [World.frozen?,h.tab]
theorem RTabP.ne (h:RTabP w r many most B v L T) {k:Nat} (hk:v.ownBlock = some k):k ≠ r:=by
 rintro rfl
 obtain ⟨cur,h1⟩:=h.own.block hk
 rw [h.tab] at h1
 cases h1
abbrev RStp (r:Nat) (v:Value) (w w':World):Prop:=Kept (fun k=>k ≠ r∧v.ownBlock ≠ some k) w w'
theorem TabP.ref_step {m1 e1:Int} (hT:TabP w t m1 e1 mb E) (h:RTabP w r many most B v L T) (hk:RStp r v w w'):TabP w' t m1 e1 mb E:=by
 have hty:∀ k,k = r∨v.ownBlock = some k→∃ a e,w.heap[k]? = some (.cells a e (0,0))∧e ≠ 157:=by
  rintro k (rfl | hv)
  ·exact ⟨_,_,h.tab,by decide⟩
  ·obtain ⟨cur,h1⟩:=h.own.block hv
   exact ⟨_,_,h1,by decide⟩
 refine hT.kept hk ?_ fun k hx=>?_
 ·constructor
  ·intro e
   obtain ⟨a,e2,h1,h2⟩:=hty t (.inl e)
   rw [hT.tab] at h1;cases h1;exact h2 rfl
  ·intro e
   obtain ⟨a,e2,h1,h2⟩:=hty t (.inr e)
   rw [hT.tab] at h1;cases h1;exact h2 rfl
 ·have:∃ a c,w.heap[k]? = some (.map a c):=by
   rcases hx with rfl | ⟨x,hx,rfl⟩
   ·exact hT.map.obj
   ·exact (hT.ins x hx).obj
  obtain ⟨a2,c2,h2⟩:=this
  constructor
  ·intro e
   obtain ⟨a,e2,h1,_⟩:=hty k (.inl e)
   rw [h2] at h1;cases h1
  ·intro e
   obtain ⟨a,e2,h1,_⟩:=hty k (.inr e)
   rw [h2] at h1;cases h1
theorem RStp.below {B0:Nat} {w0:World} (hk:RStp r v w w') (h:RTabP w r many most B v L T) (hb:Below B0 w0 w) (h0:B0 ≤ B) (hs:B0 ≤ w.heap.size):Below B0 w0 w':=
 hk.to_below hb hs fun k hlt=>⟨fun e=>by have:=h.base;omega,fun e=>by have:=(h.own.lt k e).1;omega⟩
theorem ROf_flat_set:∀ {l:RefL},(∀ x ∈ l,ROf.ok x)→∀ {i:Nat} {d:List UInt8} {u0:Value} (u:Value),l[i]? = some (d,u0)→ROf.flat (l.set i (d,u)) = (ROf.flat l).set (i * 33 + 32) u
 | [],_,i,d,u0,u,hi=>by simp at hi
 | y :: l,h,0,d,u0,u,hi=>by
  simp at hi
  subst hi
  have h0:(d.map B8).length = 32:=by have:=(h _ (List.mem_cons_self)).1;simpa using this
  show (d.map B8 ++ [u]) ++ ROf.flat l = ((d.map B8 ++ [u0]) ++ ROf.flat l).set _ u
  rw [List.set_append_left _ _ (by simp;have:=(h _ (List.mem_cons_self)).1;dsimp only at this;omega),List.set_append_right _ _ (by omega),show 0 * 33 + 32 - (d.map B8).length = 0 by omega]
  rfl
 | y :: l,h,i + 1,d,u0,u,hi=>by
  have ih:=ROf_flat_set (l:=l) (fun x hx=>h x (List.mem_cons_of_mem _ hx)) (i:=i) (d:=d) (u0:=u0) u (by simpa using hi)
  have h0:(ROf.cells y).length = 33:=ROf.len (h y List.mem_cons_self)
  show ROf.cells y ++ ROf.flat (l.set i (d,u)) = (ROf.cells y ++ ROf.flat l).set _ u
  rw [List.set_append_right _ _ (by omega),ih,show (i + 1) * 33 + 32 - (ROf.cells y).length = i * 33 + 32 by omega]
theorem ROf.set {base g cap n i:Nat} {l:RefL} (h:ROf.Own w base (.slice (some ⟨g,0,none⟩) n cap) l) {d:List UInt8} {u0 u:Value} (hi:l[i]? = some (d,u0)) (hu:u.oneCell' = true) :
  ROf.Own (w.setCell ⟨g,i * 33 + 32,none⟩ u) base (.slice (some ⟨g,0,none⟩) n cap) (l.set i (d,u))∧w.grownBy (w.setCell ⟨g,i * 33 + 32,none⟩ u) (some g):=by
 have hn:n = l.length:=by
  obtain ⟨a,c,e⟩:=h.row.len
  cases e;rfl
 subst hn
 have hst:=World.ownsRow.stored h.2 (i * 33 + 32) u
 refine ⟨⟨fun x hx=>?_,?_⟩,hst.2⟩
 ·rcases List.mem_or_eq_of_mem_set hx with hx | rfl
  ·exact h.1 x hx
  ·exact ⟨(h.1 _ (List.mem_of_getElem? hi)).1,hu⟩
 ·rw [ROf_flat_set h.1 u hi,List.length_set]
  exact hst.1
end Go.Proofs.YtnohglkilpnjhaaGreatDoor
namespace Go.Proofs.YtnohglkilpnjhaaGreatDoor
open Go.RowKit
theorem wpListIn_one {m:Nat} {P:Program} {ops:Array Oper} {rest:List Oper} {o:Oper} {a:Act} {w:World} {Q:Exit→Act→World→Prop} (hgd:o.guard = none) (hd:∀ c,o.op ≠ .defer c)
  (h:o.wp P a w (wpListIn Fence.wide m P ops Q rest) Q):wpListIn Fence.wide m P ops Q (o :: rest) a w:=wpListIn_of_wp (ro:=none) hgd hd h
end Go.Proofs.YtnohglkilpnjhaaGreatDoor
