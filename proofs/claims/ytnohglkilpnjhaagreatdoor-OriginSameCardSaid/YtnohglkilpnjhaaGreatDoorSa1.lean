/- Lemmas that the statement of this claim leans on; their own comments are taken out, for the size of the claim. No condition beyond what each lemma states. -/
import Derived.WalkKit
import Derived.WalkLawsBesides
import Derived.WalkSpells
import Derived.Lib.Hide
import Derived.Laws.AppendOwnNone
import Derived.Deep.AppendLies
import GoSem.Extern.BytealgCompare
set_option linter.unusedVariables false
set_option linter.unusedSimpArgs false
set_option linter.unusedSectionVars false
namespace Go.Proofs.YtnohglkilpnjhaaGreatDoor
open Go.RowKit
theorem ret_bool {a b:Bool} (h:a = b):Ending.returned (.bool a) = .returned (.bool b):=by rw [h]
theorem ret_int {k:IntKind} {a b:Int} (h:a = b):Ending.returned (.int k a) = .returned (.int k b):=by rw [h]
theorem below_next {w w1 w2:World} (h:Below w.heap.size w w1) (h2:Below w1.heap.size w1 w2):Below w.heap.size w w2:=h.trans (h2.mono h.size)
theorem below_drewn {B:Nat} {w:World} (n:Nat):Below B w (w.drewN n):=⟨rfl,rfl,rfl,Nat.le_refl _,fun _ _=>rfl⟩
def B8 (b:UInt8):Value:=.int .u8 (b.toNat:Int)
def Row (w:World) (v:Value) (n size:Nat) (cs:List Value):Prop:=
 cs.length = n * size∧∃ (a:Option Addr) (c:Nat),v = .slice a n c∧n ≤ c∧c ≤ maxLen∧(a = none→c = 0) ∧
  (n * size ≠ 0→∃ b off,a = some ⟨b,off,none⟩∧b < w.heap.size∧∀ j,j < n * size→w.cell? ⟨b,off + j,none⟩ = cs[j]?)
def Bytes (w:World) (v:Value) (l:List UInt8):Prop:=Row w v l.length 1 (l.map B8)
theorem Row.of_owns {w:World} {base e size n:Nat} {v:Value} {cs:List Value} (h:w.ownsRow base e size v n cs):Row w v n size cs:=by
 obtain ⟨h1,h2⟩:=h
 refine ⟨h1,?_⟩
 rcases h2 with ⟨rfl,rfl⟩ | ⟨g,cap,cur,rfl,hb,hh,hn,hm,hs,ht⟩
 ·exact ⟨none,0,rfl,Nat.le_refl _,by unfold maxLen;omega,fun _=>rfl,fun h=>absurd (Nat.zero_mul _) h⟩
 ·refine ⟨_,cap,rfl,hn,hm,(fun h=>by cases h),fun _=>⟨g,0,rfl,(Array.getElem?_eq_some_iff.1 hh).1,fun j hj=>?_⟩⟩
  simp only [World.cell?,hh]
  simp only [Option.isSome_none,Bool.false_eq_true,if_false,Nat.zero_add,← ht]
  rw [List.getElem?_take,if_pos hj]
  simp
theorem Row.of_kept {w w':World} {row:Option Nat} {v:Value} {n size:Nat} {cs:List Value} (h:Row w v n size cs) (hg:w.grownBy w' row) (hne:∀ k,v.ownBlock = some k→some k ≠ row):Row w' v n size cs:=by
 obtain ⟨h1,a,c,rfl,h2,h3,h4,h5⟩:=h
 refine ⟨h1,a,c,rfl,h2,h3,h4,fun h=>?_⟩
 obtain ⟨b,off,rfl,hb,hc⟩:=h5 h
 refine ⟨b,off,rfl,Nat.lt_of_lt_of_le hb hg.size,fun j hj=>?_⟩
 rw [← hc j hj]
 exact World.cell?_of_block (w:=w) (hg.block b hb (hne b rfl))
theorem Row.of_below {w w':World} {B:Nat} {v:Value} {n size:Nat} {cs:List Value} (h:Row w v n size cs) (hg:Below B w w') (hne:∀ k,v.ownBlock = some k→k < B):Row w' v n size cs:=by
 obtain ⟨h1,a,c,rfl,h2,h3,h4,h5⟩:=h
 refine ⟨h1,a,c,rfl,h2,h3,h4,fun h=>?_⟩
 obtain ⟨b,off,rfl,hb,hc⟩:=h5 h
 refine ⟨b,off,rfl,Nat.lt_of_lt_of_le hb hg.size,fun j hj=>?_⟩
 rw [← hc j hj]
 exact hg.cell (p:=⟨b,off + j,none⟩) (hne b rfl)
theorem Row.of_new {w w':World} {v:Value} {n size:Nat} {cs:List Value} (h:Row w v n size cs) (hg:Below w.heap.size w w'):Row w' v n size cs:=by
 obtain ⟨h1,a,c,rfl,h2,h3,h4,h5⟩:=h
 refine ⟨h1,a,c,rfl,h2,h3,h4,fun h=>?_⟩
 obtain ⟨b,off,rfl,hb,hc⟩:=h5 h
 refine ⟨b,off,rfl,Nat.lt_of_lt_of_le hb hg.size,fun j hj=>?_⟩
 rw [← hc j hj]
 exact hg.cell (p:=⟨b,off + j,none⟩) hb
theorem Row.of_alloc {w:World} {v:Value} {n size:Nat} {cs:List Value} (h:Row w v n size cs) (o:Obj):Row (w.alloc o) v n size cs:=
 h.of_new ((Below.refl _ _).alloc (Nat.le_refl _) o)
theorem Row.of_nil {w:World} (size:Nat):Row w (.slice none 0 0) 0 size []:=
 ⟨by simp,none,0,rfl,Nat.le_refl _,by unfold maxLen;omega,fun _=>rfl,fun h=>by simp at h⟩
theorem Row.shape {w:World} {v:Value} {n size:Nat} {cs:List Value} (h:Row w v n size cs):∃ a c,v = .slice a n c:=by
 obtain ⟨_,a,c,rfl,_⟩:=h
 exact ⟨a,c,rfl⟩
theorem Row.part {w:World} {a:Option Addr} {n c size:Nat} {cs:List Value} (h:Row w (.slice a n c) n size cs) (lo hi:Nat) (h1:lo ≤ hi) (h2:hi ≤ n) :
  Row w (.slice (if c = lo then a else a.map (·.add (lo * size))) (hi - lo) (c - lo)) (hi - lo) size ((cs.drop (lo * size)).take ((hi - lo) * size)):=by
 obtain ⟨hl,a',c',hv,hn,hm,hnil,hc⟩:=h
 cases hv
 have hmul:(hi - lo) * size + lo * size ≤ n * size:=by
  rw [← Nat.add_mul];exact Nat.mul_le_mul_right _ (by omega)
 refine ⟨by simp [List.length_take,List.length_drop,hl];omega,_,_,rfl,by omega,by omega,?_,?_⟩
 ·intro h
  split at h
  ·have:=hnil h;omega
  ·have:a = Option.none:=by simpa using h
   have:=hnil this;omega
 ·intro hne
  have hne':n * size ≠ 0:=by omega
  obtain ⟨b,off,rfl,hb,hcell⟩:=hc hne'
  have hlo:c ≠ lo:=by
   intro e
   have:hi - lo = 0:=by omega
   rw [this] at hne;simp at hne
  refine ⟨b,off + lo * size,?_,hb,fun j hj=>?_⟩
  ·rw [if_neg hlo]
   simp only [Option.map_some,Addr.add]
   split
   ·rename_i h0;simp [h0]
   ·rfl
  ·rw [Nat.add_assoc,hcell (lo * size + j) (by omega),List.getElem?_take,if_pos hj,List.getElem?_drop]
theorem ownBlock_part (a:Option Addr) (c lo size n m:Nat):(Value.slice (if c = lo then a else a.map (·.add (lo * size))) m (c - lo)).ownBlock = (Value.slice a n c).ownBlock:=by
 split
 ·cases a <;> rfl
 ·cases a
  ·rfl
  ·simp only [Option.map_some,Value.ownBlock,Addr.add]
   split <;> rfl
theorem Row.run_part {P:Program} {w:World} {v:Value} {n size:Nat} {cs:List Value} {t e:TypeId} {i:TypeInfo} (h:Row w v n size cs) (ht:P.underlying t = some (.slice e)) (hi0:P.info? e = some i) (hsz:i.size = size)
  (low high:Option Value) (lo hi:Nat) (h1:lo ≤ hi) (h2:hi ≤ n) (hlow:(low = Option.none∧lo = 0)∨∃ k,low = some (.int k (lo:Int))) (hhigh:(high = Option.none∧hi = n)∨∃ k,high = some (.int k (hi:Int))) :
  ∃ v',(∀ W:World,(Instr.slice t v low high Option.none).run P W = .ok v' W)∧Row w v' (hi - lo) size ((cs.drop (lo * size)).take ((hi - lo) * size))∧v'.ownBlock = v.ownBlock:=by
 obtain ⟨a,c,rfl⟩:=h.shape
 refine ⟨_,fun W=>?_,h.part lo hi h1 h2,ownBlock_part a c lo size n (hi - lo)⟩
 have hc:n ≤ c:=by
  obtain ⟨_,a',c',hv,hn,_⟩:=h
  cases hv;exact hn
 have hb:(Instr.sliceBounds true n c low high Option.none).run P W = .ok (lo,hi,c) W:=by
  rcases hlow with ⟨rfl,rfl⟩ | ⟨k,rfl⟩ <;> rcases hhigh with ⟨rfl,rfl⟩ | ⟨k',rfl⟩ <;>
   simp [Instr.sliceBounds,run_sliceBound,Sem.run_bind,Sem.run_pure,show hi ≤ c by omega,h1,h2]
  all_goals first | omega | skip
 simp [Instr.slice,run_underlying ht,hb,sizeOf,typeInfo,hi0,hsz]
theorem Bytes.len {w:World} {v:Value} {l:List UInt8} (h:Bytes w v l):∃ a c,v = .slice a l.length c:=h.shape
theorem Row.le {w:World} {v:Value} {n size:Nat} {cs:List Value} (h:Row w v n size cs):n ≤ 9223372036854775807:=by
 obtain ⟨_,a,c,rfl,h1,h2,_⟩:=h
 unfold maxLen at h2;omega
theorem Bytes.le {w:World} {v:Value} {l:List UInt8} (h:Bytes w v l):l.length ≤ 9223372036854775807:=Row.le h
theorem Bytes.of_new {w w':World} {v:Value} {l:List UInt8} (h:Bytes w v l) (hg:Below w.heap.size w w'):Bytes w' v l:=Row.of_new h hg
theorem Bytes.of_alloc {w:World} {v:Value} {l:List UInt8} (h:Bytes w v l) (o:Obj):Bytes (w.alloc o) v l:=Row.of_alloc h o
theorem Bytes.of_nil {w:World}:Bytes w (.slice none 0 0) []:=Row.of_nil 1
theorem Bytes.cell {w:World} {v:Value} {l:List UInt8} (h:Bytes w v l) (h0:0 < l.length):∃ b off c,v = .slice (some ⟨b,off,none⟩) l.length c∧b < w.heap.size∧∀ j,j < l.length→w.cell? ⟨b,off + j,none⟩ = some (B8 (l.getD j 0)):=by
 obtain ⟨_,a,c,rfl,_,_,_,h5⟩:=h
 obtain ⟨b,off,rfl,hb,hc⟩:=h5 (by omega)
 refine ⟨b,off,c,rfl,hb,fun j hj=>?_⟩
 rw [hc j (by omega)]
 simp [List.getElem?_map,List.getElem?_eq_getElem hj,List.getD]
theorem Bytes.part {P:Program} {w:World} {v:Value} {l:List UInt8} {t e:TypeId} {i:TypeInfo} (h:Bytes w v l) (ht:P.underlying t = some (.slice e)) (hi0:P.info? e = some i) (hsz:i.size = 1)
  (low high:Option Value) (lo hi:Nat) (h1:lo ≤ hi) (h2:hi ≤ l.length) (hlow:(low = Option.none∧lo = 0)∨∃ k,low = some (.int k (lo:Int))) (hhigh:(high = Option.none∧hi = l.length)∨∃ k,high = some (.int k (hi:Int))) :
  ∃ v',(∀ W:World,(Instr.slice t v low high Option.none).run P W = .ok v' W)∧Bytes w v' ((l.drop lo).take (hi - lo))∧v'.ownBlock = v.ownBlock:=by
 obtain ⟨v',hr,hrow,hob⟩:=Row.run_part h ht hi0 hsz low high lo hi h1 h2 hlow hhigh
 refine ⟨v',hr,?_,hob⟩
 have e:((l.drop lo).take (hi - lo)).length = hi - lo:=by simp;omega
 unfold Bytes
 rw [e]
 simpa [List.map_take,List.map_drop] using hrow
theorem Bytes.string {P:Program} {w:World} {v:Value} {l:List UInt8} {t e d:TypeId} (h:Bytes w v l) (ht:P.underlying t = some (.slice e)) (he:P.underlying e = some (.int .u8)) (hd:P.underlying d = some .string) :
  (convert t d v).run P w = .ok (.string ⟨l.toArray⟩) w:=by
 by_cases h0:0 < l.length
 ·obtain ⟨b,off,c,rfl,hb,hc⟩:=h.cell h0
  have:=run_convert_bytes_arg w t e ht he b off l.length c (l.map fun x=>(x.toNat:Int)) (by simp) (fun i hi=>by
   rw [hc i hi];simp [B8,List.getD,List.getElem?_eq_getElem hi]) d hd
  rw [this]
  have e:(l.map fun x=>(x.toNat:Int)).map (fun n=>UInt8.ofNat n.toNat) = l:=by
   rw [List.map_map]
   have:((fun n:Int=>UInt8.ofNat n.toNat) ∘ fun x:UInt8=>(x.toNat:Int)) = id:=by
    funext x;simp
   rw [this,List.map_id]
  simp only [strOfNums,e]
 ·have hn:l = []:=List.eq_nil_of_length_eq_zero (by omega)
  subst hn
  obtain ⟨_,a,c,rfl,_,_,h4,_⟩:=h
  cases a with
  | none=>rw [run_convert_bytes_nil w t e ht he _ _ d hd];rfl
  | some a=>
   rw [run_convert_bytes_string w t d e _ _ c ht he hd]
   simp [Conv.bytesToString,loadCells,Sem.run_bind,Sem.run_pure]
   rfl
def Own8 (w:World) (base e:Nat) (v:Value) (l:List UInt8):Prop:=w.ownsRow base e 1 v l.length (l.map B8)
theorem Own8.nil (w:World) (base e:Nat):Own8 w base e (.slice none 0 0) []:=World.ownsRow_nil _ _ _ _
theorem Own8.bytes {w:World} {base e:Nat} {v:Value} {l:List UInt8} (h:Own8 w base e v l):Bytes w v l:=Row.of_owns h
theorem Own8.alloc {w:World} {base e:Nat} {v:Value} {l:List UInt8} (h:Own8 w base e v l) (o:Obj):Own8 (w.alloc o) base e v l:=World.ownsRow.alloc h o
theorem grownBy.cell_of {w w':World} {row:Option Nat} {p:Addr} {u:Value} (hg:w.grownBy w' row) (h:w.cell? p = some u) (hne:∀ k,row = some k→k ≠ p.block):w'.cell? p = some u:=
 hg.cell h (fun e=>hne p.block e.symm rfl)
theorem Own8.lt {w:World} {base e:Nat} {v:Value} {l:List UInt8} (h:Own8 w base e v l):∀ k,v.ownBlock = some k→base ≤ k∧k < w.heap.size:=World.ownsRow.lt h
theorem Own8.mono {w:World} {base base' e:Nat} {v:Value} {l:List UInt8} (h:Own8 w base e v l) (hb:base' ≤ base):Own8 w base' e v l:=
 ⟨h.1,h.2.imp id (fun ⟨g,cap,cur,a,b,c⟩=>⟨g,cap,cur,a,Nat.le_trans hb b,c⟩)⟩
theorem Own8.kept {w w':World} {base e:Nat} {v:Value} {l:List UInt8} {row:Option Nat} (h:Own8 w base e v l) (hg:w.grownBy w' row) (hne:v.ownBlock = Option.none∨v.ownBlock ≠ row):Own8 w' base e v l:=World.ownsRow.kept h hg hne
theorem Own8.new {w w':World} {base e:Nat} {v:Value} {l:List UInt8} (h:Own8 w base e v l) (hg:Below w.heap.size w w'):Own8 w' base e v l:=
 World.ownsRow.kept (row:=none) h ⟨hg.os,hg.tape,hg.output,hg.size,fun k hk _=>hg.block k hk⟩ (by
  by_cases h:v.ownBlock = Option.none
  ·exact .inl h
  ·exact .inr h)
theorem run_app8 {P:Program} {w:World} (base e t ty:Nat) (i:TypeInfo) (ht:P.underlying t = some (.slice e)) (hi:P.info? e = some i) (hz:i.zero = some (.int .u8 0)) (hsize:i.size = 1) (hby:i.bytes = 1)
  (v:Value) (l:List UInt8) (hown:Own8 w base e v l) (u:Value) (m:List UInt8) (hm:Bytes w u m) (hlen:l.length + m.length ≤ 140737488355328) (hbase:base ≤ w.heap.size) :
  ∃ v' w',(Builtin.append_ #[t,t] ty #[v,u]).run P w = .ok v' w'∧Own8 w' base e v' (l ++ m)∧w.grownBy w' v.ownBlock∧(∀ k,v'.ownBlock = some k→v.ownBlock = some k∨w.heap.size ≤ k):=by
 obtain ⟨hl,ad,c,rfl,hc1,hc2,hc3,hc4⟩:=hm
 cases ad with
 | none=>
  have hc0:=hc3 rfl
  have hm0:m = []:=List.eq_nil_of_length_eq_zero (by omega)
  subst hm0
  subst hc0
  refine ⟨v,w,run_append_owned_none (P:=P) (w:=w) base t ty e i 1 ht hi v l.length (l.map B8) hown,by simpa using hown,World.grownBy.refl _ _,fun k hk=>.inl hk⟩
 | some ad=>
  obtain ⟨v',w',h1,h2,h3,_,h5⟩:=run_append_own_at (P:=P) w base t ty e i _ 1 1 ht hi hz hsize hby rfl (by decide) v l.length (l.map B8) hown ad m.length c (m.map B8) (by simp)
   (fun j u hj=>by
    have hjl:j < m.length:=by
     rcases Nat.lt_or_ge j m.length with h | h
     ·exact h
     ·simp [List.getElem?_eq_none (show (m.map B8).length ≤ j by simpa using h)] at hj
    obtain ⟨b,off,hab,_,hcell⟩:=hc4 (by omega)
    cases hab
    have hplain:(⟨b,off,none⟩:Addr).add j = ⟨b,off + j,none⟩:=by unfold Addr.add;split <;> simp_all
    rw [hplain,hcell j (by omega),hj])
   (fun u hu=>by
    obtain ⟨b,_,rfl⟩:=List.mem_map.1 hu
    rfl) (by unfold maxLen;omega) (by omega) hbase
  refine ⟨v',w',h1,?_,h3,?_⟩
  ·unfold Own8
   simpa using h2
  ·intro k hk
   rcases h5 with h5 | h5
   ·exact .inl (by rw [← h5];exact hk)
   ·rw [h5] at hk;cases hk;exact .inr (Nat.le_refl _)
theorem wp_app8 {P:Program} {w:World} {o:Oper} {a:Act} {K:Act→World→Prop} {Q:Exit→Act→World→Prop} (s x:Operand) (t:TypeId)
  (ho:o.op = .call { callee:=.builtin .append,args:=#[s,x],argTypes:=#[t,t] })
  (base e:Nat) (i:TypeInfo) (ht:P.underlying t = some (.slice e)) (hi:P.info? e = some i) (hz:i.zero = some (.int .u8 0)) (hsize:i.size = 1) (hby:i.bytes = 1)
  (v:Value) (l:List UInt8) (hs:a.eval s = v) (hown:Own8 w base e v l) (u:Value) (m:List UInt8) (hx:a.eval x = u) (hm:Bytes w u m)
  (hlen:l.length + m.length ≤ 140737488355328) (hbase:base ≤ w.heap.size)
  (h:∀ v' w',Own8 w' base e v' (l ++ m)→w.grownBy w' v.ownBlock→(∀ k,v'.ownBlock = some k→v.ownBlock = some k∨w.heap.size ≤ k)→K (a.put o.dst v') w'):o.wp P a w K Q:=by
 obtain ⟨v',w',hr,h2,h3,h4⟩:=run_app8 base e t o.type i ht hi hz hsize hby v l hown u m hm hlen hbase
 unfold Oper.wp execOp
 simp only [ho,resolve,invoke,builtin,Sem.run_bind,Sem.run_pure,Result.andThen_ok,List.map_toArray,List.map_cons,List.map_nil,hs,hx,hr]
 exact h v' w' h2 h3 h4
theorem wpList_app8 {P:Program} {w:World} {ops:Array Oper} {rest:List Oper} {o:Oper} {a:Act} {Q:Exit→Act→World→Prop} (hgd:o.guard = Option.none) (s x:Operand) (t:TypeId)
  (ho:o.op = .call { callee:=.builtin .append,args:=#[s,x],argTypes:=#[t,t] })
  (base e:Nat) (i:TypeInfo) (ht:P.underlying t = some (.slice e)) (hi:P.info? e = some i) (hz:i.zero = some (.int .u8 0)) (hsize:i.size = 1) (hby:i.bytes = 1)
  (v:Value) (l:List UInt8) (hs:a.eval s = v) (hown:Own8 w base e v l) (u:Value) (m:List UInt8) (hx:a.eval x = u) (hm:Bytes w u m)
  (hlen:l.length + m.length ≤ 140737488355328) (hbase:base ≤ w.heap.size)
  (h:∀ v' w',Own8 w' base e v' (l ++ m)→w.grownBy w' v.ownBlock→(∀ k,v'.ownBlock = some k→v.ownBlock = some k∨w.heap.size ≤ k)→wpList P ops Q rest (a.put o.dst v') w'):wpList P ops Q (o :: rest) a w:=
 wpList_plain hgd fun _ hK=>wp_app8 s x t ho base e i ht hi hz hsize hby v l hs hown u m hx hm hlen hbase fun v' w' h2 h3 h4=>hK _ _ (h v' w' h2 h3 h4)
theorem step_app8 {P:Program} {w:World} {ops:Array Oper} {o:Oper} {a:Act} {K:Act→World→Prop} {Q:Exit→Act→World→Prop} {E:Prop} (hgd:o.guard = Option.none) (s x:Operand) (t:TypeId)
  (ho:o.op = .call { callee:=.builtin .append,args:=#[s,x],argTypes:=#[t,t] })
  (base e:Nat) (i:TypeInfo) (ht:P.underlying t = some (.slice e)) (hi:P.info? e = some i) (hz:i.zero = some (.int .u8 0)) (hsize:i.size = 1) (hby:i.bytes = 1)
  (v:Value) (l:List UInt8) (hs:a.eval s = v) (hown:Own8 w base e v l) (u:Value) (m:List UInt8) (hx:a.eval x = u) (hm:Bytes w u m)
  (hlen:l.length + m.length ≤ 140737488355328) (hbase:base ≤ w.heap.size)
  (h:∀ v' w',Own8 w' base e v' (l ++ m)→w.grownBy w' v.ownBlock→(∀ k,v'.ownBlock = some k→v.ownBlock = some k∨w.heap.size ≤ k)→K (a.put o.dst v') w'):if Region.wanted o (yielded ops a.tmps) = true then Oper.wp P o a w K Q else E:=by
 rw [if_pos (by simp [Region.wanted,hgd])]
 exact wp_app8 s x t ho base e i ht hi hz hsize hby v l hs hown u m hx hm hlen hbase h
theorem Bytes.one (w:World) (b:UInt8) (e:TypeId):Bytes (w.alloc (.cells #[B8 b] e)) (.slice (some ⟨w.heap.size,0,none⟩) 1 1) [b]:=by
 refine ⟨rfl,_,1,rfl,Nat.le_refl _,by unfold maxLen;omega,(fun h=>by cases h),fun _=>⟨_,0,rfl,by simp,fun j hj=>?_⟩⟩
 have:j = 0:=by simpa using hj
 subst this
 simp [go_sem]
end Go.Proofs.YtnohglkilpnjhaaGreatDoor
namespace Go.Proofs.YtnohglkilpnjhaaGreatDoor
def cmpL:List UInt8→List UInt8→Int
 | [],[]=>0
 | [],_ :: _=>-1
 | _ :: _,[]=>1
 | x :: a,y :: b=>if x < y then -1 else if y < x then 1 else cmpL a b
def natL:List UInt8→Nat
 | []=>0
 | x :: l=>x.toNat * 256 ^ l.length + natL l
theorem natL_lt (l:List UInt8):natL l < 256 ^ l.length:=by
 induction l with
 | nil=>simp [natL]
 | cons x l ih=>
  have hx:=x.toNat_lt
  simp only [natL,List.length_cons,Nat.pow_succ]
  have:x.toNat * 256 ^ l.length ≤ 255 * 256 ^ l.length:=Nat.mul_le_mul_right _ (by omega)
  omega
theorem natL_inj (a b:List UInt8) (h:a.length = b.length) (e:natL a = natL b):a = b:=by
 induction a generalizing b with
 | nil=>cases b with | nil=>rfl | cons y b=>simp at h
 | cons x a ih=>
  cases b with
  | nil=>simp at h
  | cons y b=>
   simp only [List.length_cons,Nat.add_right_cancel_iff] at h
   simp only [natL,h] at e
   have h1:=natL_lt a
   have h2:=natL_lt b
   rw [h] at h1
   have hxy:x.toNat = y.toNat:=by
    rcases Nat.lt_trichotomy x.toNat y.toNat with q | q | q
    ·have:(x.toNat + 1) * 256 ^ b.length ≤ y.toNat * 256 ^ b.length:=Nat.mul_le_mul_right _ q
     rw [Nat.add_mul,Nat.one_mul] at this
     omega
    ·exact q
    ·have:(y.toNat + 1) * 256 ^ b.length ≤ x.toNat * 256 ^ b.length:=Nat.mul_le_mul_right _ q
     rw [Nat.add_mul,Nat.one_mul] at this
     omega
   rw [hxy] at e
   rw [UInt8.toNat_inj.1 hxy,ih b h (by omega)]
theorem cmpL_sign (a b:List UInt8) (h:a.length = b.length):cmpL a b = if natL a < natL b then -1 else if natL b < natL a then 1 else 0:=by
 induction a generalizing b with
 | nil=>cases b with | nil=>simp [cmpL,natL] | cons y b=>simp at h
 | cons x a ih=>
  cases b with
  | nil=>simp at h
  | cons y b=>
   simp only [List.length_cons,Nat.add_right_cancel_iff] at h
   have h1:=natL_lt a
   have h2:=natL_lt b
   rw [h] at h1
   simp only [cmpL,natL,h,UInt8.lt_iff_toNat_lt]
   rcases Nat.lt_trichotomy x.toNat y.toNat with q | q | q
   ·have:(x.toNat + 1) * 256 ^ b.length ≤ y.toNat * 256 ^ b.length:=Nat.mul_le_mul_right _ q
    rw [Nat.add_mul,Nat.one_mul] at this
    rw [if_pos q,if_pos (by omega)]
   ·rw [if_neg (by omega),if_neg (by omega),ih b h,q]
    split
    ·rw [if_pos (by omega)]
    ·split
     ·rw [if_neg (by omega),if_pos (by omega)]
     ·rw [if_neg (by omega),if_neg (by omega)]
   ·have:(y.toNat + 1) * 256 ^ b.length ≤ x.toNat * 256 ^ b.length:=Nat.mul_le_mul_right _ q
    rw [Nat.add_mul,Nat.one_mul] at this
    rw [if_neg (by omega),if_pos q,if_neg (by omega),if_pos (by omega)]
theorem find_diff (a b:List UInt8) (h:a.length = b.length) :
  (match (List.range a.length).find? (fun i=>a.getD i 0 != b.getD i 0) with
   | some i=>if a.getD i 0 < b.getD i 0 then (-1:Int) else 1
   | none=>0) = cmpL a b:=by
 induction a generalizing b with
 | nil=>cases b with | nil=>rfl | cons y b=>simp at h
 | cons x a ih=>
  cases b with
  | nil=>simp at h
  | cons y b=>
   simp only [List.length_cons,Nat.add_right_cancel_iff] at h
   rw [List.length_cons,List.range_succ_eq_map,List.find?_cons]
   simp only [List.getD_cons_zero]
   by_cases e:x = y
   ·subst e
    simp only [bne_self_eq_false,List.find?_map]
    have hc:((fun i=>(x :: a).getD i 0 != (x :: b).getD i 0) ∘ Nat.succ) = (fun i=>a.getD i 0 != b.getD i 0):=by
     funext i;simp [Function.comp]
    rw [hc]
    have:=ih b h
    simp only [cmpL,UInt8.lt_irrefl,if_false]
    rw [← this]
    cases (List.range a.length).find? (fun i=>a.getD i 0 != b.getD i 0) with
    | none=>rfl
    | some i=>simp
   ·have:(x != y) = true:=by simp [e]
    simp only [this,cmpL,List.getD_cons_zero]
    split
    ·rfl
    ·rename_i hn
     have:y < x:=by
      rw [UInt8.lt_iff_toNat_lt] at hn ⊢
      have:x.toNat ≠ y.toNat:=fun q=>e (UInt8.toNat_inj.1 q)
      omega
     rw [if_pos this]
theorem cmp_cmpL (a b:List UInt8) (h:a.length = b.length):Extern.BytealgCompare.cmp ⟨a.toArray⟩ ⟨b.toArray⟩ = cmpL a b:=by
 rw [← find_diff a b h]
 have e:∀ (l:List UInt8) (i:Nat),(⟨l.toArray⟩:ByteArray)[i]! = l.getD i 0:=fun l i=>by
  by_cases hi:i < l.length
  ·rw [getElem!_pos (h:=by show i < l.toArray.size;simpa using hi)]
   show l.toArray[i]'(by simpa using hi) = _
   simp [List.getD_eq_getElem?_getD,List.getElem?_eq_getElem hi]
  ·rw [getElem!_neg (h:=by show ¬ i < l.toArray.size;simpa using hi)]
   simp [List.getD_eq_getElem?_getD,List.getElem?_eq_none (show l.length ≤ i by omega)]
   rfl
 have s:∀ l:List UInt8,(⟨l.toArray⟩:ByteArray).size = l.length:=fun l=>by show l.toArray.size = _;simp
 unfold Extern.BytealgCompare.cmp
 simp only [e,s,← h,Nat.min_self,Nat.lt_irrefl,if_false,gt_iff_lt]
 rfl
theorem cmpL_drop (a b:List UInt8) (k:Nat) (ha:k < a.length) (hb:k < b.length):cmpL (a.drop k) (b.drop k) = if a.getD k 0 < b.getD k 0 then -1 else if b.getD k 0 < a.getD k 0 then 1 else cmpL (a.drop (k + 1)) (b.drop (k + 1)):=by
 rw [List.drop_eq_getElem_cons ha,List.drop_eq_getElem_cons hb]
 simp only [cmpL,List.getD_eq_getElem?_getD,List.getElem?_eq_getElem ha,List.getElem?_eq_getElem hb,Option.getD_some]
section
variable {α:Type} (f:α→Int)
def Rising (l:List α):Prop:=l.Pairwise (fun a b=>f a < f b)
def insK (x:α):List α→List α
 | []=>[x]
 | y :: l=>if f y < f x then y :: insK x l else if f y = f x then x :: l else x :: y :: l
def delK (k:Int) (l:List α):List α:=l.filter (fun y=>!decide (f y = k))
def getK (k:Int) (l:List α):Option α:=l.find? (fun y=>decide (f y = k))
variable {f} {x y:α} {l:List α} {k:Int}
theorem Rising.nil:Rising f []:=List.Pairwise.nil
theorem Rising.tail (h:Rising f (x :: l)):Rising f l:=(List.pairwise_cons.1 h).2
theorem Rising.head (h:Rising f (x :: l)):∀ y ∈ l,f x < f y:=(List.pairwise_cons.1 h).1
theorem Rising.cons (h:Rising f l) (hx:∀ y ∈ l,f x < f y):Rising f (x :: l):=List.pairwise_cons.2 ⟨hx,h⟩
theorem Rising.filter (h:Rising f l) (p:α→Bool):Rising f (l.filter p):=List.Pairwise.sublist List.filter_sublist h
theorem Rising.inj (h:Rising f l) (hx:x ∈ l) (hy:y ∈ l) (e:f x = f y):x = y:=by
 induction l with
 | nil=>cases hx
 | cons z l ih=>
  rcases List.mem_cons.1 hx with h1 | h1 <;> rcases List.mem_cons.1 hy with h2 | h2
  ·rw [h1,h2]
  ·have:=h.head _ h2;rw [h1] at e;omega
  ·have:=h.head _ h1;rw [h2] at e;omega
  ·exact ih h.tail h1 h2
theorem Rising.nodup (h:Rising f l):l.Nodup:=h.imp (fun {a b} hlt e=>by rw [e] at hlt;omega)
theorem Rising.apart (h:Rising f l):l.Pairwise (fun a b=>f a ≠ f b):=h.imp (fun {a b} hlt=>by omega)
theorem mem_insK (h:Rising f l):y ∈ insK f x l↔y = x∨(y ∈ l∧f y ≠ f x):=by
 induction l with
 | nil=>simp [insK]
 | cons z l ih=>
  have h0:=h.head
  unfold insK
  split
  ·rename_i hlt
   rw [List.mem_cons,ih h.tail,List.mem_cons]
   constructor
   ·rintro (rfl | rfl | ⟨h1,h2⟩)
    ·exact .inr ⟨.inl rfl,by omega⟩
    ·exact .inl rfl
    ·exact .inr ⟨.inr h1,h2⟩
   ·rintro (rfl | ⟨rfl | h1,h2⟩)
    ·exact .inr (.inl rfl)
    ·exact .inl rfl
    ·exact .inr (.inr ⟨h1,h2⟩)
  ·split
   ·rename_i h1 h2
    rw [List.mem_cons,List.mem_cons]
    constructor
    ·rintro (rfl | h3)
     ·exact .inl rfl
     ·have:=h0 y h3;exact .inr ⟨.inr h3,by omega⟩
    ·rintro (rfl | ⟨rfl | h3,h4⟩)
     ·exact .inl rfl
     ·omega
     ·exact .inr h3
   ·rename_i h1 h2
    rw [List.mem_cons,List.mem_cons]
    constructor
    ·rintro (rfl | rfl | h3)
     ·exact .inl rfl
     ·exact .inr ⟨.inl rfl,by omega⟩
     ·have:=h0 y h3;exact .inr ⟨.inr h3,by omega⟩
    ·rintro (rfl | ⟨h3,h4⟩)
     ·exact .inl rfl
     ·exact .inr h3
theorem Rising.ins (h:Rising f l) (x:α):Rising f (insK f x l):=by
 induction l with
 | nil=>exact List.pairwise_singleton _ _
 | cons z l ih=>
  unfold insK
  split
  ·rename_i hlt
   refine (ih h.tail).cons fun y hy=>?_
   rcases (mem_insK h.tail).1 hy with rfl | ⟨h1,_⟩
   ·exact hlt
   ·exact h.head _ h1
  ·split
   ·rename_i h1 h2
    exact h.tail.cons fun y hy=>by have:=h.head y hy;omega
   ·rename_i h1 h2
    refine h.cons fun y hy=>?_
    rcases List.mem_cons.1 hy with rfl | hy
    ·omega
    ·have:=h.head y hy;omega
theorem delK_none (h:∀ y ∈ l,f y ≠ k):delK f k l = l:=List.filter_eq_self.2 fun y hy=>by simp [h y hy]
theorem insK_perm (h:Rising f l):(insK f x l).Perm (x :: delK f (f x) l):=by
 induction l with
 | nil=>exact List.Perm.refl _
 | cons z l ih=>
  unfold insK
  split
  ·rename_i hlt
   have e:delK f (f x) (z :: l) = z :: delK f (f x) l:=by
    unfold delK
    rw [List.filter_cons_of_pos]
    simp;omega
   rw [e]
   exact ((ih h.tail).cons z).trans (List.Perm.swap _ _ _)
  ·split
   ·rename_i h1 h2
    have e:delK f (f x) (z :: l) = l:=by
     unfold delK
     rw [List.filter_cons_of_neg (by simp [h2])]
     exact delK_none fun y hy=>by have:=h.head y hy;omega
    rw [e]
   ·rename_i h1 h2
    rw [delK_none (l:=z :: l) (k:=f x)]
    intro y hy
    rcases List.mem_cons.1 hy with rfl | hy
    ·omega
    ·have:=h.head y hy;omega
theorem getK_some (h:Rising f l):getK f k l = some y↔y ∈ l∧f y = k:=by
 constructor
 ·intro e
  exact ⟨List.mem_of_find?_eq_some e,by simpa using List.find?_some e⟩
 ·rintro ⟨h1,rfl⟩
  cases e:getK f (f y) l with
  | none=>exact absurd (List.find?_eq_none.1 e y h1) (by simp)
  | some z=>
   have h2:=List.mem_of_find?_eq_some e
   have h3:f z = f y:=by simpa using List.find?_some e
   rw [h.inj h2 h1 h3]
theorem getK_none:getK f k l = none↔∀ y ∈ l,f y ≠ k:=by
 unfold getK
 rw [List.find?_eq_none]
 simp
theorem mem_delK:y ∈ delK f k l↔y ∈ l∧f y ≠ k:=by simp [delK,List.mem_filter]
theorem Rising.del (h:Rising f l) (k:Int):Rising f (delK f k l):=h.filter _
theorem insK_len (h:Rising f l):(insK f x l).length = if (getK f (f x) l).isSome then l.length else l.length + 1:=by
 induction l with
 | nil=>rfl
 | cons z l ih=>
  unfold insK
  split
  ·rename_i hlt
   have e:getK f (f x) (z :: l) = getK f (f x) l:=by
    unfold getK;rw [List.find?_cons_of_neg];simp;omega
   rw [List.length_cons,ih h.tail,e]
   split <;> rfl
  ·split
   ·rename_i h1 h2
    have e:getK f (f x) (z :: l) = some z:=by
     unfold getK;rw [List.find?_cons_of_pos];simp [h2]
    rw [e];rfl
   ·rename_i h1 h2
    have e:getK f (f x) (z :: l) = none:=by
     rw [getK_none]
     intro y hy
     rcases List.mem_cons.1 hy with rfl | hy
     ·omega
     ·have:=h.head y hy;omega
    rw [e];rfl
theorem delK_len (h:Rising f l) (hg:getK f k l ≠ none):(delK f k l).length + 1 = l.length:=by
 obtain ⟨y,hy⟩:=Option.ne_none_iff_exists'.1 hg
 obtain ⟨h1,h2⟩:=(getK_some h).1 hy
 clear hy hg
 induction l with
 | nil=>cases h1
 | cons z l ih=>
  unfold delK
  by_cases e:f z = k
  ·have hz:∀ y ∈ l,f y ≠ k:=fun y hy=>by have:=h.head y hy;omega
   rw [List.filter_cons_of_neg (by simp [e])]
   show (delK f k l).length + 1 = _
   rw [delK_none hz];rfl
  ·rw [List.filter_cons_of_pos (by simp [e])]
   have hm:y ∈ l:=by
    rcases List.mem_cons.1 h1 with rfl | h3
    ·exact absurd h2 e
    ·exact h3
   have:=ih h.tail hm
   unfold delK at this
   rw [List.length_cons,List.length_cons,this]
theorem insK_same (h:Rising f l) (hx:x ∈ l):insK f x l = l:=by
 induction l with
 | nil=>cases hx
 | cons z l ih=>
  unfold insK
  rcases List.mem_cons.1 hx with rfl | hm
  ·rw [if_neg (by omega),if_pos rfl]
  ·have:=h.head _ hm
   rw [if_pos this,ih h.tail hm]
theorem Rising.ext {a b:List α} (ha:Rising f a) (hb:Rising f b) (h:∀ y,y ∈ a↔y ∈ b):a = b:=by
 induction a generalizing b with
 | nil=>
  cases b with
  | nil=>rfl
  | cons y b=>exact absurd ((h y).2 (by simp)) (by simp)
 | cons x a ih=>
  cases b with
  | nil=>exact absurd ((h x).1 (by simp)) (by simp)
  | cons y b=>
   have e:x = y:=by
    rcases List.mem_cons.1 ((h x).1 (by simp)) with e | e
    ·exact e
    ·rcases List.mem_cons.1 ((h y).2 (by simp)) with e2 | e2
     ·exact e2.symm
     ·have h1:=hb.head _ e
      have h2:=ha.head _ e2
      omega
   subst e
   congr 1
   refine ih ha.tail hb.tail fun z=>?_
   have:=h z
   rw [List.mem_cons,List.mem_cons] at this
   constructor
   ·intro hz
    rcases this.1 (.inr hz) with rfl | h3
    ·have:=ha.head _ hz;omega
    ·exact h3
   ·intro hz
    rcases this.2 (.inr hz) with rfl | h3
    ·have:=hb.head _ hz;omega
    ·exact h3
theorem Rising.perm_eq {a b:List α} (ha:Rising f a) (hb:Rising f b) (h:a.Perm b):a = b:=ha.ext hb fun y=>h.mem_iff
theorem insK_ins {y:α} (h:Rising f l) (e:f y = f x):insK f x (insK f y l) = insK f x l:=by
 refine ((h.ins y).ins x).ext (h.ins x) fun z=>?_
 rw [mem_insK (h.ins y),mem_insK h,mem_insK h]
 constructor
 ·rintro (rfl | ⟨rfl | ⟨h1,h2⟩,h3⟩)
  ·exact .inl rfl
  ·exact absurd e h3
  ·exact .inr ⟨h1,h3⟩
 ·rintro (rfl | ⟨h1,h2⟩)
  ·exact .inl rfl
  ·exact .inr ⟨.inr ⟨h1,by omega⟩,h2⟩
theorem delK_ins (h:Rising f l):delK f (f x) (insK f x l) = delK f (f x) l:=by
 refine ((h.ins x).del _).ext (h.del _) fun z=>?_
 rw [mem_delK,mem_delK,mem_insK h]
 constructor
 ·rintro ⟨rfl | ⟨h1,_⟩,h2⟩
  ·exact absurd rfl h2
  ·exact ⟨h1,h2⟩
 ·rintro ⟨h1,h2⟩
  exact ⟨.inr ⟨h1,h2⟩,h2⟩
theorem insK_map {β:Type} {g:β→Int} (φ:α→β) (hφ:∀ x,g (φ x) = f x) (x:α) (l:List α):(insK f x l).map φ = insK g (φ x) (l.map φ):=by
 induction l with
 | nil=>rfl
 | cons z l ih=>
  simp only [insK,List.map_cons,hφ]
  split
  ·rw [List.map_cons,ih]
  ·split <;> rfl
theorem delK_map {β:Type} {g:β→Int} (φ:α→β) (hφ:∀ x,g (φ x) = f x) (k:Int) (l:List α):(delK f k l).map φ = delK g k (l.map φ):=by
 unfold delK
 rw [List.filter_map]
 congr 2
 funext y
 simp [hφ]
theorem getK_map {β:Type} {g:β→Int} (φ:α→β) (hφ:∀ x,g (φ x) = f x) (k:Int) (l:List α):(getK f k l).map φ = getK g k (l.map φ):=by
 unfold getK
 rw [List.find?_map]
 congr 2
 funext y
 simp [hφ]
theorem Rising.map {β:Type} {g:β→Int} {φ:α→β} (hφ:∀ x,g (φ x) = f x) (h:Rising f l):Rising g (l.map φ):=by
 unfold Rising
 rw [List.pairwise_map]
 exact List.Pairwise.imp (fun {a b} hlt=>by rw [hφ,hφ];exact hlt) h
theorem Rising.of_map {β:Type} {g:β→Int} {φ:α→β} (hφ:∀ x,g (φ x) = f x) (h:Rising g (l.map φ)):Rising f l:=by
 unfold Rising at h
 rw [List.pairwise_map] at h
 exact List.Pairwise.imp (fun {a b} hlt=>by rw [hφ,hφ] at hlt;exact hlt) h
def pickL (goes:α→α→Bool):List α→α→α
 | [],m=>m
 | y :: l,m=>pickL goes l (if goes y m then y else m)
structure SLO (goes:α→α→Bool) (S:α→Prop):Prop where
 trans:∀ a b c,goes a b = true→goes b c = true→goes a c = true
 irr:∀ a,goes a a = false
 total:∀ a b,S a→S b→a ≠ b→goes a b = true∨goes b a = true
variable {goes:α→α→Bool} {S:α→Prop}
theorem pickL_mem:∀ (l:List α) (m:α),pickL goes l m = m∨pickL goes l m ∈ l
 | [],m=>.inl rfl
 | y :: l,m=>by
  unfold pickL
  split
  ·exact (pickL_mem l y).elim (fun h=>.inr (by rw [h];simp)) (fun h=>.inr (by simp [h]))
  ·exact (pickL_mem l m).imp id (fun h=>by simp [h])
theorem pickL_map {β:Type} {go2:β→β→Bool} (φ:α→β):∀ (l:List α) (m:α),(∀ a ∈ m :: l,∀ b ∈ m :: l,go2 (φ a) (φ b) = goes a b)→pickL go2 (l.map φ) (φ m) = φ (pickL goes l m)
 | [],m,_=>rfl
 | y :: l,m,h=>by
  simp only [List.map_cons,pickL]
  rw [h y (by simp) m (by simp)]
  have e:(if goes y m = true then φ y else φ m) = φ (if goes y m = true then y else m):=by split <;> rfl
  rw [e]
  refine pickL_map φ l _ fun a ha b hb=>h a ?_ b ?_
  ·rcases List.mem_cons.1 ha with rfl | ha
   ·split <;> simp
   ·simp [ha]
  ·rcases List.mem_cons.1 hb with rfl | hb
   ·split <;> simp
   ·simp [hb]
theorem pickL_min (h:SLO goes S):∀ (l:List α) (m:α),S m→(∀ y ∈ l,S y)→∀ y,y = m∨y ∈ l→y = pickL goes l m∨goes (pickL goes l m) y = true
 | [],m,hm,hl,y,hy=>by
  rcases hy with rfl | hy
  ·exact .inl rfl
  ·cases hy
 | z :: l,m,hm,hl,y,hy=>by
  have hz:S z:=hl z (by simp)
  have hl':∀ y ∈ l,S y:=fun y hy=>hl y (by simp [hy])
  unfold pickL
  by_cases hg:goes z m = true
  ·rw [if_pos hg]
   have ih:=pickL_min h l z hz hl'
   rcases hy with rfl | hy
   ·rcases ih z (.inl rfl) with e | e
    ·rw [← e];exact .inr hg
    ·exact .inr (h.trans _ _ _ e hg)
   ·exact ih y (by simpa using hy)
  ·rw [if_neg hg]
   have ih:=pickL_min h l m hm hl'
   rcases hy with rfl | hy
   ·exact ih y (.inl rfl)
   ·rcases List.mem_cons.1 hy with rfl | hy
    ·by_cases e0:y = m
     ·exact ih y (.inl e0)
     ·have hgm:goes m y = true:=(h.total _ _ hm hz (fun e=>e0 e.symm)).resolve_right hg
      rcases ih m (.inl rfl) with e | e
      ·rw [← e];exact .inr hgm
      ·exact .inr (h.trans _ _ _ e hgm)
    ·exact ih y (.inr hy)
theorem pick_unique (h:SLO goes S) {l:List α} {a b:α} (ha:a ∈ l) (hb:b ∈ l) (h1:∀ y ∈ l,y = a∨goes a y = true) (h2:∀ y ∈ l,y = b∨goes b y = true):a = b:=by
 rcases h1 b hb with e | e
 ·exact e.symm
 ·rcases h2 a ha with e2 | e2
  ·exact e2
  ·have:=h.trans _ _ _ e e2
   rw [h.irr] at this;cases this
theorem pickL_perm (h:SLO goes S) {x y:α} {a b:List α} (hp:(x :: a).Perm (y :: b)) (hS:∀ z ∈ x :: a,S z):pickL goes a x = pickL goes b y:=by
 have hS2:∀ z ∈ y :: b,S z:=fun z hz=>hS z (hp.mem_iff.2 hz)
 have m1:pickL goes a x ∈ x :: a:=(pickL_mem a x).elim (fun e=>by rw [e];simp) (fun e=>by simp [e])
 have m2:pickL goes b y ∈ y :: b:=(pickL_mem b y).elim (fun e=>by rw [e];simp) (fun e=>by simp [e])
 refine pick_unique h (l:=x :: a) m1 (hp.mem_iff.2 m2) (fun z hz=>pickL_min h a x (hS x (by simp)) (fun z hz=>hS z (by simp [hz])) z (by simpa using hz)) (fun z hz=>?_)
 exact pickL_min h b y (hS2 y (by simp)) (fun z hz=>hS2 z (by simp [hz])) z (by simpa using hp.mem_iff.1 hz)
theorem Rising.mid {A B:List α} (h:Rising f (A ++ y :: B)):(∀ a ∈ A,f a < f y)∧(∀ b ∈ B,f y < f b)∧Rising f A∧Rising f B∧∀ a ∈ A,∀ b ∈ B,f a < f b:=by
 obtain ⟨h1,h2,h3⟩:=List.pairwise_append.1 h
 obtain ⟨h4,h5⟩:=List.pairwise_cons.1 h2
 exact ⟨fun a ha=>h3 a ha y (by simp),h4,h1,h5,fun a ha b hb=>h3 a ha b (by simp [hb])⟩
theorem Rising.put {A B:List α} (h:Rising f (A ++ y :: B)) (e:f x = f y):Rising f (A ++ x :: B):=by
 obtain ⟨h1,h2,h3,h4,h5⟩:=h.mid
 refine List.pairwise_append.2 ⟨h3,List.pairwise_cons.2 ⟨fun b hb=>by rw [e];exact h2 b hb,h4⟩,fun a ha b hb=>?_⟩
 rcases List.mem_cons.1 hb with rfl | hb
 ·rw [e];exact h1 a ha
 ·exact h5 a ha b hb
theorem Rising.cut {A B:List α} (h:Rising f (A ++ y :: B)):Rising f (A ++ B):=by
 obtain ⟨h1,h2,h3,h4,h5⟩:=h.mid
 exact List.pairwise_append.2 ⟨h3,h4,h5⟩
theorem getK_mid {A B:List α} (h:Rising f (A ++ y :: B)):getK f (f y) (A ++ y :: B) = some y:=(getK_some h).2 ⟨by simp,rfl⟩
theorem delK_mid {A B:List α} (h:Rising f (A ++ y :: B)):delK f (f y) (A ++ y :: B) = A ++ B:=by
 obtain ⟨h1,h2,h3,h4,h5⟩:=h.mid
 unfold delK
 rw [List.filter_append,List.filter_cons_of_neg (by simp)]
 show delK f (f y) A ++ delK f (f y) B = _
 rw [delK_none fun a ha=>by have:=h1 a ha;omega,delK_none fun b hb=>by have:=h2 b hb;omega]
theorem insK_mid {A B:List α} (h:Rising f (A ++ y :: B)) (e:f x = f y):insK f x (A ++ y :: B) = A ++ x :: B:=by
 refine (h.ins x).ext (h.put e) fun z=>?_
 rw [mem_insK h]
 obtain ⟨h1,h2,h3,h4,h5⟩:=h.mid
 simp only [List.mem_append,List.mem_cons]
 constructor
 ·rintro (rfl | ⟨h6 | rfl | h6,h7⟩)
  ·exact .inr (.inl rfl)
  ·exact .inl h6
  ·exact absurd e.symm h7
  ·exact .inr (.inr h6)
 ·rintro (h6 | rfl | h6)
  ·exact .inr ⟨.inl h6,by have:=h1 z h6;omega⟩
  ·exact .inl rfl
  ·exact .inr ⟨.inr (.inr h6),by have:=h2 z h6;omega⟩
end
structure PeerL where
 id:Int
 till:Int
 seed:Bool
deriving DecidableEq
def PeerL.zero:PeerL:=⟨0,0,false⟩
instance : Inhabited PeerL := ⟨PeerL.zero⟩
abbrev TabL:=List (List UInt8 × List PeerL)
def kD {β:Type} (x:List UInt8 × β):Int:=(natL x.1:Int)
def goesK {α:Type} (last key:α→Int) (a b:α):Bool:=decide (last a < last b) || (decide (last a = last b) && decide (key b < key a))
def goesP:PeerL→PeerL→Bool:=goesK PeerL.till PeerL.id
def lastP (l:List PeerL):Int:=l.foldl (fun n p=>max n p.till) 0
def goesT:List UInt8 × List PeerL→List UInt8 × List PeerL→Bool:=goesK (fun x=>lastP x.2) kD
def firstP:List PeerL→PeerL
 | []=>PeerL.zero
 | x :: l=>pickL goesP l x
def firstT:TabL→List UInt8 × List PeerL
 | []=>([],[])
 | x :: l=>pickL goesT l x
def oldP (id:Int) (l:List PeerL):PeerL:=(getK PeerL.id id l).getD PeerL.zero
def withP (id till:Int) (seed:Bool) (l:List PeerL):List PeerL:=insK PeerL.id ⟨id,max (oldP id l).till till,seed || (oldP id l).seed⟩ l
def roomP (each:Int) (l:List PeerL):List PeerL:=if each < l.length then delK PeerL.id (firstP l).id l else l
def roomT (most:Int) (T:TabL):TabL:=if most < T.length then delK kD (kD (firstT T)) T else T
def peersT (d:List UInt8) (T:TabL):List PeerL:=((getK kD (natL d) T).map (·.2)).getD []
def argsB (id now life:Int):Bool:=decide (1 ≤ id∧id ≤ 65536) && (decide (0 ≤ now∧now ≤ 1099511627776) && decide (1 ≤ life∧life ≤ 1048576))
def annT (most each:Int) (T:TabL) (d:List UInt8) (id now life:Int) (seed:Bool):TabL × Int:=
 if argsB id now life then (roomT most (insK kD (d,roomP each (withP id (now + life) seed (peersT d T))) T),0) else (T,1)
def backT (d:List UInt8) (r:List PeerL) (T:TabL):TabL:=if r = [] then delK kD (natL d) T else insK kD (d,r) T
def leaveT (T:TabL) (d:List UInt8) (id:Int):TabL × Int:=
 if (getK PeerL.id id (peersT d T)).isSome then (backT d (delK PeerL.id id (peersT d T)) T,0) else (T,4)
def liveP (now:Int) (l:List PeerL):List PeerL:=l.filter (fun p=>decide (now < p.till))
def oneT (d:List UInt8) (r:List PeerL):TabL:=if r = [] then [] else [(d,r)]
def liveT (now:Int):TabL→TabL
 | []=>[]
 | x :: T=>oneT x.1 (liveP now x.2) ++ liveT now T
def goneN (now:Int):TabL→Nat
 | []=>0
 | x :: T=>(x.2.length - (liveP now x.2).length) + goneN now T
def expT (T:TabL) (now:Int):TabL × Int × Int:=if 0 ≤ now∧now ≤ 1099511627776 then (liveT now T,(goneN now T:Int),0) else (T,0,1)
theorem lastP_perm {a b:List PeerL} (h:a.Perm b):lastP a = lastP b:=by
 unfold lastP
 have:∀ (a b:List PeerL),a.Perm b→∀ n:Int,a.foldl (fun n p=>max n p.till) n = b.foldl (fun n p=>max n p.till) n:=by
  intro a b h
  induction h with
  | nil=>intro n;rfl
  | cons x _ ih=>intro n;exact ih _
  | swap x y l=>intro n;simp only [List.foldl_cons];congr 1;omega
  | trans _ _ ih1 ih2=>intro n;rw [ih1,ih2]
 exact this a b h 0
theorem lastP_snoc (l:List PeerL) (p:PeerL):lastP (l ++ [p]) = max (lastP l) p.till:=by simp [lastP]
theorem goesK_slo {α:Type} {last key:α→Int} {S:α→Prop} (h:∀ a b,S a→S b→key a = key b→a = b):SLO (goesK last key) S where
 trans a b c h1 h2:=by
  simp only [goesK,Bool.or_eq_true,Bool.and_eq_true,decide_eq_true_eq] at *
  omega
 irr a:=by simp [goesK]
 total a b ha hb hne:=by
  have:key a ≠ key b:=fun e=>hne (h a b ha hb e)
  simp only [goesK,Bool.or_eq_true,Bool.and_eq_true,decide_eq_true_eq]
  omega
theorem goesP_slo {l:List PeerL} (h:Rising PeerL.id l):SLO goesP (·∈ l):=goesK_slo fun a b ha hb e=>h.inj ha hb e
theorem firstP_perm {l l':List PeerL} {x:PeerL} (h:Rising PeerL.id l) (hp:(x :: l').Perm l):firstP l = pickL goesP l' x:=by
 cases l with
 | nil=>exact absurd hp.length_eq (by simp)
 | cons y l=>exact (pickL_perm (goesP_slo h) hp.symm (fun z hz=>hz))
theorem firstP_mem {l:List PeerL} (h:l ≠ []):firstP l ∈ l:=by
 cases l with
 | nil=>exact absurd rfl h
 | cons x l=>exact (pickL_mem l x).elim (fun e=>by show pickL goesP l x ∈ _;rw [e];simp) (fun e=>by show pickL goesP l x ∈ _;simp [e])
theorem firstT_mem {T:TabL} (h:T ≠ []):firstT T ∈ T:=by
 cases T with
 | nil=>exact absurd rfl h
 | cons x l=>exact (pickL_mem l x).elim (fun e=>by show pickL goesT l x ∈ _;rw [e];simp) (fun e=>by show pickL goesT l x ∈ _;simp [e])
def PeerOk (p:PeerL):Prop:=1 ≤ p.id∧p.id ≤ 65536∧1 ≤ p.till∧p.till ≤ 1099512676352
structure PsOk (l:List PeerL):Prop where
 rise:Rising PeerL.id l
 ok:∀ p ∈ l,PeerOk p
structure TabOk (most each:Int) (T:TabL):Prop where
 rise:Rising kD T
 dig:∀ x ∈ T,x.1.length = 32
 ps:∀ x ∈ T,PsOk x.2∧x.2 ≠ []∧(x.2.length:Int) ≤ each
 few:(T.length:Int) ≤ most
theorem PsOk.nil:PsOk []:=⟨Rising.nil,fun p hp=>by cases hp⟩
theorem PsOk.del {l:List PeerL} (h:PsOk l) (k:Int):PsOk (delK PeerL.id k l):=⟨h.rise.del k,fun p hp=>h.ok p (mem_delK.1 hp).1⟩
theorem PsOk.filter {l:List PeerL} (h:PsOk l) (q:PeerL→Bool):PsOk (l.filter q):=⟨h.rise.filter q,fun p hp=>h.ok p (List.mem_filter.1 hp).1⟩
theorem oldP_le {l:List PeerL} (h:PsOk l) (id:Int):(oldP id l).till ≤ 1099512676352∧0 ≤ (oldP id l).till:=by
 unfold oldP
 cases e:getK PeerL.id id l with
 | none=>exact ⟨by decide,by decide⟩
 | some y=>
  have:=h.ok y ((getK_some h.rise).1 e).1
  unfold PeerOk at this
  simp only [Option.getD_some]
  omega
theorem PsOk.withP {l:List PeerL} (h:PsOk l) {id till:Int} (seed:Bool) (h1:1 ≤ id∧id ≤ 65536) (h2:1 ≤ till∧till ≤ 1099512676352):PsOk (withP id till seed l):=by
 refine ⟨h.rise.ins _,fun p hp=>?_⟩
 rcases (mem_insK h.rise).1 hp with rfl | ⟨h3,_⟩
 ·have:=oldP_le h id
  unfold PeerOk
  dsimp only
  omega
 ·exact h.ok p h3
theorem withP_ne {id till:Int} {seed:Bool} {l:List PeerL} (h:PsOk l):Go.Proofs.YtnohglkilpnjhaaGreatDoor.withP id till seed l ≠ []:=fun e=>by
 have:(⟨id,max (oldP id l).till till,seed || (oldP id l).seed⟩:PeerL) ∈ Go.Proofs.YtnohglkilpnjhaaGreatDoor.withP id till seed l:=(mem_insK h.rise).2 (.inl rfl)
 rw [e] at this;cases this
theorem withP_len {id till:Int} {seed:Bool} {l:List PeerL} (h:PsOk l):(Go.Proofs.YtnohglkilpnjhaaGreatDoor.withP id till seed l).length ≤ l.length + 1:=by
 unfold Go.Proofs.YtnohglkilpnjhaaGreatDoor.withP
 rw [insK_len h.rise]
 split <;> omega
theorem firstP_get {l:List PeerL} (h:Rising PeerL.id l) (h0:l ≠ []):getK PeerL.id (firstP l).id l ≠ none:=by
 rw [(getK_some h).2 ⟨firstP_mem h0,rfl⟩];simp
theorem PsOk.room {l:List PeerL} (h:PsOk l) (each:Int):PsOk (roomP each l):=by
 unfold roomP
 split
 ·exact h.del _
 ·exact h
theorem roomP_len {l:List PeerL} {each:Int} (h:PsOk l) (h1:(l.length:Int) ≤ each + 1) (h0:l ≠ []):((roomP each l).length:Int) ≤ each:=by
 unfold roomP
 split
 ·have:=delK_len h.rise (firstP_get h.rise h0);omega
 ·omega
theorem roomP_ne {l:List PeerL} {each:Int} (h:PsOk l) (h1:1 ≤ each) (h0:l ≠ []):roomP each l ≠ []:=by
 unfold roomP
 split
 ·have:=delK_len h.rise (firstP_get h.rise h0)
  intro e
  rw [e] at this
  simp at this
  omega
 ·exact h0
theorem peersT_ok {most each:Int} {T:TabL} (h:TabOk most each T) (he:1 ≤ each) (d:List UInt8):PsOk (peersT d T)∧((peersT d T).length:Int) ≤ each:=by
 unfold peersT
 cases e:getK kD (natL d) T with
 | none=>exact ⟨PsOk.nil,by simp;omega⟩
 | some x=>
  have:=h.ps x ((getK_some h.rise).1 e).1
  exact ⟨this.1,this.2.2⟩
theorem TabOk.nil {most each:Int} (h:0 ≤ most):TabOk most each []:=⟨Rising.nil,fun x hx=>(by cases hx),fun x hx=>(by cases hx),by simpa using h⟩
theorem TabOk.ann {most each:Int} {T:TabL} (h:TabOk most each T) (hm:1 ≤ most) (he:1 ≤ each) {d:List UInt8} (hd:d.length = 32) (id now life:Int) (seed:Bool):TabOk most each (annT most each T d id now life seed).1:=by
 unfold annT
 split
 ·rename_i ha
  simp only [argsB,Bool.and_eq_true,decide_eq_true_eq] at ha
  obtain ⟨hp,hl⟩:=peersT_ok h he d
  have hw:=hp.withP (id:=id) (till:=now + life) seed ha.1 (by omega)
  have hwl:=withP_len (id:=id) (till:=now + life) (seed:=seed) hp
  have hw0:=withP_ne (id:=id) (till:=now + life) (seed:=seed) hp
  generalize withP id (now + life) seed (peersT d T) = w at *
  have hr:=hw.room each
  have hrl:=roomP_len (each:=each) hw (by omega) hw0
  have hr0:=roomP_ne (each:=each) hw he hw0
  generalize roomP each w = r at *
  have hR:=h.rise.ins (d,r)
  have hmem:∀ x ∈ insK kD (d,r) T,x.1.length = 32∧PsOk x.2∧x.2 ≠ []∧(x.2.length:Int) ≤ each:=fun x hx=>by
   rcases (mem_insK h.rise).1 hx with rfl | ⟨h3,_⟩
   ·exact ⟨hd,hr,hr0,hrl⟩
   ·exact ⟨h.dig x h3,h.ps x h3⟩
  have hlen:((insK kD (d,r) T).length:Int) ≤ most + 1:=by
   rw [insK_len h.rise]
   have:=h.few
   split <;> omega
  have hne:insK kD (d,r) T ≠ []:=fun e=>by
   have:(d,r) ∈ insK kD (d,r) T:=(mem_insK h.rise).2 (.inl rfl)
   rw [e] at this;cases this
  show TabOk most each (roomT most (insK kD (d,r) T))
  generalize insK kD (d,r) T = N at *
  unfold roomT
  split
  ·have hg:getK kD (kD (firstT N)) N ≠ none:=by rw [(getK_some hR).2 ⟨firstT_mem hne,rfl⟩];simp
   have:=delK_len hR hg
   exact ⟨hR.del _,fun x hx=>(hmem x (mem_delK.1 hx).1).1,fun x hx=>(hmem x (mem_delK.1 hx).1).2,by omega⟩
  ·exact ⟨hR,fun x hx=>(hmem x hx).1,fun x hx=>(hmem x hx).2,by omega⟩
 ·exact h
theorem TabOk.back {most each:Int} {T:TabL} (h:TabOk most each T) {d:List UInt8} (hd:d.length = 32) (hg:getK kD (natL d) T ≠ none) {r:List PeerL} (hr:PsOk r) (hl:(r.length:Int) ≤ each):TabOk most each (backT d r T):=by
 unfold backT
 split
 ·have:=delK_len h.rise hg
  exact ⟨h.rise.del _,fun x hx=>h.dig x (mem_delK.1 hx).1,fun x hx=>h.ps x (mem_delK.1 hx).1,by have:=h.few;omega⟩
 ·rename_i hne
  refine ⟨h.rise.ins _,fun x hx=>?_,fun x hx=>?_,?_⟩
  ·rcases (mem_insK h.rise).1 hx with rfl | ⟨h3,_⟩
   ·exact hd
   ·exact h.dig x h3
  ·rcases (mem_insK h.rise).1 hx with rfl | ⟨h3,_⟩
   ·exact ⟨hr,hne,hl⟩
   ·exact h.ps x h3
  ·rw [insK_len h.rise]
   have e:getK kD (kD (d,r)) T = getK kD (natL d) T:=rfl
   rw [e,if_pos (Option.isSome_iff_ne_none.2 hg)]
   exact h.few
theorem TabOk.leave {most each:Int} {T:TabL} (h:TabOk most each T) (he:1 ≤ each) {d:List UInt8} (hd:d.length = 32) (id:Int):TabOk most each (leaveT T d id).1:=by
 unfold leaveT
 split
 ·rename_i hs
  obtain ⟨hp,hl⟩:=peersT_ok h he d
  refine h.back hd (fun e=>?_) (hp.del id) ?_
  ·unfold peersT at hs
   rw [e] at hs
   cases hs
  ·have:(delK PeerL.id id (peersT d T)).length ≤ (peersT d T).length:=List.length_filter_le _ _
   omega
 ·exact h
theorem liveT_mem {now:Int}:∀ {T:TabL} {x:List UInt8 × List PeerL},x ∈ liveT now T→∃ y ∈ T,x.1 = y.1∧x.2 = liveP now y.2∧x.2 ≠ []
 | [],x,h=>by cases h
 | z :: T,x,h=>by
  rcases List.mem_append.1 h with h | h
  ·unfold oneT at h
   split at h
   ·cases h
   ·rename_i hne
    obtain rfl:=List.mem_singleton.1 h
    exact ⟨z,by simp,rfl,rfl,hne⟩
  ·obtain ⟨y,h1,h2⟩:=liveT_mem h
   exact ⟨y,by simp [h1],h2⟩
theorem oneT_len (d:List UInt8) (r:List PeerL):(oneT d r).length ≤ 1:=by unfold oneT;split <;> simp
theorem liveT_len (now:Int):∀ T:TabL,(liveT now T).length ≤ T.length
 | []=>by simp [liveT]
 | x :: T=>by
  have:=liveT_len now T
  have:=oneT_len x.1 (liveP now x.2)
  simp only [liveT,List.length_append,List.length_cons]
  omega
theorem liveT_rise {now:Int}:∀ {T:TabL},Rising kD T→Rising kD (liveT now T)
 | [],_=>Rising.nil
 | x :: T,h=>by
  refine List.pairwise_append.2 ⟨?_,liveT_rise h.tail,fun a ha b hb=>?_⟩
  ·unfold oneT;split
   ·exact List.Pairwise.nil
   ·exact List.pairwise_singleton _ _
  ·obtain ⟨y,h1,h2,_⟩:=liveT_mem hb
   unfold oneT at ha
   split at ha
   ·cases ha
   ·obtain rfl:=List.mem_singleton.1 ha
    have:=h.head y h1
    unfold kD at *
    rw [h2];exact this
theorem TabOk.live {most each:Int} {T:TabL} (h:TabOk most each T) (now:Int):TabOk most each (liveT now T):=by
 refine ⟨liveT_rise h.rise,fun x hx=>?_,fun x hx=>?_,?_⟩
 ·obtain ⟨y,h1,h2,_⟩:=liveT_mem hx
  rw [h2];exact h.dig y h1
 ·obtain ⟨y,h1,h2,h3,h4⟩:=liveT_mem hx
  obtain ⟨p1,p2,p3⟩:=h.ps y h1
  refine ⟨by rw [h3];exact p1.filter _,h4,?_⟩
  rw [h3]
  have:(liveP now y.2).length ≤ y.2.length:=List.length_filter_le _ _
  omega
 ·have:=liveT_len now T
  have:=h.few
  omega
theorem TabOk.exp {most each:Int} {T:TabL} (h:TabOk most each T) (now:Int):TabOk most each (expT T now).1:=by
 unfold expT
 split
 ·exact h.live now
 ·exact h
def goesD (T:TabL):List UInt8→List UInt8→Bool:=goesK (fun d=>lastP (peersT d T)) (fun d=>(natL d:Int))
def goesV (x y m n:Int):Bool:=decide (x < y) || (decide (x = y) && decide (n < m))
theorem peersT_mem {T:TabL} (h:Rising kD T) {x:List UInt8 × List PeerL} (hx:x ∈ T):peersT x.1 T = x.2:=by
 unfold peersT
 have e:getK kD (natL x.1) T = some x:=(getK_some h).2 ⟨hx,rfl⟩
 rw [e];rfl
theorem goesD_slo (T:TabL):SLO (goesD T) (fun d=>d.length = 32):=goesK_slo fun a b ha hb e=>natL_inj a b (by omega) (by omega)
theorem firstT_dig {T:TabL} (h:Rising kD T) (h32:∀ x ∈ T,x.1.length = 32) {d:List UInt8} {l:List (List UInt8)} (hp:(d :: l).Perm (T.map (·.1))):(firstT T).1 = pickL (goesD T) l d:=by
 cases T with
 | nil=>exact absurd hp.length_eq (by simp)
 | cons y T'=>
  have hm:=pickL_map (goes:=goesT) (go2:=goesD (y :: T')) (fun x:List UInt8 × List PeerL=>x.1) T' y (fun a ha b hb=>by
   have e1:=peersT_mem h ha
   have e2:=peersT_mem h hb
   show goesV (lastP (peersT a.1 (y :: T'))) (lastP (peersT b.1 (y :: T'))) (natL a.1) (natL b.1) = goesV (lastP a.2) (lastP b.2) (natL a.1) (natL b.1)
   rw [e1,e2])
  show (pickL goesT T' y).1 = _
  rw [← hm]
  refine pickL_perm (goesD_slo (y :: T')) hp.symm (fun z hz=>?_)
  obtain ⟨x,hx,rfl⟩:=List.mem_map.1 (show z ∈ (y :: T').map (·.1) from hz)
  exact h32 x hx
end Go.Proofs.YtnohglkilpnjhaaGreatDoor
