/- Lemmas that the statement of this claim leans on; their own comments are taken out, for the size of the claim. No condition beyond what each lemma states. -/
import Derived.Test.YtnohglkilpnjhaaGreatDoorSc21
set_option linter.unusedVariables false
set_option linter.unusedSimpArgs false
set_option linter.unusedSectionVars false
namespace Go.Proofs.YtnohglkilpnjhaaGreatDoor
open Go.ChangeShapes Go.WideShapes Go.ChangeAt Go.RowKit Go.Deep
set_option maxRecDepth 100000
section
variable {H:Type} {enc:TypeId × Value→H} {P:Program} {W:World} {base:Nat} {spare:Nat→Bool} {held:Bool}
theorem ints_of_trod {t e:TypeId} {fuel:Nat} {cs:List Value} {x:DataW H × List MemPlace} (ht:P.underlying t = some (.slice e)) (he:P.underlying e = some (.int .i64)) (hc:P.cellsOf e = 1)
  (h:DataW.trod enc P W base spare held fuel t cs = some x):∃ v l,cs = [v]∧Ints W v l∧∀ n ∈ l,inI64 n:=by
 rcases open_ints ht he hc h with ⟨rfl,_⟩ | ⟨a,len,cap,zs,rfl,_,hl,hm,hz,_,hcell,hwz⟩
 ·exact ⟨_,[],rfl,Row.of_nil 1,fun n h=>by cases h⟩
 ·have hlz:len ≤ zs.length:=by rw [hz];split <;> omega
  refine ⟨_,zs.take len,rfl,?_,fun n hn=>bd_i64 (hwz n (List.mem_of_mem_take hn))⟩
  have hlen:(zs.take len).length = len:=by simp;omega
  unfold Ints
  rw [hlen]
  refine ⟨by simp;omega,some a,cap,rfl,hl,hm,(fun h=>by cases h),fun hne=>?_⟩
  have h0:=hcell 0 (by omega)
  have e0:a.add 0 = a:=rfl
  rw [e0] at h0
  obtain ⟨b,off,rfl⟩:=addr_none h0
  refine ⟨b,off,rfl,World.block_lt_of_cell? _ _ h0,fun j hj=>?_⟩
  have hj':j < zs.length:=by omega
  have:=hcell j hj'
  rw [addr_add] at this
  rw [this]
  simp [List.getElem?_map,show j < len by omega,List.getElem?_eq_getElem hj',List.getD,I64]
theorem digests_of_trod {t e f:TypeId} {fuel:Nat} {cs:List Value} {x:DataW H × List MemPlace} (ht:P.underlying t = some (.slice e)) (he:P.underlying e = some (.array 32 f)) (hf:P.underlying f = some (.int .u8)) (hce:P.cellsOf e = 32) (hcf:P.cellsOf f = 1)
  (hfu:DataW.trod enc P W 0 spare held fuel t cs = some x):∃ v l,cs = [v]∧Digs W v l:=by
 rcases open_slice ht hfu with ⟨rfl,_⟩ | ⟨a,len0,cap0,m,n,D,Pl,rfl,_,hl,hm,hmm,_,hx⟩
 ·exact ⟨_,[],rfl,(fun _ h=>by simp at h),Row.of_nil 32⟩
 ·have hlm:len0 ≤ m:=by rw [hmm];split <;> omega
  have one:∀ i,i < len0→∃ y:List UInt8,y.length = 32∧∀ j,j < 32→W.cell? ((a.add (i * 32)).add j) = (y.map B8)[j]?:=by
   intro i hi
   obtain ⟨cs',hc,ht'⟩:=hx i (by omega)
   rw [hce] at hc
   obtain ⟨_,hcl,hat⟩:=World.cells?_some hc
   obtain ⟨l,rfl,hb⟩:=octs_of_trod he hf hcf hce ht'
   refine ⟨l,hb,fun j hj=>?_⟩
   have:=hat j hj
   simpa using this
  obtain ⟨Y,hY⟩:=choose_lt (n:=len0) (p:=fun i (y:List UInt8)=>y.length = 32∧∀ j,j < 32→W.cell? ((a.add (i * 32)).add j) = (y.map B8)[j]?) one
  have h32:Dig32 ((List.range len0).map Y):=fun d hd=>by
   obtain ⟨i,hi,rfl⟩:=List.mem_map.1 hd
   exact (hY i (List.mem_range.1 hi)).1
  have hlen:((List.range len0).map Y).length = len0:=by simp
  refine ⟨_,(List.range len0).map Y,rfl,h32,by rw [flatD_len h32],some a,cap0,by rw [hlen],by rw [hlen];exact hl,hm,(fun h=>by cases h),fun h0=>?_⟩
  rw [hlen] at h0 ⊢
  have h0':0 < len0:=by omega
  have c0:=(hY 0 h0').2 0 (by omega)
  have e0:(a.add (0 * 32)).add 0 = a:=rfl
  rw [e0,List.getElem?_eq_getElem (by simp [(hY 0 h0').1])] at c0
  obtain ⟨b,off,rfl⟩:=addr_none c0
  refine ⟨b,off,rfl,World.block_lt_of_cell? _ _ c0,fun j hj=>?_⟩
  have h2:=(hY (j / 32) (by omega)).2 (j % 32) (by omega)
  rw [addr_add,addr_add,Nat.add_assoc,show j / 32 * 32 + j % 32 = j by omega] at h2
  rw [h2,flatD_getElem h32 (by rw [hlen];exact hj)]
  simp [List.getD,show j / 32 < len0 by omega]
end
section
variable {H:Type} {enc:TypeId × Value→H} {W:World} {base:Nat} {spare:Nat→Bool} {held:Bool}
theorem fields_member : (Tryz.prog.fieldsOf 113).toList.map (fun f => (f.name, f.type, f.offset)) = [("Id", 3, 0), ("Incarnation", 3, 1), ("State", 3, 2), ("Since", 3, 3)] := by kernel_rfl
theorem fields_msg:(Tryz.prog.fieldsOf 37).toList.map (fun f=>(f.name,f.type,f.offset)) =
  [("Kind", 3, 0), ("Hash", 31, 1), ("Piece", 3, 33), ("Ids", 32, 34), ("Bytes", 33, 35), ("Proof", 34, 36), ("Members", 35, 37), ("Seed", 4, 38)] := by kernel_rfl
theorem struct_fields {T:TypeId} {fs:Array Field} {fuel:Nat} {cs:List Value} {y:DataW H × List MemPlace} (ht:Tryz.prog.underlying T = some (.struct fs)) (h:DataW.trod enc Tryz.prog W 0 spare held fuel T cs = some y) :
  ∃ n,cs.length = Tryz.prog.cellsOf T∧∀ (j:Nat) (q:String × TypeId × Nat),(fs.toList.map (fun f=>(f.name,f.type,f.offset)))[j]? = some q→∃ z,DataW.trod enc Tryz.prog W 0 spare held n q.2.1 ((cs.drop q.2.2).take (Tryz.prog.cellsOf q.2.1)) = some z:=by
 obtain ⟨xs,n,_,rfl,hl,hlen,hf⟩:=DataW.trod_struct ht h
 refine ⟨n,hl,fun j q hq=>?_⟩
 rw [List.getElem?_map] at hq
 obtain ⟨f,hfj,rfl⟩:=Option.map_eq_some_iff.1 hq
 have h1:=hf j f (by simpa using hfj)
 have hj:j < xs.length:=by
  have:=(List.getElem?_eq_some_iff.1 hfj).1
  simp at this;omega
 exact ⟨xs[j],by rw [h1,List.getElem?_eq_getElem hj]⟩
theorem struct_member : ∃ fs, Tryz.prog.underlying 113 = some (.struct fs) ∧ fs.toList.map (fun f => (f.name, f.type, f.offset)) = [("Id", 3, 0), ("Incarnation", 3, 1), ("State", 3, 2), ("Since", 3, 3)] :=
 ⟨Tryz.prog.fieldsOf 113,by kernel_rfl,fields_member⟩
theorem struct_msg:∃ fs,Tryz.prog.underlying 37 = some (.struct fs)∧fs.toList.map (fun f=>(f.name,f.type,f.offset)) =
  [("Kind", 3, 0), ("Hash", 31, 1), ("Piece", 3, 33), ("Ids", 32, 34), ("Bytes", 33, 35), ("Proof", 34, 36), ("Members", 35, 37), ("Seed", 4, 38)] :=
 ⟨Tryz.prog.fieldsOf 37,by kernel_rfl,fields_msg⟩
theorem mem_of_trod {fuel:Nat} {cs:List Value} {y:DataW H × List MemPlace} (h:DataW.trod enc Tryz.prog W 0 spare held fuel 113 cs = some y):∃ x:MemL,cs = x.cells∧x.ok:=by
 obtain ⟨fs,ht,hff⟩:=struct_member
 obtain ⟨n,hl,fld⟩:=struct_fields ht h
 have hcl:Tryz.prog.cellsOf 113 = 4:=by kernel_rfl
 have hci:Tryz.prog.cellsOf 3 = 1:=by kernel_rfl
 rw [hff] at fld
 rw [hcl] at hl
 obtain ⟨z0,f0⟩:=fld 0 _ rfl
 obtain ⟨z1,f1⟩:=fld 1 _ rfl
 obtain ⟨z2,f2⟩:=fld 2 _ rfl
 obtain ⟨z3,f3⟩:=fld 3 _ rfl
 dsimp only at f0 f1 f2 f3
 rw [hci] at f0 f1 f2 f3
 obtain ⟨q0,e0,_,w0⟩:=DataW.trod_int Tryz.underlying3 f0
 obtain ⟨q1,e1,_,w1⟩:=DataW.trod_int Tryz.underlying3 f1
 obtain ⟨q2,e2,_,w2⟩:=DataW.trod_int Tryz.underlying3 f2
 obtain ⟨q3,e3,_,w3⟩:=DataW.trod_int Tryz.underlying3 f3
 match cs,hl with
 | [c0,c1,c2,c3],_=>
  simp at e0 e1 e2 e3
  subst e0 e1 e2 e3
  exact ⟨⟨q0,q1,q2,q3⟩,rfl,bd_i64 w0,bd_i64 w1,bd_i64 w2,bd_i64 w3⟩
theorem mems_of_trod {fuel:Nat} {cs:List Value} {x:DataW H × List MemPlace} (hfu:DataW.trod enc Tryz.prog W 0 spare held fuel 35 cs = some x):∃ v l,cs = [v]∧Mems W v l∧∀ y ∈ l,y.ok:=by
 have hce:Tryz.prog.cellsOf 113 = 4:=by kernel_rfl
 rcases open_slice Tryz.underlying35 hfu with ⟨rfl,_⟩ | ⟨a,len0,cap0,m,n,D,Pl,rfl,_,hl,hm,hmm,_,hx⟩
 ·exact ⟨_,[],rfl,Row.of_nil 4,fun _ h=>by cases h⟩
 ·have hlm:len0 ≤ m:=by rw [hmm];split <;> omega
  have one:∀ i,i < len0→∃ y:MemL,y.ok∧∀ j,j < 4→W.cell? ((a.add (i * 4)).add j) = y.cells[j]?:=by
   intro i hi
   obtain ⟨cs',hc,ht'⟩:=hx i (by omega)
   rw [hce] at hc
   obtain ⟨_,hcl,hat⟩:=World.cells?_some hc
   obtain ⟨y,rfl,hy⟩:=mem_of_trod ht'
   exact ⟨y,hy,fun j hj=>hat j hj⟩
  haveI:Inhabited MemL:=⟨mem0⟩
  obtain ⟨Y,hY⟩:=choose_lt (n:=len0) (p:=fun i (y:MemL)=>y.ok∧∀ j,j < 4→W.cell? ((a.add (i * 4)).add j) = y.cells[j]?) one
  have hlen:((List.range len0).map Y).length = len0:=by simp
  refine ⟨_,(List.range len0).map Y,rfl,⟨by rw [flatM_len],some a,cap0,by rw [hlen],by rw [hlen];exact hl,hm,(fun h=>by cases h),fun h0=>?_⟩,fun y hy=>?_⟩
  ·rw [hlen] at h0 ⊢
   have h0':0 < len0:=by omega
   have c0:=(hY 0 h0').2 0 (by omega)
   have e0:(a.add (0 * 4)).add 0 = a:=rfl
   rw [e0] at c0
   obtain ⟨b,off,rfl⟩:=addr_none (u:=.int .i64 (Y 0).id) (c0.trans rfl)
   refine ⟨b,off,rfl,World.block_lt_of_cell? _ _ (c0.trans rfl:_ = some (.int .i64 (Y 0).id)),fun j hj=>?_⟩
   have h2:=(hY (j / 4) (by omega)).2 (j % 4) (by omega)
   rw [addr_add,addr_add,Nat.add_assoc,show j / 4 * 4 + j % 4 = j by omega] at h2
   rw [h2]
   obtain ⟨g0,g1,g2,g3⟩:=flatM_at (l:=(List.range len0).map Y) (i:=j / 4) (by rw [hlen];omega)
   have eg:((List.range len0).map Y).getD (j / 4) mem0 = Y (j / 4):=by simp [List.getD,show j / 4 < len0 by omega]
   rw [eg] at g0 g1 g2 g3
   have hj4:j = j / 4 * 4 + j % 4:=by omega
   rcases (show j % 4 = 0∨j % 4 = 1∨j % 4 = 2∨j % 4 = 3 by omega) with e | e | e | e
   ·rw [e,show j = j / 4 * 4 by omega,show j / 4 * 4 / 4 = j / 4 by omega,g0];rfl
   ·rw [e,show j = j / 4 * 4 + 1 by omega,show (j / 4 * 4 + 1) / 4 = j / 4 by omega,g1];rfl
   ·rw [e,show j = j / 4 * 4 + 2 by omega,show (j / 4 * 4 + 2) / 4 = j / 4 by omega,g2];rfl
   ·rw [e,show j = j / 4 * 4 + 3 by omega,show (j / 4 * 4 + 3) / 4 = j / 4 by omega,g3];rfl
  ·obtain ⟨i,hi,rfl⟩:=List.mem_map.1 hy
   exact (hY i (List.mem_range.1 hi)).1
theorem msg_of_trod {fuel:Nat} {cs:List Value} {y:DataW H × List MemPlace} (h:DataW.trod enc Tryz.prog W 0 spare held fuel 37 cs = some y):∃ (m:MsgL) (s:MsgS),cs = msgCells m s∧MsgR W m s∧m.ok:=by
 obtain ⟨fs,ht,hff⟩:=struct_msg
 obtain ⟨n,hl,fld⟩:=struct_fields ht h
 have hcl:Tryz.prog.cellsOf 37 = 39:=by kernel_rfl
 have hci:Tryz.prog.cellsOf 3 = 1:=by kernel_rfl
 have hcd:Tryz.prog.cellsOf 31 = 32:=by kernel_rfl
 have hcb:Tryz.prog.cellsOf 5 = 1:=by kernel_rfl
 have hs1:Tryz.prog.cellsOf 32 = 1:=by kernel_rfl
 have hs2:Tryz.prog.cellsOf 33 = 1:=by kernel_rfl
 have hs3:Tryz.prog.cellsOf 34 = 1:=by kernel_rfl
 have hs4:Tryz.prog.cellsOf 35 = 1:=by kernel_rfl
 have hs5:Tryz.prog.cellsOf 4 = 1:=by kernel_rfl
 rw [hff] at fld
 rw [hcl] at hl
 obtain ⟨z0,f0⟩:=fld 0 _ rfl
 obtain ⟨z1,f1⟩:=fld 1 _ rfl
 obtain ⟨z2,f2⟩:=fld 2 _ rfl
 obtain ⟨z3,f3⟩:=fld 3 _ rfl
 obtain ⟨z4,f4⟩:=fld 4 _ rfl
 obtain ⟨z5,f5⟩:=fld 5 _ rfl
 obtain ⟨z6,f6⟩:=fld 6 _ rfl
 obtain ⟨z7,f7⟩:=fld 7 _ rfl
 dsimp only at f0 f1 f2 f3 f4 f5 f6 f7
 rw [hci] at f0 f2
 rw [hs1] at f3
 rw [hs2] at f4
 rw [hs3] at f5
 rw [hs4] at f6
 rw [hs5] at f7
 obtain ⟨q0,e0,_,w0⟩:=DataW.trod_int Tryz.underlying3 f0
 obtain ⟨l1,e1,n1⟩:=octs_of_trod Tryz.underlying31 Tryz.underlying5 hcb hcd f1
 obtain ⟨q2,e2,_,w2⟩:=DataW.trod_int Tryz.underlying3 f2
 obtain ⟨v3,l3,e3,r3,o3⟩:=ints_of_trod Tryz.underlying32 Tryz.underlying3 hci f3
 obtain ⟨v4,l4,e4,r4⟩:=bytes_of_trod Tryz.underlying33 Tryz.underlying5 hcb f4
 obtain ⟨v5,l5,e5,r5⟩:=digests_of_trod Tryz.underlying34 Tryz.underlying31 Tryz.underlying5 hcd hcb f5
 obtain ⟨v6,l6,e6,r6,o6⟩:=mems_of_trod f6
 obtain ⟨q7,e7,_⟩:=DataW.trod_bool Tryz.underlying4 f7
 rw [hcd] at e1
 refine ⟨⟨q0,l1,q2,l3,l4,l5,l6,q7⟩,⟨v3,v4,v5,v6⟩,?_,⟨n1,r3,r4,r5,r6⟩,⟨bd_i64 w0,bd_i64 w2,o3,o6⟩⟩
 unfold msgCells
 dsimp only
 have hd:∀ k,cs.drop k = (cs.drop k).take 1 ++ cs.drop (k + 1):=fun k=>by have:=List.take_append_drop 1 (cs.drop k);rw [List.drop_drop] at this;exact this.symm
 have h39:cs.drop 39 = []:=List.drop_of_length_le (by omega)
 have h33:cs.drop 33 = [.int .i64 q2,v3,v4,v5,v6,.bool q7]:=by
  rw [hd 33,e2,hd 34,e3,hd 35,e4,hd 36,e5,hd 37,e6,hd 38,e7,h39];rfl
 have h1:cs.drop 1 = l1.map B8 ++ cs.drop 33:=by
  have:=List.take_append_drop 32 (cs.drop 1)
  rw [List.drop_drop,e1] at this
  exact this.symm
 have h0:cs = cs.drop 0:=rfl
 rw [h0,hd 0,e0,h1,h33];rfl
end
end Go.Proofs.YtnohglkilpnjhaaGreatDoor
