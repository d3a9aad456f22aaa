import Derived.Test.YtnfbbidmdkfilaaGreatDoorZDSoundV
open Bool renaming and_assoc->zg,and_eq_true->qm,not_eq_true'->qX
open Go renaming TypeId->qq,Value->qr,Program->qo,run_underlying->zd
open Go.Result renaming andThen_ok->xT
open List renaming cons_append->xW,drop_drop->zh,take_append_drop->wE,replicate->qs,eq_nil_of_length_eq_zero->zi
open Option renaming map_eq_some_iff->x9
namespace Go.Abs
variable {F:Cells} {w:World} {ρ:Env} {P:qo}
def IsCells (P:qo)(F:Cells)(w:World)(t:qq)(x:qr)(ps:List PVal):Prop:=
 (ezn P t=some true/\∃vs:Array qr,x=.agg vs/\ps.length=vs.size/\∀ (j:Nat) (p:PVal) (v:qr),ps[j]?=some p->vs[j]?=some v->PRel F w p v)\/
 (ezn P t=some false/\∃p,ps=[p]/\PRel F w p x)
theorem vzf:∀ {a e b g:List PVal} {r:Bool},a.length=e.length->ez1 (a++b) (e++g)=some r->
 ∃f c,ez1 a e=some f/\ez1 b g=some c/\r=(f&&c)
 |[],[],b,g,r,_,h=>⟨true,r,rfl,jr,jq⟩
 |[],_::_,_,_,_,l,_=>jt
 |_::_,[],_,_,_,l,_=>jt
 |x::a,y::e,b,g,r,l,h=>by
  have d:a.length=e.length:=by simpa using l
  simp only[xW]at h;cases x<;>cases y<;>simp only[ez1]at h<;>try(cases h;done)
  all_goals
   first
   |(split at h
     ·simp only[x9]at h;obtain⟨q,j,rfl⟩:=h;obtain⟨f,c,i,k,rfl⟩:=vzf d j;rename_i m;exact⟨_,c,by simp[ez1,i,m];rfl,k,by simp[zg]⟩
     ·cases h)
   |(simp only[x9]at h
     obtain⟨q,j,rfl⟩:=h;obtain⟨f,c,i,k,rfl⟩:=vzf d j;exact⟨_,c,by simp[ez1,i];rfl,k,by simp[zg]⟩)
theorem IsCells.part {t:qq}{s:Nat}{vs:Array qr}{ps:List PVal}(off:Nat)(c:bzi P t=some s)(e:ps.length=vs.size)
 (h:∀ (j:Nat) (p:PVal) (v:qr),ps[j]?=some p->vs[j]?=some v->PRel F w p v) (b:off+s<=vs.size) (a:(ezn P t=some true)\/(ezn P t=some false/\s=1)):
 ∃x,(Go.part t vs off).run P w=.ok x w/\IsCells P F w t x ((ps.drop off).take s):=by
 rcases a with a|⟨a,rfl⟩
 ·refine⟨_,qzw (.inl ⟨a,s,c,rfl⟩),.inl ⟨a,_,rfl,jt,λj p v d f=>?_⟩⟩
  grind
 ·refine⟨vs[off],qzw (.inr ⟨a,jq⟩),.inr ⟨a,ps[off],?_,h off _ _ jq jq⟩⟩
  grind[List.drop_eq_getElem_cons]
theorem zzb:∀ {a b:List Nat} {ps:List PVal},fits (a++b) ps=true->fits a (ps.take a.length)=true/\fits b (ps.drop a.length)=true/\a.length<=ps.length
 |[],b,ps,h=>by simpa[fits]using h
 |k::a,b,[],h=>by simp[fits]at h
 |k::a,b,p::ps,h=>by
  simp only[xW,fits,qm]at h;obtain⟨c,e,d⟩:=zzb h.2;simp[fits,h.1,c,e,d]
theorem rzw:∀ {a:List Nat} {ps:List PVal},fits a ps=true->ps.length=a.length
 |[],[],_=>rfl
 |[],_::_,h=>by simp[fits]at h
 |_::_,[],h=>by simp[fits]at h
 |_::a,_::ps,h=>by
  simp only[fits,qm]at h;simp[rzw h.2]
def Qzp (P:qo)(t:qq)(a:List Nat):Prop:=(ezn P t=some true)\/(ezn P t=some false/\a.length=1)
theorem Qzg {d:Nat}{t:qq}{b:List Nat}(h:tzw P d t=some b):Qzp P t b:=by
 cases d with
 |zero=>simp[tzw]at h
 |succ d=>
  simp only[tzw]at h
  split at h<;>rename_i a<;>first
   |(simp at h;subst h;right;simp[ezn,a];done)
   |(left;simp[ezn,a];done)
   |simp_all
def azfa (P:qo)(F:Cells)(w:World)(D:Nat)(t:qq)(b:List Nat):Prop:=
 ∀ (x y:qr) (ps a:List PVal) (r:Bool),IsCells P F w t x ps->IsCells P F w t y a->fits b ps=true->fits b a=true->ez1 ps a=some r->
   (Op.equalIn D t x y).run P w=.ok r w
theorem azbe {D:Nat}{e:qq}{a b:List Nat}(E:azfa P F w D e a)(n:Qzp P e a)(k:bzi P e=some a.length)(I:0<a.length){xs i:Array qr}{ps c:List PVal}
 (s:ps.length=xs.size) (g:c.length=i.size) (z:∀ (j:Nat) (p:PVal) (v:qr),ps[j]?=some p->xs[j]?=some v->PRel F w p v)
 (u:∀ (j:Nat) (p:PVal) (v:qr),c[j]?=some p->i[j]?=some v->PRel F w p v) {off:Nat} {r:Bool}
 (K:fits (a++b) (ps.drop off)=true) (L:fits (a++b) (c.drop off)=true) (h:ez1 (ps.drop off) (c.drop off)=some r):
 ∃x y d f,(part e xs off).run P w=.ok x w/\(part e i off).run P w=.ok y w/\(Op.equalIn D e x y).run P w=.ok d w/\r=(d&&f)/\
  fits b (ps.drop (off+a.length))=true/\fits b (c.drop (off+a.length))=true/\ez1 (ps.drop (off+a.length)) (c.drop (off+a.length))=some f:=by
 obtain⟨t,m,G⟩:=zzb K;obtain⟨M,l,H⟩:=zzb L;rw[zh]at m l;simp only[List.length_drop]at G H;rw[<-wE a.length (ps.drop off),<-wE a.length (c.drop off),zh,zh]at h;obtain⟨d,f,B,o,rfl⟩:=vzf jr h;obtain⟨x,C,J⟩:=IsCells.part (P:=P) (F:=F) (w:=w) off k s z qa n;obtain⟨y,A,q⟩:=IsCells.part (P:=P) (F:=F) (w:=w) off k g u qa n;exact⟨x,y,d,f,C,A,E x y _ _ d J q t M B,rfl,m,l,o⟩
theorem az6t {D:Nat}{e:qq}{a:List Nat}(t:azfa P F w D e a)(A:Qzp P e a)(m:bzi P e=some a.length)(d:0<a.length){xs l:Array qr}{ps f:List PVal}
 (q:ps.length=xs.size) (c:f.length=l.size) (s:∀ (j:Nat) (p:PVal) (v:qr),ps[j]?=some p->xs[j]?=some v->PRel F w p v)
 (z:∀ (j:Nat) (p:PVal) (v:qr),f[j]?=some p->l[j]?=some v->PRel F w p v):
 ∀ (k i:Nat) (r:Bool),fits (qs k a).flatten (ps.drop (i * a.length))=true->fits (qs k a).flatten (f.drop (i * a.length))=true->
   ez1 (ps.drop (i * a.length)) (f.drop (i * a.length))=some r->(Op.eqItems D e (P.cellsOf e) xs l (List.range' i k)).run P w=.ok r w
 |0,i,r,g,n,h=>by
  have N:=rzw g;have M:=rzw n
  simp_all[zi,ez1,Op.eqItems]
 |k+1,i,r,g,n,h=>by
  have u:P.cellsOf e=a.length:=by
   obtain⟨G,hi,o⟩:=iz9 m;simp[Program.cellsOf,hi,o]
  obtain⟨x,y,J,I,K,H,L,rfl,C,B,E⟩:=azbe t A m d q c s z g n h;rw[show i * a.length+a.length=(i+1) * a.length by rw[Nat.add_mul];omega]at C B E;have b:=az6t t A m d q c s z k (i+1) I C B E;rw[List.range'_succ];rw[u]at b;simp only[Op.eqItems,u,Sem.run_bind,K,H,L,xT];cases J
  ·simp
  ·simpa using b
theorem az14 {D:Nat}{g:qq->Option (List Nat)}{xs n:Array qr}{ps e:List PVal}(C:∀t a,g t=some a->azfa P F w D t a/\Qzp P t a)
 (z:ps.length=xs.size) (d:e.length=n.size) (A:∀ (j:Nat) (p:PVal) (v:qr),ps[j]?=some p->xs[j]?=some v->PRel F w p v)
 (q:∀ (j:Nat) (p:PVal) (v:qr),e[j]?=some p->n[j]?=some v->PRel F w p v):
 ∀ (i:List Field) (off:Nat) (a:List Nat) (r:Bool),Jzy P g i off=some a->fits a (ps.drop off)=true->fits a (e.drop off)=true->
   ez1 (ps.drop off) (e.drop off)=some r->(Op.eqFields D xs n i).run P w=.ok r w
 |[],off,a,r,h,k,l,m=>by
  simp[Jzy]at h;subst h;rw[zi (rzw k),zi (rzw l)]at m
  simp_all[ez1,Op.eqFields]
 |f::i,off,a,r,h,k,l,m=>by
  simp only[Jzy]at h;split at h
  ·rename_i s;simp only[qm,qf,bne_iff_ne,ne_eq]at s;obtain⟨rfl,b⟩:=s;split at h
   ·rename_i Q o;split at h
    ·rename_i u;simp only[qm,qf,qX]at u;split at h
     ·rename_i R c;simp at h;subst h;obtain⟨L,K⟩:=C _ _ o;obtain⟨x,y,N,I,G,J,O,rfl,M,H,E⟩:=azbe L K u.1 jt z d A q k l m;have B:=az14 C z d A q i _ _ I c M H E;simp only[Op.eqFields,ne_eq,b,not_false_eq_true,if_true,Sem.run_bind,G,J,O,xT];cases N;all_goals simp_all
     grind
    grind
   grind
  grind
theorem Qze:∀ (d:Nat) (t:qq) (o:List Nat),tzw P d t=some o->∀ (D:Nat),azfa P F w (D+d) t o
 |0,_,_,h,_=>by simp[tzw]at h
 |d+1,t,o,h,D=>by
  intro x y ps z r J G c b H;have i:ezn P t=some false->∃p q,ps=[p]/\z=[q]/\PRel F w p x/\PRel F w q y:=by
   intro Q;rcases J with⟨B,_⟩|⟨_,p,rfl,m⟩
   ·simp_all
   ·rcases G with⟨B,_⟩|⟨_,q,rfl,l⟩;all_goals simp_all
  have s:ezn P t=some true->(∃vs:Array qr,x=.agg vs/\ps.length=vs.size/\∀ (j:Nat) (p:PVal) (v:qr),ps[j]?=some p->vs[j]?=some v->PRel F w p v)/\
   (∃vs:Array qr,y=.agg vs/\z.length=vs.size/\∀ (j:Nat) (p:PVal) (v:qr),z[j]?=some p->vs[j]?=some v->PRel F w p v):=by
   intro Q;rcases J with⟨_,B⟩|⟨B,_⟩
   ·rcases G with⟨_,O⟩|⟨O,_⟩;all_goals simp_all
   simp_all
  rw[show D+(d+1)=(D+d)+1 from rfl];simp only[tzw]at h;split at h<;>rename_i k
  ·obtain⟨p,q,rfl,rfl,m,l⟩:=i (by simp[ezn,k]);simp at h;subst h;cases m<;>simp[fits,Oz7]at c
   cases l<;>simp[fits,Oz7]at b
   simp_all[ez1,Op.equalIn,zd]
  ·obtain⟨p,q,rfl,rfl,m,l⟩:=i (by simp[ezn,k]);simp at h;subst h;cases m<;>simp[fits,Oz7]at c
   cases l<;>simp[fits,Oz7]at b
   simp[ez1]at H;obtain⟨rfl,rfl⟩:=H;simp[Op.equalIn,zd k]
  ·obtain⟨p,q,rfl,rfl,m,l⟩:=i (by simp[ezn,k]);simp at h;subst h;cases m<;>simp[fits,Oz7]at c
   cases l<;>simp[fits,Oz7]at b
   simp_all[ez1,Op.equalIn,zd]
  ·rename_i n e;split at h
   ·rename_i N I;split at h
    ·rename_i A;simp only[qm,qf,qX]at A;obtain⟨⟨xs,rfl,E,f⟩,⟨C,rfl,a,g⟩⟩:=s (by simp[ezn,k]);obtain⟨L,hi,M⟩:=iz9 A.1;rw[run_equalIn_array w (D+d) xs C k hi,List.range_eq_range'];exact az6t (Qze d e N I D) (Qzg I) A.1 jt E a f g n 0 r jr jr jr
    grind
   grind
  ·rename_i K;split at h
   ·cases h
   ·obtain⟨⟨xs,rfl,E,f⟩,⟨C,rfl,a,g⟩⟩:=s (by simp[ezn,k]);have R:P.underlying t=some (.struct (P.fieldsOf t)):=by grind[Program.fieldsOf]
    have u:P.fieldsOf t=K:=jr
    rw[run_equalIn_struct w (D+d) t xs C R jr,u];exact az14 (λt o h=>⟨Qze d t o h D,Qzg h⟩) E a f g K.toList 0 o r h jr jr jr
  grind
theorem Mzn:∀ (d:Nat) (t:qq) (b:List Nat),tzw P d t=some b->∀D,d<=D->P.eqGuardType D t=false
 |0,_,_,h,_,_=>by simp[tzw]at h
 |d+1,t,b,h,0,p=>qa
 |d+1,t,b,h,D+1,p=>by
  simp only[tzw]at h;simp only[Program.eqGuardType];split at h<;>rename_i o<;>(try simp only[o])
  ·rename_i n e;split at h
   ·rename_i g k;exact Mzn d e g k D qa
   ·cases h
  ·split at h
   ·cases h
   ·rw[<-Array.any_toList]
    have:∀ (l:List Field) (off:Nat) (b:List Nat),Jzy P (tzw P d) l off=some b->(l.any λf=>f.name != "_" &&P.eqGuardType D f.type)=false:=by
     intro l;induction l with
     |nil=>simp
     |cons f l m=>
      intro off b a;simp only[Jzy]at a;split at a
      ·split at a
       ·rename_i g i;split at a
        ·split at a
         ·rename_i q j;simp[m _ _ j,Mzn d _ _ i D qa]
         ·cases a
        ·cases a
       ·cases a
      ·cases a
    exact this _ _ _ h
  ·cases h
end Go.Abs
